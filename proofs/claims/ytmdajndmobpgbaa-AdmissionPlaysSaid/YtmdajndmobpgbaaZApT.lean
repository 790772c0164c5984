/- The document's Start: the walk. Conditions: the admission is the program's, and good. -/
import Derived.Test.YtmdajndmobpgbaaZApS
import Derived.Test.YtmdajndmobpgbaaZApG
import Derived.Test.YtmdajndmobpgbaaZApL
import Derived.Test.YtmdajndmobpgbaaZHeld
import Derived.Deep.CutBlock
namespace Go.Proofs.Ytmdajndmobpgbaa
open Go.RowKit
open Go.Proofs.Ytmdajndmobpgbaa.Fq
open Go.Proofs.Ytmdajndmobpgbaa.Bk

/-- Within the first loop. -/
def RdR (w : World) (K : Nat → Prop) (bx rx g : Nat) (s : AS) (now : Int) (n : Nat) (vo : Value) (wr : World) : Prop :=
  ∃ s' o a q lv lva, StD w K bx rx g s.m q lv lva (docOf s') (asd s' a) o vo wr ∧ LOk s' a ∧ (∀ s1 o1 a1, SLoop now s' o a s1 o1 a1 → SLoop now s [] [] s1 o1 a1) ∧ o.length ≤ s'.run.length ∧ s'.m = s.m ∧ (256 - s'.run.length) + (16 - a.length) < n
/-- Behind it. -/
def RdC (w : World) (K : Nat → Prop) (bx rx g : Nat) (s : AS) (now : Int) (vo : Value) (wr : World) : Prop :=
  ∃ s1 o a q lv lva, StD w K bx rx g s.m q lv lva (docOf s1) (asd s1 a) o vo wr ∧ LOk s1 a ∧ SLoop now s [] [] s1 o a ∧ s1.m = s.m ∧ o.length ≤ 256
def RStartP (K : Nat → Prop) (s : AS) (now : Int) (w : World) (e : Ending) (w' : World) : Prop :=
  ∃ s1 o a q' lv' v, e = .returned (.tuple #[daV q' (docOf s1.back), v]) ∧ SLoop now s [] [] s1 o a ∧ IsI w' v o ∧ DAt (fun j => K j ∨ w.heap.size ≤ j) w' q' lv' (docOf s1.back) ∧ (∀ k, v.ownBlock = some k → w.heap.size ≤ k) ∧ Below w.heap.size w w'
theorem stJ_more {K : Nat → Prop} {w wx : World} {g : Nat} {vo : Value} (hw : w.heap.size ≤ wx.heap.size) (hg : g < wx.heap.size) (hv : ∀ k, vo.ownBlock = some k → k < wx.heap.size) : ∀ k, (StJ K w g vo k ∨ wx.heap.size ≤ k) → StJ K w g vo k := fun k hk => hk.elim (fun h => h) fun h => ⟨.inr (by omega), by omega, fun e => by have := hv k e; omega⟩
section
variable {K : Nat → Prop} {w : World} {lv : List Value} {s : AS} {ab aq ad al ar : Option Addr} {cb cq cd cl cr : Nat}
set_option maxRecDepth 100000 in
set_option maxHeartbeats 12800000 in
theorem rstart_ex (h : DAt K w ⟨.slice ab s.m cb, .slice aq s.m cq, .slice ad s.m cd, .slice al s.m cl, .slice ar s.run.length cr⟩ lv (docOf s)) (ok : AOk s) (now : Int) :
    Calls Try.prog 24 #[.agg #[.int .i64 s.slots, .slice ab s.m cb, .slice aq s.m cq, .slice ad s.m cd, .slice al s.m cl, .int .i64 s.f.cur, .bool s.f.begun, .slice ar s.run.length cr], .int .i64 now] w (RStartP K s now w) := by
  have hm16 : s.m ≤ 16 := by have := ok.g.m2; have := ok.lf; omega
  have hm1 : 1 ≤ s.m := by have := ok.g.m1; have := ok.lf; omega
  have HST : Hid (RdR w K w.heap.size (w.heap.size + 1) (w.heap.size + 2) s now 273 (.slice none 0 0) (((w.alloc (.cells #[.int .i64 s.slots, .slice ab s.m cb, .slice aq s.m cq, .slice ad s.m cd, .slice al s.m cl, .int .i64 s.f.cur, .bool s.f.begun, .slice ar s.run.length cr] 57)).alloc (.cells #[.int .i64 0, .slice none 0 0, .slice none 0 0, .slice none 0 0, .slice none 0 0, .int .i64 0, .bool false, .slice none 0 0] 57)).alloc (.cells (madeCells #[.slice none 0 0] s.m) 127))) := Lib.hid (by
    have h0 := StD.start h hm16
    have e : asd s [] = fun _ => [] := funext fun t => by simp [asd]
    rw [← e] at h0
    exact ⟨s, [], [], _, _, _, h0, ok, fun _ _ _ h => h, Nat.zero_le _, rfl, by show _ + (16 - 0) < 273; omega⟩)
  obtain ⟨_, hx0, _⟩ := two_boxes w #[.int .i64 s.slots, .slice ab s.m cb, .slice aq s.m cq, .slice ad s.m cd, .slice al s.m cl, .int .i64 s.f.cur, .bool s.f.begun, .slice ar s.run.length cr] #[.int .i64 0, .slice none 0 0, .slice none 0 0, .slice none 0 0, .slice none 0 0, .int .i64 0, .bool false, .slice none 0 0] 57
  have hmk := fun w => run_make_row' (P := Try.prog) 53 127 (.slice none 0 0) 24 Try.underlying53 (by kernel_rfl) rfl .i64 .i64 s.m (by omega) (by omega) w
  obtain ⟨_, _, ecb, hcb, hcb2, _⟩ := OL.shape (show OL w 114 5 (.slice ab s.m cb) (docOf s).bks.length _ from h.b)
  simp only [Value.slice.injEq] at ecb
  obtain ⟨-, -, rfl⟩ := ecb
  rw [docOf_len] at hcb
  clear h ok
  obtain ⟨bx, hbx⟩ : ∃ bx, w.heap.size = bx := ⟨_, rfl⟩
  obtain ⟨rx, hrx⟩ : ∃ rx, bx + 1 = rx := ⟨_, rfl⟩
  obtain ⟨g, hg⟩ : ∃ g, bx + 2 = g := ⟨_, rfl⟩
  have c1 := (has_cell hx0 1).trans (show _ = some (Value.slice ab s.m cb) from rfl)
  have hz : ((w.alloc (.cells #[.int .i64 s.slots, .slice ab s.m cb, .slice aq s.m cq, .slice ad s.m cd, .slice al s.m cl, .int .i64 s.f.cur, .bool s.f.begun, .slice ar s.run.length cr] 57)).alloc (.cells #[.int .i64 0, .slice none 0 0, .slice none 0 0, .slice none 0 0, .slice none 0 0, .int .i64 0, .bool false, .slice none 0 0] 57)).heap.size = g := by simp; omega
  rw [hbx, hrx, hg] at HST
  rw [hbx] at c1
  clear hx0
  go_enter Try.func24, Try.ntmps24
  go_upto_block 0 with fail
  clear c1 hz hmk hbx hrx hg hcb hcb2
  generalize ((w.alloc (.cells #[.int .i64 s.slots, .slice ab s.m cb, .slice aq s.m cq, .slice ad s.m cd, .slice al s.m cl, .int .i64 s.f.cur, .bool s.f.begun, .slice ar s.run.length cr] 57)).alloc (.cells #[.int .i64 0, .slice none 0 0, .slice none 0 0, .slice none 0 0, .slice none 0 0, .int .i64 0, .bool false, .slice none 0 0] 57)).alloc (.cells (madeCells #[.slice none 0 0] s.m) 127) = w1 at *
  go_cut [6] (fun vo wx => RdC w K bx rx g s now vo wx)
  case first =>
    go_wp2_with fail
    go_loopg [6] 273 (fun n vo wr => RdR w K bx rx g s now n vo wr)
    case atStart => exact HST.out
    case round =>
      clear HST
      obtain ⟨s', o, a, q, lv, lva, hF, hL, hlp, hol, hmm, hgk⟩ := hrel
      obtain ⟨vao, vcap, hov, _⟩ := OL.shape hF.v
      obtain ⟨ob, cb2, oq, cq2, od, cd2, ol, cl2, oR, cr2, hq, ⟨hcb, hcb2⟩, ⟨hcl, hcl2⟩, ⟨hcr, hcr2⟩⟩ := hF.d.shapes
      have hfm : (docOf s').f.m = s'.m := hL.lf
      rw [docOf_len, hfm, docOf_run, hmm] at hq
      rw [docOf_len, hmm] at hcb
      rw [hfm, hmm] at hcl
      rw [docOf_run] at hcr
      subst hq hov
      have F0 := Lib.hid hF
      have HLK := Lib.hid hL
      have HLP := Lib.hid hlp
      have HGK := Lib.hid hgk
      have HMM := Lib.hid hmm
      have hrl : s'.run.length ≤ 256 := by have := hL.rl; have := hL.s1; omega
      have hol2 : o.length ≤ 256 := by omega
      have hal := hL.alen
      have HOL := Lib.hid hol
      have HBO : Hid (wr.heap[bx]? = some (.cells #[.int .i64 s'.slots, .slice ob s.m cb2, .slice oq s.m cq2, .slice od s.m cd2, .slice ol s.m cl2, .int .i64 s'.f.cur, .bool s'.f.begun, .slice oR s'.run.length cr2] 57 (0, 0))) := Lib.hid hF.bo.o
      obtain ⟨⟨x0, x1, x2, x3, x4, x5, x6, x7⟩, _⟩ := get8 HBO.out
      clear hF hL hlp hol hgk hfm hmm
      by_cases hfull : (s'.run.length : Int) < s'.slots
      · have d0 : decide ((s'.run.length : Int) < s'.slots) = true := decide_eq_true hfull
        have HFU := Lib.hid hfull
        have CN : Hid (Calls Try.prog 52 #[.agg #[.slice oq s.m cq2, .slice od s.m cd2, .slice ol s.m cl2, .int .i64 s'.f.cur, .bool s'.f.begun]] wr (NextDP (StJ K w g (Value.slice vao o.length vcap)) s'.f wr)) := Lib.hid (rnext_any F0.out.d.f HLK.out.g fun t ht => by
          have := HLK.out.flen (t := t) (by rw [← HLK.out.lf]; exact ht)
          have : (s'.f.lst t).length ≤ 256 := this
          show (s'.f.lst t).length ≤ _
          omega)
        go_wp2_with fail
        clear x0 x1 x2 x3 x4 x5 x6 x7
        refine CN.out.mono ?_
        rintro e w2 (⟨hall, vq2, vd2, vl2, lv2, rfl, hr2, hb2⟩ | ⟨f1, en, r, hch, hln, vq2, vd2, vl2, lv2, rfl, hr2, hb2⟩)
        · have HNA := Lib.hid (anyB_false hall)
          obtain ⟨qo2, qc2, rfl, _⟩ := hr2.a.q.shape
          obtain ⟨eo2, ec2, rfl, _⟩ := hr2.a.d.shape
          obtain ⟨lo2, lc2, rfl, _⟩ := hr2.a.l.shape
          unfold rqV
          have HB3 := Lib.hid (hb2.trans (((Below.refl w2.heap.size w2).alloc (Nat.le_refl _) (.cells #[.slice qo2 s'.f.m qc2, .slice eo2 s'.f.m ec2, .slice lo2 s'.f.m lc2, .int .i64 s'.f.cur, .bool s'.f.begun] 55)).mono hb2.size))
          clear hall hr2 hb2 CN
          go_wp2_with fail
          go_meet
          case rel => exact ⟨s', o, a, _, _, _, F0.out.bel HB3.out, HLK.out, HLP.out _ _ _ (.none s' o a HFU.out HNA.out), HMM.out, by omega⟩
        · obtain ⟨qo2, qc2, rfl, _⟩ := hr2.a.q.shape
          obtain ⟨eo2, ec2, rfl, _⟩ := hr2.a.d.shape
          obtain ⟨lo2, lc2, rfl, _⟩ := hr2.a.l.shape
          unfold rqV
          obtain ⟨hcm, hca, hcq, hcf⟩ := HLK.out.cur hch hln
          have HCH := Lib.hid (And.intro hch (And.intro hln (And.intro hca (And.intro hcq hcf))))
          have HCM := Lib.hid hcm
          have HP1 := Lib.hid (HLK.out.price1 hcm hcq)
          have HPO := Lib.hid (price_of hcq)
          have hcs : f1.cur < s.m := by rw [← HMM.out]; exact hcm
          have HWR : Hid (w.heap.size ≤ wr.heap.size ∧ g < wr.heap.size ∧ ∀ k, (Value.slice vao o.length vcap).ownBlock = some k → k < wr.heap.size) := Lib.hid ⟨F0.out.bo.b.size, lt_of_block F0.out.g, fun k hk => OL.lt F0.out.v k hk⟩
          have hr2' := hr2.more (stJ_more HWR.out.1 HWR.out.2.1 HWR.out.2.2)
          have hba := (Below.refl w2.heap.size w2).alloc (Nat.le_refl _) (.cells #[.slice qo2 f1.pop.m qc2, .slice eo2 f1.pop.m ec2, .slice lo2 f1.pop.m lc2, .int .i64 f1.pop.cur, .bool f1.pop.begun] 55)
          have hqa := heap_alloc_new w2 (.cells #[.slice qo2 f1.pop.m qc2, .slice eo2 f1.pop.m ec2, .slice lo2 f1.pop.m lc2, .int .i64 f1.pop.cur, .bool f1.pop.begun] 55)
          have HR3 := Lib.hid (hr2'.bel hba)
          have HB3 := Lib.hid (hb2.trans (hba.mono hb2.size))
          clear hr2 hr2' hba hch hln hca hcq hcf hcm CN hb2
          go_upto_region 6 with fail
          obtain ⟨nb, hnb⟩ : ∃ nb, w2.heap.size = nb := ⟨_, rfl⟩
          rw [hnb] at hqa ⊢
          clear hnb
          generalize w2.alloc (.cells #[.slice qo2 f1.pop.m qc2, .slice eo2 f1.pop.m ec2, .slice lo2 f1.pop.m lc2, .int .i64 f1.pop.cur, .bool f1.pop.begun] 55) = w3 at *
          have HNB := Lib.hid hqa
          have F3 := Lib.hid (F0.out.bel HB3.out)
          clear hqa HB3
          -- price and Take
          obtain ⟨gb, obf, gl, olf, bo0, c0', rfl, rfl, ⟨b0, b1, b2, b3, b4⟩, l0, hlc, hlc2⟩ := F3.out.d.bucket (m := s.m) rfl rfl (by rw [docOf_len, HMM.out]) (HLK.out.lf.trans HMM.out) hcs (docOf_get HCM.out)
          have hx3 : w3.heap[bx]? = some (.cells #[.int .i64 s'.slots, .slice (some ⟨gb, obf, none⟩) s.m cb2, .slice oq s.m cq2, .slice od s.m cd2, .slice (some ⟨gl, olf, none⟩) s.m cl2, .int .i64 s'.f.cur, .bool s'.f.begun, .slice oR s'.run.length cr2] 57 (0, 0)) := F3.out.bo.o
          have HX3 := Lib.hid hx3
          unfold dbOf at b0 b1 b2 b3 b4
          dsimp only at b0 b1 b2 b3 b4
          have CPR : Hid (∀ wx, Below w3.heap.size w3 wx → Calls Try.prog 54 #[.agg #[.int .i64 s'.slots, .slice (some ⟨gb, obf, none⟩) s.m cb2, .slice oq s.m cq2, .slice od s.m cd2, .slice (some ⟨gl, olf, none⟩) s.m cl2, .int .i64 s'.f.cur, .bool s'.f.begun, .slice oR s'.run.length cr2], .int .i64 f1.cur] wx fun e w' => e = .returned (.int .i64 (priceOf s' f1.cur)) ∧ Below wx.heap.size wx w') := Lib.hid fun wx hb => by
            have := rprice_any (F3.out.d.bel hb) (t := f1.cur) (by rw [show (docOf s').f.m = s.m from HLK.out.lf.trans HMM.out]; omega) (by rw [docOf_len]; exact HLK.out.lf.symm) (by rw [show (docOf s').f.m = s.m from HLK.out.lf.trans HMM.out]; exact hcs) (e := en) (r := r) HCH.out.2.2.2.2
            rw [docOf_get HCM.out, show (dbOf s' f1.cur).b = (s'.shr f1.cur).b from rfl, ← HPO.out] at this
            exact this
          have CTK := Lib.hid (fun (wx : World) => rtake_any (HLK.out.bok f1.cur HCM.out) now (priceOf s' f1.cur) HP1.out wx)
          unfold bkV bkA at CTK
          have HTP : Hid (Hid (s'.takes f1.cur now = takeOk (s'.shr f1.cur).b (s'.shr f1.cur).t (s'.shr f1.cur).k (s'.bkt f1.cur).1 (s'.bkt f1.cur).2 now (priceOf s' f1.cur)) ∧ (docOf (s'.took f1.cur now)).bks = (docOf s').bks.set f1.cur ⟨(s'.shr f1.cur).b, (s'.shr f1.cur).t, (s'.shr f1.cur).k, takeP (s'.shr f1.cur).b (s'.shr f1.cur).t (s'.shr f1.cur).k (s'.bkt f1.cur).1 (s'.bkt f1.cur).2 now (priceOf s' f1.cur), takeL (s'.bkt f1.cur).2 now (priceOf s' f1.cur)⟩) := Lib.hid ⟨Lib.hid rfl, docOf_took HLK.out HCM.out now⟩
          have HS : Hid (∀ wx, Below w3.heap.size w3 wx → (wx.cell? ⟨bx, 0, none⟩ = some (.int .i64 s'.slots) ∧ wx.cell? ⟨bx, 1, none⟩ = some (.slice (some ⟨gb, obf, none⟩) s.m cb2) ∧ wx.cell? ⟨bx, 2, none⟩ = some (.slice oq s.m cq2) ∧ wx.cell? ⟨bx, 3, none⟩ = some (.slice od s.m cd2) ∧ wx.cell? ⟨bx, 4, none⟩ = some (.slice (some ⟨gl, olf, none⟩) s.m cl2) ∧ wx.cell? ⟨bx, 5, none⟩ = some (.int .i64 s'.f.cur) ∧ wx.cell? ⟨bx, 6, none⟩ = some (.bool s'.f.begun) ∧ wx.cell? ⟨bx, 7, none⟩ = some (.slice oR s'.run.length cr2)) ∧ (wx.cell? ⟨gb, obf + f1.cur * 5, none⟩ = some (.int .i64 (s'.shr f1.cur).b) ∧ wx.cell? ⟨gb, obf + f1.cur * 5 + 1, none⟩ = some (.int .i64 (s'.shr f1.cur).t) ∧ wx.cell? ⟨gb, obf + f1.cur * 5 + 2, none⟩ = some (.int .i64 (s'.shr f1.cur).k) ∧ wx.cell? ⟨gb, obf + f1.cur * 5 + 3, none⟩ = some (.int .i64 (s'.bkt f1.cur).1) ∧ wx.cell? ⟨gb, obf + f1.cur * 5 + 4, none⟩ = some (.int .i64 (s'.bkt f1.cur).2))) := Lib.hid fun wx hb =>
            ⟨(get8 ((hb.block _ (lt_of_block HX3.out)).trans HX3.out)).1, below_cell hb b0, below_cell hb b1, below_cell hb b2, below_cell hb b3, below_cell hb b4⟩
          clear b0 b1 b2 b3 b4 l0 hlc hlc2 hx3
          generalize (s'.shr f1.cur).b = B at *
          generalize (s'.shr f1.cur).t = T at *
          generalize (s'.shr f1.cur).k = KK at *
          generalize (s'.bkt f1.cur).1 = P at *
          generalize (s'.bkt f1.cur).2 = L at *
          generalize hpr : priceOf s' f1.cur = p at *
          clear hpr
          have tI : (f1.cur : Int) < (s.m : Int) := by omega
          have tI0 : (0 : Int) ≤ (f1.cur : Int) := by omega
          go_cut [12, 13] (fun bp okv wx => ∃ tb, bp = .pointer (some ⟨tb, 0, none⟩) ∧ okv = .bool (takeOk B T KK P L now p) ∧ wx.heap[tb]? = some (.cells #[.int .i64 B, .int .i64 T, .int .i64 KK, .int .i64 (takeP B T KK P L now p), .int .i64 (takeL L now p)] 114 (0, 0)) ∧ Below w3.heap.size w3 wx)
          case first =>
            have hH := HS.out _ (below_drew _ w3)
            refine wp_region_held_drew (S := (fun wx : World => (wx.cell? ⟨bx, 0, none⟩ = some (.int .i64 s'.slots) ∧ wx.cell? ⟨bx, 1, none⟩ = some (.slice (some ⟨gb, obf, none⟩) s.m cb2) ∧ wx.cell? ⟨bx, 2, none⟩ = some (.slice oq s.m cq2) ∧ wx.cell? ⟨bx, 3, none⟩ = some (.slice od s.m cd2) ∧ wx.cell? ⟨bx, 4, none⟩ = some (.slice (some ⟨gl, olf, none⟩) s.m cl2) ∧ wx.cell? ⟨bx, 5, none⟩ = some (.int .i64 s'.f.cur) ∧ wx.cell? ⟨bx, 6, none⟩ = some (.bool s'.f.begun) ∧ wx.cell? ⟨bx, 7, none⟩ = some (.slice oR s'.run.length cr2)) ∧ (wx.cell? ⟨gb, obf + f1.cur * 5, none⟩ = some (.int .i64 B) ∧ wx.cell? ⟨gb, obf + f1.cur * 5 + 1, none⟩ = some (.int .i64 T) ∧ wx.cell? ⟨gb, obf + f1.cur * 5 + 2, none⟩ = some (.int .i64 KK) ∧ wx.cell? ⟨gb, obf + f1.cur * 5 + 3, none⟩ = some (.int .i64 P) ∧ wx.cell? ⟨gb, obf + f1.cur * 5 + 4, none⟩ = some (.int .i64 L)))) (by kernel_rfl) ((HS.out w3 (Below.refl _ _))) (fun hH => ?_)
            obtain ⟨w5, hw5⟩ : ∃ w5, w5 = w3.drew := ⟨_, rfl⟩
            have HB5 : Hid (Below w3.heap.size w3 w5) := Lib.hid (by rw [hw5]; exact below_drew _ _)
            have HBX := Lib.hid (Below.refl w5.heap.size w5)
            rw [← hw5] at hH ⊢
            clear hw5
            refine wpAnyH_take (i := 0) (v := ?_) rfl (by kernel_rfl) (by kernel_rfl) (by kernel_rfl) (fun _ _ _ h => h) (Or.inl ⟨by rfl, ?_⟩) hH ?_
            rotate_left
            · intro w hSw
              go_simp
              with_reducible rfl
            try simp only [List.getElem_toArray, List.getElem_cons_zero, Act.put, List.setIfInBounds_toArray, List.set_cons_zero, List.set_cons_succ]
            refine wpAnyH_take (i := 1) (v := ?_) rfl (by kernel_rfl) (by kernel_rfl) (by kernel_rfl) (fun _ _ _ h => h) (Or.inl ⟨by rfl, ?_⟩) hH ?_
            rotate_left
            · intro w hSw
              go_simp
              with_reducible rfl
            try simp only [List.getElem_toArray, List.getElem_cons_succ, List.getElem_cons_zero, Act.put, List.setIfInBounds_toArray, List.set_cons_zero, List.set_cons_succ]
            refine wpAnyH_take (i := 2) (v := ?_) rfl (by kernel_rfl) (by kernel_rfl) (by kernel_rfl) (fun _ _ _ h => h) (Or.inl ⟨by rfl, ?_⟩) hH ?_
            rotate_left
            · intro w hSw
              go_simp
              with_reducible rfl
            try simp only [List.getElem_toArray, List.getElem_cons_succ, List.getElem_cons_zero, Act.put, List.setIfInBounds_toArray, List.set_cons_zero, List.set_cons_succ]
            refine wpAnyH_take (i := 3) (v := ?_) rfl (by kernel_rfl) (by kernel_rfl) (by kernel_rfl) (fun _ _ _ h => h) (Or.inl ⟨by rfl, ?_⟩) hH ?_
            rotate_left
            · intro w hSw
              go_simp
              with_reducible rfl
            try simp only [List.getElem_toArray, List.getElem_cons_succ, List.getElem_cons_zero, Act.put, List.setIfInBounds_toArray, List.set_cons_zero, List.set_cons_succ]
            refine wpAnyH_take (i := 4) (v := ?_) rfl (by kernel_rfl) (by kernel_rfl) (by kernel_rfl) (fun _ _ _ h => h) (Or.inl ⟨by rfl, ?_⟩) hH ?_
            rotate_left
            · intro w hSw
              go_simp
              with_reducible rfl
            try simp only [List.getElem_toArray, List.getElem_cons_succ, List.getElem_cons_zero, Act.put, List.setIfInBounds_toArray, List.set_cons_zero, List.set_cons_succ]
            refine wpAnyH_take (i := 5) (v := ?_) rfl (by kernel_rfl) (by kernel_rfl) (by kernel_rfl) (fun _ _ _ h => h) (Or.inl ⟨by rfl, ?_⟩) hH ?_
            rotate_left
            · intro w hSw
              go_simp
              with_reducible rfl
            try simp only [List.getElem_toArray, List.getElem_cons_succ, List.getElem_cons_zero, Act.put, List.setIfInBounds_toArray, List.set_cons_zero, List.set_cons_succ]
            refine wpAnyH_take (i := 6) (v := ?_) rfl (by kernel_rfl) (by kernel_rfl) (by kernel_rfl) (fun _ _ _ h => h) (Or.inl ⟨by rfl, ?_⟩) hH ?_
            rotate_left
            · intro w hSw
              go_simp
              with_reducible rfl
            try simp only [List.getElem_toArray, List.getElem_cons_succ, List.getElem_cons_zero, Act.put, List.setIfInBounds_toArray, List.set_cons_zero, List.set_cons_succ]
            refine wpAnyH_take (i := 7) (v := ?_) rfl (by kernel_rfl) (by kernel_rfl) (by kernel_rfl) (fun _ _ _ h => h) (Or.inl ⟨by rfl, ?_⟩) hH ?_
            rotate_left
            · intro w hSw
              go_simp
              with_reducible rfl
            try simp only [List.getElem_toArray, List.getElem_cons_succ, List.getElem_cons_zero, Act.put, List.setIfInBounds_toArray, List.set_cons_zero, List.set_cons_succ]
            refine wpAnyH_ready (rs := [8, 13]) (by kernel_rfl) (by simp) ?_
            refine AllReadyH.cons rfl (fun K hK => ?_) (AllReadyH.cons rfl (fun K hK => ?_) (AllReadyH.nil))
            · skip
              go_simp
              refine (CPR.out w5 (HB5.out.trans (HBX.out.mono HB5.out.size))).mono ?_
              rintro e wo0 ⟨rfl, hbX⟩
              go_simp
              try have F13 := Lib.hid ((hbX.block _ (lt_of_block F13.out)).trans F13.out)
              have HBX := Lib.hid (HBX.out.trans (hbX.mono HBX.out.size))
              refine hK.out _ _ (HS.out wo0 (HB5.out.trans (HBX.out.mono HB5.out.size))) (fun hHwo0 => ?_)
              clear hK K hbX
              refine wpAnyH_ready (rs := [9, 13]) (by kernel_rfl) (by simp) ?_
              refine AllReadyH.cons rfl (fun K hK => ?_) (AllReadyH.cons rfl (fun K hK => ?_) (AllReadyH.nil))
              · skip
                go_simp
                refine (CTK.out wo0).mono ?_
                rintro e wo1 ⟨rfl, hbX⟩
                go_simp
                try have F13 := Lib.hid ((hbX.block _ (lt_of_block F13.out)).trans F13.out)
                have HBX := Lib.hid (HBX.out.trans (hbX.mono HBX.out.size))
                refine hK.out _ _ (HS.out wo1 (HB5.out.trans (HBX.out.mono HB5.out.size))) (fun hHwo1 => ?_)
                clear hK K hbX
                refine wpAnyH_take (i := 10) (v := ?_) rfl (by kernel_rfl) (by kernel_rfl) (by kernel_rfl) (fun _ _ _ h => h) (Or.inl ⟨by rfl, ?_⟩) hHwo1 ?_
                rotate_left
                · intro w hSw
                  go_simp
                  with_reducible rfl
                try simp only [List.getElem_toArray, List.getElem_cons_succ, List.getElem_cons_zero, Act.put, List.setIfInBounds_toArray, List.set_cons_zero, List.set_cons_succ]
                refine wpAnyH_take (i := 11) (v := ?_) rfl (by kernel_rfl) (by kernel_rfl) (by kernel_rfl) (fun _ _ _ h => h) (Or.inl ⟨by rfl, ?_⟩) hHwo1 ?_
                rotate_left
                · intro w hSw
                  go_simp
                  with_reducible rfl
                try simp only [List.getElem_toArray, List.getElem_cons_succ, List.getElem_cons_zero, Act.put, List.setIfInBounds_toArray, List.set_cons_zero, List.set_cons_succ]
                refine wpAnyH_take (i := 12) (v := ?_) rfl (by kernel_rfl) (by kernel_rfl) (by kernel_rfl) (fun _ _ _ h => h) (Or.inl ⟨by rfl, ?_⟩) hHwo1 ?_
                rotate_left
                · intro w hSw
                  go_simp
                  with_reducible rfl
                try simp only [List.getElem_toArray, List.getElem_cons_succ, List.getElem_cons_zero, Act.put, List.setIfInBounds_toArray, List.set_cons_zero, List.set_cons_succ]
                refine wpAnyH_ready (rs := [13]) (by kernel_rfl) (by simp) ?_
                refine AllReadyH.cons rfl (fun K hK => ?_) (AllReadyH.nil)
                go_simp
                have hbX := (Below.refl wo1.heap.size wo1).alloc (Nat.le_refl _) (.cells #[.int .i64 0, .int .i64 0, .int .i64 0, .int .i64 0, .int .i64 0] 114)
                have hqX := heap_alloc_new wo1 (.cells #[.int .i64 0, .int .i64 0, .int .i64 0, .int .i64 0, .int .i64 0] 114)
                obtain ⟨gb13, hgX⟩ : ∃ g, wo1.heap.size = g := ⟨_, rfl⟩
                have HGE13 : Hid (w5.heap.size ≤ gb13) := Lib.hid (by have := HBX.out.size; omega)
                rw [hgX] at hqX ⊢
                clear hgX
                generalize wo1.alloc (.cells #[.int .i64 0, .int .i64 0, .int .i64 0, .int .i64 0, .int .i64 0] 114) = wo2 at *
                have F13 := Lib.hid (hqX)
                have HBX := Lib.hid (HBX.out.trans (hbX.mono HBX.out.size))
                refine hK.out _ _ ((HS.out wo2 (HB5.out.trans (HBX.out.mono HB5.out.size)))) (fun hHwo2 => ?_)
                clear hK K hbX hqX
                refine wpAnyH_ready (rs := [14]) (by kernel_rfl) (by simp) ?_
                refine AllReadyH.cons rfl (fun K hK => ?_) (AllReadyH.nil)
                obtain ⟨⟨y0, y1, y2, y3, y4⟩, z0, z1, z2, z3, z4⟩ := row5 F13.out
                go_simp
                have hs5 := set5 F13.out (.int .i64 B) (.int .i64 T) (.int .i64 KK) (.int .i64 (takeP B T KK P L now p)) (.int .i64 (takeL L now p))
                have F14 := Lib.hid hs5.1
                have HBX := Lib.hid (hs5.2.2 _ _ HGE13.out HBX.out)
                clear hs5 y0 y1 y2 y3 y4 z0 z1 z2 z3 z4
                generalize (((((wo2.setCell ⟨gb13, 0, none⟩ (.int .i64 B)).setCell ⟨gb13, 1, none⟩ (.int .i64 T)).setCell ⟨gb13, 2, none⟩ (.int .i64 KK)).setCell ⟨gb13, 3, none⟩ (.int .i64 (takeP B T KK P L now p))).setCell ⟨gb13, 4, none⟩ (.int .i64 (takeL L now p))) = wo3 at *
                refine hK.out _ _ (HS.out wo3 (HB5.out.trans (HBX.out.mono HB5.out.size))) (fun hHwo3 => ?_)
                clear hK K
                refine wpAnyH_take (i := 15) (v := ?_) rfl (by kernel_rfl) (by kernel_rfl) (by kernel_rfl) (fun _ _ _ h => h) (Or.inl ⟨by rfl, ?_⟩) hHwo3 ?_
                rotate_left
                · intro w hSw
                  go_simp
                  with_reducible rfl
                try simp only [List.getElem_toArray, List.getElem_cons_succ, List.getElem_cons_zero, Act.put, List.setIfInBounds_toArray, List.set_cons_zero, List.set_cons_succ]
                refine wpAnyH_done (by kernel_rfl) ?_ _
                clear hHwo3
                have HN := Lib.hid (And.intro F14.out (HB5.out.trans (HBX.out.mono HB5.out.size)))
                clear HBX F13 F14
                go_wp2_with fail
                go_meet
                case rel => exact ⟨gb13, rfl, rfl, HN.out.1, HN.out.2⟩
              · skip
                go_simp
                have hbX := (Below.refl wo0.heap.size wo0).alloc (Nat.le_refl _) (.cells #[.int .i64 0, .int .i64 0, .int .i64 0, .int .i64 0, .int .i64 0] 114)
                have hqX := heap_alloc_new wo0 (.cells #[.int .i64 0, .int .i64 0, .int .i64 0, .int .i64 0, .int .i64 0] 114)
                obtain ⟨gb13, hgX⟩ : ∃ g, wo0.heap.size = g := ⟨_, rfl⟩
                have HGE13 : Hid (w5.heap.size ≤ gb13) := Lib.hid (by have := HBX.out.size; omega)
                rw [hgX] at hqX ⊢
                clear hgX
                generalize wo0.alloc (.cells #[.int .i64 0, .int .i64 0, .int .i64 0, .int .i64 0, .int .i64 0] 114) = wo1 at *
                have F13 := Lib.hid (hqX)
                have HBX := Lib.hid (HBX.out.trans (hbX.mono HBX.out.size))
                refine hK.out _ _ ((HS.out wo1 (HB5.out.trans (HBX.out.mono HB5.out.size)))) (fun hHwo1 => ?_)
                clear hK K hbX hqX
                refine wpAnyH_ready (rs := [9]) (by kernel_rfl) (by simp) ?_
                refine AllReadyH.cons rfl (fun K hK => ?_) (AllReadyH.nil)
                go_simp
                refine (CTK.out wo1).mono ?_
                rintro e wo2 ⟨rfl, hbX⟩
                go_simp
                try have F13 := Lib.hid ((hbX.block _ (lt_of_block F13.out)).trans F13.out)
                have HBX := Lib.hid (HBX.out.trans (hbX.mono HBX.out.size))
                refine hK.out _ _ (HS.out wo2 (HB5.out.trans (HBX.out.mono HB5.out.size))) (fun hHwo2 => ?_)
                clear hK K hbX
                refine wpAnyH_take (i := 10) (v := ?_) rfl (by kernel_rfl) (by kernel_rfl) (by kernel_rfl) (fun _ _ _ h => h) (Or.inl ⟨by rfl, ?_⟩) hHwo2 ?_
                rotate_left
                · intro w hSw
                  go_simp
                  with_reducible rfl
                try simp only [List.getElem_toArray, List.getElem_cons_succ, List.getElem_cons_zero, Act.put, List.setIfInBounds_toArray, List.set_cons_zero, List.set_cons_succ]
                refine wpAnyH_take (i := 11) (v := ?_) rfl (by kernel_rfl) (by kernel_rfl) (by kernel_rfl) (fun _ _ _ h => h) (Or.inl ⟨by rfl, ?_⟩) hHwo2 ?_
                rotate_left
                · intro w hSw
                  go_simp
                  with_reducible rfl
                try simp only [List.getElem_toArray, List.getElem_cons_succ, List.getElem_cons_zero, Act.put, List.setIfInBounds_toArray, List.set_cons_zero, List.set_cons_succ]
                refine wpAnyH_take (i := 12) (v := ?_) rfl (by kernel_rfl) (by kernel_rfl) (by kernel_rfl) (fun _ _ _ h => h) (Or.inl ⟨by rfl, ?_⟩) hHwo2 ?_
                rotate_left
                · intro w hSw
                  go_simp
                  with_reducible rfl
                try simp only [List.getElem_toArray, List.getElem_cons_succ, List.getElem_cons_zero, Act.put, List.setIfInBounds_toArray, List.set_cons_zero, List.set_cons_succ]
                refine wpAnyH_ready (rs := [14]) (by kernel_rfl) (by simp) ?_
                refine AllReadyH.cons rfl (fun K hK => ?_) (AllReadyH.nil)
                obtain ⟨⟨y0, y1, y2, y3, y4⟩, z0, z1, z2, z3, z4⟩ := row5 F13.out
                go_simp
                have hs5 := set5 F13.out (.int .i64 B) (.int .i64 T) (.int .i64 KK) (.int .i64 (takeP B T KK P L now p)) (.int .i64 (takeL L now p))
                have F14 := Lib.hid hs5.1
                have HBX := Lib.hid (hs5.2.2 _ _ HGE13.out HBX.out)
                clear hs5 y0 y1 y2 y3 y4 z0 z1 z2 z3 z4
                generalize (((((wo2.setCell ⟨gb13, 0, none⟩ (.int .i64 B)).setCell ⟨gb13, 1, none⟩ (.int .i64 T)).setCell ⟨gb13, 2, none⟩ (.int .i64 KK)).setCell ⟨gb13, 3, none⟩ (.int .i64 (takeP B T KK P L now p))).setCell ⟨gb13, 4, none⟩ (.int .i64 (takeL L now p))) = wo3 at *
                refine hK.out _ _ (HS.out wo3 (HB5.out.trans (HBX.out.mono HB5.out.size))) (fun hHwo3 => ?_)
                clear hK K
                refine wpAnyH_take (i := 15) (v := ?_) rfl (by kernel_rfl) (by kernel_rfl) (by kernel_rfl) (fun _ _ _ h => h) (Or.inl ⟨by rfl, ?_⟩) hHwo3 ?_
                rotate_left
                · intro w hSw
                  go_simp
                  with_reducible rfl
                try simp only [List.getElem_toArray, List.getElem_cons_succ, List.getElem_cons_zero, Act.put, List.setIfInBounds_toArray, List.set_cons_zero, List.set_cons_succ]
                refine wpAnyH_done (by kernel_rfl) ?_ _
                clear hHwo3
                have HN := Lib.hid (And.intro F14.out (HB5.out.trans (HBX.out.mono HB5.out.size)))
                clear HBX F13 F14
                go_wp2_with fail
                go_meet
                case rel => exact ⟨gb13, rfl, rfl, HN.out.1, HN.out.2⟩
            · skip
              go_simp
              have hbX := (Below.refl w5.heap.size w5).alloc (Nat.le_refl _) (.cells #[.int .i64 0, .int .i64 0, .int .i64 0, .int .i64 0, .int .i64 0] 114)
              have hqX := heap_alloc_new w5 (.cells #[.int .i64 0, .int .i64 0, .int .i64 0, .int .i64 0, .int .i64 0] 114)
              obtain ⟨gb13, hgX⟩ : ∃ g, w5.heap.size = g := ⟨_, rfl⟩
              have HGE13 : Hid (w5.heap.size ≤ gb13) := Lib.hid (by have := HBX.out.size; omega)
              rw [hgX] at hqX ⊢
              clear hgX
              generalize w5.alloc (.cells #[.int .i64 0, .int .i64 0, .int .i64 0, .int .i64 0, .int .i64 0] 114) = wo0 at *
              have F13 := Lib.hid (hqX)
              have HBX := Lib.hid (HBX.out.trans (hbX.mono HBX.out.size))
              refine hK.out _ _ ((HS.out wo0 (HB5.out.trans (HBX.out.mono HB5.out.size)))) (fun hHwo0 => ?_)
              clear hK K hbX hqX
              refine wpAnyH_ready (rs := [8]) (by kernel_rfl) (by simp) ?_
              refine AllReadyH.cons rfl (fun K hK => ?_) (AllReadyH.nil)
              go_simp
              refine (CPR.out wo0 (HB5.out.trans (HBX.out.mono HB5.out.size))).mono ?_
              rintro e wo1 ⟨rfl, hbX⟩
              go_simp
              try have F13 := Lib.hid ((hbX.block _ (lt_of_block F13.out)).trans F13.out)
              have HBX := Lib.hid (HBX.out.trans (hbX.mono HBX.out.size))
              refine hK.out _ _ (HS.out wo1 (HB5.out.trans (HBX.out.mono HB5.out.size))) (fun hHwo1 => ?_)
              clear hK K hbX
              refine wpAnyH_ready (rs := [9]) (by kernel_rfl) (by simp) ?_
              refine AllReadyH.cons rfl (fun K hK => ?_) (AllReadyH.nil)
              go_simp
              refine (CTK.out wo1).mono ?_
              rintro e wo2 ⟨rfl, hbX⟩
              go_simp
              try have F13 := Lib.hid ((hbX.block _ (lt_of_block F13.out)).trans F13.out)
              have HBX := Lib.hid (HBX.out.trans (hbX.mono HBX.out.size))
              refine hK.out _ _ (HS.out wo2 (HB5.out.trans (HBX.out.mono HB5.out.size))) (fun hHwo2 => ?_)
              clear hK K hbX
              refine wpAnyH_take (i := 10) (v := ?_) rfl (by kernel_rfl) (by kernel_rfl) (by kernel_rfl) (fun _ _ _ h => h) (Or.inl ⟨by rfl, ?_⟩) hHwo2 ?_
              rotate_left
              · intro w hSw
                go_simp
                with_reducible rfl
              try simp only [List.getElem_toArray, List.getElem_cons_succ, List.getElem_cons_zero, Act.put, List.setIfInBounds_toArray, List.set_cons_zero, List.set_cons_succ]
              refine wpAnyH_take (i := 11) (v := ?_) rfl (by kernel_rfl) (by kernel_rfl) (by kernel_rfl) (fun _ _ _ h => h) (Or.inl ⟨by rfl, ?_⟩) hHwo2 ?_
              rotate_left
              · intro w hSw
                go_simp
                with_reducible rfl
              try simp only [List.getElem_toArray, List.getElem_cons_succ, List.getElem_cons_zero, Act.put, List.setIfInBounds_toArray, List.set_cons_zero, List.set_cons_succ]
              refine wpAnyH_take (i := 12) (v := ?_) rfl (by kernel_rfl) (by kernel_rfl) (by kernel_rfl) (fun _ _ _ h => h) (Or.inl ⟨by rfl, ?_⟩) hHwo2 ?_
              rotate_left
              · intro w hSw
                go_simp
                with_reducible rfl
              try simp only [List.getElem_toArray, List.getElem_cons_succ, List.getElem_cons_zero, Act.put, List.setIfInBounds_toArray, List.set_cons_zero, List.set_cons_succ]
              refine wpAnyH_ready (rs := [14]) (by kernel_rfl) (by simp) ?_
              refine AllReadyH.cons rfl (fun K hK => ?_) (AllReadyH.nil)
              obtain ⟨⟨y0, y1, y2, y3, y4⟩, z0, z1, z2, z3, z4⟩ := row5 F13.out
              go_simp
              have hs5 := set5 F13.out (.int .i64 B) (.int .i64 T) (.int .i64 KK) (.int .i64 (takeP B T KK P L now p)) (.int .i64 (takeL L now p))
              have F14 := Lib.hid hs5.1
              have HBX := Lib.hid (hs5.2.2 _ _ HGE13.out HBX.out)
              clear hs5 y0 y1 y2 y3 y4 z0 z1 z2 z3 z4
              generalize (((((wo2.setCell ⟨gb13, 0, none⟩ (.int .i64 B)).setCell ⟨gb13, 1, none⟩ (.int .i64 T)).setCell ⟨gb13, 2, none⟩ (.int .i64 KK)).setCell ⟨gb13, 3, none⟩ (.int .i64 (takeP B T KK P L now p))).setCell ⟨gb13, 4, none⟩ (.int .i64 (takeL L now p))) = wo3 at *
              refine hK.out _ _ (HS.out wo3 (HB5.out.trans (HBX.out.mono HB5.out.size))) (fun hHwo3 => ?_)
              clear hK K
              refine wpAnyH_take (i := 15) (v := ?_) rfl (by kernel_rfl) (by kernel_rfl) (by kernel_rfl) (fun _ _ _ h => h) (Or.inl ⟨by rfl, ?_⟩) hHwo3 ?_
              rotate_left
              · intro w hSw
                go_simp
                with_reducible rfl
              try simp only [List.getElem_toArray, List.getElem_cons_succ, List.getElem_cons_zero, Act.put, List.setIfInBounds_toArray, List.set_cons_zero, List.set_cons_succ]
              refine wpAnyH_done (by kernel_rfl) ?_ _
              clear hHwo3
              have HN := Lib.hid (And.intro F14.out (HB5.out.trans (HBX.out.mono HB5.out.size)))
              clear HBX F13 F14
              go_wp2_with fail
              go_meet
              case rel => exact ⟨gb13, rfl, rfl, HN.out.1, HN.out.2⟩
          case rest =>
            obtain ⟨tb, rfl, rfl, hT, hb⟩ := hcut
            have HTB := Lib.hid hT
            have F4 := Lib.hid (F3.out.bel hb)
            have HR4 := Lib.hid (HR3.out.bel hb)
            have HNB4 := Lib.hid ((hb.block nb (lt_of_block HNB.out)).trans HNB.out)
            clear hT hb F3 HR3 HNB HS CPR CTK HX3
            have HX4 : Hid (wc.heap[bx]? = some (.cells #[.int .i64 s'.slots, .slice (some ⟨gb, obf, none⟩) s.m cb2, .slice oq s.m cq2, .slice od s.m cd2, .slice (some ⟨gl, olf, none⟩) s.m cl2, .int .i64 s'.f.cur, .bool s'.f.begun, .slice oR s'.run.length cr2] 57 (0, 0))) := Lib.hid F4.out.bo.o
            obtain ⟨⟨x0, x1, x2, x3, x4, x5, x6, x7⟩, _⟩ := get8 HX4.out
            obtain ⟨⟨y0, y1, y2, y3, y4⟩, _⟩ := row5 HTB.out
            have CW : Hid (Calls Try.prog 55 #[.slice (some ⟨gb, obf, none⟩) s.m cb2, .int .i64 f1.cur, .agg #[.int .i64 B, .int .i64 T, .int .i64 KK, .int .i64 (takeP B T KK P L now p), .int .i64 (takeL L now p)]] wc (WithP ((docOf (s'.took f1.cur now)).bks) wc)) := Lib.hid (by
              have := rwith_any (nb := s.m) F4.out.d.b (by rw [docOf_len, HMM.out]) (by omega) hcs ⟨B, T, KK, takeP B T KK P L now p, takeL L now p⟩
              rw [← HTP.out.2] at this
              exact this)
            have HTQ := Lib.hid HTP.out.1
            clear HTP
            generalize takeP B T KK P L now p = P2 at *
            generalize takeL L now p = L2 at *
            generalize takeOk B T KK P L now p = okv at *
            go_wp2_with fail
            refine CW.out.mono ?_
            rintro e w5 ⟨v, rfl, hrow, hvk, hb5⟩
            have hbl : (docOf (s'.took f1.cur now)).bks.length = s.m := (docOf_len _).trans HMM.out
            obtain ⟨vo2, vc2, hv, hvc, hvc2, _⟩ := OL.shape (show OL w5 114 5 v _ _ from hrow)
            rw [hbl] at hv hvc
            subst hv
            have F5 := Lib.hid (F4.out.bel hb5)
            have HR5 := Lib.hid (HR4.out.bel hb5)
            have HNB5 := Lib.hid ((hb5.block nb (lt_of_block HNB4.out)).trans HNB4.out)
            have F6 : Hid (StD w K bx rx g s.m ⟨.slice vo2 s.m vc2, .slice oq s.m cq2, .slice od s.m cd2, .slice (some ⟨gl, olf, none⟩) s.m cl2, .slice oR s'.run.length cr2⟩ lv lva (docOf (s'.took f1.cur now)) (asd s' a) o (Value.slice vao o.length vcap) (w5.setCell ⟨bx, 1, none⟩ (.slice vo2 s.m vc2))) := Lib.hid (F5.out.bks hrow (fun k hk => Nat.le_trans F4.out.bo.b.size (hvk k hk)))
            have HR6 := Lib.hid (HR5.out.cellB F5.out.bo.o 1 (.slice vo2 s.m vc2))
            have HNB6 : Hid ((w5.setCell ⟨bx, 1, none⟩ (.slice vo2 s.m vc2)).heap[nb]? = some (.cells #[.slice qo2 f1.pop.m qc2, .slice eo2 f1.pop.m ec2, .slice lo2 f1.pop.m lc2, .int .i64 f1.pop.cur, .bool f1.pop.begun] 55 (0, 0))) := Lib.hid ((Below.heap_setCell _ _ _ _ (type_ne HNB5.out F5.out.bo.o (by decide))).trans HNB5.out)
            have c1 := (has_cell F5.out.bo.o 1).trans (show _ = some (Value.slice (some ⟨gb, obf, none⟩) s.m cb2) from rfl)
            have z1 := has_free F5.out.bo.o 1
            clear x0 x1 x2 x3 x4 x5 x6 x7 y0 y1 y2 y3 y4 HX4 HTB CW hrow hvk hb5 F4 HR4 HNB4
            go_upto_region 8 with fail
            clear c1 z1 F5 HR5 HNB5 hbl
            generalize w5.setCell ⟨bx, 1, none⟩ (.slice vo2 s.m vc2) = w6 at *
            cases okv
            · have HTK : Hid (s'.takes f1.cur now = false) := HTQ.out
              clear HR6 HNB6 HTQ
              have e0 : s'.f.lst f1.cur = s'.q f1.cur := by rw [HCH.out.2.2.2.2, HCH.out.2.2.2.1]
              have hfc : f1.cur < s'.f.m := by rw [HLK.out.lf]; exact HCM.out
              have hu : OL w6 129 2 (lv.getD f1.cur nilS) (s'.q f1.cur).length (entCells (s'.q f1.cur)) := by rw [← e0]; exact F6.out.d.f.a.e f1.cur hfc
              have hlen := HLK.out.len f1.cur HCM.out
              obtain ⟨bo, bc, hbv, hbc, hbc2, hba⟩ := OL.shape hu
              have hlv : lv[f1.cur]? = some (lv.getD f1.cur nilS) := by simp [List.getD, show f1.cur < lv.length by rw [F6.out.d.f.a.lvl]; exact hfc]
              have hll : OL w6 127 1 (.slice (some ⟨gl, olf, none⟩) s.m cl2) s.m lv := by
                have h1 := F6.out.d.f.a.l
                rw [show (docOf (s'.took f1.cur now)).f.m = s.m from HLK.out.lf.trans HMM.out] at h1
                exact h1
              have l0 := (OL.cell hll f1.cur (by omega)).trans hlv
              have a0 : w6.cell? ⟨g, f1.cur, none⟩ = some (lva.getD f1.cur nilS) := (has_cell F6.out.g f1.cur).trans (by simp [List.getD, show f1.cur < lva.length by rw [F6.out.len]; exact hcs])
              have az := has_free F6.out.g f1.cur
              rw [hbv] at l0 hu
              have HBA := Lib.hid hba
              obtain ⟨n, hn⟩ : ∃ n, (s'.q f1.cur).length = n := ⟨_, rfl⟩
              have HN := Lib.hid hn
              have F7 := Lib.hid (F6.out.asd (t := f1.cur) (l := s'.q f1.cur) hu rfl hcs)
              rw [hn] at l0 hlen hbc HBA F7
              have hx6 : w6.heap[bx]? = some (.cells #[.int .i64 s'.slots, .slice vo2 s.m vc2, .slice oq s.m cq2, .slice od s.m cd2, .slice (some ⟨gl, olf, none⟩) s.m cl2, .int .i64 s'.f.cur, .bool s'.f.begun, .slice oR s'.run.length cr2] 57 (0, 0)) := F6.out.bo.o
              obtain ⟨⟨x0, x1, x2, x3, x4, x5, x6, x7⟩, _⟩ := get8 hx6
              have HLL := Lib.hid F6.out.len
              clear hn hbv hba e0 hfc hlv hll hu hx6 x0 x1 x2 x3 x5 x6 x7 F6
              generalize lva.getD f1.cur nilS = ua at *
              go_upto_region 14 with fail
              clear l0 a0 az x4
              generalize w6.setCell ⟨g, f1.cur, none⟩ (.slice bo n bc) = w7 at *
              have HF7 : Hid (StD w K bx rx g s.m ⟨.slice vo2 s.m vc2, .slice oq s.m cq2, .slice od s.m cd2, .slice (some ⟨gl, olf, none⟩) s.m cl2, .slice oR s'.run.length cr2⟩ lv (lva.set f1.cur (.slice bo n bc)) { docOf (s'.took f1.cur now) with f := FQ.setL s'.f f1.cur ((s'.q f1.cur).drop 0) } (fun k => if k = f1.cur then s'.q f1.cur else asd s' a k) o (Value.slice vao o.length vcap) w7) := Lib.hid (by
                have e : FQ.setL s'.f f1.cur ((s'.q f1.cur).drop 0) = s'.f := by rw [List.drop_zero, HCH.out.2.2.2.1, ← HCH.out.2.2.2.2, setL_id]
                rw [e]
                exact F7.out)
              have a1 : w7.cell? ⟨g, f1.cur, none⟩ = some (.slice bo n bc) := (has_cell F7.out.g f1.cur).trans (by simp [show f1.cur < lva.length by rw [HLL.out]; exact hcs])
              clear F7
              go_wp2_with fail
              clear a1
              go_loopw [103] (fun jv wx => ∃ (j : Nat) (q2 : DQ) (lv2 : List Value), j ≤ n ∧ jv = .int .i64 j ∧ StD w K bx rx g s.m q2 lv2 (lva.set f1.cur (.slice bo n bc)) { docOf (s'.took f1.cur now) with f := FQ.setL s'.f f1.cur ((s'.q f1.cur).drop j) } (fun k => if k = f1.cur then s'.q f1.cur else asd s' a k) o (Value.slice vao o.length vcap) wx) (fun jv _ => n - (intOf jv).toNat)
              case atStart => exact ⟨0, _, _, Nat.zero_le _, rfl, HF7.out⟩
              case round =>
                clear HF7
                obtain ⟨j, q2, lv2, hj, rfl, hF⟩ := hrel
                have F8 := Lib.hid hF
                clear hF
                by_cases hlt : j < n
                · have hjl : j < (s'.q f1.cur).length := by rw [HN.out]; exact hlt
                  have hms := setL_m s'.f f1.cur ((s'.q f1.cur).drop j)
                  rw [HLK.out.lf] at hms
                  obtain ⟨ob2, cb3, oq2, cq3, od2, cd3, ol2, cl3, oR2, cr3, hq2, -, -, -⟩ := F8.out.d.shapes
                  have hq2 : q2 = ⟨.slice ob2 (docOf (s'.took f1.cur now)).bks.length cb3, .slice oq2 (FQ.setL s'.f f1.cur ((s'.q f1.cur).drop j)).m cq3, .slice od2 (FQ.setL s'.f f1.cur ((s'.q f1.cur).drop j)).m cd3, .slice ol2 (FQ.setL s'.f f1.cur ((s'.q f1.cur).drop j)).m cl3, .slice oR2 (docOf (s'.took f1.cur now)).run.length cr3⟩ := hq2
                  rw [(docOf_len (s'.took f1.cur now)).trans HMM.out, hms, HMM.out, docOf_run, show (s'.took f1.cur now).run = s'.run from rfl] at hq2
                  subst hq2
                  have hOL : OL wr 129 2 (.slice bo n bc) n (entCells (s'.q f1.cur)) := by
                    have h1 : OL wr 129 2 ((lva.set f1.cur (.slice bo n bc)).getD f1.cur nilS) (if f1.cur = f1.cur then s'.q f1.cur else asd s' a f1.cur).length (entCells (if f1.cur = f1.cur then s'.q f1.cur else asd s' a f1.cur)) := F8.out.e f1.cur hcs
                    rw [if_pos rfl, show (lva.set f1.cur (.slice bo n bc)).getD f1.cur nilS = .slice bo n bc by simp [List.getD, show f1.cur < lva.length by rw [HLL.out]; exact hcs], HN.out] at h1
                    exact h1
                  obtain ⟨ge, oe, rfl⟩ := HBA.out (by omega)
                  obtain ⟨e0, e1⟩ := ent_at (l := s'.q f1.cur) (by rw [HN.out]; exact hOL) hjl
                  rw [show (s'.q f1.cur).getD j (0, 0) = (s'.q f1.cur)[j] by simp [List.getD, hjl]] at e0 e1
                  have HCI := Lib.hid (can_has HLK.out HCM.out hjl)
                  have HCD := Lib.hid (canT_drop HLK.out HCM.out hjl)
                  have hsh := short_setL HLK.out HCM.out (l := (s'.q f1.cur).drop j) (by rw [List.length_drop]; have := HN.out; omega)
                  obtain ⟨x, hx⟩ : ∃ x, (s'.q f1.cur)[j] = x := ⟨_, rfl⟩
                  rw [hx] at e0 e1 HCI HCD
                  have hba := (Below.refl wr.heap.size wr).alloc (Nat.le_refl _) (.cells #[.int .i64 x.1, .int .i64 x.2] 129)
                  have HXB := Lib.hid (heap_alloc_new wr (.cells #[.int .i64 x.1, .int .i64 x.2] 129))
                  have F9 := Lib.hid (F8.out.bel hba)
                  have jI : (j : Int) < (n : Int) := by omega
                  have jI0 : (0 : Int) ≤ (j : Int) := by omega
                  have HMS := Lib.hid (hms.trans HMM.out)
                  clear hba hx hOL hjl hms F8
                  go_upto_region 17 with fail
                  clear e0 e1
                  generalize wr.alloc (.cells #[.int .i64 x.1, .int .i64 x.2] 129) = w8 at *
                  generalize wr.heap.size = xb at *
                  have hx8 : w8.heap[bx]? = some (.cells #[.int .i64 s'.slots, .slice ob2 s.m cb3, .slice oq2 s.m cq3, .slice od2 s.m cd3, .slice ol2 s.m cl3, .int .i64 s'.f.cur, .bool s'.f.begun, .slice oR2 s'.run.length cr3] 57 (0, 0)) := F9.out.bo.o
                  obtain ⟨⟨x0, x1, x2, x3, x4, x5, x6, x7⟩, _⟩ := get8 hx8
                  have b0 := (has_cell HXB.out 0).trans (show _ = some (Value.int .i64 x.1) from rfl)
                  have CC : Hid (Calls Try.prog 26 #[.agg #[.slice oq2 s.m cq3, .slice od2 s.m cd3, .slice ol2 s.m cl3, .int .i64 s'.f.cur, .bool s'.f.begun], .int .i64 x.1] w8 (RCanP (StJ K w g (Value.slice vao o.length vcap)) (FQ.setL s'.f f1.cur ((s'.q f1.cur).drop j)) x.1 w8)) := Lib.hid (rcancel_any F9.out.d.f (by show 1 ≤ (FQ.setL s'.f f1.cur ((s'.q f1.cur).drop j)).m; rw [HMS.out]; exact hm1) (by show (FQ.setL s'.f f1.cur ((s'.q f1.cur).drop j)).m ≤ 1000; rw [HMS.out]; omega) hsh.2 x.1)
                  have HMJ := Lib.hid ((setL_m s'.f f1.cur ((s'.q f1.cur).drop j)).trans HLK.out.lf)
                  clear hsh hx8
                  go_wp2_with fail
                  clear x0 x1 x2 x3 x4 x5 x6 x7 b0
                  refine CC.out.mono ?_
                  rintro e w9 (⟨hno, _⟩ | ⟨_, vq2, vd2, vl2, lv3, he, hr9, hb9⟩)
                  · exact absurd HCI.out hno
                  · rw [HMJ.out, HCD.out] at he hr9
                    obtain ⟨qo3, qc3, rfl, _⟩ := hr9.a.q.shape
                    obtain ⟨eo3, ec3, rfl, _⟩ := hr9.a.d.shape
                    obtain ⟨lo3, lc3, rfl, _⟩ := hr9.a.l.shape
                    subst he
                    have HWR8 : Hid (w.heap.size ≤ w8.heap.size ∧ g < w8.heap.size ∧ ∀ k, (Value.slice vao o.length vcap).ownBlock = some k → k < w8.heap.size) := Lib.hid ⟨F9.out.bo.b.size, lt_of_block F9.out.g, fun k hk => OL.lt F9.out.v k hk⟩
                    have F10 := Lib.hid (F9.out.bel hb9)
                    have HR10 := Lib.hid (hr9.more (stJ_more HWR8.out.1 HWR8.out.2.1 HWR8.out.2.2))
                    have F11 := Lib.hid (F10.out.queue HR10.out)
                    have hx9 : w9.heap[bx]? = some (.cells #[.int .i64 s'.slots, .slice ob2 s.m cb3, .slice oq2 s.m cq3, .slice od2 s.m cd3, .slice ol2 s.m cl3, .int .i64 s'.f.cur, .bool s'.f.begun, .slice oR2 s'.run.length cr3] 57 (0, 0)) := F10.out.bo.o
                    obtain ⟨⟨x0, x1, x2, x3, x4, x5, x6, x7⟩, z⟩ := get8 hx9
                    clear hr9 hb9 hx9 F9 F10 HR10 CC HCI HCD HMJ HMS HXB
                    unfold rqV
                    have hcj : (FQ.setL s'.f f1.cur ((s'.q f1.cur).drop (j + 1))).cur = s'.f.cur := rfl
                    have hbj : (FQ.setL s'.f f1.cur ((s'.q f1.cur).drop (j + 1))).begun = s'.f.begun := rfl
                    rw [hcj, hbj] at F11 ⊢
                    clear hcj hbj
                    generalize (FQ.setL s'.f f1.cur ((s'.q f1.cur).drop (j + 1))).m = mj at *
                    go_upto_region 18 with fail
                    clear x0 x1 x2 x3 x4 x5 x6 x7 z
                    generalize (((((w9.setCell ⟨bx, 2, none⟩ (.slice qo3 mj qc3)).setCell ⟨bx, 3, none⟩ (.slice eo3 mj ec3)).setCell ⟨bx, 4, none⟩ (.slice lo3 mj lc3)).setCell ⟨bx, 5, none⟩ (.int .i64 s'.f.cur)).setCell ⟨bx, 6, none⟩ (.bool s'.f.begun)) = w11 at *
                    go_wp2_with fail
                    go_roundw
                    case rel => exact ⟨j + 1, _, lv3, by omega, by go_num, F11.out⟩
                    case measure => simp [intOf]; omega
                · obtain rfl : j = n := by omega
                  have F9 : Hid (StD w K bx rx g s.m q2 lv2 (lva.set f1.cur (.slice bo j bc)) (docOf (s'.failed f1.cur now)) (asd (s'.failed f1.cur now) (a ++ [f1.cur])) o (Value.slice vao o.length vcap) wr) := Lib.hid (by
                    have h1 := F8.out
                    rw [← HN.out, List.drop_length] at h1
                    have e : asd (s'.failed f1.cur now) (a ++ [f1.cur]) = (fun k => if k = f1.cur then s'.q f1.cur else asd s' a k) := funext fun k => asd_failed s' a f1.cur now k
                    rw [e, ← HN.out]
                    exact h1)
                  have HLF := Lib.hid (HLK.out.failed HCH.out.1 HCH.out.2.1 now)
                  have hal2 := HLF.out.alen
                  rw [List.length_append, List.length_singleton] at hal2
                  clear F8
                  go_wp2_with fail
                  go_roundg ((256 - s'.run.length) + (16 - (a.length + 1)) + 1)
                  case rel => exact ⟨s'.failed f1.cur now, o, a ++ [f1.cur], q2, lv2, _, F9.out, HLF.out, fun s1 o1 a1 hs => HLP.out _ _ _ (.fail s' o a f1 en r _ _ _ HFU.out HCH.out.1 HCH.out.2.1 HTK.out hs), HOL.out, HMM.out, by rw [List.length_append, List.length_singleton]; exact Nat.lt_succ_self _⟩
                  case measure => have := HGK.out; omega
            · have HTK : Hid (s'.takes f1.cur now = true) := HTQ.out
              clear HTQ
              obtain ⟨⟨y0, y1, y2, y3, y4⟩, _⟩ := row5 HNB6.out
              have hx6 : w6.heap[bx]? = some (.cells #[.int .i64 s'.slots, .slice vo2 s.m vc2, .slice oq s.m cq2, .slice od s.m cd2, .slice (some ⟨gl, olf, none⟩) s.m cl2, .int .i64 s'.f.cur, .bool s'.f.begun, .slice oR s'.run.length cr2] 57 (0, 0)) := F6.out.bo.o
              obtain ⟨⟨x0, x1, x2, x3, x4, x5, x6, x7⟩, z⟩ := get8 hx6
              have F7 := Lib.hid (F6.out.queue HR6.out)
              clear hx6 F6 HR6 HNB6
              go_upto_region 10 with fail
              clear x0 x1 x2 x3 x4 x5 x6 x7 z y0 y1 y2 y3 y4
              generalize (((((w6.setCell ⟨bx, 2, none⟩ (.slice qo2 f1.pop.m qc2)).setCell ⟨bx, 3, none⟩ (.slice eo2 f1.pop.m ec2)).setCell ⟨bx, 4, none⟩ (.slice lo2 f1.pop.m lc2)).setCell ⟨bx, 5, none⟩ (.int .i64 f1.pop.cur)).setCell ⟨bx, 6, none⟩ (.bool f1.pop.begun)) = w7 at *
              have HX7 : Hid (w7.heap[bx]? = some (.cells #[.int .i64 s'.slots, .slice vo2 s.m vc2, .slice qo2 f1.pop.m qc2, .slice eo2 f1.pop.m ec2, .slice lo2 f1.pop.m lc2, .int .i64 f1.pop.cur, .bool f1.pop.begun, .slice oR s'.run.length cr2] 57 (0, 0))) := Lib.hid F7.out.bo.o
              have CP : Hid (Calls Try.prog 56 #[.agg #[.int .i64 s'.slots, .slice vo2 s.m vc2, .slice qo2 f1.pop.m qc2, .slice eo2 f1.pop.m ec2, .slice lo2 f1.pop.m lc2, .int .i64 f1.pop.cur, .bool f1.pop.begun, .slice oR s'.run.length cr2], .int .i64 en.1] w7 (PlaceP (plN (sortI s'.run) en.1) (plB (sortI s'.run) en.1) w7)) := Lib.hid (rplace_any F7.out.d (by show (sortI s'.run).length ≤ _; rw [sortI_len]; omega) en.1)
              go_wp2_with (first | (refine wpList_load_row rfl 57 (.tmp 2) rfl bx (by rfl) 57 #[.int .i64 s'.slots, .slice vo2 s.m vc2, .slice qo2 f1.pop.m qc2, .slice eo2 f1.pop.m ec2, .slice lo2 f1.pop.m lc2, .int .i64 f1.pop.cur, .bool f1.pop.begun, .slice oR s'.run.length cr2] (0, 0) _ HX7.out Try.underlying57 rfl infoDA ?_))
              refine CP.out.mono ?_
              rintro e w8 ⟨rfl, hb8⟩
              have F8 := Lib.hid (F7.out.bel hb8)
              have hor : OL w8 3 1 (.slice oR s'.run.length cr2) (sortI s'.run).length (ints (sortI s'.run)) := F8.out.d.r
              have HDB := Lib.hid (docOf_began HLK.out HCH.out.1 HCH.out.2.1 now)
              have hkN := plN_le (sortI s'.run) en.1
              have hins : insA (sortI s'.run) en.1 = (sortI s'.run).take (plN (sortI s'.run) en.1) ++ en.1 :: (sortI s'.run).drop (plN (sortI s'.run) en.1) := rfl
              rw [sortI_len] at hor hkN
              have HSL := Lib.hid (sortI_len s'.run)
              clear hb8 F7 CP HX7
              generalize plB (sortI s'.run) en.1 = pb at *
              generalize plN (sortI s'.run) en.1 = k at *
              generalize hR : sortI s'.run = R at *
              have HRR := Lib.hid hR
              clear hR
              obtain ⟨N, hN⟩ : ∃ N, s'.run.length = N := ⟨_, rfl⟩
              rw [hN] at hor hkN hrl HSL hcr
              have HIE : Hid (((ints R).take k ++ [.int .i64 en.1]) ++ (ints R).drop k = ints (insA R en.1)) := Lib.hid (by
                rw [hins]
                unfold ints
                rw [← List.map_take, ← List.map_drop, List.map_append, List.map_cons, List.append_assoc]
                rfl)
              have HNL : Hid (k + 1 + (N - k) = (insA R en.1).length) := Lib.hid (by
                rw [hins, List.length_append, List.length_cons, List.length_take, List.length_drop, HSL.out]
                omega)
              have HO1 : Hid (∀ u ∈ (ints R).take k, u.oneCell' = true) := Lib.hid fun u hu => ints_one _ u (List.mem_of_mem_take hu)
              have HO2 : Hid (∀ u ∈ (ints R).drop k, u.oneCell' = true) := Lib.hid fun u hu => ints_one _ u (List.mem_of_mem_drop hu)
              have HNQ := Lib.hid hN
              have HW8 : Hid (w.heap.size ≤ w8.heap.size ∧ ∀ k, (Value.slice vao o.length vcap).ownBlock = some k → k < w8.heap.size) := Lib.hid ⟨F8.out.bo.b.size, fun k hk => OL.lt F8.out.v k hk⟩
              have HOR := Lib.hid hor
              clear hins hN hor
              go_upto_region 11 with fail
              go_cut [] (fun wx => ∃ q9, StD w K bx rx g s.m q9 lv2 lva (docOf (s'.began f1 now en.1)) (asd s' a) o (Value.slice vao o.length vcap) wx)
              case first =>
                have hR8 : w8.cell? ⟨bx, 7, none⟩ = some (.slice oR s'.run.length cr2) := has_cell F8.out.bo.o 7
                rw [HNQ.out] at hR8
                have HS8 : Hid (∀ wx, Below w8.heap.size w8 wx → wx.cell? ⟨bx, 7, none⟩ = some (.slice oR N cr2)) := Lib.hid fun wx hb => below_cell hb hR8
                clear hR8
                rcases OL.forms HOR.out with ⟨hv, h0⟩ | ⟨gr, fr, cap, hv, hn1, hn2, _⟩
                · simp only [Value.slice.injEq] at hv
                  obtain ⟨rfl, -, rfl⟩ := hv
                  subst h0
                  obtain rfl : k = 0 := by omega
                  have hR0 : R = [] := List.eq_nil_of_length_eq_zero HSL.out
                  have HHD : Hid (OL w8 3 1 (.slice none 0 0) 0 ((ints R).take 0)) := Lib.hid (by rw [List.take_zero]; exact OL.nil _ _ _)
                  have HTL : Hid (OL w8 3 1 (.slice none 0 0) (0 - 0) ((ints R).drop 0)) := Lib.hid (by rw [hR0]; exact OL.nil _ _ _)
                  clear hR0
                  have hH := HS8.out _ (below_drew _ w8)
                  refine AnyZ.start 15 (fun wx : World => wx.cell? ⟨bx, 7, none⟩ = some (.slice none 0 0)) (by kernel_rfl) ?_
                  obtain ⟨w9, hw9⟩ : ∃ w9, w9 = w8.drew := ⟨_, rfl⟩
                  have HB9 : Hid (Below w8.heap.size w8 w9) := Lib.hid (by rw [hw9]; exact below_drew _ _)
                  rw [← hw9] at hH ⊢
                  clear hw9
                  refine AnyZ.take (i := 1) (v := ?_) rfl (by kernel_rfl) (fun _ _ _ h => h) (by rfl) hH ?_ ?_
                  rotate_left
                  · intro w hSw
                    go_simp
                    with_reducible rfl
                  try simp only [List.getElem_toArray, List.getElem_cons_succ, List.getElem_cons_zero, Act.put, List.setIfInBounds_toArray, List.set_cons_zero, List.set_cons_succ]
                  refine AnyZ.take (i := 2) (v := ?_) rfl (by kernel_rfl) (fun _ _ _ h => h) (by rfl) hH ?_ ?_
                  rotate_left
                  · intro w hSw
                    go_simp
                    with_reducible rfl
                  try simp only [List.getElem_toArray, List.getElem_cons_succ, List.getElem_cons_zero, Act.put, List.setIfInBounds_toArray, List.set_cons_zero, List.set_cons_succ]
                  refine AnyZ.take (i := 3) (v := ?_) rfl (by kernel_rfl) (fun _ _ _ h => h) (by rfl) hH ?_ ?_
                  rotate_left
                  · intro w hSw
                    go_simp
                    with_reducible rfl
                  try simp only [List.getElem_toArray, List.getElem_cons_succ, List.getElem_cons_zero, Act.put, List.setIfInBounds_toArray, List.set_cons_zero, List.set_cons_succ]
                  refine AnyZ.take (i := 4) (v := ?_) rfl (by kernel_rfl) (fun _ _ _ h => h) (by rfl) hH ?_ ?_
                  rotate_left
                  · intro w hSw
                    go_simp
                    with_reducible rfl
                  try simp only [List.getElem_toArray, List.getElem_cons_succ, List.getElem_cons_zero, Act.put, List.setIfInBounds_toArray, List.set_cons_zero, List.set_cons_succ]
                  refine AnyZ.take (i := 6) (v := ?_) rfl (by kernel_rfl) (fun _ _ _ h => h) (by rfl) hH ?_ ?_
                  rotate_left
                  · intro w hSw
                    go_simp
                    with_reducible rfl
                  try simp only [List.getElem_toArray, List.getElem_cons_succ, List.getElem_cons_zero, Act.put, List.setIfInBounds_toArray, List.set_cons_zero, List.set_cons_succ]
                  refine AnyZ.take (i := 9) (v := ?_) rfl (by kernel_rfl) (fun _ _ _ h => h) (by rfl) hH ?_ ?_
                  rotate_left
                  · intro w hSw
                    go_simp
                    with_reducible rfl
                  try simp only [List.getElem_toArray, List.getElem_cons_succ, List.getElem_cons_zero, Act.put, List.setIfInBounds_toArray, List.set_cons_zero, List.set_cons_succ]
                  refine AnyZ.take (i := 10) (v := ?_) rfl (by kernel_rfl) (fun _ _ _ h => h) (by rfl) hH ?_ ?_
                  rotate_left
                  · intro w hSw
                    go_simp
                    with_reducible rfl
                  try simp only [List.getElem_toArray, List.getElem_cons_succ, List.getElem_cons_zero, Act.put, List.setIfInBounds_toArray, List.set_cons_zero, List.set_cons_succ]
                  refine AnyZ.take (i := 11) (v := ?_) rfl (by kernel_rfl) (fun _ _ _ h => h) (by rfl) hH ?_ ?_
                  rotate_left
                  · intro w hSw
                    go_simp
                    with_reducible rfl
                  try simp only [List.getElem_toArray, List.getElem_cons_succ, List.getElem_cons_zero, Act.put, List.setIfInBounds_toArray, List.set_cons_zero, List.set_cons_succ]
                  refine AnyZ.take (i := 12) (v := ?_) rfl (by kernel_rfl) (fun _ _ _ h => h) (by rfl) hH ?_ ?_
                  rotate_left
                  · intro w hSw
                    go_simp
                    with_reducible rfl
                  try simp only [List.getElem_toArray, List.getElem_cons_succ, List.getElem_cons_zero, Act.put, List.setIfInBounds_toArray, List.set_cons_zero, List.set_cons_succ]
                  skip
                  have HHF : Hid (∀ wx, Below w9.heap.size w9 wx → OL wx 3 1 (.slice none 0 0) 0 ((ints R).take 0)) := Lib.hid fun wx hb => OL.bel HHD.out (HB9.out.trans (hb.mono HB9.out.size))
                  have HTF : Hid (∀ wx, Below w9.heap.size w9 wx → OL wx 3 1 (.slice none 0 0) (0 - 0) ((ints R).drop 0)) := Lib.hid fun wx hb => OL.bel HTL.out (HB9.out.trans (hb.mono HB9.out.size))
                  have HBX := Lib.hid (Below.refl w9.heap.size w9)
                  clear HHD HTL
                  refine AnyZ.two (i := 0) (j := 7) rfl rfl (by kernel_rfl) rfl rfl (fun K hK => ?_) (fun K hK => ?_)
                  · skip
                    go_simp
                    have hbX := (Below.refl w9.heap.size w9).alloc (Nat.le_refl _) (.cells #[] 3)
                    have hqX := heap_alloc_new w9 (.cells #[] 3)
                    obtain ⟨gb0, hgX⟩ : ∃ g, w9.heap.size = g := ⟨_, rfl⟩
                    have HGE0 : Hid (w9.heap.size ≤ gb0) := Lib.hid (by have := HBX.out.size; omega)
                    rw [hgX] at hqX ⊢
                    clear hgX
                    generalize w9.alloc (.cells #[] 3) = wo0 at *
                    have F0 := Lib.hid (hqX)
                    have HBX := Lib.hid (HBX.out.trans (hbX.mono HBX.out.size))
                    have hHwo0 := (HS8.out wo0 (HB9.out.trans (HBX.out.mono HB9.out.size)))
                    refine hK.out _ _ (.inr hHwo0) ?_
                    clear hK K hbX hqX
                    refine AnyZ.two (i := 5) (j := 7) rfl rfl (by kernel_rfl) rfl rfl (fun K hK => ?_) (fun K hK => ?_)
                    · skip
                      obtain ⟨ao5, cp5, wo1, hap, ho5, how5, hbX⟩ := app_fresh 37 _ _ Try.underlying37 infoI rfl (by omega) F0.out (OL.src (HHF.out wo0 HBX.out) Try.underlying37 HO1.out) (by unfold maxLen; omega) (by omega)
                      refine wp_append_run (v := .slice (some ⟨gb0, 0, none⟩) 0 0) (xv := .slice none 0 0) (.tmp 70) (.tmp 74) 37 37 rfl (by rfl) (by rfl) hap ?_
                      have F0 := Lib.hid ((hbX.block _ (lt_of_block F0.out)).trans F0.out)
                      have O5 := Lib.hid (ho5)
                      have W5 := Lib.hid (grown_fresh HGE0.out HBX.out.size how5)
                      have HBX := Lib.hid (HBX.out.trans (hbX.mono HBX.out.size))
                      have hHwo1 := (HS8.out wo1 (HB9.out.trans (HBX.out.mono HB9.out.size)))
                      refine hK.out _ _ (.inr hHwo1) ?_
                      clear hK K hbX hap ho5
                      refine AnyZ.one (i := 7) rfl (by kernel_rfl) rfl (fun K hK => ?_)
                      go_simp
                      have hbX := (Below.refl wo1.heap.size wo1).alloc (Nat.le_refl _) (.cells #[.int .i64 en.1] 3)
                      have hqX := heap_alloc_new wo1 (.cells #[.int .i64 en.1] 3)
                      obtain ⟨gb7, hgX⟩ : ∃ g, wo1.heap.size = g := ⟨_, rfl⟩
                      have HGE7 : Hid (w9.heap.size ≤ gb7) := Lib.hid (by have := HBX.out.size; omega)
                      rw [hgX] at hqX ⊢
                      clear hgX
                      generalize wo1.alloc (.cells #[.int .i64 en.1] 3) = wo2 at *
                      have F0 := Lib.hid ((hbX.block _ (lt_of_block F0.out)).trans F0.out)
                      have O5 := Lib.hid (OL.bel O5.out hbX)
                      have W5 := Lib.hid (W5.out)
                      have F7x := Lib.hid (hqX)
                      have HBX := Lib.hid (HBX.out.trans (hbX.mono HBX.out.size))
                      have hHwo2 := (HS8.out wo2 (HB9.out.trans (HBX.out.mono HB9.out.size)))
                      refine hK.out _ _ (.inr hHwo2) ?_
                      clear hK K hbX hqX
                      refine AnyZ.one (i := 8) rfl (by kernel_rfl) rfl (fun K hK => ?_)
                      obtain ⟨ao8, cp8, wo3, hap, ho8, hg8, how8⟩ := ol_more 37 _ _ Try.underlying37 infoI rfl (by omega) O5.out F7x.out rfl (fun u hu => by simp at hu; rcases hu with rfl; rfl) (by omega) (by omega)
                      have hbX : Below w9.heap.size w9 wo3 := HBX.out.grown hg8 HBX.out.size W5.out
                      have W8 := Lib.hid (grown_own W5.out HBX.out.size how8)
                      refine wp_append_run (v := .slice ao5 0 cp5) (xv := .slice (some ⟨gb7, 0, none⟩) 1 1) (.tmp 75) (.tmp 77) 37 37 rfl (by rfl) (by rfl) hap ?_
                      have HBX := Lib.hid hbX
                      have O8 := Lib.hid ho8
                      have hHwo3 := (HS8.out wo3 (HB9.out.trans (HBX.out.mono HB9.out.size)))
                      refine hK.out _ _ (.inr hHwo3) ?_
                      clear hK K hap hbX ho8 hg8 how8
                      refine AnyZ.one (i := 13) rfl (by kernel_rfl) rfl (fun K hK => ?_)
                      obtain ⟨ao13, cp13, wo4, hap, ho13, hg13, how13⟩ := ol_app 37 _ _ Try.underlying37 infoI rfl (by omega) O8.out (HTF.out wo3 HBX.out) HO2.out (by omega) (by omega)
                      have hbX : Below w9.heap.size w9 wo4 := HBX.out.grown hg13 HBX.out.size W8.out
                      have W13 := Lib.hid (grown_own W8.out HBX.out.size how13)
                      have ho13 : OL wo4 3 1 (.slice ao13 (insA R en.1).length cp13) (insA R en.1).length (ints (insA R en.1)) := by rw [← HNL.out, ← HIE.out]; exact ho13
                      have hap : (Builtin.append_ #[37, 37] 37 #[.slice ao8 (0 + 1) cp8, .slice none 0 0]).run Try.prog wo3 = .ok (.slice ao13 (insA R en.1).length cp13) wo4 := by rw [← HNL.out]; exact hap
                      have W13 : Hid (∀ g, (Value.slice ao13 (insA R en.1).length cp13).ownBlock = some g → w9.heap.size ≤ g) := by rw [← HNL.out]; exact W13
                      refine wp_append_run (v := .slice ao8 (0 + 1) cp8) (xv := .slice none 0 0) (.tmp 78) (.tmp 82) 37 37 rfl (by rfl) (by rfl) hap ?_
                      have HBX := Lib.hid hbX
                      have O13 := Lib.hid ho13
                      have hHwo4 := (HS8.out wo4 (HB9.out.trans (HBX.out.mono HB9.out.size)))
                      refine hK.out _ _ (.inr hHwo4) ?_
                      clear hK K hap hbX ho13 hg13 how13
                      refine AnyZ.take (i := 14) (v := ?_) rfl (by kernel_rfl) (fun _ _ _ h => h) (by rfl) hHwo4 ?_ ?_
                      rotate_left
                      · intro w hSw
                        go_simp
                        with_reducible rfl
                      try simp only [List.getElem_toArray, List.getElem_cons_succ, List.getElem_cons_zero, Act.put, List.setIfInBounds_toArray, List.set_cons_zero, List.set_cons_succ]
                      refine AnyZ.one (i := 15) rfl (by kernel_rfl) rfl (fun K hK => ?_)
                      have FX := Lib.hid (F8.out.bel (HB9.out.trans (HBX.out.mono HB9.out.size)))
                      have c7 := has_cell FX.out.bo.o 7
                      have f7 := has_free FX.out.bo.o 7
                      have HN := Lib.hid (FX.out.runs O13.out (fun j hj => by have h1 := W13.out j hj; have h2 := HB9.out.size; have h3 := HW8.out.1; exact ⟨by omega, fun e => by have := HW8.out.2 j e; omega⟩))
                      go_simp
                      refine hK.out _ _ (.inl rfl) ?_
                      clear hK K c7 f7
                      refine AnyZ.done (by kernel_rfl) ?_ _
                      go_wp2_with fail
                      go_meet
                      case rel => exact ⟨_, by rw [HDB.out]; exact HN.out⟩
                    · skip
                      go_simp
                      have hbX := (Below.refl wo0.heap.size wo0).alloc (Nat.le_refl _) (.cells #[.int .i64 en.1] 3)
                      have hqX := heap_alloc_new wo0 (.cells #[.int .i64 en.1] 3)
                      obtain ⟨gb7, hgX⟩ : ∃ g, wo0.heap.size = g := ⟨_, rfl⟩
                      have HGE7 : Hid (w9.heap.size ≤ gb7) := Lib.hid (by have := HBX.out.size; omega)
                      rw [hgX] at hqX ⊢
                      clear hgX
                      generalize wo0.alloc (.cells #[.int .i64 en.1] 3) = wo1 at *
                      have F0 := Lib.hid ((hbX.block _ (lt_of_block F0.out)).trans F0.out)
                      have F7x := Lib.hid (hqX)
                      have HBX := Lib.hid (HBX.out.trans (hbX.mono HBX.out.size))
                      have hHwo1 := (HS8.out wo1 (HB9.out.trans (HBX.out.mono HB9.out.size)))
                      refine hK.out _ _ (.inr hHwo1) ?_
                      clear hK K hbX hqX
                      refine AnyZ.one (i := 5) rfl (by kernel_rfl) rfl (fun K hK => ?_)
                      obtain ⟨ao5, cp5, wo2, hap, ho5, how5, hbX⟩ := app_fresh 37 _ _ Try.underlying37 infoI rfl (by omega) F0.out (OL.src (HHF.out wo1 HBX.out) Try.underlying37 HO1.out) (by unfold maxLen; omega) (by omega)
                      refine wp_append_run (v := .slice (some ⟨gb0, 0, none⟩) 0 0) (xv := .slice none 0 0) (.tmp 70) (.tmp 74) 37 37 rfl (by rfl) (by rfl) hap ?_
                      have F0 := Lib.hid ((hbX.block _ (lt_of_block F0.out)).trans F0.out)
                      have F7x := Lib.hid ((hbX.block _ (lt_of_block F7x.out)).trans F7x.out)
                      have O5 := Lib.hid (ho5)
                      have W5 := Lib.hid (grown_fresh HGE0.out HBX.out.size how5)
                      have HBX := Lib.hid (HBX.out.trans (hbX.mono HBX.out.size))
                      have hHwo2 := (HS8.out wo2 (HB9.out.trans (HBX.out.mono HB9.out.size)))
                      refine hK.out _ _ (.inr hHwo2) ?_
                      clear hK K hbX hap ho5
                      refine AnyZ.one (i := 8) rfl (by kernel_rfl) rfl (fun K hK => ?_)
                      obtain ⟨ao8, cp8, wo3, hap, ho8, hg8, how8⟩ := ol_more 37 _ _ Try.underlying37 infoI rfl (by omega) O5.out F7x.out rfl (fun u hu => by simp at hu; rcases hu with rfl; rfl) (by omega) (by omega)
                      have hbX : Below w9.heap.size w9 wo3 := HBX.out.grown hg8 HBX.out.size W5.out
                      have W8 := Lib.hid (grown_own W5.out HBX.out.size how8)
                      refine wp_append_run (v := .slice ao5 0 cp5) (xv := .slice (some ⟨gb7, 0, none⟩) 1 1) (.tmp 75) (.tmp 77) 37 37 rfl (by rfl) (by rfl) hap ?_
                      have HBX := Lib.hid hbX
                      have O8 := Lib.hid ho8
                      have hHwo3 := (HS8.out wo3 (HB9.out.trans (HBX.out.mono HB9.out.size)))
                      refine hK.out _ _ (.inr hHwo3) ?_
                      clear hK K hap hbX ho8 hg8 how8
                      refine AnyZ.one (i := 13) rfl (by kernel_rfl) rfl (fun K hK => ?_)
                      obtain ⟨ao13, cp13, wo4, hap, ho13, hg13, how13⟩ := ol_app 37 _ _ Try.underlying37 infoI rfl (by omega) O8.out (HTF.out wo3 HBX.out) HO2.out (by omega) (by omega)
                      have hbX : Below w9.heap.size w9 wo4 := HBX.out.grown hg13 HBX.out.size W8.out
                      have W13 := Lib.hid (grown_own W8.out HBX.out.size how13)
                      have ho13 : OL wo4 3 1 (.slice ao13 (insA R en.1).length cp13) (insA R en.1).length (ints (insA R en.1)) := by rw [← HNL.out, ← HIE.out]; exact ho13
                      have hap : (Builtin.append_ #[37, 37] 37 #[.slice ao8 (0 + 1) cp8, .slice none 0 0]).run Try.prog wo3 = .ok (.slice ao13 (insA R en.1).length cp13) wo4 := by rw [← HNL.out]; exact hap
                      have W13 : Hid (∀ g, (Value.slice ao13 (insA R en.1).length cp13).ownBlock = some g → w9.heap.size ≤ g) := by rw [← HNL.out]; exact W13
                      refine wp_append_run (v := .slice ao8 (0 + 1) cp8) (xv := .slice none 0 0) (.tmp 78) (.tmp 82) 37 37 rfl (by rfl) (by rfl) hap ?_
                      have HBX := Lib.hid hbX
                      have O13 := Lib.hid ho13
                      have hHwo4 := (HS8.out wo4 (HB9.out.trans (HBX.out.mono HB9.out.size)))
                      refine hK.out _ _ (.inr hHwo4) ?_
                      clear hK K hap hbX ho13 hg13 how13
                      refine AnyZ.take (i := 14) (v := ?_) rfl (by kernel_rfl) (fun _ _ _ h => h) (by rfl) hHwo4 ?_ ?_
                      rotate_left
                      · intro w hSw
                        go_simp
                        with_reducible rfl
                      try simp only [List.getElem_toArray, List.getElem_cons_succ, List.getElem_cons_zero, Act.put, List.setIfInBounds_toArray, List.set_cons_zero, List.set_cons_succ]
                      refine AnyZ.one (i := 15) rfl (by kernel_rfl) rfl (fun K hK => ?_)
                      have FX := Lib.hid (F8.out.bel (HB9.out.trans (HBX.out.mono HB9.out.size)))
                      have c7 := has_cell FX.out.bo.o 7
                      have f7 := has_free FX.out.bo.o 7
                      have HN := Lib.hid (FX.out.runs O13.out (fun j hj => by have h1 := W13.out j hj; have h2 := HB9.out.size; have h3 := HW8.out.1; exact ⟨by omega, fun e => by have := HW8.out.2 j e; omega⟩))
                      go_simp
                      refine hK.out _ _ (.inl rfl) ?_
                      clear hK K c7 f7
                      refine AnyZ.done (by kernel_rfl) ?_ _
                      go_wp2_with fail
                      go_meet
                      case rel => exact ⟨_, by rw [HDB.out]; exact HN.out⟩
                  · skip
                    go_simp
                    have hbX := (Below.refl w9.heap.size w9).alloc (Nat.le_refl _) (.cells #[.int .i64 en.1] 3)
                    have hqX := heap_alloc_new w9 (.cells #[.int .i64 en.1] 3)
                    obtain ⟨gb7, hgX⟩ : ∃ g, w9.heap.size = g := ⟨_, rfl⟩
                    have HGE7 : Hid (w9.heap.size ≤ gb7) := Lib.hid (by have := HBX.out.size; omega)
                    rw [hgX] at hqX ⊢
                    clear hgX
                    generalize w9.alloc (.cells #[.int .i64 en.1] 3) = wo0 at *
                    have F7x := Lib.hid (hqX)
                    have HBX := Lib.hid (HBX.out.trans (hbX.mono HBX.out.size))
                    have hHwo0 := (HS8.out wo0 (HB9.out.trans (HBX.out.mono HB9.out.size)))
                    refine hK.out _ _ (.inr hHwo0) ?_
                    clear hK K hbX hqX
                    refine AnyZ.one (i := 0) rfl (by kernel_rfl) rfl (fun K hK => ?_)
                    go_simp
                    have hbX := (Below.refl wo0.heap.size wo0).alloc (Nat.le_refl _) (.cells #[] 3)
                    have hqX := heap_alloc_new wo0 (.cells #[] 3)
                    obtain ⟨gb0, hgX⟩ : ∃ g, wo0.heap.size = g := ⟨_, rfl⟩
                    have HGE0 : Hid (w9.heap.size ≤ gb0) := Lib.hid (by have := HBX.out.size; omega)
                    rw [hgX] at hqX ⊢
                    clear hgX
                    generalize wo0.alloc (.cells #[] 3) = wo1 at *
                    have F7x := Lib.hid ((hbX.block _ (lt_of_block F7x.out)).trans F7x.out)
                    have F0 := Lib.hid (hqX)
                    have HBX := Lib.hid (HBX.out.trans (hbX.mono HBX.out.size))
                    have hHwo1 := (HS8.out wo1 (HB9.out.trans (HBX.out.mono HB9.out.size)))
                    refine hK.out _ _ (.inr hHwo1) ?_
                    clear hK K hbX hqX
                    refine AnyZ.one (i := 5) rfl (by kernel_rfl) rfl (fun K hK => ?_)
                    obtain ⟨ao5, cp5, wo2, hap, ho5, how5, hbX⟩ := app_fresh 37 _ _ Try.underlying37 infoI rfl (by omega) F0.out (OL.src (HHF.out wo1 HBX.out) Try.underlying37 HO1.out) (by unfold maxLen; omega) (by omega)
                    refine wp_append_run (v := .slice (some ⟨gb0, 0, none⟩) 0 0) (xv := .slice none 0 0) (.tmp 70) (.tmp 74) 37 37 rfl (by rfl) (by rfl) hap ?_
                    have F0 := Lib.hid ((hbX.block _ (lt_of_block F0.out)).trans F0.out)
                    have F7x := Lib.hid ((hbX.block _ (lt_of_block F7x.out)).trans F7x.out)
                    have O5 := Lib.hid (ho5)
                    have W5 := Lib.hid (grown_fresh HGE0.out HBX.out.size how5)
                    have HBX := Lib.hid (HBX.out.trans (hbX.mono HBX.out.size))
                    have hHwo2 := (HS8.out wo2 (HB9.out.trans (HBX.out.mono HB9.out.size)))
                    refine hK.out _ _ (.inr hHwo2) ?_
                    clear hK K hbX hap ho5
                    refine AnyZ.one (i := 8) rfl (by kernel_rfl) rfl (fun K hK => ?_)
                    obtain ⟨ao8, cp8, wo3, hap, ho8, hg8, how8⟩ := ol_more 37 _ _ Try.underlying37 infoI rfl (by omega) O5.out F7x.out rfl (fun u hu => by simp at hu; rcases hu with rfl; rfl) (by omega) (by omega)
                    have hbX : Below w9.heap.size w9 wo3 := HBX.out.grown hg8 HBX.out.size W5.out
                    have W8 := Lib.hid (grown_own W5.out HBX.out.size how8)
                    refine wp_append_run (v := .slice ao5 0 cp5) (xv := .slice (some ⟨gb7, 0, none⟩) 1 1) (.tmp 75) (.tmp 77) 37 37 rfl (by rfl) (by rfl) hap ?_
                    have HBX := Lib.hid hbX
                    have O8 := Lib.hid ho8
                    have hHwo3 := (HS8.out wo3 (HB9.out.trans (HBX.out.mono HB9.out.size)))
                    refine hK.out _ _ (.inr hHwo3) ?_
                    clear hK K hap hbX ho8 hg8 how8
                    refine AnyZ.one (i := 13) rfl (by kernel_rfl) rfl (fun K hK => ?_)
                    obtain ⟨ao13, cp13, wo4, hap, ho13, hg13, how13⟩ := ol_app 37 _ _ Try.underlying37 infoI rfl (by omega) O8.out (HTF.out wo3 HBX.out) HO2.out (by omega) (by omega)
                    have hbX : Below w9.heap.size w9 wo4 := HBX.out.grown hg13 HBX.out.size W8.out
                    have W13 := Lib.hid (grown_own W8.out HBX.out.size how13)
                    have ho13 : OL wo4 3 1 (.slice ao13 (insA R en.1).length cp13) (insA R en.1).length (ints (insA R en.1)) := by rw [← HNL.out, ← HIE.out]; exact ho13
                    have hap : (Builtin.append_ #[37, 37] 37 #[.slice ao8 (0 + 1) cp8, .slice none 0 0]).run Try.prog wo3 = .ok (.slice ao13 (insA R en.1).length cp13) wo4 := by rw [← HNL.out]; exact hap
                    have W13 : Hid (∀ g, (Value.slice ao13 (insA R en.1).length cp13).ownBlock = some g → w9.heap.size ≤ g) := by rw [← HNL.out]; exact W13
                    refine wp_append_run (v := .slice ao8 (0 + 1) cp8) (xv := .slice none 0 0) (.tmp 78) (.tmp 82) 37 37 rfl (by rfl) (by rfl) hap ?_
                    have HBX := Lib.hid hbX
                    have O13 := Lib.hid ho13
                    have hHwo4 := (HS8.out wo4 (HB9.out.trans (HBX.out.mono HB9.out.size)))
                    refine hK.out _ _ (.inr hHwo4) ?_
                    clear hK K hap hbX ho13 hg13 how13
                    refine AnyZ.take (i := 14) (v := ?_) rfl (by kernel_rfl) (fun _ _ _ h => h) (by rfl) hHwo4 ?_ ?_
                    rotate_left
                    · intro w hSw
                      go_simp
                      with_reducible rfl
                    try simp only [List.getElem_toArray, List.getElem_cons_succ, List.getElem_cons_zero, Act.put, List.setIfInBounds_toArray, List.set_cons_zero, List.set_cons_succ]
                    refine AnyZ.one (i := 15) rfl (by kernel_rfl) rfl (fun K hK => ?_)
                    have FX := Lib.hid (F8.out.bel (HB9.out.trans (HBX.out.mono HB9.out.size)))
                    have c7 := has_cell FX.out.bo.o 7
                    have f7 := has_free FX.out.bo.o 7
                    have HN := Lib.hid (FX.out.runs O13.out (fun j hj => by have h1 := W13.out j hj; have h2 := HB9.out.size; have h3 := HW8.out.1; exact ⟨by omega, fun e => by have := HW8.out.2 j e; omega⟩))
                    go_simp
                    refine hK.out _ _ (.inl rfl) ?_
                    clear hK K c7 f7
                    refine AnyZ.done (by kernel_rfl) ?_ _
                    go_wp2_with fail
                    go_meet
                    case rel => exact ⟨_, by rw [HDB.out]; exact HN.out⟩
                · simp only [Value.slice.injEq, true_and] at hv
                  obtain ⟨rfl, rfl⟩ := hv
                  have hkc : k ≤ cr2 := by omega
                  have HHD := Lib.hid (OL.head HOR.out k hkN)
                  have HTL := Lib.hid (OL.tail HOR.out k hkN)
                  rw [Nat.mul_one] at HHD HTL
                  have hH := HS8.out _ (below_drew _ w8)
                  refine AnyZ.start 15 (fun wx : World => wx.cell? ⟨bx, 7, none⟩ = some (.slice (some ⟨gr, fr, none⟩) N cr2)) (by kernel_rfl) ?_
                  obtain ⟨w9, hw9⟩ : ∃ w9, w9 = w8.drew := ⟨_, rfl⟩
                  have HB9 : Hid (Below w8.heap.size w8 w9) := Lib.hid (by rw [hw9]; exact below_drew _ _)
                  rw [← hw9] at hH ⊢
                  clear hw9
                  refine AnyZ.take (i := 1) (v := ?_) rfl (by kernel_rfl) (fun _ _ _ h => h) (by rfl) hH ?_ ?_
                  rotate_left
                  · intro w hSw
                    go_simp
                    with_reducible rfl
                  try simp only [List.getElem_toArray, List.getElem_cons_succ, List.getElem_cons_zero, Act.put, List.setIfInBounds_toArray, List.set_cons_zero, List.set_cons_succ]
                  refine AnyZ.take (i := 2) (v := ?_) rfl (by kernel_rfl) (fun _ _ _ h => h) (by rfl) hH ?_ ?_
                  rotate_left
                  · intro w hSw
                    go_simp
                    with_reducible rfl
                  try simp only [List.getElem_toArray, List.getElem_cons_succ, List.getElem_cons_zero, Act.put, List.setIfInBounds_toArray, List.set_cons_zero, List.set_cons_succ]
                  refine AnyZ.take (i := 3) (v := ?_) rfl (by kernel_rfl) (fun _ _ _ h => h) (by rfl) hH ?_ ?_
                  rotate_left
                  · intro w hSw
                    go_simp
                    with_reducible rfl
                  try simp only [List.getElem_toArray, List.getElem_cons_succ, List.getElem_cons_zero, Act.put, List.setIfInBounds_toArray, List.set_cons_zero, List.set_cons_succ]
                  refine AnyZ.take (i := 4) (v := ?_) rfl (by kernel_rfl) (fun _ _ _ h => h) (by rfl) hH ?_ ?_
                  rotate_left
                  · intro w hSw
                    go_simp
                    with_reducible rfl
                  try simp only [List.getElem_toArray, List.getElem_cons_succ, List.getElem_cons_zero, Act.put, List.setIfInBounds_toArray, List.set_cons_zero, List.set_cons_succ]
                  refine AnyZ.take (i := 6) (v := ?_) rfl (by kernel_rfl) (fun _ _ _ h => h) (by rfl) hH ?_ ?_
                  rotate_left
                  · intro w hSw
                    go_simp
                    with_reducible rfl
                  try simp only [List.getElem_toArray, List.getElem_cons_succ, List.getElem_cons_zero, Act.put, List.setIfInBounds_toArray, List.set_cons_zero, List.set_cons_succ]
                  refine AnyZ.take (i := 9) (v := ?_) rfl (by kernel_rfl) (fun _ _ _ h => h) (by rfl) hH ?_ ?_
                  rotate_left
                  · intro w hSw
                    go_simp
                    with_reducible rfl
                  try simp only [List.getElem_toArray, List.getElem_cons_succ, List.getElem_cons_zero, Act.put, List.setIfInBounds_toArray, List.set_cons_zero, List.set_cons_succ]
                  refine AnyZ.take (i := 10) (v := ?_) rfl (by kernel_rfl) (fun _ _ _ h => h) (by rfl) hH ?_ ?_
                  rotate_left
                  · intro w hSw
                    go_simp
                    with_reducible rfl
                  try simp only [List.getElem_toArray, List.getElem_cons_succ, List.getElem_cons_zero, Act.put, List.setIfInBounds_toArray, List.set_cons_zero, List.set_cons_succ]
                  refine AnyZ.take (i := 11) (v := ?_) rfl (by kernel_rfl) (fun _ _ _ h => h) (by rfl) hH ?_ ?_
                  rotate_left
                  · intro w hSw
                    go_simp
                    with_reducible rfl
                  try simp only [List.getElem_toArray, List.getElem_cons_succ, List.getElem_cons_zero, Act.put, List.setIfInBounds_toArray, List.set_cons_zero, List.set_cons_succ]
                  refine AnyZ.take (i := 12) (v := ?_) rfl (by kernel_rfl) (fun _ _ _ h => h) (by rfl) hH ?_ ?_
                  rotate_left
                  · intro w hSw
                    go_simp
                    with_reducible rfl
                  try simp only [List.getElem_toArray, List.getElem_cons_succ, List.getElem_cons_zero, Act.put, List.setIfInBounds_toArray, List.set_cons_zero, List.set_cons_succ]
                  generalize (if cr2 = k then some ⟨gr, fr, none⟩ else some ⟨gr, fr + k, none⟩ : Option Addr) = ta at *
                  have HHF : Hid (∀ wx, Below w9.heap.size w9 wx → OL wx 3 1 (.slice (some ⟨gr, fr, none⟩) k cr2) k ((ints R).take k)) := Lib.hid fun wx hb => OL.bel HHD.out (HB9.out.trans (hb.mono HB9.out.size))
                  have HTF : Hid (∀ wx, Below w9.heap.size w9 wx → OL wx 3 1 (.slice ta (N - k) (cr2 - k)) (N - k) ((ints R).drop k)) := Lib.hid fun wx hb => OL.bel HTL.out (HB9.out.trans (hb.mono HB9.out.size))
                  have HBX := Lib.hid (Below.refl w9.heap.size w9)
                  clear HHD HTL
                  refine AnyZ.two (i := 0) (j := 7) rfl rfl (by kernel_rfl) rfl rfl (fun K hK => ?_) (fun K hK => ?_)
                  · skip
                    go_simp
                    have hbX := (Below.refl w9.heap.size w9).alloc (Nat.le_refl _) (.cells #[] 3)
                    have hqX := heap_alloc_new w9 (.cells #[] 3)
                    obtain ⟨gb0, hgX⟩ : ∃ g, w9.heap.size = g := ⟨_, rfl⟩
                    have HGE0 : Hid (w9.heap.size ≤ gb0) := Lib.hid (by have := HBX.out.size; omega)
                    rw [hgX] at hqX ⊢
                    clear hgX
                    generalize w9.alloc (.cells #[] 3) = wo0 at *
                    have F0 := Lib.hid (hqX)
                    have HBX := Lib.hid (HBX.out.trans (hbX.mono HBX.out.size))
                    have hHwo0 := (HS8.out wo0 (HB9.out.trans (HBX.out.mono HB9.out.size)))
                    refine hK.out _ _ (.inr hHwo0) ?_
                    clear hK K hbX hqX
                    refine AnyZ.two (i := 5) (j := 7) rfl rfl (by kernel_rfl) rfl rfl (fun K hK => ?_) (fun K hK => ?_)
                    · skip
                      obtain ⟨ao5, cp5, wo1, hap, ho5, how5, hbX⟩ := app_fresh 37 _ _ Try.underlying37 infoI rfl (by omega) F0.out (OL.src (HHF.out wo0 HBX.out) Try.underlying37 HO1.out) (by unfold maxLen; omega) (by omega)
                      refine wp_append_run (v := .slice (some ⟨gb0, 0, none⟩) 0 0) (xv := .slice (some ⟨gr, fr, none⟩) k cr2) (.tmp 70) (.tmp 74) 37 37 rfl (by rfl) (by rfl) hap ?_
                      have F0 := Lib.hid ((hbX.block _ (lt_of_block F0.out)).trans F0.out)
                      have O5 := Lib.hid (ho5)
                      have W5 := Lib.hid (grown_fresh HGE0.out HBX.out.size how5)
                      have HBX := Lib.hid (HBX.out.trans (hbX.mono HBX.out.size))
                      have hHwo1 := (HS8.out wo1 (HB9.out.trans (HBX.out.mono HB9.out.size)))
                      refine hK.out _ _ (.inr hHwo1) ?_
                      clear hK K hbX hap ho5
                      refine AnyZ.one (i := 7) rfl (by kernel_rfl) rfl (fun K hK => ?_)
                      go_simp
                      have hbX := (Below.refl wo1.heap.size wo1).alloc (Nat.le_refl _) (.cells #[.int .i64 en.1] 3)
                      have hqX := heap_alloc_new wo1 (.cells #[.int .i64 en.1] 3)
                      obtain ⟨gb7, hgX⟩ : ∃ g, wo1.heap.size = g := ⟨_, rfl⟩
                      have HGE7 : Hid (w9.heap.size ≤ gb7) := Lib.hid (by have := HBX.out.size; omega)
                      rw [hgX] at hqX ⊢
                      clear hgX
                      generalize wo1.alloc (.cells #[.int .i64 en.1] 3) = wo2 at *
                      have F0 := Lib.hid ((hbX.block _ (lt_of_block F0.out)).trans F0.out)
                      have O5 := Lib.hid (OL.bel O5.out hbX)
                      have W5 := Lib.hid (W5.out)
                      have F7x := Lib.hid (hqX)
                      have HBX := Lib.hid (HBX.out.trans (hbX.mono HBX.out.size))
                      have hHwo2 := (HS8.out wo2 (HB9.out.trans (HBX.out.mono HB9.out.size)))
                      refine hK.out _ _ (.inr hHwo2) ?_
                      clear hK K hbX hqX
                      refine AnyZ.one (i := 8) rfl (by kernel_rfl) rfl (fun K hK => ?_)
                      obtain ⟨ao8, cp8, wo3, hap, ho8, hg8, how8⟩ := ol_more 37 _ _ Try.underlying37 infoI rfl (by omega) O5.out F7x.out rfl (fun u hu => by simp at hu; rcases hu with rfl; rfl) (by omega) (by omega)
                      have hbX : Below w9.heap.size w9 wo3 := HBX.out.grown hg8 HBX.out.size W5.out
                      have W8 := Lib.hid (grown_own W5.out HBX.out.size how8)
                      refine wp_append_run (v := .slice ao5 k cp5) (xv := .slice (some ⟨gb7, 0, none⟩) 1 1) (.tmp 75) (.tmp 77) 37 37 rfl (by rfl) (by rfl) hap ?_
                      have HBX := Lib.hid hbX
                      have O8 := Lib.hid ho8
                      have hHwo3 := (HS8.out wo3 (HB9.out.trans (HBX.out.mono HB9.out.size)))
                      refine hK.out _ _ (.inr hHwo3) ?_
                      clear hK K hap hbX ho8 hg8 how8
                      refine AnyZ.one (i := 13) rfl (by kernel_rfl) rfl (fun K hK => ?_)
                      obtain ⟨ao13, cp13, wo4, hap, ho13, hg13, how13⟩ := ol_app 37 _ _ Try.underlying37 infoI rfl (by omega) O8.out (HTF.out wo3 HBX.out) HO2.out (by omega) (by omega)
                      have hbX : Below w9.heap.size w9 wo4 := HBX.out.grown hg13 HBX.out.size W8.out
                      have W13 := Lib.hid (grown_own W8.out HBX.out.size how13)
                      have ho13 : OL wo4 3 1 (.slice ao13 (insA R en.1).length cp13) (insA R en.1).length (ints (insA R en.1)) := by rw [← HNL.out, ← HIE.out]; exact ho13
                      have hap : (Builtin.append_ #[37, 37] 37 #[.slice ao8 (k + 1) cp8, .slice ta (N - k) (cr2 - k)]).run Try.prog wo3 = .ok (.slice ao13 (insA R en.1).length cp13) wo4 := by rw [← HNL.out]; exact hap
                      have W13 : Hid (∀ g, (Value.slice ao13 (insA R en.1).length cp13).ownBlock = some g → w9.heap.size ≤ g) := by rw [← HNL.out]; exact W13
                      refine wp_append_run (v := .slice ao8 (k + 1) cp8) (xv := .slice ta (N - k) (cr2 - k)) (.tmp 78) (.tmp 82) 37 37 rfl (by rfl) (by rfl) hap ?_
                      have HBX := Lib.hid hbX
                      have O13 := Lib.hid ho13
                      have hHwo4 := (HS8.out wo4 (HB9.out.trans (HBX.out.mono HB9.out.size)))
                      refine hK.out _ _ (.inr hHwo4) ?_
                      clear hK K hap hbX ho13 hg13 how13
                      refine AnyZ.take (i := 14) (v := ?_) rfl (by kernel_rfl) (fun _ _ _ h => h) (by rfl) hHwo4 ?_ ?_
                      rotate_left
                      · intro w hSw
                        go_simp
                        with_reducible rfl
                      try simp only [List.getElem_toArray, List.getElem_cons_succ, List.getElem_cons_zero, Act.put, List.setIfInBounds_toArray, List.set_cons_zero, List.set_cons_succ]
                      refine AnyZ.one (i := 15) rfl (by kernel_rfl) rfl (fun K hK => ?_)
                      have FX := Lib.hid (F8.out.bel (HB9.out.trans (HBX.out.mono HB9.out.size)))
                      have c7 := has_cell FX.out.bo.o 7
                      have f7 := has_free FX.out.bo.o 7
                      have HN := Lib.hid (FX.out.runs O13.out (fun j hj => by have h1 := W13.out j hj; have h2 := HB9.out.size; have h3 := HW8.out.1; exact ⟨by omega, fun e => by have := HW8.out.2 j e; omega⟩))
                      go_simp
                      refine hK.out _ _ (.inl rfl) ?_
                      clear hK K c7 f7
                      refine AnyZ.done (by kernel_rfl) ?_ _
                      go_wp2_with fail
                      go_meet
                      case rel => exact ⟨_, by rw [HDB.out]; exact HN.out⟩
                    · skip
                      go_simp
                      have hbX := (Below.refl wo0.heap.size wo0).alloc (Nat.le_refl _) (.cells #[.int .i64 en.1] 3)
                      have hqX := heap_alloc_new wo0 (.cells #[.int .i64 en.1] 3)
                      obtain ⟨gb7, hgX⟩ : ∃ g, wo0.heap.size = g := ⟨_, rfl⟩
                      have HGE7 : Hid (w9.heap.size ≤ gb7) := Lib.hid (by have := HBX.out.size; omega)
                      rw [hgX] at hqX ⊢
                      clear hgX
                      generalize wo0.alloc (.cells #[.int .i64 en.1] 3) = wo1 at *
                      have F0 := Lib.hid ((hbX.block _ (lt_of_block F0.out)).trans F0.out)
                      have F7x := Lib.hid (hqX)
                      have HBX := Lib.hid (HBX.out.trans (hbX.mono HBX.out.size))
                      have hHwo1 := (HS8.out wo1 (HB9.out.trans (HBX.out.mono HB9.out.size)))
                      refine hK.out _ _ (.inr hHwo1) ?_
                      clear hK K hbX hqX
                      refine AnyZ.one (i := 5) rfl (by kernel_rfl) rfl (fun K hK => ?_)
                      obtain ⟨ao5, cp5, wo2, hap, ho5, how5, hbX⟩ := app_fresh 37 _ _ Try.underlying37 infoI rfl (by omega) F0.out (OL.src (HHF.out wo1 HBX.out) Try.underlying37 HO1.out) (by unfold maxLen; omega) (by omega)
                      refine wp_append_run (v := .slice (some ⟨gb0, 0, none⟩) 0 0) (xv := .slice (some ⟨gr, fr, none⟩) k cr2) (.tmp 70) (.tmp 74) 37 37 rfl (by rfl) (by rfl) hap ?_
                      have F0 := Lib.hid ((hbX.block _ (lt_of_block F0.out)).trans F0.out)
                      have F7x := Lib.hid ((hbX.block _ (lt_of_block F7x.out)).trans F7x.out)
                      have O5 := Lib.hid (ho5)
                      have W5 := Lib.hid (grown_fresh HGE0.out HBX.out.size how5)
                      have HBX := Lib.hid (HBX.out.trans (hbX.mono HBX.out.size))
                      have hHwo2 := (HS8.out wo2 (HB9.out.trans (HBX.out.mono HB9.out.size)))
                      refine hK.out _ _ (.inr hHwo2) ?_
                      clear hK K hbX hap ho5
                      refine AnyZ.one (i := 8) rfl (by kernel_rfl) rfl (fun K hK => ?_)
                      obtain ⟨ao8, cp8, wo3, hap, ho8, hg8, how8⟩ := ol_more 37 _ _ Try.underlying37 infoI rfl (by omega) O5.out F7x.out rfl (fun u hu => by simp at hu; rcases hu with rfl; rfl) (by omega) (by omega)
                      have hbX : Below w9.heap.size w9 wo3 := HBX.out.grown hg8 HBX.out.size W5.out
                      have W8 := Lib.hid (grown_own W5.out HBX.out.size how8)
                      refine wp_append_run (v := .slice ao5 k cp5) (xv := .slice (some ⟨gb7, 0, none⟩) 1 1) (.tmp 75) (.tmp 77) 37 37 rfl (by rfl) (by rfl) hap ?_
                      have HBX := Lib.hid hbX
                      have O8 := Lib.hid ho8
                      have hHwo3 := (HS8.out wo3 (HB9.out.trans (HBX.out.mono HB9.out.size)))
                      refine hK.out _ _ (.inr hHwo3) ?_
                      clear hK K hap hbX ho8 hg8 how8
                      refine AnyZ.one (i := 13) rfl (by kernel_rfl) rfl (fun K hK => ?_)
                      obtain ⟨ao13, cp13, wo4, hap, ho13, hg13, how13⟩ := ol_app 37 _ _ Try.underlying37 infoI rfl (by omega) O8.out (HTF.out wo3 HBX.out) HO2.out (by omega) (by omega)
                      have hbX : Below w9.heap.size w9 wo4 := HBX.out.grown hg13 HBX.out.size W8.out
                      have W13 := Lib.hid (grown_own W8.out HBX.out.size how13)
                      have ho13 : OL wo4 3 1 (.slice ao13 (insA R en.1).length cp13) (insA R en.1).length (ints (insA R en.1)) := by rw [← HNL.out, ← HIE.out]; exact ho13
                      have hap : (Builtin.append_ #[37, 37] 37 #[.slice ao8 (k + 1) cp8, .slice ta (N - k) (cr2 - k)]).run Try.prog wo3 = .ok (.slice ao13 (insA R en.1).length cp13) wo4 := by rw [← HNL.out]; exact hap
                      have W13 : Hid (∀ g, (Value.slice ao13 (insA R en.1).length cp13).ownBlock = some g → w9.heap.size ≤ g) := by rw [← HNL.out]; exact W13
                      refine wp_append_run (v := .slice ao8 (k + 1) cp8) (xv := .slice ta (N - k) (cr2 - k)) (.tmp 78) (.tmp 82) 37 37 rfl (by rfl) (by rfl) hap ?_
                      have HBX := Lib.hid hbX
                      have O13 := Lib.hid ho13
                      have hHwo4 := (HS8.out wo4 (HB9.out.trans (HBX.out.mono HB9.out.size)))
                      refine hK.out _ _ (.inr hHwo4) ?_
                      clear hK K hap hbX ho13 hg13 how13
                      refine AnyZ.take (i := 14) (v := ?_) rfl (by kernel_rfl) (fun _ _ _ h => h) (by rfl) hHwo4 ?_ ?_
                      rotate_left
                      · intro w hSw
                        go_simp
                        with_reducible rfl
                      try simp only [List.getElem_toArray, List.getElem_cons_succ, List.getElem_cons_zero, Act.put, List.setIfInBounds_toArray, List.set_cons_zero, List.set_cons_succ]
                      refine AnyZ.one (i := 15) rfl (by kernel_rfl) rfl (fun K hK => ?_)
                      have FX := Lib.hid (F8.out.bel (HB9.out.trans (HBX.out.mono HB9.out.size)))
                      have c7 := has_cell FX.out.bo.o 7
                      have f7 := has_free FX.out.bo.o 7
                      have HN := Lib.hid (FX.out.runs O13.out (fun j hj => by have h1 := W13.out j hj; have h2 := HB9.out.size; have h3 := HW8.out.1; exact ⟨by omega, fun e => by have := HW8.out.2 j e; omega⟩))
                      go_simp
                      refine hK.out _ _ (.inl rfl) ?_
                      clear hK K c7 f7
                      refine AnyZ.done (by kernel_rfl) ?_ _
                      go_wp2_with fail
                      go_meet
                      case rel => exact ⟨_, by rw [HDB.out]; exact HN.out⟩
                  · skip
                    go_simp
                    have hbX := (Below.refl w9.heap.size w9).alloc (Nat.le_refl _) (.cells #[.int .i64 en.1] 3)
                    have hqX := heap_alloc_new w9 (.cells #[.int .i64 en.1] 3)
                    obtain ⟨gb7, hgX⟩ : ∃ g, w9.heap.size = g := ⟨_, rfl⟩
                    have HGE7 : Hid (w9.heap.size ≤ gb7) := Lib.hid (by have := HBX.out.size; omega)
                    rw [hgX] at hqX ⊢
                    clear hgX
                    generalize w9.alloc (.cells #[.int .i64 en.1] 3) = wo0 at *
                    have F7x := Lib.hid (hqX)
                    have HBX := Lib.hid (HBX.out.trans (hbX.mono HBX.out.size))
                    have hHwo0 := (HS8.out wo0 (HB9.out.trans (HBX.out.mono HB9.out.size)))
                    refine hK.out _ _ (.inr hHwo0) ?_
                    clear hK K hbX hqX
                    refine AnyZ.one (i := 0) rfl (by kernel_rfl) rfl (fun K hK => ?_)
                    go_simp
                    have hbX := (Below.refl wo0.heap.size wo0).alloc (Nat.le_refl _) (.cells #[] 3)
                    have hqX := heap_alloc_new wo0 (.cells #[] 3)
                    obtain ⟨gb0, hgX⟩ : ∃ g, wo0.heap.size = g := ⟨_, rfl⟩
                    have HGE0 : Hid (w9.heap.size ≤ gb0) := Lib.hid (by have := HBX.out.size; omega)
                    rw [hgX] at hqX ⊢
                    clear hgX
                    generalize wo0.alloc (.cells #[] 3) = wo1 at *
                    have F7x := Lib.hid ((hbX.block _ (lt_of_block F7x.out)).trans F7x.out)
                    have F0 := Lib.hid (hqX)
                    have HBX := Lib.hid (HBX.out.trans (hbX.mono HBX.out.size))
                    have hHwo1 := (HS8.out wo1 (HB9.out.trans (HBX.out.mono HB9.out.size)))
                    refine hK.out _ _ (.inr hHwo1) ?_
                    clear hK K hbX hqX
                    refine AnyZ.one (i := 5) rfl (by kernel_rfl) rfl (fun K hK => ?_)
                    obtain ⟨ao5, cp5, wo2, hap, ho5, how5, hbX⟩ := app_fresh 37 _ _ Try.underlying37 infoI rfl (by omega) F0.out (OL.src (HHF.out wo1 HBX.out) Try.underlying37 HO1.out) (by unfold maxLen; omega) (by omega)
                    refine wp_append_run (v := .slice (some ⟨gb0, 0, none⟩) 0 0) (xv := .slice (some ⟨gr, fr, none⟩) k cr2) (.tmp 70) (.tmp 74) 37 37 rfl (by rfl) (by rfl) hap ?_
                    have F0 := Lib.hid ((hbX.block _ (lt_of_block F0.out)).trans F0.out)
                    have F7x := Lib.hid ((hbX.block _ (lt_of_block F7x.out)).trans F7x.out)
                    have O5 := Lib.hid (ho5)
                    have W5 := Lib.hid (grown_fresh HGE0.out HBX.out.size how5)
                    have HBX := Lib.hid (HBX.out.trans (hbX.mono HBX.out.size))
                    have hHwo2 := (HS8.out wo2 (HB9.out.trans (HBX.out.mono HB9.out.size)))
                    refine hK.out _ _ (.inr hHwo2) ?_
                    clear hK K hbX hap ho5
                    refine AnyZ.one (i := 8) rfl (by kernel_rfl) rfl (fun K hK => ?_)
                    obtain ⟨ao8, cp8, wo3, hap, ho8, hg8, how8⟩ := ol_more 37 _ _ Try.underlying37 infoI rfl (by omega) O5.out F7x.out rfl (fun u hu => by simp at hu; rcases hu with rfl; rfl) (by omega) (by omega)
                    have hbX : Below w9.heap.size w9 wo3 := HBX.out.grown hg8 HBX.out.size W5.out
                    have W8 := Lib.hid (grown_own W5.out HBX.out.size how8)
                    refine wp_append_run (v := .slice ao5 k cp5) (xv := .slice (some ⟨gb7, 0, none⟩) 1 1) (.tmp 75) (.tmp 77) 37 37 rfl (by rfl) (by rfl) hap ?_
                    have HBX := Lib.hid hbX
                    have O8 := Lib.hid ho8
                    have hHwo3 := (HS8.out wo3 (HB9.out.trans (HBX.out.mono HB9.out.size)))
                    refine hK.out _ _ (.inr hHwo3) ?_
                    clear hK K hap hbX ho8 hg8 how8
                    refine AnyZ.one (i := 13) rfl (by kernel_rfl) rfl (fun K hK => ?_)
                    obtain ⟨ao13, cp13, wo4, hap, ho13, hg13, how13⟩ := ol_app 37 _ _ Try.underlying37 infoI rfl (by omega) O8.out (HTF.out wo3 HBX.out) HO2.out (by omega) (by omega)
                    have hbX : Below w9.heap.size w9 wo4 := HBX.out.grown hg13 HBX.out.size W8.out
                    have W13 := Lib.hid (grown_own W8.out HBX.out.size how13)
                    have ho13 : OL wo4 3 1 (.slice ao13 (insA R en.1).length cp13) (insA R en.1).length (ints (insA R en.1)) := by rw [← HNL.out, ← HIE.out]; exact ho13
                    have hap : (Builtin.append_ #[37, 37] 37 #[.slice ao8 (k + 1) cp8, .slice ta (N - k) (cr2 - k)]).run Try.prog wo3 = .ok (.slice ao13 (insA R en.1).length cp13) wo4 := by rw [← HNL.out]; exact hap
                    have W13 : Hid (∀ g, (Value.slice ao13 (insA R en.1).length cp13).ownBlock = some g → w9.heap.size ≤ g) := by rw [← HNL.out]; exact W13
                    refine wp_append_run (v := .slice ao8 (k + 1) cp8) (xv := .slice ta (N - k) (cr2 - k)) (.tmp 78) (.tmp 82) 37 37 rfl (by rfl) (by rfl) hap ?_
                    have HBX := Lib.hid hbX
                    have O13 := Lib.hid ho13
                    have hHwo4 := (HS8.out wo4 (HB9.out.trans (HBX.out.mono HB9.out.size)))
                    refine hK.out _ _ (.inr hHwo4) ?_
                    clear hK K hap hbX ho13 hg13 how13
                    refine AnyZ.take (i := 14) (v := ?_) rfl (by kernel_rfl) (fun _ _ _ h => h) (by rfl) hHwo4 ?_ ?_
                    rotate_left
                    · intro w hSw
                      go_simp
                      with_reducible rfl
                    try simp only [List.getElem_toArray, List.getElem_cons_succ, List.getElem_cons_zero, Act.put, List.setIfInBounds_toArray, List.set_cons_zero, List.set_cons_succ]
                    refine AnyZ.one (i := 15) rfl (by kernel_rfl) rfl (fun K hK => ?_)
                    have FX := Lib.hid (F8.out.bel (HB9.out.trans (HBX.out.mono HB9.out.size)))
                    have c7 := has_cell FX.out.bo.o 7
                    have f7 := has_free FX.out.bo.o 7
                    have HN := Lib.hid (FX.out.runs O13.out (fun j hj => by have h1 := W13.out j hj; have h2 := HB9.out.size; have h3 := HW8.out.1; exact ⟨by omega, fun e => by have := HW8.out.2 j e; omega⟩))
                    go_simp
                    refine hK.out _ _ (.inl rfl) ?_
                    clear hK K c7 f7
                    refine AnyZ.done (by kernel_rfl) ?_ _
                    go_wp2_with fail
                    go_meet
                    case rel => exact ⟨_, by rw [HDB.out]; exact HN.out⟩
              case rest =>
                obtain ⟨q9, hF9⟩ := hcut
                obtain ⟨ao9, cap9, w10, hap, hi10, hg10, hown10⟩ := int_append hF9.v (by omega) en.1
                have F10 : Hid (StD w K bx rx g s.m q9 lv2 lva (docOf (s'.began f1 now en.1)) (asd (s'.began f1 now en.1) a) (o ++ [en.1]) (.slice ao9 (o.length + 1) cap9) w10) := Lib.hid (by
                  have e : asd (s'.began f1 now en.1) a = asd s' a := funext fun t => asd_began HCH.out.2.2.1 now t
                  rw [e]
                  exact hF9.out hg10 hi10 hown10)
                have HAP := Lib.hid hap
                clear hap hi10 hg10 hown10 hF9 F8
                go_wp2_with (refine wpList_append_run (v := Value.slice vao o.length vcap) (xv := .slice (some ⟨wc.heap.size, 0, none⟩) 1 1) rfl (.tmp 85) (.tmp 87) _ _ rfl (by rfl) (by rfl) HAP.out ?_)
                go_roundg ((256 - (N + 1)) + (16 - a.length) + 1)
                case rel => exact ⟨s'.began f1 now en.1, o ++ [en.1], a, q9, _, lva, F10.out, HLK.out.began HCH.out.1 HCH.out.2.1 HFU.out now, fun s1 o1 a1 hs => HLP.out _ _ _ (.ok s' o a f1 en r _ _ _ HFU.out HCH.out.1 HCH.out.2.1 HTK.out hs), by show _ ≤ (s'.run ++ [en.1]).length; rw [List.length_append, List.length_append]; have := HOL.out; simp; omega, HMM.out, by show (256 - (s'.run ++ [en.1]).length) + _ < _; rw [List.length_append, List.length_singleton, HNQ.out]; exact Nat.lt_succ_self _⟩
                case measure => have := HGK.out; have := HNQ.out; have := HFU.out; have := HLK.out.s1; omega
      · have d0 : decide ((s'.run.length : Int) < s'.slots) = false := decide_eq_false hfull
        have HFU := Lib.hid hfull
        clear hfull
        go_wp2_with fail
        go_meet
        case rel => exact ⟨s', o, a, _, _, _, F0.out, HLK.out, HLP.out _ _ _ (.full s' o a (by have := HFU.out; omega)), HMM.out, by omega⟩
  case rest =>
    clear HST
    obtain ⟨s1, o, a, q, lv, lva, hF, hL, hS, hmm, hol⟩ := hcut
    obtain ⟨vao, vcap, hov, hvc, hvc2, _⟩ := OL.shape hF.v
    subst hov
    have HLK := Lib.hid hL
    have HSL := Lib.hid hS
    have HMM := Lib.hid hmm
    have F0 : Hid (StD w K bx rx g s.m q lv lva { docOf s1 with f := putB s1 a 0 } (asd s1 a) o (Value.slice vao o.length vcap) wc) := Lib.hid hF
    clear hF hL hS hmm
    go_wp2_with fail
    go_loopw [119] (fun kv wr => ∃ (k : Nat) (q2 : DQ) (lv2 : List Value), k ≤ s.m ∧ kv = .int .i64 k ∧ StD w K bx rx g s.m q2 lv2 lva { docOf s1 with f := putB s1 a k } (asd s1 a) o (Value.slice vao o.length vcap) wr) (fun kv _ => s.m - (intOf kv).toNat)
    case atStart => exact ⟨0, _, _, Nat.zero_le _, rfl, F0.out⟩
    case round =>
      clear F0
      obtain ⟨k, q2, lv2, hk, rfl, hF⟩ := hrel
      have F1 := Lib.hid hF
      clear hF
      by_cases hlt : k < s.m
      · have dk : decide ((k : Int) < (s.m : Int)) = true := decide_eq_true (by omega)
        have kI : (k : Int) < (s.m : Int) := by omega
        have hk1 : k < s1.m := by rw [HMM.out]; exact hlt
        have hlen := asd_len HLK.out hk1
        have hu := F1.out.e k hlt
        obtain ⟨bo, bc, hbv, hbc, hbc2, hba⟩ := OL.shape hu
        have a0 : wr.cell? ⟨g, k, none⟩ = some (lva.getD k nilS) := (has_cell F1.out.g k).trans (by simp [List.getD, show k < lva.length by rw [F1.out.len]; exact hlt])
        rw [hbv] at a0
        have HBV := Lib.hid hbv
        have HBA := Lib.hid hba
        obtain ⟨n, hn⟩ : ∃ n, (asd s1 a k).length = n := ⟨_, rfl⟩
        have HN := Lib.hid hn
        rw [hn] at a0 hlen hbc HBV HBA
        have HF1 : Hid (StD w K bx rx g s.m q2 lv2 lva { docOf s1 with f := putF s1 a k 0 } (asd s1 a) o (Value.slice vao o.length vcap) wr) := Lib.hid (by rw [putF_zero HLK.out hk1]; exact F1.out)
        have HK1 := Lib.hid hk1
        clear hbv hba hn hu hk1 F1
        obtain ⟨wo, hwo⟩ : ∃ wo : World, wo = wr := ⟨_, rfl⟩
        subst hwo
        go_wp2_with fail
        clear a0
        go_loopw [126] (fun jv wx => ∃ (j : Nat) (q3 : DQ) (lv3 : List Value), j ≤ n ∧ jv = .int .i64 j ∧ StD w K bx rx g s.m q3 lv3 lva { docOf s1 with f := putF s1 a k j } (asd s1 a) o (Value.slice vao o.length vcap) wx) (fun jv _ => n - (intOf jv).toNat)
        case atStart => exact ⟨0, _, _, Nat.zero_le _, rfl, HF1.out⟩
        case round =>
          clear HF1
          obtain ⟨j, q3, lv3, hj, rfl, hF⟩ := hrel
          have F8 := Lib.hid hF
          clear hF
          by_cases hjn : j < n
          · have hjl : j < (asd s1 a k).length := by rw [HN.out]; exact hjn
            obtain ⟨mF, shF⟩ := putF_m HLK.out HK1.out (j := j)
            obtain ⟨ob2, cb3, oq2, cq3, od2, cd3, ol2, cl3, oR2, cr3, hq2, -, -, -⟩ := F8.out.d.shapes
            have hq2 : q3 = ⟨.slice ob2 (docOf s1).bks.length cb3, .slice oq2 (putF s1 a k j).m cq3, .slice od2 (putF s1 a k j).m cd3, .slice ol2 (putF s1 a k j).m cl3, .slice oR2 (docOf s1).run.length cr3⟩ := hq2
            rw [docOf_len, mF, HMM.out, docOf_run] at hq2
            subst hq2
            have hOL : OL wr 129 2 (.slice bo n bc) n (entCells (asd s1 a k)) := by
              have h1 := F8.out.e k hlt
              rw [HBV.out, HN.out] at h1
              exact h1
            obtain ⟨ge, oe, rfl⟩ := HBA.out (by omega)
            obtain ⟨e0, e1⟩ := ent_at (l := asd s1 a k) (by rw [HN.out]; exact hOL) hjl
            rw [show (asd s1 a k).getD j (0, 0) = (asd s1 a k)[j] by simp [List.getD, hjl]] at e0 e1
            have HPS := Lib.hid (putF_step HLK.out HK1.out (List.getElem?_eq_getElem hjl))
            obtain ⟨x, hx⟩ : ∃ x, (asd s1 a k)[j] = x := ⟨_, rfl⟩
            rw [hx] at e0 e1 HPS
            have hba := (Below.refl wr.heap.size wr).alloc (Nat.le_refl _) (.cells #[.int .i64 x.1, .int .i64 x.2] 129)
            have HXB := Lib.hid (heap_alloc_new wr (.cells #[.int .i64 x.1, .int .i64 x.2] 129))
            have F9 := Lib.hid (F8.out.bel hba)
            have jI : (j : Int) < (n : Int) := by omega
            have jI0 : (0 : Int) ≤ (j : Int) := by omega
            have HMF := Lib.hid (And.intro (mF.trans HMM.out) shF)
            clear hba hx hOL hjl mF shF F8
            go_upto_region 25 with fail
            clear e0 e1
            generalize wr.alloc (.cells #[.int .i64 x.1, .int .i64 x.2] 129) = w8 at *
            generalize wr.heap.size = xb at *
            have hx8 : w8.heap[bx]? = some (.cells #[.int .i64 s1.slots, .slice ob2 s.m cb3, .slice oq2 s.m cq3, .slice od2 s.m cd3, .slice ol2 s.m cl3, .int .i64 (putF s1 a k j).cur, .bool (putF s1 a k j).begun, .slice oR2 s1.run.length cr3] 57 (0, 0)) := F9.out.bo.o
            obtain ⟨⟨x0, x1, x2, x3, x4, x5, x6, x7⟩, _⟩ := get8 hx8
            have b0 := (has_cell HXB.out 0).trans (show _ = some (Value.int .i64 x.1) from rfl)
            have b1 := (has_cell HXB.out 1).trans (show _ = some (Value.int .i64 x.2) from rfl)
            have CC : Hid (Calls Try.prog 57 #[.agg #[.slice oq2 s.m cq3, .slice od2 s.m cd3, .slice ol2 s.m cl3, .int .i64 (putF s1 a k j).cur, .bool (putF s1 a k j).begun], .int .i64 k, .int .i64 x.1, .int .i64 x.2] w8 (RetP (StJ K w g (Value.slice vao o.length vcap)) (putS (putF s1 a k j) k x.1 x.2) (.int .i64 (putE (putF s1 a k j) k x.1 x.2)) w8)) := Lib.hid (by
              have := rput_any F9.out.d.f (by show 1 ≤ (putF s1 a k j).m; rw [HMF.out.1]; exact hm1) (by show (putF s1 a k j).m ≤ 1000; rw [HMF.out.1]; omega) HMF.out.2 k x.1 x.2
              have this : Calls Try.prog 57 #[.agg #[.slice oq2 s.m cq3, .slice od2 s.m cd3, .slice ol2 s.m cl3, .int .i64 (putF s1 a k j).cur, .bool (putF s1 a k j).begun], .int .i64 k, .int .i64 x.1, .int .i64 x.2] w8 _ := this
              exact this)
            clear hx8
            generalize (putF s1 a k j).cur = cuj at *
            generalize (putF s1 a k j).begun = bgj at *
            go_wp2_with fail
            clear x0 x1 x2 x3 x4 x5 x6 x7 b0 b1
            refine CC.out.mono ?_
            rintro e w9 ⟨vq2, vd2, vl2, lv4, he, hr9, hb9⟩
            rw [HPS.out] at he hr9
            obtain ⟨qo3, qc3, rfl, _⟩ := hr9.a.q.shape
            obtain ⟨eo3, ec3, rfl, _⟩ := hr9.a.d.shape
            obtain ⟨lo3, lc3, rfl, _⟩ := hr9.a.l.shape
            subst he
            generalize putE (putF s1 a k j) k x.1 x.2 = pe at *
            have HWR8 : Hid (w.heap.size ≤ w8.heap.size ∧ g < w8.heap.size ∧ ∀ k, (Value.slice vao o.length vcap).ownBlock = some k → k < w8.heap.size) := Lib.hid ⟨F9.out.bo.b.size, lt_of_block F9.out.g, fun k hk => OL.lt F9.out.v k hk⟩
            have F10 := Lib.hid (F9.out.bel hb9)
            have HR10 := Lib.hid (hr9.more (stJ_more HWR8.out.1 HWR8.out.2.1 HWR8.out.2.2))
            have F11 := Lib.hid (F10.out.queue HR10.out)
            obtain ⟨⟨x0, x1, x2, x3, x4, x5, x6, x7⟩, z⟩ := get8 F10.out.bo.o
            clear hr9 hb9 F9 F10 HR10 CC HPS HXB HMF
            unfold rqV
            generalize (putF s1 a k (j + 1)).m = mj at *
            generalize hcuj : (putF s1 a k (j + 1)).cur = cj at *
            generalize hbgj : (putF s1 a k (j + 1)).begun = gj at *
            clear hcuj hbgj
            go_upto_region 26 with fail
            clear x0 x1 x2 x3 x4 x5 x6 x7 z
            generalize (((((w9.setCell ⟨bx, 2, none⟩ (.slice qo3 mj qc3)).setCell ⟨bx, 3, none⟩ (.slice eo3 mj ec3)).setCell ⟨bx, 4, none⟩ (.slice lo3 mj lc3)).setCell ⟨bx, 5, none⟩ (.int .i64 cj)).setCell ⟨bx, 6, none⟩ (.bool gj)) = w11 at *
            go_wp2_with fail
            go_roundw
            case rel => exact ⟨j + 1, _, lv4, by omega, by go_num, F11.out⟩
            case measure => simp [intOf]; omega
          · obtain rfl : j = n := by omega
            have F9 : Hid (StD w K bx rx g s.m q3 lv3 lva { docOf s1 with f := putB s1 a (k + 1) } (asd s1 a) o (Value.slice vao o.length vcap) wr) := Lib.hid (by
              rw [← putF_end, HN.out]
              exact F8.out)
            clear F8
            go_wp2_with fail
            go_roundw
            case rel => exact ⟨k + 1, q3, lv3, by omega, by go_num, F9.out⟩
            case measure => simp [intOf]; omega
      · obtain rfl : k = s.m := by omega
        have dk : decide ((s.m : Int) < (s.m : Int)) = false := decide_eq_false (by omega)
        have F2 : Hid (StD w K bx rx g s.m q2 lv2 lva (docOf s1.back) (asd s1 a) o (Value.slice vao o.length vcap) wr) := Lib.hid (by rw [← docOf_putB HLK.out, HMM.out]; exact F1.out)
        obtain ⟨ob2, cb3, oq2, cq3, od2, cd3, ol2, cl3, oR2, cr3, hq2, -, -, -⟩ := F2.out.d.shapes
        subst hq2
        have HX : Hid (wr.heap[bx]? = some (.cells #[.int .i64 (docOf s1.back).slots, .slice ob2 (docOf s1.back).bks.length cb3, .slice oq2 (docOf s1.back).f.m cq3, .slice od2 (docOf s1.back).f.m cd3, .slice ol2 (docOf s1.back).f.m cl3, .int .i64 (docOf s1.back).f.cur, .bool (docOf s1.back).f.begun, .slice oR2 (docOf s1.back).run.length cr3] 57 (0, 0))) := Lib.hid F2.out.bo.o
        have HRX : Hid (wr.heap[rx]? = some (.cells #[.int .i64 0, .slice none 0 0, .slice none 0 0, .slice none 0 0, .slice none 0 0, .int .i64 0, .bool false, .slice none 0 0] 57 (0, 0))) := Lib.hid F2.out.bo.r
        have HFR := Lib.hid (setRow_heap _ _ _ #[.int .i64 (docOf s1.back).slots, .slice ob2 (docOf s1.back).bks.length cb3, .slice oq2 (docOf s1.back).f.m cq3, .slice od2 (docOf s1.back).f.m cd3, .slice ol2 (docOf s1.back).f.m cl3, .int .i64 (docOf s1.back).f.cur, .bool (docOf s1.back).f.begun, .slice oR2 (docOf s1.back).run.length cr3] _ _ HRX.out)
        have HFI := Lib.hid (F2.out.fin #[.int .i64 (docOf s1.back).slots, .slice ob2 (docOf s1.back).bks.length cb3, .slice oq2 (docOf s1.back).f.m cq3, .slice od2 (docOf s1.back).f.m cd3, .slice ol2 (docOf s1.back).f.m cl3, .int .i64 (docOf s1.back).f.cur, .bool (docOf s1.back).f.begun, .slice oR2 (docOf s1.back).run.length cr3])
        clear F1
        go_wp2_with (first
          | (refine wpList_load_row rfl 57 (.tmp 2) rfl bx (by rfl) 57 #[.int .i64 (docOf s1.back).slots, .slice ob2 (docOf s1.back).bks.length cb3, .slice oq2 (docOf s1.back).f.m cq3, .slice od2 (docOf s1.back).f.m cd3, .slice ol2 (docOf s1.back).f.m cl3, .int .i64 (docOf s1.back).f.cur, .bool (docOf s1.back).f.begun, .slice oR2 (docOf s1.back).run.length cr3] (0, 0) _ HX.out Try.underlying57 rfl infoDA ?_)
          | (refine wpList_store_row rfl 57 (.tmp 4) (.tmp 144) rfl rx #[.int .i64 (docOf s1.back).slots, .slice ob2 (docOf s1.back).bks.length cb3, .slice oq2 (docOf s1.back).f.m cq3, .slice od2 (docOf s1.back).f.m cd3, .slice ol2 (docOf s1.back).f.m cl3, .int .i64 (docOf s1.back).f.cur, .bool (docOf s1.back).f.begun, .slice oR2 (docOf s1.back).run.length cr3] (by rfl) (by rfl) 57 _ HRX.out infoDA rfl (by simp [Value.oneCell']) ?_))
        try simp only [Exit.inBlock, Exit.then]
        refine bodyPost_ret (results_cell2 rfl _ _ rx 57 _ (0, 0) _ rfl HFR.out Try.underlying57 rfl infoDA) rfl ?_
        exact ⟨s1, o, a, _, lv2, _, rfl, HSL.out, HFI.out.1, HFI.out.2.1, F2.out.kv, HFI.out.2.2⟩
end
theorem rstart_any {K : Nat → Prop} {w : World} {lv : List Value} {s : AS} {q : DQ} (h : DAt K w q lv (docOf s)) (ok : AOk s) (now : Int) : Calls Try.prog 24 #[daV q (docOf s), .int .i64 now] w (RStartP K s now w) := by
  obtain ⟨ab, cb, aq, cq, ad, cd, al, cl, ar, cr, hq, -, -, -⟩ := h.shapes
  rw [docOf_len, show (docOf s).f.m = s.m from ok.lf, docOf_run] at hq
  subst hq
  exact rstart_ex h ok now
end Go.Proofs.Ytmdajndmobpgbaa

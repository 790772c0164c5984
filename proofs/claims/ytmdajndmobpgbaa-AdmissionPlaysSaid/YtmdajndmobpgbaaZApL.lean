/- The document's When. Conditions: the admission is the program's, and good. -/
import Derived.Test.YtmdajndmobpgbaaZApG
import Derived.Test.YtmdajndmobpgbaaZApS
namespace Go.Proofs.Ytmdajndmobpgbaa
open Go.RowKit
open Go.Proofs.Ytmdajndmobpgbaa.Fq
open Go.Proofs.Ytmdajndmobpgbaa.Bk

def rwhenVO : Option Int → Value
  | none => .tuple #[.int .i64 0, .int .i64 3]
  | some x => .tuple #[.int .i64 x, .int .i64 0]
def BestR (acc : Option Int) (bv fv : Value) : Prop := (acc = none ∧ bv = .int .i64 0 ∧ fv = .bool false) ∨ ∃ x, acc = some x ∧ bv = .int .i64 x ∧ fv = .bool true
section
variable {K : Nat → Prop} {w : World} {lv : List Value} {s : AS} {q : DQ}
/-- What When reads of a tenant. -/
theorem DAt.bucket {a : DA} {ab al : Option Addr} {cb cl m : Nat} (h : DAt K w q lv a) (hb : q.b = .slice ab m cb) (hl : q.l = .slice al m cl) (hbl : a.bks.length = m) (hfm : a.f.m = m) {t : Nat} (ht : t < m) {x : DB} (hx : a.bks.getD t nilDB = x) :
    ∃ gb ob gl ol bo c, ab = some ⟨gb, ob, none⟩ ∧ al = some ⟨gl, ol, none⟩ ∧ (w.cell? ⟨gb, ob + t * 5, none⟩ = some (.int .i64 x.b) ∧ w.cell? ⟨gb, ob + t * 5 + 1, none⟩ = some (.int .i64 x.t) ∧ w.cell? ⟨gb, ob + t * 5 + 2, none⟩ = some (.int .i64 x.k) ∧ w.cell? ⟨gb, ob + t * 5 + 3, none⟩ = some (.int .i64 x.p) ∧ w.cell? ⟨gb, ob + t * 5 + 4, none⟩ = some (.int .i64 x.l)) ∧
      w.cell? ⟨gl, ol + t, none⟩ = some (.slice bo (a.f.lst t).length c) ∧ (a.f.lst t).length ≤ c ∧ c ≤ 9223372036854775807 := by
  have h1 := h.b
  rw [hb, ← hbl] at h1
  obtain ⟨gb, ob, rfl, hc⟩ := RowsAt.at_ h1 dbC_len (by rw [hbl]; exact ht) nilDB
  rw [hx] at hc
  have h2 := h.f.a
  have h3 := h2.l
  rw [hl] at h3
  obtain ⟨gl, ol, _, e2, _⟩ := OL.form h3 (by omega)
  simp only [Value.slice.injEq] at e2
  obtain ⟨rfl, -, -⟩ := e2
  rw [hl, ← hfm] at h2
  obtain ⟨bo, c, h4, h5, h6⟩ := list_at h2 (by omega) (t := t) (by rw [hfm]; exact ht)
  exact ⟨gb, ob, gl, ol, bo, c, rfl, rfl, ⟨hc 0 (by omega), hc 1 (by omega), hc 2 (by omega), hc 3 (by omega), hc 4 (by omega)⟩, h4, h5, h6⟩
set_option maxRecDepth 100000 in
set_option maxHeartbeats 6400000 in
theorem rwhen_all (h : DAt K w q lv (docOf s)) (ok : AOk s) (now : Int) : Calls Try.prog 27 #[daV q (docOf s), .int .i64 now] w fun e w' => e = .returned (rwhenVO (wBest s now s.m)) ∧ Below w.heap.size w w' := by
  have hfm : (docOf s).f.m = s.m := ok.lf
  have hbl : (docOf s).bks.length = s.m := docOf_len s
  have hm16 : s.m ≤ 16 := by have := ok.g.m2; have := ok.lf; omega
  have HLQ : Hid (∀ t, t < s.m → (docOf s).f.lst t = s.q t) := Lib.hid fun t ht => ok.fe t ht (by simp)
  have HDB : Hid (∀ t, t < s.m → (docOf s).bks.getD t nilDB = dbOf s t) := Lib.hid fun t ht => docOf_get ht
  have OK := Lib.hid ok
  obtain ⟨ab, cb, aq, cq, ad, cd, al, cl, ar, cr, rfl, ⟨hcb, hcb2⟩, ⟨hcl, hcl2⟩, ⟨hcr, hcr2⟩⟩ := h.shapes
  have CPR := Lib.hid (fun (wx : World) (hb : Below w.heap.size w wx) (t : Nat) (ht : t < s.m) (e : Ent) (r : List Ent) (he : s.q t = e :: r) => rprice_any (h.bel hb) (t := t) (by rw [hfm]; omega) (by rw [hbl, hfm]) (by rw [hfm]; exact ht) (e := e) (r := r) ((HLQ.out t ht).trans he))
  unfold daV daC at CPR ⊢
  dsimp only at CPR ⊢
  rw [hbl] at hcb
  rw [hfm] at hcl
  rw [hbl, hfm] at CPR h ⊢
  have HH := Lib.hid (fun (wx : World) (hb : Below w.heap.size w wx) => h.bel hb)
  clear h ok hcr hcr2
  have HFM := Lib.hid hfm
  have HBL := Lib.hid hbl
  clear hfm hbl
  generalize docOf s = d at *
  generalize hrl : d.run.length = rl at *
  clear hrl
  have hb0 := (Below.refl w.heap.size w).alloc (Nat.le_refl _) (.cells #[.int .i64 d.slots, .slice ab s.m cb, .slice aq s.m cq, .slice ad s.m cd, .slice al s.m cl, .int .i64 d.f.cur, .bool d.f.begun, .slice ar rl cr] 57)
  have hx0 := heap_alloc_new w (.cells #[.int .i64 d.slots, .slice ab s.m cb, .slice aq s.m cq, .slice ad s.m cd, .slice al s.m cl, .int .i64 d.f.cur, .bool d.f.begun, .slice ar rl cr] 57)
  obtain ⟨bx, hbx⟩ : ∃ bx, w.heap.size = bx := ⟨_, rfl⟩
  rw [hbx] at hx0
  go_enter Try.func27, Try.ntmps27
  go_upto_region 1 with fail
  generalize w.alloc (.cells #[.int .i64 d.slots, .slice ab s.m cb, .slice aq s.m cq, .slice ad s.m cd, .slice al s.m cl, .int .i64 d.f.cur, .bool d.f.begun, .slice ar rl cr] 57) = w1 at *
  have HX0 := Lib.hid hx0
  have HB0 := Lib.hid hb0
  clear hb0 hx0 hbx
  obtain ⟨⟨x0, x1, x2, x3, x4, x5, x6, x7⟩, _⟩ := get8 HX0.out
  clear x0 x2 x3 x4 x5 x6 x7
  go_wp2_with fail
  clear x1
  go_loopw [6, 7, 14] (fun bv fv kv wr => ∃ k : Nat, k ≤ s.m ∧ kv = .int .i64 k ∧ BestR (wBest s now k) bv fv ∧ Below w.heap.size w wr ∧ wr.heap[bx]? = some (.cells #[.int .i64 d.slots, .slice ab s.m cb, .slice aq s.m cq, .slice ad s.m cd, .slice al s.m cl, .int .i64 d.f.cur, .bool d.f.begun, .slice ar rl cr] 57 (0, 0))) (fun _ _ kv _ => s.m - (intOf kv).toNat)
  case atStart => exact ⟨0, Nat.zero_le _, rfl, .inl ⟨rfl, rfl, rfl⟩, HB0.out, HX0.out⟩
  case round =>
    clear HB0 HX0
    obtain ⟨k, hk, rfl, hBR, hb, hx⟩ := hrel
    have HB := Lib.hid hb
    have HX := Lib.hid hx
    have HBR := Lib.hid hBR
    clear hb hx hBR
    obtain ⟨⟨x0, x1, x2, x3, x4, x5, x6, x7⟩, _⟩ := get8 HX.out
    by_cases hlt : k < s.m
    · have dj : decide ((k : Int) < (s.m : Int)) = true := decide_eq_true (by omega)
      have hkI : (k : Int) < (s.m : Int) := by omega
      obtain ⟨gb, ob, gl, ol, bo, c, rfl, rfl, ⟨b0, b1, b2, b3, b4⟩, l0, hlc, hlc2⟩ := (HH.out wr HB.out).bucket rfl rfl HBL.out HFM.out hlt (HDB.out k hlt)
      rw [HLQ.out k hlt] at l0 hlc
      by_cases hq : s.q k = []
      · have HST : Hid (wBest s now (k + 1) = wBest s now k) := Lib.hid (by show wStep s now k (wBest s now k) = _; unfold wStep; rw [if_pos hq])
        rw [hq] at l0
        clear hq hlc
        simp only [List.length_nil] at l0
        go_wp2_with fail
        go_roundw
        case rel => exact ⟨k + 1, by omega, by go_num, by rw [HST.out]; exact HBR.out, HB.out, HX.out⟩
        case measure => simp [intOf]; omega
      · obtain ⟨en, r, hq⟩ := List.exists_cons_of_ne_nil hq
        have HQ := Lib.hid hq
        have HP1 := Lib.hid (OK.out.price1 hlt hq)
        have HPO := Lib.hid (price_of hq)
        have HST : Hid (wBest s now (k + 1) = if whenE (s.shr k).b (s.shr k).t (s.shr k).k (s.bkt k).1 (s.bkt k).2 now (priceOf s k) = 0 then wPick (whenT (s.shr k).b (s.shr k).t (s.shr k).k (s.bkt k).1 (s.bkt k).2 now (priceOf s k)) (wBest s now k) else wBest s now k) := Lib.hid (by show wStep s now k (wBest s now k) = _; unfold wStep; rw [if_neg (by rw [hq]; simp)])
        have CPW := Lib.hid (CPR.out)
        have CWN := Lib.hid (fun (wx : World) => rwhen_any (OK.out.bok k hlt) now (priceOf s k) HP1.out wx)
        have hDB := HDB.out k hlt
        unfold bkV bkA at CWN
        unfold dbOf at b0 b1 b2 b3 b4
        dsimp only at b0 b1 b2 b3 b4
        have CPX : Hid (∀ wx, Below w.heap.size w wx → Calls Try.prog 54 #[.agg #[.int .i64 d.slots, .slice (some ⟨gb, ob, none⟩) s.m cb, .slice aq s.m cq, .slice ad s.m cd, .slice (some ⟨gl, ol, none⟩) s.m cl, .int .i64 d.f.cur, .bool d.f.begun, .slice ar rl cr], .int .i64 k] wx fun e w' => e = .returned (.int .i64 (priceOf s k)) ∧ Below wx.heap.size wx w') := Lib.hid fun wx hb => (CPW.out wx hb k hlt en r HQ.out).mono fun e w' ⟨he, hb⟩ => ⟨by rw [he, HPO.out, hDB]; rfl, hb⟩
        rw [hq] at l0 hlc
        rw [List.length_cons] at l0 hlc
        have hll : (((r.length : Int) + 1) == 0) = false := by rw [beq_eq_false_iff_ne]; omega
        have HS : Hid (∀ wx, Below wr.heap.size wr wx → (wx.cell? ⟨bx, 0, none⟩ = some (.int .i64 d.slots) ∧ wx.cell? ⟨bx, 1, none⟩ = some (.slice (some ⟨gb, ob, none⟩) s.m cb) ∧ wx.cell? ⟨bx, 2, none⟩ = some (.slice aq s.m cq) ∧ wx.cell? ⟨bx, 3, none⟩ = some (.slice ad s.m cd) ∧ wx.cell? ⟨bx, 4, none⟩ = some (.slice (some ⟨gl, ol, none⟩) s.m cl) ∧ wx.cell? ⟨bx, 5, none⟩ = some (.int .i64 d.f.cur) ∧ wx.cell? ⟨bx, 6, none⟩ = some (.bool d.f.begun) ∧ wx.cell? ⟨bx, 7, none⟩ = some (.slice ar rl cr)) ∧ (wx.cell? ⟨gb, ob + k * 5, none⟩ = some (.int .i64 (s.shr k).b) ∧ wx.cell? ⟨gb, ob + k * 5 + 1, none⟩ = some (.int .i64 (s.shr k).t) ∧ wx.cell? ⟨gb, ob + k * 5 + 2, none⟩ = some (.int .i64 (s.shr k).k) ∧ wx.cell? ⟨gb, ob + k * 5 + 3, none⟩ = some (.int .i64 (s.bkt k).1) ∧ wx.cell? ⟨gb, ob + k * 5 + 4, none⟩ = some (.int .i64 (s.bkt k).2))) := Lib.hid fun wx hb =>
          ⟨(get8 ((hb.block _ (lt_of_block HX.out)).trans HX.out)).1, below_cell hb b0, below_cell hb b1, below_cell hb b2, below_cell hb b3, below_cell hb b4⟩
        clear hq hDB CPW hlc
        generalize (s.shr k).b = B at *
        generalize (s.shr k).t = T at *
        generalize (s.shr k).k = KK at *
        generalize (s.bkt k).1 = P at *
        generalize (s.bkt k).2 = L at *
        generalize priceOf s k = n at *
        go_upto_region 6 with fail
        clear x0 x1 x2 x3 x4 x5 x6 x7 b0 b1 b2 b3 b4 l0
        have hH := HS.out _ (below_drew _ wr)
        refine wp_region_held_drew (S := (fun wx : World => (wx.cell? ⟨bx, 0, none⟩ = some (.int .i64 d.slots) ∧ wx.cell? ⟨bx, 1, none⟩ = some (.slice (some ⟨gb, ob, none⟩) s.m cb) ∧ wx.cell? ⟨bx, 2, none⟩ = some (.slice aq s.m cq) ∧ wx.cell? ⟨bx, 3, none⟩ = some (.slice ad s.m cd) ∧ wx.cell? ⟨bx, 4, none⟩ = some (.slice (some ⟨gl, ol, none⟩) s.m cl) ∧ wx.cell? ⟨bx, 5, none⟩ = some (.int .i64 d.f.cur) ∧ wx.cell? ⟨bx, 6, none⟩ = some (.bool d.f.begun) ∧ wx.cell? ⟨bx, 7, none⟩ = some (.slice ar rl cr)) ∧ (wx.cell? ⟨gb, ob + k * 5, none⟩ = some (.int .i64 B) ∧ wx.cell? ⟨gb, ob + k * 5 + 1, none⟩ = some (.int .i64 T) ∧ wx.cell? ⟨gb, ob + k * 5 + 2, none⟩ = some (.int .i64 KK) ∧ wx.cell? ⟨gb, ob + k * 5 + 3, none⟩ = some (.int .i64 P) ∧ wx.cell? ⟨gb, ob + k * 5 + 4, none⟩ = some (.int .i64 L)))) (by kernel_rfl) ((HS.out wr (Below.refl _ _))) (fun hH2 => ?_)
        obtain ⟨w5, hw5⟩ : ∃ w5, w5 = wr.drew := ⟨_, rfl⟩
        have HB5 : Hid (Below wr.heap.size wr w5) := Lib.hid (by rw [hw5]; exact below_drew _ _)
        rw [← hw5] at hH2 ⊢
        clear hw5 hH
        refine wpAnyH_take (i := 0) (v := ?_) rfl (by kernel_rfl) (by kernel_rfl) (by kernel_rfl) (fun _ _ _ h => h) (Or.inl ⟨by rfl, ?_⟩) hH2 ?_
        rotate_left
        · intro w hSw
          go_simp
          with_reducible rfl
        try simp only [List.getElem_toArray, List.getElem_cons_zero, Act.put, List.setIfInBounds_toArray, List.set_cons_zero, List.set_cons_succ]
        refine wpAnyH_take (i := 1) (v := ?_) rfl (by kernel_rfl) (by kernel_rfl) (by kernel_rfl) (fun _ _ _ h => h) (Or.inl ⟨by rfl, ?_⟩) hH2 ?_
        rotate_left
        · intro w hSw
          go_simp
          with_reducible rfl
        try simp only [List.getElem_toArray, List.getElem_cons_succ, List.getElem_cons_zero, Act.put, List.setIfInBounds_toArray, List.set_cons_zero, List.set_cons_succ]
        refine wpAnyH_take (i := 2) (v := ?_) rfl (by kernel_rfl) (by kernel_rfl) (by kernel_rfl) (fun _ _ _ h => h) (Or.inl ⟨by rfl, ?_⟩) hH2 ?_
        rotate_left
        · intro w hSw
          go_simp
          with_reducible rfl
        try simp only [List.getElem_toArray, List.getElem_cons_succ, List.getElem_cons_zero, Act.put, List.setIfInBounds_toArray, List.set_cons_zero, List.set_cons_succ]
        refine wpAnyH_take (i := 3) (v := ?_) rfl (by kernel_rfl) (by kernel_rfl) (by kernel_rfl) (fun _ _ _ h => h) (Or.inl ⟨by rfl, ?_⟩) hH2 ?_
        rotate_left
        · intro w hSw
          go_simp
          with_reducible rfl
        try simp only [List.getElem_toArray, List.getElem_cons_succ, List.getElem_cons_zero, Act.put, List.setIfInBounds_toArray, List.set_cons_zero, List.set_cons_succ]
        refine wpAnyH_take (i := 4) (v := ?_) rfl (by kernel_rfl) (by kernel_rfl) (by kernel_rfl) (fun _ _ _ h => h) (Or.inl ⟨by rfl, ?_⟩) hH2 ?_
        rotate_left
        · intro w hSw
          go_simp
          with_reducible rfl
        try simp only [List.getElem_toArray, List.getElem_cons_succ, List.getElem_cons_zero, Act.put, List.setIfInBounds_toArray, List.set_cons_zero, List.set_cons_succ]
        refine wpAnyH_take (i := 5) (v := ?_) rfl (by kernel_rfl) (by kernel_rfl) (by kernel_rfl) (fun _ _ _ h => h) (Or.inl ⟨by rfl, ?_⟩) hH2 ?_
        rotate_left
        · intro w hSw
          go_simp
          with_reducible rfl
        try simp only [List.getElem_toArray, List.getElem_cons_succ, List.getElem_cons_zero, Act.put, List.setIfInBounds_toArray, List.set_cons_zero, List.set_cons_succ]
        refine wpAnyH_take (i := 6) (v := ?_) rfl (by kernel_rfl) (by kernel_rfl) (by kernel_rfl) (fun _ _ _ h => h) (Or.inl ⟨by rfl, ?_⟩) hH2 ?_
        rotate_left
        · intro w hSw
          go_simp
          with_reducible rfl
        try simp only [List.getElem_toArray, List.getElem_cons_succ, List.getElem_cons_zero, Act.put, List.setIfInBounds_toArray, List.set_cons_zero, List.set_cons_succ]
        refine wpAnyH_take (i := 7) (v := ?_) rfl (by kernel_rfl) (by kernel_rfl) (by kernel_rfl) (fun _ _ _ h => h) (Or.inl ⟨by rfl, ?_⟩) hH2 ?_
        rotate_left
        · intro w hSw
          go_simp
          with_reducible rfl
        try simp only [List.getElem_toArray, List.getElem_cons_succ, List.getElem_cons_zero, Act.put, List.setIfInBounds_toArray, List.set_cons_zero, List.set_cons_succ]
        refine wpAnyH_ready (rs := [8]) (by kernel_rfl) (by simp) ?_
        refine AllReadyH.cons rfl (fun K hK => ?_) AllReadyH.nil
        go_simp
        refine (CPX.out w5 (HB.out.trans (HB5.out.mono HB.out.size))).mono ?_
        rintro e w6 ⟨rfl, hb6⟩
        go_simp
        have HB6 := Lib.hid (HB5.out.trans (hb6.mono HB5.out.size))
        refine hK.out _ _ (HS.out w6 HB6.out) (fun hH3 => ?_)
        clear hK hb6
        refine wpAnyH_ready (rs := [9]) (by kernel_rfl) (by simp) ?_
        refine AllReadyH.cons rfl (fun K hK => ?_) AllReadyH.nil
        go_simp
        refine (CWN.out w6).mono ?_
        rintro e w7 ⟨rfl, hb7⟩
        generalize whenE B T KK P L now n = E at *
        generalize whenT B T KK P L now n = X at *
        go_simp
        have HB7 := Lib.hid (HB6.out.trans (hb7.mono HB6.out.size))
        refine hK.out _ _ (HS.out w7 HB7.out) (fun hH4 => ?_)
        clear hK hb7
        refine wpAnyH_take (i := 10) (v := ?_) rfl (by kernel_rfl) (by kernel_rfl) (by kernel_rfl) (fun _ _ _ h => h) (Or.inl ⟨by rfl, ?_⟩) hH4 ?_
        rotate_left
        · intro w hSw
          go_simp
          with_reducible rfl
        try simp only [List.getElem_toArray, List.getElem_cons_succ, List.getElem_cons_zero, Act.put, List.setIfInBounds_toArray, List.set_cons_zero, List.set_cons_succ]
        refine wpAnyH_take (i := 11) (v := ?_) rfl (by kernel_rfl) (by kernel_rfl) (by kernel_rfl) (fun _ _ _ h => h) (Or.inl ⟨by rfl, ?_⟩) hH4 ?_
        rotate_left
        · intro w hSw
          go_simp
          with_reducible rfl
        try simp only [List.getElem_toArray, List.getElem_cons_succ, List.getElem_cons_zero, Act.put, List.setIfInBounds_toArray, List.set_cons_zero, List.set_cons_succ]
        refine wpAnyH_take (i := 12) (v := ?_) rfl (by kernel_rfl) (by kernel_rfl) (by kernel_rfl) (fun _ _ _ h => h) (Or.inl ⟨by rfl, ?_⟩) hH4 ?_
        rotate_left
        · intro w hSw
          go_simp
          with_reducible rfl
        try simp only [List.getElem_toArray, List.getElem_cons_succ, List.getElem_cons_zero, Act.put, List.setIfInBounds_toArray, List.set_cons_zero, List.set_cons_succ]
        refine wpAnyH_take (i := 13) (v := ?_) rfl (by kernel_rfl) (by kernel_rfl) (by kernel_rfl) (fun _ _ _ h => h) (Or.inl ⟨by rfl, ?_⟩) hH4 ?_
        rotate_left
        · intro w hSw
          go_simp
          with_reducible rfl
        try simp only [List.getElem_toArray, List.getElem_cons_succ, List.getElem_cons_zero, Act.put, List.setIfInBounds_toArray, List.set_cons_zero, List.set_cons_succ]
        refine wpAnyH_take (i := 14) (v := ?_) rfl (by kernel_rfl) (by kernel_rfl) (by kernel_rfl) (fun _ _ _ h => h) (Or.inl ⟨by rfl, ?_⟩) hH4 ?_
        rotate_left
        · intro w hSw
          go_simp
          with_reducible rfl
        try simp only [List.getElem_toArray, List.getElem_cons_succ, List.getElem_cons_zero, Act.put, List.setIfInBounds_toArray, List.set_cons_zero, List.set_cons_succ]
        refine wpAnyH_done (by kernel_rfl) ?_ _
        clear hH2 hH3 hH4 CPX CWN HS HB5 HB6
        have HB8 := Lib.hid (HB.out.trans (HB7.out.mono HB.out.size))
        have HX8 := Lib.hid ((HB7.out.block _ (lt_of_block HX.out)).trans HX.out)
        clear HB HX HB7
        rcases HBR.out with ⟨ha, rfl, rfl⟩ | ⟨x, ha, rfl, rfl⟩
        · rw [ha] at HST
          clear ha HBR
          by_cases hE : E = 0
          · have e1 : (E == 0) = true := by rw [beq_iff_eq]; exact hE
            have HN : Hid (BestR (wBest s now (k + 1)) (.int .i64 X) (.bool true)) := Lib.hid (by rw [HST.out, if_pos hE]; exact .inr ⟨X, rfl, rfl, rfl⟩)
            clear hE HST
            go_wp2_with fail
            go_roundw
            case rel => exact ⟨k + 1, by omega, by go_num, HN.out, HB8.out, HX8.out⟩
            case measure => simp [intOf]; omega
          · have e1 : (E == 0) = false := by rw [beq_eq_false_iff_ne]; exact hE
            have HN : Hid (BestR (wBest s now (k + 1)) (.int .i64 0) (.bool false)) := Lib.hid (by rw [HST.out, if_neg hE]; exact .inl ⟨rfl, rfl, rfl⟩)
            clear hE HST
            go_wp2_with fail
            go_roundw
            case rel => exact ⟨k + 1, by omega, by go_num, HN.out, HB8.out, HX8.out⟩
            case measure => simp [intOf]; omega
        · rw [ha] at HST
          clear ha HBR
          by_cases hE : E = 0
          · have e1 : (E == 0) = true := by rw [beq_iff_eq]; exact hE
            by_cases hX : X < x
            · have e2 : decide (X < x) = true := decide_eq_true hX
              have HN : Hid (BestR (wBest s now (k + 1)) (.int .i64 X) (.bool true)) := Lib.hid (by rw [HST.out, if_pos hE]; show BestR (if X < x then some X else some x) _ _; rw [if_pos hX]; exact .inr ⟨X, rfl, rfl, rfl⟩)
              clear hE HST hX
              go_wp2_with fail
              go_roundw
              case rel => exact ⟨k + 1, by omega, by go_num, HN.out, HB8.out, HX8.out⟩
              case measure => simp [intOf]; omega
            · have e2 : decide (X < x) = false := decide_eq_false hX
              have HN : Hid (BestR (wBest s now (k + 1)) (.int .i64 x) (.bool true)) := Lib.hid (by rw [HST.out, if_pos hE]; show BestR (if X < x then some X else some x) _ _; rw [if_neg hX]; exact .inr ⟨x, rfl, rfl, rfl⟩)
              clear hE HST hX
              go_wp2_with fail
              go_roundw
              case rel => exact ⟨k + 1, by omega, by go_num, HN.out, HB8.out, HX8.out⟩
              case measure => simp [intOf]; omega
          · have e1 : (E == 0) = false := by rw [beq_eq_false_iff_ne]; exact hE
            have HN : Hid (BestR (wBest s now (k + 1)) (.int .i64 x) (.bool true)) := Lib.hid (by rw [HST.out, if_neg hE]; exact .inr ⟨x, rfl, rfl, rfl⟩)
            clear hE HST
            go_wp2_with fail
            go_roundw
            case rel => exact ⟨k + 1, by omega, by go_num, HN.out, HB8.out, HX8.out⟩
            case measure => simp [intOf]; omega
    · obtain rfl : k = s.m := by omega
      have dj : decide ((s.m : Int) < (s.m : Int)) = false := decide_eq_false (by omega)
      have HB9 := Lib.hid HB.out
      rcases HBR.out with ⟨ha, rfl, rfl⟩ | ⟨x, ha, rfl, rfl⟩
      all_goals
        have HA := Lib.hid ha
        clear ha HBR
        go_wp2_with fail
        go_ret2
        exact ⟨by rw [HA.out]; rfl, HB9.out⟩
end
end Go.Proofs.Ytmdajndmobpgbaa

/- admission: the walk of 'run'. Conditions: the arguments can be read, the script is short. -/
import Derived.Test.YtmdajndmobpgbaaAdRunD
import Derived.Test.YtmdajndmobpgbaaHeld
namespace Go.Proofs.Ytmdajndmobpgbaa
open Go.RowKit Go.Maps
open Go.Proofs.Ytmdajndmobpgbaa.Fq
open Go.Proofs.Ytmdajndmobpgbaa.Bk

theorem getD_mem0 {l : List Int} {k : Nat} (h : k < l.length) : l.getD k 0 ∈ l := by
  have : l.getD k 0 = l[k] := by simp [List.getD, h]
  rw [this]; exact List.getElem_mem h
theorem IsI.ao_ {w : World} {ao : Option Addr} {n cp : Nat} {l : List Int} (h : IsI w (.slice ao n cp) l) : 0 < n → ∃ g off, ao = some ⟨g, off, none⟩ := by
  obtain ⟨a, c', e, h2, _⟩ := h.form
  cases e
  exact h2
def RunP (X : Nat → Nat → Int) (ns : Nat) (w : World) (e : Ending) (w' : World) : Prop := ∃ v out, e = .returned (.tuple #[v, .bool true]) ∧ IsG w' v out ∧ GoodB X ns out ∧ Below w.heap.size w w'
section
variable {ao aos : Option Addr} {n b0 off cap ns bs offs caps : Nat} {X Y : Nat → Nat → Int}
set_option maxRecDepth 100000 in
set_option maxHeartbeats 3200000 in
theorem run_bad (slots : Int) (w : World) (hX : IsSh w aos ns bs offs X) (hns : ns ≤ 20) (ha : ¬ adOk (shOf X ns) slots) :
    Calls Try.prog 29 #[setupV aos ns caps slots, .slice ao n cap] w (RunP X ns w) := by
  unfold setupV
  have HX := Lib.hid hX
  clear hX
  have HB0 : Below w.heap.size w (w.alloc (Obj.cells #[.slice aos ns caps, .int .i64 slots] 48)) := by go_grown
  have HC0 := heap_alloc_new w (Obj.cells #[.slice aos ns caps, .int .i64 slots] 48)
  have HZ0 : w.heap.size < (w.alloc (Obj.cells #[.slice aos ns caps, .int .i64 slots] 48)).heap.size := by simp
  have hqb : ∀ s ∈ shOf X ns, -9223372036854775808 ≤ s.q ∧ s.q ≤ 9223372036854775807 := fun s hs => by
    obtain ⟨t, ht, rfl⟩ := List.mem_map.1 hs
    exact HX.out.bd (List.mem_range.1 ht) (show 3 < 4 by omega)
  go_enter Try.func29, Try.ntmps29
  go_upto_region 1 with fail
  generalize w.alloc (Obj.cells #[.slice aos ns caps, .int .i64 slots] 48) = wb at HB0 HC0 HZ0 ⊢
  have HCX : Hid (∀ w', Below wb.heap.size wb w' → w'.cell? ⟨w.heap.size, 0, none⟩ = some (.slice aos ns caps) ∧ w'.cell? ⟨w.heap.size, 1, none⟩ = some (.int .i64 slots)) := Lib.hid fun w' hb => by
    have h := (hb.block w.heap.size HZ0).trans HC0
    exact ⟨(has_cell h 0).trans rfl, (has_cell h 1).trans rfl⟩
  have SHW := Lib.hid (fun (w' : World) (hb : Below wb.heap.size wb w') => shares_any (cap := caps) slots w' (HX.out.below (HB0.trans (hb.mono HB0.size)) (Nat.le_refl _)) (by omega))
  obtain ⟨bx0, bx1⟩ := HCX.out wb (Below.refl _ _)
  have HQB := Lib.hid hqb
  have HBW := Lib.hid HB0
  have hsl : (shOf X ns).length ≤ 1000 := by rw [shOf_len]; omega
  clear HB0 HC0 HZ0 hqb
  have CN := Lib.hid (fun (w1 : World) (v : Value) (h : IsS w1 v (shOf X ns)) => c_new_bad h hsl HQB.out ha)
  clear ha hsl
  go_region_held3 (fun w' => w'.cell? ⟨w.heap.size, 0, none⟩ = some (.slice aos ns caps) ∧ w'.cell? ⟨w.heap.size, 1, none⟩ = some (.int .i64 slots)) (go_keep)
    (first
      | (go_at_call 21; refine (SHW.out _ (by first | exact Below.refl _ _ | exact below_drew _ _ | exact below_draw _ _ _)).mono ?_; rintro e w1 ⟨vs, rfl, hvs, _, hb1⟩; have HW1 : Hid (Below wb.heap.size wb w1) := Lib.hid (by first | exact hb1 | exact (below_drew _ _).trans hb1 | exact (below_draw _ _ _).trans hb1); have HVS := Lib.hid hvs; obtain ⟨bx0, bx1⟩ := HCX.out _ HW1.out; obtain ⟨vsa, vsc, rfl⟩ := OL.shape hvs)
      | (go_at_call 11; refine (CN.out _ _ (HVS.out.belowS (by first | exact Below.refl _ _ | exact below_drew _ _ | exact below_draw _ _ _))).mono ?_; rintro e w2 ⟨rfl, hb2⟩; have HN2 : Hid (Below wb.heap.size wb w2) := Lib.hid (by first | exact HW1.out.trans (hb2.mono HW1.out.size) | exact (HW1.out.trans (below_drew _ _)).trans (hb2.mono HW1.out.size) | exact (HW1.out.trans (below_draw _ _ _)).trans (hb2.mono HW1.out.size)); obtain ⟨bx0, bx1⟩ := HCX.out w2 HN2.out))
  have HP : Hid (RunP X ns w (.returned (.tuple #[.slice none 0 0, .bool true])) w2) := Lib.hid ⟨_, [], rfl, OL.nil _ _ _, GoodB.nil, HBW.out.trans (HN2.out.mono HBW.out.size)⟩
  clear HN2 hb2 HVS HW1 hb1 hvs SHW CN HCX bx0 bx1
  rw [errV_pos (by decide)]
  go_wp2_with fail
  go_ret2
  exact HP.out
set_option maxRecDepth 100000 in
set_option maxHeartbeats 3200000 in
theorem run_ok (slots : Int) (w : World) (hX : IsSh w (some ⟨bs, offs, none⟩) ns bs offs X) (hY : IsSc w ao n b0 off Y) (hns : ns ≤ 20) (hn : n ≤ 500) (ha : adOk (shOf X ns) slots) :
    Calls Try.prog 29 #[setupV (some ⟨bs, offs, none⟩) ns caps slots, .slice ao n cap] w (RunP X ns w) := by
  unfold setupV
  have HX := Lib.hid hX
  have HY := Lib.hid hY
  clear hX hY
  have HB0 : Below w.heap.size w (w.alloc (Obj.cells #[.slice (some ⟨bs, offs, none⟩) ns caps, .int .i64 slots] 48)) := by go_grown
  have HC0 := heap_alloc_new w (Obj.cells #[.slice (some ⟨bs, offs, none⟩) ns caps, .int .i64 slots] 48)
  have HZ0 : w.heap.size < (w.alloc (Obj.cells #[.slice (some ⟨bs, offs, none⟩) ns caps, .int .i64 slots] 48)).heap.size := by simp
  have hqb : ∀ s ∈ shOf X ns, -9223372036854775808 ≤ s.q ∧ s.q ≤ 9223372036854775807 := fun s hs => by
    obtain ⟨t, ht, rfl⟩ := List.mem_map.1 hs
    exact HX.out.bd (List.mem_range.1 ht) (show 3 < 4 by omega)
  go_enter Try.func29, Try.ntmps29
  go_upto_region 1 with fail
  generalize w.alloc (Obj.cells #[.slice (some ⟨bs, offs, none⟩) ns caps, .int .i64 slots] 48) = wb at HB0 HC0 HZ0 ⊢
  have HCX : Hid (∀ w', Below wb.heap.size wb w' → w'.cell? ⟨w.heap.size, 0, none⟩ = some (.slice (some ⟨bs, offs, none⟩) ns caps) ∧ w'.cell? ⟨w.heap.size, 1, none⟩ = some (.int .i64 slots)) := Lib.hid fun w' hb => by
    have h := (hb.block w.heap.size HZ0).trans HC0
    exact ⟨(has_cell h 0).trans rfl, (has_cell h 1).trans rfl⟩
  have SHW := Lib.hid (fun (w' : World) (hb : Below wb.heap.size wb w') => shares_any (cap := caps) slots w' (HX.out.below (HB0.trans (hb.mono HB0.size)) (Nat.le_refl _)) (by omega))
  obtain ⟨bx0, bx1⟩ := HCX.out wb (Below.refl _ _)
  have HQB := Lib.hid hqb
  have HBW := Lib.hid HB0
  have hsl : (shOf X ns).length ≤ 1000 := by rw [shOf_len]; omega
  clear HB0 HC0 HZ0 hqb
  have CN := Lib.hid (fun (w1 : World) (v : Value) (h : IsS w1 v (shOf X ns)) => c_new h hsl HQB.out ha)
  have HA := Lib.hid ha
  clear ha hsl
  go_region_held3 (fun w' => w'.cell? ⟨w.heap.size, 0, none⟩ = some (.slice (some ⟨bs, offs, none⟩) ns caps) ∧ w'.cell? ⟨w.heap.size, 1, none⟩ = some (.int .i64 slots)) (go_keep)
    (first
      | (go_at_call 21; refine (SHW.out _ (by first | exact Below.refl _ _ | exact below_drew _ _ | exact below_draw _ _ _)).mono ?_; rintro e w1 ⟨vs, rfl, hvs, _, hb1⟩; have HW1 : Hid (Below wb.heap.size wb w1) := Lib.hid (by first | exact hb1 | exact (below_drew _ _).trans hb1 | exact (below_draw _ _ _).trans hb1); have HVS := Lib.hid hvs; obtain ⟨bx0, bx1⟩ := HCX.out _ HW1.out; obtain ⟨vsa, vsc, rfl⟩ := OL.shape hvs)
      | (go_at_call 11; refine (CN.out _ _ (HVS.out.belowS (by first | exact Below.refl _ _ | exact below_drew _ _ | exact below_draw _ _ _))).mono ?_; rintro e w2 ⟨b, rfl, hC⟩; have HN2 : Hid (∃ wx, Below wb.heap.size wb wx ∧ CA wx (fun _ => False) b (AS.init (shOf X ns) slots) w2) := Lib.hid ⟨_, by first | exact HW1.out | exact HW1.out.trans (below_drew _ _) | exact HW1.out.trans (below_draw _ _ _), hC⟩; obtain ⟨bx0, bx1⟩ := HCX.out w2 (by obtain ⟨wx, h1, h2⟩ := HN2.out; exact h1.trans (h2.be.mono h1.size))))
  obtain ⟨wx, hbx, hCx⟩ := HN2.out
  have HBB := Lib.hid hbx
  have HCC := Lib.hid hCx
  have HBX : Hid (∀ w', Below wx.heap.size wx w' → w'.cell? ⟨w.heap.size, 0, none⟩ = some (.slice (some ⟨bs, offs, none⟩) ns caps) ∧ w'.cell? ⟨w.heap.size, 1, none⟩ = some (.int .i64 slots)) := Lib.hid fun w' hb => HCX.out w' (HBB.out.trans (hb.mono HBB.out.size))
  have HXX : Hid (∀ w', Below wx.heap.size wx w' → IsSh w' (some ⟨bs, offs, none⟩) ns bs offs X) := Lib.hid fun w' hb => HX.out.below (HBW.out.trans ((HBB.out.trans (hb.mono HBB.out.size)).mono HBW.out.size)) (Nat.le_refl _)
  have HYX : Hid (∀ w', Below wx.heap.size wx w' → IsSc w' ao n b0 off Y) := Lib.hid fun w' hb => HY.out.below (HBW.out.trans ((HBB.out.trans (hb.mono HBB.out.size)).mono HBW.out.size)) (Nat.le_refl _)
  have HYB := HY
  have HFIN : Hid (∀ w', Below wx.heap.size wx w' → Below w.heap.size w w') := Lib.hid fun w' hb => HBW.out.trans ((HBB.out.trans (hb.mono HBB.out.size)).mono HBW.out.size)
  clear HN2 hC hbx hCx HVS HW1 hb1 hvs SHW CN HCX bx0 bx1 HBW HBB HX HY HQB
  have hmm := @run_makeMap Try.prog
  go_wp2_with fail
  clear hmm
  have hR0 := RunAt.start HCC.out
  obtain ⟨mb, hmb⟩ : ∃ mb, w2.heap.size = mb := ⟨_, rfl⟩
  rw [hmb] at hR0 ⊢
  clear hmb HCC
  go_loopw [8, 10, 30] (fun vo nv iv wr => ∃ (j : Nat) (now : Int) (s : AS) (kn : Int → Option Bg) (out : List Bg), j ≤ n ∧ iv = .int .i64 j ∧ nv = .int .i64 now ∧ RunAt wx b mb vo X ns slots now j s kn out wr) (fun _ _ iv _ => n - (intOf iv).toNat)
  case atStart => exact ⟨0, 0, _, _, [], Nat.zero_le _, rfl, rfl, hR0⟩
  case round =>
    clear hR0
    obtain ⟨j, now, s, kn, out, hj, rfl, rfl, hR⟩ := hrel
    obtain ⟨voa, voc, rfl⟩ := OL.shape hR.g
    by_cases hlt : j < n
    · have hYr := HYX.out _ hR.c.be
      obtain rfl := hYr.ao (by omega)
      obtain ⟨⟨c0, c1, c2, c3, c4⟩, x0b, x1b, x2b, x3b, x4b⟩ := hYr.at_ hlt
      have hnt := hR.t
      have hn0 := hR.r.n0
      have hba : Below wr.heap.size wr (wr.alloc (.cells #[.int .u8 (Y j 0), .int .u16 (Y j 1), .int .i64 (Y j 2), .int .i64 (Y j 3), .int .i64 (Y j 4)] 63)) := by go_grown
      have hq := heap_alloc_new wr (.cells #[.int .u8 (Y j 0), .int .u16 (Y j 1), .int .i64 (Y j 2), .int .i64 (Y j 3), .int .i64 (Y j 4)] 63)
      have hr1 : RI s (now + Y j 1) (j + 1) kn out := hR.r.on (by omega) (by omega)
      have hlq : wr.heap.size < (wr.alloc (.cells #[.int .u8 (Y j 0), .int .u16 (Y j 1), .int .i64 (Y j 2), .int .i64 (Y j 3), .int .i64 (Y j 4)] 63)).heap.size := by simp
      have R1 := Lib.hid ((hR.bel hba).call (s' := s) (now' := now + Y j 1) (n' := j + 1) ((hR.bel hba).c) (fun _ _ => rfl) hr1 rfl rfl (Nat.le_succ _) (by omega))
      have R0 := Lib.hid (hR.bel hba)
      have R0L := Lib.hid (show out.length ≤ 256 * j from hR.l)
      have RJ := Lib.hid (hR.r.on (show now ≤ now + Y j 1 by omega) (Nat.le_refl j))
      have HCS := Lib.hid (hR.c.add (J := fun k => k = wr.heap.size) hba (fun k hk => by subst hk; exact ⟨Nat.le_refl _, hlq⟩))
      clear hYr hba hR hr1
      generalize Y j 0 = x0 at *
      generalize Y j 1 = x1 at *
      generalize Y j 2 = x2 at *
      generalize Y j 3 = x3 at *
      generalize Y j 4 = x4 at *
      have p0 : IntKind.i64.wrap x1 = x1 := IntWalk.i64_in _ (by omega)
      have q0 : x0.tmod 9 = x0 % 9 := Int.tmod_eq_emod_of_nonneg x0b.1
      have q1 : IntKind.u8.wrap (x0 % 9) = x0 % 9 := IntWalk.u8_in _ (by omega)
      have ht2 : now + x1 ≤ 65535 * 500 := by omega
      have ht0 : 0 ≤ now + x1 := by omega
      have p1 : IntKind.i64.wrap (now + x1) = now + x1 := IntWalk.i64_in _ (by omega)
      go_upto_region 11 with fail
      generalize hwa : wr.alloc (.cells #[.int .u8 x0, .int .u16 x1, .int .i64 x2, .int .i64 x3, .int .i64 x4] 63) = wa at *
      generalize now + x1 = nw at *
      generalize wr.heap.size = sb at *
      have a0 := (has_cell hq 0).trans (show _ = some (Value.int .u8 x0) from rfl)
      have a2 := (has_cell hq 2).trans (show _ = some (Value.int .i64 x2) from rfl)
      have a3 := (has_cell hq 3).trans (show _ = some (Value.int .i64 x3) from rfl)
      have a4 := (has_cell hq 4).trans (show _ = some (Value.int .i64 x4) from rfl)
      have HQ := Lib.hid hq
      clear hwa hq c0 c1 c2 c3 c4 p0 p1
      by_cases e4 : x0 % 9 = 4 ∨ x0 % 9 = 5
      · have CS := Lib.hid (c_start R1.out.c nw)
        clear a2 a3 a4 x2b x3b x4b HCS RJ R0 HQ
        rcases e4 with e4 | e4
        all_goals
          go_wp2_with fail
          refine CS.out.mono ?_
          rintro e w3 ⟨s1, o, a, hl, v, rfl, hi, hC, hS⟩
          obtain ⟨va, vc, rfl⟩ := OL.shape hi
          have hT0 := StAt.start R1.out hC hi hS nw
          obtain ⟨hkn, hri⟩ := R1.out.r.start R1.out.c.ok hl (by omega)
          obtain ⟨o2, ho2, hrun, hsh, hsl⟩ := hl.facts
          rw [List.nil_append] at ho2
          subst ho2
          have hol : o.length ≤ 256 := by
            have h1 := hC.ok.rl
            have h2 := hC.ok.s1
            have h3 : s1.back.run = s.run ++ o := hrun
            rw [h3, List.length_append] at h1
            omega
          have HDONE : Hid (∀ vq wq, StAt wx b mb (.slice va o.length vc) vq nw s1.back kn out o o.length wq → RunAt wx b mb vq X ns slots nw (j + 1) s1.back kn (out ++ o.map (stB kn nw)) wq) := Lib.hid fun vq wq h => h.done hri (hsh.trans R1.out.sh) (hsl.trans R1.out.sl) (by have := R0L.out; omega) R1.out.t
          have HKN := Lib.hid hkn
          have HOUT := R0L.out
          clear CS hl hi hC hS hkn hri hrun hsh hsl
          go_wp2_with fail
          go_loopw [8, 88] (fun vo kv wr => ∃ k : Nat, k ≤ o.length ∧ kv = .int .i64 k ∧ StAt wx b mb (.slice va o.length vc) vo nw s1.back kn out o k wr) (fun _ kv _ => o.length - (intOf kv).toNat)
          case atStart => exact ⟨0, Nat.zero_le _, rfl, hT0⟩
          case round =>
            clear hT0
            obtain ⟨k, hk, rfl, hT⟩ := hrel
            by_cases hkl : k < o.length
            · obtain ⟨gv, offv, rfl⟩ := hT.i.ao_ (by omega)
              have v0 := (hT.i.cell k (by omega)).trans (ints_get o k hkl)
              obtain ⟨g, hg⟩ := Option.isSome_iff_exists.1 (HKN.out (o.getD k 0) (getD_mem0 hkl))
              have hst : stB kn nw (o.getD k 0) = ⟨g.t, g.p, nw, g.pl⟩ := by unfold stB; rw [hg]; rfl
              have hlk := kn_look hT.m hg
              have hbg : Below wr.heap.size wr (wr.alloc (.cells #[.int .i64 g.t, .int .i64 g.p, .int .i64 nw, .int .i64 g.pl] 76)) := by go_grown
              have hll : (out ++ (o.take k).map (stB kn nw)).length ≤ 1000000 := by
                rw [List.length_append, List.length_map, List.length_take]; omega
              obtain ⟨ao', cap', w5, hap, hG5, hg5, hown5⟩ := bg_append (hT.bel hbg).g hll ⟨g.t, g.p, nw, g.pl⟩
              rw [← hst] at hG5
              have HT5 := Lib.hid ((hT.bel hbg).app hkl hg5 hG5 hown5)
              have hz : (wr.alloc (.cells #[.int .i64 g.t, .int .i64 g.p, .int .i64 nw, .int .i64 g.pl] 76)).heap.size = wr.heap.size + 1 := by simp
              rw [hz] at hap
              obtain ⟨wva, wvc, hwv⟩ := OL.shape hT.g
              subst hwv
              obtain ⟨gt, gp, ga, gl⟩ := g
              unfold bgV at hlk
              have HAP := Lib.hid hap
              clear hT hg hst hbg hll hap hG5 hg5 hown5 hz HKN
              generalize (out ++ (o.take k).map (stB kn nw)).length = ln at *
              generalize o.getD k 0 = id at *
              go_wp2_with (refine wpList_append_run (v := .slice wva ln wvc) (xv := .slice (some ⟨wr.heap.size + 1, 0, none⟩) 1 1) rfl (.tmp 102) (.tmp 104) _ _ rfl (by rfl) (by rfl) HAP.out ?_)
              go_roundw
              case rel => exact ⟨k + 1, by omega, by go_num, HT5.out⟩
              case measure => simp [intOf]; omega
            · obtain rfl : k = o.length := by omega
              obtain ⟨wva, wvc, hwv⟩ := OL.shape hT.g
              have RA := Lib.hid (HDONE.out _ _ hT)
              subst hwv
              clear hT HKN HDONE
              generalize hlo : (out ++ (o.take o.length).map (stB kn nw)).length = ln at *
              clear hlo
              have CR := Lib.hid (fun (w' : World) (hb : Below wr.heap.size wr w') => c_running (RA.out.c.bel hb))
              have hrl : ((sortI s1.back.run).length : Int) ≤ slots := by rw [sortI_len]; have := RA.out.c.ok.rl; rw [RA.out.sl] at this; exact this
              have bx1 := (HBX.out _ RA.out.c.be).2
              go_wp2_with fail
              go_region_held3 (fun w' => w'.cell? ⟨w.heap.size, 1, none⟩ = some (.int .i64 slots)) (go_keep)
                (first | (go_at_call 18; refine (CR.out _ (by first | exact Below.refl _ _ | exact below_drew _ _ | exact below_draw _ _ _)).mono ?_; rintro e w6 ⟨v6, rfl, hi6, hC6, hs6⟩; obtain ⟨ra6, rc6, rfl⟩ := OL.shape hi6; have bx1 := (HBX.out _ hC6.be).2))
              have RB : Hid (RunAt wx b mb ((.slice wva ln wvc)) X ns slots nw (j + 1) s1.back kn ((out ++ o.map (stB kn nw))) w6) := Lib.hid ((RA.out.bel (by first | exact Below.refl _ _ | exact below_drew _ _ | exact below_draw _ _ _)).call (hC6.less fun k hk => .inl hk) (by exact hs6) RA.out.r rfl rfl (Nat.le_refl _) RA.out.t)
              clear CR hi6 hC6 hs6 bx1
              generalize (sortI s1.back.run).length = rl at *
              go_wp2_with fail
              go_roundw
              case rel => exact ⟨j + 1, nw, s1.back, kn, ((out ++ o.map (stB kn nw))), by omega, by go_num, rfl, RB.out⟩
              case measure => simp [intOf]; omega
      · have n4 : ¬ x0 % 9 = 4 := fun h => e4 (.inl h)
        have n5 : ¬ x0 % 9 = 5 := fun h => e4 (.inr h)
        clear e4
        by_cases e6 : x0 % 9 = 6
        · have CF := Lib.hid (c_finish R1.out.c x3)
          clear a2 a4 HCS RJ R0
          go_wp2_with fail
          refine CF.out.mono ?_
          rintro e w3 ⟨rfl, hC, hS⟩
          have RA : Hid (RunAt wx b mb (.slice voa out.length voc) X ns slots nw (j + 1) (finS s x3) kn out w3) := Lib.hid (R1.out.call hC hS (R1.out.r.fin x3) (finS_sh s x3).1 (finS_sh s x3).2 (Nat.le_refl _) R1.out.t)
          clear CF hC hS a0 a3 R1
          have CR := Lib.hid (fun (w' : World) (hb : Below w3.heap.size w3 w') => c_running (RA.out.c.bel hb))
          have hrl : ((sortI ((finS s x3)).run).length : Int) ≤ slots := by rw [sortI_len]; have := RA.out.c.ok.rl; rw [RA.out.sl] at this; exact this
          have bx1 := (HBX.out _ RA.out.c.be).2
          go_wp2_with fail
          go_region_held3 (fun w' => w'.cell? ⟨w.heap.size, 1, none⟩ = some (.int .i64 slots)) (go_keep)
            (first | (go_at_call 18; refine (CR.out _ (by first | exact Below.refl _ _ | exact below_drew _ _ | exact below_draw _ _ _)).mono ?_; rintro e w6 ⟨v6, rfl, hi6, hC6, hs6⟩; obtain ⟨ra6, rc6, rfl⟩ := OL.shape hi6; have bx1 := (HBX.out _ hC6.be).2))
          have RB : Hid (RunAt wx b mb ((.slice voa out.length voc)) X ns slots nw (j + 1) ((finS s x3)) kn out w6) := Lib.hid ((RA.out.bel (by first | exact Below.refl _ _ | exact below_drew _ _ | exact below_draw _ _ _)).call (hC6.less fun k hk => .inl hk) (by exact hs6) RA.out.r rfl rfl (Nat.le_refl _) RA.out.t)
          clear CR hi6 hC6 hs6 bx1
          generalize (sortI ((finS s x3)).run).length = rl at *
          go_wp2_with fail
          go_roundw
          case rel => exact ⟨j + 1, nw, ((finS s x3)), kn, out, by omega, by go_num, rfl, RB.out⟩
          case measure => simp [intOf]; omega
        · by_cases e7 : x0 % 9 = 7
          · have CF := Lib.hid (c_cancel R1.out.c x3)
            clear a2 a4 HCS RJ R0 e6
            go_wp2_with fail
            refine CF.out.mono ?_
            rintro e w3 (⟨rfl, _, hC, hS⟩ | ⟨rfl, t, i, hf, hC, hS⟩)
            · have RA : Hid (RunAt wx b mb (.slice voa out.length voc) X ns slots nw (j + 1) s kn out w3) := Lib.hid (R1.out.call hC hS R1.out.r rfl rfl (Nat.le_refl _) R1.out.t)
              clear CF hC hS a0 a3 R1
              have CR := Lib.hid (fun (w' : World) (hb : Below w3.heap.size w3 w') => c_running (RA.out.c.bel hb))
              have hrl : ((sortI s.run).length : Int) ≤ slots := by rw [sortI_len]; have := RA.out.c.ok.rl; rw [RA.out.sl] at this; exact this
              have bx1 := (HBX.out _ RA.out.c.be).2
              go_wp2_with fail
              go_region_held3 (fun w' => w'.cell? ⟨w.heap.size, 1, none⟩ = some (.int .i64 slots)) (go_keep)
                (first | (go_at_call 18; refine (CR.out _ (by first | exact Below.refl _ _ | exact below_drew _ _ | exact below_draw _ _ _)).mono ?_; rintro e w6 ⟨v6, rfl, hi6, hC6, hs6⟩; obtain ⟨ra6, rc6, rfl⟩ := OL.shape hi6; have bx1 := (HBX.out _ hC6.be).2))
              have RB : Hid (RunAt wx b mb ((.slice voa out.length voc)) X ns slots nw (j + 1) s kn out w6) := Lib.hid ((RA.out.bel (by first | exact Below.refl _ _ | exact below_drew _ _ | exact below_draw _ _ _)).call (hC6.less fun k hk => .inl hk) (by exact hs6) RA.out.r rfl rfl (Nat.le_refl _) RA.out.t)
              clear CR hi6 hC6 hs6 bx1
              generalize (sortI s.run).length = rl at *
              go_wp2_with fail
              go_roundw
              case rel => exact ⟨j + 1, nw, s, kn, out, by omega, by go_num, rfl, RB.out⟩
              case measure => simp [intOf]; omega
            · have RA : Hid (RunAt wx b mb (.slice voa out.length voc) X ns slots nw (j + 1) (canS s t i) kn out w3) := Lib.hid (R1.out.call hC hS (R1.out.r.can R1.out.c.ok hf.1) rfl rfl (Nat.le_refl _) R1.out.t)
              clear CF hC hS a0 a3 R1
              have CR := Lib.hid (fun (w' : World) (hb : Below w3.heap.size w3 w') => c_running (RA.out.c.bel hb))
              have hrl : ((sortI ((canS s t i)).run).length : Int) ≤ slots := by rw [sortI_len]; have := RA.out.c.ok.rl; rw [RA.out.sl] at this; exact this
              have bx1 := (HBX.out _ RA.out.c.be).2
              go_wp2_with fail
              go_region_held3 (fun w' => w'.cell? ⟨w.heap.size, 1, none⟩ = some (.int .i64 slots)) (go_keep)
                (first | (go_at_call 18; refine (CR.out _ (by first | exact Below.refl _ _ | exact below_drew _ _ | exact below_draw _ _ _)).mono ?_; rintro e w6 ⟨v6, rfl, hi6, hC6, hs6⟩; obtain ⟨ra6, rc6, rfl⟩ := OL.shape hi6; have bx1 := (HBX.out _ hC6.be).2))
              have RB : Hid (RunAt wx b mb ((.slice voa out.length voc)) X ns slots nw (j + 1) ((canS s t i)) kn out w6) := Lib.hid ((RA.out.bel (by first | exact Below.refl _ _ | exact below_drew _ _ | exact below_draw _ _ _)).call (hC6.less fun k hk => .inl hk) (by exact hs6) RA.out.r rfl rfl (Nat.le_refl _) RA.out.t)
              clear CR hi6 hC6 hs6 bx1
              generalize (sortI ((canS s t i)).run).length = rl at *
              go_wp2_with fail
              go_roundw
              case rel => exact ⟨j + 1, nw, ((canS s t i)), kn, out, by omega, by go_num, rfl, RB.out⟩
              case measure => simp [intOf]; omega
          · by_cases e8 : x0 % 9 = 8
            · have CF := Lib.hid (c_when R1.out.c nw)
              clear a2 a3 a4 HCS RJ R0 e6 e7
              go_wp2_with fail
              refine CF.out.mono ?_
              rintro e w3 ⟨rfl, hC, hS⟩
              have RA : Hid (RunAt wx b mb (.slice voa out.length voc) X ns slots nw (j + 1) s kn out w3) := Lib.hid (R1.out.call hC hS R1.out.r rfl rfl (Nat.le_refl _) R1.out.t)
              clear CF hC hS a0 R1
              have CR := Lib.hid (fun (w' : World) (hb : Below w3.heap.size w3 w') => c_running (RA.out.c.bel hb))
              have hrl : ((sortI s.run).length : Int) ≤ slots := by rw [sortI_len]; have := RA.out.c.ok.rl; rw [RA.out.sl] at this; exact this
              have bx1 := (HBX.out _ RA.out.c.be).2
              go_wp2_with fail
              go_region_held3 (fun w' => w'.cell? ⟨w.heap.size, 1, none⟩ = some (.int .i64 slots)) (go_keep)
                (first | (go_at_call 18; refine (CR.out _ (by first | exact Below.refl _ _ | exact below_drew _ _ | exact below_draw _ _ _)).mono ?_; rintro e w6 ⟨v6, rfl, hi6, hC6, hs6⟩; obtain ⟨ra6, rc6, rfl⟩ := OL.shape hi6; have bx1 := (HBX.out _ hC6.be).2))
              have RB : Hid (RunAt wx b mb ((.slice voa out.length voc)) X ns slots nw (j + 1) s kn out w6) := Lib.hid ((RA.out.bel (by first | exact Below.refl _ _ | exact below_drew _ _ | exact below_draw _ _ _)).call (hC6.less fun k hk => .inl hk) (by exact hs6) RA.out.r rfl rfl (Nat.le_refl _) RA.out.t)
              clear CR hi6 hC6 hs6 bx1
              generalize (sortI s.run).length = rl at *
              go_wp2_with fail
              go_roundw
              case rel => exact ⟨j + 1, nw, s, kn, out, by omega, by go_num, rfl, RB.out⟩
              case measure => simp [intOf]; omega
            · have CB := Lib.hid (c_submit HCS.out nw x2 x3 x4)
              by_cases he : subE s x2 x3 x4 = 0
              · rw [he, errV0] at CB
                go_wp2_with fail
                refine CB.out.mono ?_
                rintro e w3 ⟨rfl, hC, hS⟩
                have hsm : 0 ≤ x2 ∧ x2 < ns := by
                  have em : s.m = ns := by unfold AS.m; rw [R1.out.sh]; exact shOf_len X ns
                  unfold subE at he
                  by_cases h1 : 0 ≤ x2 ∧ x2 < s.m
                  · omega
                  · rw [if_pos h1] at he; omega
                obtain ⟨tn, rfl⟩ : ∃ tn : Nat, x2 = (tn : Int) := ⟨x2.toNat, by omega⟩
                have htn : tn < ns := by omega
                have hcb := (hS sb (.inr rfl)).trans HQ.out
                have b2 := (has_cell hcb 2).trans (show _ = some (Value.int .i64 (tn : Int)) from rfl)
                have b3 := (has_cell hcb 3).trans (show _ = some (Value.int .i64 x3) from rfl)
                have b4 := (has_cell hcb 4).trans (show _ = some (Value.int .i64 x4) from rfl)
                have hxs := HXX.out w3 hC.be
                obtain ⟨t0, _, _, _⟩ := hxs.cells htn
                have tb := hxs.bd htn (show 0 < 4 by omega)
                obtain ⟨bx0, bx1⟩ := HBX.out w3 hC.be
                have hpr : (s.shr ((tn : Int)).toNat).b = X tn 0 := by
                  have h1 : s.shr tn = shD (shOf X ns) tn := by unfold AS.shr shD; rw [R1.out.sh]
                  rw [Int.toNat_natCast, h1, shOf_get htn]; rfl
                have hm3 : MapF Try.prog 3 w3 mb (knF kn) := R1.out.m.at (hS mb (.inl (.inl rfl)))
                obtain ⟨w5, hst, hm5, hg5⟩ := (hm3.belowS (below_drew w3.heap.size w3)).store (Maps.int_keyed Try.underlying3) Try.underlying134 (kInt64 x3b) (bgV ⟨tn, min x4 (s.shr ((tn : Int)).toNat).b, 0, j⟩)
                have RA : Hid (RunAt wx b mb (.slice voa out.length voc) X ns slots nw (j + 1) (subS s tn x3 x4) (fun x => if x = x3 then some ⟨tn, min x4 (s.shr ((tn : Int)).toNat).b, 0, j⟩ else kn x) out w5) := Lib.hid (R0.out.sub (w1 := w3.drew) R0.out.c.ok he RJ.out rfl R1.out.t ((hC.less fun k hk => .inl hk).bel (below_drew _ _)) (fun k hk => hS k (.inl hk)) hg5 hm5)
                rw [hpr] at hst
                generalize subS s (tn : Int) x3 x4 = s2 at RA hC hS
                generalize (fun x => if x = x3 then some (⟨tn, min x4 (s.shr ((tn : Int)).toNat).b, 0, j⟩ : Bg) else kn x) = kn2 at RA
                have i0 : (0 : Int) ≤ (tn : Int) := by omega
                have i1 : (tn : Int) < (ns : Int) := by omega
                generalize X tn 0 = B at *
                clear n4 n5 e6 e7 e8 q0 q1 CB hC hS a0 a2 a3 a4 R1 R0 RJ HCS hcb hxs hm3 hm5 hg5 hpr hsm
                unfold bgV at hst
                go_upto_region 15 with fail
                go_region
                clear hst t0 tb b2 b3 b4 bx0 bx1 HQ he i0 i1 htn x3b x4b x2b
                as_aux_lemma =>
                  have CR := Lib.hid (fun (w' : World) (hb : Below w5.heap.size w5 w') => c_running (RA.out.c.bel hb))
                  have hrl : ((sortI s2.run).length : Int) ≤ slots := by rw [sortI_len]; have := RA.out.c.ok.rl; rw [RA.out.sl] at this; exact this
                  have bx1 := (HBX.out _ RA.out.c.be).2
                  go_wp2_with fail
                  go_region_held3 (fun w' => w'.cell? ⟨w.heap.size, 1, none⟩ = some (.int .i64 slots)) (go_keep)
                    (first | (go_at_call 18; refine (CR.out _ (by first | exact Below.refl _ _ | exact below_drew _ _ | exact below_draw _ _ _)).mono ?_; rintro e w6 ⟨v6, rfl, hi6, hC6, hs6⟩; obtain ⟨ra6, rc6, rfl⟩ := OL.shape hi6; have bx1 := (HBX.out _ hC6.be).2))
                  have RB : Hid (RunAt wx b mb ((.slice voa out.length voc)) X ns slots nw (j + 1) s2 kn2 out w6) := Lib.hid ((RA.out.bel (by first | exact Below.refl _ _ | exact below_drew _ _ | exact below_draw _ _ _)).call (hC6.less fun k hk => .inl hk) (by exact hs6) RA.out.r rfl rfl (Nat.le_refl _) RA.out.t)
                  clear CR hi6 hC6 hs6 bx1
                  generalize (sortI s2.run).length = rl at *
                  go_wp2_with fail
                  go_roundw
                  case rel => exact ⟨j + 1, nw, s2, kn2, out, by omega, by go_num, rfl, RB.out⟩
                  case measure => simp [intOf]; omega
              · rw [errV_pos he] at CB
                go_wp2_with fail
                refine CB.out.mono ?_
                rintro e w3 ⟨rfl, hC, hS⟩
                have RA : Hid (RunAt wx b mb (.slice voa out.length voc) X ns slots nw (j + 1) (subS s x2 x3 x4) kn out w3) := Lib.hid (R1.out.call (hC.less fun k hk => .inl hk) (fun k hk => hS k (.inl hk)) (R1.out.r.subNo he) (subS_sh s x2 x3 x4).1 (subS_sh s x2 x3 x4).2.1 (Nat.le_refl _) R1.out.t)
                clear CB hC hS a0 a2 a3 a4 R1 R0 RJ HCS
                have CR := Lib.hid (fun (w' : World) (hb : Below w3.heap.size w3 w') => c_running (RA.out.c.bel hb))
                have hrl : ((sortI ((subS s x2 x3 x4)).run).length : Int) ≤ slots := by rw [sortI_len]; have := RA.out.c.ok.rl; rw [RA.out.sl] at this; exact this
                have bx1 := (HBX.out _ RA.out.c.be).2
                go_wp2_with fail
                go_region_held3 (fun w' => w'.cell? ⟨w.heap.size, 1, none⟩ = some (.int .i64 slots)) (go_keep)
                  (first | (go_at_call 18; refine (CR.out _ (by first | exact Below.refl _ _ | exact below_drew _ _ | exact below_draw _ _ _)).mono ?_; rintro e w6 ⟨v6, rfl, hi6, hC6, hs6⟩; obtain ⟨ra6, rc6, rfl⟩ := OL.shape hi6; have bx1 := (HBX.out _ hC6.be).2))
                have RB : Hid (RunAt wx b mb ((.slice voa out.length voc)) X ns slots nw (j + 1) ((subS s x2 x3 x4)) kn out w6) := Lib.hid ((RA.out.bel (by first | exact Below.refl _ _ | exact below_drew _ _ | exact below_draw _ _ _)).call (hC6.less fun k hk => .inl hk) (by exact hs6) RA.out.r rfl rfl (Nat.le_refl _) RA.out.t)
                clear CR hi6 hC6 hs6 bx1
                generalize (sortI ((subS s x2 x3 x4)).run).length = rl at *
                go_wp2_with fail
                go_roundw
                case rel => exact ⟨j + 1, nw, ((subS s x2 x3 x4)), kn, out, by omega, by go_num, rfl, RB.out⟩
                case measure => simp [intOf]; omega
    · obtain rfl : j = n := by omega
      have HP : Hid (RunP X ns w (.returned (.tuple #[.slice voa out.length voc, .bool true])) wr) := Lib.hid ⟨_, out, rfl, hR.g, hR.good hn HA.out, HFIN.out _ hR.c.be⟩
      clear hR
      go_wp2
      go_ret2
      exact HP.out
theorem run_any (slots : Int) (w : World) (hX : IsSh w aos ns bs offs X) (hY : IsSc w ao n b0 off Y) (hns : ns ≤ 20) (hn : n ≤ 500) :
    Calls Try.prog 29 #[setupV aos ns caps slots, .slice ao n cap] w (RunP X ns w) := by
  by_cases ha : adOk (shOf X ns) slots
  · have h1 := ha.2.2.1.1
    rw [shOf_len] at h1
    obtain rfl := hX.ao (by omega)
    exact run_ok slots w hX hY hns hn ha
  · exact run_bad slots w hX hns ha
end
end Go.Proofs.Ytmdajndmobpgbaa

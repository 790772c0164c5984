/- admission: the statement AdmissionWorks: the walk. Conditions: the arguments can be read; the script's bytes are within the reach. -/
import Derived.Test.YtmdajndmobpgbaaAdWkA
import Derived.Test.YtmdajndmobpgbaaAdOrders
import Derived.Test.YtmdajndmobpgbaaHeld
namespace Go.Proofs.Ytmdajndmobpgbaa
open Go.RowKit Go.Maps
open Go.Proofs.Ytmdajndmobpgbaa.Fq
open Go.Proofs.Ytmdajndmobpgbaa.Bk

section
variable {w w1 wx wa wr : World} {K : Nat → Prop} {b g2 n k : Nat} {s s0 : AS} {v0 v1 : Value} {Y : Nat → Nat → Int}
/-- An admission that was made in a later world, seen from an elder one: all that was there is kept. -/
theorem CA.base (h : CA w1 (fun _ => False) b s wx) (hb : Below w.heap.size w w1) : CA w (fun k => k < w1.heap.size) b s wx := by
  obtain ⟨⟨m, hA, hF⟩, ho, hbe, hl⟩ := h
  exact ⟨⟨m, hA, fun k hk => ⟨Nat.le_trans hb.size (hF k hk).1, fun hlt => by have := (hF k hk).1; have : k < w1.heap.size := hlt; omega⟩⟩, ho, hb.trans (hbe.mono hb.size), fun k hk => Nat.lt_of_lt_of_le hk hbe.size⟩
theorem CA.keep (h : CA w K b s wa) (hK : K g2) (hs : ∀ k, k < wa.heap.size → k ≠ g2 → wr.heap[k]? = wa.heap[k]?) (be : Below w.heap.size w wr) (hsz : wa.heap.size ≤ wr.heap.size) : CA w K b s wr := by
  obtain ⟨⟨m, hA, hF⟩, ho, hbe, hl⟩ := h
  exact ⟨⟨m, hA.same fun k hk => hs k (hA.fa_lt k hk) fun e => (hF k hk).2 (e ▸ hK), hF⟩, ho, be, fun k hk => Nat.lt_of_lt_of_le (hl k hk) hsz⟩
def ptA (b : Nat) : Value := .pointer (some ⟨b, 0, none⟩)
/-- So many of the two admissions are made and have played the script. -/
def Fst (w : World) (g2 n : Nat) (Y : Nat → Nat → Int) (s0 : AS) (v0 v1 : Value) (k : Nat) (wr : World) : Prop :=
  (k = 0 ∧ v0 = .pointer none ∧ v1 = .pointer none) ∨
  (k = 1 ∧ v1 = .pointer none ∧ ∃ b1 h1 s1, v0 = ptA b1 ∧ g2 < h1 ∧ CA w (fun j => j < h1) b1 s1 wr ∧ FinR Y n s0 s1) ∨
  (k = 2 ∧ ∃ b1 h1 b2 h2 s1 wa, v0 = ptA b1 ∧ v1 = ptA b2 ∧ g2 < h1 ∧ wa.heap.size ≤ h2 ∧ CA w (fun j => j < h1) b1 s1 wa ∧ (∀ j, j < wa.heap.size → j ≠ g2 → wr.heap[j]? = wa.heap[j]?) ∧ CA w (fun j => j < h2) b2 s1 wr ∧ FinR Y n s0 s1)
/-- A round's end. -/
theorem Fst.next {h2 : Nat} (h : Fst w g2 n Y s0 v0 v1 k wa) (hk : k < 2) (ok : AOk s0) (hg : g2 < wa.heap.size) (h2a : wa.heap.size ≤ h2) (hC : CA w (fun j => j < h2) b s wr) (hs : ∀ j, j < h2 → j ≠ g2 → j < wa.heap.size → wr.heap[j]? = wa.heap[j]?) (hf : FinR Y n s0 s) :
    ∃ u0 u1, (#[v0, v1] : Array Value).setIfInBounds k (ptA b) = #[u0, u1] ∧ Fst w g2 n Y s0 u0 u1 (k + 1) wr := by
  rcases h with ⟨rfl, rfl, rfl⟩ | ⟨rfl, rfl, b1, h1, s1, rfl, hg1, hC1, hf1⟩ | ⟨rfl, _⟩
  · exact ⟨ptA b, .pointer none, rfl, .inr (.inl ⟨rfl, rfl, b, h2, s, rfl, by omega, hC, hf⟩)⟩
  · obtain rfl := hf.det ok hf1
    exact ⟨ptA b1, ptA b, rfl, .inr (.inr ⟨rfl, b1, h1, b, h2, s, wa, rfl, rfl, hg1, h2a, hC1, fun j hj hne => hs j (by omega) hne hj, hC, hf⟩)⟩
  · omega
end
section
variable {ao aos : Option Addr} {n b0 off cap ns bs offs caps : Nat} {X Y : Nat → Nat → Int}
set_option maxRecDepth 100000 in
set_option maxHeartbeats 6400000 in
theorem works_walk (slots gap : Int) (w : World) (hX : IsSh w aos ns bs offs X) (hY : IsSc w ao n b0 off Y) (hgap : 0 ≤ gap ∧ gap ≤ 65535) (hns : ns ≤ 9223372036854775807) (hn : n ≤ 4398046511104) :
    Calls Try.prog 8 #[setupV aos ns caps slots, .slice ao n cap, .int .u16 gap] w (AwP w) := by
  have HX := Lib.hid hX
  have HY := Lib.hid hY
  clear hX hY
  have HS := Lib.hid (fun (w1 : World) (hb : Below (w.heap.size + 1) (w.alloc (Obj.cells #[.slice aos ns caps, .int .i64 slots] 48)) w1) => set_at w slots hb)
  have hz : (w.alloc (Obj.cells #[.slice aos ns caps, .int .i64 slots] 48)).heap.size = w.heap.size + 1 := by simp
  have HZ := Lib.hid hz
  have S0 := Lib.hid (HS.out (w.alloc (Obj.cells #[.slice aos ns caps, .int .i64 slots] 48)) (Below.refl _ _))
  obtain ⟨_, x0, x1⟩ := S0.out
  have LG := Lib.hid (fun (w1 : World) (h : SetAt w aos ns caps slots w.heap.size w1) => long_any (cap := cap) (caps := caps) slots w1 (HX.out.below h.be (Nat.le_refl _)) (HY.out.below h.be (Nat.le_refl _)) hns hn)
  unfold setupV at LG ⊢
  by_cases hl : longA X ns Y n = true
  · rw [hl] at LG
    go_enter Try.func8, Try.ntmps8
    go_wp2_with fail
    refine (LG.out _ S0.out).mono ?_
    rintro e w1 ⟨rfl, hb1⟩
    have hb1' := hb1.mono (Nat.le_of_eq HZ.out.symm)
    obtain ⟨_, y0, y1⟩ := HS.out w1 hb1'
    have HB1 := Lib.hid hb1'
    clear hb1 hb1' hz x0 x1
    go_wp2_with fail
    refine (LG.out _ (HS.out _ HB1.out)).mono ?_
    rintro e w2 ⟨rfl, hb2⟩
    have hb2' : Below (w.heap.size + 1) w1 w2 := hb2.mono (by rw [← HZ.out]; exact HB1.out.size)
    have HP : Hid (AwP w (.returned (.bool true)) w2) := Lib.hid ⟨rfl, (HS.out w2 (HB1.out.trans hb2')).be⟩
    clear hb2 hb2' y0 y1 LG HB1 HS
    go_wp2
    go_ret
    exact HP.out
  · have hl' : longA X ns Y n = false := by simpa using hl
    obtain ⟨hn5, hs2⟩ := longA_false hl'
    rw [hl'] at LG
    go_enter Try.func8, Try.ntmps8
    go_wp2_with fail
    refine (LG.out _ S0.out).mono ?_
    rintro e w1 ⟨rfl, hb1⟩
    have HB1 := Lib.hid (hb1.mono (Nat.le_of_eq HZ.out.symm))
    clear hb1 hz x0 x1 hl hl' LG
    go_wp2_with fail
    refine (awake_any w1).mono ?_
    rintro e w2 ⟨rfl, hb2⟩
    have HB2 := Lib.hid (HB1.out.trans (hb2.mono (by rw [← HZ.out]; exact HB1.out.size)))
    have HS2 := Lib.hid (HS.out w2 HB2.out)
    clear hb2 HB1 HS S0 HB2 HZ
    go_upto_region 4 with fail
    have HS3 := Lib.hid (HS2.out.on (show Below w2.heap.size w2 (w2.alloc (Obj.cells #[.pointer none, .pointer none] 80)) by go_grown))
    have HT3 := Lib.hid (heap_alloc_new w2 (Obj.cells #[.pointer none, .pointer none] 80))
    have HG2 : Hid (w.heap.size < w2.heap.size ∧ w.heap.size ≠ w2.heap.size) := Lib.hid (by have := World.block_lt_of_cell? _ _ HS2.out.c0; simp at this; omega)
    generalize w2.alloc (Obj.cells #[.pointer none, .pointer none] 80) = w3 at *
    generalize w2.heap.size = g2 at *
    clear HS2
    have hqb : ∀ s ∈ shOf X ns, -9223372036854775808 ≤ s.q ∧ s.q ≤ 9223372036854775807 := fun s hs => by
      obtain ⟨t, ht, rfl⟩ := List.mem_map.1 hs
      exact HX.out.bd (List.mem_range.1 ht) (show 3 < 4 by omega)
    have HQB := Lib.hid hqb
    have hsl : (shOf X ns).length ≤ 1000 := by rw [shOf_len]; omega
    clear hqb
    by_cases ha : adOk (shOf X ns) slots
    · have HAO := Lib.hid (init_ok ha)
      have CN := Lib.hid (fun (w1 : World) (v : Value) (h : IsS w1 v (shOf X ns)) => c_new h hsl HQB.out ha)
      obtain ⟨s0, hs0⟩ : ∃ s0, AS.init (shOf X ns) slots = s0 := ⟨_, rfl⟩
      have HSL : Hid (s0.slots = slots) := Lib.hid (by rw [← hs0]; rfl)
      rw [hs0] at CN HAO
      have hsb : 1 ≤ slots ∧ slots ≤ 256 := ha.1
      clear ha hsl HQB hs0
      go_wp2_with fail
      go_loopw [8, 29] (fun nv kv wr => ∃ (k : Nat) (now : Int) (v0 v1 : Value), k ≤ 2 ∧ kv = .int .i64 k ∧ nv = .int .i64 now ∧ (0 < k → now = nowY Y n) ∧ SetAt w aos ns caps slots w.heap.size wr ∧ wr.heap[g2]? = some (.cells #[v0, v1] 80 (0, 0)) ∧ Fst w g2 n Y s0 v0 v1 k wr) (fun _ kv _ => 2 - (intOf kv).toNat)
      case atStart => exact ⟨0, 0, _, _, by omega, rfl, rfl, by omega, HS3.out, HT3.out, .inl ⟨rfl, rfl, rfl⟩⟩
      case round =>
        clear HS3 HT3
        obtain ⟨k, now, v0, v1, hk, rfl, rfl, hnow, hS, hT, hF⟩ := hrel
        by_cases hlt : k < 2
        · have HS := Lib.hid hS
          have HT := Lib.hid hT
          have HF := Lib.hid hF
          have HCX : Hid (∀ w', Below wr.heap.size wr w' → w'.cell? ⟨w.heap.size, 0, none⟩ = some (.slice aos ns caps) ∧ w'.cell? ⟨w.heap.size, 1, none⟩ = some (.int .i64 slots)) := Lib.hid fun w' hb => ⟨(HS.out.on hb).c0, (HS.out.on hb).c1⟩
          have SHW := Lib.hid (fun (w' : World) (hb : Below wr.heap.size wr w') => shares_any (cap := caps) slots w' (HX.out.below (HS.out.on hb).be (Nat.le_refl _)) (by omega))
          obtain ⟨bx0, bx1⟩ := HCX.out wr (Below.refl _ _)
          clear hS hT hF hnow
          go_upto_region 8 with fail
          go_region_held3 (fun w' => w'.cell? ⟨w.heap.size, 0, none⟩ = some (.slice aos ns caps) ∧ w'.cell? ⟨w.heap.size, 1, none⟩ = some (.int .i64 slots)) (go_keep)
            (first
              | (go_at_call 21; refine (SHW.out _ (by first | exact Below.refl _ _ | exact below_drew _ _ | exact below_draw _ _ _)).mono ?_; rintro e w1 ⟨vs, rfl, hvs, _, hb1⟩; have HW1 : Hid (Below wr.heap.size wr w1) := Lib.hid (by first | exact hb1 | exact (below_drew _ _).trans hb1 | exact (below_draw _ _ _).trans hb1); have HVS := Lib.hid hvs; obtain ⟨bx0, bx1⟩ := HCX.out _ HW1.out; obtain ⟨vsa, vsc, rfl⟩ := OL.shape hvs)
              | (go_at_call 11; refine (CN.out _ _ (HVS.out.belowS (by first | exact Below.refl _ _ | exact below_drew _ _ | exact below_draw _ _ _))).mono ?_; rintro e w2 ⟨b, rfl, hC⟩; have HN2 : Hid (∃ wx, Below wr.heap.size wr wx ∧ CA wx (fun _ => False) b s0 w2) := Lib.hid ⟨_, by first | exact HW1.out | exact HW1.out.trans (below_drew _ _) | exact HW1.out.trans (below_draw _ _ _), hC⟩; obtain ⟨bx0, bx1⟩ := HCX.out w2 (by obtain ⟨wx, h1, h2⟩ := HN2.out; exact h1.trans (h2.be.mono h1.size))))
          obtain ⟨wx, hbx, hCx⟩ := HN2.out
          clear hC hb1 hvs HVS HW1 SHW HN2 bx0 bx1
          have hgx : g2 < wx.heap.size := Nat.lt_of_lt_of_le (lt_of_block HT.out) hbx.size
          have HRX : Hid (wr.heap.size ≤ wx.heap.size) := Lib.hid hbx.size
          have HO2 : Hid (Below wr.heap.size wr w2) := Lib.hid (hbx.trans (hCx.be.mono hbx.size))
          have HC2 := Lib.hid (hCx.base (HS.out.be.trans (hbx.mono HS.out.be.size)))
          obtain ⟨h2, hh2⟩ : ∃ h2, wx.heap.size = h2 := ⟨_, rfl⟩
          rw [hh2] at HC2 HRX hgx
          clear hCx hbx hh2
          have hrow := (HO2.out.block _ (lt_of_block HT.out)).trans HT.out
          have hz := has_free hrow
          have hcell : w2.cell? ⟨g2, k, none⟩ = some ((#[v0, v1] : Array Value).getD k (.pointer none)) := by
            rw [has_cell hrow]
            rcases (show k = 0 ∨ k = 1 by omega) with rfl | rfl <;> rfl
          go_upto_region 12 with fail
          have HC4 := Lib.hid (HC2.out.grown (r := some g2) (w' := w2.setCell ⟨g2, k, none⟩ (ptA b)) ⟨rfl, rfl, rfl, by simp, fun j _ hj => Below.heap_setCell _ _ _ _ fun e => hj (by rw [e])⟩ fun j hj => by
            obtain rfl := Option.some.inj hj
            exact ⟨hgx, by have := HG2.out.1; omega⟩)
          have HT4 := Lib.hid (setCell_heap_self (o := k) (u := ptA b) hrow)
          have HO4 : Hid (∀ j, j < wr.heap.size → j ≠ g2 → (w2.setCell ⟨g2, k, none⟩ (ptA b)).heap[j]? = wr.heap[j]?) := Lib.hid fun j hj hne => (Below.heap_setCell _ _ _ _ hne).trans (HO2.out.block j hj)
          clear hcell hz hrow HC2
          unfold ptA at HC4 HT4 HO4
          generalize w2.setCell ⟨g2, k, none⟩ (.pointer (some ⟨b, 0, none⟩)) = w4 at *
          have HS4 : Hid (∀ wq, SameA (fun j => j < h2) w4 wq → Below w.heap.size w wq → SetAt w aos ns caps slots w.heap.size wq) := Lib.hid fun wq hs hb => by
            have hsb : w.heap.size < wr.heap.size := World.block_lt_of_cell? _ _ HS.out.c0
            have e : wq.heap[w.heap.size]? = wr.heap[w.heap.size]? := (hs _ (show w.heap.size < h2 by have := HRX.out; omega)).trans (HO4.out _ hsb HG2.out.2)
            exact ⟨hb, (World.cell?_of_block (a := ⟨w.heap.size, 0, none⟩) e).trans HS.out.c0, (World.cell?_of_block (a := ⟨w.heap.size, 1, none⟩) e).trans HS.out.c1⟩
          go_wp2_with fail
          obtain ⟨wa, rfl⟩ : ∃ wa : World, wa = wr := ⟨_, rfl⟩
          go_loopw [8, 47] (fun nv jv wq => ∃ (j : Nat) (s : AS), j ≤ n ∧ jv = .int .i64 j ∧ nv = .int .i64 (nowY Y j) ∧ PlaysR Y s0 j s ∧ CA w (fun i => i < h2) b s wq ∧ SameA (fun i => i < h2) w4 wq) (fun _ jv _ => n - (intOf jv).toNat)
          case atStart => exact ⟨0, s0, Nat.zero_le _, rfl, rfl, rfl, HC4.out, fun _ _ => rfl⟩
          case round =>
            obtain ⟨j, s, hj, rfl, rfl, hP, hC, hSm⟩ := hrel
            by_cases hjl : j < n
            · have hYr := HY.out.below hC.be (Nat.le_refl _)
              obtain rfl := hYr.ao (by omega)
              obtain ⟨⟨c0, c1, c2, c3, c4⟩, x0b, x1b, x2b, x3b, x4b⟩ := hYr.at_ hjl
              have hnj := nowY_bd (Y := Y) (n := n) (fun i hi => (HY.out.at_ hi).2.2.1) j (by omega)
              have HC := Lib.hid hC
              have HSm := Lib.hid hSm
              have HP := Lib.hid hP
              have HNX : Hid (nowY Y (j + 1) = nowY Y j + Y j 1) := Lib.hid rfl
              have HPR : Hid (∀ s', PlayR (Y j 0) (Y j 2) (Y j 3) (Y j 4) (nowY Y j + Y j 1) s s' → PlaysR Y s0 (j + 1) s') := Lib.hid fun s' h => ⟨s, HP.out, h⟩
              clear hYr hC hSm hP
              generalize Y j 0 = x0 at *
              generalize Y j 1 = x1 at *
              generalize Y j 2 = x2 at *
              generalize Y j 3 = x3 at *
              generalize Y j 4 = x4 at *
              generalize nowY Y j = nw at *
              have p0 : IntKind.i64.wrap x1 = x1 := IntWalk.i64_in _ (by omega)
              have p1 : IntKind.i64.wrap (nw + x1) = nw + x1 := IntWalk.i64_in _ (by omega)
              have hba : Below wr.heap.size wr (wr.alloc (.cells #[.int .u8 x0, .int .u16 x1, .int .i64 x2, .int .i64 x3, .int .i64 x4] 63)) := by go_grown
              have hq := heap_alloc_new wr (.cells #[.int .u8 x0, .int .u16 x1, .int .i64 x2, .int .i64 x3, .int .i64 x4] 63)
              have HC5 := Lib.hid (HC.out.bel hba)
              have HS5 := Lib.hid (HSm.out.trans (HC.out.same hba))
              go_upto_region 15 with fail
              generalize wr.alloc (.cells #[.int .u8 x0, .int .u16 x1, .int .i64 x2, .int .i64 x3, .int .i64 x4] 63) = w5 at *
              generalize wr.heap.size = sb5 at *
              have a0 := (has_cell hq 0).trans (show _ = some (Value.int .u8 x0) from rfl)
              have a1 := (has_cell hq 1).trans (show _ = some (Value.int .u16 x1) from rfl)
              have a2 := (has_cell hq 2).trans (show _ = some (Value.int .i64 x2) from rfl)
              have a3 := (has_cell hq 3).trans (show _ = some (Value.int .i64 x3) from rfl)
              have a4 := (has_cell hq 4).trans (show _ = some (Value.int .i64 x4) from rfl)
              have CP := Lib.hid (play_any HC5.out x0 x1 x2 x3 x4 (nw + x1) x0b)
              clear c0 c1 c2 c3 c4 hq hba HC HSm
              go_wp2_with fail
              refine CP.out.mono ?_
              rintro e w6 ⟨rfl, s', hR, hC6, hS6⟩
              have HD : Hid (PlaysR Y s0 (j + 1) s' ∧ CA w (fun i => i < h2) b s' w6 ∧ SameA (fun i => i < h2) w4 w6) := Lib.hid ⟨HPR.out s' hR, hC6, HS5.out.trans hS6⟩
              clear CP hR hC6 hS6 a0 a1 a2 a3 a4 HP
              go_wp2_with fail
              go_roundw
              case rel => exact ⟨j + 1, s', by omega, by go_num, by rw [HNX.out], HD.out⟩
              case measure => simp [intOf]; omega
            · obtain rfl : j = n := by omega
              have CS := Lib.hid (c_start hC (nowY Y j))
              have hso := PlaysR.ok HAO.out j s hP
              have HSS : Hid (s.slots = slots ∧ AOk s) := Lib.hid ⟨hso.2.1.trans HSL.out, hso.1⟩
              have HP := Lib.hid hP
              have HSm := Lib.hid hSm
              clear hP hC hSm hso
              go_upto_region 18 with fail
              go_wp2_with fail
              refine CS.out.mono ?_
              rintro e w5 ⟨s1, o, a, hl, v, rfl, hi, hC5, hS5⟩
              have HC5 := Lib.hid (hC5.less (J := fun i => i < h2) fun _ h => .inl h)
              have HS5 := Lib.hid (HSm.out.trans hS5)
              obtain ⟨va, vc, rfl⟩ := OL.shape hi
              obtain ⟨_, _, hrun, _, hsl⟩ := hl.facts
              have HL := Lib.hid hl
              have HSL1 : Hid (s1.slots = slots) := Lib.hid (hsl.trans HSS.out.1)
              clear CS hi hC5 hS5 hl hrun hsl HSm
              generalize o.length = ol at *
              go_upto_region 19 with fail
              have HSA : Hid (∀ wx, SameA (fun i => i < h2) w4 wx → Below w.heap.size w wx → (fun wx : World => wx.cell? ⟨w.heap.size, 1, none⟩ = some (.int .i64 slots)) wx) := Lib.hid fun wx h1 h2 => (HS4.out wx h1 h2).c1
              have hH0 := HSA.out w5 HS5.out HC5.out.be
              refine wp_region_held_drew (S := (fun wx : World => wx.cell? ⟨w.heap.size, 1, none⟩ = some (.int .i64 slots))) (by kernel_rfl) (hH0) (fun hH => ?_)
              obtain ⟨we, hwe⟩ : ∃ we, we = w5.drew := ⟨_, rfl⟩
              have hbd : Below w5.heap.size w5 we := by rw [hwe]; exact below_drew _ _
              have HCe := Lib.hid (HC5.out.bel hbd)
              have HSe := Lib.hid (HS5.out.trans (HC5.out.same hbd))
              rw [← hwe] at hH ⊢
              clear hwe hbd HC5 HS5 hH0
              refine wpAnyH_take (i := 0) (v := ?_) rfl (by kernel_rfl) (by kernel_rfl) (by kernel_rfl) (fun _ _ _ h => h) (Or.inl ⟨by rfl, ?_⟩) hH ?_
              rotate_left
              · intro w hSw
                go_simp
                with_reducible rfl
              try simp only [List.getElem_toArray, List.getElem_cons_zero, Act.put, List.setIfInBounds_toArray, List.set_cons_zero, List.set_cons_succ]
              refine wpAnyH_take (i := 3) (v := ?_) rfl (by kernel_rfl) (by kernel_rfl) (by kernel_rfl) (fun _ _ _ h => h) (Or.inl ⟨by rfl, ?_⟩) hH ?_
              rotate_left
              · intro w hSw
                go_simp
                with_reducible rfl
              try simp only [List.getElem_toArray, List.getElem_cons_succ, List.getElem_cons_zero, Act.put, List.setIfInBounds_toArray, List.set_cons_zero, List.set_cons_succ]
              refine wpAnyH_take (i := 4) (v := ?_) rfl (by kernel_rfl) (by kernel_rfl) (by kernel_rfl) (fun _ _ _ h => h) (Or.inl ⟨by rfl, ?_⟩) hH ?_
              rotate_left
              · intro w hSw
                go_simp
                with_reducible rfl
              try simp only [List.getElem_toArray, List.getElem_cons_succ, List.getElem_cons_zero, Act.put, List.setIfInBounds_toArray, List.set_cons_zero, List.set_cons_succ]
              refine wpAnyH_ready (rs := [1]) (by kernel_rfl) (by simp) ?_
              refine AllReadyH.cons rfl (fun K hK => ?_) AllReadyH.nil
              go_simp
              refine (c_running HCe.out).mono ?_
              rintro e w6 ⟨v6, rfl, hi6, hC6, hS6⟩
              obtain ⟨va6, vc6, rfl⟩ := OL.shape hi6
              have HC6 := Lib.hid (hC6.less (J := fun i => i < h2) fun _ h => .inl h)
              have HS6 := Lib.hid (HSe.out.trans hS6)
              rw [show (sortI s1.back.run).length = s1.run.length from sortI_len _]
              clear hi6 hC6 hS6
              go_simp
              refine hK.out _ _ (HSA.out w6 HS6.out HC6.out.be) (fun hH6 => ?_)
              clear hK K
              by_cases hr : (s1.run.length : Int) < slots
              · have CS2 := Lib.hid (c_start HC6.out (nowY Y j))
                have d : decide ((s1.run.length : Int) < slots) = true := decide_eq_true hr
                refine wpAnyH_take (i := 2) (v := ?_) rfl (by kernel_rfl) (by kernel_rfl) (by kernel_rfl) (fun _ _ _ h => h) (Or.inl ⟨by rfl, ?_⟩) hH6 ?_
                rotate_left
                · intro w hSw
                  go_simp
                  with_reducible rfl
                try simp only [List.getElem_toArray, List.getElem_cons_succ, List.getElem_cons_zero, Act.put, List.setIfInBounds_toArray, List.set_cons_zero, List.set_cons_succ]
                refine wpAnyH_take (i := 5) (v := ?_) rfl (by kernel_rfl) (by kernel_rfl) (by kernel_rfl) (fun _ _ _ h => h) (Or.inl ⟨by rfl, ?_⟩) hH6 ?_
                rotate_left
                · intro w hSw
                  go_simp
                  with_reducible rfl
                try simp only [List.getElem_toArray, List.getElem_cons_succ, List.getElem_cons_zero, Act.put, List.setIfInBounds_toArray, List.set_cons_zero, List.set_cons_succ]
                refine wpAnyH_take (i := 6) (v := ?_) rfl (by kernel_rfl) (by kernel_rfl) (by kernel_rfl) (fun _ _ _ h => h) (Or.inl ⟨by rfl, ?_⟩) hH6 ?_
                rotate_left
                · intro w hSw
                  go_simp
                  with_reducible rfl
                try simp only [List.getElem_toArray, List.getElem_cons_succ, List.getElem_cons_zero, Act.put, List.setIfInBounds_toArray, List.set_cons_zero, List.set_cons_succ]
                refine wpAnyH_take (i := 7) (v := ?_) rfl (by kernel_rfl) (by kernel_rfl) (by kernel_rfl) (fun _ _ _ h => h) (Or.inl ⟨by rfl, ?_⟩) hH6 ?_
                rotate_left
                · intro w hSw
                  go_simp
                  with_reducible rfl
                try simp only [List.getElem_toArray, List.getElem_cons_succ, List.getElem_cons_zero, Act.put, List.setIfInBounds_toArray, List.set_cons_zero, List.set_cons_succ]
                refine wpAnyH_take (i := 8) (v := ?_) rfl (by kernel_rfl) (by kernel_rfl) (by kernel_rfl) (fun _ _ _ h => h) (Or.inl ⟨by rfl, ?_⟩) hH6 ?_
                rotate_left
                · intro w hSw
                  go_simp
                  with_reducible rfl
                try simp only [List.getElem_toArray, List.getElem_cons_succ, List.getElem_cons_zero, Act.put, List.setIfInBounds_toArray, List.set_cons_zero, List.set_cons_succ]
                refine wpAnyH_ready (rs := [9]) (by kernel_rfl) (by simp) ?_
                refine AllReadyH.cons rfl (fun K hK => ?_) AllReadyH.nil
                go_simp
                refine CS2.out.mono ?_
                rintro e w7 ⟨s2, o2, a2, hl2, v7, rfl, hi7, hC7, hS7⟩
                obtain rfl : o2 = [] := second HSS.out.2 HL.out (by rw [HSL1.out]; exact hr) hl2
                obtain ⟨va7, vc7, rfl⟩ := OL.shape hi7
                have HC7 := Lib.hid (hC7.less (J := fun i => i < h2) fun _ h => .inl h)
                have HS7 := Lib.hid (HS6.out.trans hS7)
                have HL2 := Lib.hid hl2
                clear hi7 hC7 hS7 hl2 CS2
                go_simp
                refine hK.out _ _ (HSA.out w7 HS7.out HC7.out.be) (fun hH7 => ?_)
                clear hK K
                refine wpAnyH_take (i := 10) (v := ?_) rfl (by kernel_rfl) (by kernel_rfl) (by kernel_rfl) (fun _ _ _ h => h) (Or.inl ⟨by rfl, ?_⟩) hH7 ?_
                rotate_left
                · intro w hSw
                  go_simp
                  with_reducible rfl
                try simp only [List.getElem_toArray, List.getElem_cons_succ, List.getElem_cons_zero, Act.put, List.setIfInBounds_toArray, List.set_cons_zero, List.set_cons_succ]
                refine wpAnyH_take (i := 11) (v := ?_) rfl (by kernel_rfl) (by kernel_rfl) (by kernel_rfl) (fun _ _ _ h => h) (Or.inl ⟨by rfl, ?_⟩) hH7 ?_
                rotate_left
                · intro w hSw
                  go_simp
                  with_reducible rfl
                try simp only [List.getElem_toArray, List.getElem_cons_succ, List.getElem_cons_zero, Act.put, List.setIfInBounds_toArray, List.set_cons_zero, List.set_cons_succ]
                refine wpAnyH_take (i := 12) (v := ?_) rfl (by kernel_rfl) (by kernel_rfl) (by kernel_rfl) (fun _ _ _ h => h) (Or.inl ⟨by rfl, ?_⟩) hH7 ?_
                rotate_left
                · intro w hSw
                  go_simp
                  with_reducible rfl
                try simp only [List.getElem_toArray, List.getElem_cons_succ, List.getElem_cons_zero, Act.put, List.setIfInBounds_toArray, List.set_cons_zero, List.set_cons_succ]
                refine wpAnyH_done (by kernel_rfl) ?_ _
                clear hH hH6 hH7 d
                have HFIN : Hid (FinR Y j s0 s2.back) := Lib.hid ⟨s, s1, o, a, HP.out, HL.out, .inr ⟨by rw [HSL.out]; exact hr, s2, [], a2, HL2.out, rfl⟩⟩
                obtain ⟨u0, u1, hu, hF⟩ := Fst.next HF.out hlt HAO.out (lt_of_block HT.out) HRX.out HC7.out (fun i hi hne hia => (HS7.out i hi).trans (HO4.out i hia hne)) HFIN.out
                have HU : Hid (w7.heap[g2]? = some (.cells #[u0, u1] 80 (0, 0))) := Lib.hid (by rw [← hu]; exact (HS7.out g2 hgx).trans HT4.out)
                have HFX := Lib.hid hF
                have HSX := Lib.hid (HS4.out w7 HS7.out HC7.out.be)
                clear hF hu HFIN
                go_wp2_with fail
                go_roundw
                case rel => exact ⟨k + 1, _, u0, u1, by omega, by go_num, rfl, fun _ => rfl, HSX.out, HU.out, HFX.out⟩
                case measure => simp [intOf]; omega
              · have d : decide ((s1.run.length : Int) < slots) = false := decide_eq_false hr
                refine wpAnyH_take (i := 2) (v := ?_) rfl (by kernel_rfl) (by kernel_rfl) (by kernel_rfl) (fun _ _ _ h => h) (Or.inl ⟨by rfl, ?_⟩) hH6 ?_
                rotate_left
                · intro w hSw
                  go_simp
                  with_reducible rfl
                try simp only [List.getElem_toArray, List.getElem_cons_succ, List.getElem_cons_zero, Act.put, List.setIfInBounds_toArray, List.set_cons_zero, List.set_cons_succ]
                refine wpAnyH_take (i := 5) (v := ?_) rfl (by kernel_rfl) (by kernel_rfl) (by kernel_rfl) (fun _ _ _ h => h) (Or.inl ⟨by rfl, ?_⟩) hH6 ?_
                rotate_left
                · intro w hSw
                  go_simp
                  with_reducible rfl
                try simp only [List.getElem_toArray, List.getElem_cons_succ, List.getElem_cons_zero, Act.put, List.setIfInBounds_toArray, List.set_cons_zero, List.set_cons_succ]
                refine wpAnyH_take (i := 6) (v := ?_) rfl (by kernel_rfl) (by kernel_rfl) (by kernel_rfl) (fun _ _ _ h => h) (Or.inl ⟨by rfl, ?_⟩) hH6 ?_
                rotate_left
                · intro w hSw
                  go_simp
                  with_reducible rfl
                try simp only [List.getElem_toArray, List.getElem_cons_succ, List.getElem_cons_zero, Act.put, List.setIfInBounds_toArray, List.set_cons_zero, List.set_cons_succ]
                refine wpAnyH_take (i := 7) (v := undef) rfl (by kernel_rfl) (by kernel_rfl) (by kernel_rfl) (fun _ _ _ h => h) (Or.inr ⟨by rfl, rfl⟩) hH6 ?_
                try simp only [List.getElem_toArray, List.getElem_cons_succ, List.getElem_cons_zero, Act.put, List.setIfInBounds_toArray, List.set_cons_zero, List.set_cons_succ]
                refine wpAnyH_take (i := 8) (v := undef) rfl (by kernel_rfl) (by kernel_rfl) (by kernel_rfl) (fun _ _ _ h => h) (Or.inr ⟨by rfl, rfl⟩) hH6 ?_
                try simp only [List.getElem_toArray, List.getElem_cons_succ, List.getElem_cons_zero, Act.put, List.setIfInBounds_toArray, List.set_cons_zero, List.set_cons_succ]
                refine wpAnyH_take (i := 9) (v := undef) rfl (by kernel_rfl) (by kernel_rfl) (by kernel_rfl) (fun _ _ _ h => h) (Or.inr ⟨by rfl, rfl⟩) hH6 ?_
                try simp only [List.getElem_toArray, List.getElem_cons_succ, List.getElem_cons_zero, Act.put, List.setIfInBounds_toArray, List.set_cons_zero, List.set_cons_succ]
                refine wpAnyH_take (i := 10) (v := undef) rfl (by kernel_rfl) (by kernel_rfl) (by kernel_rfl) (fun _ _ _ h => h) (Or.inr ⟨by rfl, rfl⟩) hH6 ?_
                try simp only [List.getElem_toArray, List.getElem_cons_succ, List.getElem_cons_zero, Act.put, List.setIfInBounds_toArray, List.set_cons_zero, List.set_cons_succ]
                refine wpAnyH_take (i := 11) (v := undef) rfl (by kernel_rfl) (by kernel_rfl) (by kernel_rfl) (fun _ _ _ h => h) (Or.inr ⟨by rfl, rfl⟩) hH6 ?_
                try simp only [List.getElem_toArray, List.getElem_cons_succ, List.getElem_cons_zero, Act.put, List.setIfInBounds_toArray, List.set_cons_zero, List.set_cons_succ]
                refine wpAnyH_take (i := 12) (v := ?_) rfl (by kernel_rfl) (by kernel_rfl) (by kernel_rfl) (fun _ _ _ h => h) (Or.inl ⟨by rfl, ?_⟩) hH6 ?_
                rotate_left
                · intro w hSw
                  go_simp
                  with_reducible rfl
                try simp only [List.getElem_toArray, List.getElem_cons_succ, List.getElem_cons_zero, Act.put, List.setIfInBounds_toArray, List.set_cons_zero, List.set_cons_succ]
                refine wpAnyH_done (by kernel_rfl) ?_ _
                clear hH hH6 d
                have HFIN : Hid (FinR Y j s0 s1.back) := Lib.hid ⟨s, s1, o, a, HP.out, HL.out, .inl ⟨by rw [HSL.out]; exact hr, rfl⟩⟩
                obtain ⟨u0, u1, hu, hF⟩ := Fst.next HF.out hlt HAO.out (lt_of_block HT.out) HRX.out HC6.out (fun i hi hne hia => (HS6.out i hi).trans (HO4.out i hia hne)) HFIN.out
                have HU : Hid (w6.heap[g2]? = some (.cells #[u0, u1] 80 (0, 0))) := Lib.hid (by rw [← hu]; exact (HS6.out g2 hgx).trans HT4.out)
                have HFX := Lib.hid hF
                have HSX := Lib.hid (HS4.out w6 HS6.out HC6.out.be)
                clear hF hu HFIN
                go_wp2_with fail
                go_roundw
                case rel => exact ⟨k + 1, _, u0, u1, by omega, by go_num, rfl, fun _ => rfl, HSX.out, HU.out, HFX.out⟩
                case measure => simp [intOf]; omega
        · obtain rfl : k = 2 := by omega
          obtain rfl : now = nowY Y n := hnow (by omega)
          rcases hF with ⟨h, _⟩ | ⟨h, _⟩ | ⟨_, b1, h1, b2, h2, s, wa, rfl, rfl, hg1, hwa, hC1, hsm, hC2, hfin⟩
          · omega
          · omega
          have hsz : wa.heap.size ≤ wr.heap.size := Nat.le_of_not_lt fun h => by
            have := hC2.lt wr.heap.size (show wr.heap.size < h2 by omega)
            omega
          have HKA : Hid (∀ wx, (∀ j, j < wa.heap.size → j ≠ g2 → wx.heap[j]? = wa.heap[j]?) → Below w.heap.size w wx → wa.heap.size ≤ wx.heap.size → CA w (fun i => i < h1) b1 s wx) := Lib.hid fun wx hs hb hz => hC1.keep hg1 hs hb hz
          obtain ⟨hok, hsl, _, hnone⟩ := hfin.out HAO.out
          have HC2 := Lib.hid hC2
          have HSM := Lib.hid hsm
          have HC1 := Lib.hid (HKA.out wr hsm hS.be hsz)
          have HOK := Lib.hid hok
          have HNA := Lib.hid hnone
          have HSR : Hid (s.slots = slots) := Lib.hid (hsl.trans HSL.out)
          have hnb := nowY_bd (Y := Y) (n := n) (fun i hi => (HY.out.at_ hi).2.2.1) n (Nat.le_refl _)
          have HS := Lib.hid hS
          have x0 := (has_cell hT 0).trans (show _ = some (ptA b1) from rfl)
          have x1 := (has_cell hT 1).trans (show _ = some (ptA b2) from rfl)
          unfold ptA at x0 x1
          have HW : Hid (wa.heap.size ≤ h2 ∧ wa.heap.size ≤ wr.heap.size) := Lib.hid ⟨hwa, hsz⟩
          clear hC1 hC2 hfin hsm hok hsl hnone hT hS hnow hg1 hwa hsz
          generalize nowY Y n = now at *
          go_upto_region 22 with fail
          go_quiet (fail)
          clear x0 x1
          have HC1' := Lib.hid (HC1.out.bel (below_draw _ wr nq))
          have HC2' := Lib.hid (HC2.out.bel (below_draw _ wr nq))
          have HSM' : Hid (∀ j, j < wa.heap.size → j ≠ g2 → (wr.drewN nq).heap[j]? = wa.heap[j]?) := Lib.hid HSM.out
          have HS' := Lib.hid (HS.out.on (below_draw _ wr nq))
          have HW' : Hid (wa.heap.size ≤ h2 ∧ wa.heap.size ≤ (wr.drewN nq).heap.size) := Lib.hid HW.out
          clear HC1 HC2 HSM HS HW
          generalize wr.drewN nq = w2 at *
          go_upto_region 23 with fail
          have HSA : Hid (∀ wx, Below w2.heap.size w2 wx → (fun wx : World => wx.cell? ⟨w.heap.size, 1, none⟩ = some (.int .i64 slots)) wx) := Lib.hid fun wx hb => (HS'.out.on hb).c1
          have hH0 := HSA.out w2 (Below.refl _ _)
          refine wp_region_held_drew (S := (fun wx : World => wx.cell? ⟨w.heap.size, 1, none⟩ = some (.int .i64 slots))) (by kernel_rfl) (hH0) (fun hH => ?_)
          obtain ⟨we, hwe⟩ : ∃ we, we = w2.drew := ⟨_, rfl⟩
          have HBE : Hid (Below w2.heap.size w2 we) := Lib.hid (by rw [hwe]; exact below_drew _ _)
          rw [← hwe] at hH ⊢
          clear hwe hH0
          refine wpAnyH_take (i := 0) (v := ?_) rfl (by kernel_rfl) (by kernel_rfl) (by kernel_rfl) (fun _ _ _ h => h) (Or.inl ⟨by rfl, ?_⟩) hH ?_
          rotate_left
          · intro w hSw
            go_simp
            with_reducible rfl
          try simp only [List.getElem_toArray, List.getElem_cons_zero, Act.put, List.setIfInBounds_toArray, List.set_cons_zero, List.set_cons_succ]
          refine wpAnyH_take (i := 3) (v := ?_) rfl (by kernel_rfl) (by kernel_rfl) (by kernel_rfl) (fun _ _ _ h => h) (Or.inl ⟨by rfl, ?_⟩) hH ?_
          rotate_left
          · intro w hSw
            go_simp
            with_reducible rfl
          try simp only [List.getElem_toArray, List.getElem_cons_succ, List.getElem_cons_zero, Act.put, List.setIfInBounds_toArray, List.set_cons_zero, List.set_cons_succ]
          refine wpAnyH_take (i := 4) (v := ?_) rfl (by kernel_rfl) (by kernel_rfl) (by kernel_rfl) (fun _ _ _ h => h) (Or.inl ⟨by rfl, ?_⟩) hH ?_
          rotate_left
          · intro w hSw
            go_simp
            with_reducible rfl
          try simp only [List.getElem_toArray, List.getElem_cons_succ, List.getElem_cons_zero, Act.put, List.setIfInBounds_toArray, List.set_cons_zero, List.set_cons_succ]
          refine wpAnyH_ready (rs := [1]) (by kernel_rfl) (by simp) ?_
          refine AllReadyH.cons rfl (fun K hK => ?_) AllReadyH.nil
          go_simp
          have hCe := HC1'.out.bel HBE.out
          obtain ⟨m, hA, hFa⟩ := hCe.at_
          refine (a_running hA hCe.ok).mono ?_
          rintro e w6 ⟨v6, rfl, hi6, _, hb6⟩
          obtain ⟨va6, vc6, rfl⟩ := OL.shape hi6
          have HB6 := Lib.hid (HBE.out.trans (hb6.mono HBE.out.size))
          rw [show (sortI s.run).length = s.run.length from sortI_len _]
          clear hi6 hb6 hA hFa hCe
          go_simp
          refine hK.out _ _ (HSA.out w6 HB6.out) (fun hH6 => ?_)
          clear hK K
          by_cases hr : (s.run.length : Int) < slots
          · have d : decide (slots ≤ (s.run.length : Int)) = false := decide_eq_false (by omega)
            have HN := Lib.hid (HNA.out (by rw [HSL.out]; exact hr))
            have HR := Lib.hid hr
            refine wpAnyH_take (i := 2) (v := ?_) rfl (by kernel_rfl) (by kernel_rfl) (by kernel_rfl) (fun _ _ _ h => h) (Or.inl ⟨by rfl, ?_⟩) hH6 ?_
            rotate_left
            · intro w hSw
              go_simp
              with_reducible rfl
            try simp only [List.getElem_toArray, List.getElem_cons_succ, List.getElem_cons_zero, Act.put, List.setIfInBounds_toArray, List.set_cons_zero, List.set_cons_succ]
            refine wpAnyH_take (i := 5) (v := ?_) rfl (by kernel_rfl) (by kernel_rfl) (by kernel_rfl) (fun _ _ _ h => h) (Or.inl ⟨by rfl, ?_⟩) hH6 ?_
            rotate_left
            · intro w hSw
              go_simp
              with_reducible rfl
            try simp only [List.getElem_toArray, List.getElem_cons_succ, List.getElem_cons_zero, Act.put, List.setIfInBounds_toArray, List.set_cons_zero, List.set_cons_succ]
            refine wpAnyH_done (by kernel_rfl) ?_ _
            clear hH hH6
            have HC6 := Lib.hid (HC1'.out.bel HB6.out)
            have HD6 := Lib.hid (HC2'.out.bel HB6.out)
            have HSM6 : Hid (∀ j, j < wa.heap.size → j ≠ g2 → w6.heap[j]? = wa.heap[j]?) := Lib.hid fun j hj hne => (HB6.out.block j (by have := HW'.out.2; omega)).trans (HSM'.out j hj hne)
            have HW6 : Hid (wa.heap.size ≤ h2 ∧ wa.heap.size ≤ w6.heap.size) := Lib.hid ⟨HW'.out.1, Nat.le_trans HW'.out.2 HB6.out.size⟩
            have HS6 := Lib.hid (HS'.out.on HB6.out)
            obtain ⟨m, hA, hFa⟩ := HC6.out.at_
            have CW := Lib.hid (awhen_any now hA HC6.out.ok)
            clear hA hFa HC1' HC2' HSM' HW' HS' HSA HB6 HBE hr d
            clear m
            obtain ⟨wo, hwo⟩ : ∃ wo, wBest s now s.m = wo := ⟨_, rfl⟩
            have HWO := Lib.hid hwo
            unfold whenV at CW
            rw [hwo] at CW
            clear hwo
            rcases wo with _ | x
            · unfold whenVO at CW
              rw [errV_pos (by decide)] at CW
              go_wp2_with fail
              refine CW.out.mono ?_
              rintro e w7 ⟨rfl, nd, hw7⟩
              have HB7 : Hid (Below w6.heap.size w6 w7) := Lib.hid (by rw [hw7]; exact below_draw _ _ _)
              have CS := Lib.hid (c_start (HC6.out.bel HB7.out) 1099511627776)
              have CIS : Hid (Calls Try.prog 13 #[.iface 33 (.int .i64 3), .int .i64 3] w7 fun e w' => e = .returned (.bool true) ∧ w' = w7) := Lib.hid (by
                have := is_any 3 3 (by decide) w7
                rw [errV_pos (by decide), isB_true (by decide)] at this
                exact this)
              clear CW hw7
              go_wp2_with fail
              refine CIS.out.mono ?_
              rintro e w8 ⟨rfl, hw8⟩
              obtain rfl : w7 = w8 := hw8.symm
              go_wp2_with fail
              refine CS.out.mono ?_
              rintro e w9 ⟨s1, o, a, hl, v9, rfl, hi9, hC9, _⟩
              obtain rfl : o = [] := when_none HOK.out hnb.1 (by omega) HWO.out hl
              obtain ⟨va9, vc9, rfl⟩ := OL.shape hi9
              have HP : Hid (AwP w (.returned (.bool true)) w9) := Lib.hid ⟨rfl, hC9.be⟩
              clear CS CIS hl hi9 hC9
              go_wp2_with fail
              go_ret
              exact HP.out
            · obtain ⟨hx1, hx2, hx3⟩ := when_some HOK.out hnb.1 (by omega) HWO.out HN.out (by rw [HSR.out]; exact HR.out)
              have HX2 := Lib.hid hx2
              have HX3 := Lib.hid hx3
              have hxm : x ≤ 1099511627776 := (wBest_some HOK.out hnb.1 (by omega) s.m (Nat.le_refl _) x HWO.out).2.1
              unfold whenVO at CW
              rw [errV0] at CW
              clear hx2 hx3
              go_wp2_with fail
              refine CW.out.mono ?_
              rintro e w7 ⟨rfl, nd, hw7⟩
              have HB7 : Hid (Below w6.heap.size w6 w7) := Lib.hid (by rw [hw7]; exact below_draw _ _ _)
              have HD7 := Lib.hid (HD6.out.bel HB7.out)
              have HC7 := Lib.hid (HC6.out.bel HB7.out)
              have HSM7 : Hid (∀ j, j < wa.heap.size → j ≠ g2 → w7.heap[j]? = wa.heap[j]?) := Lib.hid fun j hj hne => (HB7.out.block j (by have := HW6.out.2; omega)).trans (HSM6.out j hj hne)
              have HW7 : Hid (wa.heap.size ≤ h2 ∧ wa.heap.size ≤ w7.heap.size) := Lib.hid ⟨HW6.out.1, Nat.le_trans HW6.out.2 HB7.out.size⟩
              have p0 : IntKind.i64.wrap gap = gap := IntWalk.i64_in _ (by omega)
              have p1 : IntKind.i64.wrap (now + gap) = now + gap := IntWalk.i64_in _ (by omega)
              clear CW hw7
              by_cases hE : now + gap < x
              · have dE : decide (now + gap < x) = true := decide_eq_true hE
                have dx : decide (now < x) = true := decide_eq_true hx1
                have CS := Lib.hid (c_start HD7.out (now + gap))
                go_wp2_with fail
                refine CS.out.mono ?_
                rintro e w8 ⟨s1, o, a, hl, v8, rfl, hi8, hC8, hS8⟩
                obtain rfl : o = [] := HX2.out _ (by omega) hE _ _ _ hl
                obtain ⟨va8, vc8, rfl⟩ := OL.shape hi8
                have hbe8 := hC8.be
                have hz8 : wa.heap.size ≤ w8.heap.size := Nat.le_of_not_lt fun h => by
                  have := hC8.lt w8.heap.size (.inl (show w8.heap.size < h2 by have := HW7.out.1; omega))
                  omega
                have CS2 := Lib.hid (c_start (HKA.out w8 (fun j hj hne => (hS8 j (show j < h2 by have := HW7.out.1; omega)).trans (HSM7.out j hj hne)) hbe8 hz8) x)
                clear CS hl hi8 hC8 hS8 hbe8 hz8 dE
                go_wp2_with fail
                refine CS2.out.mono ?_
                rintro e w9 ⟨s2, o2, a2, hl2, v9, rfl, hi9, hC9, _⟩
                have ho := HX3.out _ _ _ hl2
                obtain ⟨va9, vc9, rfl⟩ := OL.shape hi9
                have HP : Hid (AwP w (.returned (.bool true)) w9) := Lib.hid ⟨rfl, hC9.be⟩
                have d9 : decide ((0 : Int) < (o2.length : Int)) = true := decide_eq_true (by omega)
                clear CS2 hl2 hi9 hC9
                go_wp2_with fail
                go_ret
                exact HP.out
              · have dE : decide (now + gap < x) = false := decide_eq_false hE
                have dx : decide (now < x) = true := decide_eq_true hx1
                have CS2 := Lib.hid (c_start HC7.out x)
                go_wp2_with fail
                refine CS2.out.mono ?_
                rintro e w9 ⟨s2, o2, a2, hl2, v9, rfl, hi9, hC9, _⟩
                have ho := HX3.out _ _ _ hl2
                obtain ⟨va9, vc9, rfl⟩ := OL.shape hi9
                have HP : Hid (AwP w (.returned (.bool true)) w9) := Lib.hid ⟨rfl, hC9.be⟩
                have d9 : decide ((0 : Int) < (o2.length : Int)) = true := decide_eq_true (by omega)
                clear CS2 hl2 hi9 hC9 dE
                go_wp2_with fail
                go_ret
                exact HP.out
          · have d : decide (slots ≤ (s.run.length : Int)) = true := decide_eq_true (by omega)
            refine wpAnyH_take (i := 2) (v := ?_) rfl (by kernel_rfl) (by kernel_rfl) (by kernel_rfl) (fun _ _ _ h => h) (Or.inl ⟨by rfl, ?_⟩) hH6 ?_
            rotate_left
            · intro w hSw
              go_simp
              with_reducible rfl
            try simp only [List.getElem_toArray, List.getElem_cons_succ, List.getElem_cons_zero, Act.put, List.setIfInBounds_toArray, List.set_cons_zero, List.set_cons_succ]
            refine wpAnyH_take (i := 5) (v := ?_) rfl (by kernel_rfl) (by kernel_rfl) (by kernel_rfl) (fun _ _ _ h => h) (Or.inl ⟨by rfl, ?_⟩) hH6 ?_
            rotate_left
            · intro w hSw
              go_simp
              with_reducible rfl
            try simp only [List.getElem_toArray, List.getElem_cons_succ, List.getElem_cons_zero, Act.put, List.setIfInBounds_toArray, List.set_cons_zero, List.set_cons_succ]
            refine wpAnyH_done (by kernel_rfl) ?_ _
            clear hH hH6
            have HP : Hid (AwP w (.returned (.bool true)) w6) := Lib.hid ⟨rfl, (HC1'.out.bel HB6.out).be⟩
            go_wp2_with fail
            go_ret
            exact HP.out
    · have CN := Lib.hid (fun (w1 : World) (v : Value) (h : IsS w1 v (shOf X ns)) => c_new_bad h hsl HQB.out ha)
      clear ha hsl HQB HT3
      go_wp2_with fail
      go_loopw [8, 29] (fun nv kv wr => kv = .int .i64 0 ∧ SetAt w aos ns caps slots w.heap.size wr) (fun _ kv _ => 2 - (intOf kv).toNat)
      case atStart => exact ⟨rfl, HS3.out⟩
      case round =>
        clear HS3
        obtain ⟨rfl, hS⟩ := hrel
        have HS := Lib.hid hS
        have HCX : Hid (∀ w', Below wr.heap.size wr w' → w'.cell? ⟨w.heap.size, 0, none⟩ = some (.slice aos ns caps) ∧ w'.cell? ⟨w.heap.size, 1, none⟩ = some (.int .i64 slots)) := Lib.hid fun w' hb => ⟨(HS.out.on hb).c0, (HS.out.on hb).c1⟩
        have SHW := Lib.hid (fun (w' : World) (hb : Below wr.heap.size wr w') => shares_any (cap := caps) slots w' (HX.out.below (HS.out.on hb).be (Nat.le_refl _)) (by omega))
        obtain ⟨bx0, bx1⟩ := HCX.out wr (Below.refl _ _)
        clear hS
        go_upto_region 8 with fail
        go_region_held3 (fun w' => w'.cell? ⟨w.heap.size, 0, none⟩ = some (.slice aos ns caps) ∧ w'.cell? ⟨w.heap.size, 1, none⟩ = some (.int .i64 slots)) (go_keep)
          (first
            | (go_at_call 21; refine (SHW.out _ (by first | exact Below.refl _ _ | exact below_drew _ _ | exact below_draw _ _ _)).mono ?_; rintro e w1 ⟨vs, rfl, hvs, _, hb1⟩; have HW1 : Hid (Below wr.heap.size wr w1) := Lib.hid (by first | exact hb1 | exact (below_drew _ _).trans hb1 | exact (below_draw _ _ _).trans hb1); have HVS := Lib.hid hvs; obtain ⟨bx0, bx1⟩ := HCX.out _ HW1.out; obtain ⟨vsa, vsc, rfl⟩ := OL.shape hvs)
            | (go_at_call 11; refine (CN.out _ _ (HVS.out.belowS (by first | exact Below.refl _ _ | exact below_drew _ _ | exact below_draw _ _ _))).mono ?_; rintro e w2 ⟨rfl, hb2⟩; have HN2 : Hid (Below wr.heap.size wr w2) := Lib.hid (by first | exact HW1.out.trans (hb2.mono HW1.out.size) | exact (HW1.out.trans (below_drew _ _)).trans (hb2.mono HW1.out.size) | exact (HW1.out.trans (below_draw _ _ _)).trans (hb2.mono HW1.out.size)); obtain ⟨bx0, bx1⟩ := HCX.out w2 HN2.out))
        have HP : Hid (AwP w (.returned (.bool true)) w2) := Lib.hid ⟨rfl, (HS.out.on HN2.out).be⟩
        clear HN2 hb2 HVS HW1 hb1 hvs SHW CN HCX bx0 bx1 HS
        rw [errV_pos (by decide)]
        go_wp2_with fail
        go_ret
        exact HP.out
end
end Go.Proofs.Ytmdajndmobpgbaa

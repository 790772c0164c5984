/- The statements DeviceNone, DeviceMakes, DeviceFails: the walks. Conditions: an argument of type int is one of 64 bits. -/
import Derived.Test.YtbpjfhfibllhgaaDvAwake
namespace Go.Proofs.Ytbpjfhfibllhgaa
open Go.RowKit
open Go.Proofs.Ytbpjfhfibllhgaa.Dv

theorem copy_nil (w : World) : Calls Try.prog 27 #[.pointer none] w fun e w' => e = .returned (.pointer none) ∧ w' = w := by
  go_enter Try.func27, Try.ntmps27
  go_wp2
  go_ret
  exact ⟨rfl, rfl⟩
theorem is_same (m : Int) (hm : m ≠ 0) (w : World) : Calls Try.prog 19 #[.iface 43 (.int .i64 m), .int .i64 m] w fun e w' => e = .returned (.bool true) ∧ w' = w := by
  have := is_any m m hm w
  rw [errV_pos hm, isB_true hm] at this
  exact this
theorem rep_cell {w : World} {g n : Nat} {e : TypeId} {x : Value} (h : w.heap[g]? = some (.cells (List.replicate n x).toArray e (0, 0))) {j : Nat} (hj : j < n) : w.cell? ⟨g, j, none⟩ = some x := by
  rw [has_cell h, List.getElem?_toArray, List.getElem?_replicate, if_pos hj]
set_option maxRecDepth 100000 in
set_option maxHeartbeats 800000 in
theorem none_walk (i k : Int) (w : World) : Calls Try.prog 10 #[.int .i64 i, .int .i64 k] w (AwP w) := by
  go_enter Try.func10, Try.ntmps10
  go_wp2_with fail
  refine (awake_any _).mono ?_
  rintro e w1 ⟨rfl, hB⟩
  go_wp2_with fail
  refine (read_nil _ _ _).mono ?_
  rintro e w1' ⟨rfl, hw⟩
  subst hw
  rw [errV_pos (by decide)]
  go_wp2_with fail
  refine (next_nil _ _).mono ?_
  rintro e w1'' ⟨rfl, hw⟩
  subst hw
  rw [errV_pos (by decide)]
  go_wp2_with fail
  refine (worn_nil _ _).mono ?_
  rintro e w2 ⟨rfl, hw⟩
  subst hw
  rw [errV_pos (by decide)]
  go_wp2_with fail
  refine (fail_nil _ _).mono ?_
  rintro e w3 ⟨rfl, hw⟩
  subst hw
  go_wp2_with fail
  refine (crash_nil _ _).mono ?_
  rintro e w4 ⟨rfl, hw⟩
  rw [hw]
  have hB4 := hB.alloc hB.size (.cells #[.int .i64 i, .int .i64 k] 3)
  clear hw hB
  generalize w3.alloc (.cells #[.int .i64 i, .int .i64 k] 3) = w5 at hB4 ⊢
  go_wp2_with fail
  refine (prog_nil _ _ _ _).mono ?_
  rintro e w6 ⟨rfl, hb6⟩
  rw [errV_pos (by decide)]
  replace hB4 := hB4.trans (hb6.mono hB4.size)
  clear hb6
  go_wp2_with fail
  refine (erase_nil _ _).mono ?_
  rintro e w7 ⟨rfl, hb7⟩
  rw [errV_pos (by decide)]
  replace hB4 := hB4.trans (hb7.mono hB4.size)
  clear hb7
  go_wp2_with fail
  refine (sync_nil _).mono ?_
  rintro e w8 ⟨rfl, hb8⟩
  rw [errV_pos (by decide)]
  replace hB4 := hB4.trans (hb8.mono hB4.size)
  clear hb8
  have hX : (w8.alloc (.cells (List.replicate 6 (.iface 43 (.int .i64 3))).toArray 26)).heap[w8.heap.size]? = some (.cells (List.replicate 6 (.iface 43 (.int .i64 3))).toArray 26 (0, 0)) := heap_alloc_new w8 _
  have hBa := hB4.alloc hB4.size (.cells (List.replicate 6 (.iface 43 (.int .i64 3))).toArray 26)
  have HX := Lib.hid (fun j (hj : j < 6) => rep_cell hX hj)
  have hrep : (List.replicate 6 (Value.iface 43 (.int .i64 3))).toArray = #[.iface 43 (.int .i64 3), .iface 43 (.int .i64 3), .iface 43 (.int .i64 3), .iface 43 (.int .i64 3), .iface 43 (.int .i64 3), .iface 43 (.int .i64 3)] := rfl
  rw [hrep] at hBa HX
  clear hX hrep
  go_wp2_with fail
  generalize w8.alloc (.cells #[.iface 43 (.int .i64 3), .iface 43 (.int .i64 3), .iface 43 (.int .i64 3), .iface 43 (.int .i64 3), .iface 43 (.int .i64 3), .iface 43 (.int .i64 3)] 26) = w9 at hBa HX ⊢
  go_loopw [57] (fun i wr => ∃ j : Nat, j ≤ 6 ∧ i = .int .i64 j ∧ wr = w9) (fun i _ => 6 - (intOf i).toNat)
  case atStart => exact ⟨0, by omega, rfl, rfl⟩
  case round =>
    obtain ⟨j, hj, rfl, rfl⟩ := hrel
    by_cases hlt : j < 6
    · have hc := HX.out j hlt
      have hjI : (j : Int) < 6 := by omega
      go_wp2_with fail
      refine (is_same 3 (by decide) _).mono ?_
      rintro e wz ⟨rfl, hw⟩
      subst hw
      go_wp2
      go_roundw
      case rel => exact ⟨j + 1, by omega, by go_num, by first | rfl | trivial⟩
      case measure => simp [intOf]; omega
    · obtain rfl : j = 6 := by omega
      go_wp2_with fail
      refine (blocks_nil _).mono ?_
      rintro e wz ⟨rfl, hw⟩
      subst hw
      go_wp2_with fail
      refine (pages_nil _).mono ?_
      rintro e wz2 ⟨rfl, hw⟩
      subst hw
      go_wp2_with fail
      refine (copy_nil _).mono ?_
      rintro e wz3 ⟨rfl, hw⟩
      subst hw
      go_wp2
      go_ret
      exact ⟨rfl, hBa⟩
section
variable {w : World} {B b n p : Nat} {s : Dev}
theorem read_out {i k : Int} (h : DS w (B ≤ ·) b n p s) (hi : ¬ ((0 ≤ i ∧ i < n) ∧ (0 ≤ k ∧ k < p))) : Calls Try.prog 16 #[.pointer (some ⟨b, 0, none⟩), .int .i64 i, .int .i64 k] w fun e w' => e = .returned (.tuple #[.slice none 0 0, .iface 43 (.int .i64 1)]) ∧ w' = w :=
  d_read_bad h (if_neg hi)
theorem next_out {i : Int} (h : DS w (B ≤ ·) b n p s) (hi : ¬ (0 ≤ i ∧ i < n)) : Calls Try.prog 15 #[.pointer (some ⟨b, 0, none⟩), .int .i64 i] w fun e w' => e = .returned (.tuple #[.int .i64 0, .iface 43 (.int .i64 1)]) ∧ Below w.heap.size w w' := by
  have := d_next i h
  rw [show nextE n i = 1 from if_neg hi, show nextI n s i = 0 from if_neg hi] at this
  exact this
theorem worn_out {i : Int} (h : DS w (B ≤ ·) b n p s) (hi : ¬ (0 ≤ i ∧ i < n)) : Calls Try.prog 20 #[.pointer (some ⟨b, 0, none⟩), .int .i64 i] w fun e w' => e = .returned (.tuple #[.int .i64 0, .iface 43 (.int .i64 1)]) ∧ w' = w := by
  have := d_worn i h
  rw [show nextE n i = 1 from if_neg hi, show wornI n s i = 0 from if_neg hi] at this
  exact this
theorem prog_out {i k : Int} (h : DS w (B ≤ ·) b n p s) (hB : B ≤ w.heap.size) (hpl : s.pending.length ≤ 1000000) (hi : ¬ ((0 ≤ i ∧ i < n) ∧ (0 ≤ k ∧ k < p))) :
    Calls Try.prog 13 #[.pointer (some ⟨b, 0, none⟩), .int .i64 i, .int .i64 k, .slice none 0 0] w fun e w' => e = .returned (.iface 43 (.int .i64 1)) ∧ DS w' (B ≤ ·) b n p s ∧ Below B w w' := by
  have hE : progE n p s i k 0 = 1 := by unfold progE; rw [if_pos (show pageE n p i k = 1 from if_neg hi)]
  have := nil_prog i k h hB hpl
  rw [hE, progS_of s i k [] hE (by decide) (by decide)] at this
  exact this.mono fun e w' h => ⟨h.1, h.2.1, h.2.2.1⟩
theorem erase_out {i : Int} (h : DS w (B ≤ ·) b n p s) (hB : B ≤ w.heap.size) (hpl : s.pending.length ≤ 1000000) (hi : ¬ (0 ≤ i ∧ i < n)) :
    Calls Try.prog 18 #[.pointer (some ⟨b, 0, none⟩), .int .i64 i] w fun e w' => e = .returned (.iface 43 (.int .i64 1)) ∧ DS w' (B ≤ ·) b n p s ∧ Below B w w' := by
  have := d_erase i h hpl
  rw [show eraseE n s i = 1 from if_pos hi, show eraseS n s i = s from if_pos hi] at this
  exact this.mono fun e w' h => by
    obtain ⟨h1, h2, h3, _⟩ := h.own hB
    exact ⟨h1, h2, h3⟩
end
set_option maxRecDepth 100000 in
set_option maxHeartbeats 1600000 in
theorem makes_walk (x y i : Int) (w : World) : Calls Try.prog 5 #[.int .i64 x, .int .i64 y, .int .i64 i] w (AwP w) := by
  by_cases hok : newOk x y
  · obtain ⟨h1, h2, h3, h4⟩ := hok
    obtain ⟨n, rfl⟩ := Int.eq_ofNat_of_zero_le (show 0 ≤ x by omega)
    obtain ⟨p, rfl⟩ := Int.eq_ofNat_of_zero_le (show 0 ≤ y by omega)
    by_cases hi : 0 ≤ i ∧ i < max (n : Int) p
    · obtain ⟨hi0, hi1⟩ := hi
      go_enter Try.func5, Try.ntmps5
      go_wp2_with fail
      refine (awake_any _).mono ?_
      rintro e w1 ⟨rfl, hB⟩
      go_wp2_with fail
      refine (d_new w1 (n := n) (p := p) (by omega) (by omega) (by omega) (by omega)).mono ?_
      rintro e w2 ⟨b, rfl, hD, hb⟩
      rw [errV0]
      have hB2 := hB.trans (hb.mono hB.size)
      have CB := Lib.hid (d_blocks hD)
      have CP := Lib.hid (d_pages hD)
      clear hD hb hB
      go_wp2_with (first | (go_at_call 21; refine CB.out.mono ?_; rintro e wz ⟨rfl, rfl⟩) | (go_at_call 22; refine CP.out.mono ?_; rintro e wz ⟨rfl, rfl⟩))
      go_ret
      exact ⟨rfl, hB2⟩
    · have ha : ¬ (0 ≤ i ∧ i < n) := by omega
      have hb' : ¬ (0 ≤ i ∧ i < p) := by omega
      have HA := Lib.hid (And.intro ha hb')
      have hin : ¬ (0 ≤ i) ∨ ¬ (i < max (n : Int) p) := by omega
      clear ha hb' hi
      by_cases hi0 : 0 ≤ i
      all_goals
        have hi1 : 0 ≤ i → ¬ (i < max (n : Int) p) := by omega
        clear hin
        try have hi2 := hi1 hi0
        clear hi1
        go_enter Try.func5, Try.ntmps5
        go_wp2_with fail
        refine (awake_any _).mono ?_
        rintro e w1 ⟨rfl, hB⟩
        go_wp2_with fail
        refine (d_new w1 (n := n) (p := p) (by omega) (by omega) (by omega) (by omega)).mono ?_
        rintro e w2 ⟨b, rfl, hD, hb⟩
        rw [errV0]
        have hB1 := hB.size
        have hB2 := hB.trans (hb.mono hB.size)
        have CB := Lib.hid (d_blocks hD)
        have CP := Lib.hid (d_pages hD)
        have CR1 := Lib.hid (read_out (i := i) (k := 0) hD (fun h => HA.out.1 h.1))
        have CR2 := Lib.hid (read_out (i := 0) (k := i) hD (fun h => HA.out.2 h.2))
        have CN := Lib.hid (next_out (i := i) hD HA.out.1)
        have HD := Lib.hid hD
        have hs2 := hb.size
        clear hD hb hB
        go_wp2_with fail
        refine CB.out.mono ?_
        rintro e wz ⟨rfl, hw⟩
        subst hw
        go_wp2_with fail
        refine CP.out.mono ?_
        rintro e wz ⟨rfl, hw⟩
        subst hw
        go_wp2_with fail
        refine CR1.out.mono ?_
        rintro e wz ⟨rfl, hw⟩
        subst hw
        go_wp2_with fail
        refine CR2.out.mono ?_
        rintro e wz ⟨rfl, hw⟩
        subst hw
        go_wp2_with fail
        refine CN.out.mono ?_
        rintro e w3 ⟨rfl, hb3⟩
        have HD3 := Lib.hid (HD.out.belowS hb3)
        have hB3 := hB2.trans (hb3.mono hB2.size)
        have hs3 := hb3.size
        have CW := Lib.hid (worn_out (i := i) HD3.out HA.out.1)
        clear CB CP CR1 CR2 CN HD hb3 hB2
        go_wp2_with fail
        refine CW.out.mono ?_
        rintro e w3' ⟨rfl, hw⟩
        subst hw
        have C1 := Lib.hid (prog_out (i := i) (k := 0) HD3.out (by omega) (by simp [Dev.init]) (fun h => HA.out.1 h.1))
        clear CW
        go_wp2_with fail
        refine C1.out.mono ?_
        rintro e w4 ⟨rfl, hD4, hb4⟩
        have hs4 := hb4.size
        replace hB3 := hB3.trans (hb4.mono hB1)
        have C2 := Lib.hid (prog_out (i := 0) (k := i) hD4 (by omega) (by simp [Dev.init]) (fun h => HA.out.2 h.2))
        clear C1 HD3 hD4 hb4
        go_wp2_with fail
        refine C2.out.mono ?_
        rintro e w5 ⟨rfl, hD5, hb5⟩
        have hs5 := hb5.size
        replace hB3 := hB3.trans (hb5.mono hB1)
        have C3 := Lib.hid (erase_out (i := i) hD5 (by omega) (by simp [Dev.init]) HA.out.1)
        clear C2 hD5 hb5
        go_wp2_with fail
        refine C3.out.mono ?_
        rintro e w8 ⟨rfl, _, hb6⟩
        replace hB3 := hB3.trans (hb6.mono hB1)
        clear C3 hb6
        have hX : (w8.alloc (.cells (List.replicate 7 (.iface 43 (.int .i64 1))).toArray 26)).heap[w8.heap.size]? = some (.cells (List.replicate 7 (.iface 43 (.int .i64 1))).toArray 26 (0, 0)) := heap_alloc_new w8 _
        have hBa := hB3.alloc hB3.size (.cells (List.replicate 7 (.iface 43 (.int .i64 1))).toArray 26)
        have HX := Lib.hid (fun j (hj : j < 7) => rep_cell hX hj)
        have hrep : (List.replicate 7 (Value.iface 43 (.int .i64 1))).toArray = #[.iface 43 (.int .i64 1), .iface 43 (.int .i64 1), .iface 43 (.int .i64 1), .iface 43 (.int .i64 1), .iface 43 (.int .i64 1), .iface 43 (.int .i64 1), .iface 43 (.int .i64 1)] := rfl
        rw [hrep] at hBa HX
        clear hX hrep hB3
        go_wp2_with fail
        generalize w8.alloc (.cells #[.iface 43 (.int .i64 1), .iface 43 (.int .i64 1), .iface 43 (.int .i64 1), .iface 43 (.int .i64 1), .iface 43 (.int .i64 1), .iface 43 (.int .i64 1), .iface 43 (.int .i64 1)] 26) = w9 at hBa HX ⊢
        go_loopw [109] (fun i wr => ∃ j : Nat, j ≤ 7 ∧ i = .int .i64 j ∧ wr = w9) (fun i _ => 7 - (intOf i).toNat)
        case atStart => exact ⟨0, by omega, rfl, rfl⟩
        case round =>
          obtain ⟨j, hj, rfl, rfl⟩ := hrel
          by_cases hlt : j < 7
          · have hc := HX.out j hlt
            have hjI : (j : Int) < 7 := by omega
            go_wp2_with fail
            refine (is_same 1 (by decide) _).mono ?_
            rintro e wz ⟨rfl, hw⟩
            subst hw
            go_wp2
            go_roundw
            case rel => exact ⟨j + 1, by omega, by go_num, by first | rfl | trivial⟩
            case measure => simp [intOf]; omega
          · obtain rfl : j = 7 := by omega
            go_wp2
            go_ret
            exact ⟨rfl, hBa⟩
  · have CN := Lib.hid (fun w => new_bad x y w hok)
    unfold newOk at hok
    have key : ∀ (_ : x < 1 ∨ (1 ≤ x ∧ 64 < x) ∨ (1 ≤ x ∧ x ≤ 64 ∧ y < 1) ∨ (1 ≤ x ∧ x ≤ 64 ∧ 1 ≤ y ∧ 32 < y)), Calls Try.prog 5 #[.int .i64 x, .int .i64 y, .int .i64 i] w (AwP w) := by
      intro hc
      clear hok
      rcases hc with h | ⟨h, h'⟩ | ⟨h, h', h''⟩ | ⟨h, h', h'', h3⟩
      all_goals
        go_enter Try.func5, Try.ntmps5
        go_wp2_with fail
        refine (awake_any _).mono ?_
        rintro e w1 ⟨rfl, hB⟩
        go_wp2_with fail
        refine (CN.out _).mono ?_
        rintro e w2 ⟨rfl, hw⟩
        subst hw
        rw [errV_pos (by decide)]
        go_wp2_with fail
        refine (is_same 1 (by decide) _).mono ?_
        rintro e wz ⟨rfl, hw⟩
        subst hw
        go_wp2
        go_ret
        exact ⟨rfl, hB⟩
    exact key (by omega)
/-- One block of one free page, and only Erases pending. -/
structure Em (c : Nat) (s : Dev) : Prop where
  n : (s.blk 0).pages = [none]
  d : (s.durable.getD 0 nilB).pages = [none]
  ln : s.now.length = 1
  ld : s.durable.length = 1
  o : ∀ o ∈ s.pending, o.data = none
  c : s.pending.length ≤ c
section
variable {s : Dev} {c : Nat}
theorem Em.of (h : Em c s) {s' : Dev} (e1 : s'.durable = s.durable) (e2 : s'.now = s.now) (e3 : s'.pending = s.pending) : Em c s' :=
  ⟨by unfold Dev.blk; rw [e2]; exact h.n, by rw [e1]; exact h.d, by rw [e2]; exact h.ln, by rw [e1]; exact h.ld, by rw [e3]; exact h.o, by rw [e3]; exact h.c⟩
theorem Em.pow (h : Em c s) : Em c s.pow.1 := by obtain ⟨e1, e2, e3⟩ := pow_same s; exact h.of e1 e2 e3
theorem Em.plan (h : Em c s) (x : Int) : Em c (s.plan x) := by unfold Dev.plan; split; exact h; exact h.of rfl rfl rfl
theorem Em.erase (h : Em c s) : Em (c + 1) (s.erase 0) := by
  have hb : (s.erase 0).blk 0 = wipe (s.blk 0) := by show (s.now.set 0 _).getD 0 nilB = _; exact getD_set_self (by rw [h.ln]; omega)
  exact ⟨by rw [hb]; show List.replicate (s.blk 0).pages.length none = [none]; rw [h.n]; rfl, h.d, by show (s.now.set 0 _).length = 1; rw [List.length_set]; exact h.ln, h.ld,
    fun o ho => by
      rcases List.mem_append.1 ho with ho | ho
      · exact h.o o ho
      · simp at ho; subst ho; rfl,
    by show (s.pending ++ _).length ≤ _; rw [List.length_append]; have := h.c; simp; omega⟩
theorem Em.sync (h : Em c s) : Em c s.sync := ⟨h.n, h.n, h.ln, h.ln, fun _ ho => (by cases ho), Nat.zero_le _⟩
theorem Em.init : Em 0 (Dev.init 1 1) := ⟨rfl, rfl, rfl, rfl, fun _ ho => (by cases ho), Nat.le_refl _⟩
theorem Em.crash (h : Em c s) : (s.crash (fun _ => 0)).off = false ∧ (s.crash (fun _ => 0)).planned = false ∧ ((s.crash (fun _ => 0)).blk 0).pages = [none] ∧ (s.crash (fun _ => 0)).pending = [] := by
  have key : ∀ (os : List Deed) (st : List Blk × List Bool) (j : Nat), (∀ o ∈ os, o.data = none) → (crashN (fun _ => 0) st j os).1 = st.1 := by
    intro os
    induction os with
    | nil => intro st j _; rfl
    | cons o os ih =>
      intro st j ho
      rw [crashN, ih _ _ (fun x hx => ho x (by simp [hx]))]
      unfold crash1
      split
      · rfl
      · rw [ho o (by simp)]
        simp
  refine ⟨rfl, rfl, ?_, rfl⟩
  unfold Dev.crash Dev.blk
  rw [key _ _ _ h.o]
  have hd := h.d
  have hl := h.ld
  match hm : s.durable, hl with
  | [x], _ =>
    rw [hm] at hd
    have hd' : x.pages = [none] := hd
    show (mendB x).pages = [none]
    unfold mendB
    rw [hd']; rfl
theorem pow_down (h : s.pow.2 = false) : s.pow.1.off = true := by
  rcases pow_cases s with ⟨_, _, e⟩ | ⟨_, e2, e⟩ | ⟨_, _, _, e⟩ | ⟨_, _, e⟩ <;> rw [e] at h ⊢
  · exact e2
  · cases h
  · cases h
theorem pow_off (h : s.off = true) : s.pow.2 = false ∧ s.pow.1.off = true := by
  rcases pow_cases s with ⟨_, _, e⟩ | ⟨_, e2, e⟩ | ⟨e1, _, _, e⟩ | ⟨e1, _, e⟩
  · rw [e]; exact ⟨rfl, rfl⟩
  · rw [e]; exact ⟨rfl, h⟩
  · rw [h] at e1; cases e1
  · rw [h] at e1; cases e1
theorem pow_up (h1 : s.off = false) (h2 : s.planned = true) (h3 : s.left ≠ 0) : s.pow = ({ s with left := s.left - 1 }, true) := by
  unfold Dev.pow
  simp [h1, h2, h3]
theorem pow_free (h1 : s.off = false) (h2 : s.planned = false) : s.pow = (s, true) := by
  unfold Dev.pow
  simp [h1, h2]
end
section
variable {w : World} {B b : Nat} {s : Dev}
def OpP (B b : Nat) (v : Value) (s' : Dev) (w : World) (e : Ending) (w' : World) : Prop := e = .returned v ∧ DS w' (B ≤ ·) b 1 1 s' ∧ Below B w w'
theorem f_erase_up (h : DS w (B ≤ ·) b 1 1 s) (hB : B ≤ w.heap.size) (hpl : s.pending.length ≤ 1000000) (h1 : s.off = false) (h2 : s.planned = true) (h3 : s.left ≠ 0) :
    Calls Try.prog 18 #[.pointer (some ⟨b, 0, none⟩), .int .i64 0] w (OpP B b .nilIface ({ s with left := s.left - 1 }.erase 0) w) := by
  have := d_erase 0 h hpl
  have hp := pow_up h1 h2 h3
  rw [show eraseE 1 s 0 = 0 by unfold eraseE; rw [if_neg (by omega), if_neg (by rw [hp]; simp)], show eraseS 1 s 0 = ({ s with left := s.left - 1 } : Dev).erase 0 by unfold eraseS; rw [if_neg (by omega), if_neg (by rw [hp]; simp), hp]; rfl] at this
  exact this.mono fun e w' h => by obtain ⟨h1, h2, h3, _⟩ := h.own hB; exact ⟨h1, h2, h3⟩
theorem f_sync_up (h : DS w (B ≤ ·) b 1 1 s) (hB : B ≤ w.heap.size) (h1 : s.off = false) (h2 : s.planned = true) (h3 : s.left ≠ 0) :
    Calls Try.prog 24 #[.pointer (some ⟨b, 0, none⟩)] w (OpP B b .nilIface (({ s with left := s.left - 1 } : Dev).sync) w) := by
  have := d_sync h
  have hp := pow_up h1 h2 h3
  rw [show syncE s = 0 by unfold syncE; rw [if_neg (by rw [hp]; simp)], show syncS s = ({ s with left := s.left - 1 } : Dev).sync by unfold syncS; rw [if_neg (by rw [hp]; simp), hp]] at this
  exact this.mono fun e w' h => by obtain ⟨h1, h2, h3, _⟩ := h.own hB; exact ⟨h1, h2, h3⟩
theorem f_erase_down (h : DS w (B ≤ ·) b 1 1 s) (hB : B ≤ w.heap.size) (hpl : s.pending.length ≤ 1000000) (hp : s.pow.2 = false) :
    Calls Try.prog 18 #[.pointer (some ⟨b, 0, none⟩), .int .i64 0] w (OpP B b (.iface 43 (.int .i64 11)) s.pow.1 w) := by
  have := d_erase 0 h hpl
  rw [show eraseE 1 s 0 = 11 by unfold eraseE; rw [if_neg (by omega), if_pos hp], show eraseS 1 s 0 = s.pow.1 by unfold eraseS; rw [if_neg (by omega), if_pos hp]] at this
  exact this.mono fun e w' h => by obtain ⟨h1, h2, h3, _⟩ := h.own hB; exact ⟨h1, h2, h3⟩
theorem f_sync_down (h : DS w (B ≤ ·) b 1 1 s) (hB : B ≤ w.heap.size) (hp : s.pow.2 = false) :
    Calls Try.prog 24 #[.pointer (some ⟨b, 0, none⟩)] w (OpP B b (.iface 43 (.int .i64 11)) s.pow.1 w) := by
  have := d_sync h
  rw [show syncE s = 11 from if_pos hp, show syncS s = s.pow.1 from if_pos hp] at this
  exact this.mono fun e w' h => by obtain ⟨h1, h2, h3, _⟩ := h.own hB; exact ⟨h1, h2, h3⟩
theorem em_pgN {c : Nat} (h : Em c s) : pgN (s.blk 0) = 0 := by unfold pgN; rw [h.n]; rfl
theorem f_prog_down {c : Nat} (h : DS w (B ≤ ·) b 1 1 s) (hB : B ≤ w.heap.size) (hm : Em c s) (hc : c ≤ 1000000) (hp : s.pow.2 = false) :
    Calls Try.prog 13 #[.pointer (some ⟨b, 0, none⟩), .int .i64 0, .int .i64 0, .slice none 0 0] w (OpP B b (.iface 43 (.int .i64 11)) s.pow.1 w) := by
  have := nil_prog 0 0 h hB (Nat.le_trans hm.c hc)
  have hE : progE 1 1 s 0 0 0 = 11 := by unfold progE; rw [if_neg (by decide), if_neg (by omega), if_neg (by rw [show (0 : Int).toNat = 0 from rfl, em_pgN hm]; simp), if_pos hp]
  rw [hE, show progS 1 1 s 0 0 [] = s.pow.1 by unfold progS; exact if_pos hE] at this
  exact this.mono fun e w' h => ⟨h.1, h.2.1, h.2.2.1⟩
theorem f_prog_free {g cap : Nat} {fr : Nat × Nat} {x : Int} (h : DS w (B ≤ ·) b 1 1 s) (hB : B ≤ w.heap.size) (h1 : s.off = false) (h2 : s.planned = false) (hn : (s.blk 0).pages = [none]) (hc : s.pending.length ≤ 1000000) (hg : w.heap[g]? = some (.cells (bys [x]).toArray 5 fr)) :
    Calls Try.prog 13 #[.pointer (some ⟨b, 0, none⟩), .int .i64 0, .int .i64 0, .slice (some ⟨g, 0, none⟩) 1 cap] w (OpP B b .nilIface (s.prog 0 0 [x]) w) := by
  have := own_prog (cap := cap) 0 0 h hB hc hg
  have hp := pow_free h1 h2
  have hE : progE 1 1 s 0 0 1 = 0 := by unfold progE; rw [if_neg (by decide), if_neg (by omega), if_neg (by rw [show (0 : Int).toNat = 0 from rfl]; unfold pgN; rw [hn]; decide), if_neg (by rw [hp]; simp)]
  rw [show ([x] : List Int).length = 1 from rfl, hE, show progS 1 1 s 0 0 [x] = s.prog 0 0 [x] by unfold progS; rw [show ([x] : List Int).length = 1 from rfl, hE, if_neg (by decide), if_pos rfl, hp]; rfl] at this
  exact this.mono fun e w' h => ⟨h.1, h.2.1, h.2.2.1⟩
theorem f_sync_free (h : DS w (B ≤ ·) b 1 1 s) (hB : B ≤ w.heap.size) (h1 : s.off = false) (h2 : s.planned = false) :
    Calls Try.prog 24 #[.pointer (some ⟨b, 0, none⟩)] w (OpP B b .nilIface s.sync w) := by
  have := d_sync h
  have hp := pow_free h1 h2
  rw [show syncE s = 0 by unfold syncE; rw [if_neg (by rw [hp]; simp)], show syncS s = s.sync by unfold syncS; rw [if_neg (by rw [hp]; simp), hp]] at this
  exact this.mono fun e w' h => by obtain ⟨h1, h2, h3, _⟩ := h.own hB; exact ⟨h1, h2, h3⟩
theorem f_fail (x : Int) (hx : x ≤ 9223372036854775807) (h : DS w (B ≤ ·) b 1 1 s) (hB : B ≤ w.heap.size) : Calls Try.prog 23 #[.pointer (some ⟨b, 0, none⟩), .int .i64 x] w (OpP B b (.tuple #[]) (s.plan x) w) :=
  (d_fail x hx h).mono fun e w' h => by obtain ⟨h1, h2, h3, _⟩ := h.own hB; exact ⟨h1, h2, h3⟩
theorem f_crash (h : DS w (B ≤ ·) b 1 1 s) (hB : B ≤ w.heap.size) : Calls Try.prog 14 #[.pointer (some ⟨b, 0, none⟩), .slice none 0 0] w (OpP B b (.tuple #[]) (s.crash (fun _ => 0)) w) :=
  (d_crash0 h).mono fun e w' h => by obtain ⟨h1, h2, h3, _⟩ := h.own hB; exact ⟨h1, h2, h3⟩
end
set_option maxRecDepth 100000 in
set_option maxHeartbeats 1600000 in
theorem fails_walk (x y : Int) (w : World) (hx : 0 ≤ x ∧ x ≤ 255) (hy : 0 ≤ y ∧ y ≤ 255) : Calls Try.prog 6 #[.int .u8 x, .int .u8 y] w (AwP w) := by
  obtain ⟨L, hL⟩ : ∃ L : Nat, (L : Int) = x % 20 := ⟨(x % 20).toNat, by omega⟩
  obtain ⟨M, hM⟩ : ∃ M : Nat, (M : Int) = y % 4 := ⟨(y % 4).toNat, by omega⟩
  have hL20 : L < 20 := by omega
  have hM4 : M < 4 := by omega
  have EL := Lib.hid hL.symm
  have EM := Lib.hid hM.symm
  clear hL hM
  have e1 := EL.out
  go_enter Try.func6, Try.ntmps6
  go_wp2_with fail
  refine (awake_any _).mono ?_
  rintro e w1 ⟨rfl, hB⟩
  go_wp2_with fail
  refine (d_new w1 (n := 1) (p := 1) (by omega) (by omega) (by omega) (by omega)).mono ?_
  rintro e w2 ⟨b, rfl, hD, hb⟩
  rw [errV0]
  have hs1 := hB.size
  have hB2 := hB.trans (hb.mono hs1)
  have hs2 := hb.size
  have CF := Lib.hid (f_fail (L : Int) (by omega) hD hs2)
  clear hD hb hB
  go_wp2_with fail
  refine CF.out.mono ?_
  rintro e w3 ⟨rfl, hD3, hb3⟩
  have hs3 := Nat.le_trans hs2 hb3.size
  have hB3 := hB2.trans (hb3.mono hs1)
  have HD3 := Lib.hid (And.intro hD3 (Em.init.plan (L : Int)))
  have hpl0 : ((Dev.init 1 1).plan (L : Int)).off = false ∧ ((Dev.init 1 1).plan (L : Int)).planned = true ∧ ((Dev.init 1 1).plan (L : Int)).left = L := ⟨rfl, rfl, by show max (L : Int) 0 = L; omega⟩
  generalize (Dev.init 1 1).plan (L : Int) = s0 at HD3 hpl0
  have HP0 := Lib.hid hpl0
  clear CF hD3 hb3 hB2 hpl0 e1
  go_wp2_with fail
  go_loopw [8] (fun i wr => ∃ (j : Nat) (s : Dev), j ≤ L ∧ i = .int .i64 j ∧ DS wr (w1.heap.size ≤ ·) b 1 1 s ∧ Em j s ∧ s.off = false ∧ s.planned = true ∧ s.left = (L : Int) - j ∧ Below w.heap.size w wr ∧ w1.heap.size ≤ wr.heap.size) (fun i _ => L - (intOf i).toNat)
  case atStart => exact ⟨0, s0, Nat.zero_le _, rfl, HD3.out.1, HD3.out.2, HP0.out.1, HP0.out.2.1, by rw [HP0.out.2.2]; omega, hB3, hs3⟩
  case round =>
    clear HD3 hB3 hs3 HP0
    obtain ⟨j, s, hj, rfl, hD, hE, h1, h2, h3, hB, hs⟩ := hrel
    by_cases hlt : j < L
    · have h30 : s.left ≠ 0 := by omega
      have hc := hE.c
      have CE := Lib.hid (f_erase_up hD hs (by omega) h1 h2 h30)
      have CS := Lib.hid (f_sync_up hD hs h1 h2 h30)
      have HX := Lib.hid (And.intro hE (And.intro h1 (And.intro h2 h3)))
      by_cases hev : j % 2 = 0
      · have hd : (((j : Int) % 2) == 0) = true := by rw [beq_iff_eq]; omega
        have hd1 : (((j : Int) % 2) == 1) = false := by rw [beq_eq_false_iff_ne]; omega
        clear hev hE h1 h2 h3 h30 hD CS
        go_wp2_with fail
        refine CE.out.mono ?_
        rintro e w4 ⟨rfl, hD4, hb4⟩
        have hs4 := Nat.le_trans hs hb4.size
        have hB4 := hB.trans (hb4.mono hs1)
        clear hb4 hB
        go_wp2
        go_roundw
        case rel => exact ⟨j + 1, _, by omega, by go_num, hD4, ((HX.out.1.of (s' := { s with left := s.left - 1 }) rfl rfl rfl).erase), HX.out.2.1, HX.out.2.2.1, by show s.left - 1 = _; have := HX.out.2.2.2; omega, hB4, hs4⟩
        case measure => simp [intOf]; omega
      · have hd : (((j : Int) % 2) == 0) = false := by rw [beq_eq_false_iff_ne]; omega
        have hd1 : (((j : Int) % 2) == 1) = true := by rw [beq_iff_eq]; omega
        clear hev hE h1 h2 h3 h30 hD CE
        go_wp2_with fail
        refine CS.out.mono ?_
        rintro e w4 ⟨rfl, hD4, hb4⟩
        have hs4 := Nat.le_trans hs hb4.size
        have hB4 := hB.trans (hb4.mono hs1)
        clear hb4 hB
        go_wp2
        go_roundw
        case rel =>
          have h5 := (HX.out.1.of (s' := { s with left := s.left - 1 }) rfl rfl rfl).sync
          exact ⟨j + 1, _, by omega, by go_num, hD4, { h5 with c := Nat.zero_le _ }, HX.out.2.1, HX.out.2.2.1, by show s.left - 1 = _; have := HX.out.2.2.2; omega, hB4, hs4⟩
        case measure => simp [intOf]; omega
    · obtain rfl : j = L := by omega
      have hdown : s.pow.2 = false := by unfold Dev.pow; simp [h2, show s.left = 0 by omega]
      have HE := Lib.hid (And.intro hD (And.intro hE hdown))
      clear hD hE h1 h2 h3 hdown
      have e2 := EM.out
      go_wp2_with fail
      go_loopw [9] (fun i wr => ∃ (k : Nat) (s : Dev), k ≤ M + 1 ∧ i = .int .i64 k ∧ DS wr (w1.heap.size ≤ ·) b 1 1 s ∧ Em j s ∧ s.pow.2 = false ∧ Below w.heap.size w wr ∧ w1.heap.size ≤ wr.heap.size) (fun i _ => M + 1 - (intOf i).toNat)
      case atStart => exact ⟨0, s, Nat.zero_le _, rfl, HE.out.1, HE.out.2.1, HE.out.2.2, hB, hs⟩
      case round =>
        clear HE hB hs
        obtain ⟨k, s, hk, rfl, hD, hE, hp, hB, hs⟩ := hrel
        have hc := hE.c
        by_cases hlt2 : k ≤ M
        · have C1 := Lib.hid (f_erase_down hD hs (by omega) hp)
          have hof := pow_down hp
          have HE := Lib.hid (And.intro hE.pow (And.intro hof (pow_off hof)))
          clear hD hE hp hof
          go_wp2_with fail
          refine C1.out.mono ?_
          rintro e w4 ⟨rfl, hD4, hb4⟩
          have hs4 := Nat.le_trans hs hb4.size
          have hB4 := hB.trans (hb4.mono hs1)
          have C2 := Lib.hid (f_sync_down hD4 hs4 HE.out.2.2.1)
          clear C1 hD4 hb4 hB
          go_wp2_with fail
          refine (is_same 11 (by decide) _).mono ?_
          rintro e wz ⟨rfl, hw⟩
          subst hw
          go_wp2_with fail
          refine C2.out.mono ?_
          rintro e w5 ⟨rfl, hD5, hb5⟩
          have hs5 := Nat.le_trans hs4 hb5.size
          have hB5 := hB4.trans (hb5.mono hs1)
          have h6 := pow_off HE.out.2.2.2
          have C3 := Lib.hid (f_prog_down hD5 hs5 HE.out.1.pow (by omega) h6.1)
          have H6 := Lib.hid (And.intro HE.out.1.pow.pow (And.intro h6.2 (pow_off h6.2)))
          clear C2 hD5 hb5 hB4 HE h6
          go_wp2_with fail
          refine (is_same 11 (by decide) _).mono ?_
          rintro e wz ⟨rfl, hw⟩
          subst hw
          go_wp2_with fail
          refine C3.out.mono ?_
          rintro e w6 ⟨rfl, hD6, hb6⟩
          have hs6 := Nat.le_trans hs5 hb6.size
          have hB6 := hB5.trans (hb6.mono hs1)
          have C4 := Lib.hid (prog_out (i := 0) (k := 1) hD6 hs6 (by have := H6.out.1.c; omega) (by omega))
          clear C3 hD6 hb6 hB5
          go_wp2_with fail
          refine (is_same 11 (by decide) _).mono ?_
          rintro e wz ⟨rfl, hw⟩
          subst hw
          go_wp2_with fail
          refine C4.out.mono ?_
          rintro e w7 ⟨rfl, hD7, hb7⟩
          have hs7 := Nat.le_trans hs6 hb7.size
          have hB7 := hB6.trans (hb7.mono hs1)
          have C5 := Lib.hid (f_fail 7 (by omega) hD7 hs7)
          rw [show s.pow.1.pow.1.pow.1.plan 7 = s.pow.1.pow.1.pow.1 from if_pos H6.out.2.1] at C5
          clear C4 hD7 hb7 hB6
          go_wp2_with fail
          refine (is_same 1 (by decide) _).mono ?_
          rintro e wz ⟨rfl, hw⟩
          subst hw
          go_wp2_with fail
          refine C5.out.mono ?_
          rintro e w8 ⟨rfl, hD8, hb8⟩
          have hs8 := Nat.le_trans hs7 hb8.size
          have hB8 := hB7.trans (hb8.mono hs1)
          clear C5 hb8 hB7 e2
          go_wp2
          go_roundw
          case rel => exact ⟨k + 1, _, by omega, by go_num, hD8, H6.out.1, H6.out.2.2.1, hB8, hs8⟩
          case measure => simp [intOf]; omega
        · obtain rfl : k = M + 1 := by omega
          have CR := Lib.hid (d_read hD (i := 0) (k := 0) (by omega) (by omega))
          rw [hE.n, show look (([none] : List Page).getD 0 none) = fill [] from rfl] at CR
          have hkI : ¬ ((M : Int) + 1 ≤ M) := by omega
          have HD := Lib.hid hD
          have HC := Lib.hid hE.crash
          have G0 : Hid ((fill []).getD 0 0 = 255) := Lib.hid (by rw [fill_get _ _ (by omega)]; rfl)
          clear hE hp hD
          go_wp2_with fail
          refine CR.out.mono ?_
          rintro e w4 ⟨g, rfl, hg, hlo, hb4⟩
          rw [errV0]
          have c0 := bys_cell hg (i := 0) (by rw [fill_len]; omega)
          rw [G0.out] at c0
          have hs4 := Nat.le_trans hs hb4.size
          have hB4 := hB.trans (hb4.mono hB.size)
          have CC := Lib.hid (f_crash (HD.out.belowS hb4) hs4)
          clear CR hg hb4 hB e2
          go_wp2_with fail
          refine CC.out.mono ?_
          rintro e w5 ⟨rfl, hD5, hb5⟩
          have hs5 := Nat.le_trans hs4 hb5.size
          have hB5 := hB4.trans (hb5.mono hs1)
          have hD5' := hD5.belowS (w' := w5.alloc (.cells #[.int .u8 122] 5 (1, 2))) (by go_grown)
          have CP := Lib.hid (f_prog_free (cap := 1) (x := 122) hD5' (by simp; omega) HC.out.1 HC.out.2.1 HC.out.2.2.1 (by rw [HC.out.2.2.2]; simp) (heap_alloc_new w5 _))
          have hB6 := hB5.alloc hB5.size (.cells #[.int .u8 122] 5 (1, 2))
          have kc := fun (w : World) (C : Array Value) (n c : Nat) => Lib.run_convert_bytes_const (P := Try.prog) w 22 5 C n c Try.underlying22 Try.underlying5
          clear CC hD5 hb5 hB4 hD5' c0
          go_wp2_with fail
          refine CP.out.mono ?_
          rintro e w6 ⟨rfl, hD6, hb6⟩
          have hsz6 := hb6.size
          have hB7 := hB6.trans (hb6.mono hs1)
          have CS := Lib.hid (f_sync_free hD6 (by simp at hsz6; omega) HC.out.1 HC.out.2.1)
          clear CP hD6 hb6 hB6 kc hsz6
          go_wp2_with fail
          refine CS.out.mono ?_
          rintro e w7 ⟨rfl, _, hb7⟩
          have hB8 := hB7.trans (hb7.mono hs1)
          clear CS hb7 hB7
          go_wp2
          go_ret
          exact ⟨rfl, hB8⟩
end Go.Proofs.Ytbpjfhfibllhgaa

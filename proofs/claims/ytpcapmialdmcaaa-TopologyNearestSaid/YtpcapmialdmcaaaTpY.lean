/- topology: the law's helpers name and towns. Conditions: none. -/
import Derived.Test.YtpcapmialdmcaaaTpW
import Derived.Laws.BytesArg
namespace Go.Proofs.Ytpcapmialdmcaaa
open Go.RowKit Go.Maps

/-- The name of a town. -/
def nmB (n : Int) : ByteArray := strOfNums [97 + n % 8]
set_option maxHeartbeats 800000 in
theorem name_any (n : Int) (hn : 0 ≤ n ∧ n ≤ 255) (w : World) : Calls Try.prog 13 #[.int .u8 n] w fun e w' => e = .returned (.string (nmB n)) ∧ Below w.heap.size w w' := by
  have q1 : n.tmod 8 = n % 8 := Int.tmod_eq_emod_of_nonneg hn.1
  have q3 : IntKind.u8.wrap (n % 8) = n % 8 := IntWalk.u8_in _ (by omega)
  have q5 : IntKind.u8.wrap (97 + n % 8) = 97 + n % 8 := IntWalk.u8_in _ (by omega)
  have hB : Below w.heap.size w (w.alloc (.cells #[.int .u8 (97 + n % 8)] 5)) := by go_grown
  have hx := heap_alloc_new w (.cells #[.int .u8 (97 + n % 8)] 5)
  have hc : (convert 63 9 (.slice (some ⟨w.heap.size, 0, none⟩) 1 1)).run Try.prog (w.alloc (.cells #[.int .u8 (97 + n % 8)] 5)) = .ok (.string (nmB n)) (w.alloc (.cells #[.int .u8 (97 + n % 8)] 5)) := by
    refine run_convert_bytes_arg (P := Try.prog) _ 63 5 Try.underlying63 Try.underlying5 w.heap.size 0 1 1 [97 + n % 8] rfl (fun i hi => ?_) 9 Try.underlying9
    have : i = 0 := by omega
    subst this
    exact has_cell hx 0
  clear hx
  go_enter Try.func13, Try.ntmps13
  go_wp2
  go_ret
  exact ⟨rfl, hB⟩
/-- The first j towns of a net. -/
def twL (k : Int) (j : Nat) : List ByteArray := (List.range j).map fun (i : Nat) => nmB (((i : Int) * 3 + k) % 7)
theorem twL_len (k : Int) (j : Nat) : (twL k j).length = j := by simp [twL]
theorem twL_snoc (k : Int) (j : Nat) : twL k (j + 1) = twL k j ++ [nmB (((j : Int) * 3 + k) % 7)] := by simp [twL, List.range_succ]
set_option maxRecDepth 100000 in
set_option maxHeartbeats 3200000 in
theorem towns_any (T : Int) (hT : 0 ≤ T ∧ T ≤ 255) (lo : Option Addr) (ln lc : Nat) (w : World) : Calls Try.prog 28 #[.agg #[.int .u8 T, .slice lo ln lc]] w (NewT (twL (T % 7) (T % 7 + 1).toNat) w) := by
  obtain ⟨k, hkT⟩ : ∃ k : Int, T % 7 = k := ⟨_, rfl⟩
  have hk : 0 ≤ k ∧ k ≤ 6 := by omega
  have q1 : T.tmod 7 = k := by rw [Int.tmod_eq_emod_of_nonneg hT.1]; exact hkT
  have q2 : IntKind.u8.wrap k = k := IntWalk.u8_in _ (by omega)
  have q3 : IntKind.u8.wrap (1 + k) = 1 + k := IntWalk.u8_in _ (by omega)
  have hx := heap_alloc_new w (.cells #[.int .u8 T, .slice lo ln lc] 24)
  have hb0 : Below w.heap.size w (w.alloc (.cells #[.int .u8 T, .slice lo ln lc] 24)) := by go_grown
  have hsz := World.size_alloc w (.cells #[.int .u8 T, .slice lo ln lc] 24)
  have c0 := has_cell hx 0
  have c0 := c0.trans (show _ = some (Value.int .u8 T) from rfl)
  rw [hkT]
  obtain ⟨m, hm⟩ : ∃ m : Nat, (m : Int) = 1 + k := ⟨(1 + k).toNat, by omega⟩
  rw [show (k + 1).toNat = m from by omega]
  clear hx hkT
  go_enter Try.func28, Try.ntmps28
  go_wp2_with fail
  generalize hw1 : w.alloc (.cells #[.int .u8 T, .slice lo ln lc] 24) = w1 at *
  have C0 := Lib.hid c0
  clear c0 hw1
  go_loopw [3, 9] (fun out i wr => ∃ j : Nat, j ≤ m ∧ i = .int .u8 j ∧ IsT wr out (twL k j) ∧ (∀ x, out.ownBlock = some x → w1.heap.size ≤ x) ∧ Below w1.heap.size w1 wr) (fun _ i _ => m - (intOf i).toNat)
  case atStart => exact ⟨0, Nat.zero_le _, rfl, OL.nil _ _ _, fun k hk => by simp [Value.ownBlock] at hk, Below.refl _ _⟩
  case round =>
    obtain ⟨j, hj, rfl, hIT, hF, hB⟩ := hrel
    by_cases hlt : j < m
    · have d1 : decide ((j : Int) < 1 + k) = true := decide_eq_true (by omega)
      have c0 := (hB.cell (p := ⟨w.heap.size, 0, none⟩) (by simp; omega)).trans C0.out
      have e1 : IntKind.u8.wrap ((j : Int) * 3) = (j : Int) * 3 := IntWalk.u8_in _ (by omega)
      have e2 : IntKind.u8.wrap ((j : Int) * 3 + k) = (j : Int) * 3 + k := IntWalk.u8_in _ (by omega)
      have e3 : ((j : Int) * 3 + k).tmod 7 = ((j : Int) * 3 + k) % 7 := Int.tmod_eq_emod_of_nonneg (by omega)
      have e4 : IntKind.u8.wrap (((j : Int) * 3 + k) % 7) = ((j : Int) * 3 + k) % 7 := IntWalk.u8_in _ (by omega)
      have e5 : IntKind.u8.wrap ((j : Int) + 1) = (j : Int) + 1 := IntWalk.u8_in _ (by omega)
      have HN := Lib.hid (twL_snoc k j)
      have CN := Lib.hid (name_any (((j : Int) * 3 + k) % 7) (by omega) wr)
      have HLE := Lib.hid (And.intro hIT (And.intro hF hB))
      clear hIT hF hB
      go_wp2_with fail
      refine CN.out.mono ?_
      rintro e w2 ⟨rfl, hb2⟩
      obtain ⟨hIT, hF, hB⟩ := HLE.out
      have hT1 : IsT w2 _ _ := OL.below hIT hb2 (fun g hg => OL.lt hIT g hg)
      have hB1 := hB.trans (hb2.mono hB.size)
      generalize nmB (((j : Int) * 3 + k) % 7) = x at *
      obtain ⟨v', w', hap, hT', hgr, hown, ao', cap', rfl⟩ := texts_append hT1 (by rw [twL_len]; omega) x
      obtain ⟨aoo, co, hov, _⟩ := hT1.form
      rw [twL_len] at hov hap
      subst hov
      have hB2 : Below w1.heap.size w1 w' := (hB1.alloc (by have := hB1.size; omega) _).grown hgr (by have := hB1.size; simp; omega) (fun y hk => hF y hk)
      have HP := Lib.hid (And.intro hT' (And.intro hB2 (show ∀ y, (Value.slice ao' ((twL k j).length + 1) cap').ownBlock = some y → w1.heap.size ≤ y from fun y hk => by
        rcases hown with h | h
        · rw [h] at hk; exact hF y hk
        · rw [h] at hk
          have h3 := Option.some.inj hk
          have := hB1.size
          omega)))
      rw [twL_len] at HP
      have HAP := Lib.hid hap
      clear HLE CN hIT hF hB hT1 hB1 hap hT' hgr hown hB2 hb2
      go_wp2_with (refine wpList_append_run (v := .slice aoo j co) (xv := .slice (some ⟨w2.heap.size, 0, none⟩) 1 1) rfl (.tmp 12) (.tmp 21) _ _ rfl (by rfl) (by rfl) HAP.out ?_)
      go_roundw
      case rel => exact ⟨j + 1, by omega, by go_num, by rw [HN.out]; exact HP.out.1, HP.out.2.2, HP.out.2.1⟩
      case measure => simp [intOf]; omega
    · obtain rfl : j = m := by omega
      have d1 : decide ((j : Int) < 1 + k) = false := decide_eq_false (by omega)
      have HP := Lib.hid (And.intro hIT (And.intro hF hB))
      clear hIT hF hB
      go_wp2_with fail
      go_ret
      exact ⟨_, rfl, HP.out.1, fun x hx => by have := HP.out.2.1 x hx; omega, hb0.trans (HP.out.2.2.mono (by omega))⟩
end Go.Proofs.Ytpcapmialdmcaaa

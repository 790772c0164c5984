/- network: the statements' helper is; a nil network. Conditions: the delivery's data can be read. -/
import Derived.Test.YtkhiepjlfbjgdaaNwW
import Derived.Lib.BufferRead
namespace Go.Proofs.Ytkhiepjlfbjgdaa
open Go.RowKit

theorem OL.str {w : World} {ao : Option Addr} {c : Nat} {l : List Int} (h : OL w 5 1 (.slice ao l.length c) l.length (bys l)) : (convert 41 9 (.slice ao l.length c)).run Try.prog w = .ok (.string (strOfNums l)) w := by
  rcases h.forms with ⟨e, e0⟩ | ⟨g, off, cap, e, _⟩
  · simp only [Value.slice.injEq] at e
    obtain ⟨rfl, _, rfl⟩ := e
    obtain rfl : l = [] := List.eq_nil_of_length_eq_zero e0
    exact run_convert_bytes_nil (P := Try.prog) w 41 5 Try.underlying41 Try.underlying5 _ _ 9 Try.underlying9
  · simp only [Value.slice.injEq, true_and] at e
    obtain ⟨rfl, rfl⟩ := e
    exact run_convert_bytes_arg (P := Try.prog) w 41 5 Try.underlying41 Try.underlying5 g off l.length c l rfl (fun i hi => by rw [h.cell i (by omega), bys_get l i hi]) 9 Try.underlying9
/-- Is the delivery the one that is wanted? -/
def isD (t : Int) (x y : ByteArray) (l : List Int) (t' : Int) (x' y' s : ByteArray) : Bool := (t == t') && (x.toList == x'.toList) && (y.toList == y'.toList) && ((strOfNums l).toList == s.toList)
theorem isD_refl (t : Int) (x y : ByteArray) (l : List Int) : isD t x y l t x y (strOfNums l) = true := by unfold isD; simp
set_option maxRecDepth 100000 in
set_option maxHeartbeats 800000 in
theorem isd_any {w : World} {ao : Option Addr} {c : Nat} {l : List Int} (t : Int) (x y : ByteArray) (h : OL w 5 1 (.slice ao l.length c) l.length (bys l)) (t' : Int) (x' y' s : ByteArray) :
    Calls Try.prog 27 #[.agg #[.int .i64 t, .string x, .string y, .slice ao l.length c], .agg #[.int .i64 t', .string x', .string y', .string s]] w fun e w' => e = .returned (.bool (isD t x y l t' x' y' s)) ∧ Below w.heap.size w w' := by
  have hB : Below w.heap.size w ((w.alloc (.cells #[.int .i64 t, .string x, .string y, .slice ao l.length c] 43)).alloc (.cells #[.int .i64 t', .string x', .string y', .string s] 75)) := by go_grown
  have hcv := (h.below hB (fun g hg => h.lt g hg)).str
  unfold isD
  clear h
  generalize strOfNums l = sl at hcv ⊢
  generalize l.length = n at *
  by_cases h1 : (t == t') = true
  · by_cases h2 : (x.toList == x'.toList) = true
    · by_cases h3 : (y.toList == y'.toList) = true
      · rw [h1, h2, h3]
        go_enter Try.func27, Try.ntmps27
        go_wp2
        go_ret
        exact ⟨by simp, hB⟩
      · have h3 : (y.toList == y'.toList) = false := by simpa using h3
        rw [h3]
        go_enter Try.func27, Try.ntmps27
        go_wp2
        go_ret
        exact ⟨by simp, hB⟩
    · have h2 : (x.toList == x'.toList) = false := by simpa using h2
      rw [h2]
      go_enter Try.func27, Try.ntmps27
      go_wp2
      go_ret
      exact ⟨by simp, hB⟩
  · have h1 : (t == t') = false := by simpa using h1
    rw [h1]
    go_enter Try.func27, Try.ntmps27
    go_wp2
    go_ret
    exact ⟨by simp, hB⟩
theorem is_same (m : Int) (hm : m ≠ 0) (w : World) : Calls Try.prog 18 #[.iface 48 (.int .i64 m), .int .i64 m] w fun e w' => e = .returned (.bool true) ∧ w' = w := by
  have := is_any m m hm w
  rw [errV_pos hm, isB_true hm] at this
  exact this
theorem rep_cell {w : World} {g n : Nat} {e : TypeId} {x : Value} (h : w.heap[g]? = some (.cells (List.replicate n x).toArray e (0, 0))) {j : Nat} (hj : j < n) : w.cell? ⟨g, j, none⟩ = some x := by
  rw [has_cell h, List.getElem?_toArray, List.getElem?_replicate, if_pos hj]
end Go.Proofs.Ytkhiepjlfbjgdaa

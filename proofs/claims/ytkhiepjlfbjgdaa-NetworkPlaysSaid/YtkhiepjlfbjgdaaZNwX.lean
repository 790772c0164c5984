/- network: the fixed example; a nil network. Conditions: none. network: the statements' helper is; a nil network. Conditions: the delivery's data can be read. -/
import Derived.Test.YtkhiepjlfbjgdaaZNwV
import Derived.Lib.BufferRead
namespace Go.Proofs.Ytkhiepjlfbjgdaa
open Go.RowKit

noncomputable def awS : Net := (Net.init 5).sent 2 ⟨#[97]⟩ ⟨#[98]⟩ [120]
theorem aw_get (d : Int) (x y : ByteArray) : (Net.init d).get x y = ⟨d, 0, fun _ => none⟩ := rfl
theorem aw_list (d t : Int) (x y : ByteArray) : (Net.init d).list t x y = [d] := rfl
theorem awS_arr : awS.arr = [⟨7, ⟨#[97]⟩, ⟨#[98]⟩, [120], 1, 0⟩] := rfl
set_option maxRecDepth 100000 in
set_option maxHeartbeats 800000 in
theorem awake_any (w : World) : Calls Try.prog 9 #[] w (AwP w) := by
  have C1 := Lib.hid (n_new 5 w (by omega) (by decide))
  have kc := fun (w : World) (C : Array Value) (n c : Nat) => Lib.run_convert_bytes_const (P := Try.prog) w 41 5 C n c Try.underlying41 Try.underlying5
  go_enter Try.func9, Try.ntmps9
  go_wp2_with fail
  refine C1.out.mono ?_
  rintro e w1 ⟨b, rfl, hN, hb1⟩
  have hbs := hb1.size
  have hB2 : Below w.heap.size w (w1.alloc (.cells #[.int .u8 120] 5 (1, 2))) := hb1.alloc hbs _
  have hN2 : NS (w1.alloc (.cells #[.int .u8 120] 5 (1, 2))) (fun k => w.heap.size ≤ k ∧ k < w1.heap.size) b (Net.init 5) := (hN.bound).belowS (by go_grown)
  have CS := Lib.hid (n_send (cp := 1) hN2 (NGd.init (d := 5) (by decide)) (by omega) (fun k hk => by simp; omega) (x := ⟨#[97]⟩) (y := ⟨#[98]⟩) (by decide) (by decide) 2 (bys_bytes (l := [120]) (heap_alloc_new w1 _) (by simp)) (fun _ h => by omega) (by simp))
  rw [show lst ([120] : List Int).length (fun i => ([120] : List Int).getD i 0) = [120] from lst_self _, show sendE (Net.init 5) 2 = 0 from rfl, show sendS (Net.init 5) 2 ⟨#[97]⟩ ⟨#[98]⟩ [120] = awS from if_pos rfl] at CS
  clear C1 hN hN2
  go_wp2_with fail
  refine CS.out.mono ?_
  rintro e w2 ⟨rfl, hN2, hO2⟩
  rw [errV0]
  have hB3 : Below w.heap.size w w2 := hB2.trans (hO2.below hB2.size (fun k hk => hk.1))
  have CN := Lib.hid (next_some hN2 (by rw [awS_arr]; simp))
  rw [show (awS.at_ (bestN awS awS.arr.length)).t = 7 from rfl] at CN
  have HN2 := Lib.hid hN2
  clear CS hN2 hO2 hB2
  go_wp2_with fail
  refine CN.out.mono ?_
  rintro e w3 ⟨rfl, hb3⟩
  have hB4 := hB3.trans (hb3.mono hB3.size)
  have CP := Lib.hid (n_pend (HN2.out.belowS hb3))
  rw [show (awS.arr.length : Int) = 1 from by rw [awS_arr]; rfl] at CP
  clear CN hb3 hB3
  go_wp2_with fail
  refine CP.out.mono ?_
  rintro e w4 ⟨rfl, rfl⟩
  go_wp2
  go_ret
  exact ⟨rfl, hB4⟩
end Go.Proofs.Ytkhiepjlfbjgdaa

namespace Go.Proofs.Ytkhiepjlfbjgdaa
open Go.RowKit

theorem OL.str {w : World} {ao : Option Addr} {c : Nat} {l : List Int} (h : OL w 5 1 (.slice ao l.length c) l.length (bys l)) : (convert 41 9 (.slice ao l.length c)).run Try.prog w = .ok (.string (strOfNums l)) w := by
  rcases h.forms with ⟨e, e0⟩ | ⟨g, off, cap, e, _⟩
  · simp only [Value.slice.injEq] at e
    obtain ⟨rfl, _, rfl⟩ := e
    obtain rfl : l = [] := List.eq_nil_of_length_eq_zero e0
    exact run_convert_bytes_nil (P := Try.prog) w 41 5 Try.underlying41 Try.underlying5 _ _ 9 Try.underlying9
  · simp only [Value.slice.injEq, true_and] at e
    obtain ⟨rfl, rfl⟩ := e
    exact run_convert_bytes_arg (P := Try.prog) w 41 5 Try.underlying41 Try.underlying5 g off l.length c l rfl (fun i hi => by rw [h.cell i (by omega), bys_get l i hi]) 9 Try.underlying9
/-- Is the delivery the one that is wanted? -/
def isD (t : Int) (x y : ByteArray) (l : List Int) (t' : Int) (x' y' s : ByteArray) : Bool := (t == t') && (x.toList == x'.toList) && (y.toList == y'.toList) && ((strOfNums l).toList == s.toList)
theorem isD_refl (t : Int) (x y : ByteArray) (l : List Int) : isD t x y l t x y (strOfNums l) = true := by unfold isD; simp
set_option maxRecDepth 100000 in
set_option maxHeartbeats 800000 in
theorem isd_any {w : World} {ao : Option Addr} {c : Nat} {l : List Int} (t : Int) (x y : ByteArray) (h : OL w 5 1 (.slice ao l.length c) l.length (bys l)) (t' : Int) (x' y' s : ByteArray) :
    Calls Try.prog 27 #[.agg #[.int .i64 t, .string x, .string y, .slice ao l.length c], .agg #[.int .i64 t', .string x', .string y', .string s]] w fun e w' => e = .returned (.bool (isD t x y l t' x' y' s)) ∧ Below w.heap.size w w' := by
  have hB : Below w.heap.size w ((w.alloc (.cells #[.int .i64 t, .string x, .string y, .slice ao l.length c] 43)).alloc (.cells #[.int .i64 t', .string x', .string y', .string s] 75)) := by go_grown
  have hcv := (h.below hB (fun g hg => h.lt g hg)).str
  unfold isD
  clear h
  generalize strOfNums l = sl at hcv ⊢
  generalize l.length = n at *
  by_cases h1 : (t == t') = true
  · by_cases h2 : (x.toList == x'.toList) = true
    · by_cases h3 : (y.toList == y'.toList) = true
      · rw [h1, h2, h3]
        go_enter Try.func27, Try.ntmps27
        go_wp2
        go_ret
        exact ⟨by simp, hB⟩
      · have h3 : (y.toList == y'.toList) = false := by simpa using h3
        rw [h3]
        go_enter Try.func27, Try.ntmps27
        go_wp2
        go_ret
        exact ⟨by simp, hB⟩
    · have h2 : (x.toList == x'.toList) = false := by simpa using h2
      rw [h2]
      go_enter Try.func27, Try.ntmps27
      go_wp2
      go_ret
      exact ⟨by simp, hB⟩
  · have h1 : (t == t') = false := by simpa using h1
    rw [h1]
    go_enter Try.func27, Try.ntmps27
    go_wp2
    go_ret
    exact ⟨by simp, hB⟩
theorem is_same (m : Int) (hm : m ≠ 0) (w : World) : Calls Try.prog 18 #[.iface 48 (.int .i64 m), .int .i64 m] w fun e w' => e = .returned (.bool true) ∧ w' = w := by
  have := is_any m m hm w
  rw [errV_pos hm, isB_true hm] at this
  exact this
theorem rep_cell {w : World} {g n : Nat} {e : TypeId} {x : Value} (h : w.heap[g]? = some (.cells (List.replicate n x).toArray e (0, 0))) {j : Nat} (hj : j < n) : w.cell? ⟨g, j, none⟩ = some x := by
  rw [has_cell h, List.getElem?_toArray, List.getElem?_replicate, if_pos hj]
end Go.Proofs.Ytkhiepjlfbjgdaa

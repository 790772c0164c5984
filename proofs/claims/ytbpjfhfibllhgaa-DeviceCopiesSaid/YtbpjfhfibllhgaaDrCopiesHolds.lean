/- The statement DeviceCopies is proved. Conditions: none. -/
import Derived.Test.YtbpjfhfibllhgaaDrCopyAll
import Derived.Test.YtbpjfhfibllhgaaDqSee
namespace Go.Proofs.Ytbpjfhfibllhgaa
open Go.ChangeShapes Go.WideShapes Go.ChangeAt Go.RowKit

theorem own : ownKnob Try.prog.godebug = none := by kernel_rfl
theorem laidOut : laidOutB Try.prog = true := by kernel_rfl

set_option maxRecDepth 100000 in
theorem deviceCopies_lifted (os : Os) (started : os.Started) (H : Type) (enc : TypeId × Value → H) :
    ReturnsInHanded {} Try.checked os 9 .any (Rows.deviceCopiesSpec.pre6 enc Try.prog Try.f9 Rows.deviceCopiesRow.domain false) (Rows.deviceCopiesSpec.post enc Try.prog Try.f9 false true false false) := by
  refine returnsInHanded_of_change (C := Try.checked) own started (by kernel_rfl) Try.func9
    (ChangeSpec.witness6 (enc := enc) (C := Try.checked) false ⟨#[], #[.agg #[.int .u8 0, .int .u8 0], .agg #[.slice none 0 0, .slice none 0 0, .slice none 0 0]], []⟩ 8 (by kernel_rfl) (by kernel_rfl) (by kernel_rfl) (by kernel_rfl)) ?_
  intro W base args ds gs before hval0 hW hcnd _
  have hval : ∀ (j : Nat) t v, Try.f9.params[j]? = some t → args[j]? = some v → Value.okWide Try.prog W .any base t v := hval0
  have hW' := hW
  obtain ⟨p, q, hA0, hV, rfl, hfz, hnd⟩ := hW
  have hA : DataW.TrodAll enc Try.prog W 0 (fun _ => true) true Try.f9.params.toList args.toList ds p := hA0
  skip
  rw [Try.params9] at hA hval
  obtain ⟨v0, vs0, d0, ds0, p0, q0, hargs, rfl, rfl, h0, r0⟩ := trodAll_cons hA
  obtain ⟨v1, vs1, d1, ds1, p1, q1, rfl, rfl, rfl, h1, r1⟩ := trodAll_cons r0
  obtain ⟨rfl, rfl, rfl⟩ := trodAll_nil r1
  obtain rfl : args = #[v0, v1] := by cases args; simp_all
  obtain ⟨rfl, rfl⟩ := trodVars_none hV
  have k0 := h0
  have lt0 : ∀ x ∈ p0, x.block < W.heap.size := by obtain ⟨m, hm⟩ := k0; exact DataW.trod_lt m _ _ _ hm
  have hv0 := hval 0 38 v0 rfl rfl
  have k1 := h1
  have lt1 : ∀ x ∈ p1, x.block < W.heap.size := by obtain ⟨m, hm⟩ := k1; exact DataW.trod_lt m _ _ _ hm
  have hv1 := hval 1 69 v1 rfl rfl
  clear hA0 hval0 hval hcnd hfz hnd
  obtain ⟨a0, b0, rfl, wa0, wb0⟩ := See.agg2 Try.underlying38 (by kernel_rfl) (by kernel_rfl) Try.underlying5 Try.underlying5 hv0 h0
  have ba0 := bounds_u8 wa0
  have bb0 := bounds_u8 wb0
  obtain ⟨y01, y11, y21, rfl, g01, g11, g21⟩ := See.arr3s Try.underlying69 (by kernel_rfl) (by kernel_rfl) hv1 h1
  obtain ⟨ao01, n01, c01, b01, f01, A01, rfl, ln01, ha01⟩ := acts_of g01
  obtain ⟨ao11, n11, c11, b11, f11, A11, rfl, ln11, ha11⟩ := acts_of g11
  obtain ⟨ao21, n21, c21, b21, f21, A21, rfl, ln21, ha21⟩ := acts_of g21
  refine (copies_walk a0 b0 W ba0 bb0 ha01 ha11 ha21 ln01 ln11 ln21).mono fun e W' ⟨he, bel⟩ => ?_
  subst he
  exact ⟨_, rfl, _, _, _, [], _, [], hW', trodAll_mk1 (shut_bool Try.underlying4 _), (trodAll_cons_mk (Below.trod laidOut (by kernel_rfl) (of_decide_eq_true (by kernel_rfl)) k0 bel lt0) (trodAll_cons_mk (Below.trod laidOut (by kernel_rfl) (of_decide_eq_true (by kernel_rfl)) k1 bel lt1) trodAll_mk0)), rfl, bel.frame _, fun h => by cases h⟩

theorem deviceCopies_holds : Rows.DeviceCopiesSaid :=
  OpenClaim.holds_of_wide 9 Try.f9 rfl rfl rfl rfl rfl rfl rfl ⟨rfl, rfl, rfl, rfl, rfl⟩ rfl rfl rfl rfl rfl (by kernel_rfl) Try.func9 (by kernel_rfl)
    (of_decide_eq_true (by kernel_rfl)) (by unfold Func.isWrapper; first | (rw [if_pos (by decide +kernel)]; kernel_rfl) | (rw [if_neg (by decide +kernel)]; exact ⟨rfl, rfl⟩))
    (fun os started H enc _ => deviceCopies_lifted os started H enc)
#print axioms deviceCopies_holds

end Go.Proofs.Ytbpjfhfibllhgaa


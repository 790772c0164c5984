/- The statement DeviceKeeps is proved. Conditions: none. -/
import Derived.Test.YtbpjfhfibllhgaaDvKeepAll
import Derived.Test.YtbpjfhfibllhgaaDvSee
namespace Go.Proofs.Ytbpjfhfibllhgaa
open Go.ChangeShapes Go.WideShapes Go.ChangeAt Go.RowKit

theorem own : ownKnob Try.prog.godebug = none := by kernel_rfl
theorem laidOut : laidOutB Try.prog = true := by kernel_rfl

set_option maxRecDepth 100000 in
theorem deviceKeeps_lifted (os : Os) (started : os.Started) (H : Type) (enc : TypeId × Value → H) :
    ReturnsInHanded {} Try.checked os 7 .any (Rows.deviceKeepsSpec.pre6 enc Try.prog Try.f7 Rows.deviceKeepsRow.domain false) (Rows.deviceKeepsSpec.post enc Try.prog Try.f7 false true false false) := by
  refine returnsInHanded_of_change (C := Try.checked) own started (by kernel_rfl) Try.func7
    (ChangeSpec.witness6 (enc := enc) (C := Try.checked) false ⟨#[], #[.agg #[.int .u8 0, .int .u8 0], .agg #[.slice none 0 0, .slice none 0 0], .slice none 0 0], []⟩ 8 (by kernel_rfl) (by kernel_rfl) (by kernel_rfl) (by kernel_rfl)) ?_
  intro W base args ds gs before hval0 hW hcnd _
  have hval : ∀ (j : Nat) t v, Try.f7.params[j]? = some t → args[j]? = some v → Value.okWide Try.prog W .any base t v := hval0
  have hW' := hW
  obtain ⟨p, q, hA0, hV, rfl, hfz, hnd⟩ := hW
  have hA : DataW.TrodAll enc Try.prog W 0 (fun _ => true) true Try.f7.params.toList args.toList ds p := hA0
  rw [Try.params7] at hA hval
  obtain ⟨v0, vs0, d0, ds0, p0, q0, hargs, rfl, rfl, h0, r0⟩ := trodAll_cons hA
  obtain ⟨v1, vs1, d1, ds1, p1, q1, rfl, rfl, rfl, h1, r1⟩ := trodAll_cons r0
  obtain ⟨v2, vs2, d2, ds2, p2, q2, rfl, rfl, rfl, h2, r2⟩ := trodAll_cons r1
  obtain ⟨rfl, rfl, rfl⟩ := trodAll_nil r2
  obtain rfl : args = #[v0, v1, v2] := by cases args; simp_all
  obtain ⟨rfl, rfl⟩ := trodVars_none hV
  have k0 := h0
  have lt0 : ∀ x ∈ p0, x.block < W.heap.size := by obtain ⟨m, hm⟩ := k0; exact DataW.trod_lt m _ _ _ hm
  have hv0 := hval 0 38 v0 rfl rfl
  have k1 := h1
  have lt1 : ∀ x ∈ p1, x.block < W.heap.size := by obtain ⟨m, hm⟩ := k1; exact DataW.trod_lt m _ _ _ hm
  have hv1 := hval 1 52 v1 rfl rfl
  have k2 := h2
  have lt2 : ∀ x ∈ p2, x.block < W.heap.size := by obtain ⟨m, hm⟩ := k2; exact DataW.trod_lt m _ _ _ hm
  have hv2 := hval 2 29 v2 rfl rfl
  clear hA0 hval0 hval hcnd hfz hnd
  obtain ⟨a0, b0, rfl, wa0, wb0⟩ := See.agg2 Try.underlying38 (by kernel_rfl) (by kernel_rfl) Try.underlying5 Try.underlying5 hv0 h0
  have ba0 := bounds_u8 wa0
  have bb0 := bounds_u8 wb0
  obtain ⟨y01, y11, rfl, g01, g11⟩ := See.arr2s Try.underlying52 (by kernel_rfl) (by kernel_rfl) hv1 h1
  obtain ⟨ao01, n01, c01, b01, f01, A01, rfl, ln01, ha01⟩ := acts_of g01
  obtain ⟨ao11, n11, c11, b11, f11, A11, rfl, ln11, ha11⟩ := acts_of g11
  obtain ⟨ao2, len2, cap2, b2, off2, X2, rfl, hlc2, hcap2, ho2, hlt2, hc2⟩ := See.nums Try.underlying29 Try.underlying3 (by kernel_rfl) hv2 h2
  have tk2 : IsInts W ao2 len2 b2 off2 X2 := ⟨ho2, hlt2, fun i hi => (hc2 i hi).1, fun i hi => bounds_i64 (hc2 i hi).2⟩
  refine (keeps_walk a0 b0 W ba0 bb0 ha01 ha11 tk2 ln01 ln11).mono fun e W' ⟨he, bel⟩ => ?_
  subst he
  exact ⟨_, rfl, _, _, _, [], _, [], hW', trodAll_mk1 (shut_bool Try.underlying4 _), (trodAll_cons_mk (Below.trod laidOut (by kernel_rfl) (of_decide_eq_true (by kernel_rfl)) k0 bel lt0) (trodAll_cons_mk (Below.trod laidOut (by kernel_rfl) (of_decide_eq_true (by kernel_rfl)) k1 bel lt1) (trodAll_cons_mk (Below.trod laidOut (by kernel_rfl) (of_decide_eq_true (by kernel_rfl)) k2 bel lt2) trodAll_mk0))), rfl, bel.frame _, fun h => by cases h⟩

theorem deviceKeeps_holds : Rows.DeviceKeepsSaid :=
  OpenClaim.holds_of_wide 7 Try.f7 rfl rfl rfl rfl rfl rfl rfl ⟨rfl, rfl, rfl, rfl, rfl⟩ rfl rfl rfl rfl rfl (by kernel_rfl) Try.func7 (by kernel_rfl)
    (of_decide_eq_true (by kernel_rfl)) (by unfold Func.isWrapper; first | (rw [if_pos (by decide +kernel)]; kernel_rfl) | (rw [if_neg (by decide +kernel)]; exact ⟨rfl, rfl⟩))
    (fun os started H enc _ => deviceKeeps_lifted os started H enc)
#print axioms deviceKeeps_holds

end Go.Proofs.Ytbpjfhfibllhgaa


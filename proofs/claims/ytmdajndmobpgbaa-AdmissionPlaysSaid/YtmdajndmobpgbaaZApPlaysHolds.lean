/- The statement AdmissionPlays is proved. Conditions: none. -/
import Derived.Test.YtmdajndmobpgbaaZApPlays
import Derived.Test.YtmdajndmobpgbaaZAdSee2
namespace Go.Proofs.Ytmdajndmobpgbaa
open Go.ChangeShapes Go.WideShapes Go.ChangeAt Go.RowKit

theorem own : ownKnob Try.prog.godebug = none := by kernel_rfl
theorem laidOut : laidOutB Try.prog = true := by kernel_rfl

set_option maxRecDepth 100000 in
theorem admissionPlays_lifted (os : Os) (started : os.Started) (H : Type) (enc : TypeId × Value → H) :
    ReturnsInHanded {} Try.checked os 5 .any (Rows.admissionPlaysSpec.pre6 enc Try.prog Try.f5 Rows.admissionPlaysRow.domain false) (Rows.admissionPlaysSpec.post enc Try.prog Try.f5 false true false false) := by
  refine returnsInHanded_of_change_sized (C := Try.checked) own started (by kernel_rfl) Try.func5
    (ChangeSpec.witness6 (enc := enc) (C := Try.checked) false ⟨#[], #[.agg #[.slice none 0 0, .int .i64 0], .slice none 0 0], []⟩ 8 (by kernel_rfl) (by kernel_rfl) (by kernel_rfl) (by kernel_rfl)) ?_
  intro W base args ds gs before hval0 hW hcnd hsz0 _
  have hval : ∀ (j : Nat) t v, Try.f5.params[j]? = some t → args[j]? = some v → Value.okWide Try.prog W .any base t v := hval0
  have hW' := hW
  obtain ⟨p, q, hA0, hV, rfl, hfz, hnd⟩ := hW
  have hA : DataW.TrodAll enc Try.prog W 0 (fun _ => true) true Try.f5.params.toList args.toList ds p := hA0
  have hsz : (DataW.weightsEach Try.prog (Try.f5.params.toList ++ Rows.admissionPlaysSpec.plain.varTypes Try.prog) (ds ++ gs)).all (· ≤ reachBytes) = true := hsz0
  rw [Try.params5] at hA hval hsz
  obtain ⟨v0, vs0, d0, ds0, p0, q0, hargs, rfl, rfl, h0, r0⟩ := trodAll_cons hA
  obtain ⟨v1, vs1, d1, ds1, p1, q1, rfl, rfl, rfl, h1, r1⟩ := trodAll_cons r0
  obtain ⟨rfl, rfl, rfl⟩ := trodAll_nil r1
  obtain rfl : args = #[v0, v1] := by cases args; simp_all
  obtain ⟨rfl, rfl⟩ := trodVars_none hV
  have k0 := h0
  have lt0 : ∀ x ∈ p0, x.block < W.heap.size := by obtain ⟨m, hm⟩ := k0; exact DataW.trod_lt m _ _ _ hm
  have hv0 := hval 0 48 v0 rfl rfl
  have k1 := h1
  have lt1 : ∀ x ∈ p1, x.block < W.heap.size := by obtain ⟨m, hm⟩ := k1; exact DataW.trod_lt m _ _ _ hm
  have hv1 := hval 1 49 v1 rfl rfl
  clear hA0 hval0 hval hcnd hfz hnd
  obtain ⟨ao0, n0, c0, b0, f0, sl0, X0, rfl, ln0, ha0⟩ := setup_of hv0 h0
  obtain ⟨ao1, n1, c1, b1, f1, X1, rfl, hlc1, hcap1, ho1, hlt1, hc1⟩ := See.rows 5 (by decide) scK Try.underlying49 Try.underlying63 (by kernel_rfl) (by kernel_rfl) rfl (scK_of Try.underlying63) hv1 h1
  have ha1 : IsSc W ao1 n1 b1 f1 X1 := ⟨ho1, hlt1, hc1⟩
  have ln1 : n1 ≤ 4398046511104 := by
    have := sized_len hsz (j := 1) rfl rfl Try.underlying49 h1
    rw [show Try.prog.bytesOf 63 = 32 by kernel_rfl] at this
    unfold reachBytes at this
    omega
  refine (plays_walk sl0 W ha0 ha1 ln0 ln1).mono fun e W' ⟨he, bel⟩ => ?_
  subst he
  exact ⟨_, rfl, _, _, _, [], _, [], hW', trodAll_mk1 (shut_bool Try.underlying4 _), (trodAll_cons_mk (Below.trod laidOut (by kernel_rfl) (of_decide_eq_true (by kernel_rfl)) k0 bel lt0) (trodAll_cons_mk (Below.trod laidOut (by kernel_rfl) (of_decide_eq_true (by kernel_rfl)) k1 bel lt1) trodAll_mk0)), rfl, bel.frame _, fun h => by cases h⟩

theorem admissionPlays_holds : Rows.AdmissionPlaysSaid :=
  OpenClaim.holds_of_wide 5 Try.f5 rfl rfl rfl rfl rfl rfl rfl ⟨rfl, rfl, rfl, rfl, rfl⟩ rfl rfl rfl rfl rfl (by kernel_rfl) Try.func5 (by kernel_rfl)
    (of_decide_eq_true (by kernel_rfl)) (by unfold Func.isWrapper; first | (rw [if_pos (by decide +kernel)]; kernel_rfl) | (rw [if_neg (by decide +kernel)]; exact ⟨rfl, rfl⟩))
    (fun os started H enc _ => admissionPlays_lifted os started H enc)
#print axioms admissionPlays_holds

end Go.Proofs.Ytmdajndmobpgbaa

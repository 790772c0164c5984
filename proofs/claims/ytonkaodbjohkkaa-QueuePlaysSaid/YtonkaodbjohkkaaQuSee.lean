/- Texts that can be read, as the statements' arguments. Conditions: none. -/
import Derived.Test.YtonkaodbjohkkaaSeeMore
namespace Go.Proofs.Ytonkaodbjohkkaa
open Go.ChangeShapes Go.WideShapes Go.ChangeAt Go.RowKit Go.Deep
section
variable {H : Type} {enc : TypeId × Value → H} {W : World} {base : Nat} {held : Bool}
theorem str1 {r : Reach} {b0 : Nat} {v : Value} {d : DataW H} {p : List MemPlace} (hv : Value.okWide Try.prog W r b0 9 v) (h : DataW.Trod enc Try.prog W base (fun _ => true) held 9 v d p) :
    ∃ s, v = .string s ∧ s.size ≤ maxLen := by
  obtain ⟨s, rfl⟩ := okWide_string Try.underlying9 hv
  obtain ⟨fuel, hf⟩ := h
  obtain ⟨s', hc, _, hw⟩ := DataW.trod_string Try.underlying9 hf
  simp [Value.cells] at hc
  subst hc
  exact ⟨_, rfl, hw⟩
end
end Go.Proofs.Ytonkaodbjohkkaa

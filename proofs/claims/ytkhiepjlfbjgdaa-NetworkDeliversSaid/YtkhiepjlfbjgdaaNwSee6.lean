/- An array of six numbers, as the statement's argument. Conditions: none. -/
import Derived.Test.YtkhiepjlfbjgdaaNwSee
import Derived.Test.YtkhiepjlfbjgdaaNwDelivers
namespace Go.Proofs.Ytkhiepjlfbjgdaa
open Go.ChangeShapes Go.WideShapes Go.ChangeAt Go.RowKit Go.Deep
section
variable {H : Type} {enc : TypeId × Value → H} {W : World} {base : Nat} {held : Bool}
set_option maxRecDepth 100000 in
theorem arr6_of {r : Reach} {b0 : Nat} {v : Value} {d : DataW H} {p : List MemPlace} (hv : Value.okWide Try.prog W r b0 50 v) (h : DataW.Trod enc Try.prog W base (fun _ => true) held 50 v d p) :
    ∃ D : Nat → Int, v = .agg (arr6 D) ∧ ∀ i, i < 6 → 0 ≤ D i ∧ D i ≤ 65535 := by
  have hC : Try.prog.cellsOf 50 = 6 := by kernel_rfl
  have ce : Try.prog.cellsOf 33 = 1 := by kernel_rfl
  obtain ⟨cs, rfl, hsz⟩ : ∃ cs, v = .agg cs ∧ cs.size = Try.prog.cellsOf 50 := by
    simp only [Value.okWide, Try.underlying50] at hv
    cases v <;> simp_all
  rw [hC] at hsz
  obtain ⟨c0, c1, c2, c3, c4, c5, rfl⟩ : ∃ c0 c1 c2 c3 c4 c5, cs = #[c0, c1, c2, c3, c4, c5] := by
    match cs, hsz with
    | ⟨[a, b, c, d, e, f]⟩, _ => exact ⟨a, b, c, d, e, f, rfl⟩
  obtain ⟨fuel, hf⟩ := h
  obtain ⟨xs, m, _, _, _, hl, hx⟩ := DataW.trod_array Try.underlying50 hf
  have g0 := hx 0 (by omega)
  have g1 := hx 1 (by omega)
  have g2 := hx 2 (by omega)
  have g3 := hx 3 (by omega)
  have g4 := hx 4 (by omega)
  have g5 := hx 5 (by omega)
  match xs, hl with
  | [y0, y1, y2, y3, y4, y5], _ =>
    simp [Value.cells, ce] at g0 g1 g2 g3 g4 g5
    obtain ⟨a0, rfl, w0⟩ := See.one Try.underlying33 g0
    obtain ⟨a1, rfl, w1⟩ := See.one Try.underlying33 g1
    obtain ⟨a2, rfl, w2⟩ := See.one Try.underlying33 g2
    obtain ⟨a3, rfl, w3⟩ := See.one Try.underlying33 g3
    obtain ⟨a4, rfl, w4⟩ := See.one Try.underlying33 g4
    obtain ⟨a5, rfl, w5⟩ := See.one Try.underlying33 g5
    refine ⟨fun i => [a0, a1, a2, a3, a4, a5].getD i 0, rfl, fun i hi => ?_⟩
    match i, hi with
    | 0, _ => exact bounds_u16 w0
    | 1, _ => exact bounds_u16 w1
    | 2, _ => exact bounds_u16 w2
    | 3, _ => exact bounds_u16 w3
    | 4, _ => exact bounds_u16 w4
    | 5, _ => exact bounds_u16 w5
end
end Go.Proofs.Ytkhiepjlfbjgdaa

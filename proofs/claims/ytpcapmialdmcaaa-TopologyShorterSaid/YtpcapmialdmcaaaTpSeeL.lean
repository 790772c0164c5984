/- A line as a statement's argument. Conditions: none. -/
import Derived.Test.YtpcapmialdmcaaaTpSeeN
namespace Go.Proofs.Ytpcapmialdmcaaa
open Go.ChangeShapes Go.WideShapes Go.ChangeAt Go.RowKit Go.Deep
section
variable {H : Type} {enc : TypeId × Value → H} {W : World} {base : Nat} {held : Bool}
set_option maxRecDepth 100000 in
theorem line_of {r : Reach} {b0 : Nat} {v : Value} {d : DataW H} {p : List MemPlace} (hv : Value.okWide Try.prog W r b0 58 v) (h : DataW.Trod enc Try.prog W base (fun _ => true) held 58 v d p) :
    ∃ (a b : Int) (dn : Bool) (x y t : Int), v = .agg #[.int .u8 a, .int .u8 b, .bool dn, .int .i64 x, .int .i64 y, .int .i64 t] ∧ (0 ≤ a ∧ a ≤ 255) ∧ (0 ≤ b ∧ b ≤ 255) := by
  obtain ⟨cs, rfl, hsz⟩ := okWide_struct Try.underlying58 hv
  rw [show Try.prog.cellsOf 58 = 6 by kernel_rfl] at hsz
  obtain ⟨c0, c1, c2, c3, c4, c5, rfl⟩ : ∃ c0 c1 c2 c3 c4 c5, cs = #[c0, c1, c2, c3, c4, c5] := by
    obtain ⟨l⟩ := cs
    match l, hsz with
    | [a, b, c, d, e, f], _ => exact ⟨a, b, c, d, e, f, rfl⟩
  obtain ⟨fuel, hf⟩ := h
  obtain ⟨xs, n, _, _, hl, hlen, hx⟩ := DataW.trod_struct Try.underlying58 hf
  match xs, hlen with
  | [y0, y1, y2, y3, y4, y5], _ =>
    have g0 := hx 0 _ rfl
    have g1 := hx 1 _ rfl
    have g2 := hx 2 _ rfl
    have g3 := hx 3 _ rfl
    have g4 := hx 4 _ rfl
    have g5 := hx 5 _ rfl
    have k1 : Try.prog.cellsOf 5 = 1 := by kernel_rfl
    have k2 : Try.prog.cellsOf 4 = 1 := by kernel_rfl
    have k3 : Try.prog.cellsOf 3 = 1 := by kernel_rfl
    simp [Value.cells, k1, k2, k3] at g0 g1 g2 g3 g4 g5
    obtain ⟨a0, rfl, w0⟩ := See.one Try.underlying5 g0
    obtain ⟨a1, rfl, w1⟩ := See.one Try.underlying5 g1
    obtain ⟨z, hz, _⟩ := DataW.trod_bool Try.underlying4 g2
    obtain ⟨a3, rfl, w3⟩ := See.one Try.underlying3 g3
    obtain ⟨a4, rfl, w4⟩ := See.one Try.underlying3 g4
    obtain ⟨a5, rfl, w5⟩ := See.one Try.underlying3 g5
    simp at hz
    subst hz
    exact ⟨a0, a1, z, a3, a4, a5, rfl, bounds_u8 w0, bounds_u8 w1⟩
end
end Go.Proofs.Ytpcapmialdmcaaa

/- A step of a script by value; a truth value: as the statements' arguments. Conditions: none. -/
import Derived.Test.YtmdajndmobpgbaaAdNil
import Derived.Test.YtmdajndmobpgbaaSeeMore
namespace Go.Proofs.Ytmdajndmobpgbaa
open Go.ChangeShapes Go.WideShapes Go.ChangeAt Go.RowKit Go.Deep
section
variable {H : Type} {enc : TypeId × Value → H} {W : World} {base : Nat} {held : Bool}
set_option maxRecDepth 100000 in
theorem step_of {r : Reach} {b0 : Nat} {v : Value} {d : DataW H} {p : List MemPlace} (hv : Value.okWide Try.prog W r b0 63 v) (h : DataW.Trod enc Try.prog W base (fun _ => true) held 63 v d p) :
    ∃ x0 x1 x2 x3 x4 : Int, v = stepV x0 x1 x2 x3 x4 ∧ (0 ≤ x0 ∧ x0 ≤ 255) ∧ (0 ≤ x1 ∧ x1 ≤ 65535) ∧ (-9223372036854775808 ≤ x2 ∧ x2 ≤ 9223372036854775807) ∧ (-9223372036854775808 ≤ x3 ∧ x3 ≤ 9223372036854775807) ∧ (-9223372036854775808 ≤ x4 ∧ x4 ≤ 9223372036854775807) := by
  obtain ⟨cs, rfl, hsz⟩ := okWide_struct Try.underlying63 hv
  rw [show Try.prog.cellsOf 63 = 5 by kernel_rfl] at hsz
  obtain ⟨c0, c1, c2, c3, c4, rfl⟩ : ∃ c0 c1 c2 c3 c4, cs = #[c0, c1, c2, c3, c4] := by
    obtain ⟨l⟩ := cs
    match l, hsz with
    | [a, b, c, d, e], _ => exact ⟨a, b, c, d, e, rfl⟩
  obtain ⟨fuel, hf⟩ := h
  obtain ⟨xs, n, _, _, hl, hlen, hx⟩ := DataW.trod_struct Try.underlying63 hf
  match xs, hlen with
  | [y0, y1, y2, y3, y4], _ =>
    have g0 := hx 0 _ rfl
    have g1 := hx 1 _ rfl
    have g2 := hx 2 _ rfl
    have g3 := hx 3 _ rfl
    have g4 := hx 4 _ rfl
    have k1 : Try.prog.cellsOf 5 = 1 := by kernel_rfl
    have k2 : Try.prog.cellsOf 61 = 1 := by kernel_rfl
    have k3 : Try.prog.cellsOf 3 = 1 := by kernel_rfl
    simp [Value.cells, k1, k2, k3] at g0 g1 g2 g3 g4
    obtain ⟨a0, rfl, w0⟩ := See.one Try.underlying5 g0
    obtain ⟨a1, rfl, w1⟩ := See.one Try.underlying61 g1
    obtain ⟨a2, rfl, w2⟩ := See.one Try.underlying3 g2
    obtain ⟨a3, rfl, w3⟩ := See.one Try.underlying3 g3
    obtain ⟨a4, rfl, w4⟩ := See.one Try.underlying3 g4
    exact ⟨a0, a1, a2, a3, a4, rfl, bounds_u8 w0, bounds_u16 w1, bounds_i64 w2, bounds_i64 w3, bounds_i64 w4⟩
end
end Go.Proofs.Ytmdajndmobpgbaa

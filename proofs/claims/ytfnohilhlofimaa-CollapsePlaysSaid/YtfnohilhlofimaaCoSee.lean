/- collapse: what the statements are told of their arguments: a step, a script. Conditions: none. -/
import Derived.Test.YtfnohilhlofimaaSeeMore
import Derived.Test.YtfnohilhlofimaaCoJ
namespace Go.Proofs.Ytfnohilhlofimaa
open Go.ChangeShapes Go.WideShapes Go.ChangeAt Go.RowKit Go.Deep

section
variable {H : Type} {enc : TypeId × Value → H} {P : Program} {w : World} {base : Nat} {spare : Nat → Bool} {held : Bool}
theorem See.agg4x {r : Reach} {b0 : Nat} {t : TypeId} {f0 f1 f2 f3 : Field} {k0 k1 k2 k3 : IntKind} {v : Value} {d : DataW H} {p : List MemPlace} (hs : P.underlying t = some (.struct #[f0, f1, f2, f3])) (hone : oneCellFields P #[f0, f1, f2, f3] = true) (hC : P.cellsOf t = 4)
    (h0 : P.underlying f0.type = some (.int k0)) (h1 : P.underlying f1.type = some (.int k1)) (h2 : P.underlying f2.type = some (.int k2)) (h3 : P.underlying f3.type = some (.int k3))
    (hv : Value.okWide P w r b0 t v) (h : DataW.Trod enc P w base spare held t v d p) :
    ∃ a b c e : Int, v = .agg #[.int k0 a, .int k1 b, .int k2 c, .int k3 e] ∧ (Lit.int k0 a).wf = true ∧ (Lit.int k1 b).wf = true ∧ (Lit.int k2 c).wf = true ∧ (Lit.int k3 e).wf = true := by
  obtain ⟨v0, v1, v2, v3, y0, y1, y2, y3, n, rfl, _, _, g0, g1, g2, g3⟩ := Joins.open_agg4 hs hone hC hv h
  obtain ⟨a, rfl, wa⟩ := See.one h0 g0
  obtain ⟨b, rfl, wb⟩ := See.one h1 g1
  obtain ⟨c, rfl, wc⟩ := See.one h2 g2
  obtain ⟨e, rfl, we⟩ := See.one h3 g3
  exact ⟨a, b, c, e, rfl, wa, wb, wc, we⟩
end
def stepK (j : Nat) : IntKind := if j < 2 then .u8 else .i8
theorem stepK_of {fs : Array Field} (he : Try.prog.underlying 28 = some (.struct fs)) : ∀ (j : Nat) (f : Field), fs[j]? = some f → Try.prog.underlying f.type = some (.int (stepK j)) := by
  rw [Try.underlying28] at he
  obtain rfl := TypeDesc.struct.inj (Option.some.inj he)
  intro j f hf
  match j, hf with
  | 0, hf => simp at hf; subst hf; exact Try.underlying5
  | 1, hf => simp at hf; subst hf; exact Try.underlying5
  | 2, hf => simp at hf; subst hf; exact Try.underlying26
  | 3, hf => simp at hf; subst hf; exact Try.underlying26
  | j + 4, hf => simp at hf
/-- A script that can be read. -/
structure IsSteps (w : World) (ao : Option Addr) (n b off : Nat) (X : Nat → Nat → Int) : Prop where
  ao : 0 < n → ao = some ⟨b, off, none⟩
  lt : 0 < n → b < w.heap.size
  c : ∀ i, i < n → ∀ j, j < 4 → w.cell? ⟨b, off + i * 4 + j, none⟩ = some (.int (stepK j) (X i j)) ∧ (Lit.int (stepK j) (X i j)).wf = true
structure StepC (w : World) (b o : Nat) (x0 x1 x2 x3 : Int) : Prop where
  c0 : w.cell? ⟨b, o, none⟩ = some (.int .u8 x0)
  c1 : w.cell? ⟨b, o + 1, none⟩ = some (.int .u8 x1)
  c2 : w.cell? ⟨b, o + 2, none⟩ = some (.int .i8 x2)
  c3 : w.cell? ⟨b, o + 3, none⟩ = some (.int .i8 x3)
theorem IsSteps.at_ {w : World} {ao : Option Addr} {n b off : Nat} {X : Nat → Nat → Int} (h : IsSteps w ao n b off X) {i : Nat} (hi : i < n) : StepC w b (off + i * 4) (X i 0) (X i 1) (X i 2) (X i 3) ∧ (0 ≤ X i 0 ∧ X i 0 ≤ 255) ∧ (0 ≤ X i 1 ∧ X i 1 ≤ 255) ∧ (-128 ≤ X i 2 ∧ X i 2 ≤ 127) ∧ (-128 ≤ X i 3 ∧ X i 3 ≤ 127) :=
  ⟨⟨(h.c i hi 0 (by omega)).1, (h.c i hi 1 (by omega)).1, (h.c i hi 2 (by omega)).1, (h.c i hi 3 (by omega)).1⟩, bounds_u8 (h.c i hi 0 (by omega)).2, bounds_u8 (h.c i hi 1 (by omega)).2, bounds_i8 (h.c i hi 2 (by omega)).2, bounds_i8 (h.c i hi 3 (by omega)).2⟩
theorem IsSteps.below {w w' : World} {ao : Option Addr} {n b off : Nat} {X : Nat → Nat → Int} (h : IsSteps w ao n b off X) {B : Nat} (hb : Below B w w') (hB : w.heap.size ≤ B) : IsSteps w' ao n b off X :=
  ⟨h.ao, fun h0 => by have := hb.size; have := h.lt h0; omega, fun i hi j hj => ⟨(hb.cell (p := ⟨b, _, none⟩) (show b < B from Nat.lt_of_lt_of_le (h.lt (by omega)) hB)).trans (h.c i hi j hj).1, (h.c i hi j hj).2⟩⟩
end Go.Proofs.Ytfnohilhlofimaa

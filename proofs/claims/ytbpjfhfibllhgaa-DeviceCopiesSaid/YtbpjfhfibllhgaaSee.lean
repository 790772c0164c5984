/- What a walk is told of the values of an argument that can be read: integers, structs and arrays of integers, slices of pairs of integers. Over any program. -/
import Derived.Test.YtbpjfhfibllhgaaRows
import Derived.WalkKit
import Derived.ProofKit
import Derived.OpenShut
import Derived.ShutString
import Derived.ChangeOld
import Derived.Below
import Derived.Lib.SmallJoins
import Derived.Deep.SlicePairs
namespace Go.Proofs.Ytbpjfhfibllhgaa.See
open Go.ChangeShapes Go.WideShapes Go.ChangeAt Go.RowKit Go.Deep

section
variable {H : Type} {enc : TypeId × Value → H} {P : Program} {w : World} {base : Nat} {spare : Nat → Bool} {held : Bool}

theorem int {r : Reach} {b0 : Nat} {t : TypeId} {k : IntKind} {v : Value} {d : DataW H} {ps : List MemPlace} (ht : P.underlying t = some (.int k)) (hval : Value.okWide P w r b0 t v) (hd : DataW.Trod enc P w base spare held t v d ps) :
    ∃ n, v = .int k n ∧ (Lit.int k n).wf = true := by
  obtain ⟨n, rfl, _, _, h⟩ := open_int ht hval hd
  exact ⟨n, rfl, h⟩

theorem one {t : TypeId} {k : IntKind} {v : Value} {n : Nat} {x : DataW H × List MemPlace} (ht : P.underlying t = some (.int k)) (h : DataW.trod enc P w base spare held n t [v] = some x) : ∃ q, v = .int k q ∧ (Lit.int k q).wf = true := by
  obtain ⟨q, hq, _, hw⟩ := DataW.trod_int ht h
  simp at hq
  exact ⟨q, hq, hw⟩

theorem agg3 {r : Reach} {b0 : Nat} {t : TypeId} {f0 f1 f2 : Field} {k0 k1 k2 : IntKind} {v : Value} {d : DataW H} {p : List MemPlace} (hs : P.underlying t = some (.struct #[f0, f1, f2])) (hone : oneCellFields P #[f0, f1, f2] = true) (hC : P.cellsOf t = 3)
    (h0 : P.underlying f0.type = some (.int k0)) (h1 : P.underlying f1.type = some (.int k1)) (h2 : P.underlying f2.type = some (.int k2))
    (hv : Value.okWide P w r b0 t v) (h : DataW.Trod enc P w base spare held t v d p) :
    ∃ a b c : Int, v = .agg #[.int k0 a, .int k1 b, .int k2 c] ∧ (Lit.int k0 a).wf = true ∧ (Lit.int k1 b).wf = true ∧ (Lit.int k2 c).wf = true := by
  obtain ⟨v0, v1, v2, y0, y1, y2, n, rfl, _, _, g0, g1, g2⟩ := Joins.open_agg3 hs hone hC hv h
  obtain ⟨a, rfl, wa⟩ := one h0 g0
  obtain ⟨b, rfl, wb⟩ := one h1 g1
  obtain ⟨c, rfl, wc⟩ := one h2 g2
  exact ⟨a, b, c, rfl, wa, wb, wc⟩

theorem pairs {r : Reach} {b0 : Nat} {t e : TypeId} {f0 f1 : Field} {k0 k1 : IntKind} {v : Value} {d : DataW H} {p : List MemPlace} (ht : P.underlying t = some (.slice e)) (he : P.underlying e = some (.struct #[f0, f1]))
    (ce : P.cellsOf e = 2) (o0 : f0.offset = 0) (o1 : f1.offset = 1) (c0 : P.cellsOf f0.type = 1) (c1 : P.cellsOf f1.type = 1) (h0 : P.underlying f0.type = some (.int k0)) (h1 : P.underlying f1.type = some (.int k1))
    (hv : Value.okWide P w r b0 t v) (h : DataW.Trod enc P w base (fun _ => true) held t v d p) :
    ∃ (ao : Option Addr) (len cap b off : Nat) (L N : Nat → Int), v = .slice ao len cap ∧ len ≤ cap ∧ cap ≤ 9223372036854775807 ∧ (0 < len → ao = some ⟨b, off, none⟩) ∧ (0 < len → b < w.heap.size) ∧
      (∀ i, i < len → w.cell? ⟨b, off + i * 2, none⟩ = some (.int k0 (L i)) ∧ w.cell? ⟨b, off + i * 2 + 1, none⟩ = some (.int k1 (N i)) ∧ (Lit.int k0 (L i)).wf = true ∧ (Lit.int k1 (N i)).wf = true) := by
  obtain ⟨ao, len, cap, rfl⟩ := okWide_slice ht hv
  obtain ⟨fuel, hf⟩ := h
  rcases open_slice_pairs ht he ce o0 o1 c0 c1 hf with ⟨hcs, _⟩ | ⟨a, len', cap', m, n, V0, V1, D0, D1, P0, P1, hcs, _, hl, hm, hmm, _, hc⟩
  · simp [Value.cells] at hcs
    obtain ⟨rfl, rfl, rfl⟩ := hcs
    exact ⟨none, 0, 0, 0, 0, fun _ => 0, fun _ => 0, rfl, by omega, by omega, by omega, by omega, fun i hi => by omega⟩
  · simp [Value.cells] at hcs
    obtain ⟨rfl, rfl, rfl⟩ := hcs
    simp at hmm
    subst hmm
    obtain ⟨b, off, spot⟩ := a
    unfold maxLen at hm
    refine ⟨_, len, m, b, off, fun i => intOf (V0 i), fun i => intOf (V1 i), rfl, hl, by omega, ?_, ?_, ?_⟩
    · intro h0
      have := World.cell?_spot (by simpa [Addr.add] using (hc 0 (by omega)).1)
      simp at this
      rw [this]
    · intro h0
      exact World.block_lt_of_cell? w _ (by simpa [Addr.add] using (hc 0 (by omega)).1)
    · intro i hi
      obtain ⟨q0, q1, q2, q3⟩ := hc i (by omega)
      have hsp : spot = none := by
        have := World.cell?_spot (by simpa [Addr.add] using (hc 0 (by omega)).1)
        simpa using this
      subst hsp
      obtain ⟨x, hx, wx⟩ := one h0 q2
      obtain ⟨y, hy, wy⟩ := one h1 q3
      rw [add_plain] at q0 q1
      rw [hx] at q0; rw [hy] at q1
      have ex : intOf (V0 i) = x := by rw [hx]; rfl
      have ey : intOf (V1 i) = y := by rw [hy]; rfl
      show _ = some (Value.int k0 (intOf (V0 i))) ∧ _ = some (Value.int k1 (intOf (V1 i))) ∧ (Lit.int k0 (intOf (V0 i))).wf = true ∧ (Lit.int k1 (intOf (V1 i))).wf = true
      rw [ex, ey]
      exact ⟨q0, by simpa [Nat.add_assoc] using q1, wx, wy⟩

theorem arr2 {r : Reach} {b0 : Nat} {t e : TypeId} {k : IntKind} {v : Value} {d : DataW H} {p : List MemPlace} (ht : P.underlying t = some (.array 2 e)) (he : P.underlying e = some (.int k)) (hC : P.cellsOf t = 2) (ce : P.cellsOf e = 1)
    (hv : Value.okWide P w r b0 t v) (h : DataW.Trod enc P w base spare held t v d p) :
    ∃ a b : Int, v = .agg #[.int k a, .int k b] ∧ (Lit.int k a).wf = true ∧ (Lit.int k b).wf = true := by
  obtain ⟨cs, rfl, hsz⟩ : ∃ cs, v = .agg cs ∧ cs.size = P.cellsOf t := by
    simp only [Value.okWide, ht] at hv
    cases v <;> simp_all
  rw [hC] at hsz
  obtain ⟨c0, c1, rfl⟩ : ∃ c0 c1, cs = #[c0, c1] := by
    match cs, hsz with
    | ⟨[x, y]⟩, _ => exact ⟨x, y, rfl⟩
  obtain ⟨fuel, hf⟩ := h
  obtain ⟨xs, m, _, _, _, hl, hx⟩ := DataW.trod_array ht hf
  have g0 := hx 0 (by omega)
  have g1 := hx 1 (by omega)
  match xs, hl with
  | [y0, y1], _ =>
    simp [Value.cells, ce] at g0 g1
    obtain ⟨a, rfl, wa⟩ := one he g0
    obtain ⟨b, rfl, wb⟩ := one he g1
    exact ⟨a, b, rfl, wa, wb⟩
end
end Go.Proofs.Ytbpjfhfibllhgaa.See

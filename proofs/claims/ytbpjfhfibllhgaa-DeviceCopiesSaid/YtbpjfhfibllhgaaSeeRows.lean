/- What a walk is told of an argument that can be read: slices of structs of integers, slices of integers, a struct of four integers. Over any program. -/
import Derived.Test.YtbpjfhfibllhgaaSee
namespace Go.Proofs.Ytbpjfhfibllhgaa.See
open Go.ChangeShapes Go.WideShapes Go.ChangeAt Go.RowKit Go.Deep

section
variable {H : Type} {enc : TypeId × Value → H} {P : Program} {w : World} {base : Nat} {spare : Nat → Bool} {held : Bool}

theorem rows (sz : Nat) (h0sz : 0 < sz) (ks : Nat → IntKind) {r : Reach} {b0 : Nat} {t e : TypeId} {fs : Array Field} {v : Value} {d : DataW H} {p : List MemPlace} (ht : P.underlying t = some (.slice e)) (he : P.underlying e = some (.struct fs))
    (hone : oneCellFields P fs = true) (ce : P.cellsOf e = sz) (hsz : fs.size = sz) (hk : ∀ j f, fs[j]? = some f → P.underlying f.type = some (.int (ks j)))
    (hv : Value.okWide P w r b0 t v) (h : DataW.Trod enc P w base (fun _ => true) held t v d p) :
    ∃ (ao : Option Addr) (len cap b off : Nat) (X : Nat → Nat → Int), v = .slice ao len cap ∧ len ≤ cap ∧ cap ≤ 9223372036854775807 ∧ (0 < len → ao = some ⟨b, off, none⟩) ∧ (0 < len → b < w.heap.size) ∧
      (∀ i, i < len → ∀ j, j < sz → w.cell? ⟨b, off + i * sz + j, none⟩ = some (.int (ks j) (X i j)) ∧ (Lit.int (ks j) (X i j)).wf = true) := by
  obtain ⟨ao, len, cap, rfl⟩ := okWide_slice ht hv
  obtain ⟨fuel, hf⟩ := h
  rcases open_slice ht hf with ⟨hcs, _⟩ | ⟨a, len', cap', m, n, D, Pl, hcs, _, hl, hm, hmm, _, hc⟩
  · simp [Value.cells] at hcs
    obtain ⟨rfl, rfl, rfl⟩ := hcs
    exact ⟨none, 0, 0, 0, 0, fun _ _ => 0, rfl, by omega, by omega, by omega, by omega, fun i hi => by omega⟩
  · simp [Value.cells] at hcs
    obtain ⟨rfl, rfl, rfl⟩ := hcs
    simp at hmm
    subst hmm
    unfold maxLen at hm
    have key : ∀ i, i < len → ∀ j, j < sz → ∃ q, w.cell? (a.add (i * sz + j)) = some (.int (ks j) q) ∧ (Lit.int (ks j) q).wf = true := by
      intro i hi j hj
      obtain ⟨cs', h1, h2⟩ := hc i (by omega)
      rw [ce] at h1
      obtain ⟨_, hlen, hcell⟩ := World.cells?_some h1
      obtain ⟨xs, k, hk', hxy, _, hxl, hf'⟩ := DataW.trod_struct he h2
      have hj' : j < fs.size := by omega
      have hfj : fs[j]? = some fs[j] := Array.getElem?_eq_getElem hj'
      obtain ⟨o1, o2⟩ := hone_of hone j _ hfj
      have g := hf' j _ hfj
      rw [o1, o2] at g
      have hjc : j < cs'.length := by omega
      have hd : (cs'.drop j).take 1 = [cs'[j]] := by rw [List.drop_eq_getElem_cons hjc]; rfl
      rw [hd, List.getElem?_eq_getElem (by omega)] at g
      obtain ⟨q, hq, wq⟩ := one (hk j _ hfj) g
      have e0 := hcell j hj
      rw [add_add, List.getElem?_eq_getElem hjc, hq] at e0
      exact ⟨q, e0, wq⟩
    obtain ⟨b, off, spot⟩ := a
    have hsp : 0 < sz → 0 < len → spot = none := fun hs h0 => by
      obtain ⟨q, hq, _⟩ := key 0 h0 0 hs
      have := World.cell?_spot (by simpa [Addr.add] using hq)
      simpa using this
    refine ⟨_, len, m, b, off, fun i j => intOf ((w.cell? ⟨b, off + i * sz + j, none⟩).getD default), rfl, hl, by omega, ?_, ?_, ?_⟩
    · intro h0
      rw [hsp h0sz h0]
    · intro h0
      obtain ⟨q, hq, _⟩ := key 0 h0 0 h0sz
      exact World.block_lt_of_cell? w _ (by simpa [Addr.add] using hq)
    · intro i hi j hj
      obtain ⟨q, hq, wq⟩ := key i hi j hj
      have := hsp (by omega) (by omega)
      subst this
      rw [add_plain, ← Nat.add_assoc] at hq
      have e : intOf ((w.cell? ⟨b, off + i * sz + j, none⟩).getD default) = q := by rw [hq]; rfl
      show _ = some (Value.int (ks j) (intOf _)) ∧ (Lit.int (ks j) (intOf _)).wf = true
      rw [e]
      exact ⟨hq, wq⟩

theorem nums {r : Reach} {b0 : Nat} {t e : TypeId} {k : IntKind} {v : Value} {d : DataW H} {p : List MemPlace} (ht : P.underlying t = some (.slice e)) (he : P.underlying e = some (.int k)) (ce : P.cellsOf e = 1)
    (hv : Value.okWide P w r b0 t v) (h : DataW.Trod enc P w base (fun _ => true) held t v d p) :
    ∃ (ao : Option Addr) (len cap b off : Nat) (X : Nat → Int), v = .slice ao len cap ∧ len ≤ cap ∧ cap ≤ 9223372036854775807 ∧ (0 < len → ao = some ⟨b, off, none⟩) ∧ (0 < len → b < w.heap.size) ∧
      (∀ i, i < len → w.cell? ⟨b, off + i, none⟩ = some (.int k (X i)) ∧ (Lit.int k (X i)).wf = true) := by
  obtain ⟨ao, len, cap, rfl⟩ := okWide_slice ht hv
  obtain ⟨fuel, hf⟩ := h
  rcases open_slice ht hf with ⟨hcs, _⟩ | ⟨a, len', cap', m, n, D, Pl, hcs, _, hl, hm, hmm, _, hc⟩
  · simp [Value.cells] at hcs
    obtain ⟨rfl, rfl, rfl⟩ := hcs
    exact ⟨none, 0, 0, 0, 0, fun _ => 0, rfl, by omega, by omega, by omega, by omega, fun i hi => by omega⟩
  · simp [Value.cells] at hcs
    obtain ⟨rfl, rfl, rfl⟩ := hcs
    simp at hmm
    subst hmm
    unfold maxLen at hm
    have key : ∀ i, i < len → ∃ q, w.cell? (a.add i) = some (.int k q) ∧ (Lit.int k q).wf = true := by
      intro i hi
      obtain ⟨cs', h1, h2⟩ := hc i (by omega)
      rw [ce, Nat.mul_one] at h1
      obtain ⟨_, hlen, hcell⟩ := World.cells?_some h1
      match cs', hlen with
      | [y], _ =>
        obtain ⟨q, hq, wq⟩ := one he h2
        have e0 := hcell 0 (by omega)
        rw [add_add] at e0
        simp [hq] at e0
        exact ⟨q, e0, wq⟩
    obtain ⟨b, off, spot⟩ := a
    have hsp : 0 < len → spot = none := fun h0 => by
      obtain ⟨q, hq, _⟩ := key 0 h0
      have := World.cell?_spot (by simpa [Addr.add] using hq)
      simpa using this
    refine ⟨_, len, m, b, off, fun i => intOf ((w.cell? ⟨b, off + i, none⟩).getD default), rfl, hl, by omega, fun h0 => by rw [hsp h0], ?_, ?_⟩
    · intro h0
      obtain ⟨q, hq, _⟩ := key 0 h0
      exact World.block_lt_of_cell? w _ (by simpa [Addr.add] using hq)
    · intro i hi
      obtain ⟨q, hq, wq⟩ := key i hi
      have := hsp (by omega)
      subst this
      rw [add_plain] at hq
      have e : intOf ((w.cell? ⟨b, off + i, none⟩).getD default) = q := by rw [hq]; rfl
      show _ = some (Value.int k (intOf _)) ∧ (Lit.int k (intOf _)).wf = true
      rw [e]
      exact ⟨hq, wq⟩

theorem agg2 {r : Reach} {b0 : Nat} {t : TypeId} {f0 f1 : Field} {k0 k1 : IntKind} {v : Value} {d : DataW H} {p : List MemPlace} (hs : P.underlying t = some (.struct #[f0, f1])) (hone : oneCellFields P #[f0, f1] = true) (hC : P.cellsOf t = 2)
    (h0 : P.underlying f0.type = some (.int k0)) (h1 : P.underlying f1.type = some (.int k1)) (hv : Value.okWide P w r b0 t v) (h : DataW.Trod enc P w base spare held t v d p) :
    ∃ a b : Int, v = .agg #[.int k0 a, .int k1 b] ∧ (Lit.int k0 a).wf = true ∧ (Lit.int k1 b).wf = true := by
  obtain ⟨v0, v1, y0, y1, n, rfl, _, _, g0, g1⟩ := Joins.open_agg2 hs hone hC hv h
  obtain ⟨a, rfl, wa⟩ := one h0 g0
  obtain ⟨b, rfl, wb⟩ := one h1 g1
  exact ⟨a, b, rfl, wa, wb⟩
theorem agg4 {r : Reach} {b0 : Nat} {t : TypeId} {f0 f1 f2 f3 : Field} {k0 k1 k2 k3 : IntKind} {v : Value} {d : DataW H} {p : List MemPlace} (hs : P.underlying t = some (.struct #[f0, f1, f2, f3])) (hone : oneCellFields P #[f0, f1, f2, f3] = true) (hC : P.cellsOf t = 4)
    (h0 : P.underlying f0.type = some (.int k0)) (h1 : P.underlying f1.type = some (.int k1)) (h2 : P.underlying f2.type = some (.int k2)) (h3 : P.underlying f3.type = some (.int k3))
    (hv : Value.okWide P w r b0 t v) (h : DataW.Trod enc P w base spare held t v d p) :
    ∃ a b c e : Int, v = .agg #[.int k0 a, .int k1 b, .int k2 c, .int k3 e] := by
  obtain ⟨v0, v1, v2, v3, y0, y1, y2, y3, n, rfl, _, _, g0, g1, g2, g3⟩ := Joins.open_agg4 hs hone hC hv h
  obtain ⟨a, rfl, _⟩ := one h0 g0
  obtain ⟨b, rfl, _⟩ := one h1 g1
  obtain ⟨c, rfl, _⟩ := one h2 g2
  obtain ⟨e, rfl, _⟩ := one h3 g3
  exact ⟨a, b, c, e, rfl⟩
theorem agg4w {r : Reach} {b0 : Nat} {t : TypeId} {f0 f1 f2 f3 : Field} {k0 k1 k2 k3 : IntKind} {v : Value} {d : DataW H} {p : List MemPlace} (hs : P.underlying t = some (.struct #[f0, f1, f2, f3])) (hone : oneCellFields P #[f0, f1, f2, f3] = true) (hC : P.cellsOf t = 4)
    (h0 : P.underlying f0.type = some (.int k0)) (h1 : P.underlying f1.type = some (.int k1)) (h2 : P.underlying f2.type = some (.int k2)) (h3 : P.underlying f3.type = some (.int k3))
    (hv : Value.okWide P w r b0 t v) (h : DataW.Trod enc P w base spare held t v d p) :
    ∃ a b c e : Int, v = .agg #[.int k0 a, .int k1 b, .int k2 c, .int k3 e] ∧ (Lit.int k0 a).wf = true ∧ (Lit.int k1 b).wf = true ∧ (Lit.int k2 c).wf = true := by
  obtain ⟨v0, v1, v2, v3, y0, y1, y2, y3, n, rfl, _, _, g0, g1, g2, g3⟩ := Joins.open_agg4 hs hone hC hv h
  obtain ⟨a, rfl, wa⟩ := one h0 g0
  obtain ⟨b, rfl, wb⟩ := one h1 g1
  obtain ⟨c, rfl, wc⟩ := one h2 g2
  obtain ⟨e, rfl, _⟩ := one h3 g3
  exact ⟨a, b, c, e, rfl, wa, wb, wc⟩
end
end Go.Proofs.Ytbpjfhfibllhgaa.See

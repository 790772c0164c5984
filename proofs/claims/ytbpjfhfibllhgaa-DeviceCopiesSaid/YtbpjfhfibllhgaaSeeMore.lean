/- What a walk is told of an argument that can be read: slices of structs whose fields are one cell each, slices inside. Over any program. -/
import Derived.Test.YtbpjfhfibllhgaaSeeRows
namespace Go.Proofs.Ytbpjfhfibllhgaa.See
open Go.ChangeShapes Go.WideShapes Go.ChangeAt Go.RowKit Go.Deep

section
variable {H : Type} {enc : TypeId × Value → H} {P : Program} {w : World} {base : Nat} {held : Bool}

/-- A slice of integers, as a cell. -/
theorem nums1 {t e : TypeId} {k : IntKind} {y : Value} {fuel : Nat} {x : DataW H × List MemPlace} (ht : P.underlying t = some (.slice e)) (he : P.underlying e = some (.int k)) (ce : P.cellsOf e = 1)
    (hf : DataW.trod enc P w base (fun _ => true) held fuel t [y] = some x) :
    ∃ (ao : Option Addr) (len cap b off : Nat) (X : Nat → Int), y = .slice ao len cap ∧ len ≤ cap ∧ cap ≤ 9223372036854775807 ∧ (0 < len → ao = some ⟨b, off, none⟩) ∧ (0 < len → b < w.heap.size) ∧
      (∀ i, i < len → w.cell? ⟨b, off + i, none⟩ = some (.int k (X i)) ∧ (Lit.int k (X i)).wf = true) := by
  rcases open_slice ht hf with ⟨hcs, _⟩ | ⟨a, len, cap, m, n, D, Pl, hcs, _, hl, hm, hmm, _, hc⟩
  · simp at hcs
    exact ⟨none, 0, 0, 0, 0, fun _ => 0, hcs, by omega, by omega, by omega, by omega, fun i hi => by omega⟩
  · simp at hcs
    simp at hmm
    subst hmm
    unfold maxLen at hm
    have key : ∀ i, i < len → ∃ q, w.cell? (a.add i) = some (.int k q) ∧ (Lit.int k q).wf = true := by
      intro i hi
      obtain ⟨cs', h1, h2⟩ := hc i (by omega)
      rw [ce, Nat.mul_one] at h1
      obtain ⟨_, hlen, hcell⟩ := World.cells?_some h1
      match cs', hlen with
      | [y], _ =>
        obtain ⟨q, hq, wq⟩ := one he h2
        have e0 := hcell 0 (by omega)
        rw [add_add] at e0
        simp [hq] at e0
        exact ⟨q, e0, wq⟩
    obtain ⟨b, off, spot⟩ := a
    have hsp : 0 < len → spot = none := fun h0 => by
      obtain ⟨q, hq, _⟩ := key 0 h0
      have := World.cell?_spot (by simpa [Addr.add] using hq)
      simpa using this
    refine ⟨_, len, m, b, off, fun i => intOf ((w.cell? ⟨b, off + i, none⟩).getD default), hcs, hl, by omega, fun h0 => by rw [hsp h0], ?_, ?_⟩
    · intro h0
      obtain ⟨q, hq, _⟩ := key 0 h0
      exact World.block_lt_of_cell? w _ (by simpa [Addr.add] using hq)
    · intro i hi
      obtain ⟨q, hq, wq⟩ := key i hi
      have := hsp (by omega)
      subst this
      rw [add_plain] at hq
      have e : intOf ((w.cell? ⟨b, off + i, none⟩).getD default) = q := by rw [hq]; rfl
      show _ = some (Value.int k (intOf _)) ∧ (Lit.int k (intOf _)).wf = true
      rw [e]
      exact ⟨hq, wq⟩
/-- What is known of a cell that reads as a field. -/
def Fld (enc : TypeId × Value → H) (P : Program) (w : World) (base : Nat) (held : Bool) (t : TypeId) (y : Value) : Prop := ∃ n x, DataW.trod enc P w base (fun _ => true) held n t [y] = some x
/-- A slice of structs whose fields are one cell each. -/
theorem recs (sz : Nat) (h0sz : 0 < sz) {t e : TypeId} {fs : Array Field} {y : Value} {fuel : Nat} {x : DataW H × List MemPlace} (ht : P.underlying t = some (.slice e)) (he : P.underlying e = some (.struct fs))
    (hone : oneCellFields P fs = true) (ce : P.cellsOf e = sz) (hsz : fs.size = sz) (hf : DataW.trod enc P w base (fun _ => true) held fuel t [y] = some x) :
    ∃ (ao : Option Addr) (len cap b off : Nat), y = .slice ao len cap ∧ len ≤ cap ∧ cap ≤ 9223372036854775807 ∧ (0 < len → ao = some ⟨b, off, none⟩) ∧ (0 < len → b < w.heap.size) ∧
      (∀ i, i < len → ∀ j f, fs[j]? = some f → ∃ q, w.cell? ⟨b, off + i * sz + j, none⟩ = some q ∧ Fld enc P w base held f.type q) := by
  rcases open_slice ht hf with ⟨hcs, _⟩ | ⟨a, len, cap, m, n, D, Pl, hcs, _, hl, hm, hmm, _, hc⟩
  · simp at hcs
    exact ⟨none, 0, 0, 0, 0, hcs, by omega, by omega, by omega, by omega, fun i hi => by omega⟩
  · simp at hcs
    simp at hmm
    subst hmm
    unfold maxLen at hm
    have key : ∀ i, i < len → ∀ j f, fs[j]? = some f → ∃ q, w.cell? (a.add (i * sz + j)) = some q ∧ Fld enc P w base held f.type q := by
      intro i hi j f hfj
      obtain ⟨cs', h1, h2⟩ := hc i (by omega)
      rw [ce] at h1
      obtain ⟨_, hlen, hcell⟩ := World.cells?_some h1
      obtain ⟨xs, k, hk', hxy, _, hxl, hf'⟩ := DataW.trod_struct he h2
      have hj' : j < fs.size := (Array.getElem?_eq_some_iff.1 hfj).1
      obtain ⟨o1, o2⟩ := hone_of hone j _ hfj
      have g := hf' j _ hfj
      rw [o1, o2] at g
      have hjc : j < cs'.length := by omega
      have hd : (cs'.drop j).take 1 = [cs'[j]] := by rw [List.drop_eq_getElem_cons hjc]; rfl
      rw [hd, List.getElem?_eq_getElem (by omega)] at g
      have e0 := hcell j (by omega)
      rw [add_add, List.getElem?_eq_getElem hjc] at e0
      exact ⟨_, e0, _, _, g⟩
    obtain ⟨b, off, spot⟩ := a
    have hf0 : ∃ f, fs[0]? = some f := ⟨fs[0]'(by omega), Array.getElem?_eq_getElem (by omega)⟩
    obtain ⟨f0, hf0⟩ := hf0
    have hsp : 0 < len → spot = none := fun h0 => by
      obtain ⟨q, hq, _⟩ := key 0 h0 0 f0 hf0
      have := World.cell?_spot (by simpa [Addr.add] using hq)
      simpa using this
    refine ⟨_, len, m, b, off, hcs, hl, by omega, ?_, ?_, ?_⟩
    · intro h0
      rw [hsp h0]
    · intro h0
      obtain ⟨q, hq, _⟩ := key 0 h0 0 f0 hf0
      exact World.block_lt_of_cell? w _ (by simpa [Addr.add] using hq)
    · intro i hi j f hfj
      obtain ⟨q, hq, hx⟩ := key i hi j f hfj
      have := hsp (by omega)
      subst this
      rw [add_plain, ← Nat.add_assoc] at hq
      exact ⟨q, hq, hx⟩
theorem Fld.str {t : TypeId} {y : Value} (h : Fld enc P w base held t y) (ht : P.underlying t = some .string) : ∃ s : ByteArray, y = .string s ∧ s.size ≤ maxLen := by
  obtain ⟨n, x, h⟩ := h
  obtain ⟨s, hs, _, hl⟩ := DataW.trod_string ht h
  exact ⟨s, by simpa using hs, hl⟩
theorem Fld.int {t : TypeId} {k : IntKind} {y : Value} (h : Fld enc P w base held t y) (ht : P.underlying t = some (.int k)) : ∃ q, y = .int k q ∧ (Lit.int k q).wf = true := by
  obtain ⟨n, x, h⟩ := h
  exact one ht h
/-- A value that reads, as a cell. -/
theorem cell_of {t : TypeId} {v : Value} {d : DataW H} {p : List MemPlace} (h : DataW.Trod enc P w base (fun _ => true) held t v d p) (hv : v.cells = #[v]) : Fld enc P w base held t v := by
  obtain ⟨n, hn⟩ := h
  rw [hv] at hn
  exact ⟨n, _, hn⟩
end
end Go.Proofs.Ytbpjfhfibllhgaa.See

/- What a walk is told of the values of an argument that can be read: integers, structs and arrays of integers, slices of pairs of integers. Over any program. What a walk is told of an argument that can be read: slices of structs of integers, slices of integers, a struct of four integers. Over any program. What a walk is told of an argument that can be read: slices of structs whose fields are one cell each, slices inside. Over any program. A setup and a script as the statements' arguments; a slice's bytes are within the reach. Conditions: none. -/
import Derived.Test.YtmdajndmobpgbaaRows
import Derived.WalkKit
import Derived.ProofKit
import Derived.OpenShut
import Derived.ShutString
import Derived.ChangeOld
import Derived.Below
import Derived.Lib.SmallJoins
import Derived.Deep.SlicePairs
import Derived.Test.YtmdajndmobpgbaaZAdRunA
import Derived.SizedLaws
namespace Go.Proofs.Ytmdajndmobpgbaa.See
open Go.ChangeShapes Go.WideShapes Go.ChangeAt Go.RowKit Go.Deep

section
variable {H : Type} {enc : TypeId × Value → H} {P : Program} {w : World} {base : Nat} {spare : Nat → Bool} {held : Bool}

theorem int {r : Reach} {b0 : Nat} {t : TypeId} {k : IntKind} {v : Value} {d : DataW H} {ps : List MemPlace} (ht : P.underlying t = some (.int k)) (hval : Value.okWide P w r b0 t v) (hd : DataW.Trod enc P w base spare held t v d ps) :
    ∃ n, v = .int k n ∧ (Lit.int k n).wf = true := by
  obtain ⟨n, rfl, _, _, h⟩ := open_int ht hval hd
  exact ⟨n, rfl, h⟩

theorem one {t : TypeId} {k : IntKind} {v : Value} {n : Nat} {x : DataW H × List MemPlace} (ht : P.underlying t = some (.int k)) (h : DataW.trod enc P w base spare held n t [v] = some x) : ∃ q, v = .int k q ∧ (Lit.int k q).wf = true := by
  obtain ⟨q, hq, _, hw⟩ := DataW.trod_int ht h
  simp at hq
  exact ⟨q, hq, hw⟩

theorem agg3 {r : Reach} {b0 : Nat} {t : TypeId} {f0 f1 f2 : Field} {k0 k1 k2 : IntKind} {v : Value} {d : DataW H} {p : List MemPlace} (hs : P.underlying t = some (.struct #[f0, f1, f2])) (hone : oneCellFields P #[f0, f1, f2] = true) (hC : P.cellsOf t = 3)
    (h0 : P.underlying f0.type = some (.int k0)) (h1 : P.underlying f1.type = some (.int k1)) (h2 : P.underlying f2.type = some (.int k2))
    (hv : Value.okWide P w r b0 t v) (h : DataW.Trod enc P w base spare held t v d p) :
    ∃ a b c : Int, v = .agg #[.int k0 a, .int k1 b, .int k2 c] ∧ (Lit.int k0 a).wf = true ∧ (Lit.int k1 b).wf = true ∧ (Lit.int k2 c).wf = true := by
  obtain ⟨v0, v1, v2, y0, y1, y2, n, rfl, _, _, g0, g1, g2⟩ := Joins.open_agg3 hs hone hC hv h
  obtain ⟨a, rfl, wa⟩ := one h0 g0
  obtain ⟨b, rfl, wb⟩ := one h1 g1
  obtain ⟨c, rfl, wc⟩ := one h2 g2
  exact ⟨a, b, c, rfl, wa, wb, wc⟩

theorem pairs {r : Reach} {b0 : Nat} {t e : TypeId} {f0 f1 : Field} {k0 k1 : IntKind} {v : Value} {d : DataW H} {p : List MemPlace} (ht : P.underlying t = some (.slice e)) (he : P.underlying e = some (.struct #[f0, f1]))
    (ce : P.cellsOf e = 2) (o0 : f0.offset = 0) (o1 : f1.offset = 1) (c0 : P.cellsOf f0.type = 1) (c1 : P.cellsOf f1.type = 1) (h0 : P.underlying f0.type = some (.int k0)) (h1 : P.underlying f1.type = some (.int k1))
    (hv : Value.okWide P w r b0 t v) (h : DataW.Trod enc P w base (fun _ => true) held t v d p) :
    ∃ (ao : Option Addr) (len cap b off : Nat) (L N : Nat → Int), v = .slice ao len cap ∧ len ≤ cap ∧ cap ≤ 9223372036854775807 ∧ (0 < len → ao = some ⟨b, off, none⟩) ∧ (0 < len → b < w.heap.size) ∧
      (∀ i, i < len → w.cell? ⟨b, off + i * 2, none⟩ = some (.int k0 (L i)) ∧ w.cell? ⟨b, off + i * 2 + 1, none⟩ = some (.int k1 (N i)) ∧ (Lit.int k0 (L i)).wf = true ∧ (Lit.int k1 (N i)).wf = true) := by
  obtain ⟨ao, len, cap, rfl⟩ := okWide_slice ht hv
  obtain ⟨fuel, hf⟩ := h
  rcases open_slice_pairs ht he ce o0 o1 c0 c1 hf with ⟨hcs, _⟩ | ⟨a, len', cap', m, n, V0, V1, D0, D1, P0, P1, hcs, _, hl, hm, hmm, _, hc⟩
  · simp [Value.cells] at hcs
    obtain ⟨rfl, rfl, rfl⟩ := hcs
    exact ⟨none, 0, 0, 0, 0, fun _ => 0, fun _ => 0, rfl, by omega, by omega, by omega, by omega, fun i hi => by omega⟩
  · simp [Value.cells] at hcs
    obtain ⟨rfl, rfl, rfl⟩ := hcs
    simp at hmm
    subst hmm
    obtain ⟨b, off, spot⟩ := a
    unfold maxLen at hm
    refine ⟨_, len, m, b, off, fun i => intOf (V0 i), fun i => intOf (V1 i), rfl, hl, by omega, ?_, ?_, ?_⟩
    · intro h0
      have := World.cell?_spot (by simpa [Addr.add] using (hc 0 (by omega)).1)
      simp at this
      rw [this]
    · intro h0
      exact World.block_lt_of_cell? w _ (by simpa [Addr.add] using (hc 0 (by omega)).1)
    · intro i hi
      obtain ⟨q0, q1, q2, q3⟩ := hc i (by omega)
      have hsp : spot = none := by
        have := World.cell?_spot (by simpa [Addr.add] using (hc 0 (by omega)).1)
        simpa using this
      subst hsp
      obtain ⟨x, hx, wx⟩ := one h0 q2
      obtain ⟨y, hy, wy⟩ := one h1 q3
      rw [add_plain] at q0 q1
      rw [hx] at q0; rw [hy] at q1
      have ex : intOf (V0 i) = x := by rw [hx]; rfl
      have ey : intOf (V1 i) = y := by rw [hy]; rfl
      show _ = some (Value.int k0 (intOf (V0 i))) ∧ _ = some (Value.int k1 (intOf (V1 i))) ∧ (Lit.int k0 (intOf (V0 i))).wf = true ∧ (Lit.int k1 (intOf (V1 i))).wf = true
      rw [ex, ey]
      exact ⟨q0, by simpa [Nat.add_assoc] using q1, wx, wy⟩

theorem arr2 {r : Reach} {b0 : Nat} {t e : TypeId} {k : IntKind} {v : Value} {d : DataW H} {p : List MemPlace} (ht : P.underlying t = some (.array 2 e)) (he : P.underlying e = some (.int k)) (hC : P.cellsOf t = 2) (ce : P.cellsOf e = 1)
    (hv : Value.okWide P w r b0 t v) (h : DataW.Trod enc P w base spare held t v d p) :
    ∃ a b : Int, v = .agg #[.int k a, .int k b] ∧ (Lit.int k a).wf = true ∧ (Lit.int k b).wf = true := by
  obtain ⟨cs, rfl, hsz⟩ : ∃ cs, v = .agg cs ∧ cs.size = P.cellsOf t := by
    simp only [Value.okWide, ht] at hv
    cases v <;> simp_all
  rw [hC] at hsz
  obtain ⟨c0, c1, rfl⟩ : ∃ c0 c1, cs = #[c0, c1] := by
    match cs, hsz with
    | ⟨[x, y]⟩, _ => exact ⟨x, y, rfl⟩
  obtain ⟨fuel, hf⟩ := h
  obtain ⟨xs, m, _, _, _, hl, hx⟩ := DataW.trod_array ht hf
  have g0 := hx 0 (by omega)
  have g1 := hx 1 (by omega)
  match xs, hl with
  | [y0, y1], _ =>
    simp [Value.cells, ce] at g0 g1
    obtain ⟨a, rfl, wa⟩ := one he g0
    obtain ⟨b, rfl, wb⟩ := one he g1
    exact ⟨a, b, rfl, wa, wb⟩
end
end Go.Proofs.Ytmdajndmobpgbaa.See

namespace Go.Proofs.Ytmdajndmobpgbaa.See
open Go.ChangeShapes Go.WideShapes Go.ChangeAt Go.RowKit Go.Deep

section
variable {H : Type} {enc : TypeId × Value → H} {P : Program} {w : World} {base : Nat} {spare : Nat → Bool} {held : Bool}

theorem rows (sz : Nat) (h0sz : 0 < sz) (ks : Nat → IntKind) {r : Reach} {b0 : Nat} {t e : TypeId} {fs : Array Field} {v : Value} {d : DataW H} {p : List MemPlace} (ht : P.underlying t = some (.slice e)) (he : P.underlying e = some (.struct fs))
    (hone : oneCellFields P fs = true) (ce : P.cellsOf e = sz) (hsz : fs.size = sz) (hk : ∀ j f, fs[j]? = some f → P.underlying f.type = some (.int (ks j)))
    (hv : Value.okWide P w r b0 t v) (h : DataW.Trod enc P w base (fun _ => true) held t v d p) :
    ∃ (ao : Option Addr) (len cap b off : Nat) (X : Nat → Nat → Int), v = .slice ao len cap ∧ len ≤ cap ∧ cap ≤ 9223372036854775807 ∧ (0 < len → ao = some ⟨b, off, none⟩) ∧ (0 < len → b < w.heap.size) ∧
      (∀ i, i < len → ∀ j, j < sz → w.cell? ⟨b, off + i * sz + j, none⟩ = some (.int (ks j) (X i j)) ∧ (Lit.int (ks j) (X i j)).wf = true) := by
  obtain ⟨ao, len, cap, rfl⟩ := okWide_slice ht hv
  obtain ⟨fuel, hf⟩ := h
  rcases open_slice ht hf with ⟨hcs, _⟩ | ⟨a, len', cap', m, n, D, Pl, hcs, _, hl, hm, hmm, _, hc⟩
  · simp [Value.cells] at hcs
    obtain ⟨rfl, rfl, rfl⟩ := hcs
    exact ⟨none, 0, 0, 0, 0, fun _ _ => 0, rfl, by omega, by omega, by omega, by omega, fun i hi => by omega⟩
  · simp [Value.cells] at hcs
    obtain ⟨rfl, rfl, rfl⟩ := hcs
    simp at hmm
    subst hmm
    unfold maxLen at hm
    have key : ∀ i, i < len → ∀ j, j < sz → ∃ q, w.cell? (a.add (i * sz + j)) = some (.int (ks j) q) ∧ (Lit.int (ks j) q).wf = true := by
      intro i hi j hj
      obtain ⟨cs', h1, h2⟩ := hc i (by omega)
      rw [ce] at h1
      obtain ⟨_, hlen, hcell⟩ := World.cells?_some h1
      obtain ⟨xs, k, hk', hxy, _, hxl, hf'⟩ := DataW.trod_struct he h2
      have hj' : j < fs.size := by omega
      have hfj : fs[j]? = some fs[j] := Array.getElem?_eq_getElem hj'
      obtain ⟨o1, o2⟩ := hone_of hone j _ hfj
      have g := hf' j _ hfj
      rw [o1, o2] at g
      have hjc : j < cs'.length := by omega
      have hd : (cs'.drop j).take 1 = [cs'[j]] := by rw [List.drop_eq_getElem_cons hjc]; rfl
      rw [hd, List.getElem?_eq_getElem (by omega)] at g
      obtain ⟨q, hq, wq⟩ := one (hk j _ hfj) g
      have e0 := hcell j hj
      rw [add_add, List.getElem?_eq_getElem hjc, hq] at e0
      exact ⟨q, e0, wq⟩
    obtain ⟨b, off, spot⟩ := a
    have hsp : 0 < sz → 0 < len → spot = none := fun hs h0 => by
      obtain ⟨q, hq, _⟩ := key 0 h0 0 hs
      have := World.cell?_spot (by simpa [Addr.add] using hq)
      simpa using this
    refine ⟨_, len, m, b, off, fun i j => intOf ((w.cell? ⟨b, off + i * sz + j, none⟩).getD default), rfl, hl, by omega, ?_, ?_, ?_⟩
    · intro h0
      rw [hsp h0sz h0]
    · intro h0
      obtain ⟨q, hq, _⟩ := key 0 h0 0 h0sz
      exact World.block_lt_of_cell? w _ (by simpa [Addr.add] using hq)
    · intro i hi j hj
      obtain ⟨q, hq, wq⟩ := key i hi j hj
      have := hsp (by omega) (by omega)
      subst this
      rw [add_plain, ← Nat.add_assoc] at hq
      have e : intOf ((w.cell? ⟨b, off + i * sz + j, none⟩).getD default) = q := by rw [hq]; rfl
      show _ = some (Value.int (ks j) (intOf _)) ∧ (Lit.int (ks j) (intOf _)).wf = true
      rw [e]
      exact ⟨hq, wq⟩

theorem nums {r : Reach} {b0 : Nat} {t e : TypeId} {k : IntKind} {v : Value} {d : DataW H} {p : List MemPlace} (ht : P.underlying t = some (.slice e)) (he : P.underlying e = some (.int k)) (ce : P.cellsOf e = 1)
    (hv : Value.okWide P w r b0 t v) (h : DataW.Trod enc P w base (fun _ => true) held t v d p) :
    ∃ (ao : Option Addr) (len cap b off : Nat) (X : Nat → Int), v = .slice ao len cap ∧ len ≤ cap ∧ cap ≤ 9223372036854775807 ∧ (0 < len → ao = some ⟨b, off, none⟩) ∧ (0 < len → b < w.heap.size) ∧
      (∀ i, i < len → w.cell? ⟨b, off + i, none⟩ = some (.int k (X i)) ∧ (Lit.int k (X i)).wf = true) := by
  obtain ⟨ao, len, cap, rfl⟩ := okWide_slice ht hv
  obtain ⟨fuel, hf⟩ := h
  rcases open_slice ht hf with ⟨hcs, _⟩ | ⟨a, len', cap', m, n, D, Pl, hcs, _, hl, hm, hmm, _, hc⟩
  · simp [Value.cells] at hcs
    obtain ⟨rfl, rfl, rfl⟩ := hcs
    exact ⟨none, 0, 0, 0, 0, fun _ => 0, rfl, by omega, by omega, by omega, by omega, fun i hi => by omega⟩
  · simp [Value.cells] at hcs
    obtain ⟨rfl, rfl, rfl⟩ := hcs
    simp at hmm
    subst hmm
    unfold maxLen at hm
    have key : ∀ i, i < len → ∃ q, w.cell? (a.add i) = some (.int k q) ∧ (Lit.int k q).wf = true := by
      intro i hi
      obtain ⟨cs', h1, h2⟩ := hc i (by omega)
      rw [ce, Nat.mul_one] at h1
      obtain ⟨_, hlen, hcell⟩ := World.cells?_some h1
      match cs', hlen with
      | [y], _ =>
        obtain ⟨q, hq, wq⟩ := one he h2
        have e0 := hcell 0 (by omega)
        rw [add_add] at e0
        simp [hq] at e0
        exact ⟨q, e0, wq⟩
    obtain ⟨b, off, spot⟩ := a
    have hsp : 0 < len → spot = none := fun h0 => by
      obtain ⟨q, hq, _⟩ := key 0 h0
      have := World.cell?_spot (by simpa [Addr.add] using hq)
      simpa using this
    refine ⟨_, len, m, b, off, fun i => intOf ((w.cell? ⟨b, off + i, none⟩).getD default), rfl, hl, by omega, fun h0 => by rw [hsp h0], ?_, ?_⟩
    · intro h0
      obtain ⟨q, hq, _⟩ := key 0 h0
      exact World.block_lt_of_cell? w _ (by simpa [Addr.add] using hq)
    · intro i hi
      obtain ⟨q, hq, wq⟩ := key i hi
      have := hsp (by omega)
      subst this
      rw [add_plain] at hq
      have e : intOf ((w.cell? ⟨b, off + i, none⟩).getD default) = q := by rw [hq]; rfl
      show _ = some (Value.int k (intOf _)) ∧ (Lit.int k (intOf _)).wf = true
      rw [e]
      exact ⟨hq, wq⟩

theorem agg2 {r : Reach} {b0 : Nat} {t : TypeId} {f0 f1 : Field} {k0 k1 : IntKind} {v : Value} {d : DataW H} {p : List MemPlace} (hs : P.underlying t = some (.struct #[f0, f1])) (hone : oneCellFields P #[f0, f1] = true) (hC : P.cellsOf t = 2)
    (h0 : P.underlying f0.type = some (.int k0)) (h1 : P.underlying f1.type = some (.int k1)) (hv : Value.okWide P w r b0 t v) (h : DataW.Trod enc P w base spare held t v d p) :
    ∃ a b : Int, v = .agg #[.int k0 a, .int k1 b] ∧ (Lit.int k0 a).wf = true ∧ (Lit.int k1 b).wf = true := by
  obtain ⟨v0, v1, y0, y1, n, rfl, _, _, g0, g1⟩ := Joins.open_agg2 hs hone hC hv h
  obtain ⟨a, rfl, wa⟩ := one h0 g0
  obtain ⟨b, rfl, wb⟩ := one h1 g1
  exact ⟨a, b, rfl, wa, wb⟩
theorem agg4 {r : Reach} {b0 : Nat} {t : TypeId} {f0 f1 f2 f3 : Field} {k0 k1 k2 k3 : IntKind} {v : Value} {d : DataW H} {p : List MemPlace} (hs : P.underlying t = some (.struct #[f0, f1, f2, f3])) (hone : oneCellFields P #[f0, f1, f2, f3] = true) (hC : P.cellsOf t = 4)
    (h0 : P.underlying f0.type = some (.int k0)) (h1 : P.underlying f1.type = some (.int k1)) (h2 : P.underlying f2.type = some (.int k2)) (h3 : P.underlying f3.type = some (.int k3))
    (hv : Value.okWide P w r b0 t v) (h : DataW.Trod enc P w base spare held t v d p) :
    ∃ a b c e : Int, v = .agg #[.int k0 a, .int k1 b, .int k2 c, .int k3 e] := by
  obtain ⟨v0, v1, v2, v3, y0, y1, y2, y3, n, rfl, _, _, g0, g1, g2, g3⟩ := Joins.open_agg4 hs hone hC hv h
  obtain ⟨a, rfl, _⟩ := one h0 g0
  obtain ⟨b, rfl, _⟩ := one h1 g1
  obtain ⟨c, rfl, _⟩ := one h2 g2
  obtain ⟨e, rfl, _⟩ := one h3 g3
  exact ⟨a, b, c, e, rfl⟩
theorem agg4w {r : Reach} {b0 : Nat} {t : TypeId} {f0 f1 f2 f3 : Field} {k0 k1 k2 k3 : IntKind} {v : Value} {d : DataW H} {p : List MemPlace} (hs : P.underlying t = some (.struct #[f0, f1, f2, f3])) (hone : oneCellFields P #[f0, f1, f2, f3] = true) (hC : P.cellsOf t = 4)
    (h0 : P.underlying f0.type = some (.int k0)) (h1 : P.underlying f1.type = some (.int k1)) (h2 : P.underlying f2.type = some (.int k2)) (h3 : P.underlying f3.type = some (.int k3))
    (hv : Value.okWide P w r b0 t v) (h : DataW.Trod enc P w base spare held t v d p) :
    ∃ a b c e : Int, v = .agg #[.int k0 a, .int k1 b, .int k2 c, .int k3 e] ∧ (Lit.int k0 a).wf = true ∧ (Lit.int k1 b).wf = true ∧ (Lit.int k2 c).wf = true := by
  obtain ⟨v0, v1, v2, v3, y0, y1, y2, y3, n, rfl, _, _, g0, g1, g2, g3⟩ := Joins.open_agg4 hs hone hC hv h
  obtain ⟨a, rfl, wa⟩ := one h0 g0
  obtain ⟨b, rfl, wb⟩ := one h1 g1
  obtain ⟨c, rfl, wc⟩ := one h2 g2
  obtain ⟨e, rfl, _⟩ := one h3 g3
  exact ⟨a, b, c, e, rfl, wa, wb, wc⟩
end
end Go.Proofs.Ytmdajndmobpgbaa.See

namespace Go.Proofs.Ytmdajndmobpgbaa.See
open Go.ChangeShapes Go.WideShapes Go.ChangeAt Go.RowKit Go.Deep

section
variable {H : Type} {enc : TypeId × Value → H} {P : Program} {w : World} {base : Nat} {held : Bool}

/-- A slice of integers, as a cell. -/
theorem nums1 {t e : TypeId} {k : IntKind} {y : Value} {fuel : Nat} {x : DataW H × List MemPlace} (ht : P.underlying t = some (.slice e)) (he : P.underlying e = some (.int k)) (ce : P.cellsOf e = 1)
    (hf : DataW.trod enc P w base (fun _ => true) held fuel t [y] = some x) :
    ∃ (ao : Option Addr) (len cap b off : Nat) (X : Nat → Int), y = .slice ao len cap ∧ len ≤ cap ∧ cap ≤ 9223372036854775807 ∧ (0 < len → ao = some ⟨b, off, none⟩) ∧ (0 < len → b < w.heap.size) ∧
      (∀ i, i < len → w.cell? ⟨b, off + i, none⟩ = some (.int k (X i)) ∧ (Lit.int k (X i)).wf = true) := by
  rcases open_slice ht hf with ⟨hcs, _⟩ | ⟨a, len, cap, m, n, D, Pl, hcs, _, hl, hm, hmm, _, hc⟩
  · simp at hcs
    exact ⟨none, 0, 0, 0, 0, fun _ => 0, hcs, by omega, by omega, by omega, by omega, fun i hi => by omega⟩
  · simp at hcs
    simp at hmm
    subst hmm
    unfold maxLen at hm
    have key : ∀ i, i < len → ∃ q, w.cell? (a.add i) = some (.int k q) ∧ (Lit.int k q).wf = true := by
      intro i hi
      obtain ⟨cs', h1, h2⟩ := hc i (by omega)
      rw [ce, Nat.mul_one] at h1
      obtain ⟨_, hlen, hcell⟩ := World.cells?_some h1
      match cs', hlen with
      | [y], _ =>
        obtain ⟨q, hq, wq⟩ := one he h2
        have e0 := hcell 0 (by omega)
        rw [add_add] at e0
        simp [hq] at e0
        exact ⟨q, e0, wq⟩
    obtain ⟨b, off, spot⟩ := a
    have hsp : 0 < len → spot = none := fun h0 => by
      obtain ⟨q, hq, _⟩ := key 0 h0
      have := World.cell?_spot (by simpa [Addr.add] using hq)
      simpa using this
    refine ⟨_, len, m, b, off, fun i => intOf ((w.cell? ⟨b, off + i, none⟩).getD default), hcs, hl, by omega, fun h0 => by rw [hsp h0], ?_, ?_⟩
    · intro h0
      obtain ⟨q, hq, _⟩ := key 0 h0
      exact World.block_lt_of_cell? w _ (by simpa [Addr.add] using hq)
    · intro i hi
      obtain ⟨q, hq, wq⟩ := key i hi
      have := hsp (by omega)
      subst this
      rw [add_plain] at hq
      have e : intOf ((w.cell? ⟨b, off + i, none⟩).getD default) = q := by rw [hq]; rfl
      show _ = some (Value.int k (intOf _)) ∧ (Lit.int k (intOf _)).wf = true
      rw [e]
      exact ⟨hq, wq⟩
/-- What is known of a cell that reads as a field. -/
def Fld (enc : TypeId × Value → H) (P : Program) (w : World) (base : Nat) (held : Bool) (t : TypeId) (y : Value) : Prop := ∃ n x, DataW.trod enc P w base (fun _ => true) held n t [y] = some x
/-- A slice of structs whose fields are one cell each. -/
theorem recs (sz : Nat) (h0sz : 0 < sz) {t e : TypeId} {fs : Array Field} {y : Value} {fuel : Nat} {x : DataW H × List MemPlace} (ht : P.underlying t = some (.slice e)) (he : P.underlying e = some (.struct fs))
    (hone : oneCellFields P fs = true) (ce : P.cellsOf e = sz) (hsz : fs.size = sz) (hf : DataW.trod enc P w base (fun _ => true) held fuel t [y] = some x) :
    ∃ (ao : Option Addr) (len cap b off : Nat), y = .slice ao len cap ∧ len ≤ cap ∧ cap ≤ 9223372036854775807 ∧ (0 < len → ao = some ⟨b, off, none⟩) ∧ (0 < len → b < w.heap.size) ∧
      (∀ i, i < len → ∀ j f, fs[j]? = some f → ∃ q, w.cell? ⟨b, off + i * sz + j, none⟩ = some q ∧ Fld enc P w base held f.type q) := by
  rcases open_slice ht hf with ⟨hcs, _⟩ | ⟨a, len, cap, m, n, D, Pl, hcs, _, hl, hm, hmm, _, hc⟩
  · simp at hcs
    exact ⟨none, 0, 0, 0, 0, hcs, by omega, by omega, by omega, by omega, fun i hi => by omega⟩
  · simp at hcs
    simp at hmm
    subst hmm
    unfold maxLen at hm
    have key : ∀ i, i < len → ∀ j f, fs[j]? = some f → ∃ q, w.cell? (a.add (i * sz + j)) = some q ∧ Fld enc P w base held f.type q := by
      intro i hi j f hfj
      obtain ⟨cs', h1, h2⟩ := hc i (by omega)
      rw [ce] at h1
      obtain ⟨_, hlen, hcell⟩ := World.cells?_some h1
      obtain ⟨xs, k, hk', hxy, _, hxl, hf'⟩ := DataW.trod_struct he h2
      have hj' : j < fs.size := (Array.getElem?_eq_some_iff.1 hfj).1
      obtain ⟨o1, o2⟩ := hone_of hone j _ hfj
      have g := hf' j _ hfj
      rw [o1, o2] at g
      have hjc : j < cs'.length := by omega
      have hd : (cs'.drop j).take 1 = [cs'[j]] := by rw [List.drop_eq_getElem_cons hjc]; rfl
      rw [hd, List.getElem?_eq_getElem (by omega)] at g
      have e0 := hcell j (by omega)
      rw [add_add, List.getElem?_eq_getElem hjc] at e0
      exact ⟨_, e0, _, _, g⟩
    obtain ⟨b, off, spot⟩ := a
    have hf0 : ∃ f, fs[0]? = some f := ⟨fs[0]'(by omega), Array.getElem?_eq_getElem (by omega)⟩
    obtain ⟨f0, hf0⟩ := hf0
    have hsp : 0 < len → spot = none := fun h0 => by
      obtain ⟨q, hq, _⟩ := key 0 h0 0 f0 hf0
      have := World.cell?_spot (by simpa [Addr.add] using hq)
      simpa using this
    refine ⟨_, len, m, b, off, hcs, hl, by omega, ?_, ?_, ?_⟩
    · intro h0
      rw [hsp h0]
    · intro h0
      obtain ⟨q, hq, _⟩ := key 0 h0 0 f0 hf0
      exact World.block_lt_of_cell? w _ (by simpa [Addr.add] using hq)
    · intro i hi j f hfj
      obtain ⟨q, hq, hx⟩ := key i hi j f hfj
      have := hsp (by omega)
      subst this
      rw [add_plain, ← Nat.add_assoc] at hq
      exact ⟨q, hq, hx⟩
theorem Fld.str {t : TypeId} {y : Value} (h : Fld enc P w base held t y) (ht : P.underlying t = some .string) : ∃ s : ByteArray, y = .string s ∧ s.size ≤ maxLen := by
  obtain ⟨n, x, h⟩ := h
  obtain ⟨s, hs, _, hl⟩ := DataW.trod_string ht h
  exact ⟨s, by simpa using hs, hl⟩
theorem Fld.int {t : TypeId} {k : IntKind} {y : Value} (h : Fld enc P w base held t y) (ht : P.underlying t = some (.int k)) : ∃ q, y = .int k q ∧ (Lit.int k q).wf = true := by
  obtain ⟨n, x, h⟩ := h
  exact one ht h
/-- A value that reads, as a cell. -/
theorem cell_of {t : TypeId} {v : Value} {d : DataW H} {p : List MemPlace} (h : DataW.Trod enc P w base (fun _ => true) held t v d p) (hv : v.cells = #[v]) : Fld enc P w base held t v := by
  obtain ⟨n, hn⟩ := h
  rw [hv] at hn
  exact ⟨n, _, hn⟩
end
end Go.Proofs.Ytmdajndmobpgbaa.See

namespace Go.Proofs.Ytmdajndmobpgbaa
open Go.ChangeShapes Go.WideShapes Go.ChangeAt Go.RowKit Go.Deep
section
variable {H : Type} {enc : TypeId × Value → H} {W : World} {base : Nat} {held : Bool}
theorem sized_len {ts : List TypeId} {ds : List (DataW H)} (hsz : (DataW.weightsEach Try.prog ts ds).all (· ≤ reachBytes) = true) {j : Nat} {t e : TypeId} {d : DataW H} {ao : Option Addr} {n c : Nat} {p : List MemPlace} (ht : ts[j]? = some t) (hd : ds[j]? = some d) (hu : Try.prog.underlying t = some (.slice e))
    (h : DataW.Trod enc Try.prog W base (fun _ => true) held t (.slice ao n c) d p) : n * Try.prog.bytesOf e ≤ reachBytes := by
  obtain ⟨fuel, hf⟩ := h
  rcases open_slice hu hf with ⟨hcs, hx⟩ | ⟨a, len, cap, m, k, D, Pl, hcs, _, hl, hm, hmm, hx, _⟩
  · simp [Value.cells] at hcs
    obtain ⟨rfl, rfl, rfl⟩ := hcs
    omega
  · simp [Value.cells] at hcs
    obtain ⟨rfl, rfl, rfl⟩ := hcs
    simp only [Prod.mk.injEq] at hx
    obtain ⟨rfl, _⟩ := hx
    have := sized_slice hsz ht hd hu
    simp only [List.length_map, List.length_range] at this
    exact Nat.le_trans (Nat.mul_le_mul_right _ (Nat.le_add_right _ _)) this
theorem scK_of {fs : Array Field} (hs : Try.prog.underlying 63 = some (.struct fs)) : ∀ j f, fs[j]? = some f → Try.prog.underlying f.type = some (.int (scK j)) := by
  have e := (Option.some.inj (hs.symm.trans Try.underlying63))
  simp only [TypeDesc.struct.injEq] at e
  subst e
  intro j f hf
  match j, hf with
  | 0, hf => cases hf; exact Try.underlying5
  | 1, hf => cases hf; exact Try.underlying61
  | 2, hf => cases hf; exact Try.underlying3
  | 3, hf => cases hf; exact Try.underlying3
  | 4, hf => cases hf; exact Try.underlying3
set_option maxRecDepth 100000 in
theorem setup_of {r : Reach} {b0 : Nat} {v : Value} {d : DataW H} {p : List MemPlace} (hv : Value.okWide Try.prog W r b0 48 v) (h : DataW.Trod enc Try.prog W base (fun _ => true) held 48 v d p) :
    ∃ (ao : Option Addr) (n c b off : Nat) (slots : Int) (X : Nat → Nat → Int), v = setupV ao n c slots ∧ n ≤ 9223372036854775807 ∧ IsSh W ao n b off X := by
  obtain ⟨cs, rfl, hsz⟩ := okWide_struct Try.underlying48 hv
  rw [show Try.prog.cellsOf 48 = 2 by kernel_rfl] at hsz
  obtain ⟨c0, c1, rfl⟩ : ∃ c0 c1, cs = #[c0, c1] := by
    obtain ⟨l⟩ := cs
    match l, hsz with
    | [a, b], _ => exact ⟨a, b, rfl⟩
  obtain ⟨fuel, hf⟩ := h
  obtain ⟨xs, n, _, _, hl, hlen, hx⟩ := DataW.trod_struct Try.underlying48 hf
  match xs, hlen with
  | [y0, y1], _ =>
    have g0 := hx 0 _ rfl
    have g1 := hx 1 _ rfl
    have k1 : Try.prog.cellsOf 46 = 1 := by kernel_rfl
    have k3 : Try.prog.cellsOf 3 = 1 := by kernel_rfl
    simp [Value.cells, k1, k3] at g0 g1
    obtain ⟨a1, rfl, w1⟩ := See.one Try.underlying3 g1
    obtain ⟨ao, n, c, b, off, rfl, hnc, hc, hao, hlt, hr⟩ := See.recs 4 (by omega) Try.underlying46 Try.underlying77 (by kernel_rfl) (by kernel_rfl) rfl g0
    have key : ∀ i, i < n → ∀ j, j < 4 → ∃ q, W.cell? ⟨b, off + i * 4 + j, none⟩ = some (.int .i64 q) ∧ (Lit.int .i64 q).wf = true := by
      intro i hi j hj
      match j, hj with
      | 0, _ => obtain ⟨q, e, g⟩ := hr i hi 0 _ rfl; obtain ⟨z, rfl, wz⟩ := See.Fld.int g Try.underlying3; exact ⟨z, e, wz⟩
      | 1, _ => obtain ⟨q, e, g⟩ := hr i hi 1 _ rfl; obtain ⟨z, rfl, wz⟩ := See.Fld.int g Try.underlying3; exact ⟨z, e, wz⟩
      | 2, _ => obtain ⟨q, e, g⟩ := hr i hi 2 _ rfl; obtain ⟨z, rfl, wz⟩ := See.Fld.int g Try.underlying3; exact ⟨z, e, wz⟩
      | 3, _ => obtain ⟨q, e, g⟩ := hr i hi 3 _ rfl; obtain ⟨z, rfl, wz⟩ := See.Fld.int g Try.underlying3; exact ⟨z, e, wz⟩
    refine ⟨ao, n, c, b, off, a1, fun i j => intOf ((W.cell? ⟨b, off + i * 4 + j, none⟩).getD default), rfl, by omega, hao, hlt, fun i hi j hj => ?_⟩
    obtain ⟨q, e, wq⟩ := key i hi j hj
    rw [e]
    exact ⟨rfl, wq⟩
end
end Go.Proofs.Ytmdajndmobpgbaa

/- For walks of a document's functions, in any program: fresh appends, a cell set, results that lie in a cell. Conditions: none. -/
import Derived.Test.YtbpjfhfibllhgaaKit
import Derived.Laws.ResultCell
namespace Go.Proofs.Ytbpjfhfibllhgaa
open Go.RowKit

theorem OL.setCell {w : World} {e : TypeId} {size : Nat} {g off n cap : Nat} {xs : List Value} (h : OL w e size (.slice (some ⟨g, off, none⟩) n cap) n xs) (j : Nat) (hj : j < n * size) (u : Value) :
    OL (w.setCell ⟨g, off + j, none⟩ u) e size (.slice (some ⟨g, off, none⟩) n cap) n (xs.set j u) := by
  rcases h.2 with ⟨h', _⟩ | ⟨g', off', cap', cur, h', hg, hnc, hcm, hsz, ht⟩
  · simp at h'
  · simp only [Value.slice.injEq, Option.some.injEq, Addr.mk.injEq, and_true, true_and] at h'
    obtain ⟨⟨rfl, rfl⟩, rfl⟩ := h'
    have hle : n * size ≤ cap * size := Nat.mul_le_mul_right _ hnc
    refine ⟨by rw [List.length_set]; exact h.1, .inr ⟨g, off, cap, _, rfl, setCell_heap_self hg, hnc, hcm, by simpa using hsz, ?_⟩⟩
    rw [← ht]
    apply List.ext_getElem?
    intro i
    simp only [List.getElem?_take, List.getElem?_drop, List.getElem?_set, Array.toList_setIfInBounds, List.length_take, List.length_drop, Array.length_toList]
    by_cases hi : i < n * size
    · rw [if_pos hi, if_pos hi]
      by_cases e1 : j = i
      · subst e1
        rw [if_pos rfl, if_pos rfl, if_pos (by omega), if_pos (by omega)]
      · rw [if_neg (by omega), if_neg e1]
    · rw [if_neg hi]
      rw [if_neg (by omega), if_neg hi]
/-- append([]T{}, v...), the empty slice in block g. -/
theorem app_fresh {P : Program} {w : World} {e : TypeId} {size : Nat} {v : Value} {n : Nat} {xs : List Value} {g : Nat} (t : TypeId) (z : Value) (bytes : Nat) (ht : P.underlying t = some (.slice e)) (hinfo : (P.info? e).map (fun i => (i.zero, i.size, i.bytes)) = some (some z, size, bytes))
    (hzs : z.cells.size = size) (hsz : 0 < size) (hg : w.heap[g]? = some (.cells #[] e (0, 0))) (hs : Src P size t v n xs w) (h63 : n ≤ maxLen) (hbytes : n * bytes ≤ 140737488355328) :
    ∃ ao cap w', (Builtin.append_ #[t, t] t #[.slice (some ⟨g, 0, none⟩) 0 0, v]).run P w = .ok (.slice ao n cap) w' ∧
      OL w' e size (.slice ao n cap) n xs ∧ ((Value.slice ao n cap).ownBlock = some g ∨ (Value.slice ao n cap).ownBlock = some w.heap.size) ∧ Below w.heap.size w w' := by
  obtain ⟨i, hi, iz, is, ib⟩ := info_parts hinfo
  by_cases hn : n = 0
  · subst hn
    have hx : xs = [] := List.eq_nil_of_length_eq_zero (by simpa using hs.newsLen)
    subst hx
    subst is
    have hr := run_append_room_src (P := P) w t t t e i ht hi g 0 0 0 v 0 [] hs (by omega) (fun j hj => by simp at hj) (fun j hj => by simp at hj)
    exact ⟨some ⟨g, 0, none⟩, 0, _, hr, OL.of_block (cs := []) hg (by simp) (by simp [maxLen]), .inl rfl, Below.refl _ _⟩
  · subst is
    have hr := run_append_grow_src (P := P) w t t t e i z ht hi iz (some ⟨g, 0, none⟩) 0 0 [] (run_firstCells_some w.drew i.size 0 ⟨g, 0, none⟩ 0 0 [] (by simp) (fun j u h => by simp at h)) v n xs hs (by omega) (by unfold maxLen at h63; omega) (growslice_fits (by omega) (by rw [ib, Nat.zero_add]; exact hbytes))
    rw [Nat.zero_add, List.nil_append] at hr
    have hge := grownCap_ge w n 0 e
    have hcm : grownCap w n 0 e ≤ maxLen := grownCap_le_maxLen w n 0 e h63
    refine ⟨_, _, _, hr, ⟨hs.newsLen, .inr ⟨w.heap.size, 0, _, _, rfl, heap_alloc_new w.drew _, hge, hcm, ?_, ?_⟩⟩, .inr rfl, ⟨rfl, rfl, rfl, by simp, fun k hk => Below.heap_alloc w.drew _ k hk⟩⟩
    · simp only [Array.size_append, List.size_toArray, size_zeroCells, hzs, hs.newsLen, ← Nat.add_mul, Nat.zero_add]
      exact Nat.le_of_eq (by congr 1; omega)
    · simp only [Array.toList_append, List.drop_zero]
      rw [← hs.newsLen]
      exact List.take_left
section
variable {w w' : World} {v : Value}
theorem OL.shape {e : TypeId} {size n : Nat} {xs : List Value} (h : OL w e size v n xs) : ∃ ao cap, v = .slice ao n cap ∧ n ≤ cap ∧ cap ≤ 9223372036854775807 ∧ (0 < n → ∃ g off, ao = some ⟨g, off, none⟩) := by
  rcases OL.forms h with ⟨e, e0⟩ | ⟨g, off, cap, e, h1, h2, h3⟩
  · exact ⟨none, 0, by rw [e, e0], by omega, by omega, by omega⟩
  · exact ⟨_, cap, e, h1, by unfold maxLen at h2; omega, fun _ => ⟨g, off, rfl⟩⟩
theorem OL.bel {e : TypeId} {size n : Nat} {xs : List Value} (h : OL w e size v n xs) (hb : Below w.heap.size w w') : OL w' e size v n xs := OL.below h hb fun g hg => OL.lt h g hg
end
theorem results_cell2 {P : Program} {fn : Func} {p u : Tmp} {ty : TypeId} (h : fn.results = #[.cell p ty, .tmp u]) (tmps : Array Value) (w : World) (g : Nat) (t : TypeId) (cs : Array Value) (fr : Nat × Nat) (d : TypeDesc)
    (hp : tmps.getD p undef = .pointer (some ⟨g, 0, none⟩)) (hg : w.heap[g]? = some (.cells cs t fr))
    (hu : P.underlying ty = some d) (hd : (match d with | .struct _ | .array _ _ => true | _ => false) = true) (hi : (P.info? ty).map (·.size) = some cs.size) :
    (results fn tmps).run P w = .ok (.tuple #[.agg cs, tmps.getD u undef]) w := by
  rw [results_cell_tmp h, hp]
  simp [asAddr, run_loadVar_row w g t ty cs fr d hg hu hd hi, Result.andThen]
theorem results_cell4 {P : Program} {fn : Func} {p u v x : Tmp} {ty : TypeId} (h : fn.results = #[.cell p ty, .tmp u, .tmp v, .tmp x]) (tmps : Array Value) (w : World) (g : Nat) (t : TypeId) (cs : Array Value) (fr : Nat × Nat) (d : TypeDesc)
    (hp : tmps.getD p undef = .pointer (some ⟨g, 0, none⟩)) (hg : w.heap[g]? = some (.cells cs t fr))
    (hu : P.underlying ty = some d) (hd : (match d with | .struct _ | .array _ _ => true | _ => false) = true) (hi : (P.info? ty).map (·.size) = some cs.size) :
    (results fn tmps).run P w = .ok (.tuple #[.agg cs, tmps.getD u undef, tmps.getD v undef, tmps.getD x undef]) w := by
  have hp' : tmps[p]?.getD undef = .pointer (some ⟨g, 0, none⟩) := by simpa using hp
  simp [results, h, hp', asAddr, run_loadVar_row w g t ty cs fr d hg hu hd hi]
/-- A row of 2 cells is set anew. -/
theorem set_row2 {w : World} {rb : Nat} {t : TypeId} {a0 a1 : Value} (h : w.heap[rb]? = some (.cells #[a0, a1] t (0, 0))) (x0 x1 : Value) :
    ((w.setCell ⟨rb, 0, none⟩ x0).setCell ⟨rb, 1, none⟩ x1).heap[rb]? = some (.cells #[x0, x1] t (0, 0)) ∧
    (∀ k, k ≠ rb → ((w.setCell ⟨rb, 0, none⟩ x0).setCell ⟨rb, 1, none⟩ x1).heap[k]? = w.heap[k]?) ∧
    ∀ B w0, B ≤ rb → Below B w0 w → Below B w0 ((w.setCell ⟨rb, 0, none⟩ x0).setCell ⟨rb, 1, none⟩ x1) := by
  refine ⟨?_, fun k hk => ?_, fun B w0 hB hb => ?_⟩
  · exact setCell_heap_self (o := 1) (u := x1) (setCell_heap_self (o := 0) (u := x0) h)
  · rw [Below.heap_setCell _ _ _ _ hk, Below.heap_setCell _ _ _ _ hk]
  · exact (hb.setCell hB _).setCell hB _
/-- What a walk wants of a row of 2 cells. -/
theorem get_row2 {wx : World} {rb : Nat} {t : TypeId} {a0 a1 : Value} (h : wx.heap[rb]? = some (.cells #[a0, a1] t (0, 0))) : (wx.cell? ⟨rb, 0, none⟩ = some a0 ∧ wx.cell? ⟨rb, 1, none⟩ = some a1) ∧ wx.frozen? ⟨rb, 0, none⟩ = false ∧ wx.frozen? ⟨rb, 1, none⟩ = false :=
  ⟨⟨(has_cell h 0).trans rfl, (has_cell h 1).trans rfl⟩, has_free h 0, has_free h 1⟩
/-- A row of 3 cells is set anew. -/
theorem set_row3 {w : World} {rb : Nat} {t : TypeId} {a0 a1 a2 : Value} (h : w.heap[rb]? = some (.cells #[a0, a1, a2] t (0, 0))) (x0 x1 x2 : Value) :
    (((w.setCell ⟨rb, 0, none⟩ x0).setCell ⟨rb, 1, none⟩ x1).setCell ⟨rb, 2, none⟩ x2).heap[rb]? = some (.cells #[x0, x1, x2] t (0, 0)) ∧
    (∀ k, k ≠ rb → (((w.setCell ⟨rb, 0, none⟩ x0).setCell ⟨rb, 1, none⟩ x1).setCell ⟨rb, 2, none⟩ x2).heap[k]? = w.heap[k]?) ∧
    ∀ B w0, B ≤ rb → Below B w0 w → Below B w0 (((w.setCell ⟨rb, 0, none⟩ x0).setCell ⟨rb, 1, none⟩ x1).setCell ⟨rb, 2, none⟩ x2) := by
  refine ⟨?_, fun k hk => ?_, fun B w0 hB hb => ?_⟩
  · exact setCell_heap_self (o := 2) (u := x2) (setCell_heap_self (o := 1) (u := x1) (setCell_heap_self (o := 0) (u := x0) h))
  · rw [Below.heap_setCell _ _ _ _ hk, Below.heap_setCell _ _ _ _ hk, Below.heap_setCell _ _ _ _ hk]
  · exact ((hb.setCell hB _).setCell hB _).setCell hB _
/-- What a walk wants of a row of 3 cells. -/
theorem get_row3 {wx : World} {rb : Nat} {t : TypeId} {a0 a1 a2 : Value} (h : wx.heap[rb]? = some (.cells #[a0, a1, a2] t (0, 0))) : (wx.cell? ⟨rb, 0, none⟩ = some a0 ∧ wx.cell? ⟨rb, 1, none⟩ = some a1 ∧ wx.cell? ⟨rb, 2, none⟩ = some a2) ∧ wx.frozen? ⟨rb, 0, none⟩ = false ∧ wx.frozen? ⟨rb, 1, none⟩ = false ∧ wx.frozen? ⟨rb, 2, none⟩ = false :=
  ⟨⟨(has_cell h 0).trans rfl, (has_cell h 1).trans rfl, (has_cell h 2).trans rfl⟩, has_free h 0, has_free h 1, has_free h 2⟩
/-- A row of 4 cells is set anew. -/
theorem set_row4 {w : World} {rb : Nat} {t : TypeId} {a0 a1 a2 a3 : Value} (h : w.heap[rb]? = some (.cells #[a0, a1, a2, a3] t (0, 0))) (x0 x1 x2 x3 : Value) :
    ((((w.setCell ⟨rb, 0, none⟩ x0).setCell ⟨rb, 1, none⟩ x1).setCell ⟨rb, 2, none⟩ x2).setCell ⟨rb, 3, none⟩ x3).heap[rb]? = some (.cells #[x0, x1, x2, x3] t (0, 0)) ∧
    (∀ k, k ≠ rb → ((((w.setCell ⟨rb, 0, none⟩ x0).setCell ⟨rb, 1, none⟩ x1).setCell ⟨rb, 2, none⟩ x2).setCell ⟨rb, 3, none⟩ x3).heap[k]? = w.heap[k]?) ∧
    ∀ B w0, B ≤ rb → Below B w0 w → Below B w0 ((((w.setCell ⟨rb, 0, none⟩ x0).setCell ⟨rb, 1, none⟩ x1).setCell ⟨rb, 2, none⟩ x2).setCell ⟨rb, 3, none⟩ x3) := by
  refine ⟨?_, fun k hk => ?_, fun B w0 hB hb => ?_⟩
  · exact setCell_heap_self (o := 3) (u := x3) (setCell_heap_self (o := 2) (u := x2) (setCell_heap_self (o := 1) (u := x1) (setCell_heap_self (o := 0) (u := x0) h)))
  · rw [Below.heap_setCell _ _ _ _ hk, Below.heap_setCell _ _ _ _ hk, Below.heap_setCell _ _ _ _ hk, Below.heap_setCell _ _ _ _ hk]
  · exact (((hb.setCell hB _).setCell hB _).setCell hB _).setCell hB _
/-- What a walk wants of a row of 4 cells. -/
theorem get_row4 {wx : World} {rb : Nat} {t : TypeId} {a0 a1 a2 a3 : Value} (h : wx.heap[rb]? = some (.cells #[a0, a1, a2, a3] t (0, 0))) : (wx.cell? ⟨rb, 0, none⟩ = some a0 ∧ wx.cell? ⟨rb, 1, none⟩ = some a1 ∧ wx.cell? ⟨rb, 2, none⟩ = some a2 ∧ wx.cell? ⟨rb, 3, none⟩ = some a3) ∧ wx.frozen? ⟨rb, 0, none⟩ = false ∧ wx.frozen? ⟨rb, 1, none⟩ = false ∧ wx.frozen? ⟨rb, 2, none⟩ = false ∧ wx.frozen? ⟨rb, 3, none⟩ = false :=
  ⟨⟨(has_cell h 0).trans rfl, (has_cell h 1).trans rfl, (has_cell h 2).trans rfl, (has_cell h 3).trans rfl⟩, has_free h 0, has_free h 1, has_free h 2, has_free h 3⟩
/-- Two boxes of a type. -/
theorem two_boxes (w : World) (a b : Array Value) (t : TypeId) : Below w.heap.size w ((w.alloc (.cells a t)).alloc (.cells b t)) ∧ ((w.alloc (.cells a t)).alloc (.cells b t)).heap[w.heap.size]? = some (.cells a t (0, 0)) ∧ ((w.alloc (.cells a t)).alloc (.cells b t)).heap[w.heap.size + 1]? = some (.cells b t (0, 0)) :=
  ⟨((Below.refl _ _).alloc (Nat.le_refl _) _).alloc (by simp) _, has_alloc (heap_alloc_new w _) _, heap_at (by simp)⟩
end Go.Proofs.Ytbpjfhfibllhgaa

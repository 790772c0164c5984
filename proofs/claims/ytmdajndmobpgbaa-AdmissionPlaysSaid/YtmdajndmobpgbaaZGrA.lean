/- For walks of a document's functions, in any program: fresh appends, a cell set, results that lie in a cell. Conditions: none. For walks of a document's functions, in any program: slices cut at the end, one element appended, a fresh slice in front. Conditions: short slices. For walks of a document's functions, in any program: slices of structs as lists of rows of k cells. Conditions: each row has k cells. The document's queue in memory. Conditions: none. -/
import Derived.Test.YtmdajndmobpgbaaZErr
import Derived.Laws.ResultCell
import Derived.Test.YtmdajndmobpgbaaZHeld
namespace Go.Proofs.Ytmdajndmobpgbaa
open Go.RowKit

theorem OL.setCell {w : World} {e : TypeId} {size : Nat} {g off n cap : Nat} {xs : List Value} (h : OL w e size (.slice (some ⟨g, off, none⟩) n cap) n xs) (j : Nat) (hj : j < n * size) (u : Value) :
    OL (w.setCell ⟨g, off + j, none⟩ u) e size (.slice (some ⟨g, off, none⟩) n cap) n (xs.set j u) := by
  rcases h.2 with ⟨h', _⟩ | ⟨g', off', cap', cur, h', hg, hnc, hcm, hsz, ht⟩
  · simp at h'
  · simp only [Value.slice.injEq, Option.some.injEq, Addr.mk.injEq, and_true, true_and] at h'
    obtain ⟨⟨rfl, rfl⟩, rfl⟩ := h'
    have hle : n * size ≤ cap * size := Nat.mul_le_mul_right _ hnc
    refine ⟨by rw [List.length_set]; exact h.1, .inr ⟨g, off, cap, _, rfl, setCell_heap_self hg, hnc, hcm, by simpa using hsz, ?_⟩⟩
    rw [← ht]
    apply List.ext_getElem?
    intro i
    simp only [List.getElem?_take, List.getElem?_drop, List.getElem?_set, Array.toList_setIfInBounds, List.length_take, List.length_drop, Array.length_toList]
    by_cases hi : i < n * size
    · rw [if_pos hi, if_pos hi]
      by_cases e1 : j = i
      · subst e1
        rw [if_pos rfl, if_pos rfl, if_pos (by omega), if_pos (by omega)]
      · rw [if_neg (by omega), if_neg e1]
    · rw [if_neg hi]
      rw [if_neg (by omega), if_neg hi]
/-- append([]T{}, v...), the empty slice in block g. -/
theorem app_fresh {P : Program} {w : World} {e : TypeId} {size : Nat} {v : Value} {n : Nat} {xs : List Value} {g : Nat} (t : TypeId) (z : Value) (bytes : Nat) (ht : P.underlying t = some (.slice e)) (hinfo : (P.info? e).map (fun i => (i.zero, i.size, i.bytes)) = some (some z, size, bytes))
    (hzs : z.cells.size = size) (hsz : 0 < size) (hg : w.heap[g]? = some (.cells #[] e (0, 0))) (hs : Src P size t v n xs w) (h63 : n ≤ maxLen) (hbytes : n * bytes ≤ 140737488355328) :
    ∃ ao cap w', (Builtin.append_ #[t, t] t #[.slice (some ⟨g, 0, none⟩) 0 0, v]).run P w = .ok (.slice ao n cap) w' ∧
      OL w' e size (.slice ao n cap) n xs ∧ ((Value.slice ao n cap).ownBlock = some g ∨ (Value.slice ao n cap).ownBlock = some w.heap.size) ∧ Below w.heap.size w w' := by
  obtain ⟨i, hi, iz, is, ib⟩ := info_parts hinfo
  by_cases hn : n = 0
  · subst hn
    have hx : xs = [] := List.eq_nil_of_length_eq_zero (by simpa using hs.newsLen)
    subst hx
    subst is
    have hr := run_append_room_src (P := P) w t t t e i ht hi g 0 0 0 v 0 [] hs (by omega) (fun j hj => by simp at hj) (fun j hj => by simp at hj)
    exact ⟨some ⟨g, 0, none⟩, 0, _, hr, OL.of_block (cs := []) hg (by simp) (by simp [maxLen]), .inl rfl, Below.refl _ _⟩
  · subst is
    have hr := run_append_grow_src (P := P) w t t t e i z ht hi iz (some ⟨g, 0, none⟩) 0 0 [] (run_firstCells_some w.drew i.size 0 ⟨g, 0, none⟩ 0 0 [] (by simp) (fun j u h => by simp at h)) v n xs hs (by omega) (by unfold maxLen at h63; omega) (growslice_fits (by omega) (by rw [ib, Nat.zero_add]; exact hbytes))
    rw [Nat.zero_add, List.nil_append] at hr
    have hge := grownCap_ge w n 0 e
    have hcm : grownCap w n 0 e ≤ maxLen := grownCap_le_maxLen w n 0 e h63
    refine ⟨_, _, _, hr, ⟨hs.newsLen, .inr ⟨w.heap.size, 0, _, _, rfl, heap_alloc_new w.drew _, hge, hcm, ?_, ?_⟩⟩, .inr rfl, ⟨rfl, rfl, rfl, by simp, fun k hk => Below.heap_alloc w.drew _ k hk⟩⟩
    · simp only [Array.size_append, List.size_toArray, size_zeroCells, hzs, hs.newsLen, ← Nat.add_mul, Nat.zero_add]
      exact Nat.le_of_eq (by congr 1; omega)
    · simp only [Array.toList_append, List.drop_zero]
      rw [← hs.newsLen]
      exact List.take_left
section
variable {w w' : World} {v : Value}
theorem OL.shape {e : TypeId} {size n : Nat} {xs : List Value} (h : OL w e size v n xs) : ∃ ao cap, v = .slice ao n cap ∧ n ≤ cap ∧ cap ≤ 9223372036854775807 ∧ (0 < n → ∃ g off, ao = some ⟨g, off, none⟩) := by
  rcases OL.forms h with ⟨e, e0⟩ | ⟨g, off, cap, e, h1, h2, h3⟩
  · exact ⟨none, 0, by rw [e, e0], by omega, by omega, by omega⟩
  · exact ⟨_, cap, e, h1, by unfold maxLen at h2; omega, fun _ => ⟨g, off, rfl⟩⟩
theorem OL.bel {e : TypeId} {size n : Nat} {xs : List Value} (h : OL w e size v n xs) (hb : Below w.heap.size w w') : OL w' e size v n xs := OL.below h hb fun g hg => OL.lt h g hg
end
theorem results_cell2 {P : Program} {fn : Func} {p u : Tmp} {ty : TypeId} (h : fn.results = #[.cell p ty, .tmp u]) (tmps : Array Value) (w : World) (g : Nat) (t : TypeId) (cs : Array Value) (fr : Nat × Nat) (d : TypeDesc)
    (hp : tmps.getD p undef = .pointer (some ⟨g, 0, none⟩)) (hg : w.heap[g]? = some (.cells cs t fr))
    (hu : P.underlying ty = some d) (hd : (match d with | .struct _ | .array _ _ => true | _ => false) = true) (hi : (P.info? ty).map (·.size) = some cs.size) :
    (results fn tmps).run P w = .ok (.tuple #[.agg cs, tmps.getD u undef]) w := by
  rw [results_cell_tmp h, hp]
  simp [asAddr, run_loadVar_row w g t ty cs fr d hg hu hd hi, Result.andThen]
theorem results_cell4 {P : Program} {fn : Func} {p u v x : Tmp} {ty : TypeId} (h : fn.results = #[.cell p ty, .tmp u, .tmp v, .tmp x]) (tmps : Array Value) (w : World) (g : Nat) (t : TypeId) (cs : Array Value) (fr : Nat × Nat) (d : TypeDesc)
    (hp : tmps.getD p undef = .pointer (some ⟨g, 0, none⟩)) (hg : w.heap[g]? = some (.cells cs t fr))
    (hu : P.underlying ty = some d) (hd : (match d with | .struct _ | .array _ _ => true | _ => false) = true) (hi : (P.info? ty).map (·.size) = some cs.size) :
    (results fn tmps).run P w = .ok (.tuple #[.agg cs, tmps.getD u undef, tmps.getD v undef, tmps.getD x undef]) w := by
  have hp' : tmps[p]?.getD undef = .pointer (some ⟨g, 0, none⟩) := by simpa using hp
  simp [results, h, hp', asAddr, run_loadVar_row w g t ty cs fr d hg hu hd hi]
/-- A row of 2 cells is set anew. -/
theorem set_row2 {w : World} {rb : Nat} {t : TypeId} {a0 a1 : Value} (h : w.heap[rb]? = some (.cells #[a0, a1] t (0, 0))) (x0 x1 : Value) :
    ((w.setCell ⟨rb, 0, none⟩ x0).setCell ⟨rb, 1, none⟩ x1).heap[rb]? = some (.cells #[x0, x1] t (0, 0)) ∧
    (∀ k, k ≠ rb → ((w.setCell ⟨rb, 0, none⟩ x0).setCell ⟨rb, 1, none⟩ x1).heap[k]? = w.heap[k]?) ∧
    ∀ B w0, B ≤ rb → Below B w0 w → Below B w0 ((w.setCell ⟨rb, 0, none⟩ x0).setCell ⟨rb, 1, none⟩ x1) := by
  refine ⟨?_, fun k hk => ?_, fun B w0 hB hb => ?_⟩
  · exact setCell_heap_self (o := 1) (u := x1) (setCell_heap_self (o := 0) (u := x0) h)
  · rw [Below.heap_setCell _ _ _ _ hk, Below.heap_setCell _ _ _ _ hk]
  · exact (hb.setCell hB _).setCell hB _
/-- What a walk wants of a row of 2 cells. -/
theorem get_row2 {wx : World} {rb : Nat} {t : TypeId} {a0 a1 : Value} (h : wx.heap[rb]? = some (.cells #[a0, a1] t (0, 0))) : (wx.cell? ⟨rb, 0, none⟩ = some a0 ∧ wx.cell? ⟨rb, 1, none⟩ = some a1) ∧ wx.frozen? ⟨rb, 0, none⟩ = false ∧ wx.frozen? ⟨rb, 1, none⟩ = false :=
  ⟨⟨(has_cell h 0).trans rfl, (has_cell h 1).trans rfl⟩, has_free h 0, has_free h 1⟩
/-- A row of 3 cells is set anew. -/
theorem set_row3 {w : World} {rb : Nat} {t : TypeId} {a0 a1 a2 : Value} (h : w.heap[rb]? = some (.cells #[a0, a1, a2] t (0, 0))) (x0 x1 x2 : Value) :
    (((w.setCell ⟨rb, 0, none⟩ x0).setCell ⟨rb, 1, none⟩ x1).setCell ⟨rb, 2, none⟩ x2).heap[rb]? = some (.cells #[x0, x1, x2] t (0, 0)) ∧
    (∀ k, k ≠ rb → (((w.setCell ⟨rb, 0, none⟩ x0).setCell ⟨rb, 1, none⟩ x1).setCell ⟨rb, 2, none⟩ x2).heap[k]? = w.heap[k]?) ∧
    ∀ B w0, B ≤ rb → Below B w0 w → Below B w0 (((w.setCell ⟨rb, 0, none⟩ x0).setCell ⟨rb, 1, none⟩ x1).setCell ⟨rb, 2, none⟩ x2) := by
  refine ⟨?_, fun k hk => ?_, fun B w0 hB hb => ?_⟩
  · exact setCell_heap_self (o := 2) (u := x2) (setCell_heap_self (o := 1) (u := x1) (setCell_heap_self (o := 0) (u := x0) h))
  · rw [Below.heap_setCell _ _ _ _ hk, Below.heap_setCell _ _ _ _ hk, Below.heap_setCell _ _ _ _ hk]
  · exact ((hb.setCell hB _).setCell hB _).setCell hB _
/-- What a walk wants of a row of 3 cells. -/
theorem get_row3 {wx : World} {rb : Nat} {t : TypeId} {a0 a1 a2 : Value} (h : wx.heap[rb]? = some (.cells #[a0, a1, a2] t (0, 0))) : (wx.cell? ⟨rb, 0, none⟩ = some a0 ∧ wx.cell? ⟨rb, 1, none⟩ = some a1 ∧ wx.cell? ⟨rb, 2, none⟩ = some a2) ∧ wx.frozen? ⟨rb, 0, none⟩ = false ∧ wx.frozen? ⟨rb, 1, none⟩ = false ∧ wx.frozen? ⟨rb, 2, none⟩ = false :=
  ⟨⟨(has_cell h 0).trans rfl, (has_cell h 1).trans rfl, (has_cell h 2).trans rfl⟩, has_free h 0, has_free h 1, has_free h 2⟩
/-- A row of 4 cells is set anew. -/
theorem set_row4 {w : World} {rb : Nat} {t : TypeId} {a0 a1 a2 a3 : Value} (h : w.heap[rb]? = some (.cells #[a0, a1, a2, a3] t (0, 0))) (x0 x1 x2 x3 : Value) :
    ((((w.setCell ⟨rb, 0, none⟩ x0).setCell ⟨rb, 1, none⟩ x1).setCell ⟨rb, 2, none⟩ x2).setCell ⟨rb, 3, none⟩ x3).heap[rb]? = some (.cells #[x0, x1, x2, x3] t (0, 0)) ∧
    (∀ k, k ≠ rb → ((((w.setCell ⟨rb, 0, none⟩ x0).setCell ⟨rb, 1, none⟩ x1).setCell ⟨rb, 2, none⟩ x2).setCell ⟨rb, 3, none⟩ x3).heap[k]? = w.heap[k]?) ∧
    ∀ B w0, B ≤ rb → Below B w0 w → Below B w0 ((((w.setCell ⟨rb, 0, none⟩ x0).setCell ⟨rb, 1, none⟩ x1).setCell ⟨rb, 2, none⟩ x2).setCell ⟨rb, 3, none⟩ x3) := by
  refine ⟨?_, fun k hk => ?_, fun B w0 hB hb => ?_⟩
  · exact setCell_heap_self (o := 3) (u := x3) (setCell_heap_self (o := 2) (u := x2) (setCell_heap_self (o := 1) (u := x1) (setCell_heap_self (o := 0) (u := x0) h)))
  · rw [Below.heap_setCell _ _ _ _ hk, Below.heap_setCell _ _ _ _ hk, Below.heap_setCell _ _ _ _ hk, Below.heap_setCell _ _ _ _ hk]
  · exact (((hb.setCell hB _).setCell hB _).setCell hB _).setCell hB _
/-- What a walk wants of a row of 4 cells. -/
theorem get_row4 {wx : World} {rb : Nat} {t : TypeId} {a0 a1 a2 a3 : Value} (h : wx.heap[rb]? = some (.cells #[a0, a1, a2, a3] t (0, 0))) : (wx.cell? ⟨rb, 0, none⟩ = some a0 ∧ wx.cell? ⟨rb, 1, none⟩ = some a1 ∧ wx.cell? ⟨rb, 2, none⟩ = some a2 ∧ wx.cell? ⟨rb, 3, none⟩ = some a3) ∧ wx.frozen? ⟨rb, 0, none⟩ = false ∧ wx.frozen? ⟨rb, 1, none⟩ = false ∧ wx.frozen? ⟨rb, 2, none⟩ = false ∧ wx.frozen? ⟨rb, 3, none⟩ = false :=
  ⟨⟨(has_cell h 0).trans rfl, (has_cell h 1).trans rfl, (has_cell h 2).trans rfl, (has_cell h 3).trans rfl⟩, has_free h 0, has_free h 1, has_free h 2, has_free h 3⟩
/-- Two boxes of a type. -/
theorem two_boxes (w : World) (a b : Array Value) (t : TypeId) : Below w.heap.size w ((w.alloc (.cells a t)).alloc (.cells b t)) ∧ ((w.alloc (.cells a t)).alloc (.cells b t)).heap[w.heap.size]? = some (.cells a t (0, 0)) ∧ ((w.alloc (.cells a t)).alloc (.cells b t)).heap[w.heap.size + 1]? = some (.cells b t (0, 0)) :=
  ⟨((Below.refl _ _).alloc (Nat.le_refl _) _).alloc (by simp) _, has_alloc (heap_alloc_new w _) _, heap_at (by simp)⟩
end Go.Proofs.Ytmdajndmobpgbaa

namespace Go.Proofs.Ytmdajndmobpgbaa
open Go.RowKit

section
variable {P : Program} {w w' w1 : World} {e : TypeId} {size n q : Nat} {v : Value} {xs : List Value}
/-- Cutting at the end: v[:k]. -/
theorem OL.head {g off cap : Nat} (h : OL w e size (.slice (some ⟨g, off, none⟩) n cap) n xs) (k : Nat) (hk : k ≤ n) : OL w e size (.slice (some ⟨g, off, none⟩) k cap) k (xs.take (k * size)) := by
  have hlen := h.1
  have hle : k * size ≤ n * size := Nat.mul_le_mul_right _ hk
  rcases h.2 with ⟨h', _⟩ | ⟨g', off', cap', cur, h', hg, hnc, hcm, hsz, ht⟩
  · simp at h'
  · simp only [Value.slice.injEq, Option.some.injEq, Addr.mk.injEq, and_true, true_and] at h'
    obtain ⟨⟨rfl, rfl⟩, rfl⟩ := h'
    refine ⟨by rw [List.length_take, hlen]; omega, .inr ⟨g, off, cap, cur, rfl, hg, by omega, hcm, hsz, ?_⟩⟩
    rw [← ht, List.take_take, Nat.min_eq_left hle]
/-- append(v, x...), both laid in rows. -/
theorem ol_app {m : Nat} {x : Value} {ys : List Value} (t : TypeId) (z : Value) (bytes : Nat) (ht : P.underlying t = some (.slice e)) (hinfo : (P.info? e).map (fun i => (i.zero, i.size, i.bytes)) = some (some z, size, bytes)) (hzs : z.cells.size = size) (hsz : 0 < size)
    (h : OL w e size v n xs) (hy : OL w e size x m ys) (hone : ∀ u ∈ ys, u.oneCell' = true) (hn : n + m ≤ 2000000) (hb : bytes ≤ 1000) :
    ∃ ao cap w', (Builtin.append_ #[t, t] t #[v, x]).run P w = .ok (.slice ao (n + m) cap) w' ∧ OL w' e size (.slice ao (n + m) cap) (n + m) (xs ++ ys) ∧ w.grownBy w' v.ownBlock ∧ ((Value.slice ao (n + m) cap).ownBlock = v.ownBlock ∨ (Value.slice ao (n + m) cap).ownBlock = some w.heap.size) := by
  obtain ⟨ti, hi', iz, is, ib⟩ := info_parts hinfo
  have hbb : (n + m) * bytes ≤ 2000000 * 1000 := Nat.mul_le_mul hn hb
  obtain ⟨v', w', hap, ho3, hg3, how3⟩ := h.append (P := P) t t t ti _ _ ht hi' iz is ib hzs hsz (OL.src hy ht hone) (by unfold maxLen; omega) (by omega)
  obtain ⟨ao, cap, rfl, _⟩ := OL.shape ho3
  exact ⟨ao, cap, w', hap, ho3, hg3, how3⟩
/-- append(v, x), x in a block of its own. -/
theorem ol_more {cs : List Value} (t : TypeId) (z : Value) (bytes : Nat) (ht : P.underlying t = some (.slice e)) (hinfo : (P.info? e).map (fun i => (i.zero, i.size, i.bytes)) = some (some z, size, bytes)) (hzs : z.cells.size = size) (hsz : 0 < size)
    (h : OL w e size v n xs) (hq : w.heap[q]? = some (.cells cs.toArray e (0, 0))) (hcs : cs.length = size) (hone : ∀ u ∈ cs, u.oneCell' = true) (hn : n ≤ 1000000) (hb : bytes ≤ 1000) :
    ∃ ao cap w', (Builtin.append_ #[t, t] t #[v, .slice (some ⟨q, 0, none⟩) 1 1]).run P w = .ok (.slice ao (n + 1) cap) w' ∧ OL w' e size (.slice ao (n + 1) cap) (n + 1) (xs ++ cs) ∧ w.grownBy w' v.ownBlock ∧ ((Value.slice ao (n + 1) cap).ownBlock = v.ownBlock ∨ (Value.slice ao (n + 1) cap).ownBlock = some w.heap.size) :=
  ol_app t z bytes ht hinfo hzs hsz h (OL.of_block (cs := cs) hq (by rw [hcs, Nat.one_mul]) (by simp [maxLen])) hone (by omega) hb
/-- What an append into the row of v leaves of other rows. -/
theorem grown_types (h : OL w e size v n xs) (hg : w.grownBy w' v.ownBlock) : ∀ (b : Nat) (cs : Array Value) (t : TypeId), t ≠ e → w.heap[b]? = some (Obj.cells cs t (0, 0)) → w'.heap[b]? = w.heap[b]? := fun b cs t ht hc =>
  hg.block b (lt_of_block hc) fun eq => by
    obtain ⟨cur, h2⟩ := OL.elem h b eq.symm
    exact type_ne hc h2 ht rfl
/-- The row of what append gives is new where v's was. -/
theorem grown_own {B : Nat} {ao : Option Addr} {m cap : Nat} (hv : ∀ g, v.ownBlock = some g → B ≤ g) (hB : B ≤ w.heap.size) (h : (Value.slice ao m cap).ownBlock = v.ownBlock ∨ (Value.slice ao m cap).ownBlock = some w.heap.size) : ∀ g, (Value.slice ao m cap).ownBlock = some g → B ≤ g := fun g hg => by
  rcases h with h | h
  · exact hv g (h.symm.trans hg)
  · have := Option.some.inj (h.symm.trans hg); omega
theorem cell_same {g o : Nat} (h : w'.heap[g]? = w.heap[g]?) (_ : True := trivial) : w'.cell? ⟨g, o, none⟩ = w.cell? ⟨g, o, none⟩ := by simp [World.cell?, h]
/-- What app_fresh gives lies in new blocks. -/
theorem grown_fresh {B g0 : Nat} {ao : Option Addr} {m cap : Nat} (h0 : B ≤ g0) (hB : B ≤ w.heap.size) (h : (Value.slice ao m cap).ownBlock = some g0 ∨ (Value.slice ao m cap).ownBlock = some w.heap.size) : ∀ g, (Value.slice ao m cap).ownBlock = some g → B ≤ g := fun g hg => by
  rcases h with h | h <;> (have := Option.some.inj (h.symm.trans hg); omega)
/-- A cell that can be read stays. -/
theorem below_cell {w0 wx : World} {g o : Nat} {u : Value} (hb : Below w0.heap.size w0 wx) (h : w0.cell? ⟨g, o, none⟩ = some u) : wx.cell? ⟨g, o, none⟩ = some u := by
  have hlt : g < w0.heap.size := by
    unfold World.cell? at h
    cases hh : w0.heap[g]? with
    | none => simp [hh] at h
    | some ob => exact lt_of_block hh
  exact (cell_same (hb.block g hlt) trivial).trans h
theorem results_cell3t {P : Program} {fn : Func} {p u v : Tmp} {ty : TypeId} (h : fn.results = #[.cell p ty, .tmp u, .tmp v]) (tmps : Array Value) (w : World) (g : Nat) (t : TypeId) (cs : Array Value) (fr : Nat × Nat) (d : TypeDesc)
    (hp : tmps.getD p undef = .pointer (some ⟨g, 0, none⟩)) (hg : w.heap[g]? = some (.cells cs t fr))
    (hu : P.underlying ty = some d) (hd : (match d with | .struct _ | .array _ _ => true | _ => false) = true) (hi : (P.info? ty).map (·.size) = some cs.size) :
    (results fn tmps).run P w = .ok (.tuple #[.agg cs, tmps.getD u undef, tmps.getD v undef]) w := by
  have hp' : tmps[p]?.getD undef = .pointer (some ⟨g, 0, none⟩) := by simpa using hp
  simp [results, h, hp', asAddr, run_loadVar_row w g t ty cs fr d hg hu hd hi]
end
end Go.Proofs.Ytmdajndmobpgbaa

namespace Go.Proofs.Ytmdajndmobpgbaa
open Go.RowKit

/-- The cells of a list of rows. -/
def rowsC {α : Type} (f : α → List Value) (l : List α) : List Value := l.flatMap f
section
variable {α : Type} {f : α → List Value} {k : Nat} {l r : List α}
theorem rowsC_nil : rowsC f ([] : List α) = [] := rfl
theorem rowsC_cons (x : α) (l : List α) : rowsC f (x :: l) = f x ++ rowsC f l := List.flatMap_cons
theorem rowsC_one (x : α) : rowsC f [x] = f x := by rw [rowsC_cons, rowsC_nil, List.append_nil]
theorem rowsC_append (l r : List α) : rowsC f (l ++ r) = rowsC f l ++ rowsC f r := List.flatMap_append
theorem rowsC_len (h : ∀ x, (f x).length = k) : ∀ l : List α, (rowsC f l).length = l.length * k
  | [] => by simp [rowsC_nil]
  | x :: l => by rw [rowsC_cons, List.length_append, h, rowsC_len h l, List.length_cons, Nat.add_mul, Nat.one_mul, Nat.add_comm]
theorem rowsC_get (h : ∀ x, (f x).length = k) : ∀ (l : List α) (i : Nat) (hi : i < l.length) (j : Nat), j < k → (rowsC f l)[i * k + j]? = (f l[i])[j]?
  | x :: l, 0, _, j, hj => by
    rw [rowsC_cons, Nat.zero_mul, Nat.zero_add, List.getElem?_append_left (by rw [h]; exact hj)]
    rfl
  | x :: l, i + 1, hi, j, hj => by
    rw [rowsC_cons, Nat.add_mul, Nat.one_mul, List.getElem?_append_right (by rw [h]; omega), h, show i * k + k + j - k = i * k + j by omega]
    exact rowsC_get h l i (by simpa using hi) j hj
theorem rowsC_take (h : ∀ x, (f x).length = k) : ∀ (l : List α) (i : Nat), rowsC f (l.take i) = (rowsC f l).take (i * k)
  | l, 0 => by simp [rowsC_nil]
  | [], i + 1 => by simp [rowsC_nil]
  | x :: l, i + 1 => by
    rw [List.take_succ_cons, rowsC_cons, rowsC_cons, rowsC_take h l i, Nat.add_mul, Nat.one_mul, Nat.add_comm (i * k) k, ← h x, List.take_length_add_append]
theorem rowsC_drop (h : ∀ x, (f x).length = k) : ∀ (l : List α) (i : Nat), rowsC f (l.drop i) = (rowsC f l).drop (i * k)
  | l, 0 => by simp
  | [], i + 1 => by simp [rowsC_nil]
  | x :: l, i + 1 => by
    rw [List.drop_succ_cons, rowsC_cons, rowsC_drop h l i, Nat.add_mul, Nat.one_mul, Nat.add_comm (i * k) k, ← h x, List.drop_length_add_append]
theorem rowsC_ones (h1 : ∀ x, ∀ u ∈ f x, u.oneCell' = true) : ∀ (l : List α), ∀ u ∈ rowsC f l, u.oneCell' = true
  | [], u, h => by simp [rowsC_nil] at h
  | x :: l, u, h => by
    rw [rowsC_cons] at h
    rcases List.mem_append.1 h with h | h
    · exact h1 x u h
    · exact rowsC_ones h1 l u h
theorem rowsC_onesIn : ∀ (l : List α), (∀ x ∈ l, ∀ u ∈ f x, u.oneCell' = true) → ∀ u ∈ rowsC f l, u.oneCell' = true
  | [], _, u, h => by simp [rowsC_nil] at h
  | x :: l, h1, u, h => by
    rw [rowsC_cons] at h
    rcases List.mem_append.1 h with h | h
    · exact h1 x (by simp) u h
    · exact rowsC_onesIn l (fun y hy => h1 y (by simp [hy])) u h
end
/-- The rows l lie at v. -/
def RowsAt {α : Type} (e : TypeId) (k : Nat) (f : α → List Value) (w : World) (v : Value) (l : List α) : Prop := OL w e k v l.length (rowsC f l)
section
variable {α : Type} {f : α → List Value} {k : Nat} {l r : List α} {e : TypeId} {w w' : World} {v : Value}
theorem RowsAt.at_ {ao : Option Addr} {cap : Nat} (h : RowsAt e k f w (.slice ao l.length cap) l) (hf : ∀ x, (f x).length = k) {i : Nat} (hi : i < l.length) (d : α) : ∃ g off, ao = some ⟨g, off, none⟩ ∧ ∀ j, j < k → w.cell? ⟨g, off + i * k + j, none⟩ = (f (l.getD i d))[j]? := by
  obtain ⟨_, _, e1, _, _, h2⟩ := OL.shape h
  obtain ⟨g, off, e2⟩ := h2 (by omega)
  simp only [Value.slice.injEq] at e1
  obtain rfl := e1.1.trans e2
  refine ⟨g, off, rfl, fun j hj => ?_⟩
  have hik : i * k + j < l.length * k := by
    have h1 : (i + 1) * k ≤ l.length * k := Nat.mul_le_mul_right k hi
    rw [Nat.add_mul, Nat.one_mul] at h1
    omega
  have c := OL.cell h (i * k + j) hik
  rw [← Nat.add_assoc] at c
  rw [c, rowsC_get hf l i hi j hj]
  simp [List.getD, hi]
theorem RowsAt.bel (h : RowsAt e k f w v l) (hb : Below w.heap.size w w') : RowsAt e k f w' v l := OL.bel h hb
theorem RowsAt.take {g off cap : Nat} (h : RowsAt e k f w (.slice (some ⟨g, off, none⟩) l.length cap) l) (hf : ∀ x, (f x).length = k) {i : Nat} (hi : i ≤ l.length) : OL w e k (.slice (some ⟨g, off, none⟩) i cap) i (rowsC f (l.take i)) := by
  rw [rowsC_take hf]
  exact OL.head h i hi
theorem RowsAt.drop {g off cap : Nat} (h : RowsAt e k f w (.slice (some ⟨g, off, none⟩) l.length cap) l) (hf : ∀ x, (f x).length = k) {i : Nat} (hi : i ≤ l.length) : OL w e k (.slice (if cap = i then some ⟨g, off, none⟩ else some ⟨g, off + i * k, none⟩) (l.length - i) (cap - i)) (l.length - i) (rowsC f (l.drop i)) := by
  rw [rowsC_drop hf]
  exact OL.tail h i hi
end
end Go.Proofs.Ytmdajndmobpgbaa

namespace Go.Proofs.Ytmdajndmobpgbaa
open Go.RowKit
open Go.Proofs.Ytmdajndmobpgbaa.Fq

theorem infoIn : (Try.prog.info? 3).map (fun i => (i.zero, i.size, i.bytes)) = some (some (.int .i64 0), 1, 8) := by kernel_rfl
theorem infoEn : (Try.prog.info? 129).map (fun i => (i.zero, i.size, i.bytes)) = some (some (.agg #[.int .i64 0, .int .i64 0]), 2, 16) := by kernel_rfl
theorem infoEl : (Try.prog.info? 127).map (fun i => (i.zero, i.size, i.bytes)) = some (some (.slice none 0 0), 1, 24) := by kernel_rfl
theorem ints_one (l : List Int) : ∀ u ∈ ints l, u.oneCell' = true := by
  intro u hu
  obtain ⟨x, _, rfl⟩ := List.mem_map.1 hu
  rfl
theorem ent_one : ∀ (l : List Ent), ∀ u ∈ entCells l, u.oneCell' = true
  | [], u, h => by cases h
  | e :: r, u, h => by
    simp only [entCells, List.mem_cons] at h
    rcases h with rfl | rfl | h
    · rfl
    · rfl
    · exact ent_one r u h
/-- The lists. -/
def RLs (w : World) (vl : Value) (ls : List (List Ent)) : Prop := ∃ lv : List Value, lv.length = ls.length ∧ OL w 127 1 vl ls.length lv ∧ (∀ u ∈ lv, u.oneCell' = true) ∧ ∀ t, t < ls.length → OL w 129 2 (lv.getD t nilS) (ls.getD t []).length (entCells (ls.getD t []))
def rqV (vq vd vl : Value) (s : FQ) : Value := .agg #[vq, vd, vl, .int .i64 s.cur, .bool s.begun]
/-- The document's queue. -/
structure RQ (w : World) (vq vd vl : Value) (s : FQ) : Prop where
  q : OL w 3 1 vq s.m (ints s.quanta)
  d : OL w 3 1 vd s.m (ints s.defs)
  l : RLs w vl s.lists
  lq : s.quanta.length = s.m
  ld : s.defs.length = s.m
/-- The same, the lists' values told. -/
structure RQL (w : World) (vq vd vl : Value) (lv : List Value) (s : FQ) : Prop where
  q : OL w 3 1 vq s.m (ints s.quanta)
  d : OL w 3 1 vd s.m (ints s.defs)
  l : OL w 127 1 vl s.m lv
  lvl : lv.length = s.m
  one : ∀ u ∈ lv, u.oneCell' = true
  e : ∀ t, t < s.m → OL w 129 2 (lv.getD t nilS) (s.lst t).length (entCells (s.lst t))
  lq : s.quanta.length = s.m
  ld : s.defs.length = s.m
theorem RQL.rq {w : World} {vq vd vl : Value} {lv : List Value} {s : FQ} (h : RQL w vq vd vl lv s) : RQ w vq vd vl s := ⟨h.q, h.d, ⟨lv, h.lvl, h.l, h.one, h.e⟩, h.lq, h.ld⟩
/-- All of it in blocks of K. -/
structure RQK (K : Nat → Prop) (w : World) (vq vd vl : Value) (lv : List Value) (s : FQ) : Prop where
  a : RQL w vq vd vl lv s
  kq : ∀ g, vq.ownBlock = some g → K g
  kd : ∀ g, vd.ownBlock = some g → K g
  kl : ∀ g, vl.ownBlock = some g → K g
  ke : ∀ t g, (lv.getD t nilS).ownBlock = some g → K g
section
variable {K J : Nat → Prop} {w w' : World} {vq vd vl : Value} {lv : List Value} {s : FQ}
theorem RQL.heap (h : RQL w vq vd vl lv s) (hk : ∀ (b : Nat) (cs : Array Value) (t : TypeId), t ≠ 55 → w.heap[b]? = some (Obj.cells cs t (0, 0)) → w'.heap[b]? = w.heap[b]?) : RQL w' vq vd vl lv s := by
  have key : ∀ {e : TypeId} {size n : Nat} {u : Value} {xs : List Value}, e ≠ 55 → OL w e size u n xs → OL w' e size u n xs := fun {e size n u xs} he ho => OL.heap ho fun g hg => by
    obtain ⟨cur, hc⟩ := OL.elem ho g hg
    exact hk g _ _ he hc
  exact ⟨key (by decide) h.q, key (by decide) h.d, key (by decide) h.l, h.lvl, h.one, fun t ht => key (by decide) (h.e t ht), h.lq, h.ld⟩
theorem RQK.same (h : RQK K w vq vd vl lv s) (hs : SameK K w w') : RQK K w' vq vd vl lv s :=
  ⟨⟨OL.heap h.a.q fun g hg => hs.1 g (h.kq g hg), OL.heap h.a.d fun g hg => hs.1 g (h.kd g hg), OL.heap h.a.l fun g hg => hs.1 g (h.kl g hg), h.a.lvl, h.a.one, fun t ht => OL.heap (h.a.e t ht) fun g hg => hs.1 g (h.ke t g hg), h.a.lq, h.a.ld⟩, h.kq, h.kd, h.kl, h.ke⟩
theorem RQK.to (h : RQK K w vq vd vl lv s) (hJ : ∀ k, k < w.heap.size → K k → J k) : RQK J w vq vd vl lv s :=
  ⟨h.a, fun g hg => hJ g (OL.lt h.a.q g hg) (h.kq g hg), fun g hg => hJ g (OL.lt h.a.d g hg) (h.kd g hg), fun g hg => hJ g (OL.lt h.a.l g hg) (h.kl g hg), fun t g hg => by
    rcases Nat.lt_or_ge t s.m with ht | ht
    · exact hJ g (OL.lt (h.a.e t ht) g hg) (h.ke t g hg)
    · have : lv.getD t nilS = nilS := by simp [List.getD, List.getElem?_eq_none (show lv.length ≤ t by rw [h.a.lvl]; exact ht)]
      rw [this] at hg; simp [nilS, Value.ownBlock] at hg⟩
end
section
variable {w w' : World} {vq vd vl v : Value} {s : FQ} {ls : List (List Ent)} {l : List Ent}
theorem RLs.bel (h : RLs w vl ls) (hb : Below w.heap.size w w') : RLs w' vl ls := by
  obtain ⟨lv, h1, h2, h3, h4⟩ := h
  exact ⟨lv, h1, h2.bel hb, h3, fun t ht => (h4 t ht).bel hb⟩
theorem RQ.bel (h : RQ w vq vd vl s) (hb : Below w.heap.size w w') : RQ w' vq vd vl s := ⟨h.q.bel hb, h.d.bel hb, h.l.bel hb, h.lq, h.ld⟩
theorem RLs.shape (h : RLs w vl ls) : ∃ ao cap, vl = .slice ao ls.length cap ∧ ls.length ≤ cap ∧ cap ≤ 9223372036854775807 ∧ (0 < ls.length → ∃ g off, ao = some ⟨g, off, none⟩ ∧ ∀ t, t < ls.length → ∃ bo c, w.cell? ⟨g, off + t, none⟩ = some (.slice bo (ls.getD t []).length c) ∧ OL w 129 2 (.slice bo (ls.getD t []).length c) (ls.getD t []).length (entCells (ls.getD t []))) := by
  obtain ⟨lv, h1, h2, h3, h4⟩ := h
  obtain ⟨ao, cap, rfl, k1, k2, k3⟩ := h2.shape
  refine ⟨ao, cap, rfl, k1, k2, fun h0 => ?_⟩
  obtain ⟨g, off, rfl⟩ := k3 h0
  refine ⟨g, off, rfl, fun t ht => ?_⟩
  obtain ⟨bo, c, e, _⟩ := (h4 t ht).shape
  have hc := OL.cell h2 t (by omega)
  refine ⟨bo, c, ?_, by rw [← e]; exact h4 t ht⟩
  rw [hc, ← e]
  simp [List.getD, show t < lv.length by omega]
theorem ent_at {g off cap : Nat} (h : OL w 129 2 (.slice (some ⟨g, off, none⟩) l.length cap) l.length (entCells l)) {i : Nat} (hi : i < l.length) : w.cell? ⟨g, off + i * 2, none⟩ = some (.int .i64 (l.getD i (0, 0)).1) ∧ w.cell? ⟨g, off + i * 2 + 1, none⟩ = some (.int .i64 (l.getD i (0, 0)).2) := by
  obtain ⟨e0, e1⟩ := entCells_get l i hi
  have c0 := OL.cell h (i * 2) (by omega)
  have c1 := OL.cell h (i * 2 + 1) (by omega)
  rw [← Nat.add_assoc] at c1
  have e : l.getD i (0, 0) = l[i] := by simp [List.getD, hi]
  rw [e]
  exact ⟨c0.trans e0, c1.trans e1⟩
/-- What has leaves. -/
def HasP (x : Bool) (w : World) (e : Ending) (w' : World) : Prop := e = .returned (.bool x) ∧ Below w.heap.size w w'
set_option maxRecDepth 100000 in
set_option maxHeartbeats 3200000 in
theorem rhas_any (h : RLs w vl s.lists) (hn : s.m ≤ 1000000) {aq ad : Option Addr} {nq cq nd cd : Nat} {cu : Int} {bg : Bool} (id : Int) (x : Bool) (hx : x = true ↔ hasId s id) : Calls Try.prog 58 #[.agg #[.slice aq nq cq, .slice ad nd cd, vl, .int .i64 cu, .bool bg], .int .i64 id] w (HasP x w) := by
  have hL := h
  obtain ⟨ao, cap, rfl, h1, h2, _⟩ := h.shape
  have HH := Lib.hid (fun (wx : World) (hb : Below w.heap.size w wx) => (hL.bel hb).shape)
  have HX := Lib.hid hx
  have hb0 := (Below.refl w.heap.size w).alloc (Nat.le_refl _) (.cells #[.slice aq nq cq, .slice ad nd cd, .slice ao s.lists.length cap, .int .i64 cu, .bool bg] 55)
  have hq0 := heap_alloc_new w (.cells #[.slice aq nq cq, .slice ad nd cd, .slice ao s.lists.length cap, .int .i64 cu, .bool bg] 55)
  have x2 := (has_cell hq0 2).trans (show _ = some (Value.slice ao s.lists.length cap) from rfl)
  have HB0 := Lib.hid hb0
  have hm : s.lists.length ≤ 1000000 := hn
  clear h hL hb0 hq0 hx hn
  go_enter Try.func58, Try.ntmps58
  go_wp2_with fail
  clear x2
  go_loopw [12] (fun iv wr => ∃ j : Nat, j ≤ s.lists.length ∧ iv = .int .i64 j ∧ (∀ q, q < j → ∀ e ∈ s.lst q, e.1 ≠ id) ∧ Below w.heap.size w wr) (fun iv _ => s.lists.length - (intOf iv).toNat)
  case atStart => exact ⟨0, Nat.zero_le _, rfl, fun q hq => by omega, HB0.out⟩
  case round =>
    clear HB0
    obtain ⟨j, hj, rfl, hF, hb⟩ := hrel
    have HF := Lib.hid hF
    have HB := Lib.hid hb
    clear hF hb
    by_cases hlt : j < s.lists.length
    · obtain ⟨ao', cap', e, _, _, hc⟩ := HH.out wr HB.out
      obtain ⟨rfl, _, rfl⟩ : ao = ao' ∧ True ∧ cap = cap' := by simp at e; exact ⟨e.1, trivial, e.2⟩
      obtain ⟨g, off, hao2, hc2⟩ := hc (by omega)
      subst hao2
      obtain ⟨bo, c, c0, hO⟩ := hc2 j hlt
      have HO := Lib.hid hO
      have hlj : (s.lists.getD j []).length ≤ 9223372036854775807 := by
        obtain ⟨_, c', e', k1, k2, _⟩ := hO.shape
        omega
      have HJ : Hid (s.lst j = s.lists.getD j []) := Lib.hid rfl
      have HFB := Lib.hid (fun wx (hb : Below wr.heap.size wr wx) => HB.out.trans (hb.mono HB.out.size))
      clear hc hc2 e hO
      generalize s.lists.getD j [] = l at *
      obtain ⟨wo, hwo⟩ : ∃ wo : World, wo = wr := ⟨_, rfl⟩
      subst hwo
      have dj : decide ((j : Int) < (s.lists.length : Int)) = true := decide_eq_true (by omega)
      go_wp2_with fail
      clear c0
      go_loopw [18] (fun iv wx => ∃ i : Nat, i ≤ l.length ∧ iv = .int .i64 i ∧ (∀ q, q < i → (l.getD q (0, 0)).1 ≠ id) ∧ Below wo.heap.size wo wx) (fun iv _ => l.length - (intOf iv).toNat)
      case atStart => exact ⟨0, Nat.zero_le _, rfl, fun q hq => by omega, Below.refl _ _⟩
      case round =>
        obtain ⟨i, hi, rfl, hG, hb⟩ := hrel
        have HG := Lib.hid hG
        have HBX := Lib.hid hb
        clear hG hb
        by_cases hli : i < l.length
        · obtain ⟨_, _, e', _, _, hao⟩ := HO.out.shape
          simp only [Value.slice.injEq] at e'
          obtain ⟨ge, oe, he2⟩ := hao (by omega)
          obtain rfl : bo = some ⟨ge, oe, none⟩ := by rw [e'.1]; exact he2
          obtain ⟨d0, d1⟩ := ent_at (HO.out.bel HBX.out) hli
          have HA := Lib.hid (HBX.out.alloc HBX.out.size (.cells #[.int .i64 (l.getD i (0, 0)).1, .int .i64 (l.getD i (0, 0)).2] 129))
          have HM := Lib.hid (show l.getD i (0, 0) ∈ l from by
            have : l.getD i (0, 0) = l[i] := by simp [List.getD, hli]
            rw [this]; exact List.getElem_mem hli)
          have HS := Lib.hid (fun (h : (l.getD i (0, 0)).1 ≠ id) (q : Nat) (hq : q < i + 1) => show (l.getD q (0, 0)).1 ≠ id from by
            by_cases e : q = i
            · rw [e]; exact h
            · exact HG.out q (by omega))
          clear e' hao
          generalize l.getD i (0, 0) = en at *
          by_cases hid : en.1 = id
          · have HR : Hid (x = true) := Lib.hid (HX.out.2 ⟨j, hlt, en, by rw [HJ.out]; exact HM.out, hid⟩)
            have d2 : (en.1 == id) = true := by rw [beq_iff_eq]; exact hid
            clear hid
            go_wp2_with fail
            go_ret
            rw [HR.out]
            exact ⟨rfl, HFB.out _ HA.out⟩
          · have HS2 := Lib.hid (HS.out hid)
            have d2 : (en.1 == id) = false := by rw [beq_eq_false_iff_ne]; exact hid
            clear hid
            go_wp2_with fail
            go_roundw
            case rel => exact ⟨i + 1, by omega, by go_num, HS2.out, HA.out⟩
            case measure => simp [intOf]; omega
        · obtain rfl : i = l.length := by omega
          have HN : Hid (∀ q, q < j + 1 → ∀ e ∈ s.lst q, e.1 ≠ id) := Lib.hid fun q hq e he => by
            by_cases e1 : q = j
            · subst e1
              rw [HJ.out] at he
              obtain ⟨k, hk, rfl⟩ := List.getElem_of_mem he
              have := HG.out k hk
              simpa [List.getD, hk] using this
            · exact HF.out q (by omega) e he
          have HB2 := Lib.hid (HFB.out _ HBX.out)
          go_wp2_with fail
          go_roundw
          case rel => exact ⟨j + 1, by omega, by go_num, HN.out, HB2.out⟩
          case measure => simp [intOf]; omega
    · obtain rfl : j = s.lists.length := by omega
      have HR : Hid (x = false) := Lib.hid (by
        cases x
        · rfl
        · obtain ⟨t, ht, e, he, hi⟩ := HX.out.1 rfl
          exact absurd hi (HF.out t ht e he))
      go_wp2_with fail
      go_ret
      rw [HR.out]
      exact ⟨rfl, HB.out⟩
end
end Go.Proofs.Ytmdajndmobpgbaa

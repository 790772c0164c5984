/- topology: the document's Connect. Conditions: the links are few. -/
import Derived.Test.YtpcapmialdmcaaaTpS
namespace Go.Proofs.Ytpcapmialdmcaaa
open Go.RowKit Go.Maps

theorem OL.setCell {w : World} {e : TypeId} {size : Nat} {g off n cap : Nat} {xs : List Value} (h : OL w e size (.slice (some ⟨g, off, none⟩) n cap) n xs) (j : Nat) (hj : j < n * size) (u : Value) :
    OL (w.setCell ⟨g, off + j, none⟩ u) e size (.slice (some ⟨g, off, none⟩) n cap) n (xs.set j u) := by
  rcases h.2 with ⟨h', _⟩ | ⟨g', off', cap', cur, h', hg, hnc, hcm, hsz, ht⟩
  · simp at h'
  · simp only [Value.slice.injEq, Option.some.injEq, Addr.mk.injEq, and_true, true_and] at h'
    obtain ⟨⟨rfl, rfl⟩, rfl⟩ := h'
    have hle : n * size ≤ cap * size := Nat.mul_le_mul_right _ hnc
    refine ⟨by rw [List.length_set]; exact h.1, .inr ⟨g, off, cap, _, rfl, setCell_heap_self hg, hnc, hcm, by simpa using hsz, ?_⟩⟩
    rw [← ht]
    apply List.ext_getElem?
    intro i
    simp only [List.getElem?_take, List.getElem?_drop, List.getElem?_set, Array.toList_setIfInBounds, List.length_take, List.length_drop, Array.length_toList]
    by_cases hi : i < n * size
    · rw [if_pos hi, if_pos hi]
      by_cases e1 : j = i
      · subst e1
        rw [if_pos rfl, if_pos rfl, if_pos (by omega), if_pos (by omega)]
      · rw [if_neg (by omega), if_neg e1]
    · rw [if_neg hi]
      rw [if_neg (by omega), if_neg hi]

theorem infoLk : (Try.prog.info? 99).map (fun i => (i.zero, i.size, i.bytes)) = some (some (.agg #[.string ByteArray.empty, .string ByteArray.empty, .int .i64 0, .slice none 0 0]), 4, 64) := by kernel_rfl
theorem infoCt : (Try.prog.info? 101).map (fun i => (i.zero, i.size, i.bytes)) = some (some (.agg #[.int .i64 0, .int .i64 0]), 2, 16) := by kernel_rfl
section
variable {w w' w1 w2 : World} {tv lv : Value} {ts : List ByteArray} {L : List TL} {a b : ByteArray}
/-- append([]Link{}, links...): a copy. -/
theorem RefL.copy (h : RefL w lv L) (hl : L.length ≤ 1000000) : ∃ g off cap w', (Builtin.append_ #[29, 29] 29 #[.slice (some ⟨w.heap.size, 0, none⟩) 0 0, lv]).run Try.prog (w.alloc (.cells #[] 99)) = .ok (.slice (some ⟨g, off, none⟩) L.length cap) w' ∧
    RefL w' (.slice (some ⟨g, off, none⟩) L.length cap) L ∧ w.heap.size ≤ g ∧ Below w.heap.size w w' := by
  obtain ⟨vs, h1, h2, h3, h4⟩ := h
  obtain ⟨g, off, cap, w', hap, ho, hg, hb⟩ := fresh_append (P := Try.prog) 29 _ _ Try.underlying29 infoLk rfl (by omega) (OL.src (OL.alloc h2 (.cells #[] 99)) Try.underlying29 h3) (by unfold maxLen; omega) (by omega)
  exact ⟨g, off, cap, w', hap, ⟨vs, h1, ho, h3, fun i hi => OL.below (h4 i hi) hb fun k hk => OL.lt (h4 i hi) k hk⟩, hg, hb⟩
/-- A further link. -/
theorem RefL.more (h : RefL w lv L) (hl : L.length ≤ 1000000) (x : TL) (hx : x.cuts = []) : ∃ ao cap w', (Builtin.append_ #[29, 29] 29 #[lv, .slice (some ⟨w.heap.size, 0, none⟩) 1 1]).run Try.prog (w.alloc (.cells #[.string x.a, .string x.b, .int .i64 x.lat, .slice none 0 0] 99)) = .ok (.slice ao (L.length + 1) cap) w' ∧
    RefL w' (.slice ao (L.length + 1) cap) (L ++ [x]) ∧ w.grownBy w' lv.ownBlock := by
  obtain ⟨vs, h1, h2, h3, h4⟩ := h
  obtain ⟨ao, cap, w', hap, ho, hg, _⟩ := tp_append h2 29 _ 64 Try.underlying29 infoLk rfl (by omega) (lks [x] [.slice none 0 0]) rfl (by intro u hu; simp [lks] at hu; rcases hu with rfl | rfl | rfl | rfl <;> rfl) hl (by omega)
  refine ⟨ao, cap, w', hap, ⟨vs ++ [.slice none 0 0], by simp [h1], ?_, ?_, fun i hi => ?_⟩, hg⟩
  · rw [lks_append L vs x _ h1, List.length_append]
    exact ho
  · rw [lks_append L vs x _ h1]
    intro u hu
    rcases List.mem_append.1 hu with hu | hu
    · exact h3 u hu
    · simp [lks] at hu; rcases hu with rfl | rfl | rfl | rfl <;> rfl
  · rw [List.length_append, List.length_singleton] at hi
    by_cases e : i = L.length
    · subst e
      have e1 : (vs ++ [Value.slice none 0 0]).getD L.length undef = .slice none 0 0 := by rw [← h1]; simp [List.getD]
      have e2 : lk (L ++ [x]) L.length = x := by simp [lk, List.getD]
      rw [e1, e2, hx]
      exact OL.nil _ _ _
    · have hi' : i < L.length := by omega
      have e1 : (vs ++ [Value.slice none 0 0]).getD i undef = vs.getD i undef := by simp [List.getD, List.getElem?_append_left (show i < vs.length by omega)]
      have e2 : lk (L ++ [x]) i = lk L i := by simp [lk, List.getD, List.getElem?_append_left hi']
      rw [e1, e2]
      exact OL.kept (h4 i hi') hg fun k hk e => by
        obtain ⟨c1, k1⟩ := OL.elem (h4 i hi') k hk
        obtain ⟨c2, k2⟩ := OL.elem h2 k e.symm
        exact type_ne k1 k2 (by decide) rfl
/-- Another latency. -/
theorem RefL.lat {g off cap : Nat} (h : RefL w (.slice (some ⟨g, off, none⟩) L.length cap) L) {i : Nat} (hi : i < L.length) (z : Int) : RefL (w.setCell ⟨g, off + i * 4 + 2, none⟩ (.int .i64 z)) (.slice (some ⟨g, off, none⟩) L.length cap) (L.set i { lk L i with lat := z }) ∧ w.frozen? ⟨g, off + i * 4 + 2, none⟩ = false := by
  obtain ⟨vs, h1, h2, h3, h4⟩ := h
  have h5 := OL.setCell h2 (i * 4 + 2) (by omega) (.int .i64 z)
  rw [lks_lat L vs i z h1 hi, ← Nat.add_assoc] at h5
  refine ⟨⟨vs, by rw [List.length_set]; exact h1, by rw [List.length_set]; exact h5, fun u hu => ?_, fun j hj => ?_⟩, OL.free h2 _⟩
  · rw [← lks_lat L vs i z h1 hi] at hu
    rcases List.mem_or_eq_of_mem_set hu with hu | rfl
    · exact h3 u hu
    · rfl
  · rw [List.length_set] at hj
    have hc : (lk (L.set i { lk L i with lat := z }) j).cuts = (lk L j).cuts := by
      by_cases e : i = j
      · subst e; rw [lk_set_self hi]
      · rw [lk_set_ne e]
    rw [hc]
    exact OL.heap (h4 j hj) fun k hk => Below.heap_setCell _ _ _ _ fun e => by
      obtain ⟨c1, k1⟩ := OL.elem (h4 j hj) k hk
      obtain ⟨c2, k2⟩ := OL.elem h2 g rfl
      have e' : k = g := e
      rw [e'] at k1
      exact type_ne k1 k2 (by decide) rfl
def RConP (ts : List ByteArray) (tv : Value) (L' : List TL) (code : Int) (w : World) (e : Ending) (w' : World) : Prop :=
  ∃ ao cap, e = .returned (.tuple #[.agg #[tv, .slice ao L'.length cap], .int .i64 code]) ∧ RefL w' (.slice ao L'.length cap) L' ∧ Below w.heap.size w w'
/-- What lies behind the first region. -/
structure ConW (w : World) (tao : Option Addr) (tn tc : Nat) (lao : Option Addr) (lc : Nat) (L : List TL) (wx : World) : Prop where
  be : Below (w.heap.size + 2) ((w.alloc (.cells #[.slice tao tn tc, .slice lao L.length lc] 31)).alloc (.cells #[.slice none 0 0, .slice none 0 0] 31)) wx
theorem ConW.all {tao lao : Option Addr} {tn tc lc : Nat} {wx : World} (h : ConW w tao tn tc lao lc L wx) : Below w.heap.size w wx ∧ wx.heap[w.heap.size]? = some (.cells #[.slice tao tn tc, .slice lao L.length lc] 31 (0, 0)) ∧ wx.heap[w.heap.size + 1]? = some (.cells #[.slice none 0 0, .slice none 0 0] 31 (0, 0)) ∧ w.heap.size + 2 ≤ wx.heap.size := by
  have h0 : Below w.heap.size w ((w.alloc (.cells #[.slice tao tn tc, .slice lao L.length lc] 31)).alloc (.cells #[.slice none 0 0, .slice none 0 0] 31)) := ((Below.refl _ _).alloc (Nat.le_refl _) _).alloc (by simp) _
  refine ⟨h0.trans (h.be.mono (by omega)), (h.be.block _ (by omega)).trans (has_alloc (heap_alloc_new w _) _), (h.be.block _ (by omega)).trans (heap_at (by simp)), ?_⟩
  have := h.be.size
  simp at this
  omega
theorem ConW.on {tao lao : Option Addr} {tn tc lc : Nat} {wx wy : World} (h : ConW w tao tn tc lao lc L wx) (hb : Below wx.heap.size wx wy) : ConW w tao tn tc lao lc L wy := ⟨h.be.trans (hb.mono (by have := h.all.2.2.2; omega))⟩
/-- The end: the map at hand is returned, with a code. -/
theorem ConW.back {tao lao : Option Addr} {tn tc lc : Nat} {wx : World} (h : ConW w tao tn tc lao lc L wx) : wx.cell? ⟨w.heap.size, 0, none⟩ = some (.slice tao tn tc) ∧ wx.cell? ⟨w.heap.size, 1, none⟩ = some (.slice lao L.length lc) ∧ wx.cell? ⟨w.heap.size + 1, 0, none⟩ = some (.slice none 0 0) ∧ wx.cell? ⟨w.heap.size + 1, 1, none⟩ = some (.slice none 0 0) ∧ wx.frozen? ⟨w.heap.size + 1, 0, none⟩ = false ∧ wx.frozen? ⟨w.heap.size + 1, 1, none⟩ = false := by
  obtain ⟨_, h1, h2, _⟩ := h.all
  exact ⟨(has_cell h1 0).trans rfl, (has_cell h1 1).trans rfl, (has_cell h2 0).trans rfl, (has_cell h2 1).trans rfl, has_free h2 0, has_free h2 1⟩
theorem ConW.wrote {tao lao : Option Addr} {tn tc lc : Nat} {wx : World} (h : ConW w tao tn tc lao lc L wx) (x y : Value) :
    ((wx.setCell ⟨w.heap.size + 1, 0, none⟩ x).setCell ⟨w.heap.size + 1, 1, none⟩ y).heap[w.heap.size + 1]? = some (.cells #[x, y] 31 (0, 0)) ∧ Below w.heap.size w ((wx.setCell ⟨w.heap.size + 1, 0, none⟩ x).setCell ⟨w.heap.size + 1, 1, none⟩ y) ∧ (∀ {lv' : Value} {L' : List TL}, RefL wx lv' L' → RefL ((wx.setCell ⟨w.heap.size + 1, 0, none⟩ x).setCell ⟨w.heap.size + 1, 1, none⟩ y) lv' L') := by
  obtain ⟨h0, _, h2, _⟩ := h.all
  refine ⟨setCell_heap_self (o := 1) (u := y) (setCell_heap_self (o := 0) (u := x) h2), (h0.setCell (by show w.heap.size ≤ w.heap.size + 1; omega) _).setCell (by show w.heap.size ≤ w.heap.size + 1; omega) _, fun hr => ?_⟩
  obtain ⟨vs, k1, k2, k3, k4⟩ := hr
  have ho : ∀ k, k ≠ w.heap.size + 1 → ((wx.setCell ⟨w.heap.size + 1, 0, none⟩ x).setCell ⟨w.heap.size + 1, 1, none⟩ y).heap[k]? = wx.heap[k]? := fun k hk => by rw [Below.heap_setCell _ _ _ _ hk, Below.heap_setCell _ _ _ _ hk]
  refine ⟨vs, k1, OL.heap k2 fun k hk => ho k ?_, k3, fun i hi => OL.heap (k4 i hi) fun k hk => ho k ?_⟩
  · obtain ⟨c1, q1⟩ := OL.elem k2 k hk
    exact type_ne q1 h2 (by decide)
  · obtain ⟨c1, q1⟩ := OL.elem (k4 i hi) k hk
    exact type_ne q1 h2 (by decide)
end
end Go.Proofs.Ytpcapmialdmcaaa

/- Maps as functions of their keys: what a look-up gives, what a store and a delete make. Over any program. -/
import Derived.Test.YtmdajndmobpgbaaKit
import Derived.Maps.Own
import Derived.Maps.OwnSet
import Derived.DeepKeys4
namespace Go.Proofs.Ytmdajndmobpgbaa
open Go.RowKit Go.Maps Go.ChangeShapes Go.WideShapes Go.WideMaps

/-- The value is a key of the type k. -/
def IsK (P : Program) (k : TypeId) (v : Value) : Prop := ∃ l, keyOf P k v = some l
open Classical in
noncomputable def fput (f : Value → Option Value) (key v : Value) : Value → Option Value := fun x => if x = key then some v else f x
open Classical in
noncomputable def fdel (f : Value → Option Value) (key : Value) : Value → Option Value := fun x => if x = key then none else f x
theorem fput_same (f : Value → Option Value) (key v : Value) : fput f key v key = some v := if_pos rfl
theorem fput_other {f : Value → Option Value} {key v x : Value} (h : x ≠ key) : fput f key v x = f x := if_neg h
theorem fdel_same (f : Value → Option Value) (key : Value) : fdel f key key = none := if_pos rfl
theorem fdel_other {f : Value → Option Value} {key x : Value} (h : x ≠ key) : fdel f key x = f x := if_neg h
/-- Block b is a map that has f's values at f's keys, and no others. -/
def MapF (P : Program) (k : TypeId) (w : World) (b : Nat) (f : Value → Option Value) : Prop :=
  ∃ es clock, w.heap[b]? = some (.map es clock) ∧ (∀ x ∈ es.toList, IsK P k x.key ∧ f x.key = some x.val) ∧ es.toList.Pairwise (fun x y => x.key ≠ y.key) ∧ (∀ key v, f key = some v → ∃ x ∈ es.toList, x.key = key) ∧ MapKept.Stamped es clock
section
variable {P : Program} {k e t : TypeId} {w w' : World} {b : Nat} {f : Value → Option Value}
theorem MapF.lt (h : MapF P k w b f) : b < w.heap.size := by obtain ⟨es, c, hb, _⟩ := h; exact lt_of_block hb
theorem MapF.at (h : MapF P k w b f) (hh : w'.heap[b]? = w.heap[b]?) : MapF P k w' b f := by obtain ⟨es, c, hb, r⟩ := h; exact ⟨es, c, hh.trans hb, r⟩
theorem MapF.belowS (h : MapF P k w b f) (hb : Below w.heap.size w w') : MapF P k w' b f := h.at (hb.block b h.lt)
theorem MapF.new (P : Program) (k : TypeId) (w : World) : MapF P k (w.alloc (.map #[] 0)) w.heap.size (fun _ => none) :=
  ⟨#[], 0, heap_alloc_new w _, fun x hx => (by simp at hx), by simp, fun key v h => (by cases h), MapKept.stamped_empty 0⟩
theorem MapF.ne {cs : Array Value} {t : TypeId} {fr : Nat × Nat} {c : Nat} (h : MapF P k w b f) (hc : w.heap[c]? = some (.cells cs t fr)) : b ≠ c := fun e => by
  obtain ⟨es, cl, hb, _⟩ := h
  rw [e, hc] at hb
  cases hb
theorem MapF.isK (h : MapF P k w b f) {key v : Value} (hf : f key = some v) : IsK P k key := by
  obtain ⟨es, c, hb, h1, _, h3, _⟩ := h
  obtain ⟨x, hx, rfl⟩ := h3 key v hf
  exact (h1 x hx).1
theorem MapF.look (K : Keyed P k) (ht : P.underlying t = some (.map k e)) {z : Value} (hz : (zeroValue e).run P w = .ok z w) (h : MapF P k w b f) {key : Value} (hk : IsK P k key) (ok : Bool) :
    (Instr.lookup t (.map (some b)) key ok).run P w = .ok (if ok then .tuple #[(f key).getD z, .bool (f key).isSome] else (f key).getD z) w := by
  obtain ⟨es, c, hb, h1, h2, h3, h4⟩ := h
  obtain ⟨kl, hkey⟩ := hk
  rcases K.find w hkey es.toList (fun x hx => (h1 x hx).1) with ⟨f1, f2⟩ | ⟨j, e0, f1, f2, f3⟩
  · have hn : f key = none := by
      cases hf : f key with
      | none => rfl
      | some v => obtain ⟨x, hx, hxk⟩ := h3 key v hf; exact absurd hxk (f2 x hx)
    rw [hn]
    cases ok <;> simp [Instr.lookup, run_underlying ht, MapKept.run_getObj_map hb, K.check w _ hkey, f1, hz, Result.andThen]
  · have hm0 : e0 ∈ es.toList := List.mem_of_getElem? f2
    have hn : f key = some e0.val := by rw [← f3]; exact (h1 e0 hm0).2
    rw [hn]
    cases ok <;> simp [Instr.lookup, run_underlying ht, MapKept.run_getObj_map hb, K.check w _ hkey, f1, Result.andThen]
theorem MapF.look_nil (K : Keyed P k) (ht : P.underlying t = some (.map k e)) {z : Value} (hz : (zeroValue e).run P w = .ok z w) {key : Value} (hk : IsK P k key) (ok : Bool) :
    (Instr.lookup t (.map none) key ok).run P w = .ok (if ok then .tuple #[z, .bool false] else z) w := by
  obtain ⟨kl, hkey⟩ := hk
  rcases K.find w hkey [] (fun x hx => by cases hx) with ⟨f1, f2⟩ | ⟨j, e0, f1, f2, f3⟩
  · cases ok <;> simp [Instr.lookup, run_underlying ht, K.check w _ hkey, f1, hz, Result.andThen]
  · simp at f2
theorem MapF.store (K : Keyed P k) (ht : P.underlying t = some (.map k e)) (h : MapF P k w b f) {key : Value} (hk : IsK P k key) (v : Value) :
    ∃ w', (Instr.mapUpdate t (.map (some b)) key v).run P w = .ok () w' ∧ MapF P k w' b (fput f key v) ∧ w.grownBy w' (some b) := by
  obtain ⟨es, c, hb, h1, h2, h3, h4⟩ := h
  have hk' := hk
  obtain ⟨kl, hkey⟩ := hk
  have grown : ∀ o, w.grownBy { w with heap := w.heap.setIfInBounds b o } (some b) := fun o => ⟨rfl, rfl, rfl, by simp, fun j _ hj => (MapKept.heap_set hb).2 j (fun e => hj (by rw [e]))⟩
  rcases K.find w hkey es.toList (fun x hx => (h1 x hx).1) with ⟨f1, f2⟩ | ⟨j, e0, f1, f2, f3⟩
  · refine ⟨{ w with heap := w.heap.setIfInBounds b (.map (es.push ⟨key, v, c⟩) (c + 1)) }, by simp [Instr.mapUpdate, run_underlying ht, MapKept.run_getObj_map hb, K.check w false hkey, f1, MapKept.run_setObj_map _ hb, Result.andThen], ⟨_, _, (MapKept.heap_set hb).1, ?_, ?_, ?_, ?_⟩, grown _⟩
    · intro x hx
      simp only [Array.toList_push, List.mem_append, List.mem_singleton] at hx
      rcases hx with hx | rfl
      · exact ⟨(h1 x hx).1, by rw [fput_other (f2 x hx)]; exact (h1 x hx).2⟩
      · exact ⟨hk', fput_same _ _ _⟩
    · rw [Array.toList_push, List.pairwise_append]
      exact ⟨h2, by simp, fun x hx y hy => by simp at hy; subst hy; exact f2 x hx⟩
    · intro key' v' hf
      by_cases e : key' = key
      · exact ⟨⟨key, v, c⟩, by simp, e.symm⟩
      · rw [fput_other e] at hf
        obtain ⟨x, hx, hxk⟩ := h3 key' v' hf
        exact ⟨x, by simp only [Array.toList_push, List.mem_append]; exact .inl hx, hxk⟩
    · exact MapKept.stamped_push h4 f2
  · have hj : es[j]? = some e0 := by simpa using f2
    have hjl : j < es.size := (Array.getElem?_eq_some_iff.1 hj).1
    have hkey0 : keyOf P k e0.key = some kl := by rw [f3]; exact hkey
    have hstay := K.stays w hkey
    have hm : (es.modify j fun e => { e with key := key, val := v }).toList = es.toList.set j { e0 with key := key, val := v } := by
      apply List.ext_getElem?
      intro i
      rw [Array.getElem?_toList, Array.getElem?_modify, List.getElem?_set, Array.getElem?_toList]
      by_cases e : j = i
      · subst e; rw [if_pos rfl, if_pos rfl, if_pos (by simpa using hjl), hj]; rfl
      · simp [e]
    refine ⟨{ w with heap := w.heap.setIfInBounds b (.map (es.modify j fun e => { e with key := key, val := v }) c) }, by simp [Instr.mapUpdate, run_underlying ht, MapKept.run_getObj_map hb, K.check w false hkey, f1, hj, f3, hstay, MapKept.run_setObj_map _ hb, Result.andThen], ⟨_, _, (MapKept.heap_set hb).1, ?_, ?_, ?_, ?_⟩, grown _⟩
    · intro x hx
      rw [hm] at hx
      obtain ⟨i, hi⟩ := List.getElem?_of_mem hx
      rw [List.getElem?_set] at hi
      by_cases e : j = i
      · rw [if_pos e] at hi
        split at hi
        · obtain rfl := Option.some.inj hi
          exact ⟨hk', fput_same _ _ _⟩
        · cases hi
      · rw [if_neg e] at hi
        have hxm := List.mem_of_getElem? hi
        have hne : x.key ≠ key := fun q => by
          obtain ⟨hil, hie⟩ := List.getElem?_eq_some_iff.1 hi
          obtain ⟨hjl', hje⟩ := List.getElem?_eq_some_iff.1 f2
          rcases Nat.lt_or_gt_of_ne e with hlt | hlt
          · exact List.pairwise_iff_getElem.1 h2 j i hjl' hil hlt (by rw [hje, hie, f3, q])
          · exact List.pairwise_iff_getElem.1 h2 i j hil hjl' hlt (by rw [hje, hie, f3, q])
        exact ⟨(h1 x hxm).1, by rw [fput_other hne]; exact (h1 x hxm).2⟩
    · have hmap : (es.modify j fun e => { e with key := key, val := v }).toList.map MapEntry.key = es.toList.map MapEntry.key := by
        rw [hm, List.map_set]
        apply List.ext_getElem?
        intro i
        rw [List.getElem?_set]
        by_cases e : j = i
        · subst e; rw [if_pos rfl, if_pos (by simpa using hjl), List.getElem?_map, f2]; exact congrArg some f3.symm
        · rw [if_neg e]
      have : ((es.modify j fun e => { e with key := key, val := v }).toList.map MapEntry.key).Pairwise (fun x y => x ≠ y) := by rw [hmap, List.pairwise_map]; exact h2
      rwa [List.pairwise_map] at this
    · intro key' v' hf
      by_cases e : key' = key
      · refine ⟨{ e0 with key := key, val := v }, ?_, e.symm⟩
        rw [hm]
        exact List.mem_set hjl _
      · rw [fput_other e] at hf
        obtain ⟨x, hx, hxk⟩ := h3 key' v' hf
        refine ⟨x, ?_, hxk⟩
        obtain ⟨i, hi⟩ := List.getElem?_of_mem hx
        have : i ≠ j := fun q => by
          subst q
          rw [f2] at hi
          obtain rfl := Option.some.inj hi
          exact e (hxk.symm.trans f3)
        rw [hm]
        exact List.mem_of_getElem? (by rw [List.getElem?_set_ne (Ne.symm this)]; exact hi)
    · exact MapKept.stamped_modify h4 j _ (fun _ _ => rfl) (fun e' _ he' => by
        rw [hj] at he'
        obtain rfl := Option.some.inj he'
        exact f3.symm)
end
/-- A struct of two strings is a key. -/
theorem isK_str {P : Program} {k : TypeId} (hk : P.underlying k = some .string) {s : ByteArray} (hs : s.size ≤ maxLen) : IsK P k (.string s) := ⟨_, keyOf_string_mk hk hs⟩
theorem isK_int {P : Program} {k : TypeId} {q : IntKind} (hk : P.underlying k = some (.int q)) {a : Int} (hw : (Lit.int q a).wf = true) : IsK P k (.int q a) := ⟨_, keyOf_int_mk hk hw⟩
theorem isK_pair {P : Program} {k : TypeId} {f0 f1 : Field} (hu : P.underlying k = some (.struct #[f0, f1])) (hkt : P.keyType k = true) (hC : P.cellsOf k = 2) (h0 : P.underlying f0.type = some .string) (h1 : P.underlying f1.type = some .string)
    (o0 : f0.offset = 0) (o1 : f1.offset = 1) (c0 : P.cellsOf f0.type = 1) (c1 : P.cellsOf f1.type = 1) (n0 : (f0.name != "_") = true) (n1 : (f1.name != "_") = true) (hm : ∃ m, P.types.size = m + 1) {a b : ByteArray} (ha : a.size ≤ maxLen) (hb : b.size ≤ maxLen) :
    IsK P k (.agg #[.string a, .string b]) := by
  obtain ⟨m, hm⟩ := hm
  have hf : Value.formed P k (.agg #[.string a, .string b]) = true := by unfold Value.formed; rw [hu]; simp [hC]
  refine ⟨.string (keyBytes [.string a.data.toList, .string b.data.toList]), ?_⟩
  unfold keyOf
  rw [hu]
  simp only [hkt, hf, Bool.and_self, if_true, hm]
  simp [Program.keyLits, hu, hC, Value.cells, h0, h1, o0, o1, c0, c1, n0, n1, ha, hb]
theorem pair_ne {a b c d : ByteArray} : (Value.agg #[.string a, .string b] = Value.agg #[.string c, .string d]) ↔ a = c ∧ b = d := by simp
end Go.Proofs.Ytmdajndmobpgbaa

/- Maps as functions of their keys: what a look-up gives, what a store and a delete make. Over any program. admission: what 'run' holds between its calls: the list of what started, the map of what is known. Conditions: each its own. AdmissionWorks in plain Lean: what a second Start does, and what When tells. No program here. The document's Next: the state in its loop. Conditions: none. -/
import Derived.Test.YtmdajndmobpgbaaZErr
import Derived.Maps.Own
import Derived.Maps.OwnSet
import Derived.DeepKeys4
import Derived.Test.YtmdajndmobpgbaaZAdRunP
import Derived.Test.YtmdajndmobpgbaaZAdRunB
import Derived.Test.YtmdajndmobpgbaaZApP
import Derived.Test.YtmdajndmobpgbaaZGrD
namespace Go.Proofs.Ytmdajndmobpgbaa
open Go.RowKit Go.Maps Go.ChangeShapes Go.WideShapes Go.WideMaps

/-- The value is a key of the type k. -/
def IsK (P : Program) (k : TypeId) (v : Value) : Prop := ∃ l, keyOf P k v = some l
open Classical in
noncomputable def fput (f : Value → Option Value) (key v : Value) : Value → Option Value := fun x => if x = key then some v else f x
open Classical in
noncomputable def fdel (f : Value → Option Value) (key : Value) : Value → Option Value := fun x => if x = key then none else f x
theorem fput_same (f : Value → Option Value) (key v : Value) : fput f key v key = some v := if_pos rfl
theorem fput_other {f : Value → Option Value} {key v x : Value} (h : x ≠ key) : fput f key v x = f x := if_neg h
theorem fdel_same (f : Value → Option Value) (key : Value) : fdel f key key = none := if_pos rfl
theorem fdel_other {f : Value → Option Value} {key x : Value} (h : x ≠ key) : fdel f key x = f x := if_neg h
/-- Block b is a map that has f's values at f's keys, and no others. -/
def MapF (P : Program) (k : TypeId) (w : World) (b : Nat) (f : Value → Option Value) : Prop :=
  ∃ es clock, w.heap[b]? = some (.map es clock) ∧ (∀ x ∈ es.toList, IsK P k x.key ∧ f x.key = some x.val) ∧ es.toList.Pairwise (fun x y => x.key ≠ y.key) ∧ (∀ key v, f key = some v → ∃ x ∈ es.toList, x.key = key) ∧ MapKept.Stamped es clock
section
variable {P : Program} {k e t : TypeId} {w w' : World} {b : Nat} {f : Value → Option Value}
theorem MapF.lt (h : MapF P k w b f) : b < w.heap.size := by obtain ⟨es, c, hb, _⟩ := h; exact lt_of_block hb
theorem MapF.at (h : MapF P k w b f) (hh : w'.heap[b]? = w.heap[b]?) : MapF P k w' b f := by obtain ⟨es, c, hb, r⟩ := h; exact ⟨es, c, hh.trans hb, r⟩
theorem MapF.belowS (h : MapF P k w b f) (hb : Below w.heap.size w w') : MapF P k w' b f := h.at (hb.block b h.lt)
theorem MapF.new (P : Program) (k : TypeId) (w : World) : MapF P k (w.alloc (.map #[] 0)) w.heap.size (fun _ => none) :=
  ⟨#[], 0, heap_alloc_new w _, fun x hx => (by simp at hx), by simp, fun key v h => (by cases h), MapKept.stamped_empty 0⟩
theorem MapF.ne {cs : Array Value} {t : TypeId} {fr : Nat × Nat} {c : Nat} (h : MapF P k w b f) (hc : w.heap[c]? = some (.cells cs t fr)) : b ≠ c := fun e => by
  obtain ⟨es, cl, hb, _⟩ := h
  rw [e, hc] at hb
  cases hb
theorem MapF.isK (h : MapF P k w b f) {key v : Value} (hf : f key = some v) : IsK P k key := by
  obtain ⟨es, c, hb, h1, _, h3, _⟩ := h
  obtain ⟨x, hx, rfl⟩ := h3 key v hf
  exact (h1 x hx).1
theorem MapF.look (K : Keyed P k) (ht : P.underlying t = some (.map k e)) {z : Value} (hz : (zeroValue e).run P w = .ok z w) (h : MapF P k w b f) {key : Value} (hk : IsK P k key) (ok : Bool) :
    (Instr.lookup t (.map (some b)) key ok).run P w = .ok (if ok then .tuple #[(f key).getD z, .bool (f key).isSome] else (f key).getD z) w := by
  obtain ⟨es, c, hb, h1, h2, h3, h4⟩ := h
  obtain ⟨kl, hkey⟩ := hk
  rcases K.find w hkey es.toList (fun x hx => (h1 x hx).1) with ⟨f1, f2⟩ | ⟨j, e0, f1, f2, f3⟩
  · have hn : f key = none := by
      cases hf : f key with
      | none => rfl
      | some v => obtain ⟨x, hx, hxk⟩ := h3 key v hf; exact absurd hxk (f2 x hx)
    rw [hn]
    cases ok <;> simp [Instr.lookup, run_underlying ht, MapKept.run_getObj_map hb, K.check w _ hkey, f1, hz, Result.andThen]
  · have hm0 : e0 ∈ es.toList := List.mem_of_getElem? f2
    have hn : f key = some e0.val := by rw [← f3]; exact (h1 e0 hm0).2
    rw [hn]
    cases ok <;> simp [Instr.lookup, run_underlying ht, MapKept.run_getObj_map hb, K.check w _ hkey, f1, Result.andThen]
theorem MapF.look_nil (K : Keyed P k) (ht : P.underlying t = some (.map k e)) {z : Value} (hz : (zeroValue e).run P w = .ok z w) {key : Value} (hk : IsK P k key) (ok : Bool) :
    (Instr.lookup t (.map none) key ok).run P w = .ok (if ok then .tuple #[z, .bool false] else z) w := by
  obtain ⟨kl, hkey⟩ := hk
  rcases K.find w hkey [] (fun x hx => by cases hx) with ⟨f1, f2⟩ | ⟨j, e0, f1, f2, f3⟩
  · cases ok <;> simp [Instr.lookup, run_underlying ht, K.check w _ hkey, f1, hz, Result.andThen]
  · simp at f2
theorem MapF.store (K : Keyed P k) (ht : P.underlying t = some (.map k e)) (h : MapF P k w b f) {key : Value} (hk : IsK P k key) (v : Value) :
    ∃ w', (Instr.mapUpdate t (.map (some b)) key v).run P w = .ok () w' ∧ MapF P k w' b (fput f key v) ∧ w.grownBy w' (some b) := by
  obtain ⟨es, c, hb, h1, h2, h3, h4⟩ := h
  have hk' := hk
  obtain ⟨kl, hkey⟩ := hk
  have grown : ∀ o, w.grownBy { w with heap := w.heap.setIfInBounds b o } (some b) := fun o => ⟨rfl, rfl, rfl, by simp, fun j _ hj => (MapKept.heap_set hb).2 j (fun e => hj (by rw [e]))⟩
  rcases K.find w hkey es.toList (fun x hx => (h1 x hx).1) with ⟨f1, f2⟩ | ⟨j, e0, f1, f2, f3⟩
  · refine ⟨{ w with heap := w.heap.setIfInBounds b (.map (es.push ⟨key, v, c⟩) (c + 1)) }, by simp [Instr.mapUpdate, run_underlying ht, MapKept.run_getObj_map hb, K.check w false hkey, f1, MapKept.run_setObj_map _ hb, Result.andThen], ⟨_, _, (MapKept.heap_set hb).1, ?_, ?_, ?_, ?_⟩, grown _⟩
    · intro x hx
      simp only [Array.toList_push, List.mem_append, List.mem_singleton] at hx
      rcases hx with hx | rfl
      · exact ⟨(h1 x hx).1, by rw [fput_other (f2 x hx)]; exact (h1 x hx).2⟩
      · exact ⟨hk', fput_same _ _ _⟩
    · rw [Array.toList_push, List.pairwise_append]
      exact ⟨h2, by simp, fun x hx y hy => by simp at hy; subst hy; exact f2 x hx⟩
    · intro key' v' hf
      by_cases e : key' = key
      · exact ⟨⟨key, v, c⟩, by simp, e.symm⟩
      · rw [fput_other e] at hf
        obtain ⟨x, hx, hxk⟩ := h3 key' v' hf
        exact ⟨x, by simp only [Array.toList_push, List.mem_append]; exact .inl hx, hxk⟩
    · exact MapKept.stamped_push h4 f2
  · have hj : es[j]? = some e0 := by simpa using f2
    have hjl : j < es.size := (Array.getElem?_eq_some_iff.1 hj).1
    have hkey0 : keyOf P k e0.key = some kl := by rw [f3]; exact hkey
    have hstay := K.stays w hkey
    have hm : (es.modify j fun e => { e with key := key, val := v }).toList = es.toList.set j { e0 with key := key, val := v } := by
      apply List.ext_getElem?
      intro i
      rw [Array.getElem?_toList, Array.getElem?_modify, List.getElem?_set, Array.getElem?_toList]
      by_cases e : j = i
      · subst e; rw [if_pos rfl, if_pos rfl, if_pos (by simpa using hjl), hj]; rfl
      · simp [e]
    refine ⟨{ w with heap := w.heap.setIfInBounds b (.map (es.modify j fun e => { e with key := key, val := v }) c) }, by simp [Instr.mapUpdate, run_underlying ht, MapKept.run_getObj_map hb, K.check w false hkey, f1, hj, f3, hstay, MapKept.run_setObj_map _ hb, Result.andThen], ⟨_, _, (MapKept.heap_set hb).1, ?_, ?_, ?_, ?_⟩, grown _⟩
    · intro x hx
      rw [hm] at hx
      obtain ⟨i, hi⟩ := List.getElem?_of_mem hx
      rw [List.getElem?_set] at hi
      by_cases e : j = i
      · rw [if_pos e] at hi
        split at hi
        · obtain rfl := Option.some.inj hi
          exact ⟨hk', fput_same _ _ _⟩
        · cases hi
      · rw [if_neg e] at hi
        have hxm := List.mem_of_getElem? hi
        have hne : x.key ≠ key := fun q => by
          obtain ⟨hil, hie⟩ := List.getElem?_eq_some_iff.1 hi
          obtain ⟨hjl', hje⟩ := List.getElem?_eq_some_iff.1 f2
          rcases Nat.lt_or_gt_of_ne e with hlt | hlt
          · exact List.pairwise_iff_getElem.1 h2 j i hjl' hil hlt (by rw [hje, hie, f3, q])
          · exact List.pairwise_iff_getElem.1 h2 i j hil hjl' hlt (by rw [hje, hie, f3, q])
        exact ⟨(h1 x hxm).1, by rw [fput_other hne]; exact (h1 x hxm).2⟩
    · have hmap : (es.modify j fun e => { e with key := key, val := v }).toList.map MapEntry.key = es.toList.map MapEntry.key := by
        rw [hm, List.map_set]
        apply List.ext_getElem?
        intro i
        rw [List.getElem?_set]
        by_cases e : j = i
        · subst e; rw [if_pos rfl, if_pos (by simpa using hjl), List.getElem?_map, f2]; exact congrArg some f3.symm
        · rw [if_neg e]
      have : ((es.modify j fun e => { e with key := key, val := v }).toList.map MapEntry.key).Pairwise (fun x y => x ≠ y) := by rw [hmap, List.pairwise_map]; exact h2
      rwa [List.pairwise_map] at this
    · intro key' v' hf
      by_cases e : key' = key
      · refine ⟨{ e0 with key := key, val := v }, ?_, e.symm⟩
        rw [hm]
        exact List.mem_set hjl _
      · rw [fput_other e] at hf
        obtain ⟨x, hx, hxk⟩ := h3 key' v' hf
        refine ⟨x, ?_, hxk⟩
        obtain ⟨i, hi⟩ := List.getElem?_of_mem hx
        have : i ≠ j := fun q => by
          subst q
          rw [f2] at hi
          obtain rfl := Option.some.inj hi
          exact e (hxk.symm.trans f3)
        rw [hm]
        exact List.mem_of_getElem? (by rw [List.getElem?_set_ne (Ne.symm this)]; exact hi)
    · exact MapKept.stamped_modify h4 j _ (fun _ _ => rfl) (fun e' _ he' => by
        rw [hj] at he'
        obtain rfl := Option.some.inj he'
        exact f3.symm)
end
/-- A struct of two strings is a key. -/
theorem isK_str {P : Program} {k : TypeId} (hk : P.underlying k = some .string) {s : ByteArray} (hs : s.size ≤ maxLen) : IsK P k (.string s) := ⟨_, keyOf_string_mk hk hs⟩
theorem isK_int {P : Program} {k : TypeId} {q : IntKind} (hk : P.underlying k = some (.int q)) {a : Int} (hw : (Lit.int q a).wf = true) : IsK P k (.int q a) := ⟨_, keyOf_int_mk hk hw⟩
theorem isK_pair {P : Program} {k : TypeId} {f0 f1 : Field} (hu : P.underlying k = some (.struct #[f0, f1])) (hkt : P.keyType k = true) (hC : P.cellsOf k = 2) (h0 : P.underlying f0.type = some .string) (h1 : P.underlying f1.type = some .string)
    (o0 : f0.offset = 0) (o1 : f1.offset = 1) (c0 : P.cellsOf f0.type = 1) (c1 : P.cellsOf f1.type = 1) (n0 : (f0.name != "_") = true) (n1 : (f1.name != "_") = true) (hm : ∃ m, P.types.size = m + 1) {a b : ByteArray} (ha : a.size ≤ maxLen) (hb : b.size ≤ maxLen) :
    IsK P k (.agg #[.string a, .string b]) := by
  obtain ⟨m, hm⟩ := hm
  have hf : Value.formed P k (.agg #[.string a, .string b]) = true := by unfold Value.formed; rw [hu]; simp [hC]
  refine ⟨.string (keyBytes [.string a.data.toList, .string b.data.toList]), ?_⟩
  unfold keyOf
  rw [hu]
  simp only [hkt, hf, Bool.and_self, if_true, hm]
  simp [Program.keyLits, hu, hC, Value.cells, h0, h1, o0, o1, c0, c1, n0, n1, ha, hb]
theorem pair_ne {a b c d : ByteArray} : (Value.agg #[.string a, .string b] = Value.agg #[.string c, .string d]) ↔ a = c ∧ b = d := by simp
end Go.Proofs.Ytmdajndmobpgbaa

namespace Go.Proofs.Ytmdajndmobpgbaa
open Go.RowKit Go.Maps
open Go.Proofs.Ytmdajndmobpgbaa.Fq
open Go.Proofs.Ytmdajndmobpgbaa.Bk

def bgV (b : Bg) : Value := .agg #[.int .i64 b.t, .int .i64 b.p, .int .i64 b.at_, .int .i64 b.pl]
def bgCells : List Bg → List Value
  | [] => []
  | s :: r => .int .i64 s.t :: .int .i64 s.p :: .int .i64 s.at_ :: .int .i64 s.pl :: bgCells r
theorem bgCells_len : ∀ l : List Bg, (bgCells l).length = l.length * 4
  | [] => rfl
  | s :: r => by simp [bgCells, bgCells_len r]; omega
theorem bgCells_get : ∀ (l : List Bg) (i : Nat), i < l.length → (bgCells l)[i * 4]? = some (.int .i64 (bgAt l i).t) ∧ (bgCells l)[i * 4 + 1]? = some (.int .i64 (bgAt l i).p) ∧ (bgCells l)[i * 4 + 2]? = some (.int .i64 (bgAt l i).at_) ∧ (bgCells l)[i * 4 + 3]? = some (.int .i64 (bgAt l i).pl)
  | s :: r, 0, _ => by simp [bgCells, bgAt]
  | s :: r, i + 1, h => by
    have := bgCells_get r i (by simpa using h)
    have e : bgAt (s :: r) (i + 1) = bgAt r i := by simp [bgAt]
    rw [e]
    simp only [bgCells, Nat.add_mul, List.getElem?_cons_succ]
    exact ⟨by simpa using this.1, by simpa using this.2.1, by simpa using this.2.2.1, by simpa using this.2.2.2⟩
theorem bgCells_one (l : List Bg) : ∀ u ∈ bgCells l, u.oneCell' = true := by
  induction l with
  | nil => simp [bgCells]
  | cons x r ih => simp only [bgCells, List.mem_cons]; rintro u (rfl | rfl | rfl | rfl | h); rfl; rfl; rfl; rfl; exact ih u h
theorem bgCells_append (l : List Bg) (x : Bg) : bgCells (l ++ [x]) = bgCells l ++ bgCells [x] := by
  induction l with
  | nil => rfl
  | cons a r ih => simp [bgCells, ih]
def IsG (w : World) (v : Value) (l : List Bg) : Prop := OL w 76 4 v l.length (bgCells l)
theorem infoG : (Try.prog.info? 76).map (fun i => (i.zero, i.size, i.bytes)) = some (some (.agg #[.int .i64 0, .int .i64 0, .int .i64 0, .int .i64 0]), 4, 32) := by kernel_rfl
theorem zeroG (w : World) : (zeroValue 76).run Try.prog w = .ok (bgV bg0) w := by kernel_rfl
section
variable {w w' : World} {v : Value} {l : List Bg}
theorem IsG.form (h : IsG w v l) : ∃ ao cap, v = .slice ao l.length cap ∧ (0 < l.length → ∃ g off, ao = some ⟨g, off, none⟩) ∧ l.length ≤ cap ∧ cap ≤ 9223372036854775807 := by
  rcases OL.forms h with ⟨e, e0⟩ | ⟨g, off, cp, e, h1, h2, _⟩
  · exact ⟨none, 0, by rw [e, e0], fun h => by omega, by omega, by omega⟩
  · exact ⟨_, cp, e, fun _ => ⟨g, off, rfl⟩, h1, h2⟩
theorem IsG.belowS (h : IsG w v l) (hb : Below w.heap.size w w') : IsG w' v l := OL.below h hb fun g hg => OL.lt h g hg
theorem IsG.at_ {g off n cp : Nat} (h : IsG w (.slice (some ⟨g, off, none⟩) n cp) l) {q : Nat} (hq : q < l.length) (hn : n = l.length) : w.cell? ⟨g, off + q * 4, none⟩ = some (.int .i64 (bgAt l q).t) ∧ w.cell? ⟨g, off + q * 4 + 1, none⟩ = some (.int .i64 (bgAt l q).p) ∧ w.cell? ⟨g, off + q * 4 + 2, none⟩ = some (.int .i64 (bgAt l q).at_) ∧ w.cell? ⟨g, off + q * 4 + 3, none⟩ = some (.int .i64 (bgAt l q).pl) := by
  subst hn
  have hc := bgCells_get l q hq
  exact ⟨(OL.cell h (q * 4) (by omega)).trans hc.1, (OL.cell h (q * 4 + 1) (by omega)).trans hc.2.1, (OL.cell h (q * 4 + 2) (by omega)).trans hc.2.2.1, (OL.cell h (q * 4 + 3) (by omega)).trans hc.2.2.2⟩
theorem bg_append (h : IsG w v l) (hl : l.length ≤ 1000000) (x : Bg) :
    ∃ ao cap w', (Builtin.append_ #[72, 72] 72 #[v, .slice (some ⟨w.heap.size, 0, none⟩) 1 1]).run Try.prog (w.alloc (.cells #[.int .i64 x.t, .int .i64 x.p, .int .i64 x.at_, .int .i64 x.pl] 76)) = .ok (.slice ao (l.length + 1) cap) w' ∧ IsG w' (.slice ao (l.length + 1) cap) (l ++ [x]) ∧ w.grownBy w' v.ownBlock ∧
      (∀ g, (Value.slice ao (l.length + 1) cap).ownBlock = some g → v.ownBlock = some g ∨ w.heap.size ≤ g) := by
  obtain ⟨ao, cap, w', h1, h2, h3, h4⟩ := one_append h 72 _ 32 Try.underlying72 infoG rfl (by omega) (bgCells [x]) rfl (bgCells_one _) hl (by omega)
  refine ⟨ao, cap, w', h1, ?_, h3, h4⟩
  show OL w' _ 4 _ (l ++ [x]).length (bgCells (l ++ [x]))
  rw [bgCells_append, List.length_append]
  exact h2
end
/-- What is known, as a map. -/
def knF (kn : Int → Option Bg) : Value → Option Value
  | .int .i64 x => (kn x).map bgV
  | _ => none
theorem knF_none : knF (fun _ => none) = fun _ => none := funext fun v => by
  unfold knF
  split <;> rfl
theorem knF_put (kn : Int → Option Bg) (id : Int) (b : Bg) : fput (knF kn) (.int .i64 id) (bgV b) = knF (fun x => if x = id then some b else kn x) := funext fun v => by
  by_cases e : v = .int .i64 id
  · subst e
    rw [fput_same]
    show _ = (if id = id then some b else kn id).map bgV
    rw [if_pos rfl]; rfl
  · rw [fput_other e]
    unfold knF
    split
    · rename_i n
      have : n ≠ id := fun h => e (by rw [h])
      simp [this]
    · rfl
section
variable {w0 w w' : World} {K J : Nat → Prop} {b mb : Nat} {s s' : AS} {kn : Int → Option Bg} {now : Int} {o o' : List Int} {a a' : List Nat}
theorem kInt64 {x : Int} (hb : -9223372036854775808 ≤ x ∧ x ≤ 9223372036854775807) : IsK Try.prog 3 (.int .i64 x) := isK_int Try.underlying3 (WalkArith.wf_i64 hb)
theorem kn_look (h : MapF Try.prog 3 w mb (knF kn)) {x : Int} {g : Bg} (hx : kn x = some g) :
    (Instr.lookup 134 (.map (some mb)) (.int .i64 x) true).run Try.prog w = .ok (.tuple #[bgV g, .bool true]) w := by
  have := h.look (Maps.int_keyed Try.underlying3) Try.underlying134 (zeroG w) (h.isK (show knF kn (.int .i64 x) = some (bgV g) by show (kn x).map bgV = _; rw [hx]; rfl)) true
  rw [this]
  show Result.ok (if true = true then Value.tuple #[((kn x).map bgV).getD _, .bool ((kn x).map bgV).isSome] else _) w = _
  rw [hx]
  rfl
theorem CA.app {v v' : Value} (h : CA w0 (fun k => J k ∨ v.ownBlock = some k) b s w) (hg : w.grownBy w' v.ownBlock) (h0 : ∀ g, v.ownBlock = some g → w0.heap.size ≤ g) (hown : ∀ g, v'.ownBlock = some g → v.ownBlock = some g ∨ w.heap.size ≤ g) (hlt : ∀ g, v'.ownBlock = some g → g < w'.heap.size) :
    CA w0 (fun k => J k ∨ v'.ownBlock = some k) b s w' := by
  obtain ⟨⟨m, hA, hF⟩, ho, hbe, hl⟩ := h.grown hg fun g e => ⟨.inr e, h0 g e⟩
  obtain ⟨⟨m0, hA0, hF0⟩, _⟩ := h
  refine ⟨⟨m0, hA0.same fun k hk => hg.block k (hA0.fa_lt k hk) fun e => (hF0 k hk).2 (.inr e.symm), fun k hk => ⟨(hF0 k hk).1, fun hj => ?_⟩⟩, ho, hbe, fun k hk => hk.elim (fun hj => hl k (.inl hj)) (hlt k)⟩
  rcases hj with hj | hj
  · exact (hF0 k hk).2 (.inl hj)
  · rcases hown k hj with h1 | h1
    · exact (hF0 k hk).2 (.inr h1)
    · have := hA0.fa_lt k hk; omega
theorem SLoop.facts (h : SLoop now s o a s' o' a') : ∃ o2, o' = o ++ o2 ∧ s'.run = s.run ++ o2 ∧ s'.sh = s.sh ∧ s'.slots = s.slots := by
  induction h with
  | full s o a _ => exact ⟨[], by simp, by simp, rfl, rfl⟩
  | none s o a _ _ => exact ⟨[], by simp, by simp, rfl, rfl⟩
  | fail s o a f1 en r s' o' a' _ hc hl hf _ ih => exact ih
  | ok s o a f1 en r s' o' a' hr hc hl hf _ ih =>
    obtain ⟨o2, e1, e2, e3, e4⟩ := ih
    exact ⟨en.1 :: o2, by rw [e1]; simp, by rw [e2]; show s.run ++ [en.1] ++ o2 = _; simp, e3, e4⟩
theorem subS_sh (s : AS) (t id c : Int) : (subS s t id c).sh = s.sh ∧ (subS s t id c).slots = s.slots ∧ (subS s t id c).run = s.run := by
  unfold subS
  split <;> exact ⟨rfl, rfl, rfl⟩
theorem finS_sh (s : AS) (id : Int) : (finS s id).sh = s.sh ∧ (finS s id).slots = s.slots := by
  unfold finS
  split <;> exact ⟨rfl, rfl⟩
end
/-- Between the calls of 'run'. -/
structure RunAt (w0 : World) (b mb : Nat) (vo : Value) (X : Nat → Nat → Int) (ns : Nat) (slots now : Int) (n : Nat) (s : AS) (kn : Int → Option Bg) (out : List Bg) (w : World) : Prop where
  c : CA w0 (fun k => k = mb ∨ vo.ownBlock = some k) b s w
  m : MapF Try.prog 3 w mb (knF kn)
  g : IsG w vo out
  o1 : w0.heap.size ≤ mb
  o2 : ∀ g, vo.ownBlock = some g → w0.heap.size ≤ g
  r : RI s now n kn out
  sh : s.sh = shOf X ns
  sl : s.slots = slots
  l : out.length ≤ 256 * n
  t : now ≤ 65535 * (n : Int)
section
variable {w0 w w' : World} {b mb : Nat} {vo : Value} {X : Nat → Nat → Int} {ns n : Nat} {slots now : Int} {s s' : AS} {kn : Int → Option Bg} {out : List Bg}
theorem RunAt.start (h : CA w0 (fun _ => False) b (AS.init (shOf X ns) slots) w) : RunAt w0 b w.heap.size (.slice none 0 0) X ns slots 0 0 (AS.init (shOf X ns) slots) (fun _ => none) [] (w.alloc (.map #[] 0)) where
  c := by
    have hal : Below w.heap.size w (w.alloc (.map #[] 0)) := (Below.refl _ _).alloc (Nat.le_refl _) _
    refine (h.add (J := fun k => k = w.heap.size) hal (fun k hk => by simp; omega)).less fun k hk => ?_
    rcases hk with hk | hk
    · exact .inr hk
    · simp [Value.ownBlock] at hk
  m := by rw [knF_none]; exact MapF.new _ _ _
  g := OL.nil _ _ _
  o1 := h.be.size
  o2 := fun g hg => by simp [Value.ownBlock] at hg
  r := RI.init
  sh := rfl
  sl := rfl
  l := Nat.zero_le _
  t := by omega
/-- A call that keeps what is listed and known. -/
theorem RunAt.call (h : RunAt w0 b mb vo X ns slots now n s kn out w) {now' : Int} {n' : Nat} (hc : CA w0 (fun k => k = mb ∨ vo.ownBlock = some k) b s' w') (hs : SameA (fun k => k = mb ∨ vo.ownBlock = some k) w w') (hr : RI s' now' n' kn out) (hsh : s'.sh = s.sh) (hsl : s'.slots = s.slots) (hn : n ≤ n') (ht : now' ≤ 65535 * (n' : Int)) :
    RunAt w0 b mb vo X ns slots now' n' s' kn out w' where
  c := hc
  m := h.m.at (hs mb (.inl rfl))
  g := h.g.heap fun g hg => hs g (.inr hg)
  o1 := h.o1
  o2 := h.o2
  r := hr
  sh := hsh.trans h.sh
  sl := hsl.trans h.sl
  l := by have := h.l; omega
  t := ht
theorem RunAt.bel (h : RunAt w0 b mb vo X ns slots now n s kn out w) (hb : Below w.heap.size w w') : RunAt w0 b mb vo X ns slots now n s kn out w' :=
  { h with c := h.c.bel hb, m := h.m.belowS hb, g := h.g.belowS hb }
end
end Go.Proofs.Ytmdajndmobpgbaa

namespace Go.Proofs.Ytmdajndmobpgbaa
open Go.RowKit
open Go.Proofs.Ytmdajndmobpgbaa.Fq
open Go.Proofs.Ytmdajndmobpgbaa.Bk

/-- No tenant with requests has the tokens at a reading. -/
def NoneAt (s : AS) (now : Int) : Prop := ∀ t, t < s.m → s.q t ≠ [] → s.takes t now = false
section
variable {s s' s1 s2 : AS} {a a' a1 a2 : List Nat} {o o' o1 o2 : List Int} {f1 : FQ} {en : Ent} {r : List Ent} {now : Int}
theorem take_twice {B T K P L : Int} (g : BkOk B T K P L) {n : Int} (h : takeOk B T K P L now n = false) : takeOk B T K (takeP B T K P L now n) (takeL L now n) now n = false := by
  have h1 := again g now n
  rw [h, if_neg (by simp), Int.sub_zero] at h1
  unfold takeOk at h ⊢
  rw [h1]; exact h
theorem take_mono {B T K P L n a b : Int} (g : BkOk B T K P L) (hab : a ≤ b) (h : takeOk B T K P L b n = false) : takeOk B T K P L a n = false := by
  have h1 := atP_mono g hab
  unfold takeOk at h ⊢
  simp only [Bool.or_eq_false_iff, Bool.and_eq_false_iff, decide_eq_false_iff_not] at h ⊢
  refine ⟨h.1, h.2.imp id fun h2 h3 => h2 (by omega)⟩
theorem failed_q (s : AS) (t : Nat) (now : Int) (i : Nat) : (s.failed t now).q i = s.q i := rfl
theorem failed_price (s : AS) (t : Nat) (now : Int) (i : Nat) : priceOf (s.failed t now) i = priceOf s i := rfl
theorem failed_ne {t i : Nat} (h : t ≠ i) (x : Int) : (s.failed t now).takes i x = s.takes i x := by
  have hb : (s.failed t now).bkt i = s.bkt i := AS.bkt_ne h _
  unfold AS.takes
  rw [hb, failed_price]
  rfl
theorem failed_self {t : Nat} (ok : LOk s a) (ht : t < s.m) (h : s.takes t now = false) : (s.failed t now).takes t now = false := by
  have hb : (s.failed t now).bkt t = (takeP (s.shr t).b (s.shr t).t (s.shr t).k (s.bkt t).1 (s.bkt t).2 now (priceOf s t), takeL (s.bkt t).2 now (priceOf s t)) := AS.bkt_self (by rw [ok.lk]; exact ht) _
  unfold AS.takes
  rw [hb, failed_price]
  exact take_twice (ok.bok t ht) h
theorem began_ne {i : Nat} (hi : f1.cur ≠ i) (x : Int) : (s.began f1 now en.1).q i = s.q i ∧ (s.began f1 now en.1).takes i x = s.takes i x := by
  have hq : (s.began f1 now en.1).q i = s.q i := AS.q_ne (s := (s.took f1.cur now).setF f1.pop) hi _
  have hb : (s.began f1 now en.1).bkt i = s.bkt i := AS.bkt_ne (s := s) hi _
  have hp : priceOf (s.began f1 now en.1) i = priceOf s i := by
    unfold priceOf
    rw [hq]
    rfl
  refine ⟨hq, ?_⟩
  unfold AS.takes
  rw [hb, hp]
  rfl
/-- Nothing starts where no tenant has the tokens. -/
theorem SLoop.noneAt (h : SLoop now s o a s' o' a') : LOk s a → NoneAt s now → o' = o := by
  induction h with
  | full s o a hn => exact fun _ _ => rfl
  | none s o a hn hb => exact fun _ _ => rfl
  | fail s o a f1 en r s' o' a' hn hc hl ht hs ih =>
    intro ok hN
    obtain ⟨h1, h2, h3, h4⟩ := ok.cur hc hl
    refine ih (ok.failed hc hl now) fun i hi hq => ?_
    by_cases e : f1.cur = i
    · subst e; exact failed_self ok h1 ht
    · rw [failed_ne e]; exact hN i hi hq
  | ok s o a f1 en r s' o' a' hn hc hl ht hs ih =>
    intro ok hN
    obtain ⟨h1, h2, h3, h4⟩ := ok.cur hc hl
    have := hN f1.cur h1 (by rw [h3]; simp)
    rw [ht] at this; cases this
/-- Behind a Start that leaves a slot no tenant has the tokens. -/
theorem SLoop.after (h : SLoop now s o a s' o' a') : LOk s a → (∀ i ∈ a, s.takes i now = false) → (s'.run.length : Int) < s'.slots → ∀ t, t < s'.m → s'.q t ≠ [] → s'.takes t now = false := by
  induction h with
  | full s o a hn => exact fun _ _ hs => absurd hs hn
  | none s o a hn hb =>
    intro ok ha _ t ht hq
    by_cases hm : t ∈ a
    · exact ha t hm
    · have := anyB_true (s := s.f) (t := t) (by rw [ok.lf]; exact ht) (by rw [ok.fe t ht hm]; exact hq)
      rw [hb] at this; cases this
  | fail s o a f1 en r s' o' a' hn hc hl ht hs ih =>
    intro ok ha
    obtain ⟨h1, h2, h3, h4⟩ := ok.cur hc hl
    refine ih (ok.failed hc hl now) fun i hi => ?_
    rcases List.mem_append.1 hi with hi | hi
    · rw [failed_ne (fun e => h2 (by rw [e]; exact hi))]; exact ha i hi
    · obtain rfl := List.mem_singleton.1 hi
      exact failed_self ok h1 ht
  | ok s o a f1 en r s' o' a' hn hc hl ht hs ih =>
    intro ok ha
    obtain ⟨h1, h2, h3, h4⟩ := ok.cur hc hl
    refine ih (ok.began hc hl hn now) fun i hi => ?_
    rw [(began_ne (s := s) (f1 := f1) (en := en) (fun e => h2 (by rw [e]; exact hi)) now).2]
    exact ha i hi
theorem SLoop.noneAfter (h : SLoop now s [] [] s' o' a') (ok : AOk s) (hr : (s'.run.length : Int) < s'.slots) : NoneAt s'.back now := h.after ok (fun _ hi => by cases hi) hr
/-- Something starts where a tenant has the tokens and a slot is free. -/
theorem SLoop.some (h : SLoop now s o a s' o' a') : LOk s a → (s.run.length : Int) < s.slots → ∀ t, t < s.m → t ∉ a → s.q t ≠ [] → s.takes t now = true → o.length < o'.length := by
  induction h with
  | full s o a hn => exact fun _ hs => absurd hs hn
  | none s o a hn hb =>
    intro ok _ t ht hm hq _
    have := anyB_true (s := s.f) (t := t) (by rw [ok.lf]; exact ht) (by rw [ok.fe t ht hm]; exact hq)
    rw [hb] at this; cases this
  | fail s o a f1 en r s' o' a' hn hc hl ht hs ih =>
    intro ok hr t htm hm hq htk
    obtain ⟨h1, h2, h3, h4⟩ := ok.cur hc hl
    have hne : f1.cur ≠ t := fun e => by rw [e, htk] at ht; cases ht
    refine ih (ok.failed hc hl now) hr t htm (fun hi => ?_) hq (by rw [failed_ne hne]; exact htk)
    rcases List.mem_append.1 hi with hi | hi
    · exact hm hi
    · exact hne (List.mem_singleton.1 hi).symm
  | ok s o a f1 en r s' o' a' hn hc hl ht hs ih =>
    intro ok hr t htm hm hq htk
    obtain ⟨o2, e, _⟩ := hs.facts
    rw [e, List.length_append, List.length_append, List.length_singleton]
    omega
/-- A Start is what it is. -/
theorem SLoop.det (h : SLoop now s o a s1 o1 a1) : LOk s a → SLoop now s o a s2 o2 a2 → s1 = s2 ∧ o1 = o2 ∧ a1 = a2 := by
  have noB : ∀ {s : AS} {a : List Nat} {f1 : FQ} {en : Ent} {r : List Ent}, LOk s a → Chs s.f f1 → f1.lst f1.cur = en :: r → anyB s.f = false → False := fun {s a f1 en r} ok hc hl hb => by
    obtain ⟨h1, h2, h3, h4⟩ := ok.cur hc hl
    have := anyB_true (s := s.f) (t := f1.cur) (by rw [ok.lf]; exact h1) (by rw [h4]; simp)
    rw [hb] at this; cases this
  induction h with
  | full s o a hn =>
    intro ok h2
    cases h2 with
    | full => exact ⟨rfl, rfl, rfl⟩
    | none _ _ _ hn2 => exact absurd hn2 hn
    | fail _ _ _ _ _ _ _ _ _ hn2 => exact absurd hn2 hn
    | ok _ _ _ _ _ _ _ _ _ hn2 => exact absurd hn2 hn
  | none s o a hn hb =>
    intro ok h2
    cases h2 with
    | full _ _ _ hn2 => exact absurd hn hn2
    | none => exact ⟨rfl, rfl, rfl⟩
    | fail _ _ _ f1 en r _ _ _ _ hc hl => exact (noB ok hc hl hb).elim
    | ok _ _ _ f1 en r _ _ _ _ hc hl => exact (noB ok hc hl hb).elim
  | fail s o a f1 en r s' o' a' hn hc hl ht hs ih =>
    intro ok h2
    cases h2 with
    | full _ _ _ hn2 => exact absurd hn hn2
    | none _ _ _ _ hb => exact (noB ok hc hl hb).elim
    | fail _ _ _ f2 en2 r2 _ _ _ _ hc2 hl2 ht2 hs2 =>
      obtain rfl := hc.det hc2
      exact ih (ok.failed hc hl now) hs2
    | ok _ _ _ f2 en2 r2 _ _ _ _ hc2 hl2 ht2 =>
      obtain rfl := hc.det hc2
      rw [ht] at ht2; cases ht2
  | ok s o a f1 en r s' o' a' hn hc hl ht hs ih =>
    intro ok h2
    cases h2 with
    | full _ _ _ hn2 => exact absurd hn hn2
    | none _ _ _ _ hb => exact (noB ok hc hl hb).elim
    | fail _ _ _ f2 en2 r2 _ _ _ _ hc2 hl2 ht2 =>
      obtain rfl := hc.det hc2
      rw [ht] at ht2; cases ht2
    | ok _ _ _ f2 en2 r2 _ _ _ _ hc2 hl2 ht2 hs2 =>
      obtain rfl := hc.det hc2
      rw [hl] at hl2
      obtain ⟨rfl, rfl⟩ := List.cons.inj hl2
      exact ih (ok.began hc hl hn now) hs2
/-- Where When tells nothing, no reading is early or late enough. -/
theorem wBest_none_at {s : AS} {now : Int} (ok : AOk s) (hn0 : 0 ≤ now) (hn1 : now ≤ 1099511627776) : ∀ k, k ≤ s.m → wBest s now k = none → ∀ t, t < k → s.q t ≠ [] → ∀ y, y ≤ 1099511627776 → s.takes t y = false
  | 0, _, _, t, ht, _, _, _ => by omega
  | k + 1, hk, h, t, ht, hqt, y, hy => by
    have hw : wBest s now (k + 1) = wStep s now k (wBest s now k) := rfl
    rw [hw] at h
    unfold wStep at h
    by_cases hq : s.q k = []
    · rw [if_pos hq] at h
      by_cases e : t = k
      · subst e; exact absurd hq hqt
      · exact wBest_none_at ok hn0 hn1 k (by omega) h t (by omega) hqt y hy
    · rw [if_neg hq] at h
      by_cases hE : whenE (s.shr k).b (s.shr k).t (s.shr k).k (s.bkt k).1 (s.bkt k).2 now (priceOf s k) = 0
      · rw [if_pos hE] at h
        cases ho : wBest s now k with
        | none => rw [ho] at h; cases h
        | some z =>
          rw [ho] at h
          unfold wPick at h
          dsimp only at h
          split at h <;> cases h
      · rw [if_neg hE] at h
        by_cases e : t = k
        · subst e
          have g := ok.bok t (by omega)
          have hpr : 1 ≤ priceOf s t ∧ priceOf s t ≤ (s.shr t).b := by
            obtain ⟨e, l, he⟩ : ∃ e l, s.q t = e :: l := by
              cases hqq : s.q t with
              | nil => exact absurd hqq hq
              | cons e l => exact ⟨e, l, rfl⟩
            have hz := ok.sz t (by omega) e (by rw [he]; simp)
            have hb := g.b1
            unfold priceOf
            rw [he]
            dsimp only
            omega
          exact take_mono g hy (wait_none g hpr.1 hpr.2 hE).2.2
        · exact wBest_none_at ok hn0 hn1 k (by omega) h t (by omega) hqt y hy
/-- What When tells, if it tells a reading. -/
theorem wBest_some (ok : AOk s) (hn0 : 0 ≤ now) (hn1 : now ≤ 1099511627776) : ∀ k, k ≤ s.m → ∀ x, wBest s now k = some x → (∃ t, t < k ∧ s.q t ≠ [] ∧ s.takes t x = true) ∧ x ≤ 1099511627776 ∧ now ≤ x ∧
    ∀ t, t < k → s.q t ≠ [] → ∀ y, now ≤ y → y < x → s.takes t y = false
  | 0, _, x, h => by cases h
  | k + 1, hk, x, h => by
    have ih := wBest_some ok hn0 hn1 k (by omega)
    have hw : wBest s now (k + 1) = wStep s now k (wBest s now k) := rfl
    rw [hw] at h
    unfold wStep at h
    by_cases hq : s.q k = []
    · rw [if_pos hq] at h
      obtain ⟨⟨t, ht, h1, h2⟩, h3, h4, h5⟩ := ih x h
      refine ⟨⟨t, by omega, h1, h2⟩, h3, h4, fun i hi hqi => ?_⟩
      by_cases e : i = k
      · subst e; exact absurd hq hqi
      · exact h5 i (by omega) hqi
    · rw [if_neg hq] at h
      have g := ok.bok k (by omega)
      have hpr : 1 ≤ priceOf s k ∧ priceOf s k ≤ (s.shr k).b := by
        obtain ⟨e, l, he⟩ : ∃ e l, s.q k = e :: l := by
          cases hqq : s.q k with
          | nil => exact absurd hqq hq
          | cons e l => exact ⟨e, l, rfl⟩
        have hz := ok.sz k (by omega) e (by rw [he]; simp)
        have hb := g.b1
        unfold priceOf
        rw [he]
        dsimp only
        omega
      by_cases hE : whenE (s.shr k).b (s.shr k).t (s.shr k).k (s.bkt k).1 (s.bkt k).2 now (priceOf s k) = 0
      · rw [if_pos hE] at h
        obtain ⟨w1, w2, w3, w4⟩ := wait_some g hn0 hn1 hpr.1 hpr.2 hE
        generalize whenT (s.shr k).b (s.shr k).t (s.shr k).k (s.bkt k).1 (s.bkt k).2 now (priceOf s k) = T at *
        have hk1 : ∀ y, now ≤ y → y < T → s.takes k y = false := fun y h1 h2 => by
          rcases w4 with w4 | w4
          · omega
          · exact take_mono g (show y ≤ T - 1 by omega) w4
        cases ho : wBest s now k with
        | none =>
          rw [ho] at h
          obtain rfl : T = x := Option.some.inj h
          refine ⟨⟨k, by omega, hq, w3⟩, w2, w1, fun i hi hqi y h1 h2 => ?_⟩
          by_cases e : i = k
          · subst e; exact hk1 y h1 h2
          · exact wBest_none_at ok hn0 hn1 k (by omega) ho i (by omega) hqi y (by omega)
        | some z =>
          obtain ⟨⟨t, ht, i1, i2⟩, i3, i4, i5⟩ := ih z ho
          rw [ho] at h
          unfold wPick at h
          dsimp only at h
          by_cases hlt : T < z
          · rw [if_pos hlt] at h
            obtain rfl : T = x := Option.some.inj h
            refine ⟨⟨k, by omega, hq, w3⟩, w2, w1, fun i hi hqi y h1 h2 => ?_⟩
            by_cases e : i = k
            · subst e; exact hk1 y h1 h2
            · exact i5 i (by omega) hqi y h1 (by omega)
          · rw [if_neg hlt] at h
            obtain rfl : z = x := Option.some.inj h
            refine ⟨⟨t, by omega, i1, i2⟩, i3, i4, fun i hi hqi y h1 h2 => ?_⟩
            by_cases e : i = k
            · subst e; exact hk1 y h1 (by omega)
            · exact i5 i (by omega) hqi y h1 h2
      · rw [if_neg hE] at h
        obtain ⟨⟨t, ht, h1, h2⟩, h3, h4, h5⟩ := ih x h
        refine ⟨⟨t, by omega, h1, h2⟩, h3, h4, fun i hi hqi y hy1 hy2 => ?_⟩
        by_cases e : i = k
        · subst e
          exact take_mono g (show y ≤ 1099511627776 by omega) (wait_none g hpr.1 hpr.2 hE).2.2
        · exact h5 i (by omega) hqi y hy1 hy2
end
end Go.Proofs.Ytmdajndmobpgbaa

namespace Go.Proofs.Ytmdajndmobpgbaa
open Go.RowKit
open Go.Proofs.Ytmdajndmobpgbaa.Fq

/-- The loop's state: the copied queue in the box bx, its parts in blocks from B on. -/
structure NxS (w : World) (bx B : Nat) (vq : Value) (gd od cd gl ol cl : Nat) (lv : List Value) (m : Nat) (s : FQ) (wx : World) : Prop where
  mH : s.m = m
  qx : wx.heap[bx]? = some (.cells #[vq, .slice (some ⟨gd, od, none⟩) m cd, .slice (some ⟨gl, ol, none⟩) m cl, .int .i64 s.cur, .bool s.begun] 55 (0, 0))
  rb : wx.heap[bx + 1]? = some (.cells zQ 55 (0, 0))
  f : RQF B wx vq gd od cd gl ol cl lv s
  b : Below w.heap.size w wx
  lb : w.heap.size ≤ bx
  lB : w.heap.size ≤ B
  gH : Gd s
section
variable {w wx wy : World} {bx B gd od cd gl ol cl m : Nat} {vq : Value} {lv : List Value} {s : FQ} {e : Ent} {r : List Ent}
theorem NxS.bel (h : NxS w bx B vq gd od cd gl ol cl lv m s wx) (hb : Below wx.heap.size wx wy) : NxS w bx B vq gd od cd gl ol cl lv m s wy :=
  ⟨h.mH, (hb.block _ (lt_of_block h.qx)).trans h.qx, (hb.block _ (lt_of_block h.rb)).trans h.rb, h.f.bel hb, h.b.trans (hb.mono h.b.size), h.lb, h.lB, h.gH⟩
theorem NxS.nes (h : NxS w bx B vq gd od cd gl ol cl lv m s wx) : bx ≠ gd ∧ bx ≠ gl ∧ bx + 1 ≠ gd ∧ bx + 1 ≠ gl ∧ gd ≠ gl := by
  obtain ⟨c1, k1⟩ := OL.elem h.f.d gd rfl
  obtain ⟨c2, k2⟩ := OL.elem h.f.l gl rfl
  exact ⟨type_ne h.qx k1 (by decide), type_ne h.qx k2 (by decide), type_ne h.rb k1 (by decide), type_ne h.rb k2 (by decide), type_ne k1 k2 (by decide)⟩
theorem NxS.def (h : NxS w bx B vq gd od cd gl ol cl lv m s wx) {t : Nat} (ht : t < m) (x : Int) {s' : FQ} (e1 : s' = { s with defs := s.defs.set t x }) (g' : Gd s') : NxS w bx B vq gd od cd gl ol cl lv m s' (wx.setCell ⟨gd, od + t, none⟩ (.int .i64 x)) := by
  subst e1
  obtain ⟨n1, n2, n3, n4, n5⟩ := h.nes
  exact ⟨h.mH, (Below.heap_setCell _ _ _ _ n1).trans h.qx, (Below.heap_setCell _ _ _ _ n3).trans h.rb, h.f.setDef (by rw [h.mH]; exact ht) x, h.b.setCell (Nat.le_trans h.lB h.f.bd) _, h.lb, h.lB, g'⟩
/-- The box's two last cells. -/
theorem NxS.at (h : NxS w bx B vq gd od cd gl ol cl lv m s wx) {s' : FQ} (e1 : s'.quanta = s.quanta) (e2 : s'.defs = s.defs) (e3 : s'.lists = s.lists) (g' : Gd s') {wy : World} (hq : wy.heap[bx]? = some (.cells #[vq, .slice (some ⟨gd, od, none⟩) m cd, .slice (some ⟨gl, ol, none⟩) m cl, .int .i64 s'.cur, .bool s'.begun] 55 (0, 0))) (ho : ∀ k, k ≠ bx → wy.heap[k]? = wx.heap[k]?) (hb : Below w.heap.size w wy) : NxS w bx B vq gd od cd gl ol cl lv m s' wy := by
  have hm : s'.m = s.m := by unfold FQ.m; rw [e3]
  have hf := h.f.heapQ (w' := wy) (fun b cs t ht hc => ho b (type_ne hc h.qx ht))
  refine ⟨hm.trans h.mH, hq, (ho _ (by omega)).trans h.rb, ?_, hb, h.lb, h.lB, g'⟩
  have el : ∀ t, s'.lst t = s.lst t := fun t => by unfold FQ.lst; rw [e3]
  exact ⟨by rw [hm, e1]; exact hf.q, hf.qB, by rw [hm, e2]; exact hf.d, by rw [hm]; exact hf.l, by rw [hm]; exact hf.lvl, hf.one, fun t ht => by rw [el]; exact hf.e t (by rw [← hm]; exact ht), hf.bd, hf.bl, hf.be, hf.ap, by rw [e1, hm]; exact hf.lq, by rw [e2, hm]; exact hf.ld⟩
theorem NxS.empty (h : NxS w bx B vq gd od cd gl ol cl lv m s wx) (hl : s.lst s.cur = []) : NxS w bx B vq gd od cd gl ol cl lv m s.visit (wx.setCell ⟨gd, od + s.cur, none⟩ (.int .i64 0)) ∧ ¬ s.visit.stop := by
  refine ⟨h.def (by rw [← h.mH]; exact h.gH.cur) 0 (by unfold FQ.visit; rw [if_pos hl]; rfl) h.gH.visit, ?_⟩
  rintro ⟨x, r, hx, _⟩
  rw [visit_lst, visit_cur, hl] at hx
  cases hx
theorem NxS.fresh (h : NxS w bx B vq gd od cd gl ol cl lv m s wx) (hl : s.lst s.cur = e :: r) (hb : s.begun = false) : NxS w bx B vq gd od cd gl ol cl lv m s.visit ((wx.setCell ⟨bx, 4, none⟩ (.bool true)).setCell ⟨gd, od + s.cur, none⟩ (.int .i64 (s.df s.cur + s.qn s.cur))) := by
  have hv := visit_fresh hl hb
  obtain ⟨n1, n2, n3, n4, n5⟩ := h.nes
  have hg := h.gH.visit
  have hc : s.cur < m := by rw [← h.mH]; exact h.gH.cur
  have hq : (wx.setCell ⟨bx, 4, none⟩ (.bool true)).heap[bx]? = some (.cells #[vq, .slice (some ⟨gd, od, none⟩) m cd, .slice (some ⟨gl, ol, none⟩) m cl, .int .i64 s.cur, .bool true] 55 (0, 0)) := setCell_heap_self (o := 4) (u := .bool true) h.qx
  have hf := (h.f.heapQ (w' := wx.setCell ⟨bx, 4, none⟩ (.bool true)) (fun b cs t ht hc => Below.heap_setCell _ _ _ _ (type_ne hc h.qx ht))).setDef (t := s.cur) (by rw [h.mH]; exact hc) (s.df s.cur + s.qn s.cur)
  refine ⟨by rw [visit_m]; exact h.mH, ?_, ?_, ?_, (h.b.setCell h.lb _).setCell (Nat.le_trans h.lB h.f.bd) _, h.lb, h.lB, hg⟩
  · rw [Below.heap_setCell _ _ _ _ n1, hv]; exact hq
  · rw [Below.heap_setCell _ _ _ _ n3, Below.heap_setCell _ _ _ _ (show bx + 1 ≠ bx by omega)]; exact h.rb
  · rw [hv]; exact { hf with }
theorem NxS.go (h : NxS w bx B vq gd od cd gl ol cl lv m s wx) (hs : ∀ t, t < s.m → s.df t ≤ 1048576) : NxS w bx B vq gd od cd gl ol cl lv m s.go ((wx.setCell ⟨bx, 3, none⟩ (.int .i64 ((s.cur + 1) % m : Nat))).setCell ⟨bx, 4, none⟩ (.bool false)) := by
  refine h.at (s' := s.go) (wy := (wx.setCell ⟨bx, 3, none⟩ (.int .i64 ((s.cur + 1) % m : Nat))).setCell ⟨bx, 4, none⟩ (.bool false)) rfl rfl rfl (h.gH.go hs) ?_ (fun k hk => by rw [Below.heap_setCell _ _ _ _ (show k ≠ bx from hk), Below.heap_setCell _ _ _ _ (show k ≠ bx from hk)]) ((h.b.setCell h.lb _).setCell h.lb _)
  have e1 : (s.go.cur : Int) = ((s.cur + 1) % m : Nat) := by show (((s.cur + 1) % s.m : Nat) : Int) = _; rw [h.mH]
  rw [show (Value.int .i64 (s.go.cur : Int)) = .int .i64 ((s.cur + 1) % m : Nat) by rw [e1]]
  exact setCell_heap_self (o := 4) (u := .bool false) (setCell_heap_self (o := 3) (u := .int .i64 ((s.cur + 1) % m : Nat)) h.qx)
/-- The chosen entry is taken. -/
theorem NxS.pop (h : NxS w bx B vq gd od cd gl ol cl lv m s wx) (hl : s.lst s.cur = e :: r) (hle : e.2 ≤ s.df s.cur) (hbg : s.begun = true) {v' : Value} (hv : OL wx 129 2 v' r.length (entCells r)) (hv1 : v'.oneCell' = true) (hown : ∀ g, v'.ownBlock = some g → (lv.getD s.cur nilS).ownBlock = some g) :
    NxS w bx B vq gd od cd gl ol cl (lv.set s.cur v') m s.pop ((wx.setCell ⟨gd, od + s.cur, none⟩ (.int .i64 (s.df s.cur - e.2))).setCell ⟨gl, ol + s.cur, none⟩ v') := by
  obtain ⟨n1, n2, n3, n4, n5⟩ := h.nes
  have hc : s.cur < s.m := h.gH.cur
  have hp := pop_eq hl
  have hf1 := h.f.setDef hc (s.df s.cur - e.2)
  obtain ⟨cd2, hgd⟩ := OL.elem h.f.d gd rfl
  have hv2 : OL (wx.setCell ⟨gd, od + s.cur, none⟩ (.int .i64 (s.df s.cur - e.2))) 129 2 v' r.length (entCells r) := OL.heap hv fun k hk => Below.heap_setCell _ _ _ _ (by
    obtain ⟨c1, k1⟩ := OL.elem hv k hk
    exact type_ne k1 hgd (by decide))
  have hf2 := hf1.setL (t := s.cur) (v' := v') (l' := r) hc (grownBy_rfl _ _) hv2 hv1 (fun g hg => ⟨h.f.be _ g (hown g hg), fun t' ht' hx => h.f.ap s.cur t' g (fun x => ht' x.symm) (hown g hg) hx⟩)
  have g' : Gd s.pop := h.gH.pop ⟨e, r, hl, hle⟩ hbg
  refine ⟨(pop_m s).trans h.mH, ?_, ?_, ?_, (h.b.setCell (Nat.le_trans h.lB h.f.bd) _).setCell (Nat.le_trans h.lB h.f.bl) _, h.lb, h.lB, g'⟩
  · rw [Below.heap_setCell _ _ _ _ n2, Below.heap_setCell _ _ _ _ n1, hp]; exact h.qx
  · rw [Below.heap_setCell _ _ _ _ n4, Below.heap_setCell _ _ _ _ n3]; exact h.rb
  · rw [hp]; exact hf2
end
end Go.Proofs.Ytmdajndmobpgbaa

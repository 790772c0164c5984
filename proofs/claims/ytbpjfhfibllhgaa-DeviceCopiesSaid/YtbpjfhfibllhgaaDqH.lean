/- What a Crash works on: blocks of its own, and which have stopped; how each step keeps them. Conditions: none beyond what each lemma names. -/
import Derived.Test.YtbpjfhfibllhgaaDqG
namespace Go.Proofs.Ytbpjfhfibllhgaa
open Go.RowKit
open Go.Proofs.Ytbpjfhfibllhgaa.Dv
variable {Qp : Nat → Prop}

section
variable {kp : Nat → Int}
theorem crashN_snoc : ∀ (os : List Deed) (st : List Blk × List Bool) (i : Nat) (o : Deed), crashN kp st i (os ++ [o]) = crash1 kp (crashN kp st i os) (i + os.length) o
  | [], _, _, _ => rfl
  | x :: os, st, i, o => by
    have := crashN_snoc os (crash1 kp st i x) (i + 1) o
    rw [List.cons_append, crashN, this, crashN, List.length_cons, show i + 1 + os.length = i + (os.length + 1) by omega]
/-- The state behind j of the pending operations. -/
def crashTo (kp : Nat → Int) (s : Dev) (j : Nat) : List Blk × List Bool := crashN kp (s.durable, List.replicate s.durable.length false) 0 (s.pending.take j)
theorem crashTo_succ {s : Dev} {j : Nat} (h : j < s.pending.length) : crashTo kp s (j + 1) = crash1 kp (crashTo kp s j) j (s.pending.getD j ⟨0, 0, none⟩) := by
  unfold crashTo
  rw [List.take_succ_eq_append_getElem h, crashN_snoc, Nat.zero_add, List.length_take, Nat.min_eq_left (by omega)]
  simp [List.getD, h]
theorem crashTo_all (s : Dev) : crashTo kp s s.pending.length = crashN kp (s.durable, List.replicate s.durable.length false) 0 s.pending := by
  unfold crashTo; rw [List.take_length]
theorem crash1_len (st : List Blk × List Bool) (j : Nat) (o : Deed) : (crash1 kp st j o).1.length = st.1.length ∧ (crash1 kp st j o).2.length = st.2.length := by
  unfold crash1
  split
  · exact ⟨rfl, rfl⟩
  · split
    · split
      · exact ⟨List.length_set, rfl⟩
      · exact ⟨rfl, List.length_set⟩
    · split
      · exact ⟨List.length_set, rfl⟩
      · exact ⟨rfl, rfl⟩
end
theorem mend_len : ∀ ps : List Page, (mend ps).length = ps.length
  | [] => rfl
  | p :: r => by simp [mend, mend_len r]
def mendTo (ps : List Page) (r : Nat) : List Page := ps.take r ++ mend (ps.drop r)
theorem mendTo_len (ps : List Page) (r : Nat) : (mendTo ps r).length = ps.length := by
  unfold mendTo; rw [List.length_append, mend_len, List.length_take, List.length_drop]; omega
theorem mendTo_all (ps : List Page) : mendTo ps ps.length = ps := by unfold mendTo; rw [List.take_length, List.drop_length]; simp [mend]
theorem mendTo_zero (ps : List Page) : mendTo ps 0 = mend ps := by simp [mendTo]
def anyP (ps : List Page) (r : Nat) : Bool := (ps.drop r).any (fun x => x.isSome)
theorem mendTo_get {ps : List Page} {i : Nat} (h : i < ps.length) : (mendTo ps (i + 1)).getD i none = ps.getD i none := by
  unfold mendTo
  simp [List.getD, h, List.getElem?_append_left (show i < (ps.take (i + 1)).length by rw [List.length_take]; omega)]
theorem mendTo_step {ps : List Page} {i : Nat} (h : i < ps.length) : mendTo ps i = (mendTo ps (i + 1)).set i (if (ps.getD i none).isNone = true ∧ anyP ps (i + 1) = true then some (fill []) else ps.getD i none) := by
  unfold mendTo anyP
  have e1 : ps.drop i = ps.getD i none :: ps.drop (i + 1) := by rw [List.drop_eq_getElem_cons h]; simp [List.getD, h]
  have e2 : ps.take (i + 1) = ps.take i ++ [ps.getD i none] := by rw [List.take_succ_eq_append_getElem h]; simp [List.getD, h]
  rw [e1, e2, mend, List.append_assoc, List.set_append_right _ _ (by rw [List.length_take]; omega), List.length_take, Nat.min_eq_left (by omega), Nat.sub_self]
  simp
theorem anyP_step {ps : List Page} {i : Nat} (h : i < ps.length) : anyP ps i = (anyP ps (i + 1) || (ps.getD i none).isSome) := by
  unfold anyP
  have e1 : ps.drop i = ps.getD i none :: ps.drop (i + 1) := by rw [List.drop_eq_getElem_cons h]; simp [List.getD, h]
  rw [e1, List.any_cons, Bool.or_comm]

/-- Blocks of a call's own. -/
structure Own (Qp : Nat → Prop) (B0 g n p : Nat) (w : World) (vs : List Value) (bs : List Blk) : Prop where
  a : BlksAt Qp w (.slice (some ⟨g, 0, none⟩) n n) vs bs
  l : bs.length = n
  pn : ∀ i, i < n → (bs.getD i nilB).pages.length = p
  g0 : B0 ≤ g
  o : ∀ i x, (vs.getD i nilS).ownBlock = some x → B0 ≤ x
  d : ∀ i j x, i ≠ j → (vs.getD i nilS).ownBlock = some x → (vs.getD j nilS).ownBlock ≠ some x
section
variable {B0 g n p : Nat} {w w' : World} {vs : List Value} {bs : List Blk}
theorem Own.lt (h : Own Qp B0 g n p w vs bs) : ∀ i x, (vs.getD i nilS).ownBlock = some x → x < w.heap.size := fun i x hx => (h.a.c i (by rw [← h.a.l]; exact ns_lt hx)).lt x hx
theorem Own.keep (h : Own Qp B0 g n p w vs bs) (hb : Byt w w') (h1 : w'.heap[g]? = w.heap[g]?) (h2 : ∀ i x, (vs.getD i nilS).ownBlock = some x → w'.heap[x]? = w.heap[x]?) : Own Qp B0 g n p w' vs bs :=
  { h with a := h.a.keep hb (fun x hx => by simp [Value.ownBlock] at hx; subst hx; exact h1) h2 }
theorem Own.belowS (h : Own Qp B0 g n p w vs bs) (hb : Below w.heap.size w w') : Own Qp B0 g n p w' vs bs := { h with a := h.a.belowS hb }
theorem Own.ty (h : Own Qp B0 g n p w vs bs) : (∃ cur, w.heap[g]? = some (.cells cur 77 (0, 0))) ∧ ∀ i x, (vs.getD i nilS).ownBlock = some x → ∃ cur, w.heap[x]? = some (.cells cur 22 (0, 0)) :=
  ⟨h.a.o.elem g rfl, fun i x hx => (h.a.c i (by rw [← h.a.l]; exact ns_lt hx)).elem x hx⟩
/-- A block of another type is written. -/
theorem Own.other (h : Own Qp B0 g n p w vs bs) {b o : Nat} {u : Value} {cs : Array Value} {t : TypeId} {fr : Nat × Nat} (hb : w.heap[b]? = some (.cells cs t fr)) (h1 : t ≠ 77) (h2 : t ≠ 22) (h3 : t ≠ 5) : Own Qp B0 g n p (w.setCell ⟨b, o, none⟩ u) vs bs := by
  obtain ⟨⟨c1, e1⟩, t2⟩ := h.ty
  exact h.keep (Byt.set hb h3) (setCell_other (type_ne e1 hb (Ne.symm h1))) (fun i x hx => by obtain ⟨_, e⟩ := t2 i x hx; exact setCell_other (type_ne e hb (Ne.symm h2)))
theorem Own.cells (h : Own Qp B0 g n p w vs bs) {i : Nat} (hi : i < n) : w.cell? ⟨g, i * 2, none⟩ = some (vs.getD i nilS) ∧ w.cell? ⟨g, i * 2 + 1, none⟩ = some (.int .i64 (bs.getD i nilB).worn) := by
  have := h.a.cells h.l.symm (i := i) (by rw [h.l]; exact hi)
  simpa using this
theorem Own.pgs (h : Own Qp B0 g n p w vs bs) {i : Nat} (hi : i < n) (hp : 1 ≤ p) : PgsAt Qp w (vs.getD i nilS) (bs.getD i nilB).pages ∧ ∃ gp offp capp, vs.getD i nilS = .slice (some ⟨gp, offp, none⟩) p capp ∧ p ≤ capp ∧ capp ≤ maxLen ∧ gp < w.heap.size := by
  have h1 := h.a.c i (by rw [h.l]; exact hi)
  have hl := h.pn i hi
  have hf := h1.form (by rw [hl]; exact hp)
  rw [hl] at hf
  exact ⟨h1, hf⟩
/-- A block of them is erased. -/
theorem Own.ers (h : Own Qp B0 g n p w vs bs) {i : Nat} (hi : i < n) (hp : p ≤ 1000000) (hB0 : B0 ≤ w.heap.size) {w2 : World}
    (hw : w2 = ((w.alloc (.cells (madeCells #[.slice none 0 0] p) 22)).setCell ⟨g, i * 2, none⟩ (.slice (some ⟨w.heap.size, 0, none⟩) p p)).setCell ⟨g, i * 2 + 1, none⟩ (.int .i64 (wrap64 ((bs.getD i nilB).worn + 1)))) :
    Own Qp B0 g n p w2 (vs.set i (.slice (some ⟨w.heap.size, 0, none⟩) p p)) (bs.set i (wipe (bs.getD i nilB))) := by
  have hB1 : Below w.heap.size w (w.alloc (.cells (madeCells #[.slice none 0 0] p) 22)) := by go_grown
  have hnew := heap_alloc_new w (.cells (madeCells #[.slice none 0 0] p) 22)
  generalize w.alloc (.cells (madeCells #[.slice none 0 0] p) 22) = w1 at hB1 hnew hw
  have hl : (bs.getD i nilB).pages.length = p := h.pn i hi
  have hpg : PgsAt Qp w1 (.slice (some ⟨w.heap.size, 0, none⟩) p p) (wipe (bs.getD i nilB)).pages := by
    refine ⟨List.replicate p nilS, ?_, fun j hj => ?_⟩
    · show OL _ _ _ _ (List.replicate (bs.getD i nilB).pages.length none).length _
      rw [List.length_replicate, hl]
      rw [madeCells_list] at hnew
      exact OL.of_block hnew (by simp) (by unfold maxLen; omega)
    · have hj' : j < (List.replicate (bs.getD i nilB).pages.length (none : Page)).length := hj
      rw [List.length_replicate, hl] at hj'
      have e1 : (List.replicate p nilS).getD j nilS = nilS := by simp [List.getD, hj']
      have e2 : (wipe (bs.getD i nilB)).pages.getD j none = none := by
        show (List.replicate (bs.getD i nilB).pages.length (none : Page)).getD j none = none
        rw [hl]; simp [List.getD, hj']
      rw [e1, e2]; rfl
  have h1 := h.belowS hB1
  have hlt := h.lt
  have hD := h1.a.put (i := i) (by rw [h.l]; exact hi) (b' := wipe (bs.getD i nilB)) hpg
  rw [Nat.zero_add] at hD
  have hvl : i < vs.length := by rw [h.a.l, h.l]; exact hi
  have own : ∀ j x, ((vs.set i (.slice (some ⟨w.heap.size, 0, none⟩) p p)).getD j nilS).ownBlock = some x → (j = i ∧ w.heap.size = x) ∨ (j ≠ i ∧ (vs.getD j nilS).ownBlock = some x) := fun j x hx => by
    rw [getD_set hvl] at hx
    by_cases e : j = i
    · rw [if_pos e] at hx; exact .inl ⟨e, by simpa [Value.ownBlock] using hx⟩
    · rw [if_neg e] at hx; exact .inr ⟨e, hx⟩
  exact {
    a := by rw [hw]; exact hD
    l := by rw [List.length_set]; exact h.l
    pn := fun j hj => by
      rw [getD_set (by rw [h.l]; exact hi)]
      by_cases e : j = i
      · rw [if_pos e]; show (List.replicate _ _).length = p; rw [List.length_replicate]; exact hl
      · rw [if_neg e]; exact h.pn j hj
    g0 := h.g0
    o := fun j x hx => by
      rcases own j x hx with ⟨_, e⟩ | ⟨_, e⟩
      · omega
      · exact h.o j x e
    d := fun j1 j2 x hne h2 h3 => by
      rcases own j1 x h2 with ⟨e1, e2⟩ | ⟨e1, e2⟩
      · rcases own j2 x h3 with ⟨e3, _⟩ | ⟨_, e4⟩
        · omega
        · have := hlt j2 x e4; omega
      · rcases own j2 x h3 with ⟨_, e4⟩ | ⟨_, e4⟩
        · have := hlt j1 x e2; omega
        · exact h.d j1 j2 x hne e2 e4 }
/-- A page of them is written. -/
theorem Own.page (h : Own Qp B0 g n p w vs bs) {i k : Nat} (hi : i < n) (hk : k < p) {gp offp capp : Nat} (hv : vs.getD i nilS = .slice (some ⟨gp, offp, none⟩) p capp) {pv : Value} {l : List Int} (hp : PgAt Qp w pv (some l)) :
    Own Qp B0 g n p (w.setCell ⟨gp, offp + k, none⟩ pv) vs (bs.set i ⟨(bs.getD i nilB).pages.set k (some l), (bs.getD i nilB).worn⟩) := by
  obtain ⟨⟨c1, e1⟩, t2⟩ := h.ty
  obtain ⟨cur, hcur⟩ := t2 i gp (by rw [hv]; rfl)
  have hB : Byt w (w.setCell ⟨gp, offp + k, none⟩ pv) := Byt.set hcur (by decide)
  have hl : (bs.set i (⟨(bs.getD i nilB).pages.set k (some l), (bs.getD i nilB).worn⟩ : Blk)).length = bs.length := List.length_set
  have hl2 : (bs.getD i nilB).pages.length = p := h.pn i hi
  exact {
    a := by
      refine ⟨?_, by rw [hl]; exact h.a.l, fun j hj => ?_⟩
      · rw [hl, blkCells_worn vs _ bs hl (fun j => by
          rw [getD_set (by rw [h.l]; exact hi)]
          by_cases e : j = i
          · rw [if_pos e, e]
          · rw [if_neg e])]
        exact h.a.o.heap (fun x hx => by simp [Value.ownBlock] at hx; subst hx; exact setCell_other (type_ne e1 hcur (by decide)))
      · rw [hl] at hj
        rw [getD_set (by rw [h.l]; exact hi)]
        by_cases e : j = i
        · rw [if_pos e, e, hv]
          obtain ⟨pvs, h1, h2⟩ := h.a.c i (by rw [h.l]; exact hi)
          rw [hv, hl2] at h1
          have h3 := h1.setCell k (by omega) pv
          have hpl : pvs.length = p := by have := h1.1; omega
          refine ⟨pvs.set k pv, by show OL _ _ _ _ ((bs.getD i nilB).pages.set k _).length _; rw [List.length_set, hl2]; exact h3, fun m hm => ?_⟩
          have hm' : m < ((bs.getD i nilB).pages.set k (some l)).length := hm
          rw [List.length_set] at hm'
          show PgAt Qp _ _ (((bs.getD i nilB).pages.set k (some l)).getD m none)
          rw [getD_set (by omega), getD_set (by omega)]
          by_cases e2 : m = k
          · rw [if_pos e2, if_pos e2]; exact hp.keep hB
          · rw [if_neg e2, if_neg e2]; exact (h2 m hm').keep hB
        · rw [if_neg e]
          exact (h.a.c j hj).keep hB (fun x hx => setCell_other (fun y => h.d i j gp (fun z => e z.symm) (by rw [hv]; rfl) (by rw [← y]; exact hx)))
    l := by rw [hl]; exact h.l
    pn := fun j hj => by
      rw [getD_set (by rw [h.l]; exact hi)]
      by_cases e : j = i
      · rw [if_pos e]; show ((bs.getD i nilB).pages.set k _).length = p; rw [List.length_set]; exact hl2
      · rw [if_neg e]; exact h.pn j hj
    g0 := h.g0, o := h.o, d := h.d }
end
end Go.Proofs.Ytbpjfhfibllhgaa

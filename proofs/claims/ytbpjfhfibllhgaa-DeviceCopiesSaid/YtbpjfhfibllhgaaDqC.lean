/- The device's functions that write: power, erase, Fail, Sync, Program, Erase. Conditions: the device lies in memory as 'DevAt Qp' says, and its numbers are in their bounds ('Gd'). -/
import Derived.Test.YtbpjfhfibllhgaaDqB
namespace Go.Proofs.Ytbpjfhfibllhgaa
open Go.RowKit
open Go.Proofs.Ytbpjfhfibllhgaa.Dv
variable {Qp : Nat → Prop}

section
variable {w w' : World} {b : Nat} {vd vn vp : Value} {ds ns ps : List Value} {s : Dev} {n p : Nat}
theorem blkCells_worn : ∀ (vs : List Value) (bs bs' : List Blk), bs.length = bs'.length → (∀ i, (bs.getD i nilB).worn = (bs'.getD i nilB).worn) → blkCells vs bs = blkCells vs bs'
  | [], bs, bs', _, _ => by simp [blkCells]
  | _ :: _, [], [], _, _ => rfl
  | _ :: _, [], _ :: _, h, _ => by simp at h
  | _ :: _, _ :: _, [], h, _ => by simp at h
  | v :: vs, x :: bs, y :: bs', h, hw => by
    have h0 := hw 0
    have h1 := blkCells_worn vs bs bs' (by simpa using h) (fun i => by simpa using hw (i + 1))
    simp at h0
    simp [blkCells, h0, h1]
/-- A page of a block is written. -/
theorem DevAt.setPage (h : DevAt Qp w b vd ds vn ns vp ps s) (g : Gd n p s) {i k : Nat} (hi : i < n) (hk : k < p) {gp offp capp : Nat} (hv : ns.getD i nilS = .slice (some ⟨gp, offp, none⟩) p capp) {pv : Value} {l : List Int} (hp : PgAt Qp w pv (some l)) :
    DevAt Qp (w.setCell ⟨gp, offp + k, none⟩ pv) b vd ds vn ns vp ps (s.setBlk i ⟨(s.blk i).pages.set k (some l), (s.blk i).worn⟩) := by
  obtain ⟨t1, t2, t3, t4, t5⟩ := h.ty
  obtain ⟨cur, hcur⟩ := t3 i gp (by rw [hv]; rfl)
  have ne : ∀ {k' : Nat} {c : Array Value} {t : TypeId} {f : Nat × Nat}, w.heap[k']? = some (.cells c t f) → t ≠ 22 → (w.setCell ⟨gp, offp + k, none⟩ pv).heap[k']? = w.heap[k']? := fun e ht => setCell_other (type_ne e hcur ht)
  have hB : Byt w (w.setCell ⟨gp, offp + k, none⟩ pv) := fun _ _ _ e => ne e (by decide)
  exact {
    hb := (ne h.hb (by decide)).trans h.hb
    hd := h.hd.keep hB (fun g' hg => by obtain ⟨_, e⟩ := t2 g' hg; exact ne e (by decide)) (fun j g' hg => setCell_other (fun e => h.a3 i j gp (by rw [hv]; rfl) (by rw [← e]; exact hg)))
    hn := by
      have hl : ((s.setBlk i ⟨(s.blk i).pages.set k (some l), (s.blk i).worn⟩)).now.length = s.now.length := List.length_set
      refine ⟨?_, by rw [hl]; exact h.hn.l, fun j hj => ?_⟩
      · rw [hl, blkCells_worn ns _ s.now hl (fun j => by
          show ((s.now.set i _).getD j nilB).worn = _
          rw [getD_set (by rw [g.ln]; exact hi)]
          by_cases e : j = i
          · rw [if_pos e, e]; rfl
          · rw [if_neg e])]
        exact h.hn.o.heap (fun g' hg => by obtain ⟨_, e⟩ := t1 g' hg; exact ne e (by decide))
      · rw [hl] at hj
        show PgsAt Qp _ _ ((s.now.set i _).getD j nilB).pages
        rw [getD_set (by rw [g.ln]; exact hi)]
        by_cases e : j = i
        · rw [if_pos e, e, hv]
          obtain ⟨pvs, h1, h2⟩ := h.hn.c i (by rw [g.ln]; exact hi)
          have hl2 : (s.blk i).pages.length = p := g.pn i hi
          have h1' : OL w 22 1 (ns.getD i nilS) (s.blk i).pages.length pvs := h1
          rw [hv, hl2] at h1'
          have h3 := h1'.setCell k (by omega) pv
          have hpl : pvs.length = p := by have := h1'.1; omega
          refine ⟨pvs.set k pv, by show OL _ _ _ _ ((s.blk i).pages.set k _).length _; rw [List.length_set, hl2]; exact h3, fun m hm => ?_⟩
          have hm' : m < ((s.blk i).pages.set k (some l)).length := hm
          rw [List.length_set] at hm'
          show PgAt Qp _ _ (((s.blk i).pages.set k (some l)).getD m none)
          rw [getD_set (by omega), getD_set (by omega)]
          by_cases e2 : m = k
          · rw [if_pos e2, if_pos e2]; exact hp.keep hB
          · rw [if_neg e2, if_neg e2]; exact (h2 m hm').keep hB
        · rw [if_neg e]
          exact (h.hn.c j hj).keep hB (fun g' hg => setCell_other (fun x => h.a2 i j gp (fun y => e y.symm) (by rw [hv]; rfl) (by rw [← x]; exact hg)))
    hp := h.hp.keep hB (fun g' hg => by obtain ⟨_, e⟩ := t5 g' hg; exact ne e (by decide))
    a1 := h.a1, a2 := h.a2, a3 := h.a3 }
/-- A block is replaced by one with new pages. -/
theorem DevAt.putBlk (h : DevAt Qp w b vd ds vn ns vp ps s) (g : Gd n p s) {i : Nat} (hi : i < n) {gn off cap : Nat} (hvn : vn = .slice (some ⟨gn, off, none⟩) n cap) {v' : Value} {b' : Blk} (hp : PgsAt Qp w v' b'.pages)
    (hf : ∀ k, v'.ownBlock = some k → ∀ j, (ns.getD j nilS).ownBlock ≠ some k ∧ (ds.getD j nilS).ownBlock ≠ some k) :
    DevAt Qp ((w.setCell ⟨gn, off + i * 2, none⟩ v').setCell ⟨gn, off + i * 2 + 1, none⟩ (.int .i64 b'.worn)) b vd ds vn (ns.set i v') vp ps (s.setBlk i b') := by
  subst hvn
  obtain ⟨t1, t2, t3, t4, t5⟩ := h.ty
  obtain ⟨cur, hcur⟩ := t1 gn rfl
  have ne : ∀ {k' : Nat} {c : Array Value} {t : TypeId} {f : Nat × Nat}, w.heap[k']? = some (.cells c t f) → t ≠ 77 → ((w.setCell ⟨gn, off + i * 2, none⟩ v').setCell ⟨gn, off + i * 2 + 1, none⟩ (.int .i64 b'.worn)).heap[k']? = w.heap[k']? := fun e ht => by
    rw [setCell_other (type_ne e hcur ht), setCell_other (type_ne e hcur ht)]
  have hB : Byt w ((w.setCell ⟨gn, off + i * 2, none⟩ v').setCell ⟨gn, off + i * 2 + 1, none⟩ (.int .i64 b'.worn)) := fun _ _ _ e => ne e (by decide)
  have hlt : i < ns.length := by rw [h.hn.l, g.ln]; exact hi
  have own : ∀ j x, ((ns.set i v').getD j nilS).ownBlock = some x → (j = i ∧ v'.ownBlock = some x) ∨ (j ≠ i ∧ (ns.getD j nilS).ownBlock = some x) := fun j x hx => by
    rw [getD_set hlt] at hx
    by_cases e : j = i
    · rw [if_pos e] at hx; exact .inl ⟨e, hx⟩
    · rw [if_neg e] at hx; exact .inr ⟨e, hx⟩
  exact {
    hb := (ne h.hb (by decide)).trans h.hb
    hd := h.hd.keep hB (fun g' hg => by
        have hne : g' ≠ gn := fun e => h.a1 gn rfl (by rw [← e]; exact hg)
        rw [setCell_other hne, setCell_other hne]) (fun j g' hg => by obtain ⟨_, e⟩ := t4 j g' hg; exact ne e (by decide))
    hn := h.hn.put (by rw [g.ln]; exact hi) hp
    hp := h.hp.keep hB (fun g' hg => by obtain ⟨_, e⟩ := t5 g' hg; exact ne e (by decide))
    a1 := h.a1
    a2 := fun j1 j2 x hne h1 h2 => by
      rcases own j1 x h1 with ⟨e1, h1⟩ | ⟨e1, h1⟩
      · rcases own j2 x h2 with ⟨e2, _⟩ | ⟨_, h2⟩
        · omega
        · exact (hf x h1 j2).1 h2
      · rcases own j2 x h2 with ⟨_, h2⟩ | ⟨_, h2⟩
        · exact (hf x h2 j1).1 h1
        · exact h.a2 j1 j2 x hne h1 h2
    a3 := fun j1 j2 x h1 => by
      rcases own j1 x h1 with ⟨_, h1⟩ | ⟨_, h1⟩
      · exact (hf x h1 j2).2
      · exact h.a3 j1 j2 x h1 }
/-- An operation is noted. -/
theorem DevAt.addOp {w5 w6 : World} (h : DevAt Qp w b vd ds vn ns vp ps s) (hb5 : Below w.heap.size w w5) (hg : w5.grownBy w6 vp.ownBlock) {v' pv : Value} {o : Deed} (ho : OL w6 85 3 v' (s.pending.length + 1) (opCells ps s.pending ++ [.int .i64 o.block, .int .i64 o.page, pv]))
    (hp : PgAt Qp w6 pv o.data) : DevAt Qp (w6.setCell ⟨b, 2, none⟩ v') b vd ds vn ns v' (ps ++ [pv]) { s with pending := s.pending ++ [o] } := by
  have h5 := h.belowS hb5
  obtain ⟨t1, t2, t3, t4, t5⟩ := h5.ty
  have ne6 : ∀ {k' : Nat} {c : Array Value} {t : TypeId} {f : Nat × Nat}, w5.heap[k']? = some (.cells c t f) → t ≠ 85 → w6.heap[k']? = w5.heap[k']? := fun e ht => hg.block _ (lt_of_block e) (fun x => by
    obtain ⟨cur, hc⟩ := t5 _ x.symm
    exact type_ne e hc ht rfl)
  have hb6 := (ne6 h5.hb (by decide)).trans h5.hb
  have ne : ∀ {k' : Nat} {c : Array Value} {t : TypeId} {f : Nat × Nat}, w5.heap[k']? = some (.cells c t f) → t ≠ 85 → t ≠ 81 → (w6.setCell ⟨b, 2, none⟩ v').heap[k']? = w5.heap[k']? := fun e ht ht2 => by
    rw [setCell_other (type_ne e h5.hb ht2)]; exact ne6 e ht
  have hB : Byt w5 (w6.setCell ⟨b, 2, none⟩ v') := fun _ _ _ e => ne e (by decide) (by decide)
  have hB6 : Byt w5 w6 := fun _ _ _ e => ne6 e (by decide)
  have hBs : Byt w6 (w6.setCell ⟨b, 2, none⟩ v') := Byt.set hb6 (by decide)
  exact {
    hb := by
      have := setCell_heap_self (o := 2) (u := v') hb6
      simpa using this
    hd := h5.hd.keep hB (fun g' hg => by obtain ⟨_, e⟩ := t2 g' hg; exact ne e (by decide) (by decide)) (fun j g' hg => by obtain ⟨_, e⟩ := t4 j g' hg; exact ne e (by decide) (by decide))
    hn := h5.hn.keep hB (fun g' hg => by obtain ⟨_, e⟩ := t1 g' hg; exact ne e (by decide) (by decide)) (fun j g' hg => by obtain ⟨_, e⟩ := t3 j g' hg; exact ne e (by decide) (by decide))
    hp := by
      refine ⟨?_, by simp [h.hp.l], fun i hi => ?_⟩
      · show OL _ _ _ _ (s.pending ++ [o]).length (opCells (ps ++ [pv]) (s.pending ++ [o]))
        rw [opCells_snoc _ _ _ _ h.hp.l, List.length_append]
        exact ho.heap (fun g' hg' => by
          obtain ⟨cur, hc⟩ := ho.elem g' hg'
          exact setCell_other (type_ne hc hb6 (by decide)))
      · have hi' : i < (s.pending ++ [o]).length := hi
        rw [List.length_append] at hi'
        simp at hi'
        show PgAt Qp _ ((ps ++ [pv]).getD i nilS) ((s.pending ++ [o]).getD i ⟨0, 0, none⟩).data
        have hl := h.hp.l
        by_cases e : i = s.pending.length
        · have e1 : (ps ++ [pv]).getD i nilS = pv := by rw [e, ← hl]; simp [List.getD]
          have e2 : (s.pending ++ [o]).getD i ⟨0, 0, none⟩ = o := by rw [e]; simp [List.getD]
          rw [e1, e2]; exact hp.keep hBs
        · have e1 : (ps ++ [pv]).getD i nilS = ps.getD i nilS := by simp [List.getD, List.getElem?_append_left (show i < ps.length by omega)]
          have e2 : (s.pending ++ [o]).getD i ⟨0, 0, none⟩ = s.pending.getD i ⟨0, 0, none⟩ := by simp [List.getD, List.getElem?_append_left (show i < s.pending.length by omega)]
          rw [e1, e2]; exact (h5.hp.c i (by omega)).keep hB
    a1 := h.a1, a2 := h.a2, a3 := h.a3 }
end
end Go.Proofs.Ytbpjfhfibllhgaa

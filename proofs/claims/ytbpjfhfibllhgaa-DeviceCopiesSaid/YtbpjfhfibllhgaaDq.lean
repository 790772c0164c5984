/- The flash device in memory: its words and how they keep. Conditions: each contract names its own. -/
import Derived.Test.YtbpjfhfibllhgaaKit
import Derived.Test.YtbpjfhfibllhgaaRk
import Derived.Test.YtbpjfhfibllhgaaDvMath
namespace Go.Proofs.Ytbpjfhfibllhgaa
open Go.RowKit
open Go.Proofs.Ytbpjfhfibllhgaa.Dv
variable {Qp : Nat → Prop}

def nilS : Value := .slice none 0 0
def bys (l : List Int) : List Value := l.map (Value.int .u8)
theorem bys_len (l : List Int) : (bys l).length = l.length := by simp [bys]
theorem bys_get (l : List Int) (i : Nat) (h : i < l.length) : (bys l)[i]? = some (.int .u8 (l.getD i 0)) := by simp [bys, List.getD, h]
/-- The bytes of a page, or nil. -/
def PgAt (Qp : Nat → Prop) (w : World) (v : Value) : Page → Prop
  | none => v = .slice none 0 0
  | some l => l.length = 512 ∧ ∃ g, v = .slice (some ⟨g, 0, none⟩) 512 512 ∧ w.heap[g]? = some (.cells (bys l).toArray 5 (0, 0)) ∧ Qp g
/-- The pages of a block. -/
def PgsAt (Qp : Nat → Prop) (w : World) (v : Value) (ps : List Page) : Prop :=
  ∃ pvs : List Value, OL w 22 1 v ps.length pvs ∧ ∀ i, i < ps.length → PgAt Qp w (pvs.getD i nilS) (ps.getD i none)
def blkCells : List Value → List Blk → List Value
  | v :: vs, b :: bs => v :: .int .i64 b.worn :: blkCells vs bs
  | _, _ => []
structure BlksAt (Qp : Nat → Prop) (w : World) (v : Value) (vs : List Value) (bs : List Blk) : Prop where
  o : OL w 77 2 v bs.length (blkCells vs bs)
  l : vs.length = bs.length
  c : ∀ i, i < bs.length → PgsAt Qp w (vs.getD i nilS) (bs.getD i nilB).pages
def opCells : List Value → List Deed → List Value
  | v :: vs, o :: os => .int .i64 o.block :: .int .i64 o.page :: v :: opCells vs os
  | _, _ => []
structure OpsAt (Qp : Nat → Prop) (w : World) (v : Value) (vs : List Value) (os : List Deed) : Prop where
  o : OL w 85 3 v os.length (opCells vs os)
  l : vs.length = os.length
  c : ∀ i, i < os.length → PgAt Qp w (vs.getD i nilS) (os.getD i ⟨0, 0, none⟩).data
theorem blkCells_len : ∀ (vs : List Value) (bs : List Blk), vs.length = bs.length → (blkCells vs bs).length = bs.length * 2
  | [], [], _ => rfl
  | [], _ :: _, h => by simp at h
  | _ :: _, [], h => by simp at h
  | v :: vs, b :: bs, h => by simp [blkCells, blkCells_len vs bs (by simpa using h)]; omega
theorem blkCells_get : ∀ (vs : List Value) (bs : List Blk) (i : Nat), vs.length = bs.length → i < bs.length → (blkCells vs bs)[i * 2]? = some (vs.getD i nilS) ∧ (blkCells vs bs)[i * 2 + 1]? = some (.int .i64 (bs.getD i nilB).worn)
  | [], bs, i, h, hi => absurd hi (by rw [← h]; simp)
  | _ :: _, [], i, h, hi => absurd hi (by simp)
  | v :: vs, b :: bs, 0, _, _ => by simp [blkCells]
  | v :: vs, b :: bs, i + 1, h, hi => by
    have := blkCells_get vs bs i (by simpa using h) (by simpa using hi)
    simp only [blkCells, Nat.add_mul, List.getElem?_cons_succ, List.getD_cons_succ]
    exact ⟨by simpa using this.1, by simpa using this.2⟩
theorem blkCells_set : ∀ (vs : List Value) (bs : List Blk) (i : Nat) (v : Value) (b : Blk), vs.length = bs.length → i < bs.length → blkCells (vs.set i v) (bs.set i b) = ((blkCells vs bs).set (i * 2) v).set (i * 2 + 1) (.int .i64 b.worn)
  | [], bs, i, _, _, h, hi => absurd hi (by rw [← h]; simp)
  | _ :: _, [], i, _, _, h, hi => absurd hi (by simp)
  | v :: vs, b :: bs, 0, _, _, _, _ => by simp [blkCells]
  | v :: vs, b :: bs, i + 1, x, y, h, hi => by
    have := blkCells_set vs bs i x y (by simpa using h) (by simpa using hi)
    simp [blkCells, Nat.add_mul, this]
theorem opCells_len : ∀ (vs : List Value) (os : List Deed), vs.length = os.length → (opCells vs os).length = os.length * 3
  | [], [], _ => rfl
  | [], _ :: _, h => by simp at h
  | _ :: _, [], h => by simp at h
  | v :: vs, b :: bs, h => by simp [opCells, opCells_len vs bs (by simpa using h)]; omega
theorem opCells_get : ∀ (vs : List Value) (os : List Deed) (i : Nat), vs.length = os.length → i < os.length →
    (opCells vs os)[i * 3]? = some (.int .i64 (os.getD i ⟨0, 0, none⟩).block) ∧ (opCells vs os)[i * 3 + 1]? = some (.int .i64 (os.getD i ⟨0, 0, none⟩).page) ∧ (opCells vs os)[i * 3 + 2]? = some (vs.getD i nilS)
  | [], bs, i, h, hi => absurd hi (by rw [← h]; simp)
  | _ :: _, [], i, h, hi => absurd hi (by simp)
  | v :: vs, b :: bs, 0, _, _ => by simp [opCells]
  | v :: vs, b :: bs, i + 1, h, hi => by
    have := opCells_get vs bs i (by simpa using h) (by simpa using hi)
    simp only [opCells, Nat.add_mul, List.getElem?_cons_succ, List.getD_cons_succ]
    exact ⟨by simpa using this.1, by simpa using this.2.1, by simpa using this.2.2⟩
theorem opCells_snoc : ∀ (vs : List Value) (os : List Deed) (v : Value) (o : Deed), vs.length = os.length → opCells (vs ++ [v]) (os ++ [o]) = opCells vs os ++ [.int .i64 o.block, .int .i64 o.page, v]
  | [], [], _, _, _ => rfl
  | [], _ :: _, _, _, h => by simp at h
  | _ :: _, [], _, _, h => by simp at h
  | x :: vs, y :: os, v, o, h => by simp [opCells, opCells_snoc vs os v o (by simpa using h)]

/-- Blocks of bytes are as they were. -/
def Byt (w w' : World) : Prop := ∀ (k : Nat) (cs : Array Value) (fr : Nat × Nat), w.heap[k]? = some (Obj.cells cs 5 fr) → w'.heap[k]? = w.heap[k]?
section
variable {w w1 w' : World} {v : Value}
theorem Byt.trans (h : Byt w w1) (h' : Byt w1 w') : Byt w w' := fun k cs fr e => by
  have e1 := h k cs fr e
  exact (h' k cs fr (e1.trans e)).trans e1
theorem Byt.of_below (h : Below w.heap.size w w') : Byt w w' := fun k _ _ e => h.block k (lt_of_block e)
theorem Byt.set {b o : Nat} {u : Value} {cs : Array Value} {t : TypeId} {fr : Nat × Nat} (hb : w.heap[b]? = some (.cells cs t fr)) (ht : t ≠ 5) : Byt w (w.setCell ⟨b, o, none⟩ u) := fun _ _ _ e =>
  setCell_other (type_ne e hb (Ne.symm ht))
theorem PgAt.keep {p : Page} (h : PgAt Qp w v p) (hb : Byt w w') : PgAt Qp w' v p := by
  cases p with
  | none => exact h
  | some l => obtain ⟨h1, g, h2, h3⟩ := h; exact ⟨h1, g, h2, (hb g _ _ h3.1).trans h3.1, h3.2⟩
theorem PgsAt.keep {ps : List Page} (h : PgsAt Qp w v ps) (hb : Byt w w') (hv : ∀ g, v.ownBlock = some g → w'.heap[g]? = w.heap[g]?) : PgsAt Qp w' v ps := by
  obtain ⟨pvs, h1, h2⟩ := h
  exact ⟨pvs, h1.heap hv, fun i hi => (h2 i hi).keep hb⟩
theorem BlksAt.keep {vs : List Value} {bs : List Blk} (h : BlksAt Qp w v vs bs) (hb : Byt w w') (hv : ∀ g, v.ownBlock = some g → w'.heap[g]? = w.heap[g]?) (hs : ∀ i g, (vs.getD i nilS).ownBlock = some g → w'.heap[g]? = w.heap[g]?) : BlksAt Qp w' v vs bs :=
  ⟨h.o.heap hv, h.l, fun i hi => (h.c i hi).keep hb (hs i)⟩
theorem OpsAt.keep {vs : List Value} {os : List Deed} (h : OpsAt Qp w v vs os) (hb : Byt w w') (hv : ∀ g, v.ownBlock = some g → w'.heap[g]? = w.heap[g]?) : OpsAt Qp w' v vs os :=
  ⟨h.o.heap hv, h.l, fun i hi => (h.c i hi).keep hb⟩
theorem PgsAt.lt {ps : List Page} (h : PgsAt Qp w v ps) : ∀ g, v.ownBlock = some g → g < w.heap.size := by
  obtain ⟨pvs, h1, _⟩ := h; exact h1.lt
end
/-- The device s lies at block b: what its fields hold, and the values of the blocks' pages. -/
structure DevAt (Qp : Nat → Prop) (w : World) (b : Nat) (vd : Value) (ds : List Value) (vn : Value) (ns : List Value) (vp : Value) (ps : List Value) (s : Dev) : Prop where
  hb : w.heap[b]? = some (.cells #[vd, vn, vp, .bool s.off, .bool s.planned, .int .i64 s.left] 81 (0, 0))
  hd : BlksAt Qp w vd ds s.durable
  hn : BlksAt Qp w vn ns s.now
  hp : OpsAt Qp w vp ps s.pending
  a1 : ∀ g, vn.ownBlock = some g → vd.ownBlock ≠ some g
  a2 : ∀ i j g, i ≠ j → (ns.getD i nilS).ownBlock = some g → (ns.getD j nilS).ownBlock ≠ some g
  a3 : ∀ i j g, (ns.getD i nilS).ownBlock = some g → (ds.getD j nilS).ownBlock ≠ some g
/-- The blocks that it may write, and all but its bytes. -/
def Fp (b : Nat) (vn : Value) (ns : List Value) (vp : Value) (k : Nat) : Prop := k = b ∨ vn.ownBlock = some k ∨ (∃ i, (ns.getD i nilS).ownBlock = some k) ∨ vp.ownBlock = some k
def Al (b : Nat) (vd : Value) (ds : List Value) (vn : Value) (ns : List Value) (vp : Value) (k : Nat) : Prop := Fp b vn ns vp k ∨ vd.ownBlock = some k ∨ ∃ i, (ds.getD i nilS).ownBlock = some k
theorem ns_lt {ns : List Value} {i g : Nat} (h : (ns.getD i nilS).ownBlock = some g) : i < ns.length := by
  rcases Nat.lt_or_ge i ns.length with h' | h'
  · exact h'
  · simp [List.getD, List.getElem?_eq_none h', nilS, Value.ownBlock] at h
section
variable {w w1 w' : World} {b : Nat} {vd vn vp : Value} {ds ns ps : List Value} {s : Dev}
theorem PgsAt.elem {v : Value} {l : List Page} (h : PgsAt Qp w v l) : ∀ g, v.ownBlock = some g → ∃ cur, w.heap[g]? = some (.cells cur 22 (0, 0)) := by
  obtain ⟨pvs, h1, _⟩ := h; exact h1.elem
theorem DevAt.al_lt (h : DevAt Qp w b vd ds vn ns vp ps s) : ∀ k, Al b vd ds vn ns vp k → k < w.heap.size := by
  rintro k ((rfl | h1 | ⟨i, h1⟩ | h1) | h1 | ⟨i, h1⟩)
  · exact has_lt h.hb
  · exact h.hn.o.lt k h1
  · exact (h.hn.c i (by rw [← h.hn.l]; exact ns_lt h1)).lt k h1
  · exact h.hp.o.lt k h1
  · exact h.hd.o.lt k h1
  · exact (h.hd.c i (by rw [← h.hd.l]; exact ns_lt h1)).lt k h1
theorem DevAt.same (h : DevAt Qp w b vd ds vn ns vp ps s) (hb : Byt w w') (hh : ∀ k, Al b vd ds vn ns vp k → w'.heap[k]? = w.heap[k]?) : DevAt Qp w' b vd ds vn ns vp ps s :=
  { h with
    hb := (hh b (.inl (.inl rfl))).trans h.hb
    hd := h.hd.keep hb (fun g hg => hh g (.inr (.inl hg))) (fun i g hg => hh g (.inr (.inr ⟨i, hg⟩)))
    hn := h.hn.keep hb (fun g hg => hh g (.inl (.inr (.inl hg)))) (fun i g hg => hh g (.inl (.inr (.inr (.inl ⟨i, hg⟩)))))
    hp := h.hp.keep hb (fun g hg => hh g (.inl (.inr (.inr (.inr hg))))) }
theorem DevAt.belowS (h : DevAt Qp w b vd ds vn ns vp ps s) (hb : Below w.heap.size w w') : DevAt Qp w' b vd ds vn ns vp ps s :=
  h.same (Byt.of_below hb) fun k hk => hb.block k (h.al_lt k hk)
theorem DevAt.c0 (h : DevAt Qp w b vd ds vn ns vp ps s) : w.cell? ⟨b, 0, none⟩ = some vd := has_cell h.hb 0
theorem DevAt.c1 (h : DevAt Qp w b vd ds vn ns vp ps s) : w.cell? ⟨b, 1, none⟩ = some vn := has_cell h.hb 1
theorem DevAt.c2 (h : DevAt Qp w b vd ds vn ns vp ps s) : w.cell? ⟨b, 2, none⟩ = some vp := has_cell h.hb 2
theorem DevAt.c3 (h : DevAt Qp w b vd ds vn ns vp ps s) : w.cell? ⟨b, 3, none⟩ = some (.bool s.off) := has_cell h.hb 3
theorem DevAt.c4 (h : DevAt Qp w b vd ds vn ns vp ps s) : w.cell? ⟨b, 4, none⟩ = some (.bool s.planned) := has_cell h.hb 4
theorem DevAt.c5 (h : DevAt Qp w b vd ds vn ns vp ps s) : w.cell? ⟨b, 5, none⟩ = some (.int .i64 s.left) := has_cell h.hb 5
/-- Blocks of other types than the device. -/
theorem DevAt.ty (h : DevAt Qp w b vd ds vn ns vp ps s) : (∀ g, vn.ownBlock = some g → ∃ cur, w.heap[g]? = some (.cells cur 77 (0, 0))) ∧ (∀ g, vd.ownBlock = some g → ∃ cur, w.heap[g]? = some (.cells cur 77 (0, 0))) ∧
    (∀ i g, (ns.getD i nilS).ownBlock = some g → ∃ cur, w.heap[g]? = some (.cells cur 22 (0, 0))) ∧ (∀ i g, (ds.getD i nilS).ownBlock = some g → ∃ cur, w.heap[g]? = some (.cells cur 22 (0, 0))) ∧
    (∀ g, vp.ownBlock = some g → ∃ cur, w.heap[g]? = some (.cells cur 85 (0, 0))) :=
  ⟨h.hn.o.elem, h.hd.o.elem, fun i g hg => (h.hn.c i (by rw [← h.hn.l]; exact ns_lt hg)).elem g hg, fun i g hg => (h.hd.c i (by rw [← h.hd.l]; exact ns_lt hg)).elem g hg, h.hp.o.elem⟩
/-- A change of the device's own cells. -/
theorem DevAt.own (h : DevAt Qp w b vd ds vn ns vp ps s) {s' : Dev} (ho : Only (· = b) w w') (hb' : w'.heap[b]? = some (.cells #[vd, vn, vp, .bool s'.off, .bool s'.planned, .int .i64 s'.left] 81 (0, 0)))
    (e1 : s'.durable = s.durable) (e2 : s'.now = s.now) (e3 : s'.pending = s.pending) : DevAt Qp w' b vd ds vn ns vp ps s' := by
  obtain ⟨t1, t2, t3, t4, t5⟩ := h.ty
  have hB : Byt w w' := fun k cs fr e => ho.block k (lt_of_block e) (type_ne e h.hb (by decide))
  have ne : ∀ {g : Nat} {cur : Array Value} {t : TypeId}, w.heap[g]? = some (.cells cur t (0, 0)) → t ≠ 81 → w'.heap[g]? = w.heap[g]? := fun e ht => ho.block _ (lt_of_block e) (type_ne e h.hb ht)
  exact {
    hb := hb'
    hd := by rw [e1]; exact h.hd.keep hB (fun g hg => by obtain ⟨_, e⟩ := t2 g hg; exact ne e (by decide)) (fun i g hg => by obtain ⟨_, e⟩ := t4 i g hg; exact ne e (by decide))
    hn := by rw [e2]; exact h.hn.keep hB (fun g hg => by obtain ⟨_, e⟩ := t1 g hg; exact ne e (by decide)) (fun i g hg => by obtain ⟨_, e⟩ := t3 i g hg; exact ne e (by decide))
    hp := by rw [e3]; exact h.hp.keep hB (fun g hg => by obtain ⟨_, e⟩ := t5 g hg; exact ne e (by decide))
    a1 := h.a1, a2 := h.a2, a3 := h.a3 }
end

section
variable {w w' : World} {v : Value} {vs : List Value} {bs : List Blk}
theorem getD_set {α : Type} {l : List α} {i j : Nat} {x d : α} (h : i < l.length) : (l.set i x).getD j d = if j = i then x else l.getD j d := by
  by_cases e : j = i
  · subst e; rw [if_pos rfl, getD_set_self h]
  · rw [if_neg e, getD_set_ne (fun x => e x.symm)]
/-- A block is replaced in an array of blocks. -/
theorem BlksAt.put {g off n cap : Nat} (h : BlksAt Qp w (.slice (some ⟨g, off, none⟩) n cap) vs bs) {i : Nat} (hi : i < bs.length) {v' : Value} {b' : Blk} (hp : PgsAt Qp w v' b'.pages) :
    BlksAt Qp ((w.setCell ⟨g, off + i * 2, none⟩ v').setCell ⟨g, off + i * 2 + 1, none⟩ (.int .i64 b'.worn)) (.slice (some ⟨g, off, none⟩) n cap) (vs.set i v') (bs.set i b') := by
  have hn : n = bs.length := by
    rcases h.o.2 with ⟨h', h0⟩ | ⟨g', off', cap', cur, h', _⟩
    · simp at h'
    · simp at h'; exact h'.2.1
  subst hn
  have h1 := h.o.setCell (i * 2) (by omega) v'
  have h2 := h1.setCell (i * 2 + 1) (by omega) (.int .i64 b'.worn)
  obtain ⟨cur, hcur⟩ := h.o.elem g rfl
  have s1 : ∀ {k : Nat} {c : Array Value} {t : TypeId} {f : Nat × Nat}, w.heap[k]? = some (.cells c t f) → t ≠ 77 → ((w.setCell ⟨g, off + i * 2, none⟩ v').setCell ⟨g, off + i * 2 + 1, none⟩ (.int .i64 b'.worn)).heap[k]? = w.heap[k]? := fun hk ht => by
    rw [setCell_other (type_ne hk hcur ht), setCell_other (type_ne hk hcur ht)]
  have hB : Byt w ((w.setCell ⟨g, off + i * 2, none⟩ v').setCell ⟨g, off + i * 2 + 1, none⟩ (.int .i64 b'.worn)) := fun _ _ _ e => s1 e (by decide)
  have pk : ∀ {x : Value} {l : List Page}, PgsAt Qp w x l → PgsAt Qp ((w.setCell ⟨g, off + i * 2, none⟩ v').setCell ⟨g, off + i * 2 + 1, none⟩ (.int .i64 b'.worn)) x l := fun hx => hx.keep hB (fun k hk => by obtain ⟨_, e⟩ := hx.elem k hk; exact s1 e (by decide))
  have hl := h.l
  refine ⟨by rw [List.length_set, blkCells_set vs bs i v' b' hl hi]; rw [← Nat.add_assoc] at h2; exact h2, by rw [List.length_set, List.length_set]; exact hl, fun j hj => ?_⟩
  rw [List.length_set] at hj
  rw [getD_set (by omega), getD_set hi]
  by_cases e : j = i
  · rw [if_pos e, if_pos e]; exact pk hp
  · rw [if_neg e, if_neg e]; exact pk (h.c j hj)
theorem BlksAt.cells {g off n cap : Nat} (h : BlksAt Qp w (.slice (some ⟨g, off, none⟩) n cap) vs bs) (hn : n = bs.length) {i : Nat} (hi : i < bs.length) : w.cell? ⟨g, off + i * 2, none⟩ = some (vs.getD i nilS) ∧ w.cell? ⟨g, off + i * 2 + 1, none⟩ = some (.int .i64 (bs.getD i nilB).worn) := by
  subst hn
  obtain ⟨e1, e2⟩ := blkCells_get vs bs i h.l hi
  exact ⟨(h.o.cell (i * 2) (by omega)).trans e1, by rw [Nat.add_assoc]; exact (h.o.cell (i * 2 + 1) (by omega)).trans e2⟩
theorem BlksAt.len {g off n cap : Nat} (h : BlksAt Qp w (.slice (some ⟨g, off, none⟩) n cap) vs bs) : n = bs.length := by
  rcases h.o.2 with ⟨h', h0⟩ | ⟨g', off', cap', cur, h', _⟩
  · simp at h'
  · simp at h'; exact h'.2.1
theorem PgsAt.form {ps : List Page} (h : PgsAt Qp w v ps) (hn : 0 < ps.length) : ∃ g off cap, v = .slice (some ⟨g, off, none⟩) ps.length cap ∧ ps.length ≤ cap ∧ cap ≤ maxLen ∧ g < w.heap.size := by
  obtain ⟨pvs, h1, _⟩ := h; exact h1.form hn
end
end Go.Proofs.Ytbpjfhfibllhgaa

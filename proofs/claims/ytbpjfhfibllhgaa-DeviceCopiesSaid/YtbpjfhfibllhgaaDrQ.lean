/- Two devices of the program beside two of the document's. No code is walked here. Conditions: each its own. -/
import Derived.Test.YtbpjfhfibllhgaaDrPlays
namespace Go.Proofs.Ytbpjfhfibllhgaa
open Go.RowKit
open Go.Proofs.Ytbpjfhfibllhgaa.Dv

/-- A block of bytes. -/
def IsU8 (w : World) (k : Nat) : Prop := ∃ cur, w.heap[k]? = some (.cells cur 5 (0, 0))
/-- Blocks of bytes of Q1 are as they were, and in Q2. -/
def Qto (Q1 Q2 : Nat → Prop) (w w' : World) : Prop := ∀ k, Q1 k → IsU8 w k → w'.heap[k]? = w.heap[k]? ∧ Q2 k
section
variable {Q1 Q2 : Nat → Prop} {w w' : World} {v : Value}
theorem IsU8.lt {k : Nat} (h : IsU8 w k) : k < w.heap.size := by obtain ⟨_, h⟩ := h; exact lt_of_block h
theorem PgAt.to {p : Page} (h : PgAt Q1 w v p) (hq : Qto Q1 Q2 w w') : PgAt Q2 w' v p := by
  cases p with
  | none => exact h
  | some l => obtain ⟨h1, g, h2, h3, h4⟩ := h; obtain ⟨e, q⟩ := hq g h4 ⟨_, h3⟩; exact ⟨h1, g, h2, e.trans h3, q⟩
theorem PgsAt.to {ps : List Page} (h : PgsAt Q1 w v ps) (hq : Qto Q1 Q2 w w') (hv : ∀ g, v.ownBlock = some g → w'.heap[g]? = w.heap[g]?) : PgsAt Q2 w' v ps := by
  obtain ⟨pvs, h1, h2⟩ := h
  exact ⟨pvs, h1.heap hv, fun i hi => (h2 i hi).to hq⟩
theorem BlksAt.to {vs : List Value} {bs : List Blk} (h : BlksAt Q1 w v vs bs) (hq : Qto Q1 Q2 w w') (hv : ∀ g, v.ownBlock = some g → w'.heap[g]? = w.heap[g]?) (hs : ∀ i g, (vs.getD i nilS).ownBlock = some g → w'.heap[g]? = w.heap[g]?) : BlksAt Q2 w' v vs bs :=
  ⟨h.o.heap hv, h.l, fun i hi => (h.c i hi).to hq (hs i)⟩
theorem OpsAt.to {vs : List Value} {os : List Deed} (h : OpsAt Q1 w v vs os) (hq : Qto Q1 Q2 w w') (hv : ∀ g, v.ownBlock = some g → w'.heap[g]? = w.heap[g]?) : OpsAt Q2 w' v vs os :=
  ⟨h.o.heap hv, h.l, fun i hi => (h.c i hi).to hq⟩
theorem DevAt.to {b : Nat} {vd vn vp : Value} {ds ns ps : List Value} {s : Dev} (h : DevAt Q1 w b vd ds vn ns vp ps s) (hq : Qto Q1 Q2 w w') (hh : ∀ k, Al b vd ds vn ns vp k → w'.heap[k]? = w.heap[k]?) : DevAt Q2 w' b vd ds vn ns vp ps s :=
  ⟨(hh b (.inl (.inl rfl))).trans h.hb, h.hd.to hq (fun g hg => hh g (.inr (.inl hg))) (fun i g hg => hh g (.inr (.inr ⟨i, hg⟩))), h.hn.to hq (fun g hg => hh g (.inl (.inr (.inl hg)))) (fun i g hg => hh g (.inl (.inr (.inr (.inl ⟨i, hg⟩))))),
    h.hp.to hq (fun g hg => hh g (.inl (.inr (.inr (.inr hg))))), h.a1, h.a2, h.a3⟩
theorem DevAt.noU8 {b : Nat} {vd vn vp : Value} {ds ns ps : List Value} {s : Dev} (h : DevAt Q1 w b vd ds vn ns vp ps s) : ∀ k, Al b vd ds vn ns vp k → ¬ IsU8 w k := by
  obtain ⟨t1, t2, t3, t4, t5⟩ := h.ty
  have key : ∀ {k : Nat} {cur : Array Value} {t : TypeId}, w.heap[k]? = some (.cells cur t (0, 0)) → t ≠ 5 → ¬ IsU8 w k := fun {k cur t} hk ht ⟨_, hu⟩ => by
    rw [hk] at hu
    simp only [Option.some.injEq, Obj.cells.injEq] at hu
    exact ht hu.2.1
  rintro k ((rfl | h1 | ⟨i, h1⟩ | h1) | h1 | ⟨i, h1⟩)
  · exact key h.hb (by decide)
  · obtain ⟨_, e⟩ := t1 k h1; exact key e (by decide)
  · obtain ⟨_, e⟩ := t3 i k h1; exact key e (by decide)
  · obtain ⟨_, e⟩ := t5 k h1; exact key e (by decide)
  · obtain ⟨_, e⟩ := t2 k h1; exact key e (by decide)
  · obtain ⟨_, e⟩ := t4 i k h1; exact key e (by decide)
theorem DS.to {P : Nat → Prop} {b n p : Nat} {s : Dev} (h : DS Q1 w P b n p s) (hq : Qto Q1 Q2 w w') (hh : ∀ k, P k → k < w.heap.size → ¬ IsU8 w k → w'.heap[k]? = w.heap[k]?) : DS Q2 w' (fun k => P k ∧ k < w.heap.size ∧ ¬ IsU8 w k) b n p s := by
  obtain ⟨vd, ds, vn, ns, vp, ps, hD, g, hA⟩ := h
  have h3 : ∀ k, Al b vd ds vn ns vp k → P k ∧ k < w.heap.size ∧ ¬ IsU8 w k := fun k hk => ⟨hA k hk, hD.al_lt k hk, hD.noU8 k hk⟩
  exact ⟨vd, ds, vn, ns, vp, ps, hD.to hq fun k hk => hh k (h3 k hk).1 (h3 k hk).2.1 (h3 k hk).2.2, g, h3⟩
theorem DS.qmono {P : Nat → Prop} {b n p : Nat} {s : Dev} (h : DS Q1 w P b n p s) (hq : ∀ k, Q1 k → IsU8 w k → Q2 k) : DS Q2 w P b n p s :=
  (h.to (Q2 := Q2) (w' := w) (fun k h1 h2 => ⟨rfl, hq k h1 h2⟩) fun _ _ _ _ => rfl).mono fun k hk => hk.1
theorem d_copy {P : Nat → Prop} {b n p : Nat} {s : Dev} (h : DS Q1 w P b n p s) (hpl : s.pending.length ≤ 1000000) : Calls Try.prog 27 #[.pointer (some ⟨b, 0, none⟩)] w (CopyP Q1 n p s w) := by
  obtain ⟨vd, ds, vn, ns, vp, ps, hD, g, hA⟩ := h
  exact copy_any hD g hpl
end
/-- Beside a device that is played: another device of the program (in Pc), two of the document's (in Kd), their boxes. -/
structure CpB (w0 : World) (K Kd Pc : Nat → Prop) (c rb ob n p : Nat) (s0 : Dev) (q : RQ) (g : RG) (q0 : RQ) (g0 : RG) (w : World) : Prop where
  cs : DS K w Pc c n p s0
  r : RAt Kd w q g
  ro : RAt Kd w q0 g0
  o1 : w.heap[rb]? = some (.cells (rgC q g) tRD (0, 0))
  o2 : w.heap[ob]? = some (.cells (rgC q0 g0) tRD (0, 0))
  k1 : K rb
  k2 : K ob
  ne : rb ≠ ob
  l1 : w0.heap.size ≤ rb
  l2 : w0.heap.size ≤ ob
  kd : ∀ k, Kd k → K k
  kp : ∀ k, Pc k → K k
  dj : ∀ k, Kd k → ¬ Pc k
  lp : ∀ k, Pc k → w0.heap.size ≤ k
  n1 : ¬ Pc rb
  n2 : ¬ Pc ob
section
variable {w0 w w1 w' : World} {K J Kd Pc : Nat → Prop} {b c rb ob n p gb : Nat} {s s' s0 : Dev} {q q' q0 : RQ} {g g' g0 : RG}
theorem CpB.same (h : CpB w0 K Kd Pc c rb ob n p s0 q g q0 g0 w) (hs : SameD K w w') : CpB w0 K Kd Pc c rb ob n p s0 q g q0 g0 w' :=
  { h with
    cs := (h.cs.to (Q2 := K) (w' := w') (fun k h1 _ => ⟨hs k h1, h1⟩) fun k h1 _ _ => hs k (h.kp k h1)).mono fun k hk => hk.1
    r := h.r.heap fun k hk _ => hs k (h.kd k hk)
    ro := h.ro.heap fun k hk _ => hs k (h.kd k hk)
    o1 := (hs _ h.k1).trans h.o1
    o2 := (hs _ h.k2).trans h.o2 }
theorem CpB.more (h : CpB w0 K Kd Pc c rb ob n p s0 q g q0 g0 w) (hJ : ∀ k, K k → J k) : CpB w0 J Kd Pc c rb ob n p s0 q g q0 g0 w :=
  { h with cs := h.cs.qmono fun k hk _ => hJ k hk, k1 := hJ _ h.k1, k2 := hJ _ h.k2, kd := fun k hk => hJ k (h.kd k hk), kp := fun k hk => hJ k (h.kp k hk) }
/-- The document's new device lies in its box. -/
theorem CpB.doc (h : CpB w0 K Kd Pc c rb ob n p s0 q g q0 g0 w) {Jd : Nat → Prop} (hr : RAt Jd w q' g') (hd : ∀ k, Kd k → Jd k) (hk : ∀ k, Jd k → K k) (hj : ∀ k, Jd k → ¬ Pc k) : CpB w0 K Jd Pc c rb ob n p s0 q' g' q0 g0 (w.setRow rb (rgC q' g')) := by
  have hh : ∀ {k : Nat} {cs : Array Value} {e : TypeId}, w.heap[k]? = some (.cells cs e (0, 0)) → e ≠ tRD → (w.setRow rb (rgC q' g')).heap[k]? = w.heap[k]? := fun hk he => setRow_other _ _ _ _ (type_ne hk h.o1 he)
  exact { h with
    cs := (h.cs.to (Q2 := K) (w' := w.setRow rb (rgC q' g')) (fun k h1 ⟨_, h2⟩ => ⟨hh h2 (by decide), h1⟩) fun k h1 _ _ => setRow_other _ _ _ _ fun e => h.n1 (by rw [← e]; exact h1)).mono fun k hk => hk.1
    r := hr.rowB h.o1 _
    ro := (h.ro.rowB h.o1 _).to fun k _ hk => hd k hk
    o1 := setRow_heap _ _ _ _ _ _ h.o1
    o2 := (setRow_other _ _ _ _ h.ne.symm).trans h.o2
    kd := hk, dj := hj }
/-- The other device's turn. -/
theorem CpB.swap (ht : CD (fun _ => True) w0 K b n p s w) (h : CpB w0 K Kd Pc c rb ob n p s0 q g q0 g0 w) : ∃ J Pd, CD (fun _ => True) w0 J c n p s0 w ∧ CpB w0 J Kd Pd b ob rb n p s q0 g0 q g w := by
  refine ⟨fun k => k < w.heap.size ∧ (¬ Pc k ∨ IsU8 w k), fun k => (w0.heap.size ≤ k ∧ ¬ K k) ∧ k < w.heap.size ∧ ¬ IsU8 w k, ⟨?_, ht.be, fun k hk => hk.1⟩, ?_⟩
  · refine (h.cs.to (Q2 := fun _ => True) (w' := w) (fun _ _ _ => ⟨rfl, trivial⟩) fun _ _ _ _ => rfl).mono fun k hk => ⟨h.lp k hk.1, fun hj => hj.2.elim (fun h1 => h1 hk.1) hk.2.2⟩
  · exact {
      cs := ht.t.to (w' := w) (fun k _ hu => ⟨rfl, hu.lt, .inr hu⟩) fun _ _ _ _ => rfl
      r := h.ro, ro := h.r, o1 := h.o2, o2 := h.o1
      k1 := ⟨ht.lt _ h.k2, .inl h.n2⟩, k2 := ⟨ht.lt _ h.k1, .inl h.n1⟩
      ne := h.ne.symm, l1 := h.l2, l2 := h.l1
      kd := fun k hk => ⟨ht.lt _ (h.kd k hk), .inl (h.dj k hk)⟩
      kp := fun k hk => ⟨hk.2.1, .inl fun hp => hk.1.2 (h.kp k hp)⟩
      dj := fun k hk hp => hp.1.2 (h.kd k hk)
      lp := fun k hk => hk.1.1
      n1 := fun hp => hp.1.2 h.k2, n2 := fun hp => hp.1.2 h.k1 }
theorem CD.qmono {Q1 Q2 : Nat → Prop} (h : CD Q1 w0 K b n p s w) (hq : ∀ k, Q1 k → IsU8 w k → Q2 k) : CD Q2 w0 K b n p s w := ⟨h.t.qmono hq, h.be, h.lt⟩
/-- A byte of a block that is neither the device's nor kept. -/
theorem CD.byte {o : Nat} {u : Value} (h : CD (· ≠ gb) w0 (fun k => K k ∨ k = gb) b n p s w) (hl : w0.heap.size ≤ gb) : CD (· ≠ gb) w0 (fun k => K k ∨ k = gb) b n p s (w.setCell ⟨gb, o, none⟩ u) :=
  ⟨(h.t.to (Q2 := (· ≠ gb)) (w' := w.setCell ⟨gb, o, none⟩ u) (fun k h1 _ => ⟨Below.heap_setCell _ _ _ _ h1, h1⟩) fun k h1 _ _ => Below.heap_setCell _ _ _ _ fun e => h1.2 (.inr e)).mono fun k hk => hk.1,
    h.be.setCell (p := ⟨gb, o, none⟩) hl _, fun k hk => by have := h.lt k hk; rw [World.size_setCell]; exact this⟩
end
end Go.Proofs.Ytbpjfhfibllhgaa

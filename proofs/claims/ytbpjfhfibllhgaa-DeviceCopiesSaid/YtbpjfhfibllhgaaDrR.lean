/- DeviceCopies: what holds between its steps. No code is walked here. Conditions: each its own. -/
import Derived.Test.YtbpjfhfibllhgaaDrQ
namespace Go.Proofs.Ytbpjfhfibllhgaa
open Go.RowKit
open Go.Proofs.Ytbpjfhfibllhgaa.Dv

def tAC : TypeId := 55
theorem infoA5 : (Try.prog.info? 55).map (·.size) = some 5 := by kernel_rfl
/-- Two devices of the program, two of the document's; the first was played. -/
structure CpS (w0 : World) (K Kd Pc : Nat → Prop) (b c rb ob n p L : Nat) (s s0 : Dev) (q : RQ) (g : RG) (q0 : RQ) (g0 : RG) (w : World) : Prop where
  t : CD (fun _ => True) w0 K b n p s w
  bb : CpB w0 K Kd Pc c rb ob n p s0 q g q0 g0 w
  m : SimD n p s g.pl
  l : s.pending.length ≤ L
  m0 : SimD n p s0 g0.pl
  l0 : s0.pending.length ≤ 80
section
variable {w0 w w1 w2 w' wr : World} {K KT J Kd Pc : Nat → Prop} {b c rb ob n p gb go gc dn ax L L' : Nat} {s s' s0 : Dev} {q q' q0 : RQ} {g g' g0 : RG} {cs cs' : Array Value}
theorem CpS.bel (h : CpS w0 K Kd Pc b c rb ob n p L s s0 q g q0 g0 w) (hb : Below w.heap.size w w') : CpS w0 K Kd Pc b c rb ob n p L s s0 q g q0 g0 w' := { h with t := h.t.bel hb, bb := h.bb.same (h.t.same hb) }
theorem CpS.swap (h : CpS w0 K Kd Pc b c rb ob n p L s s0 q g q0 g0 w) (hL : L ≤ 80) (hL' : s0.pending.length ≤ L') : ∃ J Pd, CpS w0 J Kd Pd c b ob rb n p L' s0 s q0 g0 q g w := by
  obtain ⟨J, Pd, h1, h2⟩ := h.bb.swap h.t
  exact ⟨J, Pd, h1, h2, h.m0, hL', h.m, Nat.le_trans h.l hL⟩
/-- Behind a call of the document: its new device nb lies in a box, then in rb. -/
theorem CpB.told {Qp : Nat → Prop} (t : CD Qp w0 KT b n p s w) (bb : CpB w0 K Kd Pc c rb ob n p s0 q g q0 g0 w) (hKT : ∀ k, K k → KT k) (hr : RAt (fun j => Kd j ∨ w.heap.size ≤ j) w' q' g') (hb : Below w.heap.size w w') (hw2 : w2 = (w'.alloc (.cells zRD tRD)).setRow w'.heap.size cs) :
    CD Qp w0 (fun k => KT k ∨ (w.heap.size ≤ k ∧ k < w2.heap.size)) b n p s (w2.setRow rb (rgC q' g')) ∧
      CpB w0 (fun k => K k ∨ (w.heap.size ≤ k ∧ k < w2.heap.size)) (fun k => Kd k ∨ (w.heap.size ≤ k ∧ k < w'.heap.size)) Pc c rb ob n p s0 q' g' q0 g0 (w2.setRow rb (rgC q' g')) := by
  subst hw2
  have hsz : ((w'.alloc (.cells zRD tRD)).setRow w'.heap.size cs).heap.size = w'.heap.size + 1 := by simp
  have hb2 : Below w.heap.size w ((w'.alloc (.cells zRD tRD)).setRow w'.heap.size cs) := below_setRow (hb.alloc hb.size _) hb.size _
  have hb3 : Below w'.heap.size w' ((w'.alloc (.cells zRD tRD)).setRow w'.heap.size cs) := below_setRow ((Below.refl _ _).alloc (Nat.le_refl _) _) (Nat.le_refl _) _
  have B2 := (bb.same (fun k hk => t.same hb2 k (hKT k hk))).more (J := fun k => K k ∨ (w.heap.size ≤ k ∧ k < ((w'.alloc (.cells zRD tRD)).setRow w'.heap.size cs).heap.size)) fun k hk => .inl hk
  refine ⟨(t.fresh hb2).row B2.o1 (.inl (hKT _ bb.k1)) bb.l1, ?_⟩
  exact B2.doc ((hr.to fun k hk hj => hj.imp id fun h1 => ⟨h1, hk⟩).bel hb3) (fun k hk => .inl hk) (fun k hk => hk.elim (fun h => .inl (bb.kd k h)) fun h => .inr ⟨h.1, by rw [hsz]; omega⟩) fun k hk => hk.elim (bb.dj k) fun h hp => by have := t.lt k (hKT k (bb.kp k hp)); omega
/-- Within a step: the act lies in its box ax, its data, a copy, at gb. -/
structure CpM (w0 : World) (K Kd Pc : Nat → Prop) (b c rb ob n p gb go gc dn ax : Nat) (ac : Array Value) (s s0 : Dev) (q : RQ) (g : RG) (q0 : RQ) (g0 : RG) (w : World) : Prop where
  t : CD (· ≠ gb) w0 (fun k => K k ∨ k = gb) b n p s w
  bb : CpB w0 K Kd Pc c rb ob n p s0 q g q0 g0 w
  ng : ¬ K gb
  lg : w0.heap.size ≤ gb
  xa : w.heap[ax]? = some (.cells ac tAC (0, 0))
  ka : K ax
  y : ∃ l : List Int, l.length = dn ∧ OL w 5 1 (.slice (some ⟨gb, go, none⟩) dn gc) dn (bys l)
section
variable {ac : Array Value}
theorem CpM.same (h : CpM w0 K Kd Pc b c rb ob n p gb go gc dn ax ac s s0 q g q0 g0 w) (t : CD (· ≠ gb) w0 (fun k => K k ∨ k = gb) b n p s' w') (hs : SameD (fun k => K k ∨ k = gb) w w') : CpM w0 K Kd Pc b c rb ob n p gb go gc dn ax ac s' s0 q g q0 g0 w' :=
  ⟨t, h.bb.same fun k hk => hs k (.inl hk), h.ng, h.lg, (hs _ (.inl h.ka)).trans h.xa, h.ka, by
    obtain ⟨l, hl, hy⟩ := h.y
    exact ⟨l, hl, hy.heap fun k hk => by simp [Value.ownBlock] at hk; subst hk; exact hs _ (.inr rfl)⟩⟩
theorem CpM.bel (h : CpM w0 K Kd Pc b c rb ob n p gb go gc dn ax ac s s0 q g q0 g0 w) (hb : Below w.heap.size w w') : CpM w0 K Kd Pc b c rb ob n p gb go gc dn ax ac s s0 q g q0 g0 w' := h.same (h.t.bel hb) (h.t.same hb)
/-- The document's call. -/
theorem CpM.told (h : CpM w0 K Kd Pc b c rb ob n p gb go gc dn ax ac s s0 q g q0 g0 w) (hr : RAt (fun j => Kd j ∨ w.heap.size ≤ j) w' q' g') (hb : Below w.heap.size w w') (hw2 : w2 = (w'.alloc (.cells zRD tRD)).setRow w'.heap.size cs) (hx : rb ≠ ax) :
    ∃ J Jd, CpM w0 J Jd Pc b c rb ob n p gb go gc dn ax ac s s0 q' g' q0 g0 (w2.setRow rb (rgC q' g')) := by
  obtain ⟨t1, b1⟩ := CpB.told h.t h.bb (fun k hk => .inl hk) hr hb hw2
  have hb2 : Below w.heap.size w w2 := by subst hw2; exact below_setRow (hb.alloc hb.size _) hb.size _
  have hgb := h.t.lt gb (.inr rfl)
  obtain ⟨l, hl, hy⟩ := h.y
  have hlax := lt_of_block h.xa
  have hrb : w2.heap[rb]? = some (.cells (rgC q g) tRD (0, 0)) := (hb2.block _ (lt_of_block h.bb.o1)).trans h.bb.o1
  refine ⟨_, _, ⟨⟨t1.t.mono fun k hk => ⟨hk.1, fun hj => hk.2 (hj.elim (fun hj => hj.elim (fun h1 => .inl (.inl h1)) .inr) fun h1 => .inl (.inr h1))⟩, t1.be, fun k hk => t1.lt k (hk.elim (fun hj => hj.elim (fun h1 => .inl (.inl h1)) .inr) fun h1 => .inl (.inr h1))⟩, b1, fun hk => hk.elim h.ng fun h1 => by omega, h.lg, ?_, .inl h.ka, l, hl, ?_⟩⟩
  · exact (setRow_other _ _ _ _ hx.symm).trans ((hb2.block _ hlax).trans h.xa)
  · exact (hy.bel hb2).heap fun k hk => by
      obtain ⟨cur, hc⟩ := OL.elem (hy.bel hb2) k hk
      exact setRow_other _ _ _ _ (type_ne hc hrb (by decide))
/-- A byte of the data. -/
theorem CpM.byte (h : CpM w0 K Kd Pc b c rb ob n p gb go gc dn ax ac s s0 q g q0 g0 w) {i : Nat} (hi : i < dn) (u : Int) : CpM w0 K Kd Pc b c rb ob n p gb go gc dn ax ac s s0 q g q0 g0 (w.setCell ⟨gb, go + i, none⟩ (.int .u8 u)) := by
  obtain ⟨l, hl, hy⟩ := h.y
  have hne : ∀ k, K k → k ≠ gb := fun k hk e => h.ng (by rw [← e]; exact hk)
  have hs : SameD K w (w.setCell ⟨gb, go + i, none⟩ (.int .u8 u)) := fun k hk => Below.heap_setCell _ _ _ _ (hne k hk)
  refine ⟨h.t.byte h.lg, h.bb.same hs, h.ng, h.lg, (hs _ h.ka).trans h.xa, h.ka, l.set i u, by rw [List.length_set]; exact hl, ?_⟩
  have := OL.setCell hy i (by omega) (.int .u8 u)
  unfold bys at *
  rw [List.map_set]
  exact this
theorem CpM.cell (h : CpM w0 K Kd Pc b c rb ob n p gb go gc dn ax ac s s0 q g q0 g0 w) {i : Nat} (hi : i < dn) : (∃ u : Int, w.cell? ⟨gb, go + i, none⟩ = some (.int .u8 u)) ∧ w.frozen? ⟨gb, go + i, none⟩ = false := by
  obtain ⟨l, hl, hy⟩ := h.y
  have hc := hy.cell i (by omega)
  rw [bys_get l i (by omega)] at hc
  refine ⟨⟨_, hc⟩, ?_⟩
  obtain ⟨cur, hcur⟩ := OL.elem hy gb rfl
  exact has_free hcur _
/-- The step is over. -/
theorem CpM.out (h : CpM w0 K Kd Pc b c rb ob n p gb go gc dn ax ac s s0 q g q0 g0 w) : CD (fun _ => True) w0 K b n p s w ∧ CpB w0 K Kd Pc c rb ob n p s0 q g q0 g0 w :=
  ⟨(h.t.less fun k hk => .inl hk).qmono fun _ _ _ => trivial, h.bb⟩
/-- The step begins: w the world where the act's data are copied. -/
theorem CpM.start (t : CD (fun _ => True) w0 K b n p s wr) (bb : CpB w0 K Kd Pc c rb ob n p s0 q g q0 g0 wr) (hb : Below wr.heap.size wr w) (hg : wr.heap.size ≤ gb) (hx : w.heap[ax]? = some (.cells ac tAC (0, 0))) (hax : wr.heap.size ≤ ax) {l : List Int} (hl : l.length = dn) (hy : OL w 5 1 (.slice (some ⟨gb, go, none⟩) dn gc) dn (bys l)) :
    ∃ J, CpM w0 J Kd Pc b c rb ob n p gb go gc dn ax ac s s0 q g q0 g0 w := by
  have hgl : gb < w.heap.size := OL.lt hy gb rfl
  have hxl := lt_of_block hx
  have hne : ax ≠ gb := by
    obtain ⟨cur, hc⟩ := OL.elem hy gb rfl
    exact type_ne hx hc (by decide)
  have t1 : CD (· ≠ gb) w0 K b n p s wr := t.qmono fun k _ hk e => by have := hk.lt; omega
  refine ⟨fun k => K k ∨ (wr.heap.size ≤ k ∧ k < w.heap.size ∧ k ≠ gb), ⟨(t1.fresh hb).less fun k hk => ?_, (bb.same (t1.same hb)).more fun k hk => .inl hk, ?_, Nat.le_trans t.be.size hg, hx, .inr ⟨hax, hxl, hne⟩, l, hl, hy⟩⟩
  · rcases hk with (hk | hk) | rfl
    · exact .inl hk
    · exact .inr ⟨hk.1, hk.2.1⟩
    · exact .inr ⟨hg, hgl⟩
  · rintro (hk | hk)
    · have := t.lt _ hk; omega
    · exact hk.2.2 rfl
end
/-- At the start: the first device was played, and copied. -/
theorem CpS.start (t : CD (fun _ => True) w0 K b n p s w) (hr : RAt K w q g) (m : SimD n p s g.pl) (hl : s.pending.length ≤ 40) (ho : w.heap[rb]? = some (.cells (rgC q g) tRD (0, 0))) (hk : K rb) (hlb : w0.heap.size ≤ rb) (hc : DS (IsU8 w) w1 (w.heap.size ≤ ·) c n p s) (hb : Below w.heap.size w w1)
    (hw2 : w2 = (w1.alloc (.cells zRD tRD)).setRow w1.heap.size (rgC q g)) : ∃ J Kd Pc, CpS w0 J Kd Pc b c rb w1.heap.size n p 40 s s q g q g w2 := by
  subst hw2
  have hsz : ((w1.alloc (.cells zRD tRD)).setRow w1.heap.size (rgC q g)).heap.size = w1.heap.size + 1 := by simp
  have hb1 : Below w1.heap.size w1 ((w1.alloc (.cells zRD tRD)).setRow w1.heap.size (rgC q g)) := below_setRow ((Below.refl _ _).alloc (Nat.le_refl _) _) (Nat.le_refl _) _
  have hb2 : Below w.heap.size w ((w1.alloc (.cells zRD tRD)).setRow w1.heap.size (rgC q g)) := hb.trans (hb1.mono hb.size)
  have hs1 := hb.size
  have hle := t.be.size
  have tt : DS (fun _ => True) ((w1.alloc (.cells zRD tRD)).setRow w1.heap.size (rgC q g)) (fun k => (w0.heap.size ≤ k ∧ ¬ K k) ∧ k < w.heap.size ∧ ¬ IsU8 w k) b n p s := (t.t.to (Q2 := fun _ => True) (w' := w) (fun _ _ _ => ⟨rfl, trivial⟩) fun _ _ _ _ => rfl).belowS hb2
  have hrl := lt_of_block ho
  refine ⟨fun k => K k ∨ (w.heap.size ≤ k ∧ k < w1.heap.size + 1) ∨ IsU8 w k, K, fun k => w.heap.size ≤ k ∧ k < w1.heap.size, ⟨⟨tt.mono fun k hk => ⟨hk.1.1, ?_⟩, t.be.trans (hb2.mono hle), fun k hk => ?_⟩, ?_, m, hl, m, by omega⟩⟩
  · rintro (h | h | h)
    · exact hk.1.2 h
    · have := hk.2.1; omega
    · exact hk.2.2 h
  · rw [hsz]
    rcases hk with h | h | h
    · have := t.lt k h; omega
    · omega
    · have := h.lt; omega
  · exact {
      cs := ((hc.bound.belowS hb1).qmono fun k hk _ => .inr (.inr hk)).mono fun k hk => hk
      r := hr.bel hb2, ro := hr.bel hb2
      o1 := (hb2.block _ hrl).trans ho
      o2 := setRow_heap _ _ _ _ _ _ (heap_alloc_new w1 _)
      k1 := .inl hk, k2 := .inr (.inl ⟨hs1, by omega⟩)
      ne := by omega, l1 := hlb, l2 := by omega
      kd := fun k hk => .inl hk
      kp := fun k hk => .inr (.inl ⟨hk.1, by omega⟩)
      dj := fun k hk hp => by have := t.lt k hk; have := hp.1; omega
      lp := fun k hk => Nat.le_trans hle hk.1
      n1 := fun hp => by have := hp.1; omega
      n2 := fun hp => by have := hp.2; omega }
end
theorem IsBytes.srcA {P : Program} {w : World} {ao : Option Addr} {n b off c : Nat} {X : Nat → Int} (h : IsBytes w ao n b off X) {tx e' : TypeId} (hk : P.underlying tx = some (.slice e')) : Src P 1 tx (.slice ao n c) n (bys (bl n X)) w := by
  by_cases h0 : 0 < n
  · rw [h.ao h0]
    refine Src.ofSlice (size := 1) w hk _ n c _ (by rw [bys_len, bl_len]; omega) (fun j u hu => ?_) (bys_one _)
    have hj : j < n := by have := (List.getElem?_eq_some_iff.1 hu).1; rwa [bys_len, bl_len] at this
    rw [Addr.add_lit, ← hu, bys_get _ _ (by rw [bl_len]; exact hj), bl_get, if_pos hj]
    exact h.c j hj
  · obtain rfl : n = 0 := by omega
    cases ao with
    | none => exact Src.ofNil (size := 1) w hk c
    | some a => exact Src.ofSlice (size := 1) w hk a 0 c _ (by rw [bys_len, bl_len]) (fun j u hu => by simp [bys, bl] at hu) (bys_one _)
/-- An act whose data were copied. -/
def ActV.copied (a : ActV) (gb go gc : Nat) : ActV := { a with dao := some ⟨gb, go, none⟩, dc := gc, db := gb, doff := go, dX := fun i => (bl a.dn a.dX).getD i 0 }
theorem ActV.ok.copied {w w' : World} {a : ActV} {gb go gc : Nat} (h : a.ok w) (hb : Below w.heap.size w w') (hy : OL w' 5 1 (.slice (some ⟨gb, go, none⟩) a.dn gc) a.dn (bys (bl a.dn a.dX))) : (a.copied gb go gc).ok w' :=
  { h with
    d := ⟨fun _ => rfl, fun _ => OL.lt hy gb rfl, fun i hi => (hy.cell i (by have : i < a.dn := hi; omega)).trans (bys_get _ _ (by rw [bl_len]; exact hi)), fun i hi => by
      have hi : i < a.dn := hi
      show 0 ≤ (bl a.dn a.dX).getD i 0 ∧ (bl a.dn a.dX).getD i 0 ≤ 255
      rw [bl_get, if_pos hi]
      exact h.d.bd i hi⟩
    k := h.k.below hb (Nat.le_refl _) }
end Go.Proofs.Ytbpjfhfibllhgaa

/- The two devices while acts are played, and what play leaves. No code is walked here. Conditions: each its own. -/
import Derived.Test.YtbpjfhfibllhgaaDrL
namespace Go.Proofs.Ytbpjfhfibllhgaa
open Go.RowKit
open Go.Proofs.Ytbpjfhfibllhgaa.Dv

theorem results_tct {P : Program} {fn : Func} {p u v : Tmp} {ty : TypeId} (h : fn.results = #[.tmp u, .cell p ty, .tmp v]) (tmps : Array Value) (w : World) (g : Nat) (t : TypeId) (cs : Array Value) (fr : Nat × Nat) (d : TypeDesc)
    (hp : tmps.getD p undef = .pointer (some ⟨g, 0, none⟩)) (hg : w.heap[g]? = some (.cells cs t fr))
    (hu : P.underlying ty = some d) (hd : (match d with | .struct _ | .array _ _ => true | _ => false) = true) (hi : (P.info? ty).map (·.size) = some cs.size) :
    (results fn tmps).run P w = .ok (.tuple #[tmps.getD u undef, .agg cs, tmps.getD v undef]) w := by
  have hp' : tmps[p]?.getD undef = .pointer (some ⟨g, 0, none⟩) := by simpa using hp
  simp [results, h, hp', asAddr, run_loadVar_row w g t ty cs fr d hg hu hd hi]
/-- The boxes of play: rb the document's device, px the result's, untouched. -/
structure Bx (w0 : World) (rb px : Nat) (K : Nat → Prop) (cs : Array Value) (w : World) : Prop where
  o : w.heap[rb]? = some (.cells cs tRD (0, 0))
  k : K rb
  lb : w0.heap.size ≤ rb
  ox : w.heap[px]? = some (.cells zRD tRD (0, 0))
  kx : K px
  lx : w0.heap.size ≤ px
  ne : px ≠ rb
/-- Both devices are played j acts. -/
structure PlS (w0 : World) (b rb px n p j : Nat) (K : Nat → Prop) (s : Dev) (q : RQ) (g : RG) (w : World) : Prop where
  pr : Pr w0 K b n p s q g w
  m : SimD n p s g.pl
  l : s.pending.length ≤ j
  x : Bx w0 rb px K (rgC q g) w
section
variable {w0 w w1 w' : World} {K J : Nat → Prop} {b rb px n p j : Nat} {s s' : Dev} {q q' : RQ} {g g' : RG}
theorem Bx.bel {cs : Array Value} (h : Bx w0 rb px K cs w) (hb : Below w.heap.size w w') : Bx w0 rb px K cs w' :=
  ⟨(hb.block _ (lt_of_block h.o)).trans h.o, h.k, h.lb, (hb.block _ (lt_of_block h.ox)).trans h.ox, h.kx, h.lx, h.ne⟩
theorem Bx.same {cs : Array Value} (h : Bx w0 rb px K cs w) (hs : SameD K w w') : Bx w0 rb px K cs w' := ⟨(hs _ h.k).trans h.o, h.k, h.lb, (hs _ h.kx).trans h.ox, h.kx, h.lx, h.ne⟩
theorem Bx.more {cs : Array Value} (h : Bx w0 rb px K cs w) (hJ : ∀ k, K k → J k) : Bx w0 rb px J cs w := ⟨h.o, hJ _ h.k, h.lb, h.ox, hJ _ h.kx, h.lx, h.ne⟩
theorem Bx.row {cs ds : Array Value} {nb : Nat} (h : Bx w0 rb px K cs w) (h1 : nb ≠ rb) (h2 : nb ≠ px) : Bx w0 rb px K cs (w.setRow nb ds) := ⟨(setRow_other _ _ _ _ h1.symm).trans h.o, h.k, h.lb, (setRow_other _ _ _ _ h2.symm).trans h.ox, h.kx, h.lx, h.ne⟩
theorem Bx.put {cs ds : Array Value} (h : Bx w0 rb px K cs w) : Bx w0 rb px K ds (w.setRow rb ds) := ⟨setRow_heap _ _ _ _ _ _ h.o, h.k, h.lb, (setRow_other _ _ _ _ h.ne).trans h.ox, h.kx, h.lx, h.ne⟩
theorem Bx.lt {cs : Array Value} (h : Bx w0 rb px K cs w) : rb < w.heap.size ∧ px < w.heap.size := ⟨lt_of_block h.o, lt_of_block h.ox⟩
theorem PlS.bel (h : PlS w0 b rb px n p j K s q g w) (hb : Below w.heap.size w w') : PlS w0 b rb px n p j K s q g w' := ⟨h.pr.bel hb, h.m, h.l, h.x.bel hb⟩
theorem CD.under {Qp : Nat → Prop} (h : CD Qp w1 (fun _ => False) b n p s w) (hb : Below w0.heap.size w0 w1) (hJ : ∀ k, J k → k < w1.heap.size) : CD Qp w0 J b n p s w :=
  ⟨h.t.mono fun k hk => ⟨Nat.le_trans hb.size hk.1, fun hj => by have := hJ k hj; have := hk.1; omega⟩, hb.trans (h.be.mono hb.size), fun k hk => Nat.lt_of_lt_of_le (hJ k hk) h.be.size⟩
/-- At the start: w the world behind the document's New. -/
theorem PlS.start (ht : CD (fun _ => True) w0 (· = px) b n p (Dev.init n p) w) (hr : RAt (fun j => False ∨ w.heap.size ≤ j) w1 q g) (hp : g.pl = RDev.init n p) (hb : Below w.heap.size w w1) (hx : w.heap[px]? = some (.cells zRD tRD (0, 0))) (hl : w0.heap.size ≤ px)
    (hw : w' = (w1.alloc (.cells zRD tRD)).setRow w1.heap.size (rgC q g)) : ∃ K, PlS w0 b w1.heap.size px n p 0 K (Dev.init n p) q g w' := by
  subst hw
  have hba : Below w.heap.size w (w1.alloc (.cells zRD tRD)) := hb.alloc hb.size _
  have h0 : (w1.alloc (.cells zRD tRD)).heap[w1.heap.size]? = some (.cells zRD tRD (0, 0)) := heap_alloc_new w1 _
  have hsz : (w1.alloc (.cells zRD tRD)).heap.size = w1.heap.size + 1 := by simp
  have hs1 := hb.size
  have hlx := lt_of_block hx
  have hpx : (w1.alloc (.cells zRD tRD)).heap[px]? = some (.cells zRD tRD (0, 0)) := (hba.block _ hlx).trans hx
  have P1 : Pr w0 (fun k => k = px ∨ (w.heap.size ≤ k ∧ k < (w1.alloc (.cells zRD tRD)).heap.size)) b n p (Dev.init n p) q g (w1.alloc (.cells zRD tRD)) :=
    ⟨ht.fresh hba, (hr.bel ((Below.refl _ _).alloc (Nat.le_refl _) _)).to fun k hk hj => hj.elim False.elim fun h1 => .inr ⟨h1, hk⟩⟩
  have hk1 : (fun k => k = px ∨ (w.heap.size ≤ k ∧ k < (w1.alloc (.cells zRD tRD)).heap.size)) w1.heap.size := .inr ⟨hs1, by omega⟩
  have hl1 : w0.heap.size ≤ w1.heap.size := Nat.le_trans ht.be.size hs1
  exact ⟨_, P1.row h0 hk1 hl1, by rw [hp]; exact SimD.init n p, Nat.le_refl _, setRow_heap _ _ _ _ _ _ h0, hk1, hl1, (setRow_other _ _ _ _ (by omega)).trans hpx, .inl rfl, hl, by omega⟩
/-- What play leaves. -/
def PlP (n p N : Nat) (w0 w : World) (e : Ending) (w' : World) : Prop := ∃ K b s q g, e = .returned (.tuple #[.pointer (some ⟨b, 0, none⟩), rgV q g, .bool true]) ∧ Pr w0 K b n p s q g w' ∧ SimD n p s g.pl ∧ s.pending.length ≤ N ∧ Below w.heap.size w w'
/-- Behind a call of the document: both have done the act; nb: the box of the document's new device. -/
def MidP (w0 : World) (b rb px n p j : Nat) (er : Int) (v15 v16 : Value) (w : World) : Prop := ∃ (nb : Nat) (K : Nat → Prop) (s : Dev) (q : RQ) (g : RG) (q0 : RQ) (g0 : RG), v15 = .pointer (some ⟨nb, 0, none⟩) ∧ v16 = .int .i64 er ∧ Pr w0 K b n p s q g w ∧ SimD n p s g.pl ∧ s.pending.length ≤ j ∧
  Bx w0 rb px K (rgC q0 g0) w ∧ w.heap[nb]? = some (.cells (rgC q g) tRD (0, 0)) ∧ nb ≠ rb
end
end Go.Proofs.Ytbpjfhfibllhgaa

/- The device's calls as the statements see them beside blocks K that are kept. Conditions: each contract names its own. -/
import Derived.Test.YtbpjfhfibllhgaaDrA
namespace Go.Proofs.Ytbpjfhfibllhgaa
open Go.RowKit
open Go.Proofs.Ytbpjfhfibllhgaa.Dv
variable {Qp : Nat → Prop}

/-- Blocks K are as they were. -/
def SameD (K : Nat → Prop) (w w' : World) : Prop := ∀ k, K k → w'.heap[k]? = w.heap[k]?
/-- A device of new blocks, apart from those that are kept. -/
structure CD (Qp : Nat → Prop) (w0 : World) (K : Nat → Prop) (b n p : Nat) (s : Dev) (w : World) : Prop where
  t : DS Qp w (fun k => w0.heap.size ≤ k ∧ ¬ K k) b n p s
  be : Below w0.heap.size w0 w
  lt : ∀ k, K k → k < w.heap.size
def CDP (Qp : Nat → Prop) (w0 : World) (K : Nat → Prop) (b n p : Nat) (s : Dev) (v : Value) (w : World) (e : Ending) (w' : World) : Prop := e = .returned v ∧ CD Qp w0 K b n p s w' ∧ SameD K w w'
section
variable {w0 w w1 w' : World} {K J : Nat → Prop} {b n p : Nat} {s s' : Dev}
theorem SameD.refl (K : Nat → Prop) (w : World) : SameD K w w := fun _ _ => rfl
theorem SameD.trans (h : SameD K w w1) (h' : SameD K w1 w') : SameD K w w' := fun k hk => (h' k hk).trans (h k hk)
theorem CD.bel (h : CD Qp w0 K b n p s w) (hb : Below w.heap.size w w') : CD Qp w0 K b n p s w' := ⟨h.t.belowS hb, h.be.trans (hb.mono h.be.size), fun k hk => Nat.lt_of_lt_of_le (h.lt k hk) hb.size⟩
theorem CD.same (h : CD Qp w0 K b n p s w) (hb : Below w.heap.size w w') : SameD K w w' := fun k hk => hb.block k (h.lt k hk)
theorem CD.less (h : CD Qp w0 K b n p s w) (hJ : ∀ k, J k → K k) : CD Qp w0 J b n p s w := ⟨h.t.mono fun k hk => ⟨hk.1, fun hj => hk.2 (hJ k hj)⟩, h.be, fun k hk => h.lt k (hJ k hk)⟩
/-- New blocks are kept from here on. -/
theorem CD.add (h : CD Qp w0 K b n p s w) (hb : Below w.heap.size w w') (hJ : ∀ k, J k → w.heap.size ≤ k ∧ k < w'.heap.size) : CD Qp w0 (fun k => K k ∨ J k) b n p s w' :=
  ⟨(h.t.bound.belowS hb).mono fun k hk => ⟨hk.1.1, fun hj => hj.elim hk.1.2 fun hj => by have := (hJ k hj).1; have := hk.2; omega⟩, (h.bel hb).be, fun k hk => hk.elim (fun hk => Nat.lt_of_lt_of_le (h.lt k hk) hb.size) fun hj => (hJ k hj).2⟩
theorem CD.fresh (h : CD Qp w0 K b n p s w) (hb : Below w.heap.size w w') : CD Qp w0 (fun k => K k ∨ (w.heap.size ≤ k ∧ k < w'.heap.size)) b n p s w' := h.add hb fun _ hk => hk
/-- A call of the device. -/
theorem CD.up {v : Value} {e : Ending} (h : CD Qp w0 K b n p s w) (hp : DPost Qp (fun k => w0.heap.size ≤ k ∧ ¬ K k) b n p v s' w e w') : CDP Qp w0 K b n p s' v w e w' := by
  have hs : SameD K w w' := fun k hk => hp.2.2.on.block k (h.lt k hk) fun f => f.2 hk
  have hbe : Below w0.heap.size w0 w' := h.be.trans (hp.2.2.on.below h.be.size fun k hk => hk.1)
  exact ⟨hp.1, ⟨hp.2.1.mono fun k hk => hk.elim id fun hk => ⟨Nat.le_trans h.be.size hk, fun hK => by have := h.lt k hK; omega⟩, hbe, fun k hk => Nat.lt_of_lt_of_le (h.lt k hk) hp.2.2.on.size⟩, hs⟩
theorem cd_new (w : World) {n p : Nat} (h1 : 1 ≤ n) (h2 : n ≤ 64) (h3 : 1 ≤ p) (h4 : p ≤ 32) : Calls Try.prog 12 #[.int .i64 n, .int .i64 p] w fun e w' =>
    ∃ b, e = .returned (.tuple #[.pointer (some ⟨b, 0, none⟩), errV 0]) ∧ CD Qp w (fun _ => False) b n p (Dev.init n p) w' :=
  (d_new w h1 h2 h3 h4).mono fun e w' ⟨b, he, hD, hb⟩ => ⟨b, he, hD.mono fun k hk => ⟨hk, fun f => f⟩, hb, fun _ f => f.elim⟩
theorem cd_next (i : Int) (h : CD Qp w0 K b n p s w) : Calls Try.prog 15 #[.pointer (some ⟨b, 0, none⟩), .int .i64 i] w fun e w' => e = .returned (.tuple #[.int .i64 (nextI n s i), errV (nextE n i)]) ∧ Below w.heap.size w w' := d_next i h.t
theorem cd_do (a : ActV) (h : CD Qp w0 K b n p s w) (hpl : s.pending.length ≤ 1000000) (ha : a.ok w) (hP : 0 < a.dn → a.db < w0.heap.size ∨ K a.db) (hQ : ∀ k, w.heap.size ≤ k → Qp k) :
    Calls Try.prog 26 #[.pointer (some ⟨b, 0, none⟩), a.val] w (CDP Qp w0 K b n p (doS n p s a) (.int .i64 (doE n p s a)) w) :=
  (do_any a h.t hpl ha (fun h0 hk => (hP h0).elim (fun h1 => by have := hk.1; omega) hk.2) hQ).mono fun _ _ he => h.up he
theorem cd_nextA (a : ActV) (h : CD Qp w0 K b n p s w) (hk : 0 ≤ a.kind ∧ a.kind ≤ 255) : Calls Try.prog 31 #[.pointer (some ⟨b, 0, none⟩), a.val] w (NextP (actPage n s a) w) := next_act a h.t hk
end
end Go.Proofs.Ytbpjfhfibllhgaa

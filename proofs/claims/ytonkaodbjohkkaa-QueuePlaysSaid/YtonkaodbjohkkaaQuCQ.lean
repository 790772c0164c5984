/- queue: the calls as QueueScans sees them: a queue of new blocks apart from those that are kept. Conditions: each contract names its own. -/
import Derived.Test.YtonkaodbjohkkaaQuBg
import Derived.Test.YtonkaodbjohkkaaQuScK
namespace Go.Proofs.Ytonkaodbjohkkaa
open Go.RowKit

def Same (K : Nat → Prop) (w w' : World) : Prop := ∀ k, K k → w'.heap[k]? = w.heap[k]?
structure CQ (w0 : World) (K : Nat → Prop) (b : Nat) (s : QS) (w : World) : Prop where
  q : QIs w (fun k => w0.heap.size ≤ k ∧ ¬ K k) b s
  be : Below w0.heap.size w0 w
  lt : ∀ k, K k → k < w.heap.size
section
variable {w0 w w1 w' : World} {K J : Nat → Prop} {b c : Nat} {s s' : QS} {r : Option Nat}
theorem Same.mono (h : Same K w w') (hJ : ∀ k, J k → K k) : Same J w w' := fun k hk => h k (hJ k hk)
theorem CQ.bel (h : CQ w0 K b s w) (hb : Below w.heap.size w w') : CQ w0 K b s w' :=
  ⟨h.q.belowS hb, h.be.trans (hb.mono h.be.size), fun k hk => Nat.lt_of_lt_of_le (h.lt k hk) hb.size⟩
theorem CQ.less (h : CQ w0 K b s w) (hJ : ∀ k, J k → K k) : CQ w0 J b s w := ⟨h.q.mono fun k hk => ⟨hk.1, fun h => hk.2 (hJ k h)⟩, h.be, fun k hk => h.lt k (hJ k hk)⟩
theorem CQ.grownAdd (h : CQ w0 K b s w) (hg : w.grownBy w' r) (hK : ∀ g, r = some g → K g ∧ w0.heap.size ≤ g) (hJ : ∀ k, J k → K k ∨ (w.heap.size ≤ k ∧ k < w'.heap.size)) : CQ w0 (fun k => K k ∨ J k) b s w' := by
  obtain ⟨⟨vr, vf, vg, ht, ha⟩, hb, hl⟩ := h
  refine ⟨⟨vr, vf, vg, ht.same fun j hj => hg.block j (ht.lt hj) fun e => (ha j hj).2 (hK j e.symm).1, fun j hj => ⟨(ha j hj).1, fun hKJ => ?_⟩⟩, ⟨hg.os.trans hb.os, hg.tape.trans hb.tape, hg.output.trans hb.output, Nat.le_trans hb.size hg.size, fun k hk => (hg.block k (Nat.lt_of_lt_of_le hk hb.size) fun e => ?_).trans (hb.block k hk)⟩, fun k hk => ?_⟩
  · rcases hKJ with h1 | h1
    · exact (ha j hj).2 h1
    · rcases hJ j h1 with h2 | h2
      · exact (ha j hj).2 h2
      · have := ht.lt hj; omega
  · have := (hK k e.symm).2
    omega
  · rcases hk with h1 | h1
    · exact Nat.lt_of_lt_of_le (hl k h1) hg.size
    · rcases hJ k h1 with h2 | h2
      · exact Nat.lt_of_lt_of_le (hl k h2) hg.size
      · exact h2.2
theorem CQ.up (h : CQ w0 K b s w) (hq : QUp (fun k => w0.heap.size ≤ k ∧ ¬ K k) b s' w w') : CQ w0 K b s' w' ∧ Same K w w' :=
  ⟨⟨hq.is.mono fun k hk => by
      rcases hk with hk | hk
      · exact hk
      · exact ⟨Nat.le_trans h.be.size hk, fun hK => by have := h.lt k hK; omega⟩, h.be.trans (hq.only.below h.be.size fun k hk => hk.1), fun k hk => Nat.lt_of_lt_of_le (h.lt k hk) hq.only.size⟩,
    fun k hk => hq.only.block k (h.lt k hk) fun e => e.2 hk⟩
theorem cq_has {x : Bool} {k : ByteArray} (h : CQ w0 K b s w) (hx : (hasL s.r k || hasL s.f k) = x) : Calls Try.prog 12 #[.pointer (some ⟨b, 0, none⟩), .string k] w fun e w' => e = .returned (.bool x) ∧ Below w.heap.size w w' := by
  obtain ⟨vr, vf, vg, h1, _⟩ := id h.q
  rw [← hx]
  exact q_has h1 k
theorem cq_put {cap z : Int} {KK : ByteArray → Prop} {hs : List It} {k : ByteArray} (h : CQ w0 K b s w) (g : ScI cap KK hs c s) (hcap : 16 ≤ cap ∧ cap ≤ 271) (hc : c ≤ 1000) (hz : 0 ≤ z ∧ z ≤ 1000) :
    Calls Try.prog 13 #[.pointer (some ⟨b, 0, none⟩), .string k, .int .i64 z] w fun e w' => ∃ v, e = .returned v ∧ CQ w0 K b (putS s k z).1 w' ∧ Same K w w' := by
  have hs := g.sum
  refine (q_put h.q g.g g.g64 (by omega) (by omega) k z (by omega)).mono ?_
  rintro e w1 ⟨v, rfl, _, _, hq⟩
  exact ⟨v, rfl, h.up hq⟩
end
end Go.Proofs.Ytonkaodbjohkkaa

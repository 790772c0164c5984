/- network: the calls as the statements see them: a network of new blocks apart from those that are kept. Conditions: each contract names its own. -/
import Derived.Test.YtkhiepjlfbjgdaaNwMsgs
import Derived.Test.YtkhiepjlfbjgdaaNwCuts
namespace Go.Proofs.Ytkhiepjlfbjgdaa
open Go.RowKit

/-- Blocks K are as they were. -/
def Same (K : Nat → Prop) (w w' : World) : Prop := ∀ k, K k → w'.heap[k]? = w.heap[k]?
structure CN (w0 : World) (K : Nat → Prop) (b c : Nat) (s : Net) (w : World) : Prop where
  t : NS w (fun k => w0.heap.size ≤ k ∧ ¬ K k) b s
  g : NGd c s
  be : Below w0.heap.size w0 w
  lt : ∀ k, K k → k < w.heap.size
def CNP (w0 : World) (K : Nat → Prop) (b c : Nat) (s : Net) (v : Value) (w : World) (e : Ending) (w' : World) : Prop := e = .returned v ∧ CN w0 K b c s w' ∧ Same K w w'
section
variable {w0 w w1 w' : World} {K J : Nat → Prop} {b c c' : Nat} {s s' : Net} {r : Option Nat}
theorem Same.refl (K : Nat → Prop) (w : World) : Same K w w := fun _ _ => rfl
theorem Same.trans (h : Same K w w1) (h' : Same K w1 w') : Same K w w' := fun k hk => (h' k hk).trans (h k hk)
theorem Same.mono (h : Same K w w') (hJ : ∀ k, J k → K k) : Same J w w' := fun k hk => h k (hJ k hk)
theorem CN.bel (h : CN w0 K b c s w) (hb : Below w.heap.size w w') : CN w0 K b c s w' :=
  ⟨h.t.belowS hb, h.g, h.be.trans (hb.mono h.be.size), fun k hk => Nat.lt_of_lt_of_le (h.lt k hk) hb.size⟩
theorem CN.same (h : CN w0 K b c s w) (hb : Below w.heap.size w w') : Same K w w' := fun k hk => hb.block k (h.lt k hk)
theorem CN.less (h : CN w0 K b c s w) (hJ : ∀ k, J k → K k) : CN w0 J b c s w := ⟨h.t.mono fun k hk => ⟨hk.1, fun h => hk.2 (hJ k h)⟩, h.g, h.be, fun k hk => h.lt k (hJ k hk)⟩
theorem CN.more (h : CN w0 K b c s w) (hc : c ≤ c') : CN w0 K b c' s w := ⟨h.t, h.g.mono hc, h.be, h.lt⟩
/-- New blocks are kept from here on. -/
theorem CN.add (h : CN w0 K b c s w) (hb : Below w.heap.size w w') (hJ : ∀ k, J k → w.heap.size ≤ k ∧ k < w'.heap.size) : CN w0 (fun k => K k ∨ J k) b c s w' :=
  have h' := h.bel hb
  ⟨(h.t.bound.belowS hb).mono fun k hk => ⟨hk.1.1, fun hK => by
    rcases hK with hK | hK
    · exact hk.1.2 hK
    · have := hJ k hK; have := hk.2; omega⟩, h.g, h'.be, fun k hk => by
    rcases hk with hk | hk
    · exact h'.lt k hk
    · exact (hJ k hk).2⟩
/-- A block that is kept is written, or a new one laid and kept. -/
theorem CN.grownAdd (h : CN w0 K b c s w) (hg : w.grownBy w' r) (hK : ∀ g, r = some g → K g ∧ w0.heap.size ≤ g) (hJ : ∀ k, J k → K k ∨ (w.heap.size ≤ k ∧ k < w'.heap.size)) : CN w0 (fun k => K k ∨ J k) b c s w' := by
  obtain ⟨⟨q, ht, ha⟩, ho, hb, hl⟩ := h
  refine ⟨⟨q, ht.same fun j hj => hg.block j (ht.al_lt hj) fun e => (ha j hj).2 (hK j e.symm).1, fun j hj => ⟨(ha j hj).1, fun hKJ => ?_⟩⟩, ho, ⟨hg.os.trans hb.os, hg.tape.trans hb.tape, hg.output.trans hb.output, Nat.le_trans hb.size hg.size, fun k hk => (hg.block k (Nat.lt_of_lt_of_le hk hb.size) fun e => ?_).trans (hb.block k hk)⟩, fun k hk => ?_⟩
  · rcases hKJ with h1 | h1
    · exact (ha j hj).2 h1
    · rcases hJ j h1 with h2 | h2
      · exact (ha j hj).2 h2
      · have := ht.al_lt hj; omega
  · have := (hK k e.symm).2
    omega
  · rcases hk with h1 | h1
    · exact Nat.lt_of_lt_of_le (hl k h1) hg.size
    · rcases hJ k h1 with h2 | h2
      · exact Nat.lt_of_lt_of_le (hl k h2) hg.size
      · exact h2.2
theorem CN.grown (h : CN w0 K b c s w) (hg : w.grownBy w' r) (hK : ∀ g, r = some g → K g ∧ w0.heap.size ≤ g) : CN w0 K b c s w' :=
  (h.grownAdd (J := fun _ => False) hg hK fun _ f => f.elim).less fun _ h => .inl h
theorem CN.up {Q : Nat → Prop} {v : Value} {e : Ending} (h : CN w0 K b c s w) (hQ : ∀ k, Q k → w0.heap.size ≤ k ∧ ¬ K k) (hp : NPost Q b v s' w e w') (g : NGd c' s') : CNP w0 K b c' s' v w e w' :=
  ⟨hp.1, ⟨hp.2.1.mono fun k hk => by
      rcases hk with hk | hk
      · exact hQ k hk
      · exact ⟨Nat.le_trans h.be.size hk, fun hK => by have := h.lt k hK; omega⟩, g, h.be.trans (hp.2.2.below h.be.size fun k hk => (hQ k hk).1), fun k hk => Nat.lt_of_lt_of_le (h.lt k hk) hp.2.2.size⟩,
    fun k hk => hp.2.2.block k (h.lt k hk) fun e => (hQ k e).2 hk⟩
theorem cn_new (d : Int) (hd : badD d = false) (w : World) : Calls Try.prog 11 #[.int .i64 d] w fun e w' => ∃ b, e = .returned (.tuple #[.pointer (some ⟨b, 0, none⟩), .nilIface]) ∧ CN w (fun _ => False) b 0 (Net.init d) w' :=
  (n_new d w (by have := bad_bd hd; omega) hd).mono fun e w' ⟨b, he, h, hb⟩ => ⟨b, he, h.mono fun k hk => ⟨hk, fun f => f⟩, NGd.init hd, hb, fun _ f => f.elim⟩
theorem cn_delay (h : CN w0 K b c s w) {x y : ByteArray} (hx : x.size ≤ maxLen) (hy : y.size ≤ maxLen) {d : Int} (hd : badD d = false) :
    Calls Try.prog 19 #[.pointer (some ⟨b, 0, none⟩), .string x, .string y, .int .i64 d] w (CNP w0 K b c (s.delay x y d) .nilIface w) :=
  (delay_ok h.t hx hy d (by have := bad_bd hd; omega) hd).mono fun _ _ he => h.up (fun _ hk => hk) he (h.g.delay x y hd)
theorem cn_send {ao : Option Addr} {n cp bk off : Nat} {X : Nat → Int} (h : CN w0 K b c s w) (hc : c ≤ 1000) {x y : ByteArray} (hx : x.size ≤ maxLen) (hy : y.size ≤ maxLen) {t : Int} (ht : 0 ≤ t) (ht2 : t ≤ 1099511627776) (hp : s.present ≤ t)
    (hX : IsBytes w ao n bk off X) (hXP : 0 < n → K bk ∨ bk < w0.heap.size) (hn : n ≤ 100000) :
    Calls Try.prog 17 #[.pointer (some ⟨b, 0, none⟩), .int .i64 t, .string x, .string y, .slice ao n cp] w (CNP w0 K b (c + 1) (s.sent t x y (lst n X)) .nilIface w) :=
  (send_ok h.t.bound h.g hc (fun _ hk => hk.2) hx hy ht ht2 hp hX (fun h0 hk => by
    rcases hXP h0 with h1 | h1
    · exact hk.1.2 h1
    · have := hk.1.1; omega) hn).mono fun _ _ he => h.up (fun _ hk => hk.1) he (h.g.sent ht ht2 x y _)
theorem cn_fate {ao : Option Addr} {n cp bk off : Nat} {X : Nat → Int} (h : CN w0 K b c s w) {x y : ByteArray} (hx : x.size ≤ maxLen) (hy : y.size ≤ maxLen) {i : Int} (hX : IsInts w ao n bk off X) (hXP : 0 < n → K bk ∨ bk < w0.heap.size) (hi : 0 ≤ i) (hi2 : i ≤ 9223372036854775807) (hn : n ≤ 4) (hb : firstBad n X = true) :
    Calls Try.prog 12 #[.pointer (some ⟨b, 0, none⟩), .string x, .string y, .int .i64 i, .slice ao n cp] w (CNP w0 K b c (fateS s x y i (lst n X)) (errV (fateE s x y i)) w) :=
  (n_fate h.t hx hy hX (fun h0 hk => by
    rcases hXP h0 with h1 | h1
    · exact hk.2 h1
    · have := hk.1; omega) hi hi2 hn hb).mono fun _ _ he => h.up (fun _ hk => hk) he (h.g.fateS x y i (by simp [lst]; exact hn) fun d hd => by
    obtain ⟨j, hj, rfl⟩ := List.mem_map.1 hd
    exact of_decide_eq_true hb j (List.mem_range.1 hj))
theorem cn_pend (h : CN w0 K b c s w) : Calls Try.prog 14 #[.pointer (some ⟨b, 0, none⟩)] w fun e w' => e = .returned (.int .i64 s.arr.length) ∧ w' = w := n_pend h.t
theorem cn_lost (h : CN w0 K b c s w) : Calls Try.prog 20 #[.pointer (some ⟨b, 0, none⟩)] w fun e w' => e = .returned (.int .i64 s.lost) ∧ w' = w := n_lost h.t
/-- A delivery. -/
def CNR (w0 : World) (K : Nat → Prop) (b c : Nat) (s : Net) (x : Arr) (w : World) (e : Ending) (w' : World) : Prop :=
  ∃ vo vc, e = .returned (.tuple #[.agg #[.int .i64 x.t, .string x.a, .string x.b, .slice vo x.data.length vc], .nilIface]) ∧ OL w' 5 1 (.slice vo x.data.length vc) x.data.length (bys x.data) ∧
    CN w0 (fun k => K k ∨ (Value.slice vo x.data.length vc).ownBlock = some k) b c s w' ∧ Same K w w'
theorem cn_recv (h : CN w0 K b c s w) (hc : c ≤ 20000) (h0 : 0 < s.arr.length) (ht0 : 0 ≤ (s.at_ (bestN s s.arr.length)).t) (ht1 : (s.at_ (bestN s s.arr.length)).t ≤ 1152921504606846976) :
    Calls Try.prog 16 #[.pointer (some ⟨b, 0, none⟩)] w (CNR w0 K b c s.recv (s.at_ (bestN s s.arr.length)) w) := by
  have ha := h.g.a
  refine (recv_some h.t.bound h0 (by omega)).mono ?_
  rintro e w' ⟨vo, vc, rfl, ho, hP, hN, hO⟩
  have hbe : Below w0.heap.size w0 w' := h.be.trans (hO.below h.be.size fun k hk => hk.1.1)
  refine ⟨vo, vc, rfl, ho, ⟨hN.mono fun k hk => ?_, h.g.recv ht0 ht1, hbe, fun k hk => ?_⟩, fun k hk => hO.block k (h.lt k hk) fun e => e.1.2 hk⟩
  · rcases hk.1 with h1 | h1
    · exact ⟨h1.1.1, fun hK => hK.elim h1.1.2 hk.2⟩
    · exact ⟨Nat.le_trans h.be.size h1, fun hK => hK.elim (fun h2 => by have := h.lt k h2; omega) hk.2⟩
  · rcases hk with hk | hk
    · exact Nat.lt_of_lt_of_le (h.lt k hk) hO.size
    · exact ho.lt k hk
end
end Go.Proofs.Ytkhiepjlfbjgdaa

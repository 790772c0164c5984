/- network: the calls as the statements see them: a network of new blocks apart from those that are kept. Conditions: each contract names its own. network: the plain law of NetworkDelivers. Conditions: each its own. -/
import Derived.Test.YtkhiepjlfbjgdaaZNwMsgs
import Derived.Test.YtkhiepjlfbjgdaaZNwCuts
namespace Go.Proofs.Ytkhiepjlfbjgdaa
open Go.RowKit

/-- Blocks K are as they were. -/
def Same (K : Nat → Prop) (w w' : World) : Prop := ∀ k, K k → w'.heap[k]? = w.heap[k]?
structure CN (w0 : World) (K : Nat → Prop) (b c : Nat) (s : Net) (w : World) : Prop where
  t : NS w (fun k => w0.heap.size ≤ k ∧ ¬ K k) b s
  g : NGd c s
  be : Below w0.heap.size w0 w
  lt : ∀ k, K k → k < w.heap.size
def CNP (w0 : World) (K : Nat → Prop) (b c : Nat) (s : Net) (v : Value) (w : World) (e : Ending) (w' : World) : Prop := e = .returned v ∧ CN w0 K b c s w' ∧ Same K w w'
section
variable {w0 w w1 w' : World} {K J : Nat → Prop} {b c c' : Nat} {s s' : Net} {r : Option Nat}
theorem Same.refl (K : Nat → Prop) (w : World) : Same K w w := fun _ _ => rfl
theorem Same.trans (h : Same K w w1) (h' : Same K w1 w') : Same K w w' := fun k hk => (h' k hk).trans (h k hk)
theorem Same.mono (h : Same K w w') (hJ : ∀ k, J k → K k) : Same J w w' := fun k hk => h k (hJ k hk)
theorem CN.bel (h : CN w0 K b c s w) (hb : Below w.heap.size w w') : CN w0 K b c s w' :=
  ⟨h.t.belowS hb, h.g, h.be.trans (hb.mono h.be.size), fun k hk => Nat.lt_of_lt_of_le (h.lt k hk) hb.size⟩
theorem CN.same (h : CN w0 K b c s w) (hb : Below w.heap.size w w') : Same K w w' := fun k hk => hb.block k (h.lt k hk)
theorem CN.less (h : CN w0 K b c s w) (hJ : ∀ k, J k → K k) : CN w0 J b c s w := ⟨h.t.mono fun k hk => ⟨hk.1, fun h => hk.2 (hJ k h)⟩, h.g, h.be, fun k hk => h.lt k (hJ k hk)⟩
theorem CN.more (h : CN w0 K b c s w) (hc : c ≤ c') : CN w0 K b c' s w := ⟨h.t, h.g.mono hc, h.be, h.lt⟩
/-- New blocks are kept from here on. -/
theorem CN.add (h : CN w0 K b c s w) (hb : Below w.heap.size w w') (hJ : ∀ k, J k → w.heap.size ≤ k ∧ k < w'.heap.size) : CN w0 (fun k => K k ∨ J k) b c s w' :=
  have h' := h.bel hb
  ⟨(h.t.bound.belowS hb).mono fun k hk => ⟨hk.1.1, fun hK => by
    rcases hK with hK | hK
    · exact hk.1.2 hK
    · have := hJ k hK; have := hk.2; omega⟩, h.g, h'.be, fun k hk => by
    rcases hk with hk | hk
    · exact h'.lt k hk
    · exact (hJ k hk).2⟩
/-- A block that is kept is written, or a new one laid and kept. -/
theorem CN.grownAdd (h : CN w0 K b c s w) (hg : w.grownBy w' r) (hK : ∀ g, r = some g → K g ∧ w0.heap.size ≤ g) (hJ : ∀ k, J k → K k ∨ (w.heap.size ≤ k ∧ k < w'.heap.size)) : CN w0 (fun k => K k ∨ J k) b c s w' := by
  obtain ⟨⟨q, ht, ha⟩, ho, hb, hl⟩ := h
  refine ⟨⟨q, ht.same fun j hj => hg.block j (ht.al_lt hj) fun e => (ha j hj).2 (hK j e.symm).1, fun j hj => ⟨(ha j hj).1, fun hKJ => ?_⟩⟩, ho, ⟨hg.os.trans hb.os, hg.tape.trans hb.tape, hg.output.trans hb.output, Nat.le_trans hb.size hg.size, fun k hk => (hg.block k (Nat.lt_of_lt_of_le hk hb.size) fun e => ?_).trans (hb.block k hk)⟩, fun k hk => ?_⟩
  · rcases hKJ with h1 | h1
    · exact (ha j hj).2 h1
    · rcases hJ j h1 with h2 | h2
      · exact (ha j hj).2 h2
      · have := ht.al_lt hj; omega
  · have := (hK k e.symm).2
    omega
  · rcases hk with h1 | h1
    · exact Nat.lt_of_lt_of_le (hl k h1) hg.size
    · rcases hJ k h1 with h2 | h2
      · exact Nat.lt_of_lt_of_le (hl k h2) hg.size
      · exact h2.2
theorem CN.grown (h : CN w0 K b c s w) (hg : w.grownBy w' r) (hK : ∀ g, r = some g → K g ∧ w0.heap.size ≤ g) : CN w0 K b c s w' :=
  (h.grownAdd (J := fun _ => False) hg hK fun _ f => f.elim).less fun _ h => .inl h
theorem CN.up {Q : Nat → Prop} {v : Value} {e : Ending} (h : CN w0 K b c s w) (hQ : ∀ k, Q k → w0.heap.size ≤ k ∧ ¬ K k) (hp : NPost Q b v s' w e w') (g : NGd c' s') : CNP w0 K b c' s' v w e w' :=
  ⟨hp.1, ⟨hp.2.1.mono fun k hk => by
      rcases hk with hk | hk
      · exact hQ k hk
      · exact ⟨Nat.le_trans h.be.size hk, fun hK => by have := h.lt k hK; omega⟩, g, h.be.trans (hp.2.2.below h.be.size fun k hk => (hQ k hk).1), fun k hk => Nat.lt_of_lt_of_le (h.lt k hk) hp.2.2.size⟩,
    fun k hk => hp.2.2.block k (h.lt k hk) fun e => (hQ k e).2 hk⟩
theorem cn_new (d : Int) (hd : badD d = false) (w : World) : Calls Try.prog 11 #[.int .i64 d] w fun e w' => ∃ b, e = .returned (.tuple #[.pointer (some ⟨b, 0, none⟩), .nilIface]) ∧ CN w (fun _ => False) b 0 (Net.init d) w' :=
  (n_new d w (by have := bad_bd hd; omega) hd).mono fun e w' ⟨b, he, h, hb⟩ => ⟨b, he, h.mono fun k hk => ⟨hk, fun f => f⟩, NGd.init hd, hb, fun _ f => f.elim⟩
theorem cn_delay (h : CN w0 K b c s w) {x y : ByteArray} (hx : x.size ≤ maxLen) (hy : y.size ≤ maxLen) {d : Int} (hd : badD d = false) :
    Calls Try.prog 19 #[.pointer (some ⟨b, 0, none⟩), .string x, .string y, .int .i64 d] w (CNP w0 K b c (s.delay x y d) .nilIface w) :=
  (delay_ok h.t hx hy d (by have := bad_bd hd; omega) hd).mono fun _ _ he => h.up (fun _ hk => hk) he (h.g.delay x y hd)
theorem cn_send {ao : Option Addr} {n cp bk off : Nat} {X : Nat → Int} (h : CN w0 K b c s w) (hc : c ≤ 1000) {x y : ByteArray} (hx : x.size ≤ maxLen) (hy : y.size ≤ maxLen) {t : Int} (ht : 0 ≤ t) (ht2 : t ≤ 1099511627776) (hp : s.present ≤ t)
    (hX : IsBytes w ao n bk off X) (hXP : 0 < n → K bk ∨ bk < w0.heap.size) (hn : n ≤ 100000) :
    Calls Try.prog 17 #[.pointer (some ⟨b, 0, none⟩), .int .i64 t, .string x, .string y, .slice ao n cp] w (CNP w0 K b (c + 1) (s.sent t x y (lst n X)) .nilIface w) :=
  (send_ok h.t.bound h.g hc (fun _ hk => hk.2) hx hy ht ht2 hp hX (fun h0 hk => by
    rcases hXP h0 with h1 | h1
    · exact hk.1.2 h1
    · have := hk.1.1; omega) hn).mono fun _ _ he => h.up (fun _ hk => hk.1) he (h.g.sent ht ht2 x y _)
theorem cn_fate {ao : Option Addr} {n cp bk off : Nat} {X : Nat → Int} (h : CN w0 K b c s w) {x y : ByteArray} (hx : x.size ≤ maxLen) (hy : y.size ≤ maxLen) {i : Int} (hX : IsInts w ao n bk off X) (hXP : 0 < n → K bk ∨ bk < w0.heap.size) (hi : 0 ≤ i) (hi2 : i ≤ 9223372036854775807) (hn : n ≤ 4) (hb : firstBad n X = true) :
    Calls Try.prog 12 #[.pointer (some ⟨b, 0, none⟩), .string x, .string y, .int .i64 i, .slice ao n cp] w (CNP w0 K b c (fateS s x y i (lst n X)) (errV (fateE s x y i)) w) :=
  (n_fate h.t hx hy hX (fun h0 hk => by
    rcases hXP h0 with h1 | h1
    · exact hk.2 h1
    · have := hk.1; omega) hi hi2 hn hb).mono fun _ _ he => h.up (fun _ hk => hk) he (h.g.fateS x y i (by simp [lst]; exact hn) fun d hd => by
    obtain ⟨j, hj, rfl⟩ := List.mem_map.1 hd
    exact of_decide_eq_true hb j (List.mem_range.1 hj))
theorem cn_pend (h : CN w0 K b c s w) : Calls Try.prog 14 #[.pointer (some ⟨b, 0, none⟩)] w fun e w' => e = .returned (.int .i64 s.arr.length) ∧ w' = w := n_pend h.t
theorem cn_lost (h : CN w0 K b c s w) : Calls Try.prog 20 #[.pointer (some ⟨b, 0, none⟩)] w fun e w' => e = .returned (.int .i64 s.lost) ∧ w' = w := n_lost h.t
/-- A delivery. -/
def CNR (w0 : World) (K : Nat → Prop) (b c : Nat) (s : Net) (x : Arr) (w : World) (e : Ending) (w' : World) : Prop :=
  ∃ vo vc, e = .returned (.tuple #[.agg #[.int .i64 x.t, .string x.a, .string x.b, .slice vo x.data.length vc], .nilIface]) ∧ OL w' 5 1 (.slice vo x.data.length vc) x.data.length (bys x.data) ∧
    CN w0 (fun k => K k ∨ (Value.slice vo x.data.length vc).ownBlock = some k) b c s w' ∧ Same K w w'
theorem cn_recv (h : CN w0 K b c s w) (hc : c ≤ 20000) (h0 : 0 < s.arr.length) (ht0 : 0 ≤ (s.at_ (bestN s s.arr.length)).t) (ht1 : (s.at_ (bestN s s.arr.length)).t ≤ 1152921504606846976) :
    Calls Try.prog 16 #[.pointer (some ⟨b, 0, none⟩)] w (CNR w0 K b c s.recv (s.at_ (bestN s s.arr.length)) w) := by
  have ha := h.g.a
  refine (recv_some h.t.bound h0 (by omega)).mono ?_
  rintro e w' ⟨vo, vc, rfl, ho, hP, hN, hO⟩
  have hbe : Below w0.heap.size w0 w' := h.be.trans (hO.below h.be.size fun k hk => hk.1.1)
  refine ⟨vo, vc, rfl, ho, ⟨hN.mono fun k hk => ?_, h.g.recv ht0 ht1, hbe, fun k hk => ?_⟩, fun k hk => hO.block k (h.lt k hk) fun e => e.1.2 hk⟩
  · rcases hk.1 with h1 | h1
    · exact ⟨h1.1.1, fun hK => hK.elim h1.1.2 hk.2⟩
    · exact ⟨Nat.le_trans h.be.size h1, fun hK => hK.elim (fun h2 => by have := h.lt k h2; omega) hk.2⟩
  · rcases hk with hk | hk
    · exact Nat.lt_of_lt_of_le (h.lt k hk) hO.size
    · exact ho.lt k hk
end
end Go.Proofs.Ytkhiepjlfbjgdaa

namespace Go.Proofs.Ytkhiepjlfbjgdaa
open Go.RowKit

theorem sooner_trans {x y z : Arr} (h1 : sooner x y = true) (h2 : sooner y z = true) : sooner x z = true := by
  unfold sooner at *
  simp at *
  omega
theorem sooner_or {x y : Arr} (h : ¬ sooner x y = true) : sooner y x = true ∨ (x.t = y.t ∧ x.msg = y.msg ∧ x.copy = y.copy) := by
  unfold sooner at *
  simp at *
  omega
theorem sooner_irrefl (x : Arr) : ¬ sooner x x = true := by
  unfold sooner
  simp
theorem bestN_min (s : Net) : ∀ (k i : Nat), i < k → ¬ sooner (s.at_ i) (s.at_ (bestN s k)) = true
  | 0, i, h => by omega
  | k + 1, i, h => by
    rw [bestN]
    split
    · rename_i hs
      by_cases e : i = k
      · rw [e]; exact sooner_irrefl _
      · have := bestN_min s k i (by omega)
        intro h2
        exact this (sooner_trans h2 hs)
    · rename_i hs
      by_cases e : i = k
      · rw [e]; exact hs
      · exact bestN_min s k i (by omega)
theorem best_min {s : Net} {z : Arr} (h : z ∈ s.arr) : ¬ sooner z (s.at_ (bestN s s.arr.length)) = true := by
  obtain ⟨i, hi, rfl⟩ := mem_at h
  exact bestN_min s _ i hi
/-- The bytes of a string, as a message bears them. -/
def byts (s : ByteArray) : List Int := s.toList.map fun b => (b.toNat : Int)
/-- The time of message i. -/
def tAt (A : Nat → MsgV) : Nat → Int
  | 0 => 0
  | i + 1 => tAt A i + (A i).gap
theorem tAt_mono {A : Nat → MsgV} {n : Nat} (h : ∀ i, i < n → 0 ≤ (A i).gap) : ∀ {i j : Nat}, i ≤ j → j ≤ n → tAt A i ≤ tAt A j := by
  intro i j hij hj
  induction j with
  | zero => have : i = 0 := by omega
            subst this; exact Int.le_refl _
  | succ j ih =>
    by_cases e : i = j + 1
    · subst e; exact Int.le_refl _
    · have := ih (by omega) (by omega)
      have := h j (by omega)
      show _ ≤ tAt A j + _
      omega
theorem tAt_le {A : Nat → MsgV} {n : Nat} (h : ∀ i, i < n → (A i).gap ≤ 255) : ∀ {j : Nat}, j ≤ n → tAt A j ≤ 255 * j := by
  intro j hj
  induction j with
  | zero => exact Int.le_refl _
  | succ j ih =>
    have := ih (by omega)
    have := h j (by omega)
    show tAt A j + _ ≤ _
    omega
def bB : ByteArray := ⟨#[98]⟩
open Classical in
/-- The delay of message i. -/
noncomputable def dlA (A : Nat → MsgV) (D : Nat → Int) (i : Nat) : Int := if nodeS (A i).to_.toNat = bB then D ((A i).from_.toNat % 6) else 7
/-- Message i as it arrives. -/
noncomputable def mkA (A : Nat → MsgV) (D : Nat → Int) (i : Nat) : Arr := ⟨tAt A (i + 1) + dlA A D i, nodeS (A i).from_.toNat, nodeS (A i).to_.toNat, byts (A i).data, (i : Int) + 1, 0⟩
/-- The messages that have not arrived, of the first n. -/
noncomputable def restA (A : Nat → MsgV) (D : Nat → Int) (n : Nat) (seen : Nat → Bool) : List Arr := ((List.range n).filter fun i => !seen i).map (mkA A D)
section
variable {A : Nat → MsgV} {D : Nat → Int} {n i j : Nat} {seen : Nat → Bool} {s : Net}
theorem rest_mem {z : Arr} : z ∈ restA A D n seen ↔ ∃ i, i < n ∧ seen i = false ∧ mkA A D i = z := by
  unfold restA
  rw [List.mem_map]
  constructor
  · rintro ⟨i, hi, rfl⟩
    rw [List.mem_filter, List.mem_range] at hi
    exact ⟨i, hi.1, by simpa using hi.2, rfl⟩
  · rintro ⟨i, hi, hs, rfl⟩
    exact ⟨i, by rw [List.mem_filter, List.mem_range]; exact ⟨hi, by simp [hs]⟩, rfl⟩
theorem dl_same (h1 : nodeS (A i).from_.toNat = nodeS (A j).from_.toNat) (h2 : nodeS (A i).to_.toNat = nodeS (A j).to_.toNat) (hinj : ∀ a b : Nat, nodeS a = nodeS b → a % 6 = b % 6) : dlA A D i = dlA A D j := by
  unfold dlA
  rw [h2, hinj _ _ h1]
theorem nodeS_inj (a b : Nat) (h : nodeS a = nodeS b) : a % 6 = b % 6 := by
  unfold nodeS at h
  have h1 : a % 6 < 6 := Nat.mod_lt _ (by omega)
  have h2 : b % 6 < 6 := Nat.mod_lt _ (by omega)
  generalize a % 6 = x at *
  generalize b % 6 = y at *
  match x, y, h1, h2 with
  | 0, 0, _, _ => rfl
  | 1, 1, _, _ => rfl
  | 2, 2, _, _ => rfl
  | 3, 3, _, _ => rfl
  | 4, 4, _, _ => rfl
  | 5, 5, _, _ => rfl
  | 0, 1, _, _ => simp at h
  | 0, 2, _, _ => simp at h
  | 0, 3, _, _ => simp at h
  | 0, 4, _, _ => simp at h
  | 0, 5, _, _ => simp at h
  | 1, 0, _, _ => simp at h
  | 1, 2, _, _ => simp at h
  | 1, 3, _, _ => simp at h
  | 1, 4, _, _ => simp at h
  | 1, 5, _, _ => simp at h
  | 2, 0, _, _ => simp at h
  | 2, 1, _, _ => simp at h
  | 2, 3, _, _ => simp at h
  | 2, 4, _, _ => simp at h
  | 2, 5, _, _ => simp at h
  | 3, 0, _, _ => simp at h
  | 3, 1, _, _ => simp at h
  | 3, 2, _, _ => simp at h
  | 3, 4, _, _ => simp at h
  | 3, 5, _, _ => simp at h
  | 4, 0, _, _ => simp at h
  | 4, 1, _, _ => simp at h
  | 4, 2, _, _ => simp at h
  | 4, 3, _, _ => simp at h
  | 4, 5, _, _ => simp at h
  | 5, 0, _, _ => simp at h
  | 5, 1, _, _ => simp at h
  | 5, 2, _, _ => simp at h
  | 5, 3, _, _ => simp at h
  | 5, 4, _, _ => simp at h
theorem nodeS_b (a : Nat) : nodeS a = bB ↔ a % 6 = 1 := by
  constructor
  · intro h
    exact nodeS_inj a 1 h
  · intro h
    unfold nodeS
    rw [h]
    rfl
/-- The soonest of the rest is message i, and nothing of its direction is ahead of it. -/
theorem rest_best (hs : s.arr = restA A D n seen) (hg : ∀ i, i < n → 0 ≤ (A i).gap) (h0 : 0 < s.arr.length) :
    ∃ i, i < n ∧ seen i = false ∧ s.at_ (bestN s s.arr.length) = mkA A D i ∧ (∀ j, j < i → seen j = false → ¬ (nodeS (A j).from_.toNat = nodeS (A i).from_.toNat ∧ nodeS (A j).to_.toNat = nodeS (A i).to_.toNat)) ∧
      bestN s s.arr.length = ((List.range n).filter fun i => !seen i).idxOf i := by
  have hm := best_mem h0
  have hlt := bestN_lt s _ h0
  have hL : s.arr.length = ((List.range n).filter fun i => !seen i).length := by rw [hs]; unfold restA; rw [List.length_map]
  obtain ⟨p, hp⟩ : ∃ p, bestN s s.arr.length = p := ⟨_, rfl⟩
  rw [hp] at hm hlt ⊢
  have hpl : p < ((List.range n).filter fun i => !seen i).length := by omega
  obtain ⟨i, hi⟩ : ∃ i, ((List.range n).filter fun i => !seen i)[p] = i := ⟨_, rfl⟩
  have him : i ∈ (List.range n).filter fun i => !seen i := by rw [← hi]; exact List.getElem_mem hpl
  rw [List.mem_filter, List.mem_range] at him
  have hat : s.at_ p = mkA A D i := by
    unfold Net.at_
    rw [List.getD_eq_getElem?_getD, List.getElem?_eq_getElem hlt]
    simp only [Option.getD_some]
    rw [List.getElem_of_eq hs]
    unfold restA
    rw [List.getElem_map, hi]
  have hnd : ((List.range n).filter fun i => !seen i).Nodup := List.nodup_range.filter _
  refine ⟨i, him.1, by simpa using him.2, hat, fun j hj hsj hd => ?_, ?_⟩
  · have hz : mkA A D j ∈ s.arr := by rw [hs]; exact rest_mem.2 ⟨j, by omega, hsj, rfl⟩
    have := best_min hz
    rw [hp, hat] at this
    refine this ?_
    have ht := tAt_mono hg (show j + 1 ≤ i + 1 by omega) (by omega)
    have hdl := dl_same (D := D) hd.1 hd.2 nodeS_inj
    unfold sooner mkA
    simp
    omega
  · rw [← hi]
    exact (hnd.idxOf_getElem _ hpl).symm
theorem rest_erase (hi : i < n) (hsi : seen i = false) : (restA A D n seen).eraseIdx (((List.range n).filter fun i => !seen i).idxOf i) = restA A D n (fun j => if j = i then true else seen j) := by
  have hnd : ((List.range n).filter fun i => !seen i).Nodup := List.nodup_range.filter _
  unfold restA
  have hme : ∀ (l : List Nat) (p : Nat), (l.map (mkA A D)).eraseIdx p = (l.eraseIdx p).map (mkA A D) := fun l p => by
    rw [List.eraseIdx_eq_take_drop_succ, List.eraseIdx_eq_take_drop_succ, List.map_append, List.map_take, List.map_drop]
  rw [hme, ← List.erase_eq_eraseIdx_of_idxOf rfl, hnd.erase_eq_filter, List.filter_filter]
  congr 1
  apply List.filter_congr
  intro j _
  by_cases e : j = i
  · subst e; simp
  · simp [e]
theorem rest_none (h : ∀ i, i < n → seen i = false) : restA A D n seen = (List.range n).map (mkA A D) := by
  unfold restA
  congr 1
  rw [List.filter_eq_self]
  intro i hi
  simp [h i (List.mem_range.1 hi)]
end
end Go.Proofs.Ytkhiepjlfbjgdaa

/- The contracts of a queue of blocks of its own beside kept blocks K. Conditions: each contract names its own. -/
import Derived.Test.YtdcmkonmojiefaaFqLaw
namespace Go.Proofs.Ytdcmkonmojiefaa
open Go.RowKit
open Go.Proofs.Ytdcmkonmojiefaa.Fq

/-- The queue s lies at block b, all of it in blocks from w0 on that are not of K. -/
def QK (w0 : World) (K : Nat → Prop) (b : Nat) (s : FQ) (w : World) : Prop := ∃ bq cq bd cd xt bl vals, FqAt w b bq cq bd cd xt bl vals s ∧ (∀ k, Fp b bq bd bl vals k → w0.heap.size ≤ k ∧ ¬ K k) ∧ Below w0.heap.size w0 w ∧ ∀ k, K k → k < w.heap.size
/-- The blocks of K are as they were. -/
def SameK (K : Nat → Prop) (w w' : World) : Prop := (∀ k, K k → w'.heap[k]? = w.heap[k]?) ∧ w.heap.size ≤ w'.heap.size
section
variable {w0 w w' : World} {K J : Nat → Prop} {b : Nat} {s s' : FQ}
theorem SameK.of_below (h : Below w.heap.size w w') (hK : ∀ k, K k → k < w.heap.size) : SameK K w w' := ⟨fun k hk => h.block k (hK k hk), h.size⟩
theorem QK.be (h : QK w0 K b s w) : Below w0.heap.size w0 w := by obtain ⟨_, _, _, _, _, _, _, _, _, h, _⟩ := h; exact h
theorem QK.kl (h : QK w0 K b s w) : ∀ k, K k → k < w.heap.size := by obtain ⟨_, _, _, _, _, _, _, _, _, _, h⟩ := h; exact h
theorem QK.bel (h : QK w0 K b s w) (hb : Below w.heap.size w w') : QK w0 K b s w' := by
  obtain ⟨bq, cq, bd, cd, xt, bl, vals, h1, h2, h3, h4⟩ := h
  exact ⟨bq, cq, bd, cd, xt, bl, vals, h1.belowS hb, h2, h3.trans (hb.mono h3.size), fun k hk => Nat.lt_of_lt_of_le (h4 k hk) hb.size⟩
theorem QK.add (h : QK w0 K b s w) (hb : Below w.heap.size w w') : QK w0 (fun k => K k ∨ (w.heap.size ≤ k ∧ k < w'.heap.size)) b s w' := by
  obtain ⟨bq, cq, bd, cd, xt, bl, vals, h1, h2, h3, h4⟩ := h
  refine ⟨bq, cq, bd, cd, xt, bl, vals, h1.belowS hb, fun k hk => ⟨(h2 k hk).1, fun hn => ?_⟩, h3.trans (hb.mono h3.size), fun k hk => ?_⟩
  · rcases hn with hn | hn
    · exact (h2 k hk).2 hn
    · have := h1.fp_lt k hk
      omega
  · rcases hk with hk | hk
    · exact Nat.lt_of_lt_of_le (h4 k hk) hb.size
    · exact hk.2
theorem QK.less (h : QK w0 K b s w) (hJ : ∀ k, J k → K k) : QK w0 J b s w := by
  obtain ⟨bq, cq, bd, cd, xt, bl, vals, h1, h2, h3, h4⟩ := h
  exact ⟨bq, cq, bd, cd, xt, bl, vals, h1, fun k hk => ⟨(h2 k hk).1, fun hn => (h2 k hk).2 (hJ k hn)⟩, h3, fun k hk => h4 k (hJ k hk)⟩
theorem QK.only {bq cq bd cd bl : Nat} {xt : List Value} {vals vals' : List Value} (h1 : FqAt w b bq cq bd cd xt bl vals s) (h2 : ∀ k, Fp b bq bd bl vals k → w0.heap.size ≤ k ∧ ¬ K k) (h3 : Below w0.heap.size w0 w) (h4 : ∀ k, K k → k < w.heap.size)
    (k1 : FqAt w' b bq cq bd cd xt bl vals' s') (k2 : ∀ k, Fp b bq bd bl vals' k → Fp b bq bd bl vals k ∨ w.heap.size ≤ k) (k3 : Only (Fp b bq bd bl vals) w w') : QK w0 K b s' w' ∧ SameK K w w' := by
  refine ⟨⟨bq, cq, bd, cd, xt, bl, vals', k1, fun k hk => ?_, h3.trans (k3.below h3.size fun k hk => (h2 k hk).1), fun k hk => Nat.lt_of_lt_of_le (h4 k hk) k3.size⟩, fun k hk => k3.block k (h4 k hk) fun hn => (h2 k hn).2 hk, k3.size⟩
  rcases k2 k hk with h | h
  · exact h2 k h
  · exact ⟨Nat.le_trans h3.size h, fun hn => by have := h4 k hn; omega⟩
theorem QK.drew (h : QK w0 K b s w) (n : Nat) : QK w0 K b s (w.drewN n) ∧ SameK K w (w.drewN n) := ⟨h.bel (below_draw _ _ _), SameK.of_below (below_draw _ _ _) h.kl⟩
theorem k_new {ao : Option Addr} {n c ba off : Nat} {Q : Nat → Int} (w : World) (h : IsInts w ao n ba off Q) (hn : newOk Q n) (hb0 : Below w0.heap.size w0 w) (hK : ∀ k, K k → k < w.heap.size) :
    Calls Try.prog 19 #[.slice ao n c] w fun e w' => ∃ b, e = .returned (.tuple #[.pointer (some ⟨b, 0, none⟩), .nilIface]) ∧ QK w0 K b (FQ.init Q n) w' ∧ Below w.heap.size w w' :=
  (new_ok w h hn).mono fun e w' ⟨b, bq, bd, bd', bl, he, hA, hb, h1, h2, h3, h4⟩ => ⟨b, he, ⟨_, _, _, _, _, _, _, hA, fun k hk => by
    have hz := hb0.size
    have key : w.heap.size ≤ k → w0.heap.size ≤ k ∧ ¬ K k := fun h => ⟨Nat.le_trans hz h, fun hn => by have := hK k hn; omega⟩
    rcases hk with rfl | rfl | rfl | rfl | ⟨t, ht⟩
    · exact key h1
    · exact key h2
    · exact key h3
    · exact key h4
    · have e : qv (List.replicate n nilS) t = nilS := by unfold qv; by_cases h : t < n <;> simp [List.getD, h]
      rw [e] at ht; simp [nilS, Value.ownBlock] at ht, hb0.trans (hb.mono hb0.size), fun k hk => Nat.lt_of_lt_of_le (hK k hk) hb.size⟩, hb⟩
theorem k_put (t id z : Int) (h : QK w0 K b s w) (hm : s.m ≤ 16) (hsh : Short s) :
    Calls Try.prog 24 #[.pointer (some ⟨b, 0, none⟩), .int .i64 t, .int .i64 id, .int .i64 z] w fun e w' => e = .returned (errV (putE s t id z)) ∧ QK w0 K b (putS s t id z) w' ∧ SameK K w w' := by
  have bad : ∀ k, k ≠ 0 → putE s t id z = k → ∀ e w', PutBad k w e w' → e = .returned (errV (putE s t id z)) ∧ QK w0 K b (putS s t id z) w' ∧ SameK K w w' := fun k hk hp e w' ⟨he, hb⟩ => by
    rw [hp, putS_bad (by rw [hp]; exact hk), show errV k = _ from if_neg hk]
    exact ⟨he, h.bel hb, SameK.of_below hb h.kl⟩
  obtain ⟨bq, cq, bd, cd, xt, bl, vals, hA, hB, hb0, hK⟩ := h
  by_cases h1 : 0 ≤ t ∧ t < s.m
  · by_cases h2 : z < 1 ∨ 1048576 < z
    · exact (put_range t id z w hA h1.1 h1.2 h2).mono (bad 1 (by decide) (by unfold putE; rw [if_neg (Classical.not_not.2 h1), if_pos h2]))
    · by_cases h3 : hasId s id
      · exact (put_exists t id z w hA hm hsh h1.1 h1.2 (by omega) (by omega) h3).mono (bad 4 (by decide) (by unfold putE; rw [if_neg (Classical.not_not.2 h1), if_neg h2, if_pos h3]))
      · obtain ⟨k, rfl⟩ := Int.eq_ofNat_of_zero_le h1.1
        by_cases h4 : 256 ≤ (s.lst k).length
        · exact (put_full k id z w hA hm hsh (by omega) (by omega) (by omega) h3 h4).mono (bad 10 (by decide) (by unfold putE; rw [if_neg (Classical.not_not.2 h1), if_neg h2, if_neg h3, Int.toNat_natCast, if_pos h4]))
        · have hp : putE s (k : Int) id z = 0 := putE_of h1 (by omega) h3 (by simp; omega)
          refine (put_ok k id z w hA hm hsh (by omega) (by omega) (by omega) h3 (by omega)).mono ?_
          rintro e w' ⟨he, vals', u1, u2, u3⟩
          rw [putS_ok hp, hp]
          exact ⟨he, QK.only hA hB hb0 hK u1 u2 u3⟩
  · exact (put_name t id z w hA h1).mono (bad 8 (by decide) (by unfold putE; rw [if_pos h1]))
theorem k_next (h : QK w0 K b s w) (g : Gd s) {t0 : Nat} (ht0 : t0 < s.m) (hne : s.lst t0 ≠ []) :
    Calls Try.prog 14 #[.pointer (some ⟨b, 0, none⟩)] w fun e w' => ∃ s1 en r, Chs s s1 ∧ s1.lst s1.cur = en :: r ∧ e = .returned (.tuple #[.int .i64 s1.cur, .int .i64 en.1, .nilIface]) ∧ QK w0 K b s1.pop w' ∧ SameK K w w' := by
  obtain ⟨bq, cq, bd, cd, xt, bl, vals, hA, hB, hb0, hK⟩ := h
  refine (next_some w hA g ht0 hne).mono ?_
  rintro e w' ⟨s1, en, r, v', hc, hl, he, hA', hv, ho⟩
  have hcur : s1.cur < vals.length := by
    have := (hc.gd g).1.cur
    have e : s1.m = s.m := by unfold FQ.m; rw [(hc.gd g).2.2.1]
    rw [hA.lv]; omega
  refine ⟨s1, en, r, hc, hl, he, QK.only hA hB hb0 hK hA' (fun k hk => .inl ?_) (ho.mono fun k hk => ?_)⟩
  · rcases hk with h | h | h | h | ⟨t, h⟩
    · exact .inl h
    · exact .inr (.inl h)
    · exact .inr (.inr (.inl h))
    · exact .inr (.inr (.inr (.inl h)))
    · by_cases e : s1.cur = t
      · subst e; rw [qv_set_self hcur] at h; exact .inr (.inr (.inr (.inr ⟨s1.cur, hv k h⟩)))
      · rw [qv_set_ne e] at h; exact .inr (.inr (.inr (.inr ⟨t, h⟩)))
  · rcases hk with h | h | h
    · exact .inl h
    · exact .inr (.inr (.inl h))
    · exact .inr (.inr (.inr (.inl h)))
theorem k_next_none (h : QK w0 K b s w) (g : Gd s) (ha : anyB s = false) :
    Calls Try.prog 14 #[.pointer (some ⟨b, 0, none⟩)] w fun e w' => e = .returned (.tuple #[.int .i64 0, .int .i64 0, .iface 39 (.int .i64 3)]) ∧ QK w0 K b s w' ∧ SameK K w w' := by
  have h' := h
  obtain ⟨bq, cq, bd, cd, xt, bl, vals, hA, hB, hb0, hK⟩ := h
  refine (next_none w hA g ha).mono ?_
  rintro e w' ⟨he, n, rfl⟩
  exact ⟨he, h'.drew n⟩
theorem k_peek (h : QK w0 K b s w) (g : Gd s) {t0 : Nat} (ht0 : t0 < s.m) (hne : s.lst t0 ≠ []) :
    Calls Try.prog 15 #[.pointer (some ⟨b, 0, none⟩)] w (PeekSome s w) := by
  obtain ⟨bq, cq, bd, cd, xt, bl, vals, hA, _⟩ := h
  exact peek_some w hA g ht0 hne
theorem k_peek_none (h : QK w0 K b s w) (g : Gd s) (ha : anyB s = false) :
    Calls Try.prog 15 #[.pointer (some ⟨b, 0, none⟩)] w (PeekNone w) := by
  obtain ⟨bq, cq, bd, cd, xt, bl, vals, hA, _⟩ := h
  exact peek_none w hA g ha
def CanK (w0 : World) (K : Nat → Prop) (b : Nat) (s : FQ) (id : Int) (w : World) (e : Ending) (w' : World) : Prop :=
  ((e = .returned (.bool false) ∧ ¬ hasId s id ∧ QK w0 K b s w') ∨ (e = .returned (.bool true) ∧ ∃ t i, FindR s id (some (t, i)) ∧ QK w0 K b (FQ.setL s t ((s.lst t).eraseIdx i)) w')) ∧ SameK K w w'
theorem k_cancel (id : Int) (h : QK w0 K b s w) (hm : s.m ≤ 16) (hsh : Short s) :
    Calls Try.prog 18 #[.pointer (some ⟨b, 0, none⟩), .int .i64 id] w (CanK w0 K b s id w) := by
  have h' := h
  obtain ⟨bq, cq, bd, cd, xt, bl, vals, hA, hB, hb0, hK⟩ := h
  refine (cancel_any id w hA hm hsh).mono ?_
  rintro e w' (⟨he, hn, hb⟩ | ⟨he, t, i, hf, vals', u1, u2, u3⟩)
  · exact ⟨.inl ⟨he, hn, h'.bel hb⟩, SameK.of_below hb hK⟩
  · obtain ⟨r1, r2⟩ := QK.only hA hB hb0 hK u1 u2 u3
    exact ⟨.inr ⟨he, t, i, hf, r1⟩, r2⟩
theorem k_deficit (t : Int) (h : QK w0 K b s w) : Calls Try.prog 17 #[.pointer (some ⟨b, 0, none⟩), .int .i64 t] w fun e w' => e = .returned (.int .i64 (dfI s t)) ∧ ∃ n, w' = w.drewN n := by
  obtain ⟨bq, cq, bd, cd, xt, bl, vals, hA, _⟩ := h
  exact deficit_any t w hA
theorem k_length (t : Int) (h : QK w0 K b s w) : Calls Try.prog 13 #[.pointer (some ⟨b, 0, none⟩), .int .i64 t] w fun e w' => e = .returned (.int .i64 (lnI s t)) ∧ ∃ n, w' = w.drewN n := by
  obtain ⟨bq, cq, bd, cd, xt, bl, vals, hA, _⟩ := h
  exact length_any t w hA
end
end Go.Proofs.Ytdcmkonmojiefaa

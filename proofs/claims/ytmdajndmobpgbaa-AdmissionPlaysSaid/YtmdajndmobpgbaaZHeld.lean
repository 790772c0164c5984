/- What the statements of this layer share: the contracts of a queue that lies in blocks of its own, the numbers of errors, awake. Conditions: each contract names its own. The contracts of a queue of blocks of its own beside kept blocks K. Conditions: each contract names its own. A region that draws its order and whose last operation is a store into a cell that the region loads: every other operation may be taken first under a condition S on the world that need not hold behind that store. Over any program. -/
import Derived.Test.YtmdajndmobpgbaaZFqPeek
import Derived.Test.YtmdajndmobpgbaaZFqCancel
import Derived.Test.YtmdajndmobpgbaaZErr
namespace Go.Proofs.Ytmdajndmobpgbaa
open Go.RowKit
open Go.Proofs.Ytmdajndmobpgbaa.Fq

theorem is3 (w : World) : Calls Try.prog 13 #[.iface 33 (.int .i64 3), .int .i64 3] w fun e w' => e = .returned (.bool true) ∧ w' = w := by
  go_enter Try.func13, Try.ntmps13
  go_wp2_with (go_at_call 23; refine (num_err 3 _).mono ?_; rintro e w' ⟨rfl, rfl⟩)
  go_ret
  exact ⟨rfl, rfl⟩
set_option maxRecDepth 100000 in
set_option maxHeartbeats 400000 in
theorem Clip_any (n lo hi : Int) (w : World) :
    Calls Try.prog 49 #[.int .i64 n, .int .i64 lo, .int .i64 hi] w fun e w' => e = .returned (.int .i64 (max lo (min n hi))) ∧ w' = w := by
  go_enter Try.func49, Try.ntmps49
  go_wp2
  go_ret
  exact ⟨rfl, rfl⟩

/-- The queue s lies at block b, all of it in blocks from B on. -/
def QB (w : World) (B b : Nat) (s : FQ) : Prop := ∃ bq cq bd cd xt bl vals, FqAt w b bq cq bd cd xt bl vals s ∧ ∀ k, Fp b bq bd bl vals k → B ≤ k
section
variable {w w' : World} {B b : Nat} {s s' : FQ}
theorem QB.lt (h : QB w B b s) : b < w.heap.size ∧ B ≤ b := by
  obtain ⟨bq, cq, bd, cd, xt, bl, vals, hA, hB⟩ := h
  exact ⟨has_lt hA.hb, hB b (.inl rfl)⟩
theorem QB.below (h : QB w B b s) (hb : Below w.heap.size w w') : QB w' B b s := by
  obtain ⟨bq, cq, bd, cd, xt, bl, vals, hA, hB⟩ := h
  exact ⟨bq, cq, bd, cd, xt, bl, vals, hA.belowS hb, hB⟩
theorem QB.mono {B' : Nat} (h : QB w B b s) (hB : B' ≤ B) : QB w B' b s := by
  obtain ⟨bq, cq, bd, cd, xt, bl, vals, hA, h⟩ := h
  exact ⟨bq, cq, bd, cd, xt, bl, vals, hA, fun k hk => Nat.le_trans hB (h k hk)⟩
theorem QB.of_upd {bq cq bd cd bl : Nat} {xt : List Value} {vals : List Value} (hB : ∀ k, Fp b bq bd bl vals k → B ≤ k) (hw : B ≤ w.heap.size) (h : Upd b bq cq bd cd xt bl vals s' w w') : QB w' B b s' ∧ Below B w w' := by
  obtain ⟨vals', hA, hf, ho⟩ := h
  exact ⟨⟨bq, cq, bd, cd, xt, bl, vals', hA, fun k hk => (hf k hk).elim (hB k) (fun h => Nat.le_trans hw h)⟩, ho.below hw hB⟩
theorem q_new {ao : Option Addr} {n c ba off : Nat} {Q : Nat → Int} (w : World) (h : IsInts w ao n ba off Q) (hn : newOk Q n) :
    Calls Try.prog 33 #[.slice ao n c] w fun e w' => ∃ b, e = .returned (.tuple #[.pointer (some ⟨b, 0, none⟩), .nilIface]) ∧ QB w' w.heap.size b (FQ.init Q n) ∧ Below w.heap.size w w' :=
  (new_ok w h hn).mono fun e w' ⟨b, bq, bd, bd', bl, he, hA, hb, h1, h2, h3, h4⟩ => ⟨b, he, ⟨_, _, _, _, _, _, _, hA, fun k hk => by
    rcases hk with rfl | rfl | rfl | rfl | ⟨t, ht⟩
    · exact h1
    · exact h2
    · exact h3
    · exact h4
    · have e : qv (List.replicate n nilS) t = nilS := by unfold qv; by_cases h : t < n <;> simp [List.getD, h]
      rw [e] at ht; simp [nilS, Value.ownBlock] at ht⟩, hb⟩
open Classical in
noncomputable def putE (s : FQ) (t id z : Int) : Int := if ¬ (0 ≤ t ∧ t < s.m) then 8 else if z < 1 ∨ 1048576 < z then 1 else if hasId s id then 4 else if 256 ≤ (s.lst t.toNat).length then 10 else 0
noncomputable def putS (s : FQ) (t id z : Int) : FQ := if putE s t id z = 0 then FQ.setL s t.toNat (s.lst t.toNat ++ [(id, z)]) else s
theorem putS_ok {t id z : Int} (h : putE s t id z = 0) : putS s t id z = FQ.setL s t.toNat (s.lst t.toNat ++ [(id, z)]) := if_pos h
theorem putS_bad {t id z : Int} (h : putE s t id z ≠ 0) : putS s t id z = s := if_neg h
theorem putE_ok {t id z : Int} (h : putE s t id z = 0) : (0 ≤ t ∧ t < s.m) ∧ (1 ≤ z ∧ z ≤ 1048576) ∧ ¬ hasId s id ∧ (s.lst t.toNat).length < 256 := by
  unfold putE at h
  split at h
  · omega
  · next h1 =>
    split at h
    · omega
    · next h2 =>
      split at h
      · omega
      · next h3 =>
        split at h
        · omega
        · next h4 => exact ⟨Classical.not_not.1 h1, by omega, h3, by omega⟩
theorem putE_of {t id z : Int} (h1 : 0 ≤ t ∧ t < s.m) (h2 : 1 ≤ z ∧ z ≤ 1048576) (h3 : ¬ hasId s id) (h4 : (s.lst t.toNat).length < 256) : putE s t id z = 0 := by
  unfold putE
  rw [if_neg (Classical.not_not.2 h1), if_neg (by omega), if_neg h3, if_neg (by omega)]
theorem q_put (t id z : Int) (w : World) (h : QB w B b s) (hw : B ≤ w.heap.size) (hm : s.m ≤ 16) (hsh : Short s) :
    Calls Try.prog 36 #[.pointer (some ⟨b, 0, none⟩), .int .i64 t, .int .i64 id, .int .i64 z] w fun e w' => e = .returned (errV (putE s t id z)) ∧ QB w' B b (putS s t id z) ∧ Below B w w' := by
  have bad : ∀ k, k ≠ 0 → putE s t id z = k → ∀ e w', PutBad k w e w' → e = .returned (errV (putE s t id z)) ∧ QB w' B b (putS s t id z) ∧ Below B w w' := fun k hk hp e w' ⟨he, hb⟩ => by
    rw [hp, putS_bad (by rw [hp]; exact hk), show errV k = _ from if_neg hk]
    exact ⟨he, h.below hb, hb.mono hw⟩
  obtain ⟨bq, cq, bd, cd, xt, bl, vals, hA, hB⟩ := h
  by_cases h1 : 0 ≤ t ∧ t < s.m
  · by_cases h2 : z < 1 ∨ 1048576 < z
    · exact (put_range t id z w hA h1.1 h1.2 h2).mono (bad 1 (by decide) (by unfold putE; rw [if_neg (Classical.not_not.2 h1), if_pos h2]))
    · by_cases h3 : hasId s id
      · exact (put_exists t id z w hA hm hsh h1.1 h1.2 (by omega) (by omega) h3).mono (bad 4 (by decide) (by unfold putE; rw [if_neg (Classical.not_not.2 h1), if_neg h2, if_pos h3]))
      · obtain ⟨k, rfl⟩ := Int.eq_ofNat_of_zero_le h1.1
        by_cases h4 : 256 ≤ (s.lst k).length
        · exact (put_full k id z w hA hm hsh (by omega) (by omega) (by omega) h3 h4).mono (bad 10 (by decide) (by unfold putE; rw [if_neg (Classical.not_not.2 h1), if_neg h2, if_neg h3, Int.toNat_natCast, if_pos h4]))
        · have hp : putE s (k : Int) id z = 0 := putE_of h1 (by omega) h3 (by simp; omega)
          refine (put_ok k id z w hA hm hsh (by omega) (by omega) (by omega) h3 (by omega)).mono ?_
          rintro e w' ⟨he, hu⟩
          rw [putS_ok hp, hp]
          obtain ⟨r1, r2⟩ := QB.of_upd hB hw hu
          exact ⟨he, r1, r2⟩
  · exact (put_name t id z w hA h1).mono (bad 8 (by decide) (by unfold putE; rw [if_pos h1]))
theorem q_next (w : World) (h : QB w B b s) (hw : B ≤ w.heap.size) (g : Gd s) {t0 : Nat} (ht0 : t0 < s.m) (hne : s.lst t0 ≠ []) :
    Calls Try.prog 45 #[.pointer (some ⟨b, 0, none⟩)] w fun e w' => ∃ s1 en r, Chs s s1 ∧ s1.lst s1.cur = en :: r ∧ e = .returned (.tuple #[.int .i64 s1.cur, .int .i64 en.1, .nilIface]) ∧ QB w' B b s1.pop ∧ Below B w w' := by
  obtain ⟨bq, cq, bd, cd, xt, bl, vals, hA, hB⟩ := h
  refine (next_some w hA g ht0 hne).mono ?_
  rintro e w' ⟨s1, en, r, v', hc, hl, he, hA', hv, ho⟩
  have hcur : s1.cur < vals.length := by
    have := (hc.gd g).1.cur
    have e : s1.m = s.m := by unfold FQ.m; rw [(hc.gd g).2.2.1]
    rw [hA.lv]; omega
  refine ⟨s1, en, r, hc, hl, he, ⟨bq, cq, bd, cd, xt, bl, _, hA', fun k hk => hB k ?_⟩, ho.below hw (fun k hk => hB k (by rcases hk with h | h | h; exact .inl h; exact .inr (.inr (.inl h)); exact .inr (.inr (.inr (.inl h)))))⟩
  rcases hk with h | h | h | h | ⟨t, h⟩
  · exact .inl h
  · exact .inr (.inl h)
  · exact .inr (.inr (.inl h))
  · exact .inr (.inr (.inr (.inl h)))
  · by_cases e : s1.cur = t
    · subst e; rw [qv_set_self hcur] at h; exact .inr (.inr (.inr (.inr ⟨s1.cur, hv k h⟩)))
    · rw [qv_set_ne e] at h; exact .inr (.inr (.inr (.inr ⟨t, h⟩)))
theorem q_next_none (w : World) (h : QB w B b s) (g : Gd s) (ha : anyB s = false) :
    Calls Try.prog 45 #[.pointer (some ⟨b, 0, none⟩)] w fun e w' => e = .returned (.tuple #[.int .i64 0, .int .i64 0, .iface 33 (.int .i64 3)]) ∧ ∃ n, w' = w.drewN n := by
  obtain ⟨bq, cq, bd, cd, xt, bl, vals, hA, hB⟩ := h
  exact next_none w hA g ha
theorem q_peek (w : World) (h : QB w B b s) (g : Gd s) {t0 : Nat} (ht0 : t0 < s.m) (hne : s.lst t0 ≠ []) :
    Calls Try.prog 42 #[.pointer (some ⟨b, 0, none⟩)] w (PeekSome s w) := by
  obtain ⟨bq, cq, bd, cd, xt, bl, vals, hA, hB⟩ := h
  exact peek_some w hA g ht0 hne
theorem q_peek_none (w : World) (h : QB w B b s) (g : Gd s) (ha : anyB s = false) :
    Calls Try.prog 42 #[.pointer (some ⟨b, 0, none⟩)] w (PeekNone w) := by
  obtain ⟨bq, cq, bd, cd, xt, bl, vals, hA, hB⟩ := h
  exact peek_none w hA g ha
def CanQ (B b : Nat) (s : FQ) (id : Int) (w : World) (e : Ending) (w' : World) : Prop :=
  (e = .returned (.bool false) ∧ ¬ hasId s id ∧ QB w' B b s ∧ Below B w w') ∨
  (e = .returned (.bool true) ∧ ∃ t i, FindR s id (some (t, i)) ∧ QB w' B b (FQ.setL s t ((s.lst t).eraseIdx i)) ∧ Below B w w')
theorem q_cancel (id : Int) (w : World) (h : QB w B b s) (hw : B ≤ w.heap.size) (hm : s.m ≤ 16) (hsh : Short s) :
    Calls Try.prog 41 #[.pointer (some ⟨b, 0, none⟩), .int .i64 id] w (CanQ B b s id w) := by
  have h' := h
  obtain ⟨bq, cq, bd, cd, xt, bl, vals, hA, hB⟩ := h
  refine (cancel_any id w hA hm hsh).mono ?_
  rintro e w' (⟨he, hn, hb⟩ | ⟨he, t, i, hf, hu⟩)
  · exact .inl ⟨he, hn, h'.below hb, hb.mono hw⟩
  · obtain ⟨r1, r2⟩ := QB.of_upd hB hw hu
    exact .inr ⟨he, t, i, hf, r1, r2⟩
theorem Fq.Gd.setL (g : Gd s) {t : Nat} {l : List Ent} (ht : t < s.m) (hl : ∀ e ∈ l, 1 ≤ e.2 ∧ e.2 ≤ 1048576) : Gd (FQ.setL s t l) := by
  have hm := setL_m s t l
  exact { m1 := by rw [hm]; exact g.m1, m2 := by rw [hm]; exact g.m2, lq := by rw [hm]; exact g.lq, ld := by rw [hm]; exact g.ld, cur := by rw [hm]; exact g.cur
          q1 := fun t' h => g.q1 t' (by rw [hm] at h; exact h)
          sz := fun t' h e he => by
            rw [hm] at h
            by_cases e1 : t = t'
            · subst e1; rw [setL_lst_self ht] at he; exact hl e he
            · rw [setL_lst_ne e1] at he; exact g.sz t' h e he
          d0 := fun t' h => g.d0 t' (by rw [hm] at h; exact h)
          d1 := fun t' h hc => g.d1 t' (by rw [hm] at h; exact h) hc
          d2 := g.d2 }
theorem Fq.Gd.putS (g : Gd s) (t id z : Int) : Gd (putS s t id z) := by
  by_cases h : putE s t id z = 0
  · rw [putS_ok h]
    obtain ⟨h1, h2, _, _⟩ := putE_ok h
    refine g.setL (by omega) (fun e he => ?_)
    rcases List.mem_append.1 he with he | he
    · exact g.sz t.toNat (by omega) e he
    · simp at he; subst he; exact h2
  · rw [putS_bad h]; exact g
theorem init_m (Q : Nat → Int) (n : Nat) : (FQ.init Q n).m = n := by show (List.replicate n []).length = n; simp
theorem init_lst (Q : Nat → Int) (n t : Nat) : (FQ.init Q n).lst t = [] := by unfold FQ.lst FQ.init; by_cases h : t < n <;> simp [List.getD, h]
theorem init_qn (Q : Nat → Int) (n t : Nat) (h : t < n) : (FQ.init Q n).qn t = Q t := by unfold FQ.qn FQ.init qList; simp [List.getD, h]
theorem init_df (Q : Nat → Int) (n t : Nat) : (FQ.init Q n).df t = 0 := by unfold FQ.df FQ.init; by_cases h : t < n <;> simp [List.getD, h]
theorem Fq.Gd.init {Q : Nat → Int} {n : Nat} (h : newOk Q n) : Gd (FQ.init Q n) := by
  have hm := init_m Q n
  exact { m1 := by rw [hm]; exact h.1, m2 := by rw [hm]; exact h.2.1, lq := by rw [hm]; exact qList_len Q n, ld := by rw [hm]; show (List.replicate n 0).length = n; simp
          cur := by rw [hm]; have := h.1; show 0 < n; omega
          q1 := fun t ht => by rw [hm] at ht; rw [init_qn _ _ _ ht]; exact h.2.2 t ht
          sz := fun t _ e he => by rw [init_lst] at he; cases he
          d0 := fun t _ => by rw [init_df]; omega
          d1 := fun t _ _ => by rw [init_df]; omega
          d2 := by rw [init_df]; omega }
end
end Go.Proofs.Ytmdajndmobpgbaa

namespace Go.Proofs.Ytmdajndmobpgbaa
open Go.RowKit
open Go.Proofs.Ytmdajndmobpgbaa.Fq

/-- The queue s lies at block b, all of it in blocks from w0 on that are not of K. -/
def QK (w0 : World) (K : Nat → Prop) (b : Nat) (s : FQ) (w : World) : Prop := ∃ bq cq bd cd xt bl vals, FqAt w b bq cq bd cd xt bl vals s ∧ (∀ k, Fp b bq bd bl vals k → w0.heap.size ≤ k ∧ ¬ K k) ∧ Below w0.heap.size w0 w ∧ ∀ k, K k → k < w.heap.size
/-- The blocks of K are as they were. -/
def SameK (K : Nat → Prop) (w w' : World) : Prop := (∀ k, K k → w'.heap[k]? = w.heap[k]?) ∧ w.heap.size ≤ w'.heap.size
section
variable {w0 w w' : World} {K J : Nat → Prop} {b : Nat} {s s' : FQ}
theorem SameK.of_below (h : Below w.heap.size w w') (hK : ∀ k, K k → k < w.heap.size) : SameK K w w' := ⟨fun k hk => h.block k (hK k hk), h.size⟩
theorem QK.be (h : QK w0 K b s w) : Below w0.heap.size w0 w := by obtain ⟨_, _, _, _, _, _, _, _, _, h, _⟩ := h; exact h
theorem QK.kl (h : QK w0 K b s w) : ∀ k, K k → k < w.heap.size := by obtain ⟨_, _, _, _, _, _, _, _, _, _, h⟩ := h; exact h
theorem QK.bel (h : QK w0 K b s w) (hb : Below w.heap.size w w') : QK w0 K b s w' := by
  obtain ⟨bq, cq, bd, cd, xt, bl, vals, h1, h2, h3, h4⟩ := h
  exact ⟨bq, cq, bd, cd, xt, bl, vals, h1.belowS hb, h2, h3.trans (hb.mono h3.size), fun k hk => Nat.lt_of_lt_of_le (h4 k hk) hb.size⟩
theorem QK.add (h : QK w0 K b s w) (hb : Below w.heap.size w w') : QK w0 (fun k => K k ∨ (w.heap.size ≤ k ∧ k < w'.heap.size)) b s w' := by
  obtain ⟨bq, cq, bd, cd, xt, bl, vals, h1, h2, h3, h4⟩ := h
  refine ⟨bq, cq, bd, cd, xt, bl, vals, h1.belowS hb, fun k hk => ⟨(h2 k hk).1, fun hn => ?_⟩, h3.trans (hb.mono h3.size), fun k hk => ?_⟩
  · rcases hn with hn | hn
    · exact (h2 k hk).2 hn
    · have := h1.fp_lt k hk
      omega
  · rcases hk with hk | hk
    · exact Nat.lt_of_lt_of_le (h4 k hk) hb.size
    · exact hk.2
theorem QK.less (h : QK w0 K b s w) (hJ : ∀ k, J k → K k) : QK w0 J b s w := by
  obtain ⟨bq, cq, bd, cd, xt, bl, vals, h1, h2, h3, h4⟩ := h
  exact ⟨bq, cq, bd, cd, xt, bl, vals, h1, fun k hk => ⟨(h2 k hk).1, fun hn => (h2 k hk).2 (hJ k hn)⟩, h3, fun k hk => h4 k (hJ k hk)⟩
theorem QK.only {bq cq bd cd bl : Nat} {xt : List Value} {vals vals' : List Value} (h1 : FqAt w b bq cq bd cd xt bl vals s) (h2 : ∀ k, Fp b bq bd bl vals k → w0.heap.size ≤ k ∧ ¬ K k) (h3 : Below w0.heap.size w0 w) (h4 : ∀ k, K k → k < w.heap.size)
    (k1 : FqAt w' b bq cq bd cd xt bl vals' s') (k2 : ∀ k, Fp b bq bd bl vals' k → Fp b bq bd bl vals k ∨ w.heap.size ≤ k) (k3 : Only (Fp b bq bd bl vals) w w') : QK w0 K b s' w' ∧ SameK K w w' := by
  refine ⟨⟨bq, cq, bd, cd, xt, bl, vals', k1, fun k hk => ?_, h3.trans (k3.below h3.size fun k hk => (h2 k hk).1), fun k hk => Nat.lt_of_lt_of_le (h4 k hk) k3.size⟩, fun k hk => k3.block k (h4 k hk) fun hn => (h2 k hn).2 hk, k3.size⟩
  rcases k2 k hk with h | h
  · exact h2 k h
  · exact ⟨Nat.le_trans h3.size h, fun hn => by have := h4 k hn; omega⟩
theorem QK.drew (h : QK w0 K b s w) (n : Nat) : QK w0 K b s (w.drewN n) ∧ SameK K w (w.drewN n) := ⟨h.bel (below_draw _ _ _), SameK.of_below (below_draw _ _ _) h.kl⟩
theorem k_new {ao : Option Addr} {n c ba off : Nat} {Q : Nat → Int} (w : World) (h : IsInts w ao n ba off Q) (hn : newOk Q n) (hb0 : Below w0.heap.size w0 w) (hK : ∀ k, K k → k < w.heap.size) :
    Calls Try.prog 33 #[.slice ao n c] w fun e w' => ∃ b, e = .returned (.tuple #[.pointer (some ⟨b, 0, none⟩), .nilIface]) ∧ QK w0 K b (FQ.init Q n) w' ∧ Below w.heap.size w w' :=
  (new_ok w h hn).mono fun e w' ⟨b, bq, bd, bd', bl, he, hA, hb, h1, h2, h3, h4⟩ => ⟨b, he, ⟨_, _, _, _, _, _, _, hA, fun k hk => by
    have hz := hb0.size
    have key : w.heap.size ≤ k → w0.heap.size ≤ k ∧ ¬ K k := fun h => ⟨Nat.le_trans hz h, fun hn => by have := hK k hn; omega⟩
    rcases hk with rfl | rfl | rfl | rfl | ⟨t, ht⟩
    · exact key h1
    · exact key h2
    · exact key h3
    · exact key h4
    · have e : qv (List.replicate n nilS) t = nilS := by unfold qv; by_cases h : t < n <;> simp [List.getD, h]
      rw [e] at ht; simp [nilS, Value.ownBlock] at ht, hb0.trans (hb.mono hb0.size), fun k hk => Nat.lt_of_lt_of_le (hK k hk) hb.size⟩, hb⟩
theorem k_put (t id z : Int) (h : QK w0 K b s w) (hm : s.m ≤ 16) (hsh : Short s) :
    Calls Try.prog 36 #[.pointer (some ⟨b, 0, none⟩), .int .i64 t, .int .i64 id, .int .i64 z] w fun e w' => e = .returned (errV (putE s t id z)) ∧ QK w0 K b (putS s t id z) w' ∧ SameK K w w' := by
  have bad : ∀ k, k ≠ 0 → putE s t id z = k → ∀ e w', PutBad k w e w' → e = .returned (errV (putE s t id z)) ∧ QK w0 K b (putS s t id z) w' ∧ SameK K w w' := fun k hk hp e w' ⟨he, hb⟩ => by
    rw [hp, putS_bad (by rw [hp]; exact hk), show errV k = _ from if_neg hk]
    exact ⟨he, h.bel hb, SameK.of_below hb h.kl⟩
  obtain ⟨bq, cq, bd, cd, xt, bl, vals, hA, hB, hb0, hK⟩ := h
  by_cases h1 : 0 ≤ t ∧ t < s.m
  · by_cases h2 : z < 1 ∨ 1048576 < z
    · exact (put_range t id z w hA h1.1 h1.2 h2).mono (bad 1 (by decide) (by unfold putE; rw [if_neg (Classical.not_not.2 h1), if_pos h2]))
    · by_cases h3 : hasId s id
      · exact (put_exists t id z w hA hm hsh h1.1 h1.2 (by omega) (by omega) h3).mono (bad 4 (by decide) (by unfold putE; rw [if_neg (Classical.not_not.2 h1), if_neg h2, if_pos h3]))
      · obtain ⟨k, rfl⟩ := Int.eq_ofNat_of_zero_le h1.1
        by_cases h4 : 256 ≤ (s.lst k).length
        · exact (put_full k id z w hA hm hsh (by omega) (by omega) (by omega) h3 h4).mono (bad 10 (by decide) (by unfold putE; rw [if_neg (Classical.not_not.2 h1), if_neg h2, if_neg h3, Int.toNat_natCast, if_pos h4]))
        · have hp : putE s (k : Int) id z = 0 := putE_of h1 (by omega) h3 (by simp; omega)
          refine (put_ok k id z w hA hm hsh (by omega) (by omega) (by omega) h3 (by omega)).mono ?_
          rintro e w' ⟨he, vals', u1, u2, u3⟩
          rw [putS_ok hp, hp]
          exact ⟨he, QK.only hA hB hb0 hK u1 u2 u3⟩
  · exact (put_name t id z w hA h1).mono (bad 8 (by decide) (by unfold putE; rw [if_pos h1]))
theorem k_next (h : QK w0 K b s w) (g : Gd s) {t0 : Nat} (ht0 : t0 < s.m) (hne : s.lst t0 ≠ []) :
    Calls Try.prog 45 #[.pointer (some ⟨b, 0, none⟩)] w fun e w' => ∃ s1 en r, Chs s s1 ∧ s1.lst s1.cur = en :: r ∧ e = .returned (.tuple #[.int .i64 s1.cur, .int .i64 en.1, .nilIface]) ∧ QK w0 K b s1.pop w' ∧ SameK K w w' := by
  obtain ⟨bq, cq, bd, cd, xt, bl, vals, hA, hB, hb0, hK⟩ := h
  refine (next_some w hA g ht0 hne).mono ?_
  rintro e w' ⟨s1, en, r, v', hc, hl, he, hA', hv, ho⟩
  have hcur : s1.cur < vals.length := by
    have := (hc.gd g).1.cur
    have e : s1.m = s.m := by unfold FQ.m; rw [(hc.gd g).2.2.1]
    rw [hA.lv]; omega
  refine ⟨s1, en, r, hc, hl, he, QK.only hA hB hb0 hK hA' (fun k hk => .inl ?_) (ho.mono fun k hk => ?_)⟩
  · rcases hk with h | h | h | h | ⟨t, h⟩
    · exact .inl h
    · exact .inr (.inl h)
    · exact .inr (.inr (.inl h))
    · exact .inr (.inr (.inr (.inl h)))
    · by_cases e : s1.cur = t
      · subst e; rw [qv_set_self hcur] at h; exact .inr (.inr (.inr (.inr ⟨s1.cur, hv k h⟩)))
      · rw [qv_set_ne e] at h; exact .inr (.inr (.inr (.inr ⟨t, h⟩)))
  · rcases hk with h | h | h
    · exact .inl h
    · exact .inr (.inr (.inl h))
    · exact .inr (.inr (.inr (.inl h)))
theorem k_next_none (h : QK w0 K b s w) (g : Gd s) (ha : anyB s = false) :
    Calls Try.prog 45 #[.pointer (some ⟨b, 0, none⟩)] w fun e w' => e = .returned (.tuple #[.int .i64 0, .int .i64 0, .iface 33 (.int .i64 3)]) ∧ QK w0 K b s w' ∧ SameK K w w' := by
  have h' := h
  obtain ⟨bq, cq, bd, cd, xt, bl, vals, hA, hB, hb0, hK⟩ := h
  refine (next_none w hA g ha).mono ?_
  rintro e w' ⟨he, n, rfl⟩
  exact ⟨he, h'.drew n⟩
theorem k_peek (h : QK w0 K b s w) (g : Gd s) {t0 : Nat} (ht0 : t0 < s.m) (hne : s.lst t0 ≠ []) :
    Calls Try.prog 42 #[.pointer (some ⟨b, 0, none⟩)] w (PeekSome s w) := by
  obtain ⟨bq, cq, bd, cd, xt, bl, vals, hA, _⟩ := h
  exact peek_some w hA g ht0 hne
theorem k_peek_none (h : QK w0 K b s w) (g : Gd s) (ha : anyB s = false) :
    Calls Try.prog 42 #[.pointer (some ⟨b, 0, none⟩)] w (PeekNone w) := by
  obtain ⟨bq, cq, bd, cd, xt, bl, vals, hA, _⟩ := h
  exact peek_none w hA g ha
def CanK (w0 : World) (K : Nat → Prop) (b : Nat) (s : FQ) (id : Int) (w : World) (e : Ending) (w' : World) : Prop :=
  ((e = .returned (.bool false) ∧ ¬ hasId s id ∧ QK w0 K b s w') ∨ (e = .returned (.bool true) ∧ ∃ t i, FindR s id (some (t, i)) ∧ QK w0 K b (FQ.setL s t ((s.lst t).eraseIdx i)) w')) ∧ SameK K w w'
theorem k_cancel (id : Int) (h : QK w0 K b s w) (hm : s.m ≤ 16) (hsh : Short s) :
    Calls Try.prog 41 #[.pointer (some ⟨b, 0, none⟩), .int .i64 id] w (CanK w0 K b s id w) := by
  have h' := h
  obtain ⟨bq, cq, bd, cd, xt, bl, vals, hA, hB, hb0, hK⟩ := h
  refine (cancel_any id w hA hm hsh).mono ?_
  rintro e w' (⟨he, hn, hb⟩ | ⟨he, t, i, hf, vals', u1, u2, u3⟩)
  · exact ⟨.inl ⟨he, hn, h'.bel hb⟩, SameK.of_below hb hK⟩
  · obtain ⟨r1, r2⟩ := QK.only hA hB hb0 hK u1 u2 u3
    exact ⟨.inr ⟨he, t, i, hf, r1⟩, r2⟩
end
end Go.Proofs.Ytmdajndmobpgbaa

namespace Go.Proofs.Ytmdajndmobpgbaa
open Go.RowKit

section
variable {P : Program} {ops : Array Oper} {Q : Exit → Act → World → Prop} {md : Region.Mode} {S : World → Prop} {z : Nat}
/-- Whatever order is picked, and S holds behind each operation but number z. -/
def AnyZ (P : Program) (md : Region.Mode) (ops : Array Oper) (Q : Exit → Act → World → Prop) (S : World → Prop) (z : Nat) : Nat → Array Bool → Act → World → Prop
  | 0, listed, a, w => Region.ready md ops listed = [] ∧ Q .normal a w
  | f + 1, listed, a, w => (Region.ready md ops listed = [] → Q .normal a w) ∧ ∀ i ∈ Region.ready md ops listed, wpOp P ops Q i (fun a' w' => (i = z ∨ S w') ∧ AnyZ P md ops Q S z f (listed.setIfInBounds i true) a' w') a w
theorem AnyZ.any : ∀ (f : Nat) (listed : Array Bool) (a : Act) (w : World), AnyZ P md ops Q S z f listed a w → wpAny P md ops Q f listed a w
  | 0, _, _, _, h => h
  | f + 1, _, _, _, h => ⟨h.1, fun i hi => wpOp_mono (fun a' w' h' => AnyZ.any f _ a' w' h'.2) (h.2 i hi)⟩
/-- Number z waits for number i. -/
def waitsB (md : Region.Mode) (ops : Array Oper) (z i : Nat) : Bool := match ops[z]? with
  | some o => o.after.any fun e => Region.binds md e && e.on == i
  | none => false
theorem not_ready {i : Nat} {listed : Array Bool} (hw : waitsB md ops z i = true) (hi : i ∈ Region.ready md ops listed) : z ∉ Region.ready md ops listed := fun hz => by
  obtain ⟨h0, _⟩ := mem_ready.1 hi
  obtain ⟨_, o, ho, hall⟩ := mem_ready.1 hz
  unfold waitsB at hw
  rw [ho] at hw
  obtain ⟨e, he, hb⟩ := Array.any_eq_true'.1 hw
  simp only [Bool.and_eq_true, beq_iff_eq] at hb
  have h1 := hall e he hb.1
  rw [hb.2] at h1
  rcases Nat.lt_or_ge i listed.size with h' | h'
  · simp [h'] at h0 h1; rw [h0] at h1; cases h1
  · simp [Array.getElem?_eq_none h'] at h1
theorem AnyZ.first {i : Nat} {oi : Oper} {v : Value} (hi : ops[i]? = some oi) (hsel : ∀ (j : Nat) (o : Oper) cs b, ops[j]? = some o → o.op ≠ .select cs b) (hz : waitsB md ops z i = true) (hiz : i ≠ z)
    (hQ : ∀ c a w, Q (.panic c) (a.put oi.dst v) w → Q (.panic c) a w) :
    ∀ (f : Nat) (listed : Array Bool) (a : Act) (w : World),
      (∀ j oj, ops[j]? = some oj → j ≠ i → listed.getD j true = false → (∀ e ∈ oj.after, Region.binds md e = true → e.on ≠ i) → oi.apart ops oj = true) →
      i ∈ Region.ready md ops listed → YieldsIf P ops S oi v a → S w →
      AnyZ P md ops Q S z f (listed.setIfInBounds i true) (a.put oi.dst v) w → AnyZ P md ops Q S z (f + 1) listed a w := by
  intro f
  induction f with
  | zero =>
    intro listed a w _ hr hy hS H
    refine ⟨fun h => (by rw [h] at hr; cases hr), fun j hj => ?_⟩
    by_cases hji : j = i
    · subst hji; exact hy.wpOp hi hS ⟨.inr hS, H⟩
    · have := ready_mono hj hji
      rw [H.1] at this
      cases this
  | succ f ih =>
    intro listed a w hfree hr hy hS H
    refine ⟨fun h => (by rw [h] at hr; cases hr), fun j hj => ?_⟩
    by_cases hji : j = i
    · subst hji; exact hy.wpOp hi hS ⟨.inr hS, H⟩
    · have hjz : j ≠ z := fun e => not_ready hz hr (e ▸ hj)
      have h1 := H.2 j (ready_mono hj hji)
      obtain ⟨hjun, oj, hoj, hall⟩ := mem_ready.1 hj
      have hnot : ∀ e ∈ oj.after, Region.binds md e = true → e.on ≠ i := fun e he hb heq => by
        have h1 := hall e he hb
        have h0 := (mem_ready.1 hr).1
        rw [heq] at h1
        rcases Nat.lt_or_ge i listed.size with h' | h'
        · simp [h'] at h0 h1; rw [h0] at h1; cases h1
        · simp [Array.getElem?_eq_none h'] at h1
      have h2 := wpOp_putIf hoj (hfree j oj hoj hji hjun hnot) (fun cs b => hsel i oi cs b hi) (fun cs b => hsel j oj cs b hoj) hQ hy h1
      refine wpOp_mono (fun a' w' h3 => ?_) h2
      have hS' : S w' := h3.2.1.resolve_left hjz
      refine ⟨.inr hS', ih (listed.setIfInBounds j true) a' w' (fun k ok hk hki hun hno => ?_) (ready_mono hr (Ne.symm hji)) h3.1 hS' ?_⟩
      · refine hfree k ok hk hki ?_ hno
        by_cases hjk : j = k
        · subst hjk; exact hjun
        · rw [_root_.Go.getD_set_ne true hjk] at hun; exact hun
      · rw [Array.setIfInBounds_comm _ _ hji]
        exact h3.2.2
theorem AnyZ.take {i : Nat} {oi : Oper} {v : Value} {f : Nat} {listed : Array Bool} {a : Act} {w : World} (hi : ops[i]? = some oi)
    (hs : (Region.noSelect ops && Region.free md ops listed i && (Region.ready md ops listed).contains i && waitsB md ops z i && (i != z)) = true)
    (hQ : ∀ c a w, Q (.panic c) (a.put oi.dst v) w → Q (.panic c) a w) (hw : Region.wanted oi (yielded ops a.tmps) = true) (hS : S w) (hv : ∀ w, S w → (execOp a.eval oi).run P w = .ok (.value v) w)
    (h : AnyZ P md ops Q S z f (listed.setIfInBounds i true) (a.put oi.dst v) w) : AnyZ P md ops Q S z (f + 1) listed a w := by
  simp only [Bool.and_eq_true, bne_iff_ne] at hs
  obtain ⟨⟨⟨⟨h1, h2⟩, h3⟩, h4⟩, h5⟩ := hs
  exact AnyZ.first hi (Region.noSelect_spec h1) h4 h5 hQ f listed a w (Region.free_spec hi h2) (by simpa using h3) (.inl ⟨hw, hv⟩) hS h
/-- Number z waits for number i, over the numbers of a path that none of them is done yet. -/
def pathB (md : Region.Mode) (ops : Array Oper) (listed : Array Bool) (i : Nat) : Nat → List Nat → Bool
  | z, [] => waitsB md ops z i
  | z, p :: ps => waitsB md ops z p && (!listed.getD p true) && pathB md ops listed i p ps
theorem path_not {i : Nat} {listed : Array Bool} (hi : i ∈ Region.ready md ops listed) : ∀ (ps : List Nat) (z : Nat), pathB md ops listed i z ps = true → z ∉ Region.ready md ops listed
  | [], z, h => not_ready h hi
  | p :: ps, z, h => fun hz => by
    simp only [pathB, Bool.and_eq_true, Bool.not_eq_true'] at h
    obtain ⟨⟨hw, hp⟩, _⟩ := h
    obtain ⟨_, o, ho, hall⟩ := mem_ready.1 hz
    unfold waitsB at hw
    rw [ho] at hw
    obtain ⟨e, he, hb⟩ := Array.any_eq_true'.1 hw
    simp only [Bool.and_eq_true, beq_iff_eq] at hb
    have h1 := hall e he hb.1
    rw [hb.2] at h1
    rcases Nat.lt_or_ge p listed.size with h' | h'
    · simp [h'] at hp h1; rw [hp] at h1; cases h1
    · simp [Array.getElem?_eq_none h'] at h1
theorem path_kept {i j : Nat} {listed : Array Bool} (hi : i ∈ Region.ready md ops listed) (hj : j ∈ Region.ready md ops listed) : ∀ (ps : List Nat) (z : Nat), pathB md ops listed i z ps = true → pathB md ops (listed.setIfInBounds j true) i z ps = true
  | [], _, h => h
  | p :: ps, z, h => by
    simp only [pathB, Bool.and_eq_true, Bool.not_eq_true'] at h ⊢
    obtain ⟨⟨hw, hp⟩, hc⟩ := h
    have hne : j ≠ p := fun e => path_not hi ps p hc (e ▸ hj)
    exact ⟨⟨hw, by rw [_root_.Go.getD_set_ne true hne]; exact hp⟩, path_kept hi hj ps p hc⟩
theorem AnyZ.firstP {i : Nat} {oi : Oper} {v : Value} {ps : List Nat} (hi : ops[i]? = some oi) (hsel : ∀ (j : Nat) (o : Oper) cs b, ops[j]? = some o → o.op ≠ .select cs b)
    (hQ : ∀ c a w, Q (.panic c) (a.put oi.dst v) w → Q (.panic c) a w) :
    ∀ (f : Nat) (listed : Array Bool) (a : Act) (w : World), pathB md ops listed i z ps = true →
      (∀ j oj, ops[j]? = some oj → j ≠ i → listed.getD j true = false → (∀ e ∈ oj.after, Region.binds md e = true → e.on ≠ i) → oi.apart ops oj = true) →
      i ∈ Region.ready md ops listed → YieldsIf P ops S oi v a → S w →
      AnyZ P md ops Q S z f (listed.setIfInBounds i true) (a.put oi.dst v) w → AnyZ P md ops Q S z (f + 1) listed a w := by
  intro f
  induction f with
  | zero =>
    intro listed a w _ _ hr hy hS H
    refine ⟨fun h => (by rw [h] at hr; cases hr), fun j hj => ?_⟩
    by_cases hji : j = i
    · subst hji; exact hy.wpOp hi hS ⟨.inr hS, H⟩
    · have := ready_mono hj hji
      rw [H.1] at this
      cases this
  | succ f ih =>
    intro listed a w hz hfree hr hy hS H
    refine ⟨fun h => (by rw [h] at hr; cases hr), fun j hj => ?_⟩
    by_cases hji : j = i
    · subst hji; exact hy.wpOp hi hS ⟨.inr hS, H⟩
    · have hjz : j ≠ z := fun e => path_not hr ps z hz (e ▸ hj)
      have h1 := H.2 j (ready_mono hj hji)
      obtain ⟨hjun, oj, hoj, hall⟩ := mem_ready.1 hj
      have hnot : ∀ e ∈ oj.after, Region.binds md e = true → e.on ≠ i := fun e he hb heq => by
        have h1 := hall e he hb
        have h0 := (mem_ready.1 hr).1
        rw [heq] at h1
        rcases Nat.lt_or_ge i listed.size with h' | h'
        · simp [h'] at h0 h1; rw [h0] at h1; cases h1
        · simp [Array.getElem?_eq_none h'] at h1
      have h2 := wpOp_putIf hoj (hfree j oj hoj hji hjun hnot) (fun cs b => hsel i oi cs b hi) (fun cs b => hsel j oj cs b hoj) hQ hy h1
      refine wpOp_mono (fun a' w' h3 => ?_) h2
      have hS' : S w' := h3.2.1.resolve_left hjz
      refine ⟨.inr hS', ih (listed.setIfInBounds j true) a' w' (path_kept hr hj ps z hz) (fun k ok hk hki hun hno => ?_) (ready_mono hr (Ne.symm hji)) h3.1 hS' ?_⟩
      · refine hfree k ok hk hki ?_ hno
        by_cases hjk : j = k
        · subst hjk; exact hjun
        · rw [_root_.Go.getD_set_ne true hjk] at hun; exact hun
      · rw [Array.setIfInBounds_comm _ _ hji]
        exact h3.2.2
theorem AnyZ.takeP {i : Nat} {oi : Oper} {v : Value} {f : Nat} {listed : Array Bool} {a : Act} {w : World} (ps : List Nat) (hi : ops[i]? = some oi)
    (hs : (Region.noSelect ops && Region.free md ops listed i && (Region.ready md ops listed).contains i && pathB md ops listed i z ps) = true)
    (hQ : ∀ c a w, Q (.panic c) (a.put oi.dst v) w → Q (.panic c) a w) (hw : Region.wanted oi (yielded ops a.tmps) = true) (hS : S w) (hv : ∀ w, S w → (execOp a.eval oi).run P w = .ok (.value v) w)
    (h : AnyZ P md ops Q S z f (listed.setIfInBounds i true) (a.put oi.dst v) w) : AnyZ P md ops Q S z (f + 1) listed a w := by
  simp only [Bool.and_eq_true] at hs
  obtain ⟨⟨⟨h1, h2⟩, h3⟩, h4⟩ := hs
  exact AnyZ.firstP (ps := ps) hi (Region.noSelect_spec h1) hQ f listed a w h4 (Region.free_spec hi h2) (by simpa using h3) (.inl ⟨hw, hv⟩) hS h
/-- The one operation that may come up. -/
theorem AnyZ.one {i : Nat} {o : Oper} {f : Nat} {listed : Array Bool} {a : Act} {w : World} (ho : ops[i]? = some o) (hr : Region.ready md ops listed = [i]) (hg : o.guard = none)
    (h : ∀ K : Act → World → Prop, Hid (∀ a' w', (i = z ∨ S w') → AnyZ P md ops Q S z f (listed.setIfInBounds i true) a' w' → K a' w') → Oper.wp P o a w K Q) : AnyZ P md ops Q S z (f + 1) listed a w := by
  refine ⟨fun h0 => (by rw [hr] at h0; cases h0), fun j hj => ?_⟩
  rw [hr] at hj
  obtain rfl := List.mem_singleton.1 hj
  refine wpOp_step ho fun K hK => ?_
  rw [if_pos (by simp [Region.wanted, hg])]
  exact h K (Lib.hid fun a' w' h1 h2 => hK a' w' ⟨h1, h2⟩)
/-- One of two operations comes up. -/
theorem AnyZ.two {i j : Nat} {oi oj : Oper} {f : Nat} {listed : Array Bool} {a : Act} {w : World} (hi : ops[i]? = some oi) (hj : ops[j]? = some oj) (hr : Region.ready md ops listed = [i, j]) (hgi : oi.guard = none) (hgj : oj.guard = none)
    (h1 : ∀ K : Act → World → Prop, Hid (∀ a' w', (i = z ∨ S w') → AnyZ P md ops Q S z f (listed.setIfInBounds i true) a' w' → K a' w') → Oper.wp P oi a w K Q)
    (h2 : ∀ K : Act → World → Prop, Hid (∀ a' w', (j = z ∨ S w') → AnyZ P md ops Q S z f (listed.setIfInBounds j true) a' w' → K a' w') → Oper.wp P oj a w K Q) : AnyZ P md ops Q S z (f + 1) listed a w := by
  refine ⟨fun h0 => (by rw [hr] at h0; cases h0), fun k hk => ?_⟩
  rw [hr] at hk
  rcases List.mem_cons.1 hk with rfl | hk
  · refine wpOp_step hi fun K hK => ?_
    rw [if_pos (by simp [Region.wanted, hgi])]
    exact h1 K (Lib.hid fun a' w' h3 h4 => hK a' w' ⟨h3, h4⟩)
  · obtain rfl := List.mem_singleton.1 hk
    refine wpOp_step hj fun K hK => ?_
    rw [if_pos (by simp [Region.wanted, hgj])]
    exact h2 K (Lib.hid fun a' w' h3 h4 => hK a' w' ⟨h3, h4⟩)
theorem AnyZ.done {listed : Array Bool} {a : Act} {w : World} (hr : Region.ready md ops listed = []) (h : Q .normal a w) : ∀ f, AnyZ P md ops Q S z f listed a w
  | 0 => ⟨hr, h⟩
  | _ + 1 => ⟨fun _ => h, by rw [hr]; simp⟩
theorem AnyZ.start {id : Nat} {a : Act} {w : World} (z : Nat) (S : World → Prop) (hm : P.follows .mixedOrders = true) (h : AnyZ P .any ops Q S z ops.size (Array.replicate ops.size false) a w.drew) : (Code.region id ops true).wp P Q a w :=
  wp_region_any hm (AnyZ.any _ _ _ _ h)
end
end Go.Proofs.Ytmdajndmobpgbaa

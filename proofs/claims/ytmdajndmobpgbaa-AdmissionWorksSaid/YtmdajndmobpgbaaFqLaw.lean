/- What the statements of this layer share: the contracts of a queue that lies in blocks of its own, the numbers of errors, awake. Conditions: each contract names its own. -/
import Derived.Test.YtmdajndmobpgbaaFqPeek
import Derived.Test.YtmdajndmobpgbaaFqCancel
namespace Go.Proofs.Ytmdajndmobpgbaa
open Go.RowKit
open Go.Proofs.Ytmdajndmobpgbaa.Fq

theorem is3 (w : World) : Calls Try.prog 13 #[.iface 33 (.int .i64 3), .int .i64 3] w fun e w' => e = .returned (.bool true) ∧ w' = w := by
  go_enter Try.func13, Try.ntmps13
  go_wp2_with (go_at_call 23; refine (num_err 3 _).mono ?_; rintro e w' ⟨rfl, rfl⟩)
  go_ret
  exact ⟨rfl, rfl⟩
set_option maxRecDepth 100000 in
set_option maxHeartbeats 400000 in
theorem Clip_any (n lo hi : Int) (w : World) :
    Calls Try.prog 49 #[.int .i64 n, .int .i64 lo, .int .i64 hi] w fun e w' => e = .returned (.int .i64 (max lo (min n hi))) ∧ w' = w := by
  go_enter Try.func49, Try.ntmps49
  go_wp2
  go_ret
  exact ⟨rfl, rfl⟩

/-- The queue s lies at block b, all of it in blocks from B on. -/
def QB (w : World) (B b : Nat) (s : FQ) : Prop := ∃ bq cq bd cd xt bl vals, FqAt w b bq cq bd cd xt bl vals s ∧ ∀ k, Fp b bq bd bl vals k → B ≤ k
section
variable {w w' : World} {B b : Nat} {s s' : FQ}
theorem QB.lt (h : QB w B b s) : b < w.heap.size ∧ B ≤ b := by
  obtain ⟨bq, cq, bd, cd, xt, bl, vals, hA, hB⟩ := h
  exact ⟨has_lt hA.hb, hB b (.inl rfl)⟩
theorem QB.below (h : QB w B b s) (hb : Below w.heap.size w w') : QB w' B b s := by
  obtain ⟨bq, cq, bd, cd, xt, bl, vals, hA, hB⟩ := h
  exact ⟨bq, cq, bd, cd, xt, bl, vals, hA.belowS hb, hB⟩
theorem QB.mono {B' : Nat} (h : QB w B b s) (hB : B' ≤ B) : QB w B' b s := by
  obtain ⟨bq, cq, bd, cd, xt, bl, vals, hA, h⟩ := h
  exact ⟨bq, cq, bd, cd, xt, bl, vals, hA, fun k hk => Nat.le_trans hB (h k hk)⟩
theorem QB.of_upd {bq cq bd cd bl : Nat} {xt : List Value} {vals : List Value} (hB : ∀ k, Fp b bq bd bl vals k → B ≤ k) (hw : B ≤ w.heap.size) (h : Upd b bq cq bd cd xt bl vals s' w w') : QB w' B b s' ∧ Below B w w' := by
  obtain ⟨vals', hA, hf, ho⟩ := h
  exact ⟨⟨bq, cq, bd, cd, xt, bl, vals', hA, fun k hk => (hf k hk).elim (hB k) (fun h => Nat.le_trans hw h)⟩, ho.below hw hB⟩
theorem q_new {ao : Option Addr} {n c ba off : Nat} {Q : Nat → Int} (w : World) (h : IsInts w ao n ba off Q) (hn : newOk Q n) :
    Calls Try.prog 33 #[.slice ao n c] w fun e w' => ∃ b, e = .returned (.tuple #[.pointer (some ⟨b, 0, none⟩), .nilIface]) ∧ QB w' w.heap.size b (FQ.init Q n) ∧ Below w.heap.size w w' :=
  (new_ok w h hn).mono fun e w' ⟨b, bq, bd, bd', bl, he, hA, hb, h1, h2, h3, h4⟩ => ⟨b, he, ⟨_, _, _, _, _, _, _, hA, fun k hk => by
    rcases hk with rfl | rfl | rfl | rfl | ⟨t, ht⟩
    · exact h1
    · exact h2
    · exact h3
    · exact h4
    · have e : qv (List.replicate n nilS) t = nilS := by unfold qv; by_cases h : t < n <;> simp [List.getD, h]
      rw [e] at ht; simp [nilS, Value.ownBlock] at ht⟩, hb⟩
open Classical in
noncomputable def putE (s : FQ) (t id z : Int) : Int := if ¬ (0 ≤ t ∧ t < s.m) then 8 else if z < 1 ∨ 1048576 < z then 1 else if hasId s id then 4 else if 256 ≤ (s.lst t.toNat).length then 10 else 0
noncomputable def putS (s : FQ) (t id z : Int) : FQ := if putE s t id z = 0 then FQ.setL s t.toNat (s.lst t.toNat ++ [(id, z)]) else s
theorem putS_ok {t id z : Int} (h : putE s t id z = 0) : putS s t id z = FQ.setL s t.toNat (s.lst t.toNat ++ [(id, z)]) := if_pos h
theorem putS_bad {t id z : Int} (h : putE s t id z ≠ 0) : putS s t id z = s := if_neg h
theorem putE_ok {t id z : Int} (h : putE s t id z = 0) : (0 ≤ t ∧ t < s.m) ∧ (1 ≤ z ∧ z ≤ 1048576) ∧ ¬ hasId s id ∧ (s.lst t.toNat).length < 256 := by
  unfold putE at h
  split at h
  · omega
  · next h1 =>
    split at h
    · omega
    · next h2 =>
      split at h
      · omega
      · next h3 =>
        split at h
        · omega
        · next h4 => exact ⟨Classical.not_not.1 h1, by omega, h3, by omega⟩
theorem putE_of {t id z : Int} (h1 : 0 ≤ t ∧ t < s.m) (h2 : 1 ≤ z ∧ z ≤ 1048576) (h3 : ¬ hasId s id) (h4 : (s.lst t.toNat).length < 256) : putE s t id z = 0 := by
  unfold putE
  rw [if_neg (Classical.not_not.2 h1), if_neg (by omega), if_neg h3, if_neg (by omega)]
theorem q_put (t id z : Int) (w : World) (h : QB w B b s) (hw : B ≤ w.heap.size) (hm : s.m ≤ 16) (hsh : Short s) :
    Calls Try.prog 36 #[.pointer (some ⟨b, 0, none⟩), .int .i64 t, .int .i64 id, .int .i64 z] w fun e w' => e = .returned (errV (putE s t id z)) ∧ QB w' B b (putS s t id z) ∧ Below B w w' := by
  have bad : ∀ k, k ≠ 0 → putE s t id z = k → ∀ e w', PutBad k w e w' → e = .returned (errV (putE s t id z)) ∧ QB w' B b (putS s t id z) ∧ Below B w w' := fun k hk hp e w' ⟨he, hb⟩ => by
    rw [hp, putS_bad (by rw [hp]; exact hk), show errV k = _ from if_neg hk]
    exact ⟨he, h.below hb, hb.mono hw⟩
  obtain ⟨bq, cq, bd, cd, xt, bl, vals, hA, hB⟩ := h
  by_cases h1 : 0 ≤ t ∧ t < s.m
  · by_cases h2 : z < 1 ∨ 1048576 < z
    · exact (put_range t id z w hA h1.1 h1.2 h2).mono (bad 1 (by decide) (by unfold putE; rw [if_neg (Classical.not_not.2 h1), if_pos h2]))
    · by_cases h3 : hasId s id
      · exact (put_exists t id z w hA hm hsh h1.1 h1.2 (by omega) (by omega) h3).mono (bad 4 (by decide) (by unfold putE; rw [if_neg (Classical.not_not.2 h1), if_neg h2, if_pos h3]))
      · obtain ⟨k, rfl⟩ := Int.eq_ofNat_of_zero_le h1.1
        by_cases h4 : 256 ≤ (s.lst k).length
        · exact (put_full k id z w hA hm hsh (by omega) (by omega) (by omega) h3 h4).mono (bad 10 (by decide) (by unfold putE; rw [if_neg (Classical.not_not.2 h1), if_neg h2, if_neg h3, Int.toNat_natCast, if_pos h4]))
        · have hp : putE s (k : Int) id z = 0 := putE_of h1 (by omega) h3 (by simp; omega)
          refine (put_ok k id z w hA hm hsh (by omega) (by omega) (by omega) h3 (by omega)).mono ?_
          rintro e w' ⟨he, hu⟩
          rw [putS_ok hp, hp]
          obtain ⟨r1, r2⟩ := QB.of_upd hB hw hu
          exact ⟨he, r1, r2⟩
  · exact (put_name t id z w hA h1).mono (bad 8 (by decide) (by unfold putE; rw [if_pos h1]))
theorem q_next (w : World) (h : QB w B b s) (hw : B ≤ w.heap.size) (g : Gd s) {t0 : Nat} (ht0 : t0 < s.m) (hne : s.lst t0 ≠ []) :
    Calls Try.prog 45 #[.pointer (some ⟨b, 0, none⟩)] w fun e w' => ∃ s1 en r, Chs s s1 ∧ s1.lst s1.cur = en :: r ∧ e = .returned (.tuple #[.int .i64 s1.cur, .int .i64 en.1, .nilIface]) ∧ QB w' B b s1.pop ∧ Below B w w' := by
  obtain ⟨bq, cq, bd, cd, xt, bl, vals, hA, hB⟩ := h
  refine (next_some w hA g ht0 hne).mono ?_
  rintro e w' ⟨s1, en, r, v', hc, hl, he, hA', hv, ho⟩
  have hcur : s1.cur < vals.length := by
    have := (hc.gd g).1.cur
    have e : s1.m = s.m := by unfold FQ.m; rw [(hc.gd g).2.2.1]
    rw [hA.lv]; omega
  refine ⟨s1, en, r, hc, hl, he, ⟨bq, cq, bd, cd, xt, bl, _, hA', fun k hk => hB k ?_⟩, ho.below hw (fun k hk => hB k (by rcases hk with h | h | h; exact .inl h; exact .inr (.inr (.inl h)); exact .inr (.inr (.inr (.inl h)))))⟩
  rcases hk with h | h | h | h | ⟨t, h⟩
  · exact .inl h
  · exact .inr (.inl h)
  · exact .inr (.inr (.inl h))
  · exact .inr (.inr (.inr (.inl h)))
  · by_cases e : s1.cur = t
    · subst e; rw [qv_set_self hcur] at h; exact .inr (.inr (.inr (.inr ⟨s1.cur, hv k h⟩)))
    · rw [qv_set_ne e] at h; exact .inr (.inr (.inr (.inr ⟨t, h⟩)))
theorem q_next_none (w : World) (h : QB w B b s) (g : Gd s) (ha : anyB s = false) :
    Calls Try.prog 45 #[.pointer (some ⟨b, 0, none⟩)] w fun e w' => e = .returned (.tuple #[.int .i64 0, .int .i64 0, .iface 33 (.int .i64 3)]) ∧ ∃ n, w' = w.drewN n := by
  obtain ⟨bq, cq, bd, cd, xt, bl, vals, hA, hB⟩ := h
  exact next_none w hA g ha
theorem q_peek (w : World) (h : QB w B b s) (g : Gd s) {t0 : Nat} (ht0 : t0 < s.m) (hne : s.lst t0 ≠ []) :
    Calls Try.prog 42 #[.pointer (some ⟨b, 0, none⟩)] w (PeekSome s w) := by
  obtain ⟨bq, cq, bd, cd, xt, bl, vals, hA, hB⟩ := h
  exact peek_some w hA g ht0 hne
theorem q_peek_none (w : World) (h : QB w B b s) (g : Gd s) (ha : anyB s = false) :
    Calls Try.prog 42 #[.pointer (some ⟨b, 0, none⟩)] w (PeekNone w) := by
  obtain ⟨bq, cq, bd, cd, xt, bl, vals, hA, hB⟩ := h
  exact peek_none w hA g ha
def CanQ (B b : Nat) (s : FQ) (id : Int) (w : World) (e : Ending) (w' : World) : Prop :=
  (e = .returned (.bool false) ∧ ¬ hasId s id ∧ QB w' B b s ∧ Below B w w') ∨
  (e = .returned (.bool true) ∧ ∃ t i, FindR s id (some (t, i)) ∧ QB w' B b (FQ.setL s t ((s.lst t).eraseIdx i)) ∧ Below B w w')
theorem q_cancel (id : Int) (w : World) (h : QB w B b s) (hw : B ≤ w.heap.size) (hm : s.m ≤ 16) (hsh : Short s) :
    Calls Try.prog 41 #[.pointer (some ⟨b, 0, none⟩), .int .i64 id] w (CanQ B b s id w) := by
  have h' := h
  obtain ⟨bq, cq, bd, cd, xt, bl, vals, hA, hB⟩ := h
  refine (cancel_any id w hA hm hsh).mono ?_
  rintro e w' (⟨he, hn, hb⟩ | ⟨he, t, i, hf, hu⟩)
  · exact .inl ⟨he, hn, h'.below hb, hb.mono hw⟩
  · obtain ⟨r1, r2⟩ := QB.of_upd hB hw hu
    exact .inr ⟨he, t, i, hf, r1, r2⟩
theorem Fq.Gd.setL (g : Gd s) {t : Nat} {l : List Ent} (ht : t < s.m) (hl : ∀ e ∈ l, 1 ≤ e.2 ∧ e.2 ≤ 1048576) : Gd (FQ.setL s t l) := by
  have hm := setL_m s t l
  exact { m1 := by rw [hm]; exact g.m1, m2 := by rw [hm]; exact g.m2, lq := by rw [hm]; exact g.lq, ld := by rw [hm]; exact g.ld, cur := by rw [hm]; exact g.cur
          q1 := fun t' h => g.q1 t' (by rw [hm] at h; exact h)
          sz := fun t' h e he => by
            rw [hm] at h
            by_cases e1 : t = t'
            · subst e1; rw [setL_lst_self ht] at he; exact hl e he
            · rw [setL_lst_ne e1] at he; exact g.sz t' h e he
          d0 := fun t' h => g.d0 t' (by rw [hm] at h; exact h)
          d1 := fun t' h hc => g.d1 t' (by rw [hm] at h; exact h) hc
          d2 := g.d2 }
theorem Fq.Gd.putS (g : Gd s) (t id z : Int) : Gd (putS s t id z) := by
  by_cases h : putE s t id z = 0
  · rw [putS_ok h]
    obtain ⟨h1, h2, _, _⟩ := putE_ok h
    refine g.setL (by omega) (fun e he => ?_)
    rcases List.mem_append.1 he with he | he
    · exact g.sz t.toNat (by omega) e he
    · simp at he; subst he; exact h2
  · rw [putS_bad h]; exact g
theorem init_m (Q : Nat → Int) (n : Nat) : (FQ.init Q n).m = n := by show (List.replicate n []).length = n; simp
theorem init_lst (Q : Nat → Int) (n t : Nat) : (FQ.init Q n).lst t = [] := by unfold FQ.lst FQ.init; by_cases h : t < n <;> simp [List.getD, h]
theorem init_qn (Q : Nat → Int) (n t : Nat) (h : t < n) : (FQ.init Q n).qn t = Q t := by unfold FQ.qn FQ.init qList; simp [List.getD, h]
theorem init_df (Q : Nat → Int) (n t : Nat) : (FQ.init Q n).df t = 0 := by unfold FQ.df FQ.init; by_cases h : t < n <;> simp [List.getD, h]
theorem Fq.Gd.init {Q : Nat → Int} {n : Nat} (h : newOk Q n) : Gd (FQ.init Q n) := by
  have hm := init_m Q n
  exact { m1 := by rw [hm]; exact h.1, m2 := by rw [hm]; exact h.2.1, lq := by rw [hm]; exact qList_len Q n, ld := by rw [hm]; show (List.replicate n 0).length = n; simp
          cur := by rw [hm]; have := h.1; show 0 < n; omega
          q1 := fun t ht => by rw [hm] at ht; rw [init_qn _ _ _ ht]; exact h.2.2 t ht
          sz := fun t _ e he => by rw [init_lst] at he; cases he
          d0 := fun t _ => by rw [init_df]; omega
          d1 := fun t _ _ => by rw [init_df]; omega
          d2 := by rw [init_df]; omega }
end
end Go.Proofs.Ytmdajndmobpgbaa

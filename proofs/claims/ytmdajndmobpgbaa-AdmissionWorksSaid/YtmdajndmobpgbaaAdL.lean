/- admission: the calls keep the invariant; the calls as the statements see them. Conditions: each contract names its own. -/
import Derived.Test.YtmdajndmobpgbaaAdK
namespace Go.Proofs.Ytmdajndmobpgbaa
open Go.RowKit
open Go.Proofs.Ytmdajndmobpgbaa.Fq
open Go.Proofs.Ytmdajndmobpgbaa.Bk

section
variable {s : AS}
/-- A row is turned, in both queues. -/
theorem LOk.both (h : AOk s) {t : Nat} {l : List Ent} (ht : t < s.m) (hl : l.length ≤ 256) (hz : ∀ e ∈ l, 1 ≤ e.2 ∧ e.2 ≤ 1048576) (hn : (l.map Prod.fst).Nodup) (ho : ∀ t', t' < s.m → t ≠ t' → ∀ e ∈ l, ∀ e' ∈ s.q t', e.1 ≠ e'.1) (hr : ∀ e ∈ l, e.1 ∉ s.run) :
    AOk ((s.setF (FQ.setL s.f t l)).setQ t l) := by
  have htq : t < s.ql.length := by rw [h.lq]; exact ht
  have htf : t < s.f.m := by rw [h.lf]; exact ht
  have q1 : ((s.setF (FQ.setL s.f t l)).setQ t l).q t = l := AS.q_self (s := s.setF (FQ.setL s.f t l)) htq l
  have q2 : ∀ {t' : Nat}, t ≠ t' → ((s.setF (FQ.setL s.f t l)).setQ t l).q t' = s.q t' := fun hne => AS.q_ne (s := s.setF (FQ.setL s.f t l)) hne l
  exact { h with
    lq := by show (s.ql.set t l).length = _; rw [List.length_set]; exact h.lq
    lf := (setL_m _ _ _).trans h.lf
    g := h.g.setL htf hz
    len := fun t' ht' => by
      by_cases e : t = t'
      · subst e; rw [q1]; exact hl
      · rw [q2 e]; exact h.len t' ht'
    sz := fun t' ht' => by
      by_cases e : t = t'
      · subst e; rw [q1]; exact hz
      · rw [q2 e]; exact h.sz t' ht'
    u1 := fun t' ht' => by
      by_cases e : t = t'
      · subst e; rw [q1]; exact hn
      · rw [q2 e]; exact h.u1 t' ht'
    u2 := fun t1 t2 h1 h2 hne e1 he1 e2 he2 => by
      by_cases c1 : t = t1
      · subst c1
        rw [q1] at he1
        rw [q2 hne] at he2
        exact ho t2 h2 hne e1 he1 e2 he2
      · rw [q2 c1] at he1
        by_cases c2 : t = t2
        · subst c2
          rw [q1] at he2
          exact fun e => ho t1 h1 c1 e2 he2 e1 he1 e.symm
        · rw [q2 c2] at he2
          exact h.u2 t1 t2 h1 h2 hne e1 he1 e2 he2
    u3 := fun t' ht' => by
      by_cases e : t = t'
      · subst e; rw [q1]; exact hr
      · rw [q2 e]; exact h.u3 t' ht'
    am := fun t' ht' => by cases ht'
    fe := fun t' ht' _ => by
      by_cases e : t = t'
      · subst e; rw [q1]; exact setL_lst_self htf l
      · rw [q2 e]; exact (setL_lst_ne e l).trans (h.fe t' ht' (by simp)) }
theorem LOk.subS (h : AOk s) (t id c : Int) : AOk (subS s t id c) := by
  unfold Go.Proofs.Ytmdajndmobpgbaa.subS
  by_cases h0 : subE s t id c = 0
  · rw [if_pos h0]
    unfold subE at h0
    by_cases h1 : 0 ≤ t ∧ t < s.m
    · rw [if_neg (Classical.not_not.2 h1)] at h0
      by_cases h2 : c < 1 ∨ 1048576 < c
      · rw [if_pos h2] at h0; omega
      · rw [if_neg h2] at h0
        by_cases h3 : s.has id ∨ id ∈ s.run
        · rw [if_pos h3] at h0; omega
        · rw [if_neg h3] at h0
          by_cases h4 : 256 ≤ (s.q t.toNat).length
          · rw [if_pos h4] at h0; omega
          · have ht : t.toNat < s.m := by omega
            have hno : ∀ t', t' < s.m → ∀ e ∈ s.q t', e.1 ≠ id := fun t' ht' e he hi => h3 (.inl ⟨t', ht', e, he, hi⟩)
            refine h.both ht (by rw [List.length_append]; simp; omega) (fun e he => ?_) ?_ (fun t' ht' hne e he e' he' => ?_) (fun e he => ?_)
            · rcases List.mem_append.1 he with he | he
              · exact h.sz _ ht e he
              · rw [List.mem_singleton] at he; subst he; exact ⟨by show 1 ≤ c; omega, by show c ≤ _; omega⟩
            · rw [List.map_append]
              refine List.nodup_append.2 ⟨h.u1 _ ht, by simp, fun x hx y hy => ?_⟩
              obtain ⟨e, he, rfl⟩ := List.mem_map.1 hx
              simp at hy
              subst hy
              exact hno _ ht e he
            · rcases List.mem_append.1 he with he | he
              · exact h.u2 _ _ ht ht' hne e he e' he'
              · rw [List.mem_singleton] at he; subst he; exact fun e1 => hno t' ht' e' he' e1.symm
            · rcases List.mem_append.1 he with he | he
              · exact h.u3 _ ht e he
              · rw [List.mem_singleton] at he; subst he; exact fun hm => h3 (.inr hm)
    · rw [if_pos h1] at h0; omega
  · rw [if_neg h0]; exact h
theorem LOk.finS (h : AOk s) (id : Int) : AOk (finS s id) := by
  unfold Go.Proofs.Ytmdajndmobpgbaa.finS
  by_cases hm : id ∈ s.run
  · rw [if_pos hm]
    have hl : (s.run.erase id).length = s.run.length - 1 := List.length_erase_of_mem hm
    exact { h with
      u3 := fun t ht e he hx => h.u3 t ht e he (List.mem_of_mem_erase hx)
      u4 := h.u4.erase id
      rl := by have := h.rl; show ((s.run.erase id).length : Int) ≤ s.slots; omega
      am := fun t ht => by cases ht }
  · rw [if_neg hm]; exact h
theorem LOk.canS (h : AOk s) {t i : Nat} (ht : t < s.m) : AOk (canS s t i) := by
  have hsub : ((s.q t).eraseIdx i).Sublist (s.q t) := List.eraseIdx_sublist _ _
  exact h.both ht (Nat.le_trans hsub.length_le (h.len t ht)) (fun e he => h.sz t ht e (hsub.mem he)) ((hsub.map _).nodup (h.u1 t ht)) (fun t' ht' hne e he e' he' => h.u2 t t' ht ht' hne e (hsub.mem he) e' he') (fun e he => h.u3 t ht e (hsub.mem he))
theorem init_shr (sh : List Shr) (slots : Int) (t : Nat) : (AS.init sh slots).shr t = shD sh t := rfl
theorem init_ok {sh : List Shr} {slots : Int} (h : adOk sh slots) : AOk (AS.init sh slots) := by
  obtain ⟨h1, h2, h3, h4⟩ := h
  have hmem : ∀ t, t < sh.length → shD sh t ∈ sh := fun t ht => by rw [← shD_at ht]; exact List.getElem_mem _
  have hno : newOk (fun j => (shD sh j).q) sh.length := ⟨h3.1, h3.2, fun i hi => h4 _ (hmem i hi)⟩
  exact {
    lq := by show (List.replicate sh.length ([] : List Ent)).length = _; simp; rfl
    lk := by show (sh.map _).length = _; rw [List.length_map]; rfl
    lf := init_m _ _
    s1 := h1
    g := Gd.init hno
    qn := fun t ht => init_qn _ _ _ ht
    bok := fun t ht => by
      rw [init_bkt sh slots ht]
      obtain ⟨⟨b1, b2⟩, ⟨t1, t2⟩, ⟨k1, k2⟩⟩ := h2 _ (hmem t ht)
      exact BkOk.new b1 b2 t1 t2 k1 k2
    len := fun t ht => by rw [init_q]; simp
    sz := fun t ht e he => by rw [init_q] at he; cases he
    u1 := fun t ht => by rw [init_q]; simp
    u2 := fun t t' _ _ _ e he => by rw [init_q] at he; cases he
    u3 := fun t _ e he => by rw [init_q] at he; cases he
    u4 := List.nodup_nil
    rl := by show ((0 : Nat) : Int) ≤ slots; omega
    an := List.nodup_nil
    am := fun t ht => by cases ht
    fe := fun t _ _ => by rw [init_q]; exact init_lst _ _ _ }
end
/-- Blocks K are as they were. -/
def SameA (K : Nat → Prop) (w w' : World) : Prop := ∀ k, K k → w'.heap[k]? = w.heap[k]?
structure CA (w0 : World) (K : Nat → Prop) (b : Nat) (s : AS) (w : World) : Prop where
  at_ : ∃ m, AdAt w b m s ∧ ∀ k, Fa b m k → w0.heap.size ≤ k ∧ ¬ K k
  ok : AOk s
  be : Below w0.heap.size w0 w
  lt : ∀ k, K k → k < w.heap.size
def CAP (w0 : World) (K : Nat → Prop) (b : Nat) (s : AS) (v : Value) (w : World) (e : Ending) (w' : World) : Prop := e = .returned v ∧ CA w0 K b s w' ∧ SameA K w w'
section
variable {w0 w w1 w' : World} {K J : Nat → Prop} {b : Nat} {s s' : AS}
theorem CA.bel (h : CA w0 K b s w) (hb : Below w.heap.size w w') : CA w0 K b s w' := by
  obtain ⟨⟨m, hA, hF⟩, ho, hbe, hl⟩ := h
  exact ⟨⟨m, hA.belowS hb, hF⟩, ho, hbe.trans (hb.mono hbe.size), fun k hk => Nat.lt_of_lt_of_le (hl k hk) hb.size⟩
theorem CA.same (h : CA w0 K b s w) (hb : Below w.heap.size w w') : SameA K w w' := fun k hk => hb.block k (h.lt k hk)
theorem CA.less (h : CA w0 K b s w) (hJ : ∀ k, J k → K k) : CA w0 J b s w := by
  obtain ⟨⟨m, hA, hF⟩, ho, hbe, hl⟩ := h
  exact ⟨⟨m, hA, fun k hk => ⟨(hF k hk).1, fun hj => (hF k hk).2 (hJ k hj)⟩⟩, ho, hbe, fun k hk => hl k (hJ k hk)⟩
/-- New blocks are kept from here on. -/
theorem CA.add (h : CA w0 K b s w) (hb : Below w.heap.size w w') (hJ : ∀ k, J k → w.heap.size ≤ k ∧ k < w'.heap.size) : CA w0 (fun k => K k ∨ J k) b s w' := by
  have h' := h.bel hb
  obtain ⟨⟨m, hA, hF⟩, ho, hbe, hl⟩ := h
  exact ⟨⟨m, hA.belowS hb, fun k hk => ⟨(hF k hk).1, fun hj => hj.elim (hF k hk).2 fun hj => by have := hA.fa_lt k hk; have := (hJ k hj).1; omega⟩⟩, ho, h'.be, fun k hk => hk.elim (h'.lt k) fun hj => (hJ k hj).2⟩
/-- A block that is kept is written. -/
theorem CA.grown {r : Option Nat} (h : CA w0 K b s w) (hg : w.grownBy w' r) (hK : ∀ g, r = some g → K g ∧ w0.heap.size ≤ g) : CA w0 K b s w' := by
  obtain ⟨⟨m, hA, hF⟩, ho, hbe, hl⟩ := h
  exact ⟨⟨m, hA.same fun k hk => hg.block k (hA.fa_lt k hk) fun e => (hF k hk).2 (hK k e.symm).1, hF⟩, ho, hbe.grown hg hbe.size fun k hk => (hK k hk).2, fun k hk => Nat.lt_of_lt_of_le (hl k hk) hg.size⟩
theorem CA.step {m m' : AM} (h : CA w0 K b s w) (hF : ∀ k, Fa b m k → w0.heap.size ≤ k ∧ ¬ K k) (hA : AdAt w' b m' s') (hS : AStep b m w m' w') (ho : AOk s') : CA w0 K b s' w' ∧ SameA K w w' := by
  have hbe : Below w0.heap.size w0 w' := h.be.trans (hS.2.below h.be.size fun k hk => (hF k hk).1)
  refine ⟨⟨⟨m', hA, fun k hk => ?_⟩, ho, hbe, fun k hk => Nat.lt_of_lt_of_le (h.lt k hk) hS.2.size⟩, fun k hk => hS.2.block k (h.lt k hk) fun hf => (hF k hf).2 hk⟩
  rcases hS.1 k hk with h1 | h1
  · exact hF k h1
  · exact ⟨Nat.le_trans h.be.size h1, fun hK => by have := h.lt k hK; omega⟩
theorem c_new {v : Value} {sh : List Shr} {slots : Int} (h : IsS w v sh) (hn : sh.length ≤ 1000) (hqb : ∀ s ∈ sh, -9223372036854775808 ≤ s.q ∧ s.q ≤ 9223372036854775807) (ha : adOk sh slots) :
    Calls Try.prog 11 #[v, .int .i64 slots] w fun e w' => ∃ b, e = .returned (.tuple #[.pointer (some ⟨b, 0, none⟩), .nilIface]) ∧ CA w (fun _ => False) b (AS.init sh slots) w' :=
  (a_new h hn hqb slots).mono fun e w' he => by
    rcases he with ⟨_, b, m, he, hA, hF, hb⟩ | ⟨hno, _⟩
    · exact ⟨b, he, ⟨m, hA, fun k hk => ⟨hF k hk, fun f => f⟩⟩, init_ok ha, hb, fun _ f => f.elim⟩
    · exact absurd ha hno
theorem c_new_bad {v : Value} {sh : List Shr} {slots : Int} (h : IsS w v sh) (hn : sh.length ≤ 1000) (hqb : ∀ s ∈ sh, -9223372036854775808 ≤ s.q ∧ s.q ≤ 9223372036854775807) (ha : ¬ adOk sh slots) :
    Calls Try.prog 11 #[v, .int .i64 slots] w fun e w' => e = .returned (.tuple #[.pointer none, errV 1]) ∧ Below w.heap.size w w' :=
  (a_new h hn hqb slots).mono fun e w' he => by
    rcases he with ⟨hok, _⟩ | ⟨_, he, hb⟩
    · exact absurd hok ha
    · exact ⟨he, hb⟩
theorem c_submit (h : CA w0 K b s w) (now t id c : Int) : Calls Try.prog 12 #[.pointer (some ⟨b, 0, none⟩), .int .i64 now, .int .i64 t, .int .i64 id, .int .i64 c] w (CAP w0 K b (subS s t id c) (errV (subE s t id c)) w) := by
  obtain ⟨m, hA, hF⟩ := h.at_
  refine (a_submit now t id c hA h.ok).mono ?_
  rintro e w' ⟨he, m', hA', hS⟩
  exact ⟨he, h.step hF hA' hS (h.ok.subS t id c)⟩
theorem c_finish (h : CA w0 K b s w) (id : Int) : Calls Try.prog 14 #[.pointer (some ⟨b, 0, none⟩), .int .i64 id] w (CAP w0 K b (finS s id) (errV (finE s id)) w) := by
  obtain ⟨m, hA, hF⟩ := h.at_
  refine (a_finish id hA h.ok).mono ?_
  rintro e w' ⟨he, m', hA', hS⟩
  exact ⟨he, h.step hF hA' hS (h.ok.finS id)⟩
def CCan (w0 : World) (K : Nat → Prop) (b : Nat) (s : AS) (id : Int) (w : World) (e : Ending) (w' : World) : Prop :=
  (e = .returned (.bool false) ∧ ¬ s.has id ∧ CA w0 K b s w' ∧ SameA K w w') ∨ (e = .returned (.bool true) ∧ ∃ t i, AFind s id (some (t, i)) ∧ CA w0 K b (canS s t i) w' ∧ SameA K w w')
theorem c_cancel (h : CA w0 K b s w) (id : Int) : Calls Try.prog 15 #[.pointer (some ⟨b, 0, none⟩), .int .i64 id] w (CCan w0 K b s id w) := by
  obtain ⟨m, hA, hF⟩ := h.at_
  refine (a_cancel id hA h.ok).mono ?_
  rintro e w' (⟨he, hno, m', hA', hS⟩ | ⟨he, t, i, hf, m', hA', hS⟩)
  · exact .inl ⟨he, hno, h.step hF hA' hS h.ok⟩
  · exact .inr ⟨he, t, i, hf, h.step hF hA' hS (h.ok.canS hf.1)⟩
theorem c_when (h : CA w0 K b s w) (now : Int) : Calls Try.prog 19 #[.pointer (some ⟨b, 0, none⟩), .int .i64 now] w (CAP w0 K b s (whenV s now) w) := by
  obtain ⟨m, hA, hF⟩ := h.at_
  refine (awhen_any now hA h.ok).mono ?_
  rintro e w' ⟨he, n, rfl⟩
  exact ⟨he, h.bel (below_draw _ _ n), h.same (below_draw _ _ n)⟩
/-- A list of ids that a call gives. -/
def CIds (w0 : World) (K : Nat → Prop) (b : Nat) (s : AS) (l : List Int) (w : World) (e : Ending) (w' : World) : Prop :=
  ∃ v, e = .returned v ∧ IsI w' v l ∧ CA w0 (fun k => K k ∨ v.ownBlock = some k) b s w' ∧ SameA K w w'
theorem c_running (h : CA w0 K b s w) : Calls Try.prog 18 #[.pointer (some ⟨b, 0, none⟩)] w (CIds w0 K b s (sortI s.run) w) := by
  obtain ⟨m, hA, hF⟩ := h.at_
  refine (a_running hA h.ok).mono ?_
  rintro e w' ⟨v, he, hi, hn, hb⟩
  exact ⟨v, he, hi, h.add hb fun k hk => ⟨hn k hk, OL.lt hi k hk⟩, h.same hb⟩
theorem c_start (h : CA w0 K b s w) (now : Int) : Calls Try.prog 17 #[.pointer (some ⟨b, 0, none⟩), .int .i64 now] w fun e w' => ∃ s1 o a, SLoop now s [] [] s1 o a ∧ CIds w0 K b s1.back o w e w' := by
  obtain ⟨m, hA, hF⟩ := h.at_
  refine (a_start now hA h.ok).mono ?_
  rintro e w' ⟨s1, o, a, v, m', hl, he, hi, hA', hS, hn⟩
  obtain ⟨hC, hs⟩ := h.step hF hA' hS (hl.ok' h.ok).back
  have hsz := h.be.size
  refine ⟨s1, o, a, hl, v, he, hi, ⟨⟨m', hA', fun k hk => ?_⟩, hC.ok, hC.be, fun k hk => ?_⟩, hs⟩
  · have h1 : w0.heap.size ≤ k ∧ ¬ K k := by
      rcases hS.1 k hk with h1 | h1
      · exact hF k h1
      · exact ⟨Nat.le_trans h.be.size h1, fun hK => by have := h.lt k hK; omega⟩
    exact ⟨h1.1, fun hj => hj.elim h1.2 fun hj => (hn k hj).2 hk⟩
  · rcases hk with hk | hk
    · exact hC.lt k hk
    · exact OL.lt hi k hk
end
end Go.Proofs.Ytmdajndmobpgbaa

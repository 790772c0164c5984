/- admission: the calls keep the invariant; the calls as the statements see them. Conditions: each contract names its own. admission: the base's Ints; what Start does where one request waits, or none; awake. Conditions: each its own. Plain law of what starts: places ascend, prices keep within the bucket's windows. No program here. -/
import Derived.Test.YtmdajndmobpgbaaZAdK
namespace Go.Proofs.Ytmdajndmobpgbaa
open Go.RowKit
open Go.Proofs.Ytmdajndmobpgbaa.Fq
open Go.Proofs.Ytmdajndmobpgbaa.Bk

section
variable {s : AS}
/-- A row is turned, in both queues. -/
theorem LOk.both (h : AOk s) {t : Nat} {l : List Ent} (ht : t < s.m) (hl : l.length ≤ 256) (hz : ∀ e ∈ l, 1 ≤ e.2 ∧ e.2 ≤ 1048576) (hn : (l.map Prod.fst).Nodup) (ho : ∀ t', t' < s.m → t ≠ t' → ∀ e ∈ l, ∀ e' ∈ s.q t', e.1 ≠ e'.1) (hr : ∀ e ∈ l, e.1 ∉ s.run) :
    AOk ((s.setF (FQ.setL s.f t l)).setQ t l) := by
  have htq : t < s.ql.length := by rw [h.lq]; exact ht
  have htf : t < s.f.m := by rw [h.lf]; exact ht
  have q1 : ((s.setF (FQ.setL s.f t l)).setQ t l).q t = l := AS.q_self (s := s.setF (FQ.setL s.f t l)) htq l
  have q2 : ∀ {t' : Nat}, t ≠ t' → ((s.setF (FQ.setL s.f t l)).setQ t l).q t' = s.q t' := fun hne => AS.q_ne (s := s.setF (FQ.setL s.f t l)) hne l
  exact { h with
    lq := by show (s.ql.set t l).length = _; rw [List.length_set]; exact h.lq
    lf := (setL_m _ _ _).trans h.lf
    g := h.g.setL htf hz
    len := fun t' ht' => by
      by_cases e : t = t'
      · subst e; rw [q1]; exact hl
      · rw [q2 e]; exact h.len t' ht'
    sz := fun t' ht' => by
      by_cases e : t = t'
      · subst e; rw [q1]; exact hz
      · rw [q2 e]; exact h.sz t' ht'
    u1 := fun t' ht' => by
      by_cases e : t = t'
      · subst e; rw [q1]; exact hn
      · rw [q2 e]; exact h.u1 t' ht'
    u2 := fun t1 t2 h1 h2 hne e1 he1 e2 he2 => by
      by_cases c1 : t = t1
      · subst c1
        rw [q1] at he1
        rw [q2 hne] at he2
        exact ho t2 h2 hne e1 he1 e2 he2
      · rw [q2 c1] at he1
        by_cases c2 : t = t2
        · subst c2
          rw [q1] at he2
          exact fun e => ho t1 h1 c1 e2 he2 e1 he1 e.symm
        · rw [q2 c2] at he2
          exact h.u2 t1 t2 h1 h2 hne e1 he1 e2 he2
    u3 := fun t' ht' => by
      by_cases e : t = t'
      · subst e; rw [q1]; exact hr
      · rw [q2 e]; exact h.u3 t' ht'
    am := fun t' ht' => by cases ht'
    fe := fun t' ht' _ => by
      by_cases e : t = t'
      · subst e; rw [q1]; exact setL_lst_self htf l
      · rw [q2 e]; exact (setL_lst_ne e l).trans (h.fe t' ht' (by simp)) }
theorem LOk.subS (h : AOk s) (t id c : Int) : AOk (subS s t id c) := by
  unfold Go.Proofs.Ytmdajndmobpgbaa.subS
  by_cases h0 : subE s t id c = 0
  · rw [if_pos h0]
    unfold subE at h0
    by_cases h1 : 0 ≤ t ∧ t < s.m
    · rw [if_neg (Classical.not_not.2 h1)] at h0
      by_cases h2 : c < 1 ∨ 1048576 < c
      · rw [if_pos h2] at h0; omega
      · rw [if_neg h2] at h0
        by_cases h3 : s.has id ∨ id ∈ s.run
        · rw [if_pos h3] at h0; omega
        · rw [if_neg h3] at h0
          by_cases h4 : 256 ≤ (s.q t.toNat).length
          · rw [if_pos h4] at h0; omega
          · have ht : t.toNat < s.m := by omega
            have hno : ∀ t', t' < s.m → ∀ e ∈ s.q t', e.1 ≠ id := fun t' ht' e he hi => h3 (.inl ⟨t', ht', e, he, hi⟩)
            refine h.both ht (by rw [List.length_append]; simp; omega) (fun e he => ?_) ?_ (fun t' ht' hne e he e' he' => ?_) (fun e he => ?_)
            · rcases List.mem_append.1 he with he | he
              · exact h.sz _ ht e he
              · rw [List.mem_singleton] at he; subst he; exact ⟨by show 1 ≤ c; omega, by show c ≤ _; omega⟩
            · rw [List.map_append]
              refine List.nodup_append.2 ⟨h.u1 _ ht, by simp, fun x hx y hy => ?_⟩
              obtain ⟨e, he, rfl⟩ := List.mem_map.1 hx
              simp at hy
              subst hy
              exact hno _ ht e he
            · rcases List.mem_append.1 he with he | he
              · exact h.u2 _ _ ht ht' hne e he e' he'
              · rw [List.mem_singleton] at he; subst he; exact fun e1 => hno t' ht' e' he' e1.symm
            · rcases List.mem_append.1 he with he | he
              · exact h.u3 _ ht e he
              · rw [List.mem_singleton] at he; subst he; exact fun hm => h3 (.inr hm)
    · rw [if_pos h1] at h0; omega
  · rw [if_neg h0]; exact h
theorem LOk.finS (h : AOk s) (id : Int) : AOk (finS s id) := by
  unfold Go.Proofs.Ytmdajndmobpgbaa.finS
  by_cases hm : id ∈ s.run
  · rw [if_pos hm]
    have hl : (s.run.erase id).length = s.run.length - 1 := List.length_erase_of_mem hm
    exact { h with
      u3 := fun t ht e he hx => h.u3 t ht e he (List.mem_of_mem_erase hx)
      u4 := h.u4.erase id
      rl := by have := h.rl; show ((s.run.erase id).length : Int) ≤ s.slots; omega
      am := fun t ht => by cases ht }
  · rw [if_neg hm]; exact h
theorem LOk.canS (h : AOk s) {t i : Nat} (ht : t < s.m) : AOk (canS s t i) := by
  have hsub : ((s.q t).eraseIdx i).Sublist (s.q t) := List.eraseIdx_sublist _ _
  exact h.both ht (Nat.le_trans hsub.length_le (h.len t ht)) (fun e he => h.sz t ht e (hsub.mem he)) ((hsub.map _).nodup (h.u1 t ht)) (fun t' ht' hne e he e' he' => h.u2 t t' ht ht' hne e (hsub.mem he) e' he') (fun e he => h.u3 t ht e (hsub.mem he))
theorem init_shr (sh : List Shr) (slots : Int) (t : Nat) : (AS.init sh slots).shr t = shD sh t := rfl
theorem init_ok {sh : List Shr} {slots : Int} (h : adOk sh slots) : AOk (AS.init sh slots) := by
  obtain ⟨h1, h2, h3, h4⟩ := h
  have hmem : ∀ t, t < sh.length → shD sh t ∈ sh := fun t ht => by rw [← shD_at ht]; exact List.getElem_mem _
  have hno : newOk (fun j => (shD sh j).q) sh.length := ⟨h3.1, h3.2, fun i hi => h4 _ (hmem i hi)⟩
  exact {
    lq := by show (List.replicate sh.length ([] : List Ent)).length = _; simp; rfl
    lk := by show (sh.map _).length = _; rw [List.length_map]; rfl
    lf := init_m _ _
    s1 := h1
    g := Gd.init hno
    qn := fun t ht => init_qn _ _ _ ht
    bok := fun t ht => by
      rw [init_bkt sh slots ht]
      obtain ⟨⟨b1, b2⟩, ⟨t1, t2⟩, ⟨k1, k2⟩⟩ := h2 _ (hmem t ht)
      exact BkOk.new b1 b2 t1 t2 k1 k2
    len := fun t ht => by rw [init_q]; simp
    sz := fun t ht e he => by rw [init_q] at he; cases he
    u1 := fun t ht => by rw [init_q]; simp
    u2 := fun t t' _ _ _ e he => by rw [init_q] at he; cases he
    u3 := fun t _ e he => by rw [init_q] at he; cases he
    u4 := List.nodup_nil
    rl := by show ((0 : Nat) : Int) ≤ slots; omega
    an := List.nodup_nil
    am := fun t ht => by cases ht
    fe := fun t _ _ => by rw [init_q]; exact init_lst _ _ _ }
end
/-- Blocks K are as they were. -/
def SameA (K : Nat → Prop) (w w' : World) : Prop := ∀ k, K k → w'.heap[k]? = w.heap[k]?
structure CA (w0 : World) (K : Nat → Prop) (b : Nat) (s : AS) (w : World) : Prop where
  at_ : ∃ m, AdAt w b m s ∧ ∀ k, Fa b m k → w0.heap.size ≤ k ∧ ¬ K k
  ok : AOk s
  be : Below w0.heap.size w0 w
  lt : ∀ k, K k → k < w.heap.size
def CAP (w0 : World) (K : Nat → Prop) (b : Nat) (s : AS) (v : Value) (w : World) (e : Ending) (w' : World) : Prop := e = .returned v ∧ CA w0 K b s w' ∧ SameA K w w'
section
variable {w0 w w1 w' : World} {K J : Nat → Prop} {b : Nat} {s s' : AS}
theorem CA.bel (h : CA w0 K b s w) (hb : Below w.heap.size w w') : CA w0 K b s w' := by
  obtain ⟨⟨m, hA, hF⟩, ho, hbe, hl⟩ := h
  exact ⟨⟨m, hA.belowS hb, hF⟩, ho, hbe.trans (hb.mono hbe.size), fun k hk => Nat.lt_of_lt_of_le (hl k hk) hb.size⟩
theorem CA.same (h : CA w0 K b s w) (hb : Below w.heap.size w w') : SameA K w w' := fun k hk => hb.block k (h.lt k hk)
theorem CA.less (h : CA w0 K b s w) (hJ : ∀ k, J k → K k) : CA w0 J b s w := by
  obtain ⟨⟨m, hA, hF⟩, ho, hbe, hl⟩ := h
  exact ⟨⟨m, hA, fun k hk => ⟨(hF k hk).1, fun hj => (hF k hk).2 (hJ k hj)⟩⟩, ho, hbe, fun k hk => hl k (hJ k hk)⟩
/-- New blocks are kept from here on. -/
theorem CA.add (h : CA w0 K b s w) (hb : Below w.heap.size w w') (hJ : ∀ k, J k → w.heap.size ≤ k ∧ k < w'.heap.size) : CA w0 (fun k => K k ∨ J k) b s w' := by
  have h' := h.bel hb
  obtain ⟨⟨m, hA, hF⟩, ho, hbe, hl⟩ := h
  exact ⟨⟨m, hA.belowS hb, fun k hk => ⟨(hF k hk).1, fun hj => hj.elim (hF k hk).2 fun hj => by have := hA.fa_lt k hk; have := (hJ k hj).1; omega⟩⟩, ho, h'.be, fun k hk => hk.elim (h'.lt k) fun hj => (hJ k hj).2⟩
/-- A block that is kept is written. -/
theorem CA.grown {r : Option Nat} (h : CA w0 K b s w) (hg : w.grownBy w' r) (hK : ∀ g, r = some g → K g ∧ w0.heap.size ≤ g) : CA w0 K b s w' := by
  obtain ⟨⟨m, hA, hF⟩, ho, hbe, hl⟩ := h
  exact ⟨⟨m, hA.same fun k hk => hg.block k (hA.fa_lt k hk) fun e => (hF k hk).2 (hK k e.symm).1, hF⟩, ho, hbe.grown hg hbe.size fun k hk => (hK k hk).2, fun k hk => Nat.lt_of_lt_of_le (hl k hk) hg.size⟩
theorem CA.step {m m' : AM} (h : CA w0 K b s w) (hF : ∀ k, Fa b m k → w0.heap.size ≤ k ∧ ¬ K k) (hA : AdAt w' b m' s') (hS : AStep b m w m' w') (ho : AOk s') : CA w0 K b s' w' ∧ SameA K w w' := by
  have hbe : Below w0.heap.size w0 w' := h.be.trans (hS.2.below h.be.size fun k hk => (hF k hk).1)
  refine ⟨⟨⟨m', hA, fun k hk => ?_⟩, ho, hbe, fun k hk => Nat.lt_of_lt_of_le (h.lt k hk) hS.2.size⟩, fun k hk => hS.2.block k (h.lt k hk) fun hf => (hF k hf).2 hk⟩
  rcases hS.1 k hk with h1 | h1
  · exact hF k h1
  · exact ⟨Nat.le_trans h.be.size h1, fun hK => by have := h.lt k hK; omega⟩
theorem c_new {v : Value} {sh : List Shr} {slots : Int} (h : IsS w v sh) (hn : sh.length ≤ 1000) (hqb : ∀ s ∈ sh, -9223372036854775808 ≤ s.q ∧ s.q ≤ 9223372036854775807) (ha : adOk sh slots) :
    Calls Try.prog 11 #[v, .int .i64 slots] w fun e w' => ∃ b, e = .returned (.tuple #[.pointer (some ⟨b, 0, none⟩), .nilIface]) ∧ CA w (fun _ => False) b (AS.init sh slots) w' :=
  (a_new h hn hqb slots).mono fun e w' he => by
    rcases he with ⟨_, b, m, he, hA, hF, hb⟩ | ⟨hno, _⟩
    · exact ⟨b, he, ⟨m, hA, fun k hk => ⟨hF k hk, fun f => f⟩⟩, init_ok ha, hb, fun _ f => f.elim⟩
    · exact absurd ha hno
theorem c_new_bad {v : Value} {sh : List Shr} {slots : Int} (h : IsS w v sh) (hn : sh.length ≤ 1000) (hqb : ∀ s ∈ sh, -9223372036854775808 ≤ s.q ∧ s.q ≤ 9223372036854775807) (ha : ¬ adOk sh slots) :
    Calls Try.prog 11 #[v, .int .i64 slots] w fun e w' => e = .returned (.tuple #[.pointer none, errV 1]) ∧ Below w.heap.size w w' :=
  (a_new h hn hqb slots).mono fun e w' he => by
    rcases he with ⟨hok, _⟩ | ⟨_, he, hb⟩
    · exact absurd hok ha
    · exact ⟨he, hb⟩
theorem c_submit (h : CA w0 K b s w) (now t id c : Int) : Calls Try.prog 12 #[.pointer (some ⟨b, 0, none⟩), .int .i64 now, .int .i64 t, .int .i64 id, .int .i64 c] w (CAP w0 K b (subS s t id c) (errV (subE s t id c)) w) := by
  obtain ⟨m, hA, hF⟩ := h.at_
  refine (a_submit now t id c hA h.ok).mono ?_
  rintro e w' ⟨he, m', hA', hS⟩
  exact ⟨he, h.step hF hA' hS (h.ok.subS t id c)⟩
theorem c_finish (h : CA w0 K b s w) (id : Int) : Calls Try.prog 14 #[.pointer (some ⟨b, 0, none⟩), .int .i64 id] w (CAP w0 K b (finS s id) (errV (finE s id)) w) := by
  obtain ⟨m, hA, hF⟩ := h.at_
  refine (a_finish id hA h.ok).mono ?_
  rintro e w' ⟨he, m', hA', hS⟩
  exact ⟨he, h.step hF hA' hS (h.ok.finS id)⟩
def CCan (w0 : World) (K : Nat → Prop) (b : Nat) (s : AS) (id : Int) (w : World) (e : Ending) (w' : World) : Prop :=
  (e = .returned (.bool false) ∧ ¬ s.has id ∧ CA w0 K b s w' ∧ SameA K w w') ∨ (e = .returned (.bool true) ∧ ∃ t i, AFind s id (some (t, i)) ∧ CA w0 K b (canS s t i) w' ∧ SameA K w w')
theorem c_cancel (h : CA w0 K b s w) (id : Int) : Calls Try.prog 15 #[.pointer (some ⟨b, 0, none⟩), .int .i64 id] w (CCan w0 K b s id w) := by
  obtain ⟨m, hA, hF⟩ := h.at_
  refine (a_cancel id hA h.ok).mono ?_
  rintro e w' (⟨he, hno, m', hA', hS⟩ | ⟨he, t, i, hf, m', hA', hS⟩)
  · exact .inl ⟨he, hno, h.step hF hA' hS h.ok⟩
  · exact .inr ⟨he, t, i, hf, h.step hF hA' hS (h.ok.canS hf.1)⟩
theorem c_when (h : CA w0 K b s w) (now : Int) : Calls Try.prog 19 #[.pointer (some ⟨b, 0, none⟩), .int .i64 now] w (CAP w0 K b s (whenV s now) w) := by
  obtain ⟨m, hA, hF⟩ := h.at_
  refine (awhen_any now hA h.ok).mono ?_
  rintro e w' ⟨he, n, rfl⟩
  exact ⟨he, h.bel (below_draw _ _ n), h.same (below_draw _ _ n)⟩
/-- A list of ids that a call gives. -/
def CIds (w0 : World) (K : Nat → Prop) (b : Nat) (s : AS) (l : List Int) (w : World) (e : Ending) (w' : World) : Prop :=
  ∃ v, e = .returned v ∧ IsI w' v l ∧ CA w0 (fun k => K k ∨ v.ownBlock = some k) b s w' ∧ SameA K w w'
theorem c_running (h : CA w0 K b s w) : Calls Try.prog 18 #[.pointer (some ⟨b, 0, none⟩)] w (CIds w0 K b s (sortI s.run) w) := by
  obtain ⟨m, hA, hF⟩ := h.at_
  refine (a_running hA h.ok).mono ?_
  rintro e w' ⟨v, he, hi, hn, hb⟩
  exact ⟨v, he, hi, h.add hb fun k hk => ⟨hn k hk, OL.lt hi k hk⟩, h.same hb⟩
theorem c_start (h : CA w0 K b s w) (now : Int) : Calls Try.prog 17 #[.pointer (some ⟨b, 0, none⟩), .int .i64 now] w fun e w' => ∃ s1 o a, SLoop now s [] [] s1 o a ∧ CIds w0 K b s1.back o w e w' := by
  obtain ⟨m, hA, hF⟩ := h.at_
  refine (a_start now hA h.ok).mono ?_
  rintro e w' ⟨s1, o, a, v, m', hl, he, hi, hA', hS, hn⟩
  obtain ⟨hC, hs⟩ := h.step hF hA' hS (hl.ok' h.ok).back
  have hsz := h.be.size
  refine ⟨s1, o, a, hl, v, he, hi, ⟨⟨m', hA', fun k hk => ?_⟩, hC.ok, hC.be, fun k hk => ?_⟩, hs⟩
  · have h1 : w0.heap.size ≤ k ∧ ¬ K k := by
      rcases hS.1 k hk with h1 | h1
      · exact hF k h1
      · exact ⟨Nat.le_trans h.be.size h1, fun hK => by have := h.lt k hK; omega⟩
    exact ⟨h1.1, fun hj => hj.elim h1.2 fun hj => (hn k hj).2 hk⟩
  · rcases hk with hk | hk
    · exact hC.lt k hk
    · exact OL.lt hi k hk
end
end Go.Proofs.Ytmdajndmobpgbaa

namespace Go.Proofs.Ytmdajndmobpgbaa
open Go.RowKit
open Go.Proofs.Ytmdajndmobpgbaa.Fq
open Go.Proofs.Ytmdajndmobpgbaa.Bk

theorem list_ext_getD {α : Type} {d : α} {a b : List α} (hl : a.length = b.length) (h : ∀ i, i < a.length → a.getD i d = b.getD i d) : a = b := by
  apply List.ext_getElem hl
  intro i h1 h2
  have := h i h1
  simpa [List.getD, h1, h2] using this
section
variable {w w' : World}
set_option maxRecDepth 100000 in
set_option maxHeartbeats 800000 in
theorem ints_any {va vb : Value} {a b : List Int} (ha : IsI w va a) (hb : IsI w vb b) : Calls Try.prog 16 #[va, vb] w fun e w' => ∃ x, e = .returned (.bool x) ∧ (x = true ↔ a = b) ∧ Below w.heap.size w w' := by
  obtain ⟨aoa, capa, rfl, hao, _⟩ := ha.form
  obtain ⟨aob, capb, rfl, hbo, _⟩ := hb.form
  have HA := Lib.hid (And.intro ha hao)
  have HB := Lib.hid (And.intro hb hbo)
  clear ha hb hao hbo
  go_enter Try.func16, Try.ntmps16
  by_cases hl : a.length = b.length
  · have hli : (a.length : Int) = (b.length : Int) := by omega
    have HB : Hid (OL w 3 1 (.slice aob a.length capb) a.length (ints b) ∧ _) := Lib.hid (And.intro (by have h := HB.out.1; unfold IsI at h; rw [← hl] at h; exact h) HB.out.2)
    rw [← hl] at HB
    go_wp2_with fail
    go_loopw [13] (fun i wr => ∃ j : Nat, j ≤ a.length ∧ i = .int .i64 j ∧ (∀ i, i < j → a.getD i 0 = b.getD i 0) ∧ Below w.heap.size w wr) (fun i _ => a.length - (intOf i).toNat)
    case atStart => exact ⟨0, Nat.zero_le _, rfl, fun i hi => by omega, Below.refl _ _⟩
    case round =>
      obtain ⟨j, hk, rfl, hF, hB⟩ := hrel
      have HF := Lib.hid hF
      clear hF
      by_cases hlt : j < a.length
      · obtain ⟨ga, offa, rfl, _⟩ := HA.out.2 (by omega)
        obtain ⟨gb, offb, rfl, _⟩ := HB.out.2 (by omega)
        have hoa : OL wr 3 1 (.slice (some ⟨ga, offa, none⟩) a.length capa) a.length (ints a) := OL.below HA.out.1 hB (fun g hg => OL.lt HA.out.1 g hg)
        have hob : OL wr 3 1 (.slice (some ⟨gb, offb, none⟩) a.length capb) a.length (ints b) := OL.below HB.out.1 hB (fun g hg => OL.lt HB.out.1 g hg)
        have a0 := (hoa.cell j (by omega)).trans (ints_get a j hlt)
        have b0 := (hob.cell j (by omega)).trans (ints_get b j (by omega))
        have HN := Lib.hid (fun (h : a.getD j 0 = b.getD j 0) (i : Nat) (hi : i < j + 1) => show a.getD i 0 = b.getD i 0 from by
          by_cases e : i = j
          · rw [e]; exact h
          · exact HF.out i (by omega))
        have HO := Lib.hid (fun (h : a.getD j 0 ≠ b.getD j 0) (e : a = b) => h (by rw [e]))
        clear hoa hob
        generalize a.getD j 0 = x at a0 HN HO
        generalize b.getD j 0 = y at b0 HN HO
        by_cases hc : ¬ x = y
        · have HO2 := Lib.hid (HO.out hc)
          have d0 : (x == y) = false := by rw [beq_eq_false_iff_ne]; exact hc
          go_wp2_with fail
          go_quiet (fail)
          go_wp2
          go_ret
          exact ⟨false, rfl, ⟨fun h => (by cases h), fun h => absurd h HO2.out⟩, ⟨hB.os, hB.tape, hB.output, hB.size, hB.block⟩⟩
        · have hc := Classical.not_not.1 hc
          have HN2 := Lib.hid (HN.out hc)
          have d0 : (x == y) = true := by rw [beq_iff_eq]; exact hc
          clear hc
          go_wp2_with fail
          go_quiet (fail)
          go_wp2
          go_roundw
          case rel => exact ⟨j + 1, by omega, by go_num, HN2.out, ⟨hB.os, hB.tape, hB.output, hB.size, hB.block⟩⟩
          case measure => simp [intOf]; omega
      · obtain rfl : j = a.length := by omega
        go_wp2
        go_ret
        exact ⟨true, rfl, ⟨fun _ => list_ext_getD hl HF.out, fun _ => rfl⟩, hB⟩
  · have hli : (a.length : Int) ≠ (b.length : Int) := by omega
    go_wp2
    go_ret
    exact ⟨false, rfl, ⟨fun h => (by cases h), fun h => absurd (congrArg List.length h) hl⟩, Below.refl _ _⟩
theorem ints_same {va vb : Value} {a : List Int} (ha : IsI w va a) (hb : IsI w vb a) : Calls Try.prog 16 #[va, vb] w fun e w' => e = .returned (.bool true) ∧ Below w.heap.size w w' :=
  (ints_any ha hb).mono fun _ _ ⟨x, he, hx, hb⟩ => ⟨by rw [he, hx.2 rfl], hb⟩
end
section
variable {s s1 : AS} {now : Int} {o : List Int} {a : List Nat}
theorem anyB_q (ok : AOk s) : anyB s.f = true ↔ ∃ t, t < s.m ∧ s.q t ≠ [] := by
  constructor
  · intro h
    obtain ⟨t, ht, hne⟩ := anyB_ex h
    rw [ok.lf] at ht
    exact ⟨t, ht, by rw [← ok.fe t ht (by simp)]; exact hne⟩
  · rintro ⟨t, ht, hne⟩
    exact anyB_true (by rw [ok.lf]; exact ht) (by rw [ok.fe t ht (by simp)]; exact hne)
/-- Nothing waits. -/
theorem SLoop.idle {o' : List Int} {a' : List Nat} (h : SLoop now s o a s1 o' a') (hz : ∀ t, t < s.f.m → s.f.lst t = []) (g : Gd s.f) : s1 = s ∧ o' = o ∧ a' = a := by
  cases h with
  | full _ _ _ _ => exact ⟨rfl, rfl, rfl⟩
  | none _ _ _ _ _ => exact ⟨rfl, rfl, rfl⟩
  | fail _ _ _ f1 en r _ _ _ _ hc hl _ _ =>
    obtain ⟨g1, _, hls, _, _⟩ := hc.gd g
    have := hz f1.cur (by have := g1.cur; unfold FQ.m at this ⊢; rw [hls] at this; exact this)
    unfold FQ.lst at this hl
    rw [hls, this] at hl; cases hl
  | ok _ _ _ f1 en r _ _ _ _ hc hl _ _ =>
    obtain ⟨g1, _, hls, _, _⟩ := hc.gd g
    have := hz f1.cur (by have := g1.cur; unfold FQ.m at this ⊢; rw [hls] at this; exact this)
    unfold FQ.lst at this hl
    rw [hls, this] at hl; cases hl
theorem SLoop.idle0 (h : SLoop now s [] [] s1 o a) (ok : AOk s) (hz : ∀ t, t < s.m → s.q t = []) : s1 = s ∧ o = [] := by
  obtain ⟨h1, h2, _⟩ := h.idle (fun t ht => by rw [ok.lf] at ht; rw [ok.fe t ht (by simp)]; exact hz t ht) ok.g
  exact ⟨h1, h2⟩
theorem pop_lst' {f1 : FQ} {en : Ent} {r : List Ent} (hc : f1.cur < f1.m) (hl : f1.lst f1.cur = en :: r) (t : Nat) : f1.pop.lst t = if t = f1.cur then r else f1.lst t := by
  rw [pop_eq hl]
  by_cases e : t = f1.cur
  · subst e
    rw [if_pos rfl]
    exact Fq.getD_set_self (show f1.cur < f1.lists.length from hc)
  · rw [if_neg e]
    exact Fq.getD_set_ne (fun h => e h.symm)
/-- One request waits, and its tokens are there. -/
theorem SLoop.single (h : SLoop now s [] [] s1 o a) (ok : AOk s) (hr : (s.run.length : Int) < s.slots) {t : Nat} {en : Ent} (ht : t < s.m) (hq : s.q t = [en]) (hz : ∀ t', t' < s.m → t' ≠ t → s.q t' = []) (htk : s.takes t now = true) :
    ∃ f1, Chs s.f f1 ∧ f1.cur = t ∧ f1.lst f1.cur = [en] ∧ s1 = s.began f1 now en.1 ∧ o = [en.1] := by
  have key : ∀ {f1 : FQ} {en' : Ent} {r : List Ent}, Chs s.f f1 → f1.lst f1.cur = en' :: r → f1.cur = t ∧ en' = en ∧ r = [] := fun {f1 en' r} hc hl => by
    obtain ⟨h1, _, h3, _⟩ := ok.cur hc hl
    have e : f1.cur = t := Classical.byContradiction fun hne => by rw [hz _ h1 hne] at h3; cases h3
    rw [e, hq] at h3
    simp only [List.cons.injEq] at h3
    exact ⟨e, h3.1.symm, h3.2.symm⟩
  cases h with
  | full _ _ _ hn => exact absurd hr hn
  | none _ _ _ _ hn =>
    have := (anyB_q ok).2 ⟨t, ht, by rw [hq]; simp⟩
    rw [this] at hn; cases hn
  | fail _ _ _ f1 en' r _ _ _ _ hc hl hf _ =>
    obtain ⟨e, _, _⟩ := key hc hl
    rw [e, htk] at hf; cases hf
  | ok _ _ _ f1 en' r _ _ _ _ hc hl _ h2 =>
    obtain ⟨e, rfl, rfl⟩ := key hc hl
    obtain ⟨g1, hst, hls, _, hbg⟩ := hc.gd ok.g
    have hmf : f1.m = s.f.m := by unfold FQ.m; rw [hls]
    have hcf : f1.cur < f1.m := g1.cur
    have hz2 : ∀ t', t' < f1.pop.m → f1.pop.lst t' = [] := fun t' ht' => by
      rw [pop_lst' hcf hl]
      by_cases e1 : t' = f1.cur
      · rw [if_pos e1]
      · rw [if_neg e1]
        rw [pop_m, hmf, ok.lf] at ht'
        have : f1.lst t' = s.f.lst t' := by unfold FQ.lst; rw [hls]
        rw [this, ok.fe t' ht' (by simp)]
        exact hz t' ht' (by rw [← e]; exact e1)
    obtain ⟨h3, h4, _⟩ := h2.idle hz2 (g1.pop hst hbg)
    exact ⟨f1, hc, e, hl, h3, h4⟩
/-- The state behind it. -/
theorem began_st {f1 : FQ} {t : Nat} {en : Ent} (ok : AOk s) (hc : Chs s.f f1) (e : f1.cur = t) (ht : t < s.m) (hq : s.q t = [en]) (hz : ∀ t', t' < s.m → t' ≠ t → s.q t' = []) :
    (s.began f1 now en.1).back.run = s.run ++ [en.1] ∧ (∀ t', t' < s.m → (s.began f1 now en.1).back.q t' = []) ∧ (s.began f1 now en.1).back.bk = (s.took t now).bk ∧ (s.began f1 now en.1).back.sh = s.sh ∧ (s.began f1 now en.1).back.slots = s.slots := by
  refine ⟨rfl, fun t' ht' => ?_, by subst e; rfl, rfl, rfl⟩
  have hql : f1.cur < s.ql.length := by rw [ok.lq, e]; exact ht
  show (s.ql.set f1.cur (s.q f1.cur).tail).getD t' [] = []
  by_cases e1 : f1.cur = t'
  · subst e1
    rw [getD_set_self hql, e, hq]
    rfl
  · rw [getD_set_ne e1]
    exact hz t' ht' (by rw [← e]; exact Ne.symm e1)
end
end Go.Proofs.Ytmdajndmobpgbaa

namespace Go.Proofs.Ytmdajndmobpgbaa
open Go.Proofs.Ytmdajndmobpgbaa.Fq
open Go.Proofs.Ytmdajndmobpgbaa.Bk

/-- A request that started: tenant, price, reading, place. -/
structure Bg where
  t : Int
  p : Int
  at_ : Int
  pl : Int
def bg0 : Bg := ⟨0, 0, 0, 0⟩
def bgAt (l : List Bg) (i : Nat) : Bg := l.getD i bg0
/-- The prices of a tenant. -/
def sumB (t : Int) : List Bg → Int
  | [] => 0
  | b :: l => (if b.t = t then b.p else 0) + sumB t l
theorem sumB_append (t : Int) : ∀ l l' : List Bg, sumB t (l ++ l') = sumB t l + sumB t l'
  | [], l' => by simp [sumB]
  | b :: l, l' => by
    show (if b.t = t then b.p else 0) + sumB t (l ++ l') = (if b.t = t then b.p else 0) + sumB t l + sumB t l'
    rw [sumB_append t l l']; omega
theorem sumB_one (b : Bg) (t : Int) : sumB t [b] = if b.t = t then b.p else 0 := by simp [sumB]
theorem sumB_pos {t : Int} : ∀ {l : List Bg}, (∀ b ∈ l, 0 ≤ b.p) → 0 ≤ sumB t l
  | [], _ => by simp [sumB]
  | b :: l, h => by
    have h1 := h b (by simp)
    have h2 := sumB_pos (t := t) (l := l) fun x hx => h x (by simp [hx])
    show 0 ≤ (if b.t = t then b.p else 0) + sumB t l
    split <;> omega
theorem bgAt_lt {l : List Bg} {b : Bg} {i : Nat} (h : i < l.length) : bgAt (l ++ [b]) i = bgAt l i := by
  simp [bgAt, List.getD, List.getElem?_append_left h]
theorem bgAt_eq {l : List Bg} {b : Bg} : bgAt (l ++ [b]) l.length = b := by simp [bgAt, List.getD]
theorem bgAt_mem {l : List Bg} {i : Nat} (h : i < l.length) : bgAt l i ∈ l := by
  have : bgAt l i = l[i] := by simp [bgAt, List.getD, h]
  rw [this]; exact List.getElem_mem h
/-- What is left in the tenant's bucket (P parts, last reading L) and what started since the i-th is at most what the bucket gives. -/
def PotB (t : Int) (B T K P L : Int) (l : List Bg) : Prop := ∀ i, i < l.length → (bgAt l i).t = t → sumB t (l.drop i) * K + P ≤ B * K + (L - (bgAt l i).at_) * T
def WinB (t : Int) (B T K : Int) (l : List Bg) : Prop :=
  ∀ i k, i ≤ k → k < l.length → (bgAt l i).t = t → (bgAt l k).t = t → (sumB t ((l.take (k + 1)).drop i) - B) * K ≤ ((bgAt l k).at_ - (bgAt l i).at_) * T
section
variable {t B T K P L P' L' : Int} {l : List Bg} {b : Bg}
theorem PotB.wait (h : PotB t B T K P L l) (hp : P' ≤ P + (L' - L) * T) : PotB t B T K P' L' l := fun i hi ht => by
  have h1 := h i hi ht
  have e : (L' - (bgAt l i).at_) * T = (L - (bgAt l i).at_) * T + (L' - L) * T := by rw [← Int.add_mul]; congr 1; omega
  rw [e]; omega
theorem PotB.other (h : PotB t B T K P L l) (hb : b.t ≠ t) : PotB t B T K P L (l ++ [b]) := fun i hi ht => by
  rw [List.length_append, List.length_singleton] at hi
  by_cases hlt : i < l.length
  · rw [bgAt_lt hlt] at ht ⊢
    rw [List.drop_append_of_le_length (by omega), sumB_append, sumB_one, if_neg hb, Int.add_zero]
    exact h i hlt ht
  · obtain rfl : i = l.length := by omega
    rw [bgAt_eq] at ht
    exact absurd ht hb
theorem PotB.took (h : PotB t B T K (P + b.p * K) L l) (hb : b.t = t) (ha : b.at_ = L) (hf : P + b.p * K ≤ B * K) : PotB t B T K P L (l ++ [b]) := fun i hi ht => by
  rw [List.length_append, List.length_singleton] at hi
  by_cases hlt : i < l.length
  · rw [bgAt_lt hlt] at ht ⊢
    rw [List.drop_append_of_le_length (by omega), sumB_append, sumB_one, if_pos hb, Int.add_mul]
    have := h i hlt ht
    omega
  · obtain rfl : i = l.length := by omega
    rw [bgAt_eq, List.drop_left, sumB_one, if_pos hb, ha, Int.sub_self, Int.zero_mul]
    omega
theorem WinB.other (h : WinB t B T K l) (hb : b.t ≠ t) : WinB t B T K (l ++ [b]) := fun i k hik hk hi ht => by
  rw [List.length_append, List.length_singleton] at hk
  by_cases hlt : k < l.length
  · rw [bgAt_lt hlt] at ht ⊢
    rw [bgAt_lt (by omega : i < l.length)] at hi ⊢
    rw [List.take_append_of_le_length (by omega)]
    exact h i k hik hlt hi ht
  · obtain rfl : k = l.length := by omega
    rw [bgAt_eq] at ht
    exact absurd ht hb
theorem WinB.took (h : WinB t B T K l) (hp : PotB t B T K P L (l ++ [b])) (h0 : 0 ≤ P) (ha : b.at_ = L) : WinB t B T K (l ++ [b]) := fun i k hik hk hi ht => by
  have hk' := hk
  rw [List.length_append, List.length_singleton] at hk
  by_cases hlt : k < l.length
  · rw [bgAt_lt hlt] at ht ⊢
    rw [bgAt_lt (by omega : i < l.length)] at hi ⊢
    rw [List.take_append_of_le_length (by omega)]
    exact h i k hik hlt hi ht
  · obtain rfl : k = l.length := by omega
    have h1 := hp i (by omega) hi
    rw [List.take_of_length_le (by rw [List.length_append, List.length_singleton]; omega), Int.sub_mul]
    rw [bgAt_eq, ha]
    omega
theorem atP_le {now : Int} (g : BkOk B T K P L) (hL : L ≤ now) (h1 : now ≤ 1099511627776) : atL L now = now ∧ atP B T K P L now ≤ P + (now - L) * T ∧ atP B T K P L now ≤ B * K := by
  have h0 := g.l1
  have e : atL L now = now := by unfold atL; rw [clipT_in (by omega) h1]; omega
  refine ⟨e, ?_, (atP_bd g).2.2⟩
  rw [atP_eq g, e]
  omega
end
/-- What is known of the requests: kn their tenant, price and place, out what started. n is the number of calls so far. -/
structure RI (s : AS) (now : Int) (n : Nat) (kn : Int → Option Bg) (out : List Bg) : Prop where
  n0 : 0 ≤ now
  L : ∀ t, t < s.m → (s.bkt t).2 ≤ now
  kq : ∀ t, t < s.m → ∀ e ∈ s.q t, ∃ b, kn e.1 = some b ∧ b.t = t ∧ b.p = min e.2 (s.shr t).b ∧ 0 ≤ b.pl ∧ b.pl < n
  qo : ∀ t, t < s.m → (s.q t).Pairwise fun e e' => ∀ b b', kn e.1 = some b → kn e'.1 = some b' → b.pl < b'.pl
  ob : ∀ b ∈ out, (∃ t : Nat, b.t = t ∧ t < s.m) ∧ 1 ≤ b.p ∧ b.p ≤ 1048576 ∧ 0 ≤ b.at_ ∧ b.at_ ≤ now ∧ 0 ≤ b.pl ∧ b.pl < n
  oq : ∀ t, t < s.m → ∀ b ∈ out, b.t = t → ∀ e ∈ s.q t, ∀ b', kn e.1 = some b' → b.pl < b'.pl
  oo : out.Pairwise fun b b' => b.t = b'.t → b.pl < b'.pl
  pot : ∀ t, t < s.m → PotB t (s.shr t).b (s.shr t).t (s.shr t).k (s.bkt t).1 (s.bkt t).2 out
  win : ∀ t, t < s.m → WinB t (s.shr t).b (s.shr t).t (s.shr t).k out
/-- What a started request is listed as. -/
def stB (kn : Int → Option Bg) (now id : Int) : Bg := { (kn id).getD bg0 with at_ := now }
section
variable {s s' : AS} {now : Int} {n : Nat} {kn : Int → Option Bg} {out : List Bg} {a : List Nat} {f1 : FQ} {en : Ent} {r : List Ent}
theorem RI.init {sh : List Shr} {slots : Int} : RI (AS.init sh slots) 0 0 (fun _ => none) [] where
  n0 := Int.le_refl _
  L := fun t ht => by rw [init_bkt sh slots ht]; exact Int.le_refl _
  kq := fun t ht e he => by rw [init_q] at he; cases he
  qo := fun t ht => by rw [init_q]; exact List.Pairwise.nil
  ob := fun b hb => by cases hb
  oq := fun t ht b hb => by cases hb
  oo := List.Pairwise.nil
  pot := fun t ht i hi => by simp at hi
  win := fun t ht i k hik hk => by simp at hk
/-- Time goes on, and calls. -/
theorem RI.on (h : RI s now n kn out) {now' : Int} {n' : Nat} (h1 : now ≤ now') (h2 : n ≤ n') : RI s now' n' kn out :=
  { h with
    n0 := by have := h.n0; omega
    L := fun t ht => by have := h.L t ht; omega
    kq := fun t ht e he => by obtain ⟨b, q1, q2, q3, q4, q5⟩ := h.kq t ht e he; exact ⟨b, q1, q2, q3, q4, by omega⟩
    ob := fun b hb => by obtain ⟨q1, q2, q3, q4, q5, q6, q7⟩ := h.ob b hb; exact ⟨q1, q2, q3, q4, by omega, q6, by omega⟩ }
/-- Requests left the queues. -/
theorem RI.less (h : RI s now n kn out) (hs : s'.sh = s.sh) (hb : s'.bk = s.bk) (hq : ∀ t, (s'.q t).Sublist (s.q t)) : RI s' now n kn out := by
  have em : s'.m = s.m := by unfold AS.m; rw [hs]
  have es : ∀ t, s'.shr t = s.shr t := fun t => by unfold AS.shr; rw [hs]
  have eb : ∀ t, s'.bkt t = s.bkt t := fun t => by unfold AS.bkt; rw [hb]
  exact {
    n0 := h.n0
    L := fun t ht => by rw [eb]; exact h.L t (em ▸ ht)
    kq := fun t ht e he => by rw [es]; exact h.kq t (em ▸ ht) e ((hq t).mem he)
    qo := fun t ht => (h.qo t (em ▸ ht)).sublist (hq t)
    ob := fun b hb => by rw [em]; exact h.ob b hb
    oq := fun t ht b hb he e hq' => h.oq t (em ▸ ht) b hb he e ((hq t).mem hq')
    oo := h.oo
    pot := fun t ht => by rw [es, eb]; exact h.pot t (em ▸ ht)
    win := fun t ht => by rw [es]; exact h.win t (em ▸ ht) }
/-- A Submit that is taken. -/
theorem RI.sub (h : RI s now n kn out) (ok : AOk s) {t id c : Int} (h0 : subE s t id c = 0) :
    RI (subS s t id c) now (n + 1) (fun x => if x = id then some ⟨t, min c (s.shr t.toNat).b, 0, n⟩ else kn x) out := by
  unfold subS
  rw [if_pos h0]
  unfold subE at h0
  by_cases h1 : 0 ≤ t ∧ t < s.m
  · rw [if_neg (Classical.not_not.2 h1)] at h0
    by_cases h2 : c < 1 ∨ 1048576 < c
    · rw [if_pos h2] at h0; omega
    rw [if_neg h2] at h0
    by_cases h3 : s.has id ∨ id ∈ s.run
    · rw [if_pos h3] at h0; omega
    have ht : t.toNat < s.m := by omega
    have hno : ∀ t', t' < s.m → ∀ e ∈ s.q t', e.1 ≠ id := fun t' ht' e he hi => h3 (.inl ⟨t', ht', e, he, hi⟩)
    have q1 : ((s.setF (FQ.setL s.f t.toNat (s.q t.toNat ++ [(id, c)]))).setQ t.toNat (s.q t.toNat ++ [(id, c)])).q t.toNat = s.q t.toNat ++ [(id, c)] := AS.q_self (s := s.setF _) (by show _ < s.ql.length; rw [ok.lq]; exact ht) _
    have q2 : ∀ {t' : Nat}, t.toNat ≠ t' → ((s.setF (FQ.setL s.f t.toNat (s.q t.toNat ++ [(id, c)]))).setQ t.toNat (s.q t.toNat ++ [(id, c)])).q t' = s.q t' := fun hne => AS.q_ne (s := s.setF _) hne _
    have k1 : ∀ {x : Int}, x ≠ id → (if x = id then some (⟨t, min c (s.shr t.toNat).b, 0, n⟩ : Bg) else kn x) = kn x := fun hx => if_neg hx
    have kid : (if id = id then some (⟨t, min c (s.shr t.toNat).b, 0, n⟩ : Bg) else kn id) = some ⟨t, min c (s.shr t.toNat).b, 0, n⟩ := if_pos rfl
    exact {
      n0 := h.n0
      L := h.L
      kq := fun t' ht' e he => by
        have old : ∀ e ∈ s.q t', ∃ b, (if e.1 = id then some (⟨t, min c (s.shr t.toNat).b, 0, n⟩ : Bg) else kn e.1) = some b ∧ b.t = t' ∧ b.p = min e.2 (s.shr t').b ∧ 0 ≤ b.pl ∧ b.pl < (n + 1 : Nat) := fun e he => by
          obtain ⟨b, b1, b2, b3, b4, b5⟩ := h.kq t' ht' e he
          exact ⟨b, by rw [k1 (hno t' ht' e he)]; exact b1, b2, b3, b4, by omega⟩
        by_cases e1 : t.toNat = t'
        · subst e1
          rw [q1] at he
          rcases List.mem_append.1 he with he | he
          · exact old e he
          · rw [List.mem_singleton] at he
            subst he
            exact ⟨_, kid, by show t = _; omega, rfl, by show (0 : Int) ≤ n; omega, by show (n : Int) < (n + 1 : Nat); omega⟩
        · rw [q2 e1] at he
          exact old e he
      qo := fun t' ht' => by
        have old : (s.q t').Pairwise fun e e' => ∀ b b', (if e.1 = id then some (⟨t, min c (s.shr t.toNat).b, 0, n⟩ : Bg) else kn e.1) = some b → (if e'.1 = id then some (⟨t, min c (s.shr t.toNat).b, 0, n⟩ : Bg) else kn e'.1) = some b' → b.pl < b'.pl :=
          (h.qo t' ht').imp_of_mem fun {e e'} he he' hp b b' hb hb' => by
            rw [k1 (hno t' ht' e he)] at hb
            rw [k1 (hno t' ht' e' he')] at hb'
            exact hp b b' hb hb'
        by_cases e1 : t.toNat = t'
        · subst e1
          rw [q1]
          refine List.pairwise_append.2 ⟨old, List.pairwise_singleton _ _, fun e he e' he' b b' hb hb' => ?_⟩
          rw [List.mem_singleton] at he'
          subst he'
          rw [k1 (hno _ ht' e he)] at hb
          rw [kid] at hb'
          obtain rfl := Option.some.inj hb'
          obtain ⟨b2, c1, _, _, _, c5⟩ := h.kq _ ht' e he
          rw [hb] at c1
          obtain rfl := Option.some.inj c1
          exact c5
        · rw [q2 e1]
          exact old
      ob := fun b hb => by obtain ⟨q1, q2, q3, q4, q5, q6, q7⟩ := h.ob b hb; exact ⟨q1, q2, q3, q4, q5, q6, by omega⟩
      oq := fun t' ht' b hb hbt e he b' hb' => by
        have old : ∀ e ∈ s.q t', (if e.1 = id then some (⟨t, min c (s.shr t.toNat).b, 0, n⟩ : Bg) else kn e.1) = some b' → b.pl < b'.pl := fun e he hb' => by
          rw [k1 (hno t' ht' e he)] at hb'
          exact h.oq t' ht' b hb hbt e he b' hb'
        by_cases e1 : t.toNat = t'
        · subst e1
          rw [q1] at he
          rcases List.mem_append.1 he with he | he
          · exact old e he hb'
          · rw [List.mem_singleton] at he
            subst he
            rw [kid] at hb'
            obtain rfl := Option.some.inj hb'
            exact (h.ob b hb).2.2.2.2.2.2
        · rw [q2 e1] at he
          exact old e he hb'
      oo := h.oo
      pot := h.pot
      win := h.win }
  · rw [if_pos h1] at h0; omega
/-- A Take, whatever it answers: the parts do not grow by more than the time gives. -/
theorem RI.price (h : LOk s a) (r0 : RI s now n kn out) {t : Nat} (ht : t < s.m) (hq : s.q t = en :: r) (hn : now ≤ 1099511627776) :
    1 ≤ priceOf s t ∧ priceOf s t = min en.2 (s.shr t).b ∧ ((s.took t now).bkt t).2 = now ∧ 0 ≤ ((s.took t now).bkt t).1 ∧
    (s.takes t now = false → ((s.took t now).bkt t).1 ≤ (s.bkt t).1 + (now - (s.bkt t).2) * (s.shr t).t) ∧
    (s.takes t now = true → ((s.took t now).bkt t).1 + priceOf s t * (s.shr t).k ≤ (s.bkt t).1 + (now - (s.bkt t).2) * (s.shr t).t ∧ ((s.took t now).bkt t).1 + priceOf s t * (s.shr t).k ≤ (s.shr t).b * (s.shr t).k) := by
  have g := h.bok t ht
  have hz := h.sz t ht en (by rw [hq]; simp)
  have ep : priceOf s t = min en.2 (s.shr t).b := by unfold priceOf; rw [hq]
  have p1 : 1 ≤ priceOf s t := by rw [ep]; have := g.b1; omega
  have eb : (s.took t now).bkt t = (takeP (s.shr t).b (s.shr t).t (s.shr t).k (s.bkt t).1 (s.bkt t).2 now (priceOf s t), takeL (s.bkt t).2 now (priceOf s t)) := AS.bkt_self (by rw [h.lk]; exact ht) _
  obtain ⟨a1, a2, a3⟩ := atP_le g (r0.L t ht) hn
  have tb := takeP_bd (now := now) (n := priceOf s t) g
  rw [eb]
  refine ⟨p1, ep, ?_, tb.1, fun hf => ?_, fun hk => ?_⟩
  · show takeL _ _ _ = _
    unfold takeL
    rw [if_neg (by omega)]
    exact a1
  · show takeP _ _ _ _ _ _ _ ≤ _
    unfold AS.takes takeOk at hf
    unfold takeP
    simp only [Bool.or_eq_false_iff, decide_eq_false_iff_not, Bool.and_eq_false_iff] at hf
    rw [if_neg hf.1, if_neg (by intro hc; rcases hf.2 with q | q; exact q hc.1; exact q hc.2)]
    exact a2
  · show takeP _ _ _ _ _ _ _ + _ ≤ _ ∧ takeP _ _ _ _ _ _ _ + _ ≤ _
    unfold AS.takes takeOk at hk
    unfold takeP
    simp only [Bool.or_eq_true, decide_eq_true_eq, Bool.and_eq_true] at hk
    have hk2 := hk.resolve_left (by omega)
    rw [if_neg (by omega), if_pos hk2]
    omega
theorem RI.failed (r0 : RI s now n kn out) (h : LOk s a) (hc : Chs s.f f1) (hl : f1.lst f1.cur = en :: r) (hf : s.takes f1.cur now = false) (hn : now ≤ 1099511627776) : RI (s.failed f1.cur now) now n kn out := by
  obtain ⟨h1, h2, h3, h4⟩ := h.cur hc hl
  obtain ⟨_, _, p3, p4, p5, _⟩ := RI.price h r0 h1 h3 hn
  have ne : ∀ {t : Nat}, f1.cur ≠ t → (s.took f1.cur now).bkt t = s.bkt t := fun e => AS.bkt_ne e _
  exact { r0 with
    L := fun t ht => by
      show ((s.took f1.cur now).bkt t).2 ≤ now
      by_cases e : f1.cur = t
      · subst e; rw [p3]; exact Int.le_refl _
      · rw [ne e]; exact r0.L t ht
    pot := fun t ht => by
      show PotB t (s.shr t).b (s.shr t).t (s.shr t).k ((s.took f1.cur now).bkt t).1 ((s.took f1.cur now).bkt t).2 out
      by_cases e : f1.cur = t
      · subst e
        rw [p3]
        exact (r0.pot _ ht).wait (p5 hf)
      · rw [ne e]; exact r0.pot t ht }
theorem RI.began (r0 : RI s now n kn out) (h : LOk s a) (hc : Chs s.f f1) (hl : f1.lst f1.cur = en :: r) (hf : s.takes f1.cur now = true) (hn : now ≤ 1099511627776) :
    (kn en.1).isSome ∧ RI (s.began f1 now en.1) now n kn (out ++ [stB kn now en.1]) := by
  obtain ⟨h1, h2, h3, h4⟩ := h.cur hc hl
  obtain ⟨p1, p2, p3, p4, _, p6⟩ := RI.price h r0 h1 h3 hn
  obtain ⟨p7, p8⟩ := p6 hf
  obtain ⟨b, b1, b2, b3, b4, b5⟩ := r0.kq _ h1 en (by rw [h3]; simp)
  have est : stB kn now en.1 = { b with at_ := now } := by unfold stB; rw [b1]; rfl
  have ne : ∀ {t : Nat}, f1.cur ≠ t → (s.took f1.cur now).bkt t = s.bkt t := fun e => AS.bkt_ne e _
  have hql : f1.cur < s.ql.length := by rw [h.lq]; exact h1
  have qs : (s.began f1 now en.1).q f1.cur = r := by
    have := AS.q_self (s := (s.took f1.cur now).setF f1.pop) hql (s.q f1.cur).tail
    exact this.trans (by rw [h3]; rfl)
  have qn : ∀ {t : Nat}, f1.cur ≠ t → (s.began f1 now en.1).q t = s.q t := fun hne => AS.q_ne (s := (s.took f1.cur now).setF f1.pop) hne _
  have sub : ∀ t, ((s.began f1 now en.1).q t).Sublist (s.q t) := fun t => by
    by_cases e1 : f1.cur = t
    · subst e1; rw [qs, h3]; exact List.sublist_cons_self _ _
    · rw [qn e1]; exact List.Sublist.refl _
  have hz := h.sz _ h1 en (by rw [h3]; simp)
  have bp : b.p = priceOf s f1.cur := by rw [b3, p2]
  refine ⟨by rw [b1]; rfl, ?_⟩
  rw [est]
  have nb : ∀ {t : Nat}, f1.cur ≠ t → ({ b with at_ := now } : Bg).t ≠ t := fun {t} e e' => e (by have : b.t = t := e'; omega)
  have pot1 : PotB f1.cur (s.shr f1.cur).b (s.shr f1.cur).t (s.shr f1.cur).k ((s.took f1.cur now).bkt f1.cur).1 now (out ++ [{ b with at_ := now }]) := by
    refine PotB.took ?_ b2 rfl (by show _ + b.p * _ ≤ _; rw [bp]; exact p8)
    refine (r0.pot _ h1).wait ?_
    show _ + b.p * _ ≤ _
    rw [bp]; exact p7
  exact {
    n0 := r0.n0
    L := fun t ht => by
      show ((s.took f1.cur now).bkt t).2 ≤ now
      by_cases e : f1.cur = t
      · subst e; rw [p3]; exact Int.le_refl _
      · rw [ne e]; exact r0.L t ht
    kq := fun t ht e he => r0.kq t ht e ((sub t).mem he)
    qo := fun t ht => (r0.qo t ht).sublist (sub t)
    ob := fun x hx => by
      rcases List.mem_append.1 hx with hx | hx
      · exact r0.ob x hx
      · rw [List.mem_singleton] at hx
        subst hx
        exact ⟨⟨f1.cur, b2, h1⟩, by show 1 ≤ b.p; omega, by show b.p ≤ _; rw [b3]; omega, r0.n0, Int.le_refl _, b4, b5⟩
    oq := fun t ht x hx hxt e he b' hb' => by
      rcases List.mem_append.1 hx with hx | hx
      · exact r0.oq t ht x hx hxt e ((sub t).mem he) b' hb'
      · rw [List.mem_singleton] at hx
        subst hx
        have e1 : f1.cur = t := by have : b.t = t := hxt; omega
        subst e1
        rw [qs] at he
        have := r0.qo _ ht
        rw [h3] at this
        exact (List.pairwise_cons.1 this).1 e he b b' b1 hb'
    oo := List.pairwise_append.2 ⟨r0.oo, List.pairwise_singleton _ _, fun x hx y hy hxy => by
      rw [List.mem_singleton] at hy
      subst hy
      have : x.t = b.t := hxy
      exact r0.oq _ h1 x hx (by rw [this, b2]) en (by rw [h3]; simp) b b1⟩
    pot := fun t ht => by
      show PotB t (s.shr t).b (s.shr t).t (s.shr t).k ((s.took f1.cur now).bkt t).1 ((s.took f1.cur now).bkt t).2 _
      by_cases e : f1.cur = t
      · subst e
        rw [p3]
        exact pot1
      · rw [ne e]; exact (r0.pot t ht).other (nb e)
    win := fun t ht => by
      show WinB t (s.shr t).b (s.shr t).t (s.shr t).k _
      by_cases e : f1.cur = t
      · subst e
        exact (r0.win _ ht).took pot1 p4 rfl
      · exact (r0.win t ht).other (nb e) }
theorem RI.loop {o o' : List Int} {a' : List Nat} (h : SLoop now s o a s' o' a') (hn : now ≤ 1099511627776) : LOk s a → ∀ out, RI s now n kn out → ∃ o2, o' = o ++ o2 ∧ (∀ id ∈ o2, (kn id).isSome) ∧ RI s' now n kn (out ++ o2.map (stB kn now)) := by
  induction h with
  | full s o a _ => exact fun _ out r => ⟨[], by simp, fun _ h => (by cases h), by simpa using r⟩
  | none s o a _ _ => exact fun _ out r => ⟨[], by simp, fun _ h => (by cases h), by simpa using r⟩
  | fail s o a f1 en r s' o' a' _ hc hl hf _ ih => exact fun h out r0 => ih (h.failed hc hl now) out (r0.failed h hc hl hf hn)
  | ok s o a f1 en r s' o' a' hr hc hl hf _ ih =>
    intro h out r0
    obtain ⟨h1, h2⟩ := r0.began h hc hl hf hn
    obtain ⟨o2, e1, e2, e3⟩ := ih (h.began hc hl hr now) _ h2
    refine ⟨en.1 :: o2, by rw [e1]; simp, fun id hid => ?_, by simpa using e3⟩
    rcases List.mem_cons.1 hid with rfl | hid
    · exact h1
    · exact e2 id hid
/-- A Start. -/
theorem RI.start {o : List Int} {a' : List Nat} (r0 : RI s now n kn out) (ok : AOk s) (h : SLoop now s [] [] s' o a') (hn : now ≤ 1099511627776) : (∀ id ∈ o, (kn id).isSome) ∧ RI s'.back now n kn (out ++ o.map (stB kn now)) := by
  obtain ⟨o2, e1, e2, e3⟩ := RI.loop h hn ok out r0
  rw [List.nil_append] at e1
  subst e1
  exact ⟨e2, e3.less rfl rfl fun t => List.Sublist.refl _⟩
theorem RI.fin (r0 : RI s now n kn out) (id : Int) : RI (finS s id) now n kn out := by
  unfold finS
  split
  · exact r0.less rfl rfl fun t => List.Sublist.refl _
  · exact r0
theorem RI.can (r0 : RI s now n kn out) (ok : AOk s) {t i : Nat} (ht : t < s.m) : RI (canS s t i) now n kn out := by
  refine r0.less rfl rfl fun t' => ?_
  by_cases e : t = t'
  · subst e
    show ((s.ql.set t ((s.q t).eraseIdx i)).getD t []).Sublist _
    rw [getD_set_self (by rw [ok.lq]; exact ht)]
    exact List.eraseIdx_sublist _ _
  · show ((s.ql.set t ((s.q t).eraseIdx i)).getD t' []).Sublist _
    rw [getD_set_ne e]
    exact List.Sublist.refl _
end
end Go.Proofs.Ytmdajndmobpgbaa

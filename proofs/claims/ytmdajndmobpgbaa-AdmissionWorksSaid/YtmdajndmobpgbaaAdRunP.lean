/- Plain law of what starts: places ascend, prices keep within the bucket's windows. No program here. -/
import Derived.Test.YtmdajndmobpgbaaAdM
namespace Go.Proofs.Ytmdajndmobpgbaa
open Go.Proofs.Ytmdajndmobpgbaa.Fq
open Go.Proofs.Ytmdajndmobpgbaa.Bk

/-- A request that started: tenant, price, reading, place. -/
structure Bg where
  t : Int
  p : Int
  at_ : Int
  pl : Int
def bg0 : Bg := ⟨0, 0, 0, 0⟩
def bgAt (l : List Bg) (i : Nat) : Bg := l.getD i bg0
/-- The prices of a tenant. -/
def sumB (t : Int) : List Bg → Int
  | [] => 0
  | b :: l => (if b.t = t then b.p else 0) + sumB t l
theorem sumB_append (t : Int) : ∀ l l' : List Bg, sumB t (l ++ l') = sumB t l + sumB t l'
  | [], l' => by simp [sumB]
  | b :: l, l' => by
    show (if b.t = t then b.p else 0) + sumB t (l ++ l') = (if b.t = t then b.p else 0) + sumB t l + sumB t l'
    rw [sumB_append t l l']; omega
theorem sumB_one (b : Bg) (t : Int) : sumB t [b] = if b.t = t then b.p else 0 := by simp [sumB]
theorem sumB_pos {t : Int} : ∀ {l : List Bg}, (∀ b ∈ l, 0 ≤ b.p) → 0 ≤ sumB t l
  | [], _ => by simp [sumB]
  | b :: l, h => by
    have h1 := h b (by simp)
    have h2 := sumB_pos (t := t) (l := l) fun x hx => h x (by simp [hx])
    show 0 ≤ (if b.t = t then b.p else 0) + sumB t l
    split <;> omega
theorem bgAt_lt {l : List Bg} {b : Bg} {i : Nat} (h : i < l.length) : bgAt (l ++ [b]) i = bgAt l i := by
  simp [bgAt, List.getD, List.getElem?_append_left h]
theorem bgAt_eq {l : List Bg} {b : Bg} : bgAt (l ++ [b]) l.length = b := by simp [bgAt, List.getD]
theorem bgAt_mem {l : List Bg} {i : Nat} (h : i < l.length) : bgAt l i ∈ l := by
  have : bgAt l i = l[i] := by simp [bgAt, List.getD, h]
  rw [this]; exact List.getElem_mem h
/-- What is left in the tenant's bucket (P parts, last reading L) and what started since the i-th is at most what the bucket gives. -/
def PotB (t : Int) (B T K P L : Int) (l : List Bg) : Prop := ∀ i, i < l.length → (bgAt l i).t = t → sumB t (l.drop i) * K + P ≤ B * K + (L - (bgAt l i).at_) * T
def WinB (t : Int) (B T K : Int) (l : List Bg) : Prop :=
  ∀ i k, i ≤ k → k < l.length → (bgAt l i).t = t → (bgAt l k).t = t → (sumB t ((l.take (k + 1)).drop i) - B) * K ≤ ((bgAt l k).at_ - (bgAt l i).at_) * T
section
variable {t B T K P L P' L' : Int} {l : List Bg} {b : Bg}
theorem PotB.wait (h : PotB t B T K P L l) (hp : P' ≤ P + (L' - L) * T) : PotB t B T K P' L' l := fun i hi ht => by
  have h1 := h i hi ht
  have e : (L' - (bgAt l i).at_) * T = (L - (bgAt l i).at_) * T + (L' - L) * T := by rw [← Int.add_mul]; congr 1; omega
  rw [e]; omega
theorem PotB.other (h : PotB t B T K P L l) (hb : b.t ≠ t) : PotB t B T K P L (l ++ [b]) := fun i hi ht => by
  rw [List.length_append, List.length_singleton] at hi
  by_cases hlt : i < l.length
  · rw [bgAt_lt hlt] at ht ⊢
    rw [List.drop_append_of_le_length (by omega), sumB_append, sumB_one, if_neg hb, Int.add_zero]
    exact h i hlt ht
  · obtain rfl : i = l.length := by omega
    rw [bgAt_eq] at ht
    exact absurd ht hb
theorem PotB.took (h : PotB t B T K (P + b.p * K) L l) (hb : b.t = t) (ha : b.at_ = L) (hf : P + b.p * K ≤ B * K) : PotB t B T K P L (l ++ [b]) := fun i hi ht => by
  rw [List.length_append, List.length_singleton] at hi
  by_cases hlt : i < l.length
  · rw [bgAt_lt hlt] at ht ⊢
    rw [List.drop_append_of_le_length (by omega), sumB_append, sumB_one, if_pos hb, Int.add_mul]
    have := h i hlt ht
    omega
  · obtain rfl : i = l.length := by omega
    rw [bgAt_eq, List.drop_left, sumB_one, if_pos hb, ha, Int.sub_self, Int.zero_mul]
    omega
theorem WinB.other (h : WinB t B T K l) (hb : b.t ≠ t) : WinB t B T K (l ++ [b]) := fun i k hik hk hi ht => by
  rw [List.length_append, List.length_singleton] at hk
  by_cases hlt : k < l.length
  · rw [bgAt_lt hlt] at ht ⊢
    rw [bgAt_lt (by omega : i < l.length)] at hi ⊢
    rw [List.take_append_of_le_length (by omega)]
    exact h i k hik hlt hi ht
  · obtain rfl : k = l.length := by omega
    rw [bgAt_eq] at ht
    exact absurd ht hb
theorem WinB.took (h : WinB t B T K l) (hp : PotB t B T K P L (l ++ [b])) (h0 : 0 ≤ P) (ha : b.at_ = L) : WinB t B T K (l ++ [b]) := fun i k hik hk hi ht => by
  have hk' := hk
  rw [List.length_append, List.length_singleton] at hk
  by_cases hlt : k < l.length
  · rw [bgAt_lt hlt] at ht ⊢
    rw [bgAt_lt (by omega : i < l.length)] at hi ⊢
    rw [List.take_append_of_le_length (by omega)]
    exact h i k hik hlt hi ht
  · obtain rfl : k = l.length := by omega
    have h1 := hp i (by omega) hi
    rw [List.take_of_length_le (by rw [List.length_append, List.length_singleton]; omega), Int.sub_mul]
    rw [bgAt_eq, ha]
    omega
theorem atP_le {now : Int} (g : BkOk B T K P L) (hL : L ≤ now) (h1 : now ≤ 1099511627776) : atL L now = now ∧ atP B T K P L now ≤ P + (now - L) * T ∧ atP B T K P L now ≤ B * K := by
  have h0 := g.l1
  have e : atL L now = now := by unfold atL; rw [clipT_in (by omega) h1]; omega
  refine ⟨e, ?_, (atP_bd g).2.2⟩
  rw [atP_eq g, e]
  omega
end
/-- What is known of the requests: kn their tenant, price and place, out what started. n is the number of calls so far. -/
structure RI (s : AS) (now : Int) (n : Nat) (kn : Int → Option Bg) (out : List Bg) : Prop where
  n0 : 0 ≤ now
  L : ∀ t, t < s.m → (s.bkt t).2 ≤ now
  kq : ∀ t, t < s.m → ∀ e ∈ s.q t, ∃ b, kn e.1 = some b ∧ b.t = t ∧ b.p = min e.2 (s.shr t).b ∧ 0 ≤ b.pl ∧ b.pl < n
  qo : ∀ t, t < s.m → (s.q t).Pairwise fun e e' => ∀ b b', kn e.1 = some b → kn e'.1 = some b' → b.pl < b'.pl
  ob : ∀ b ∈ out, (∃ t : Nat, b.t = t ∧ t < s.m) ∧ 1 ≤ b.p ∧ b.p ≤ 1048576 ∧ 0 ≤ b.at_ ∧ b.at_ ≤ now ∧ 0 ≤ b.pl ∧ b.pl < n
  oq : ∀ t, t < s.m → ∀ b ∈ out, b.t = t → ∀ e ∈ s.q t, ∀ b', kn e.1 = some b' → b.pl < b'.pl
  oo : out.Pairwise fun b b' => b.t = b'.t → b.pl < b'.pl
  pot : ∀ t, t < s.m → PotB t (s.shr t).b (s.shr t).t (s.shr t).k (s.bkt t).1 (s.bkt t).2 out
  win : ∀ t, t < s.m → WinB t (s.shr t).b (s.shr t).t (s.shr t).k out
/-- What a started request is listed as. -/
def stB (kn : Int → Option Bg) (now id : Int) : Bg := { (kn id).getD bg0 with at_ := now }
section
variable {s s' : AS} {now : Int} {n : Nat} {kn : Int → Option Bg} {out : List Bg} {a : List Nat} {f1 : FQ} {en : Ent} {r : List Ent}
theorem RI.init {sh : List Shr} {slots : Int} : RI (AS.init sh slots) 0 0 (fun _ => none) [] where
  n0 := Int.le_refl _
  L := fun t ht => by rw [init_bkt sh slots ht]; exact Int.le_refl _
  kq := fun t ht e he => by rw [init_q] at he; cases he
  qo := fun t ht => by rw [init_q]; exact List.Pairwise.nil
  ob := fun b hb => by cases hb
  oq := fun t ht b hb => by cases hb
  oo := List.Pairwise.nil
  pot := fun t ht i hi => by simp at hi
  win := fun t ht i k hik hk => by simp at hk
/-- Time goes on, and calls. -/
theorem RI.on (h : RI s now n kn out) {now' : Int} {n' : Nat} (h1 : now ≤ now') (h2 : n ≤ n') : RI s now' n' kn out :=
  { h with
    n0 := by have := h.n0; omega
    L := fun t ht => by have := h.L t ht; omega
    kq := fun t ht e he => by obtain ⟨b, q1, q2, q3, q4, q5⟩ := h.kq t ht e he; exact ⟨b, q1, q2, q3, q4, by omega⟩
    ob := fun b hb => by obtain ⟨q1, q2, q3, q4, q5, q6, q7⟩ := h.ob b hb; exact ⟨q1, q2, q3, q4, by omega, q6, by omega⟩ }
/-- Requests left the queues. -/
theorem RI.less (h : RI s now n kn out) (hs : s'.sh = s.sh) (hb : s'.bk = s.bk) (hq : ∀ t, (s'.q t).Sublist (s.q t)) : RI s' now n kn out := by
  have em : s'.m = s.m := by unfold AS.m; rw [hs]
  have es : ∀ t, s'.shr t = s.shr t := fun t => by unfold AS.shr; rw [hs]
  have eb : ∀ t, s'.bkt t = s.bkt t := fun t => by unfold AS.bkt; rw [hb]
  exact {
    n0 := h.n0
    L := fun t ht => by rw [eb]; exact h.L t (em ▸ ht)
    kq := fun t ht e he => by rw [es]; exact h.kq t (em ▸ ht) e ((hq t).mem he)
    qo := fun t ht => (h.qo t (em ▸ ht)).sublist (hq t)
    ob := fun b hb => by rw [em]; exact h.ob b hb
    oq := fun t ht b hb he e hq' => h.oq t (em ▸ ht) b hb he e ((hq t).mem hq')
    oo := h.oo
    pot := fun t ht => by rw [es, eb]; exact h.pot t (em ▸ ht)
    win := fun t ht => by rw [es]; exact h.win t (em ▸ ht) }
/-- A Submit that is taken. -/
theorem RI.sub (h : RI s now n kn out) (ok : AOk s) {t id c : Int} (h0 : subE s t id c = 0) :
    RI (subS s t id c) now (n + 1) (fun x => if x = id then some ⟨t, min c (s.shr t.toNat).b, 0, n⟩ else kn x) out := by
  unfold subS
  rw [if_pos h0]
  unfold subE at h0
  by_cases h1 : 0 ≤ t ∧ t < s.m
  · rw [if_neg (Classical.not_not.2 h1)] at h0
    by_cases h2 : c < 1 ∨ 1048576 < c
    · rw [if_pos h2] at h0; omega
    rw [if_neg h2] at h0
    by_cases h3 : s.has id ∨ id ∈ s.run
    · rw [if_pos h3] at h0; omega
    have ht : t.toNat < s.m := by omega
    have hno : ∀ t', t' < s.m → ∀ e ∈ s.q t', e.1 ≠ id := fun t' ht' e he hi => h3 (.inl ⟨t', ht', e, he, hi⟩)
    have q1 : ((s.setF (FQ.setL s.f t.toNat (s.q t.toNat ++ [(id, c)]))).setQ t.toNat (s.q t.toNat ++ [(id, c)])).q t.toNat = s.q t.toNat ++ [(id, c)] := AS.q_self (s := s.setF _) (by show _ < s.ql.length; rw [ok.lq]; exact ht) _
    have q2 : ∀ {t' : Nat}, t.toNat ≠ t' → ((s.setF (FQ.setL s.f t.toNat (s.q t.toNat ++ [(id, c)]))).setQ t.toNat (s.q t.toNat ++ [(id, c)])).q t' = s.q t' := fun hne => AS.q_ne (s := s.setF _) hne _
    have k1 : ∀ {x : Int}, x ≠ id → (if x = id then some (⟨t, min c (s.shr t.toNat).b, 0, n⟩ : Bg) else kn x) = kn x := fun hx => if_neg hx
    have kid : (if id = id then some (⟨t, min c (s.shr t.toNat).b, 0, n⟩ : Bg) else kn id) = some ⟨t, min c (s.shr t.toNat).b, 0, n⟩ := if_pos rfl
    exact {
      n0 := h.n0
      L := h.L
      kq := fun t' ht' e he => by
        have old : ∀ e ∈ s.q t', ∃ b, (if e.1 = id then some (⟨t, min c (s.shr t.toNat).b, 0, n⟩ : Bg) else kn e.1) = some b ∧ b.t = t' ∧ b.p = min e.2 (s.shr t').b ∧ 0 ≤ b.pl ∧ b.pl < (n + 1 : Nat) := fun e he => by
          obtain ⟨b, b1, b2, b3, b4, b5⟩ := h.kq t' ht' e he
          exact ⟨b, by rw [k1 (hno t' ht' e he)]; exact b1, b2, b3, b4, by omega⟩
        by_cases e1 : t.toNat = t'
        · subst e1
          rw [q1] at he
          rcases List.mem_append.1 he with he | he
          · exact old e he
          · rw [List.mem_singleton] at he
            subst he
            exact ⟨_, kid, by show t = _; omega, rfl, by show (0 : Int) ≤ n; omega, by show (n : Int) < (n + 1 : Nat); omega⟩
        · rw [q2 e1] at he
          exact old e he
      qo := fun t' ht' => by
        have old : (s.q t').Pairwise fun e e' => ∀ b b', (if e.1 = id then some (⟨t, min c (s.shr t.toNat).b, 0, n⟩ : Bg) else kn e.1) = some b → (if e'.1 = id then some (⟨t, min c (s.shr t.toNat).b, 0, n⟩ : Bg) else kn e'.1) = some b' → b.pl < b'.pl :=
          (h.qo t' ht').imp_of_mem fun {e e'} he he' hp b b' hb hb' => by
            rw [k1 (hno t' ht' e he)] at hb
            rw [k1 (hno t' ht' e' he')] at hb'
            exact hp b b' hb hb'
        by_cases e1 : t.toNat = t'
        · subst e1
          rw [q1]
          refine List.pairwise_append.2 ⟨old, List.pairwise_singleton _ _, fun e he e' he' b b' hb hb' => ?_⟩
          rw [List.mem_singleton] at he'
          subst he'
          rw [k1 (hno _ ht' e he)] at hb
          rw [kid] at hb'
          obtain rfl := Option.some.inj hb'
          obtain ⟨b2, c1, _, _, _, c5⟩ := h.kq _ ht' e he
          rw [hb] at c1
          obtain rfl := Option.some.inj c1
          exact c5
        · rw [q2 e1]
          exact old
      ob := fun b hb => by obtain ⟨q1, q2, q3, q4, q5, q6, q7⟩ := h.ob b hb; exact ⟨q1, q2, q3, q4, q5, q6, by omega⟩
      oq := fun t' ht' b hb hbt e he b' hb' => by
        have old : ∀ e ∈ s.q t', (if e.1 = id then some (⟨t, min c (s.shr t.toNat).b, 0, n⟩ : Bg) else kn e.1) = some b' → b.pl < b'.pl := fun e he hb' => by
          rw [k1 (hno t' ht' e he)] at hb'
          exact h.oq t' ht' b hb hbt e he b' hb'
        by_cases e1 : t.toNat = t'
        · subst e1
          rw [q1] at he
          rcases List.mem_append.1 he with he | he
          · exact old e he hb'
          · rw [List.mem_singleton] at he
            subst he
            rw [kid] at hb'
            obtain rfl := Option.some.inj hb'
            exact (h.ob b hb).2.2.2.2.2.2
        · rw [q2 e1] at he
          exact old e he hb'
      oo := h.oo
      pot := h.pot
      win := h.win }
  · rw [if_pos h1] at h0; omega
/-- A Take, whatever it answers: the parts do not grow by more than the time gives. -/
theorem RI.price (h : LOk s a) (r0 : RI s now n kn out) {t : Nat} (ht : t < s.m) (hq : s.q t = en :: r) (hn : now ≤ 1099511627776) :
    1 ≤ priceOf s t ∧ priceOf s t = min en.2 (s.shr t).b ∧ ((s.took t now).bkt t).2 = now ∧ 0 ≤ ((s.took t now).bkt t).1 ∧
    (s.takes t now = false → ((s.took t now).bkt t).1 ≤ (s.bkt t).1 + (now - (s.bkt t).2) * (s.shr t).t) ∧
    (s.takes t now = true → ((s.took t now).bkt t).1 + priceOf s t * (s.shr t).k ≤ (s.bkt t).1 + (now - (s.bkt t).2) * (s.shr t).t ∧ ((s.took t now).bkt t).1 + priceOf s t * (s.shr t).k ≤ (s.shr t).b * (s.shr t).k) := by
  have g := h.bok t ht
  have hz := h.sz t ht en (by rw [hq]; simp)
  have ep : priceOf s t = min en.2 (s.shr t).b := by unfold priceOf; rw [hq]
  have p1 : 1 ≤ priceOf s t := by rw [ep]; have := g.b1; omega
  have eb : (s.took t now).bkt t = (takeP (s.shr t).b (s.shr t).t (s.shr t).k (s.bkt t).1 (s.bkt t).2 now (priceOf s t), takeL (s.bkt t).2 now (priceOf s t)) := AS.bkt_self (by rw [h.lk]; exact ht) _
  obtain ⟨a1, a2, a3⟩ := atP_le g (r0.L t ht) hn
  have tb := takeP_bd (now := now) (n := priceOf s t) g
  rw [eb]
  refine ⟨p1, ep, ?_, tb.1, fun hf => ?_, fun hk => ?_⟩
  · show takeL _ _ _ = _
    unfold takeL
    rw [if_neg (by omega)]
    exact a1
  · show takeP _ _ _ _ _ _ _ ≤ _
    unfold AS.takes takeOk at hf
    unfold takeP
    simp only [Bool.or_eq_false_iff, decide_eq_false_iff_not, Bool.and_eq_false_iff] at hf
    rw [if_neg hf.1, if_neg (by intro hc; rcases hf.2 with q | q; exact q hc.1; exact q hc.2)]
    exact a2
  · show takeP _ _ _ _ _ _ _ + _ ≤ _ ∧ takeP _ _ _ _ _ _ _ + _ ≤ _
    unfold AS.takes takeOk at hk
    unfold takeP
    simp only [Bool.or_eq_true, decide_eq_true_eq, Bool.and_eq_true] at hk
    have hk2 := hk.resolve_left (by omega)
    rw [if_neg (by omega), if_pos hk2]
    omega
theorem RI.failed (r0 : RI s now n kn out) (h : LOk s a) (hc : Chs s.f f1) (hl : f1.lst f1.cur = en :: r) (hf : s.takes f1.cur now = false) (hn : now ≤ 1099511627776) : RI (s.failed f1.cur now) now n kn out := by
  obtain ⟨h1, h2, h3, h4⟩ := h.cur hc hl
  obtain ⟨_, _, p3, p4, p5, _⟩ := RI.price h r0 h1 h3 hn
  have ne : ∀ {t : Nat}, f1.cur ≠ t → (s.took f1.cur now).bkt t = s.bkt t := fun e => AS.bkt_ne e _
  exact { r0 with
    L := fun t ht => by
      show ((s.took f1.cur now).bkt t).2 ≤ now
      by_cases e : f1.cur = t
      · subst e; rw [p3]; exact Int.le_refl _
      · rw [ne e]; exact r0.L t ht
    pot := fun t ht => by
      show PotB t (s.shr t).b (s.shr t).t (s.shr t).k ((s.took f1.cur now).bkt t).1 ((s.took f1.cur now).bkt t).2 out
      by_cases e : f1.cur = t
      · subst e
        rw [p3]
        exact (r0.pot _ ht).wait (p5 hf)
      · rw [ne e]; exact r0.pot t ht }
theorem RI.began (r0 : RI s now n kn out) (h : LOk s a) (hc : Chs s.f f1) (hl : f1.lst f1.cur = en :: r) (hf : s.takes f1.cur now = true) (hn : now ≤ 1099511627776) :
    (kn en.1).isSome ∧ RI (s.began f1 now en.1) now n kn (out ++ [stB kn now en.1]) := by
  obtain ⟨h1, h2, h3, h4⟩ := h.cur hc hl
  obtain ⟨p1, p2, p3, p4, _, p6⟩ := RI.price h r0 h1 h3 hn
  obtain ⟨p7, p8⟩ := p6 hf
  obtain ⟨b, b1, b2, b3, b4, b5⟩ := r0.kq _ h1 en (by rw [h3]; simp)
  have est : stB kn now en.1 = { b with at_ := now } := by unfold stB; rw [b1]; rfl
  have ne : ∀ {t : Nat}, f1.cur ≠ t → (s.took f1.cur now).bkt t = s.bkt t := fun e => AS.bkt_ne e _
  have hql : f1.cur < s.ql.length := by rw [h.lq]; exact h1
  have qs : (s.began f1 now en.1).q f1.cur = r := by
    have := AS.q_self (s := (s.took f1.cur now).setF f1.pop) hql (s.q f1.cur).tail
    exact this.trans (by rw [h3]; rfl)
  have qn : ∀ {t : Nat}, f1.cur ≠ t → (s.began f1 now en.1).q t = s.q t := fun hne => AS.q_ne (s := (s.took f1.cur now).setF f1.pop) hne _
  have sub : ∀ t, ((s.began f1 now en.1).q t).Sublist (s.q t) := fun t => by
    by_cases e1 : f1.cur = t
    · subst e1; rw [qs, h3]; exact List.sublist_cons_self _ _
    · rw [qn e1]; exact List.Sublist.refl _
  have hz := h.sz _ h1 en (by rw [h3]; simp)
  have bp : b.p = priceOf s f1.cur := by rw [b3, p2]
  refine ⟨by rw [b1]; rfl, ?_⟩
  rw [est]
  have nb : ∀ {t : Nat}, f1.cur ≠ t → ({ b with at_ := now } : Bg).t ≠ t := fun {t} e e' => e (by have : b.t = t := e'; omega)
  have pot1 : PotB f1.cur (s.shr f1.cur).b (s.shr f1.cur).t (s.shr f1.cur).k ((s.took f1.cur now).bkt f1.cur).1 now (out ++ [{ b with at_ := now }]) := by
    refine PotB.took ?_ b2 rfl (by show _ + b.p * _ ≤ _; rw [bp]; exact p8)
    refine (r0.pot _ h1).wait ?_
    show _ + b.p * _ ≤ _
    rw [bp]; exact p7
  exact {
    n0 := r0.n0
    L := fun t ht => by
      show ((s.took f1.cur now).bkt t).2 ≤ now
      by_cases e : f1.cur = t
      · subst e; rw [p3]; exact Int.le_refl _
      · rw [ne e]; exact r0.L t ht
    kq := fun t ht e he => r0.kq t ht e ((sub t).mem he)
    qo := fun t ht => (r0.qo t ht).sublist (sub t)
    ob := fun x hx => by
      rcases List.mem_append.1 hx with hx | hx
      · exact r0.ob x hx
      · rw [List.mem_singleton] at hx
        subst hx
        exact ⟨⟨f1.cur, b2, h1⟩, by show 1 ≤ b.p; omega, by show b.p ≤ _; rw [b3]; omega, r0.n0, Int.le_refl _, b4, b5⟩
    oq := fun t ht x hx hxt e he b' hb' => by
      rcases List.mem_append.1 hx with hx | hx
      · exact r0.oq t ht x hx hxt e ((sub t).mem he) b' hb'
      · rw [List.mem_singleton] at hx
        subst hx
        have e1 : f1.cur = t := by have : b.t = t := hxt; omega
        subst e1
        rw [qs] at he
        have := r0.qo _ ht
        rw [h3] at this
        exact (List.pairwise_cons.1 this).1 e he b b' b1 hb'
    oo := List.pairwise_append.2 ⟨r0.oo, List.pairwise_singleton _ _, fun x hx y hy hxy => by
      rw [List.mem_singleton] at hy
      subst hy
      have : x.t = b.t := hxy
      exact r0.oq _ h1 x hx (by rw [this, b2]) en (by rw [h3]; simp) b b1⟩
    pot := fun t ht => by
      show PotB t (s.shr t).b (s.shr t).t (s.shr t).k ((s.took f1.cur now).bkt t).1 ((s.took f1.cur now).bkt t).2 _
      by_cases e : f1.cur = t
      · subst e
        rw [p3]
        exact pot1
      · rw [ne e]; exact (r0.pot t ht).other (nb e)
    win := fun t ht => by
      show WinB t (s.shr t).b (s.shr t).t (s.shr t).k _
      by_cases e : f1.cur = t
      · subst e
        exact (r0.win _ ht).took pot1 p4 rfl
      · exact (r0.win t ht).other (nb e) }
theorem RI.loop {o o' : List Int} {a' : List Nat} (h : SLoop now s o a s' o' a') (hn : now ≤ 1099511627776) : LOk s a → ∀ out, RI s now n kn out → ∃ o2, o' = o ++ o2 ∧ (∀ id ∈ o2, (kn id).isSome) ∧ RI s' now n kn (out ++ o2.map (stB kn now)) := by
  induction h with
  | full s o a _ => exact fun _ out r => ⟨[], by simp, fun _ h => (by cases h), by simpa using r⟩
  | none s o a _ _ => exact fun _ out r => ⟨[], by simp, fun _ h => (by cases h), by simpa using r⟩
  | fail s o a f1 en r s' o' a' _ hc hl hf _ ih => exact fun h out r0 => ih (h.failed hc hl now) out (r0.failed h hc hl hf hn)
  | ok s o a f1 en r s' o' a' hr hc hl hf _ ih =>
    intro h out r0
    obtain ⟨h1, h2⟩ := r0.began h hc hl hf hn
    obtain ⟨o2, e1, e2, e3⟩ := ih (h.began hc hl hr now) _ h2
    refine ⟨en.1 :: o2, by rw [e1]; simp, fun id hid => ?_, by simpa using e3⟩
    rcases List.mem_cons.1 hid with rfl | hid
    · exact h1
    · exact e2 id hid
/-- A Start. -/
theorem RI.start {o : List Int} {a' : List Nat} (r0 : RI s now n kn out) (ok : AOk s) (h : SLoop now s [] [] s' o a') (hn : now ≤ 1099511627776) : (∀ id ∈ o, (kn id).isSome) ∧ RI s'.back now n kn (out ++ o.map (stB kn now)) := by
  obtain ⟨o2, e1, e2, e3⟩ := RI.loop h hn ok out r0
  rw [List.nil_append] at e1
  subst e1
  exact ⟨e2, e3.less rfl rfl fun t => List.Sublist.refl _⟩
theorem RI.fin (r0 : RI s now n kn out) (id : Int) : RI (finS s id) now n kn out := by
  unfold finS
  split
  · exact r0.less rfl rfl fun t => List.Sublist.refl _
  · exact r0
theorem RI.can (r0 : RI s now n kn out) (ok : AOk s) {t i : Nat} (ht : t < s.m) : RI (canS s t i) now n kn out := by
  refine r0.less rfl rfl fun t' => ?_
  by_cases e : t = t'
  · subst e
    show ((s.ql.set t ((s.q t).eraseIdx i)).getD t []).Sublist _
    rw [getD_set_self (by rw [ok.lq]; exact ht)]
    exact List.eraseIdx_sublist _ _
  · show ((s.ql.set t ((s.q t).eraseIdx i)).getD t' []).Sublist _
    rw [getD_set_ne e]
    exact List.Sublist.refl _
end
end Go.Proofs.Ytmdajndmobpgbaa

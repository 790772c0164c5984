/- What two tenants that have entries get, in shares of their quanta. No program here. -/
import Derived.Test.YtdcmkonmojiefaaFqPlay
namespace Go.Proofs.Ytdcmkonmojiefaa
open Go.Proofs.Ytdcmkonmojiefaa.Fq

/-- Has the tenant been visited in this round? -/
def vsI (s : FQ) (t : Nat) : Int := if t < s.cur ∨ (t = s.cur ∧ s.begun = true) then 1 else 0
/-- What a tenant has got is what its visits gave it, less its deficit, which is small. -/
structure Sh (M : Int) (t : Nat) (R : Int) (s : FQ) (x : Int) : Prop where
  x : x = (R + vsI s t) * s.qn t - s.df t
  d : s.df t ≤ M + (if s.cur = t ∧ s.begun = true then s.qn t else 0)
section
variable {s s1 : FQ} {M R x y : Int} {t : Nat}
theorem Sh.visit (h : Sh M t R s x) (g : Gd s) (hne : s.lst t ≠ []) : Sh M t R s.visit x := by
  unfold FQ.visit
  by_cases h0 : s.lst s.cur = []
  · rw [if_pos h0]
    have hc : t ≠ s.cur := fun e => hne (by rw [e]; exact h0)
    exact ⟨by have := h.x; rw [setD_df_ne 0 hc]; exact this, by have := h.d; rw [setD_df_ne 0 hc]; exact this⟩
  · rw [if_neg h0]
    by_cases hb : s.begun = true
    · rw [if_pos hb]; exact h
    · rw [if_neg hb]
      by_cases hc : t = s.cur
      · subst hc
        have hx := h.x
        have hd := h.d
        have e1 : vsI s s.cur = 0 := if_neg (by rintro (h | h); omega; exact hb h.2)
        rw [if_neg (fun h => hb h.2)] at hd
        rw [e1] at hx
        refine ⟨?_, ?_⟩
        · show x = (R + (if s.cur < s.cur ∨ (s.cur = s.cur ∧ true = true) then 1 else 0)) * s.qn s.cur - (s.setD (s.df s.cur + s.qn s.cur)).df s.cur
          rw [if_pos (.inr ⟨rfl, rfl⟩), setD_df_self g, Int.add_mul, hx, Int.add_zero]
          omega
        · show (s.setD (s.df s.cur + s.qn s.cur)).df s.cur ≤ M + (if s.cur = s.cur ∧ true = true then s.qn s.cur else 0)
          rw [if_pos ⟨rfl, rfl⟩, setD_df_self g]
          omega
      · have hx := h.x
        have hd := h.d
        rw [if_neg (fun h => hc h.1.symm)] at hd
        refine ⟨?_, ?_⟩
        · show x = (R + (if t < s.cur ∨ (t = s.cur ∧ true = true) then 1 else 0)) * s.qn t - (s.setD (s.df s.cur + s.qn s.cur)).df t
          rw [setD_df_ne _ hc]
          have e1 : vsI s t = (if t < s.cur ∨ (t = s.cur ∧ true = true) then 1 else 0) := by
            unfold vsI
            by_cases hl : t < s.cur
            · rw [if_pos (.inl hl), if_pos (.inl hl)]
            · rw [if_neg (by rintro (h | h); exact hl h; exact hc h.1), if_neg (by rintro (h | h); exact hl h; exact hc h.1)]
          rw [← e1]; exact hx
        · show (s.setD (s.df s.cur + s.qn s.cur)).df t ≤ M + (if s.cur = t ∧ true = true then s.qn t else 0)
          rw [setD_df_ne _ hc, if_neg (fun h => hc h.1.symm)]
          omega
theorem visit_bgn (hne : s.lst s.cur ≠ []) : s.visit.begun = true := by
  unfold FQ.visit
  rw [if_neg hne]
  by_cases hb : s.begun = true
  · rw [if_pos hb]; exact hb
  · rw [if_neg hb]
theorem Sh.go (h : Sh M t R s x) (hm : t < s.m) (hb : s.cur = t → s.begun = true) (hd : s.df t ≤ M) (hc : s.cur < s.m) : Sh M t (R + if s.cur + 1 = s.m then 1 else 0) s.go x := by
  have hx := h.x
  have e1 : vsI s t = if t ≤ s.cur then 1 else 0 := by
    unfold vsI
    by_cases hl : t < s.cur
    · rw [if_pos (.inl hl), if_pos (by omega)]
    · by_cases he : t = s.cur
      · rw [if_pos (.inr ⟨he, hb he.symm⟩), if_pos (by omega)]
      · rw [if_neg (by rintro (h | h); omega; exact he h.1), if_neg (by omega)]
  have e2 : vsI s.go t = if t < (s.cur + 1) % s.m then 1 else 0 := by
    unfold vsI
    show (if t < (s.cur + 1) % s.m ∨ (t = (s.cur + 1) % s.m ∧ false = true) then (1 : Int) else 0) = _
    by_cases hl : t < (s.cur + 1) % s.m
    · rw [if_pos (.inl hl), if_pos hl]
    · rw [if_neg (by rintro (h | h); exact hl h; cases h.2), if_neg hl]
  have e3 : (R + if s.cur + 1 = s.m then 1 else 0) + vsI s.go t = R + vsI s t := by
    rw [e1, e2]
    by_cases hw : s.cur + 1 = s.m
    · rw [if_pos hw, hw, Nat.mod_self, if_neg (by omega), if_pos (by omega)]; omega
    · rw [if_neg hw, Nat.mod_eq_of_lt (by omega)]
      by_cases hl : t ≤ s.cur
      · rw [if_pos hl, if_pos (by omega)]; omega
      · rw [if_neg hl, if_neg (by omega)]; omega
  exact ⟨by rw [e3]; exact hx, by
    show s.df t ≤ M + (if (s.cur + 1) % s.m = t ∧ false = true then s.qn t else 0)
    rw [if_neg (by rintro ⟨_, h⟩; cases h)]; omega⟩
theorem Fq.Chs.share (h : Chs s s1) : Gd s → ∃ k : Int, ∀ t, t < s.m → s.lst t ≠ [] → ∀ M, (∀ e ∈ s.lst t, e.2 ≤ M) → ∀ R x, Sh M t R s x → Sh M t (R + k) s1 x := by
  induction h with
  | stop s hs => exact fun g => ⟨0, fun t ht hne M hM R x h => by rw [Int.add_zero]; exact h.visit g hne⟩
  | go s s' hn _ ih =>
    intro g
    obtain ⟨k, hk⟩ := ih (g.visit.go (by rw [visit_m]; exact visit_small g hn))
    refine ⟨(if s.visit.cur + 1 = s.visit.m then 1 else 0) + k, fun t ht hne M hM R x h => ?_⟩
    rw [← Int.add_assoc]
    have hv := h.visit g hne
    refine hk t (by show t < s.visit.m; rw [visit_m]; exact ht) (by show s.visit.lst t ≠ []; rw [visit_lst]; exact hne) M (by show ∀ e ∈ s.visit.lst t, _; rw [visit_lst]; exact hM) _ x (hv.go (by rw [visit_m]; exact ht) (fun e => ?_) ?_ (by rw [visit_cur, visit_m]; exact g.cur))
    · rw [visit_cur] at e; subst e; exact visit_bgn hne
    · by_cases hc : s.visit.cur = t
      · have hc' := hc
        rw [visit_cur] at hc
        subst hc
        cases hl : s.lst s.cur with
        | nil => exact absurd hl hne
        | cons e r =>
          have h1 := hM e (by rw [hl]; simp)
          have h2 : ¬ e.2 ≤ s.visit.df s.cur := fun h => hn ⟨e, r, by rw [visit_lst, visit_cur]; exact hl, by rw [visit_cur]; exact h⟩
          omega
      · have := hv.d
        rw [if_neg (fun h => hc h.1)] at this
        omega
theorem pop_df {e : Ent} {r : List Ent} (g : Gd s) (h : s.lst s.cur = e :: r) (t : Nat) : s.pop.df t = if t = s.cur then s.df s.cur - e.2 else s.df t := by
  rw [pop_eq h]
  show (s.defs.set s.cur _).getD t 0 = _
  by_cases ht : t = s.cur
  · subst ht; rw [if_pos rfl, Fq.getD_set_self (by rw [g.ld]; exact g.cur)]
  · rw [if_neg ht, Fq.getD_set_ne (fun e => ht e.symm)]; rfl
theorem Sh.pop (h : Sh M t R s x) (g : Gd s) {e : Ent} {r : List Ent} (hl : s.lst s.cur = e :: r) : Sh M t R s.pop (x + if t = s.cur then e.2 else 0) := by
  have hx := h.x
  have hd := h.d
  have hz := g.sz s.cur g.cur e (by rw [hl]; simp)
  have e1 : vsI s.pop t = vsI s t := by rw [pop_eq hl]; rfl
  have e2 : s.pop.qn t = s.qn t := by rw [pop_eq hl]; rfl
  have e3 : s.pop.cur = s.cur := by rw [pop_eq hl]
  have e4 : s.pop.begun = s.begun := by rw [pop_eq hl]
  refine ⟨?_, ?_⟩
  · rw [e1, e2, pop_df g hl]
    by_cases ht : t = s.cur
    · subst ht; rw [if_pos rfl, if_pos rfl]; omega
    · rw [if_neg ht, if_neg ht]; omega
  · rw [e2, e3, e4, pop_df g hl]
    by_cases ht : t = s.cur
    · subst ht; rw [if_pos rfl]; omega
    · rw [if_neg ht]; exact hd
theorem vsI_cases (s : FQ) (t : Nat) : (vsI s t = 0 ∧ ¬ (s.cur = t ∧ s.begun = true)) ∨ vsI s t = 1 := by
  unfold vsI
  by_cases h : t < s.cur ∨ (t = s.cur ∧ s.begun = true)
  · exact .inr (if_pos h)
  · exact .inl ⟨if_neg h, fun h1 => h (.inr ⟨h1.1.symm, h1.2⟩)⟩
theorem Sh.gap {a b : Nat} (ha : Sh M a R s x) (hb : Sh M b R s y) (g : Gd s) (hab : a ≠ b) (h1 : a < s.m) (h2 : b < s.m) :
    x * s.qn b - y * s.qn a ≤ s.qn a * s.qn b + M * (s.qn a + s.qn b) ∧ -(x * s.qn b - y * s.qn a) ≤ s.qn a * s.qn b + M * (s.qn a + s.qn b) := by
  have qa := g.q1 a h1
  have qb := g.q1 b h2
  have a0 := g.d0 a h1
  have b0 := g.d0 b h2
  have da := ha.d
  have db := hb.d
  have xa := ha.x
  have xb := hb.x
  have va := vsI_cases s a
  have vb := vsI_cases s b
  have hn : ¬ ((s.cur = a ∧ s.begun = true) ∧ (s.cur = b ∧ s.begun = true)) := fun h => hab (h.1.1.symm.trans h.2.1)
  generalize s.qn a = qa' at *
  generalize s.qn b = qb' at *
  generalize s.df a = A at *
  generalize s.df b = B at *
  have pA0 : 0 ≤ A * qb' := Int.mul_nonneg a0 (by omega)
  have pB0 : 0 ≤ B * qa' := Int.mul_nonneg b0 (by omega)
  have pA1 := Int.mul_le_mul_of_nonneg_right da (show 0 ≤ qb' by omega)
  have pB1 := Int.mul_le_mul_of_nonneg_right db (show 0 ≤ qa' by omega)
  have P0 : 0 ≤ qa' * qb' := Int.mul_nonneg (by omega) (by omega)
  have M0 : 0 ≤ M * qa' := by
    by_cases hm : 0 ≤ M
    · exact Int.mul_nonneg hm (by omega)
    · exfalso
      by_cases hc : s.cur = a ∧ s.begun = true
      · rw [if_neg (fun h => hn ⟨hc, h⟩)] at db; omega
      · rw [if_neg hc] at da; omega
  have M1 : 0 ≤ M * qb' := by
    by_cases hm : 0 ≤ M
    · exact Int.mul_nonneg hm (by omega)
    · exfalso
      by_cases hc : s.cur = a ∧ s.begun = true
      · rw [if_neg (fun h => hn ⟨hc, h⟩)] at db; omega
      · rw [if_neg hc] at da; omega
  have ex : x * qb' - y * qa' = (vsI s a - vsI s b) * (qa' * qb') - A * qb' + B * qa' := by
    have ec : qb' * qa' = qa' * qb' := Int.mul_comm ..
    rw [xa, xb, Int.sub_mul, Int.sub_mul, Int.sub_mul, Int.mul_assoc, Int.mul_assoc, ec, Int.add_mul, Int.add_mul]
    omega
  rw [ex, Int.mul_add]
  clear ex xa xb
  rw [Int.add_mul] at pA1 pB1
  have ec : qb' * qa' = qa' * qb' := Int.mul_comm ..
  by_cases ca : s.cur = a ∧ s.begun = true
  · have cb : ¬ (s.cur = b ∧ s.begun = true) := fun h => hn ⟨ca, h⟩
    rw [if_pos ca] at pA1
    rw [if_neg cb, Int.zero_mul] at pB1
    rcases va with ⟨_, va⟩ | va
    · exact absurd ca va
    · rcases vb with ⟨vb, _⟩ | vb
      · rw [va, vb, Int.sub_zero, Int.one_mul]; omega
      · rw [va, vb, Int.sub_self, Int.zero_mul]; omega
  · rw [if_neg ca, Int.zero_mul] at pA1
    by_cases cb : s.cur = b ∧ s.begun = true
    · rw [if_pos cb, ec] at pB1
      rcases vb with ⟨_, vb⟩ | vb
      · exact absurd cb vb
      · rcases va with ⟨va, _⟩ | va
        · rw [va, vb, show (0 : Int) - 1 = -1 from rfl, Int.neg_mul, Int.one_mul]; omega
        · rw [va, vb, Int.sub_self, Int.zero_mul]; omega
    · rw [if_neg cb, Int.zero_mul] at pB1
      rcases va with ⟨va, _⟩ | va <;> rcases vb with ⟨vb, _⟩ | vb
      · rw [va, vb, Int.sub_self, Int.zero_mul]; omega
      · rw [va, vb, show (0 : Int) - 1 = -1 from rfl, Int.neg_mul, Int.one_mul]; omega
      · rw [va, vb, Int.sub_zero, Int.one_mul]; omega
      · rw [va, vb, Int.sub_self, Int.zero_mul]; omega
/-- What is so while both have entries, and how it goes on. -/
def Two (M : Int) (a b : Nat) (s : FQ) (x y : Int) : Prop := ∃ R, Sh M a R s x ∧ Sh M b R s y
theorem Two.start {a b : Nat} (h0 : s.cur = 0) (h1 : s.begun = false) (h2 : ∀ t, s.df t = 0) (hM : 0 ≤ M) : Two M a b s 0 0 := by
  have e : ∀ t, vsI s t = 0 := fun t => if_neg (by rw [h0, h1]; rintro (h | h); omega; cases h.2)
  refine ⟨0, ⟨?_, ?_⟩, ⟨?_, ?_⟩⟩
  · rw [e, h2]; simp
  · rw [h2, if_neg (by rw [h1]; rintro ⟨_, h⟩; cases h)]; omega
  · rw [e, h2]; simp
  · rw [h2, if_neg (by rw [h1]; rintro ⟨_, h⟩; cases h)]; omega
theorem Two.next {a b : Nat} (h : Two M a b s x y) (g : Gd s) (ha : a < s.m) (hb : b < s.m) (na : s.lst a ≠ []) (nb : s.lst b ≠ []) (hM : ∀ t, t < s.m → ∀ e ∈ s.lst t, e.2 ≤ M)
    (hc : Chs s s1) {e : Ent} {r : List Ent} (hl : s1.lst s1.cur = e :: r) : Two M a b s1.pop (x + if a = s1.cur then e.2 else 0) (y + if b = s1.cur then e.2 else 0) := by
  obtain ⟨R, h1, h2⟩ := h
  obtain ⟨k, hk⟩ := hc.share g
  have g1 := (hc.gd g).1
  exact ⟨R + k, (hk a ha na M (hM a ha) R x h1).pop g1 hl, (hk b hb nb M (hM b hb) R y h2).pop g1 hl⟩
end
end Go.Proofs.Ytdcmkonmojiefaa

/- Plain arithmetic of When: the reading that it tells is the least at which a Take succeeds. No program here. -/
import Derived.Test.YtmdajndmobpgbaaBkMath
namespace Go.Proofs.Ytmdajndmobpgbaa.Bk

/-- The state behind k Takes: the reading, the parts, the last reading. -/
def stt (B T K : Int) (Lt N : Nat → Int) : Nat → Int × Int × Int
  | 0 => (0, B * K, 0)
  | k + 1 => ((stt B T K Lt N k).1 + Lt k,
      takeP B T K (stt B T K Lt N k).2.1 (stt B T K Lt N k).2.2 ((stt B T K Lt N k).1 + Lt k) (N k),
      takeL (stt B T K Lt N k).2.2 ((stt B T K Lt N k).1 + Lt k) (N k))
theorem stt_ok {B T K : Int} (g : BkOk B T K (B * K) 0) (Lt N : Nat → Int) : ∀ k, BkOk B T K (stt B T K Lt N k).2.1 (stt B T K Lt N k).2.2
  | 0 => g
  | k + 1 => (stt_ok g Lt N k).take _ _
theorem stt_now {B T K : Int} {Lt N : Nat → Int} {len : Nat} (h : ∀ i, i < len → 0 ≤ Lt i ∧ Lt i ≤ 65535) : ∀ k, k ≤ len → 0 ≤ (stt B T K Lt N k).1 ∧ (stt B T K Lt N k).1 ≤ 65535 * k
  | 0, _ => by simp [stt]
  | k + 1, hk => by
    have h1 := stt_now (B := B) (T := T) (K := K) (N := N) h k (by omega)
    have h2 := h k (by omega)
    simp only [stt]; omega
theorem ceil_bd {x T : Int} (hT : 0 < T) : ((x + T - 1) / T - 1) * T < x ∧ x ≤ (x + T - 1) / T * T := by
  have h1 : (x + T - 1) / T * T ≤ x + T - 1 := Int.ediv_mul_le _ (by omega)
  have h2 := Int.lt_ediv_add_one_mul_self (x + T - 1) hT
  rw [Int.add_mul] at h2
  rw [Int.sub_mul]
  omega
section
variable {B T K P L now n : Int}
/-- At a reading t from the one that counts on. -/
theorem atP_at (g : BkOk B T K P L) {t : Int} (h0 : atL L now ≤ t) (h1 : t ≤ 1099511627776) (hlow : atP B T K P L now < B * K) : atP B T K P L t = min (B * K) (atP B T K P L now + (t - atL L now) * T) := by
  have hl := atL_bd (now := now) g.l1 g.l2
  have e1 : atL L t = t := by unfold atL clipT; omega
  have e2 := atP_eq (now := now) g
  have e3 := atP_eq (now := t) g
  rw [e1] at e3
  have e4 : (t - L) * T = (atL L now - L) * T + (t - atL L now) * T := by rw [← Int.add_mul]; congr 1; omega
  rw [e3, e4]
  omega
theorem wait_none (g : BkOk B T K P L) (h1 : 1 ≤ n) (h2 : n ≤ B) (hE : whenE B T K P L now n ≠ 0) : whenE B T K P L now n = 3 ∧ whenT B T K P L now n = 0 ∧ takeOk B T K P L 1099511627776 n = false := by
  unfold whenE at hE
  rw [if_neg (by omega), if_neg (by omega)] at hE
  by_cases h3 : n * K ≤ atP B T K P L now
  · rw [if_pos h3] at hE; exact absurd rfl hE
  rw [if_neg h3] at hE
  have hnB : n * K ≤ B * K := Int.mul_le_mul_of_nonneg_right h2 (by have := g.k1; omega)
  have hl := atL_bd (now := now) g.l1 g.l2
  have ex : takeOk B T K P L 1099511627776 n = false ↔ ¬ n * K ≤ atP B T K P L 1099511627776 := by
    simp only [takeOk, show ¬ n < 1 by omega, h2, decide_false, decide_true, Bool.false_or, Bool.true_and, decide_eq_false_iff_not]
  by_cases hT : T = 0
  · refine ⟨by rw [whenE, if_neg (by omega), if_neg (by omega), if_neg h3, if_pos hT], by rw [whenT, if_neg (by omega), if_neg (by omega), if_neg h3, if_pos hT], ex.2 ?_⟩
    have e1 : atP B T K P L now = P := by rw [atP, if_pos hT]
    have e2 : atP B T K P L 1099511627776 = P := by rw [atP, if_pos hT]
    rw [e2, ← e1]; exact h3
  · rw [if_neg hT] at hE
    by_cases h4 : 1099511627776 < whenA B T K P L now n
    · refine ⟨by rw [whenE, if_neg (by omega), if_neg (by omega), if_neg h3, if_neg hT, if_pos h4], by rw [whenT, if_neg (by omega), if_neg (by omega), if_neg h3, if_neg hT, if_pos h4], ex.2 ?_⟩
      have ht : 0 < T := by have := g.t1; omega
      rw [atP_at g (now := now) hl.2.2 (Int.le_refl _) (by omega)]
      unfold whenA at h4
      have hc := ceil_bd (x := n * K - atP B T K P L now) ht
      have h5 : (1099511627776 - atL L now) * T ≤ ((n * K - atP B T K P L now + T - 1) / T - 1) * T := Int.mul_le_mul_of_nonneg_right (by omega) (by omega)
      omega
    · rw [if_neg h4] at hE; exact absurd rfl hE
theorem wait_some (g : BkOk B T K P L) (hn0 : 0 ≤ now) (hn1 : now ≤ 1099511627776) (h1 : 1 ≤ n) (h2 : n ≤ B) (hE : whenE B T K P L now n = 0) :
    now ≤ whenT B T K P L now n ∧ whenT B T K P L now n ≤ 1099511627776 ∧ takeOk B T K P L (whenT B T K P L now n) n = true ∧ (whenT B T K P L now n = now ∨ takeOk B T K P L (whenT B T K P L now n - 1) n = false) := by
  have ec : clipT now = now := clipT_in hn0 hn1
  have hl := atL_bd (now := now) g.l1 g.l2
  have hln : now ≤ atL L now := by unfold atL; omega
  have hnB : n * K ≤ B * K := Int.mul_le_mul_of_nonneg_right h2 (by have := g.k1; omega)
  have ext : ∀ t, takeOk B T K P L t n = decide (n * K ≤ atP B T K P L t) := fun t => by
    simp only [takeOk, show ¬ n < 1 by omega, h2, decide_false, decide_true, Bool.false_or, Bool.true_and]
  unfold whenE at hE
  rw [if_neg (by omega), if_neg (by omega)] at hE
  by_cases h3 : n * K ≤ atP B T K P L now
  · have e : whenT B T K P L now n = now := by rw [whenT, if_neg (by omega), if_neg (by omega), if_pos h3, ec]
    rw [e]
    exact ⟨Int.le_refl _, hn1, by rw [ext, decide_eq_true h3], Or.inl rfl⟩
  rw [if_neg h3] at hE
  by_cases hT : T = 0
  · rw [if_pos hT] at hE; exact absurd hE (by omega)
  rw [if_neg hT] at hE
  by_cases h4 : 1099511627776 < whenA B T K P L now n
  · rw [if_pos h4] at hE; exact absurd hE (by omega)
  have e : whenT B T K P L now n = whenA B T K P L now n := by rw [whenT, if_neg (by omega), if_neg (by omega), if_neg h3, if_neg hT, if_neg h4]
  rw [e]
  have ht : 0 < T := by have := g.t1; omega
  have hc := ceil_bd (x := n * K - atP B T K P L now) ht
  have hd : 1 ≤ (n * K - atP B T K P L now + T - 1) / T := by
    apply (Int.le_ediv_iff_mul_le ht).2; omega
  have hA : whenA B T K P L now n = atL L now + (n * K - atP B T K P L now + T - 1) / T := rfl
  refine ⟨by omega, by omega, ?_, Or.inr ?_⟩
  · rw [ext, atP_at g (now := now) (by omega) (by omega) (by omega)]
    have e5 : whenA B T K P L now n - atL L now = (n * K - atP B T K P L now + T - 1) / T := by omega
    rw [e5, decide_eq_true]
    omega
  · rw [ext, atP_at g (now := now) (by omega) (by omega) (by omega)]
    have e5 : whenA B T K P L now n - 1 - atL L now = (n * K - atP B T K P L now + T - 1) / T - 1 := by omega
    rw [e5, decide_eq_false]
    omega
end
end Go.Proofs.Ytmdajndmobpgbaa.Bk

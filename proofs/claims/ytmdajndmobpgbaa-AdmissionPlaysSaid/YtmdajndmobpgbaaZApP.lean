/- Plain arithmetic of a token bucket: the reading that counts, the parts at a reading, what a Take leaves. No program here. Plain arithmetic of When: the reading that it tells is the least at which a Take succeeds. No program here. Plain: the least reading at which a Take succeeds. No program here. -/

namespace Go.Proofs.Ytmdajndmobpgbaa.Bk

/-- A reading within its limits. -/
def clipT (n : Int) : Int := max 0 (min n 1099511627776)
/-- The reading that counts. -/
def atL (L now : Int) : Int := max (clipT now) L
/-- The parts at a reading, as the code counts them. -/
def atP (B T K P L now : Int) : Int :=
  if T = 0 then P else min (B * K) (P + min (atL L now - L) ((B * K - P) / T + 1) * T)
def takeOk (B T K P L now n : Int) : Bool := decide (n < 1) || (decide (n ≤ B) && decide (n * K ≤ atP B T K P L now))
def takeP (B T K P L now n : Int) : Int :=
  if n < 1 then P else if n ≤ B ∧ n * K ≤ atP B T K P L now then atP B T K P L now - n * K else atP B T K P L now
def takeL (L now n : Int) : Int := if n < 1 then L else atL L now

/-- The state of a bucket: burst, tokens, ticks, parts, last. -/
structure BkOk (B T K P L : Int) : Prop where
  b1 : 1 ≤ B
  b2 : B ≤ 1048576
  t1 : 0 ≤ T
  t2 : T ≤ 1048576
  k1 : 1 ≤ K
  k2 : K ≤ 1048576
  p1 : 0 ≤ P
  p2 : P ≤ B * K
  l1 : 0 ≤ L
  l2 : L ≤ 1099511627776

theorem clipT_bd (n : Int) : 0 ≤ clipT n ∧ clipT n ≤ 1099511627776 := by unfold clipT; omega
theorem clipT_in {n : Int} (h0 : 0 ≤ n) (h1 : n ≤ 1099511627776) : clipT n = n := by unfold clipT; omega
theorem atL_bd {L now : Int} (h0 : 0 ≤ L) (h1 : L ≤ 1099511627776) : L ≤ atL L now ∧ 0 ≤ atL L now ∧ atL L now ≤ 1099511627776 := by
  have := clipT_bd now; unfold atL; omega
theorem mul_bd {a b : Int} (a0 : 0 ≤ a) (a1 : a ≤ 1048576) (b0 : 0 ≤ b) (b1 : b ≤ 1048576) : 0 ≤ a * b ∧ a * b ≤ 1099511627776 :=
  ⟨Int.mul_nonneg a0 b0, by have := Int.mul_le_mul a1 b1 b0 (by omega : (0 : Int) ≤ 1048576); omega⟩
theorem BkOk.full {B T K P L : Int} (g : BkOk B T K P L) : 1 ≤ B * K ∧ B * K ≤ 1099511627776 := by
  have h := mul_bd (by have := g.b1; omega) g.b2 (by have := g.k1; omega) g.k2
  have h1 : 1 * 1 ≤ B * K := Int.mul_le_mul g.b1 g.k1 (by omega) (by have := g.b1; omega)
  omega
/-- The parts are those that the document names. -/
theorem atP_eq {B T K P L now : Int} (g : BkOk B T K P L) : atP B T K P L now = min (B * K) (P + (atL L now - L) * T) := by
  have hb := atL_bd (now := now) g.l1 g.l2
  have hp := g.p2
  unfold atP
  split
  · next h => subst h; simp; omega
  · next h =>
    have ht : 0 < T := by have := g.t1; omega
    by_cases hc : atL L now - L ≤ (B * K - P) / T + 1
    · rw [Int.min_eq_left hc]
    · have e0 : min (atL L now - L) ((B * K - P) / T + 1) = (B * K - P) / T + 1 := by omega
      rw [e0]
      have e1 : B * K - P < ((B * K - P) / T + 1) * T := by
        have := Int.lt_ediv_add_one_mul_self (B * K - P) ht; exact this
      have e2 : ((B * K - P) / T + 1) * T ≤ (atL L now - L) * T := Int.mul_le_mul_of_nonneg_right (by omega) (by omega)
      rw [Int.min_eq_left (by omega), Int.min_eq_left (by omega)]
theorem atP_bd {B T K P L now : Int} (g : BkOk B T K P L) : P ≤ atP B T K P L now ∧ 0 ≤ atP B T K P L now ∧ atP B T K P L now ≤ B * K := by
  rw [atP_eq g]
  have hb := atL_bd (now := now) g.l1 g.l2
  have := Int.mul_nonneg (show 0 ≤ atL L now - L by omega) g.t1
  have := g.p1; have := g.p2
  omega
theorem div_step {B T K P L : Int} (g : BkOk B T K P L) (hT : T ≠ 0) : 0 ≤ (B * K - P) / T + 1 ∧ (B * K - P) / T + 1 ≤ 1099511627777 ∧ 0 ≤ ((B * K - P) / T + 1) * T ∧ ((B * K - P) / T + 1) * T ≤ 1099513724928 := by
  have ht : 0 < T := by have := g.t1; omega
  have hf := g.full; have := g.p1; have := g.p2; have := g.t2
  have h0 : 0 ≤ (B * K - P) / T := Int.ediv_nonneg (by omega) (by omega)
  have h1 : (B * K - P) / T * T ≤ B * K - P := Int.ediv_mul_le _ (by omega)
  have h2 : (B * K - P) / T ≤ B * K - P := Int.ediv_le_self _ (by omega)
  have h3 : 0 ≤ (B * K - P) / T * T := Int.mul_nonneg h0 (by omega)
  rw [Int.add_mul]
  omega
theorem min_step {B T K P L a : Int} (g : BkOk B T K P L) (hT : T ≠ 0) (h0 : 0 ≤ a) : 0 ≤ min a ((B * K - P) / T + 1) ∧ min a ((B * K - P) / T + 1) ≤ 1099511627777 ∧ 0 ≤ min a ((B * K - P) / T + 1) * T ∧ min a ((B * K - P) / T + 1) * T ≤ 1099513724928 := by
  have h := div_step g hT
  have ht : 0 < T := by have := g.t1; omega
  have h1 : 0 ≤ min a ((B * K - P) / T + 1) := by omega
  have h2 : min a ((B * K - P) / T + 1) * T ≤ ((B * K - P) / T + 1) * T := Int.mul_le_mul_of_nonneg_right (by omega) (by omega)
  exact ⟨h1, by omega, Int.mul_nonneg h1 (by omega), by omega⟩
theorem takeP_bd {B T K P L now n : Int} (g : BkOk B T K P L) : 0 ≤ takeP B T K P L now n ∧ takeP B T K P L now n ≤ B * K := by
  have h := atP_bd (now := now) g
  have := g.p1; have := g.p2
  unfold takeP
  split
  · omega
  · next hn =>
    have : 0 ≤ n * K := Int.mul_nonneg (by omega) (by have := g.k1; omega)
    split <;> omega
theorem takeL_bd {L now n : Int} (h0 : 0 ≤ L) (h1 : L ≤ 1099511627776) : L ≤ takeL L now n ∧ takeL L now n ≤ 1099511627776 := by
  have := atL_bd (now := now) h0 h1
  unfold takeL; split <;> omega
/-- A Take keeps the state good. -/
theorem BkOk.take {B T K P L : Int} (g : BkOk B T K P L) (now n : Int) : BkOk B T K (takeP B T K P L now n) (takeL L now n) :=
  { g with p1 := (takeP_bd g).1, p2 := (takeP_bd g).2, l1 := by have := takeL_bd (now := now) (n := n) g.l1 g.l2; have := g.l1; omega, l2 := (takeL_bd g.l1 g.l2).2 }
theorem BkOk.new {B T K : Int} (b1 : 1 ≤ B) (b2 : B ≤ 1048576) (t1 : 0 ≤ T) (t2 : T ≤ 1048576) (k1 : 1 ≤ K) (k2 : K ≤ 1048576) : BkOk B T K (B * K) 0 :=
  ⟨b1, b2, t1, t2, k1, k2, Int.mul_nonneg (by omega) (by omega), Int.le_refl _, by omega, by omega⟩

/-- When: the error's number, and the reading. -/
def whenA (B T K P L now n : Int) : Int := atL L now + (n * K - atP B T K P L now + T - 1) / T
def whenE (B T K P L now n : Int) : Int :=
  if n < 1 then 0 else if B < n then 1 else if n * K ≤ atP B T K P L now then 0 else if T = 0 then 3 else
  if 1099511627776 < whenA B T K P L now n then 3 else 0
def whenT (B T K P L now n : Int) : Int :=
  if n < 1 then clipT now else if B < n then 0 else if n * K ≤ atP B T K P L now then clipT now else if T = 0 then 0 else
  if 1099511627776 < whenA B T K P L now n then 0 else whenA B T K P L now n
theorem whenA_bd {B T K P L now n : Int} (g : BkOk B T K P L) (hT : T ≠ 0) (h1 : 1 ≤ n) (h2 : n ≤ B) (h3 : atP B T K P L now < n * K) :
    0 ≤ n * K ∧ n * K ≤ 1099511627776 ∧ 0 ≤ n * K - atP B T K P L now + T - 1 ∧ n * K - atP B T K P L now + T - 1 ≤ 1099512676352 ∧
    0 ≤ (n * K - atP B T K P L now + T - 1) / T ∧ (n * K - atP B T K P L now + T - 1) / T ≤ 1099512676352 ∧ 0 ≤ whenA B T K P L now n ∧ whenA B T K P L now n ≤ 2199024304128 := by
  have hb := atP_bd (now := now) g
  have hl := atL_bd (now := now) g.l1 g.l2
  have ht : 0 < T := by have := g.t1; omega
  have := g.t2; have := g.b2
  have hm := mul_bd (a := n) (b := K) (by omega) (by omega) (by have := g.k1; omega) g.k2
  have h4 : 0 ≤ (n * K - atP B T K P L now + T - 1) / T := Int.ediv_nonneg (by omega) (by omega)
  have h5 : (n * K - atP B T K P L now + T - 1) / T ≤ n * K - atP B T K P L now + T - 1 := Int.ediv_le_self _ (by omega)
  unfold whenA
  omega

/-- At the reading of a Take, behind it. -/
theorem again {B T K P L : Int} (g : BkOk B T K P L) (now n : Int) :
    atP B T K (takeP B T K P L now n) (takeL L now n) now = atP B T K P L now - (if takeOk B T K P L now n = true then max 0 n * K else 0) := by
  by_cases h1 : n < 1
  · have e1 : takeOk B T K P L now n = true := by simp [takeOk, h1]
    have e2 : takeP B T K P L now n = P := by simp [takeP, h1]
    have e3 : takeL L now n = L := by simp [takeL, h1]
    rw [e1, e2, e3, if_pos rfl, Int.max_eq_left (by omega)]
    omega
  · have e3 : takeL L now n = atL L now := by simp [takeL, h1]
    have hl := atL_bd (now := now) g.l1 g.l2
    have e4 : atL (atL L now) now = atL L now := by unfold atL; omega
    have gt := g.take now n
    rw [atP_eq gt, e3, e4]
    have hz : (atL L now - atL L now) * T = 0 := by rw [Int.sub_self, Int.zero_mul]
    rw [hz]
    have ht := takeP_bd (now := now) (n := n) g
    have e5 : min (B * K) (takeP B T K P L now n + 0) = takeP B T K P L now n := by omega
    rw [e5]
    by_cases h2 : n ≤ B ∧ n * K ≤ atP B T K P L now
    · have e1 : takeOk B T K P L now n = true := by simp [takeOk, h2]
      have e2 : takeP B T K P L now n = atP B T K P L now - n * K := by rw [takeP, if_neg h1, if_pos h2]
      rw [e1, e2, if_pos rfl, Int.max_eq_right (by omega)]
    · have e1 : takeOk B T K P L now n = false := by simp only [takeOk, h1, decide_false, Bool.false_or]; rw [← Bool.decide_and]; exact decide_eq_false h2
      have e2 : takeP B T K P L now n = atP B T K P L now := by rw [takeP, if_neg h1, if_neg h2]
      rw [e1, e2, if_neg (by simp)]
      omega
/-- The level never falls by itself. -/
theorem atP_mono {B T K P L : Int} (g : BkOk B T K P L) {a b : Int} (h : a ≤ b) : atP B T K P L a ≤ atP B T K P L b := by
  rw [atP_eq g, atP_eq g]
  have h1 : atL L a ≤ atL L b := by unfold atL clipT; omega
  have := Int.mul_le_mul_of_nonneg_right (show atL L a - L ≤ atL L b - L by omega) g.t1
  omega
theorem takeOk_iff {B T K P L : Int} (g : BkOk B T K P L) (now : Int) {n : Int} (h : 0 ≤ n) : takeOk B T K P L now n = decide (n ≤ atP B T K P L now / K) := by
  have hb := atP_bd (now := now) g
  have hk := g.k1
  rw [Bool.eq_iff_iff]
  simp only [takeOk, Bool.or_eq_true, Bool.and_eq_true, decide_eq_true_eq]
  constructor
  · rintro (h1 | ⟨_, h1⟩)
    · exact Int.le_trans (by omega : n ≤ 0) (Int.ediv_nonneg hb.2.1 (by omega))
    · exact (Int.le_ediv_iff_mul_le (by omega)).2 h1
  · intro h1
    have h2 := (Int.le_ediv_iff_mul_le (by omega)).1 h1
    by_cases h0 : n < 1
    · exact Or.inl h0
    · refine Or.inr ⟨?_, h2⟩
      have h3 : n * K ≤ B * K := by omega
      exact Int.le_of_mul_le_mul_right h3 (by omega)
theorem lev_bd {B T K P L : Int} (g : BkOk B T K P L) (now : Int) : 0 ≤ atP B T K P L now / K ∧ atP B T K P L now / K ≤ B := by
  have hb := atP_bd (now := now) g
  have hk := g.k1
  refine ⟨Int.ediv_nonneg hb.2.1 (by omega), ?_⟩
  have := Int.ediv_le_ediv (c := K) (by omega) hb.2.2
  rwa [Int.mul_ediv_cancel _ (by omega)] at this
theorem lev_again {B T K P L : Int} (g : BkOk B T K P L) (now n : Int) :
    atP B T K (takeP B T K P L now n) (takeL L now n) now / K = atP B T K P L now / K - (if takeOk B T K P L now n = true then max 0 n else 0) := by
  rw [again g]
  have hk := g.k1
  split
  · rw [Int.sub_mul_ediv_right _ _ (by omega)]
  · simp
theorem lev_new {B T K : Int} (g : BkOk B T K (B * K) 0) (now : Int) : atP B T K (B * K) 0 now / K = B := by
  have hb := atP_bd (now := now) g
  have e : atP B T K (B * K) 0 now = B * K := by omega
  rw [e, Int.mul_ediv_cancel _ (by have := g.k1; omega)]
end Go.Proofs.Ytmdajndmobpgbaa.Bk

namespace Go.Proofs.Ytmdajndmobpgbaa.Bk

/-- The state behind k Takes: the reading, the parts, the last reading. -/
def stt (B T K : Int) (Lt N : Nat → Int) : Nat → Int × Int × Int
  | 0 => (0, B * K, 0)
  | k + 1 => ((stt B T K Lt N k).1 + Lt k,
      takeP B T K (stt B T K Lt N k).2.1 (stt B T K Lt N k).2.2 ((stt B T K Lt N k).1 + Lt k) (N k),
      takeL (stt B T K Lt N k).2.2 ((stt B T K Lt N k).1 + Lt k) (N k))
theorem stt_ok {B T K : Int} (g : BkOk B T K (B * K) 0) (Lt N : Nat → Int) : ∀ k, BkOk B T K (stt B T K Lt N k).2.1 (stt B T K Lt N k).2.2
  | 0 => g
  | k + 1 => (stt_ok g Lt N k).take _ _
theorem stt_now {B T K : Int} {Lt N : Nat → Int} {len : Nat} (h : ∀ i, i < len → 0 ≤ Lt i ∧ Lt i ≤ 65535) : ∀ k, k ≤ len → 0 ≤ (stt B T K Lt N k).1 ∧ (stt B T K Lt N k).1 ≤ 65535 * k
  | 0, _ => by simp [stt]
  | k + 1, hk => by
    have h1 := stt_now (B := B) (T := T) (K := K) (N := N) h k (by omega)
    have h2 := h k (by omega)
    simp only [stt]; omega
theorem ceil_bd {x T : Int} (hT : 0 < T) : ((x + T - 1) / T - 1) * T < x ∧ x ≤ (x + T - 1) / T * T := by
  have h1 : (x + T - 1) / T * T ≤ x + T - 1 := Int.ediv_mul_le _ (by omega)
  have h2 := Int.lt_ediv_add_one_mul_self (x + T - 1) hT
  rw [Int.add_mul] at h2
  rw [Int.sub_mul]
  omega
section
variable {B T K P L now n : Int}
/-- At a reading t from the one that counts on. -/
theorem atP_at (g : BkOk B T K P L) {t : Int} (h0 : atL L now ≤ t) (h1 : t ≤ 1099511627776) (hlow : atP B T K P L now < B * K) : atP B T K P L t = min (B * K) (atP B T K P L now + (t - atL L now) * T) := by
  have hl := atL_bd (now := now) g.l1 g.l2
  have e1 : atL L t = t := by unfold atL clipT; omega
  have e2 := atP_eq (now := now) g
  have e3 := atP_eq (now := t) g
  rw [e1] at e3
  have e4 : (t - L) * T = (atL L now - L) * T + (t - atL L now) * T := by rw [← Int.add_mul]; congr 1; omega
  rw [e3, e4]
  omega
theorem wait_none (g : BkOk B T K P L) (h1 : 1 ≤ n) (h2 : n ≤ B) (hE : whenE B T K P L now n ≠ 0) : whenE B T K P L now n = 3 ∧ whenT B T K P L now n = 0 ∧ takeOk B T K P L 1099511627776 n = false := by
  unfold whenE at hE
  rw [if_neg (by omega), if_neg (by omega)] at hE
  by_cases h3 : n * K ≤ atP B T K P L now
  · rw [if_pos h3] at hE; exact absurd rfl hE
  rw [if_neg h3] at hE
  have hnB : n * K ≤ B * K := Int.mul_le_mul_of_nonneg_right h2 (by have := g.k1; omega)
  have hl := atL_bd (now := now) g.l1 g.l2
  have ex : takeOk B T K P L 1099511627776 n = false ↔ ¬ n * K ≤ atP B T K P L 1099511627776 := by
    simp only [takeOk, show ¬ n < 1 by omega, h2, decide_false, decide_true, Bool.false_or, Bool.true_and, decide_eq_false_iff_not]
  by_cases hT : T = 0
  · refine ⟨by rw [whenE, if_neg (by omega), if_neg (by omega), if_neg h3, if_pos hT], by rw [whenT, if_neg (by omega), if_neg (by omega), if_neg h3, if_pos hT], ex.2 ?_⟩
    have e1 : atP B T K P L now = P := by rw [atP, if_pos hT]
    have e2 : atP B T K P L 1099511627776 = P := by rw [atP, if_pos hT]
    rw [e2, ← e1]; exact h3
  · rw [if_neg hT] at hE
    by_cases h4 : 1099511627776 < whenA B T K P L now n
    · refine ⟨by rw [whenE, if_neg (by omega), if_neg (by omega), if_neg h3, if_neg hT, if_pos h4], by rw [whenT, if_neg (by omega), if_neg (by omega), if_neg h3, if_neg hT, if_pos h4], ex.2 ?_⟩
      have ht : 0 < T := by have := g.t1; omega
      rw [atP_at g (now := now) hl.2.2 (Int.le_refl _) (by omega)]
      unfold whenA at h4
      have hc := ceil_bd (x := n * K - atP B T K P L now) ht
      have h5 : (1099511627776 - atL L now) * T ≤ ((n * K - atP B T K P L now + T - 1) / T - 1) * T := Int.mul_le_mul_of_nonneg_right (by omega) (by omega)
      omega
    · rw [if_neg h4] at hE; exact absurd rfl hE
theorem wait_some (g : BkOk B T K P L) (hn0 : 0 ≤ now) (hn1 : now ≤ 1099511627776) (h1 : 1 ≤ n) (h2 : n ≤ B) (hE : whenE B T K P L now n = 0) :
    now ≤ whenT B T K P L now n ∧ whenT B T K P L now n ≤ 1099511627776 ∧ takeOk B T K P L (whenT B T K P L now n) n = true ∧ (whenT B T K P L now n = now ∨ takeOk B T K P L (whenT B T K P L now n - 1) n = false) := by
  have ec : clipT now = now := clipT_in hn0 hn1
  have hl := atL_bd (now := now) g.l1 g.l2
  have hln : now ≤ atL L now := by unfold atL; omega
  have hnB : n * K ≤ B * K := Int.mul_le_mul_of_nonneg_right h2 (by have := g.k1; omega)
  have ext : ∀ t, takeOk B T K P L t n = decide (n * K ≤ atP B T K P L t) := fun t => by
    simp only [takeOk, show ¬ n < 1 by omega, h2, decide_false, decide_true, Bool.false_or, Bool.true_and]
  unfold whenE at hE
  rw [if_neg (by omega), if_neg (by omega)] at hE
  by_cases h3 : n * K ≤ atP B T K P L now
  · have e : whenT B T K P L now n = now := by rw [whenT, if_neg (by omega), if_neg (by omega), if_pos h3, ec]
    rw [e]
    exact ⟨Int.le_refl _, hn1, by rw [ext, decide_eq_true h3], Or.inl rfl⟩
  rw [if_neg h3] at hE
  by_cases hT : T = 0
  · rw [if_pos hT] at hE; exact absurd hE (by omega)
  rw [if_neg hT] at hE
  by_cases h4 : 1099511627776 < whenA B T K P L now n
  · rw [if_pos h4] at hE; exact absurd hE (by omega)
  have e : whenT B T K P L now n = whenA B T K P L now n := by rw [whenT, if_neg (by omega), if_neg (by omega), if_neg h3, if_neg hT, if_neg h4]
  rw [e]
  have ht : 0 < T := by have := g.t1; omega
  have hc := ceil_bd (x := n * K - atP B T K P L now) ht
  have hd : 1 ≤ (n * K - atP B T K P L now + T - 1) / T := by
    apply (Int.le_ediv_iff_mul_le ht).2; omega
  have hA : whenA B T K P L now n = atL L now + (n * K - atP B T K P L now + T - 1) / T := rfl
  refine ⟨by omega, by omega, ?_, Or.inr ?_⟩
  · rw [ext, atP_at g (now := now) (by omega) (by omega) (by omega)]
    have e5 : whenA B T K P L now n - atL L now = (n * K - atP B T K P L now + T - 1) / T := by omega
    rw [e5, decide_eq_true]
    omega
  · rw [ext, atP_at g (now := now) (by omega) (by omega) (by omega)]
    have e5 : whenA B T K P L now n - 1 - atL L now = (n * K - atP B T K P L now + T - 1) / T - 1 := by omega
    rw [e5, decide_eq_false]
    omega
end
end Go.Proofs.Ytmdajndmobpgbaa.Bk

namespace Go.Proofs.Ytmdajndmobpgbaa.Bk

section
variable {B T K P L now n : Int}
theorem takeOk_mono (g : BkOk B T K P L) (h1 : 1 ≤ n) {a b : Int} (hab : a ≤ b) (h : takeOk B T K P L a n = true) : takeOk B T K P L b n = true := by
  have hm := atP_mono g hab
  simp only [takeOk, show ¬ n < 1 by omega, decide_false, Bool.false_or, Bool.and_eq_true, decide_eq_true_eq] at h ⊢
  exact ⟨h.1, by omega⟩
theorem atL_clip (L now : Int) : atL L (clipT now) = atL L now := by unfold atL clipT; omega
theorem atP_clip : atP B T K P L (clipT now) = atP B T K P L now := by unfold atP; rw [atL_clip]
theorem takeOk_clip : takeOk B T K P L (clipT now) n = takeOk B T K P L now n := by unfold takeOk; rw [atP_clip]
theorem clip_clip : clipT (clipT now) = clipT now := by unfold clipT; omega
theorem whenA_clip : whenA B T K P L (clipT now) n = whenA B T K P L now n := by unfold whenA; rw [atL_clip, atP_clip]
theorem whenE_clip : whenE B T K P L (clipT now) n = whenE B T K P L now n := by unfold whenE; rw [atP_clip, whenA_clip]
theorem whenT_clip : whenT B T K P L (clipT now) n = whenT B T K P L now n := by unfold whenT; rw [atP_clip, whenA_clip, clip_clip]
theorem when_big (h1 : 1 ≤ n) (h2 : B < n) : whenT B T K P L now n = 0 ∧ whenE B T K P L now n = 1 := by
  refine ⟨?_, ?_⟩
  · unfold whenT; rw [if_neg (by omega), if_pos h2]
  · unfold whenE; rw [if_neg (by omega), if_pos h2]
theorem when_now (h1 : 1 ≤ n) (h2 : n ≤ B) (h : takeOk B T K P L now n = true) : whenT B T K P L now n = clipT now ∧ whenE B T K P L now n = 0 := by
  have h3 : n * K ≤ atP B T K P L now := by
    simp only [takeOk, show ¬ n < 1 by omega, decide_false, Bool.false_or, Bool.and_eq_true, decide_eq_true_eq] at h
    exact h.2
  refine ⟨?_, ?_⟩
  · unfold whenT; rw [if_neg (by omega), if_neg (by omega), if_pos h3]
  · unfold whenE; rw [if_neg (by omega), if_neg (by omega), if_pos h3]
theorem when_never (g : BkOk B T K P L) (h1 : 1 ≤ n) (h2 : n ≤ B) (h : takeOk B T K P L 1099511627776 n = false) : whenT B T K P L now n = 0 ∧ whenE B T K P L now n = 3 := by
  have hc := clipT_bd now
  by_cases hE : whenE B T K P L (clipT now) n = 0
  · obtain ⟨h3, h4, h5, _⟩ := wait_some g hc.1 hc.2 h1 h2 hE
    rw [takeOk_mono g h1 h4 h5] at h
    cases h
  · obtain ⟨h3, h4, _⟩ := wait_none g h1 h2 hE
    rw [whenE_clip] at h3
    rw [whenT_clip] at h4
    exact ⟨h4, h3⟩
theorem when_least (g : BkOk B T K P L) (h1 : 1 ≤ n) (h2 : n ≤ B) (h0 : takeOk B T K P L now n = false) {t : Int} (ht : t ≤ 1099511627776) (hb : clipT now < t) (ho : takeOk B T K P L t n = true) (hn : takeOk B T K P L (t - 1) n = false) : whenT B T K P L now n = t ∧ whenE B T K P L now n = 0 := by
  have hc := clipT_bd now
  have hE : whenE B T K P L (clipT now) n = 0 := by
    refine Classical.not_not.1 fun hE => ?_
    obtain ⟨_, _, h5⟩ := wait_none g h1 h2 hE
    rw [takeOk_mono g h1 ht ho] at h5
    cases h5
  obtain ⟨h3, h4, h5, h6⟩ := wait_some g hc.1 hc.2 h1 h2 hE
  rw [whenE_clip] at hE
  rw [whenT_clip] at h3 h4 h5 h6
  refine ⟨?_, hE⟩
  have h7 : takeOk B T K P L (whenT B T K P L now n - 1) n = false := by
    rcases h6 with h6 | h6
    · rw [h6, takeOk_clip] at h5
      rw [h0] at h5; cases h5
    · exact h6
  rcases Int.lt_trichotomy (whenT B T K P L now n) t with h | h | h
  · rw [takeOk_mono g h1 (show whenT B T K P L now n ≤ t - 1 by omega) h5] at hn; cases hn
  · exact h
  · rw [takeOk_mono g h1 (show t ≤ whenT B T K P L now n - 1 by omega) ho] at h7; cases h7
end
end Go.Proofs.Ytmdajndmobpgbaa.Bk

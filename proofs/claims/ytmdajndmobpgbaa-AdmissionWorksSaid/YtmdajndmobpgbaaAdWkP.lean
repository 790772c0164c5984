/- AdmissionWorks in plain Lean: what a second Start does, and what When tells. No program here. -/
import Derived.Test.YtmdajndmobpgbaaAdRunC
import Derived.Test.YtmdajndmobpgbaaBkWaitMath
namespace Go.Proofs.Ytmdajndmobpgbaa
open Go.RowKit
open Go.Proofs.Ytmdajndmobpgbaa.Fq
open Go.Proofs.Ytmdajndmobpgbaa.Bk

/-- No tenant with requests has the tokens at a reading. -/
def NoneAt (s : AS) (now : Int) : Prop := ∀ t, t < s.m → s.q t ≠ [] → s.takes t now = false
section
variable {s s' s1 s2 : AS} {a a' a1 a2 : List Nat} {o o' o1 o2 : List Int} {f1 : FQ} {en : Ent} {r : List Ent} {now : Int}
theorem take_twice {B T K P L : Int} (g : BkOk B T K P L) {n : Int} (h : takeOk B T K P L now n = false) : takeOk B T K (takeP B T K P L now n) (takeL L now n) now n = false := by
  have h1 := again g now n
  rw [h, if_neg (by simp), Int.sub_zero] at h1
  unfold takeOk at h ⊢
  rw [h1]; exact h
theorem take_mono {B T K P L n a b : Int} (g : BkOk B T K P L) (hab : a ≤ b) (h : takeOk B T K P L b n = false) : takeOk B T K P L a n = false := by
  have h1 := atP_mono g hab
  unfold takeOk at h ⊢
  simp only [Bool.or_eq_false_iff, Bool.and_eq_false_iff, decide_eq_false_iff_not] at h ⊢
  refine ⟨h.1, h.2.imp id fun h2 h3 => h2 (by omega)⟩
theorem failed_q (s : AS) (t : Nat) (now : Int) (i : Nat) : (s.failed t now).q i = s.q i := rfl
theorem failed_price (s : AS) (t : Nat) (now : Int) (i : Nat) : priceOf (s.failed t now) i = priceOf s i := rfl
theorem failed_ne {t i : Nat} (h : t ≠ i) (x : Int) : (s.failed t now).takes i x = s.takes i x := by
  have hb : (s.failed t now).bkt i = s.bkt i := AS.bkt_ne h _
  unfold AS.takes
  rw [hb, failed_price]
  rfl
theorem failed_self {t : Nat} (ok : LOk s a) (ht : t < s.m) (h : s.takes t now = false) : (s.failed t now).takes t now = false := by
  have hb : (s.failed t now).bkt t = (takeP (s.shr t).b (s.shr t).t (s.shr t).k (s.bkt t).1 (s.bkt t).2 now (priceOf s t), takeL (s.bkt t).2 now (priceOf s t)) := AS.bkt_self (by rw [ok.lk]; exact ht) _
  unfold AS.takes
  rw [hb, failed_price]
  exact take_twice (ok.bok t ht) h
theorem began_ne {i : Nat} (hi : f1.cur ≠ i) (x : Int) : (s.began f1 now en.1).q i = s.q i ∧ (s.began f1 now en.1).takes i x = s.takes i x := by
  have hq : (s.began f1 now en.1).q i = s.q i := AS.q_ne (s := (s.took f1.cur now).setF f1.pop) hi _
  have hb : (s.began f1 now en.1).bkt i = s.bkt i := AS.bkt_ne (s := s) hi _
  have hp : priceOf (s.began f1 now en.1) i = priceOf s i := by
    unfold priceOf
    rw [hq]
    rfl
  refine ⟨hq, ?_⟩
  unfold AS.takes
  rw [hb, hp]
  rfl
/-- Nothing starts where no tenant has the tokens. -/
theorem SLoop.noneAt (h : SLoop now s o a s' o' a') : LOk s a → NoneAt s now → o' = o := by
  induction h with
  | full s o a hn => exact fun _ _ => rfl
  | none s o a hn hb => exact fun _ _ => rfl
  | fail s o a f1 en r s' o' a' hn hc hl ht hs ih =>
    intro ok hN
    obtain ⟨h1, h2, h3, h4⟩ := ok.cur hc hl
    refine ih (ok.failed hc hl now) fun i hi hq => ?_
    by_cases e : f1.cur = i
    · subst e; exact failed_self ok h1 ht
    · rw [failed_ne e]; exact hN i hi hq
  | ok s o a f1 en r s' o' a' hn hc hl ht hs ih =>
    intro ok hN
    obtain ⟨h1, h2, h3, h4⟩ := ok.cur hc hl
    have := hN f1.cur h1 (by rw [h3]; simp)
    rw [ht] at this; cases this
/-- Behind a Start that leaves a slot no tenant has the tokens. -/
theorem SLoop.after (h : SLoop now s o a s' o' a') : LOk s a → (∀ i ∈ a, s.takes i now = false) → (s'.run.length : Int) < s'.slots → ∀ t, t < s'.m → s'.q t ≠ [] → s'.takes t now = false := by
  induction h with
  | full s o a hn => exact fun _ _ hs => absurd hs hn
  | none s o a hn hb =>
    intro ok ha _ t ht hq
    by_cases hm : t ∈ a
    · exact ha t hm
    · have := anyB_true (s := s.f) (t := t) (by rw [ok.lf]; exact ht) (by rw [ok.fe t ht hm]; exact hq)
      rw [hb] at this; cases this
  | fail s o a f1 en r s' o' a' hn hc hl ht hs ih =>
    intro ok ha
    obtain ⟨h1, h2, h3, h4⟩ := ok.cur hc hl
    refine ih (ok.failed hc hl now) fun i hi => ?_
    rcases List.mem_append.1 hi with hi | hi
    · rw [failed_ne (fun e => h2 (by rw [e]; exact hi))]; exact ha i hi
    · obtain rfl := List.mem_singleton.1 hi
      exact failed_self ok h1 ht
  | ok s o a f1 en r s' o' a' hn hc hl ht hs ih =>
    intro ok ha
    obtain ⟨h1, h2, h3, h4⟩ := ok.cur hc hl
    refine ih (ok.began hc hl hn now) fun i hi => ?_
    rw [(began_ne (s := s) (f1 := f1) (en := en) (fun e => h2 (by rw [e]; exact hi)) now).2]
    exact ha i hi
theorem SLoop.noneAfter (h : SLoop now s [] [] s' o' a') (ok : AOk s) (hr : (s'.run.length : Int) < s'.slots) : NoneAt s'.back now := h.after ok (fun _ hi => by cases hi) hr
/-- Something starts where a tenant has the tokens and a slot is free. -/
theorem SLoop.some (h : SLoop now s o a s' o' a') : LOk s a → (s.run.length : Int) < s.slots → ∀ t, t < s.m → t ∉ a → s.q t ≠ [] → s.takes t now = true → o.length < o'.length := by
  induction h with
  | full s o a hn => exact fun _ hs => absurd hs hn
  | none s o a hn hb =>
    intro ok _ t ht hm hq _
    have := anyB_true (s := s.f) (t := t) (by rw [ok.lf]; exact ht) (by rw [ok.fe t ht hm]; exact hq)
    rw [hb] at this; cases this
  | fail s o a f1 en r s' o' a' hn hc hl ht hs ih =>
    intro ok hr t htm hm hq htk
    obtain ⟨h1, h2, h3, h4⟩ := ok.cur hc hl
    have hne : f1.cur ≠ t := fun e => by rw [e, htk] at ht; cases ht
    refine ih (ok.failed hc hl now) hr t htm (fun hi => ?_) hq (by rw [failed_ne hne]; exact htk)
    rcases List.mem_append.1 hi with hi | hi
    · exact hm hi
    · exact hne (List.mem_singleton.1 hi).symm
  | ok s o a f1 en r s' o' a' hn hc hl ht hs ih =>
    intro ok hr t htm hm hq htk
    obtain ⟨o2, e, _⟩ := hs.facts
    rw [e, List.length_append, List.length_append, List.length_singleton]
    omega
/-- A Start is what it is. -/
theorem SLoop.det (h : SLoop now s o a s1 o1 a1) : LOk s a → SLoop now s o a s2 o2 a2 → s1 = s2 ∧ o1 = o2 ∧ a1 = a2 := by
  have noB : ∀ {s : AS} {a : List Nat} {f1 : FQ} {en : Ent} {r : List Ent}, LOk s a → Chs s.f f1 → f1.lst f1.cur = en :: r → anyB s.f = false → False := fun {s a f1 en r} ok hc hl hb => by
    obtain ⟨h1, h2, h3, h4⟩ := ok.cur hc hl
    have := anyB_true (s := s.f) (t := f1.cur) (by rw [ok.lf]; exact h1) (by rw [h4]; simp)
    rw [hb] at this; cases this
  induction h with
  | full s o a hn =>
    intro ok h2
    cases h2 with
    | full => exact ⟨rfl, rfl, rfl⟩
    | none _ _ _ hn2 => exact absurd hn2 hn
    | fail _ _ _ _ _ _ _ _ _ hn2 => exact absurd hn2 hn
    | ok _ _ _ _ _ _ _ _ _ hn2 => exact absurd hn2 hn
  | none s o a hn hb =>
    intro ok h2
    cases h2 with
    | full _ _ _ hn2 => exact absurd hn hn2
    | none => exact ⟨rfl, rfl, rfl⟩
    | fail _ _ _ f1 en r _ _ _ _ hc hl => exact (noB ok hc hl hb).elim
    | ok _ _ _ f1 en r _ _ _ _ hc hl => exact (noB ok hc hl hb).elim
  | fail s o a f1 en r s' o' a' hn hc hl ht hs ih =>
    intro ok h2
    cases h2 with
    | full _ _ _ hn2 => exact absurd hn hn2
    | none _ _ _ _ hb => exact (noB ok hc hl hb).elim
    | fail _ _ _ f2 en2 r2 _ _ _ _ hc2 hl2 ht2 hs2 =>
      obtain rfl := hc.det hc2
      exact ih (ok.failed hc hl now) hs2
    | ok _ _ _ f2 en2 r2 _ _ _ _ hc2 hl2 ht2 =>
      obtain rfl := hc.det hc2
      rw [ht] at ht2; cases ht2
  | ok s o a f1 en r s' o' a' hn hc hl ht hs ih =>
    intro ok h2
    cases h2 with
    | full _ _ _ hn2 => exact absurd hn hn2
    | none _ _ _ _ hb => exact (noB ok hc hl hb).elim
    | fail _ _ _ f2 en2 r2 _ _ _ _ hc2 hl2 ht2 =>
      obtain rfl := hc.det hc2
      rw [ht] at ht2; cases ht2
    | ok _ _ _ f2 en2 r2 _ _ _ _ hc2 hl2 ht2 hs2 =>
      obtain rfl := hc.det hc2
      rw [hl] at hl2
      obtain ⟨rfl, rfl⟩ := List.cons.inj hl2
      exact ih (ok.began hc hl hn now) hs2
/-- Where When tells nothing, no reading is early or late enough. -/
theorem wBest_none_at {s : AS} {now : Int} (ok : AOk s) (hn0 : 0 ≤ now) (hn1 : now ≤ 1099511627776) : ∀ k, k ≤ s.m → wBest s now k = none → ∀ t, t < k → s.q t ≠ [] → ∀ y, y ≤ 1099511627776 → s.takes t y = false
  | 0, _, _, t, ht, _, _, _ => by omega
  | k + 1, hk, h, t, ht, hqt, y, hy => by
    have hw : wBest s now (k + 1) = wStep s now k (wBest s now k) := rfl
    rw [hw] at h
    unfold wStep at h
    by_cases hq : s.q k = []
    · rw [if_pos hq] at h
      by_cases e : t = k
      · subst e; exact absurd hq hqt
      · exact wBest_none_at ok hn0 hn1 k (by omega) h t (by omega) hqt y hy
    · rw [if_neg hq] at h
      by_cases hE : whenE (s.shr k).b (s.shr k).t (s.shr k).k (s.bkt k).1 (s.bkt k).2 now (priceOf s k) = 0
      · rw [if_pos hE] at h
        cases ho : wBest s now k with
        | none => rw [ho] at h; cases h
        | some z =>
          rw [ho] at h
          unfold wPick at h
          dsimp only at h
          split at h <;> cases h
      · rw [if_neg hE] at h
        by_cases e : t = k
        · subst e
          have g := ok.bok t (by omega)
          have hpr : 1 ≤ priceOf s t ∧ priceOf s t ≤ (s.shr t).b := by
            obtain ⟨e, l, he⟩ : ∃ e l, s.q t = e :: l := by
              cases hqq : s.q t with
              | nil => exact absurd hqq hq
              | cons e l => exact ⟨e, l, rfl⟩
            have hz := ok.sz t (by omega) e (by rw [he]; simp)
            have hb := g.b1
            unfold priceOf
            rw [he]
            dsimp only
            omega
          exact take_mono g hy (wait_none g hpr.1 hpr.2 hE).2.2
        · exact wBest_none_at ok hn0 hn1 k (by omega) h t (by omega) hqt y hy
/-- What When tells, if it tells a reading. -/
theorem wBest_some (ok : AOk s) (hn0 : 0 ≤ now) (hn1 : now ≤ 1099511627776) : ∀ k, k ≤ s.m → ∀ x, wBest s now k = some x → (∃ t, t < k ∧ s.q t ≠ [] ∧ s.takes t x = true) ∧ x ≤ 1099511627776 ∧ now ≤ x ∧
    ∀ t, t < k → s.q t ≠ [] → ∀ y, now ≤ y → y < x → s.takes t y = false
  | 0, _, x, h => by cases h
  | k + 1, hk, x, h => by
    have ih := wBest_some ok hn0 hn1 k (by omega)
    have hw : wBest s now (k + 1) = wStep s now k (wBest s now k) := rfl
    rw [hw] at h
    unfold wStep at h
    by_cases hq : s.q k = []
    · rw [if_pos hq] at h
      obtain ⟨⟨t, ht, h1, h2⟩, h3, h4, h5⟩ := ih x h
      refine ⟨⟨t, by omega, h1, h2⟩, h3, h4, fun i hi hqi => ?_⟩
      by_cases e : i = k
      · subst e; exact absurd hq hqi
      · exact h5 i (by omega) hqi
    · rw [if_neg hq] at h
      have g := ok.bok k (by omega)
      have hpr : 1 ≤ priceOf s k ∧ priceOf s k ≤ (s.shr k).b := by
        obtain ⟨e, l, he⟩ : ∃ e l, s.q k = e :: l := by
          cases hqq : s.q k with
          | nil => exact absurd hqq hq
          | cons e l => exact ⟨e, l, rfl⟩
        have hz := ok.sz k (by omega) e (by rw [he]; simp)
        have hb := g.b1
        unfold priceOf
        rw [he]
        dsimp only
        omega
      by_cases hE : whenE (s.shr k).b (s.shr k).t (s.shr k).k (s.bkt k).1 (s.bkt k).2 now (priceOf s k) = 0
      · rw [if_pos hE] at h
        obtain ⟨w1, w2, w3, w4⟩ := wait_some g hn0 hn1 hpr.1 hpr.2 hE
        generalize whenT (s.shr k).b (s.shr k).t (s.shr k).k (s.bkt k).1 (s.bkt k).2 now (priceOf s k) = T at *
        have hk1 : ∀ y, now ≤ y → y < T → s.takes k y = false := fun y h1 h2 => by
          rcases w4 with w4 | w4
          · omega
          · exact take_mono g (show y ≤ T - 1 by omega) w4
        cases ho : wBest s now k with
        | none =>
          rw [ho] at h
          obtain rfl : T = x := Option.some.inj h
          refine ⟨⟨k, by omega, hq, w3⟩, w2, w1, fun i hi hqi y h1 h2 => ?_⟩
          by_cases e : i = k
          · subst e; exact hk1 y h1 h2
          · exact wBest_none_at ok hn0 hn1 k (by omega) ho i (by omega) hqi y (by omega)
        | some z =>
          obtain ⟨⟨t, ht, i1, i2⟩, i3, i4, i5⟩ := ih z ho
          rw [ho] at h
          unfold wPick at h
          dsimp only at h
          by_cases hlt : T < z
          · rw [if_pos hlt] at h
            obtain rfl : T = x := Option.some.inj h
            refine ⟨⟨k, by omega, hq, w3⟩, w2, w1, fun i hi hqi y h1 h2 => ?_⟩
            by_cases e : i = k
            · subst e; exact hk1 y h1 h2
            · exact i5 i (by omega) hqi y h1 (by omega)
          · rw [if_neg hlt] at h
            obtain rfl : z = x := Option.some.inj h
            refine ⟨⟨t, by omega, i1, i2⟩, i3, i4, fun i hi hqi y h1 h2 => ?_⟩
            by_cases e : i = k
            · subst e; exact hk1 y h1 (by omega)
            · exact i5 i (by omega) hqi y h1 h2
      · rw [if_neg hE] at h
        obtain ⟨⟨t, ht, h1, h2⟩, h3, h4, h5⟩ := ih x h
        refine ⟨⟨t, by omega, h1, h2⟩, h3, h4, fun i hi hqi y hy1 hy2 => ?_⟩
        by_cases e : i = k
        · subst e
          exact take_mono g (show y ≤ 1099511627776 by omega) (wait_none g hpr.1 hpr.2 hE).2.2
        · exact h5 i (by omega) hqi y hy1 hy2
end
end Go.Proofs.Ytmdajndmobpgbaa

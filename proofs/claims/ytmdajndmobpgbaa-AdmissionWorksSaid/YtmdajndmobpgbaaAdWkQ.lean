/- AdmissionWorks in plain Lean: a script is played alike by two admissions. No program here. -/
import Derived.Test.YtmdajndmobpgbaaAdWkP
namespace Go.Proofs.Ytmdajndmobpgbaa
open Go.RowKit
open Go.Proofs.Ytmdajndmobpgbaa.Fq
open Go.Proofs.Ytmdajndmobpgbaa.Bk

/-- One step of a script. -/
def PlayR (x0 x2 x3 x4 now : Int) (s s' : AS) : Prop :=
  if x0 % 9 = 4 ∨ x0 % 9 = 5 then ∃ s1 o a, SLoop now s [] [] s1 o a ∧ s' = s1.back
  else if x0 % 9 = 6 then s' = finS s x3
  else if x0 % 9 = 7 then (¬ s.has x3 ∧ s' = s) ∨ ∃ t i, AFind s x3 (some (t, i)) ∧ s' = canS s t i
  else if x0 % 9 = 8 then s' = s
  else s' = subS s x2 x3 x4
def nowY (Y : Nat → Nat → Int) : Nat → Int
  | 0 => 0
  | k + 1 => nowY Y k + Y k 1
/-- The first k steps. -/
def PlaysR (Y : Nat → Nat → Int) (s0 : AS) : Nat → AS → Prop
  | 0, s => s = s0
  | k + 1, s => ∃ s', PlaysR Y s0 k s' ∧ PlayR (Y k 0) (Y k 2) (Y k 3) (Y k 4) (nowY Y (k + 1)) s' s
/-- The script, a Start, and another one if a slot is free. -/
def FinR (Y : Nat → Nat → Int) (n : Nat) (s0 s : AS) : Prop :=
  ∃ sp s1 o a, PlaysR Y s0 n sp ∧ SLoop (nowY Y n) sp [] [] s1 o a ∧ ((¬ (s1.run.length : Int) < s0.slots ∧ s = s1.back) ∨ ((s1.run.length : Int) < s0.slots ∧ ∃ s2 o2 a2, SLoop (nowY Y n) s1.back [] [] s2 o2 a2 ∧ s = s2.back))
section
variable {s s0 s' s1 s2 : AS} {x0 x2 x3 x4 now : Int} {Y : Nat → Nat → Int}
theorem nowY_bd {n : Nat} (h : ∀ i, i < n → 0 ≤ Y i 1 ∧ Y i 1 ≤ 65535) : ∀ k, k ≤ n → 0 ≤ nowY Y k ∧ nowY Y k ≤ 65535 * k
  | 0, _ => by simp [nowY]
  | k + 1, hk => by
    have h1 := nowY_bd h k (by omega)
    have h2 := h k (by omega)
    simp only [nowY]; omega
theorem PlayR.ok (h : PlayR x0 x2 x3 x4 now s s') (ok : AOk s) : AOk s' ∧ s'.slots = s.slots ∧ s'.sh = s.sh := by
  unfold PlayR at h
  split at h
  · obtain ⟨s1, o, a, hl, rfl⟩ := h
    obtain ⟨_, _, _, hsh, hsl⟩ := hl.facts
    exact ⟨(hl.ok' ok).back, hsl, hsh⟩
  · split at h
    · subst h
      refine ⟨ok.finS x3, ?_⟩
      unfold finS
      split <;> exact ⟨rfl, rfl⟩
    · split at h
      · rcases h with ⟨_, rfl⟩ | ⟨t, i, hf, rfl⟩
        · exact ⟨ok, rfl, rfl⟩
        · exact ⟨ok.canS hf.1, rfl, rfl⟩
      · split at h
        · subst h; exact ⟨ok, rfl, rfl⟩
        · subst h
          refine ⟨ok.subS x2 x3 x4, ?_⟩
          unfold subS
          split <;> exact ⟨rfl, rfl⟩
theorem PlayR.det (h : PlayR x0 x2 x3 x4 now s s1) (ok : AOk s) (h2 : PlayR x0 x2 x3 x4 now s s2) : s1 = s2 := by
  unfold PlayR at h h2
  split at h
  · rename_i hc
    rw [if_pos hc] at h2
    obtain ⟨t1, o, a, hl, rfl⟩ := h
    obtain ⟨t2, o2, a2, hl2, rfl⟩ := h2
    rw [(hl.det ok hl2).1]
  · rename_i hc
    rw [if_neg hc] at h2
    split at h
    · rename_i hc; rw [if_pos hc] at h2; rw [h, h2]
    · rename_i hc
      rw [if_neg hc] at h2
      split at h
      · rename_i hc
        rw [if_pos hc] at h2
        rcases h with ⟨hn, rfl⟩ | ⟨t, i, hf, rfl⟩
        · rcases h2 with ⟨_, rfl⟩ | ⟨t, i, hf, _⟩
          · rfl
          · exact absurd (afind_has hf) hn
        · rcases h2 with ⟨hn, _⟩ | ⟨t', i', hf', rfl⟩
          · exact absurd (afind_has hf) hn
          · obtain ⟨rfl, rfl⟩ := hf.det hf'
            rfl
      · rename_i hc
        rw [if_neg hc] at h2
        split at h
        · rename_i hc; rw [if_pos hc] at h2; rw [h, h2]
        · rename_i hc; rw [if_neg hc] at h2; rw [h, h2]
theorem PlaysR.ok (ok : AOk s0) : ∀ k s, PlaysR Y s0 k s → AOk s ∧ s.slots = s0.slots ∧ s.sh = s0.sh
  | 0, s, h => by
    obtain rfl : s = s0 := h
    exact ⟨ok, rfl, rfl⟩
  | k + 1, s, h => by
    obtain ⟨s', h1, h2⟩ := h
    obtain ⟨i1, i2, i3⟩ := PlaysR.ok ok k s' h1
    obtain ⟨j1, j2, j3⟩ := h2.ok i1
    exact ⟨j1, j2.trans i2, j3.trans i3⟩
theorem PlaysR.det (ok : AOk s0) : ∀ k s1 s2, PlaysR Y s0 k s1 → PlaysR Y s0 k s2 → s1 = s2
  | 0, s1, s2, h, h2 => by
    have h : s1 = s0 := h
    have h2 : s2 = s0 := h2
    rw [h, h2]
  | k + 1, s1, s2, h, h2 => by
    obtain ⟨a, ha, h⟩ := h
    obtain ⟨b, hb, h2⟩ := h2
    obtain rfl := PlaysR.det ok k a b ha hb
    exact h.det (PlaysR.ok ok k a ha).1 h2
theorem FinR.det (ok : AOk s0) {n : Nat} (h : FinR Y n s0 s1) (h2 : FinR Y n s0 s2) : s1 = s2 := by
  obtain ⟨sp, t1, o, a, hp, hl, hc⟩ := h
  obtain ⟨sp', t1', o', a', hp', hl', hc'⟩ := h2
  obtain rfl := PlaysR.det ok n sp sp' hp hp'
  have hok := (PlaysR.ok ok n sp hp).1
  obtain ⟨rfl, _, _⟩ := hl.det hok hl'
  rcases hc with ⟨hn, rfl⟩ | ⟨hn, t2, o2, a2, hl2, rfl⟩
  · rcases hc' with ⟨_, rfl⟩ | ⟨hn', _⟩
    · rfl
    · exact absurd hn' hn
  · rcases hc' with ⟨hn', _⟩ | ⟨_, t3, o3, a3, hl3, rfl⟩
    · exact absurd hn hn'
    · rw [(hl2.det (hl.ok' hok).back hl3).1]
/-- The second Start, if a slot is free, starts nothing. -/
theorem second {now : Int} {sp s1 s2 : AS} {o o2 : List Int} {a a2 : List Nat} (ok : AOk sp) (h : SLoop now sp [] [] s1 o a) (hr : (s1.run.length : Int) < s1.slots) (h2 : SLoop now s1.back [] [] s2 o2 a2) : o2 = [] :=
  h2.noneAt (h.ok' ok).back (h.noneAfter ok hr)
/-- What holds at the end: with a slot free no tenant has the tokens. -/
theorem FinR.out (ok : AOk s0) {n : Nat} (h : FinR Y n s0 s) : AOk s ∧ s.slots = s0.slots ∧ s.sh = s0.sh ∧ ((s.run.length : Int) < s0.slots → NoneAt s (nowY Y n)) := by
  obtain ⟨sp, t1, o, a, hp, hl, hc⟩ := h
  obtain ⟨h1, h2, h3⟩ := PlaysR.ok ok n sp hp
  obtain ⟨_, _, hr, hsh, hsl⟩ := hl.facts
  have hb := (hl.ok' h1).back
  rcases hc with ⟨hn, rfl⟩ | ⟨hn, t2, o2, a2, hl2, rfl⟩
  · exact ⟨hb, hsl.trans h2, hsh.trans h3, fun hr => absurd hr hn⟩
  · obtain ⟨_, _, hr2, hsh2, hsl2⟩ := hl2.facts
    have e1 : t1.back.slots = s0.slots := hsl.trans h2
    exact ⟨(hl2.ok' hb).back, hsl2.trans e1, hsh2.trans (hsh.trans h3), fun hr => hl2.noneAfter hb (by rw [hsl2, e1]; exact hr)⟩
/-- The statement's end: When tells nothing. -/
theorem when_none (ok : AOk s) {now : Int} (hn0 : 0 ≤ now) (hn1 : now ≤ 1099511627776) (hw : wBest s now s.m = none) {s1 : AS} {o : List Int} {a : List Nat} (h : SLoop 1099511627776 s [] [] s1 o a) : o = [] :=
  h.noneAt ok fun t ht hq => wBest_none_at ok hn0 hn1 s.m (Nat.le_refl _) hw t ht hq _ (Int.le_refl _)
/-- It tells a reading. -/
theorem when_some (ok : AOk s) {now x : Int} (hn0 : 0 ≤ now) (hn1 : now ≤ 1099511627776) (hw : wBest s now s.m = some x) (hN : NoneAt s now) (hr : (s.run.length : Int) < s.slots) :
    now < x ∧ (∀ y, now ≤ y → y < x → ∀ s1 o a, SLoop y s [] [] s1 o a → o = []) ∧ ∀ s1 o a, SLoop x s [] [] s1 o a → 0 < o.length := by
  obtain ⟨⟨t, ht, hq, htk⟩, h2, h3, h4⟩ := wBest_some ok hn0 hn1 s.m (Nat.le_refl _) x hw
  refine ⟨?_, fun y hy1 hy2 s1 o a h => h.noneAt ok fun i hi hqi => h4 i hi hqi y hy1 hy2, fun s1 o a h => by simpa using h.some ok hr t ht (by simp) hq htk⟩
  rcases Int.lt_or_eq_of_le h3 with h | h
  · exact h
  · subst h
    have := hN t ht hq
    rw [htk] at this; cases this
end
end Go.Proofs.Ytmdajndmobpgbaa

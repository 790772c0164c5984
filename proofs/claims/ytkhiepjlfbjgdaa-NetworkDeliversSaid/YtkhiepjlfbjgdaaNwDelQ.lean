/- network: the plain law of NetworkDelivers: what the delays and the sends make. Conditions: each its own. -/
import Derived.Test.YtkhiepjlfbjgdaaNwDelP
import Derived.Test.YtkhiepjlfbjgdaaNwFateP
namespace Go.Proofs.Ytkhiepjlfbjgdaa
open Go.RowKit

/-- The network behind the first i delays. -/
noncomputable def dlNet (D : Nat → Int) : Nat → Net
  | 0 => Net.init 7
  | i + 1 => (dlNet D i).delay (nodeS i) bB (D i)
open Classical in
/-- The delay of a direction between nodes. -/
noncomputable def dirD (D : Nat → Int) (i a b : Nat) : Int := if nodeS b = bB ∧ a % 6 < i then D (a % 6) else 7
section
variable {A : Nat → MsgV} {D : Nat → Int} {n j : Nat} {s : Net}
theorem dlNet_same (i : Nat) : (dlNet D i).arr = [] ∧ (dlNet D i).cuts = [] ∧ (dlNet D i).lost = 0 ∧ (dlNet D i).msgs = 0 ∧ (dlNet D i).present = 0 := by
  induction i with
  | zero => exact ⟨rfl, rfl, rfl, rfl, rfl⟩
  | succ i ih => exact ih
theorem dlNet_get {i : Nat} (hi : i ≤ 6) (a b : Nat) : (dlNet D i).get (nodeS a) (nodeS b) = ⟨dirD D i a b, 0, fun _ => none⟩ := by
  induction i with
  | zero => rw [show dirD D 0 a b = 7 from if_neg (by simp)]; rfl
  | succ i ih =>
    have ih := ih (by omega)
    have ha : a % 6 < 6 := Nat.mod_lt _ (by omega)
    by_cases h : nodeS a = nodeS i ∧ nodeS b = bB
    · have hai : a % 6 = i := by rw [nodeS_inj _ _ h.1]; exact Nat.mod_eq_of_lt (by omega)
      have e1 : (dlNet D i).get (nodeS i) bB = ⟨dirD D i a b, 0, fun _ => none⟩ := by rw [← h.1, ← h.2]; exact ih
      show ((dlNet D i).setL (nodeS i) bB { (dlNet D i).get (nodeS i) bB with delay := D i }).get _ _ = _
      rw [h.1, h.2, Net.get_setL_at, e1]
      rw [show dirD D (i + 1) a b = D i from (if_pos ⟨h.2, by omega⟩).trans (by rw [hai])]
    · show ((dlNet D i).setL (nodeS i) bB { (dlNet D i).get (nodeS i) bB with delay := D i }).get _ _ = _
      rw [Net.get_setL_ne h, ih]
      congr 1
      unfold dirD
      by_cases hb : nodeS b = bB
      · have hne : a % 6 ≠ i := fun e => h ⟨by unfold nodeS; rw [← e, Nat.mod_mod], hb⟩
        by_cases h1 : a % 6 < i
        · rw [if_pos ⟨hb, h1⟩, if_pos ⟨hb, by omega⟩]
        · rw [if_neg (fun h => h1 h.2), if_neg (fun h => by have := h.2; omega)]
      · rw [if_neg (fun h => hb h.1), if_neg (fun h => hb h.1)]
/-- Behind j sends. -/
structure SdS (A : Nat → MsgV) (D : Nat → Int) (j : Nat) (s : Net) : Prop where
  arr : s.arr = (List.range j).map (mkA A D)
  c : s.cuts = []
  z : s.lost = 0
  m : s.msgs = j
  p : s.present ≤ tAt A j
  d : ∀ a b : Nat, (s.get (nodeS a) (nodeS b)).delay = dirD D 6 a b
  f : ∀ (a b : Nat) (i : Int), (s.get (nodeS a) (nodeS b)).fates i = none
theorem SdS.start : SdS A D 0 (dlNet D 6) := by
  obtain ⟨h1, h2, h3, h4, h5⟩ := dlNet_same (D := D) 6
  exact ⟨h1, h2, h3, h4, by rw [h5]; exact Int.le_refl _, fun a b => by rw [dlNet_get (Nat.le_refl _)], fun a b i => by rw [dlNet_get (Nat.le_refl _)]⟩
theorem dirD_dl (i : Nat) : dirD D 6 (A i).from_.toNat (A i).to_.toNat = dlA A D i := by
  have h : (A i).from_.toNat % 6 < 6 := Nat.mod_lt _ (by omega)
  unfold dirD dlA
  by_cases e : nodeS (A i).to_.toNat = bB
  · rw [if_pos ⟨e, h⟩, if_pos e]
  · rw [if_neg (fun h => e h.1), if_neg e]
theorem SdS.sent (h : SdS A D j s) : SdS A D (j + 1) (s.sent (tAt A (j + 1)) (nodeS (A j).from_.toNat) (nodeS (A j).to_.toNat) (byts (A j).data)) := by
  have hl : s.list (tAt A (j + 1)) (nodeS (A j).from_.toNat) (nodeS (A j).to_.toNat) = [dlA A D j] := by
    unfold Net.list
    rw [h.c, if_neg (by simp [cutB]), h.f, h.d, dirD_dl]
    rfl
  refine ⟨?_, h.c, ?_, by show s.msgs + 1 = _; rw [h.m]; omega, Int.le_refl _, fun a b => ?_, fun a b i => ?_⟩
  · show s.arr ++ news _ _ _ _ (s.msgs + 1) (s.list _ _ _) (s.list _ _ _).length = _
    rw [hl, h.arr, h.m]
    simp [news, mkA, List.range_succ]
  · show s.lost + (if (s.list _ _ _).length = 0 then 1 else 0) = 0
    rw [hl, h.z]
    rfl
  · by_cases e : nodeS a = nodeS (A j).from_.toNat ∧ nodeS b = nodeS (A j).to_.toNat
    · have := h.d a b
      rw [e.1, e.2] at this ⊢
      rw [sent_get]
      exact this
    · show ((s.setL _ _ _).get (nodeS a) (nodeS b)).delay = _
      rw [Net.get_setL_ne e]
      exact h.d a b
  · by_cases e : nodeS a = nodeS (A j).from_.toNat ∧ nodeS b = nodeS (A j).to_.toNat
    · have := h.f a b i
      rw [e.1, e.2] at this ⊢
      rw [sent_get]
      exact this
    · show ((s.setL _ _ _).get (nodeS a) (nodeS b)).fates i = _
      rw [Net.get_setL_ne e]
      exact h.f a b i
end
end Go.Proofs.Ytkhiepjlfbjgdaa

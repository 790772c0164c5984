/- network: the plain law of NetworkDelivers. Conditions: each its own. -/
import Derived.Test.YtkhiepjlfbjgdaaNwMsgs
import Derived.Test.YtkhiepjlfbjgdaaNwCuts
namespace Go.Proofs.Ytkhiepjlfbjgdaa
open Go.RowKit

theorem sooner_trans {x y z : Arr} (h1 : sooner x y = true) (h2 : sooner y z = true) : sooner x z = true := by
  unfold sooner at *
  simp at *
  omega
theorem sooner_or {x y : Arr} (h : ¬ sooner x y = true) : sooner y x = true ∨ (x.t = y.t ∧ x.msg = y.msg ∧ x.copy = y.copy) := by
  unfold sooner at *
  simp at *
  omega
theorem sooner_irrefl (x : Arr) : ¬ sooner x x = true := by
  unfold sooner
  simp
theorem bestN_min (s : Net) : ∀ (k i : Nat), i < k → ¬ sooner (s.at_ i) (s.at_ (bestN s k)) = true
  | 0, i, h => by omega
  | k + 1, i, h => by
    rw [bestN]
    split
    · rename_i hs
      by_cases e : i = k
      · rw [e]; exact sooner_irrefl _
      · have := bestN_min s k i (by omega)
        intro h2
        exact this (sooner_trans h2 hs)
    · rename_i hs
      by_cases e : i = k
      · rw [e]; exact hs
      · exact bestN_min s k i (by omega)
theorem best_min {s : Net} {z : Arr} (h : z ∈ s.arr) : ¬ sooner z (s.at_ (bestN s s.arr.length)) = true := by
  obtain ⟨i, hi, rfl⟩ := mem_at h
  exact bestN_min s _ i hi
/-- The bytes of a string, as a message bears them. -/
def byts (s : ByteArray) : List Int := s.toList.map fun b => (b.toNat : Int)
/-- The time of message i. -/
def tAt (A : Nat → MsgV) : Nat → Int
  | 0 => 0
  | i + 1 => tAt A i + (A i).gap
theorem tAt_mono {A : Nat → MsgV} {n : Nat} (h : ∀ i, i < n → 0 ≤ (A i).gap) : ∀ {i j : Nat}, i ≤ j → j ≤ n → tAt A i ≤ tAt A j := by
  intro i j hij hj
  induction j with
  | zero => have : i = 0 := by omega
            subst this; exact Int.le_refl _
  | succ j ih =>
    by_cases e : i = j + 1
    · subst e; exact Int.le_refl _
    · have := ih (by omega) (by omega)
      have := h j (by omega)
      show _ ≤ tAt A j + _
      omega
theorem tAt_le {A : Nat → MsgV} {n : Nat} (h : ∀ i, i < n → (A i).gap ≤ 255) : ∀ {j : Nat}, j ≤ n → tAt A j ≤ 255 * j := by
  intro j hj
  induction j with
  | zero => exact Int.le_refl _
  | succ j ih =>
    have := ih (by omega)
    have := h j (by omega)
    show tAt A j + _ ≤ _
    omega
def bB : ByteArray := ⟨#[98]⟩
open Classical in
/-- The delay of message i. -/
noncomputable def dlA (A : Nat → MsgV) (D : Nat → Int) (i : Nat) : Int := if nodeS (A i).to_.toNat = bB then D ((A i).from_.toNat % 6) else 7
/-- Message i as it arrives. -/
noncomputable def mkA (A : Nat → MsgV) (D : Nat → Int) (i : Nat) : Arr := ⟨tAt A (i + 1) + dlA A D i, nodeS (A i).from_.toNat, nodeS (A i).to_.toNat, byts (A i).data, (i : Int) + 1, 0⟩
/-- The messages that have not arrived, of the first n. -/
noncomputable def restA (A : Nat → MsgV) (D : Nat → Int) (n : Nat) (seen : Nat → Bool) : List Arr := ((List.range n).filter fun i => !seen i).map (mkA A D)
section
variable {A : Nat → MsgV} {D : Nat → Int} {n i j : Nat} {seen : Nat → Bool} {s : Net}
theorem rest_mem {z : Arr} : z ∈ restA A D n seen ↔ ∃ i, i < n ∧ seen i = false ∧ mkA A D i = z := by
  unfold restA
  rw [List.mem_map]
  constructor
  · rintro ⟨i, hi, rfl⟩
    rw [List.mem_filter, List.mem_range] at hi
    exact ⟨i, hi.1, by simpa using hi.2, rfl⟩
  · rintro ⟨i, hi, hs, rfl⟩
    exact ⟨i, by rw [List.mem_filter, List.mem_range]; exact ⟨hi, by simp [hs]⟩, rfl⟩
theorem dl_same (h1 : nodeS (A i).from_.toNat = nodeS (A j).from_.toNat) (h2 : nodeS (A i).to_.toNat = nodeS (A j).to_.toNat) (hinj : ∀ a b : Nat, nodeS a = nodeS b → a % 6 = b % 6) : dlA A D i = dlA A D j := by
  unfold dlA
  rw [h2, hinj _ _ h1]
theorem nodeS_inj (a b : Nat) (h : nodeS a = nodeS b) : a % 6 = b % 6 := by
  unfold nodeS at h
  have h1 : a % 6 < 6 := Nat.mod_lt _ (by omega)
  have h2 : b % 6 < 6 := Nat.mod_lt _ (by omega)
  generalize a % 6 = x at *
  generalize b % 6 = y at *
  match x, y, h1, h2 with
  | 0, 0, _, _ => rfl
  | 1, 1, _, _ => rfl
  | 2, 2, _, _ => rfl
  | 3, 3, _, _ => rfl
  | 4, 4, _, _ => rfl
  | 5, 5, _, _ => rfl
  | 0, 1, _, _ => simp at h
  | 0, 2, _, _ => simp at h
  | 0, 3, _, _ => simp at h
  | 0, 4, _, _ => simp at h
  | 0, 5, _, _ => simp at h
  | 1, 0, _, _ => simp at h
  | 1, 2, _, _ => simp at h
  | 1, 3, _, _ => simp at h
  | 1, 4, _, _ => simp at h
  | 1, 5, _, _ => simp at h
  | 2, 0, _, _ => simp at h
  | 2, 1, _, _ => simp at h
  | 2, 3, _, _ => simp at h
  | 2, 4, _, _ => simp at h
  | 2, 5, _, _ => simp at h
  | 3, 0, _, _ => simp at h
  | 3, 1, _, _ => simp at h
  | 3, 2, _, _ => simp at h
  | 3, 4, _, _ => simp at h
  | 3, 5, _, _ => simp at h
  | 4, 0, _, _ => simp at h
  | 4, 1, _, _ => simp at h
  | 4, 2, _, _ => simp at h
  | 4, 3, _, _ => simp at h
  | 4, 5, _, _ => simp at h
  | 5, 0, _, _ => simp at h
  | 5, 1, _, _ => simp at h
  | 5, 2, _, _ => simp at h
  | 5, 3, _, _ => simp at h
  | 5, 4, _, _ => simp at h
theorem nodeS_b (a : Nat) : nodeS a = bB ↔ a % 6 = 1 := by
  constructor
  · intro h
    exact nodeS_inj a 1 h
  · intro h
    unfold nodeS
    rw [h]
    rfl
/-- The soonest of the rest is message i, and nothing of its direction is ahead of it. -/
theorem rest_best (hs : s.arr = restA A D n seen) (hg : ∀ i, i < n → 0 ≤ (A i).gap) (h0 : 0 < s.arr.length) :
    ∃ i, i < n ∧ seen i = false ∧ s.at_ (bestN s s.arr.length) = mkA A D i ∧ (∀ j, j < i → seen j = false → ¬ (nodeS (A j).from_.toNat = nodeS (A i).from_.toNat ∧ nodeS (A j).to_.toNat = nodeS (A i).to_.toNat)) ∧
      bestN s s.arr.length = ((List.range n).filter fun i => !seen i).idxOf i := by
  have hm := best_mem h0
  have hlt := bestN_lt s _ h0
  have hL : s.arr.length = ((List.range n).filter fun i => !seen i).length := by rw [hs]; unfold restA; rw [List.length_map]
  obtain ⟨p, hp⟩ : ∃ p, bestN s s.arr.length = p := ⟨_, rfl⟩
  rw [hp] at hm hlt ⊢
  have hpl : p < ((List.range n).filter fun i => !seen i).length := by omega
  obtain ⟨i, hi⟩ : ∃ i, ((List.range n).filter fun i => !seen i)[p] = i := ⟨_, rfl⟩
  have him : i ∈ (List.range n).filter fun i => !seen i := by rw [← hi]; exact List.getElem_mem hpl
  rw [List.mem_filter, List.mem_range] at him
  have hat : s.at_ p = mkA A D i := by
    unfold Net.at_
    rw [List.getD_eq_getElem?_getD, List.getElem?_eq_getElem hlt]
    simp only [Option.getD_some]
    rw [List.getElem_of_eq hs]
    unfold restA
    rw [List.getElem_map, hi]
  have hnd : ((List.range n).filter fun i => !seen i).Nodup := List.nodup_range.filter _
  refine ⟨i, him.1, by simpa using him.2, hat, fun j hj hsj hd => ?_, ?_⟩
  · have hz : mkA A D j ∈ s.arr := by rw [hs]; exact rest_mem.2 ⟨j, by omega, hsj, rfl⟩
    have := best_min hz
    rw [hp, hat] at this
    refine this ?_
    have ht := tAt_mono hg (show j + 1 ≤ i + 1 by omega) (by omega)
    have hdl := dl_same (D := D) hd.1 hd.2 nodeS_inj
    unfold sooner mkA
    simp
    omega
  · rw [← hi]
    exact (hnd.idxOf_getElem _ hpl).symm
theorem rest_erase (hi : i < n) (hsi : seen i = false) : (restA A D n seen).eraseIdx (((List.range n).filter fun i => !seen i).idxOf i) = restA A D n (fun j => if j = i then true else seen j) := by
  have hnd : ((List.range n).filter fun i => !seen i).Nodup := List.nodup_range.filter _
  unfold restA
  have hme : ∀ (l : List Nat) (p : Nat), (l.map (mkA A D)).eraseIdx p = (l.eraseIdx p).map (mkA A D) := fun l p => by
    rw [List.eraseIdx_eq_take_drop_succ, List.eraseIdx_eq_take_drop_succ, List.map_append, List.map_take, List.map_drop]
  rw [hme, ← List.erase_eq_eraseIdx_of_idxOf rfl, hnd.erase_eq_filter, List.filter_filter]
  congr 1
  apply List.filter_congr
  intro j _
  by_cases e : j = i
  · subst e; simp
  · simp [e]
theorem rest_none (h : ∀ i, i < n → seen i = false) : restA A D n seen = (List.range n).map (mkA A D) := by
  unfold restA
  congr 1
  rw [List.filter_eq_self]
  intro i hi
  simp [h i (List.mem_range.1 hi)]
end
end Go.Proofs.Ytkhiepjlfbjgdaa

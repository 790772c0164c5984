/- Plain arithmetic of windows: what was taken in a window of the calls is at most the burst and what is refilled in it. No program here. -/
import Derived.Test.YtclfbgoocfcdpaaBkMath
namespace Go.Proofs.Ytclfbgoocfcdpaa.Bk

def Win (B T K : Int) (ts qs : List Int) : Prop :=
  ∀ i k, i ≤ k → k < ts.length → (((qs.take (k + 1)).drop i).sum - B) * K ≤ (ts.getD k 0 - ts.getD i 0) * T
def Pot (B T K : Int) (ts qs : List Int) (A now : Int) : Prop :=
  ∀ i, i < ts.length → A + (qs.drop i).sum * K ≤ B * K + (now - ts.getD i 0) * T
def Small (m : Int) (l : List Int) : Prop := ∀ q ∈ l, 0 ≤ q ∧ q ≤ m

theorem Win.nil (B T K : Int) : Win B T K [] [] := fun i k _ h => by simp at h
theorem Pot.nil (B T K A now : Int) : Pot B T K [] [] A now := fun i h => by simp at h
theorem Small.nil (m : Int) : Small m [] := fun q h => by simp at h
theorem Small.mono {m m' : Int} {l : List Int} (h : Small m l) (hm : m ≤ m') : Small m' l := fun q hq => ⟨(h q hq).1, Int.le_trans (h q hq).2 hm⟩
theorem Small.snoc {m q : Int} {l : List Int} (h : Small m l) (h0 : 0 ≤ q) (h1 : q ≤ m) : Small m (l ++ [q]) := fun x hx => by
  rcases List.mem_append.1 hx with hx | hx
  · exact h x hx
  · have : x = q := by simpa using hx
    rw [this]; exact ⟨h0, h1⟩
theorem Small.sum {m : Int} : ∀ {l : List Int}, Small m l → 0 ≤ l.sum ∧ l.sum ≤ l.length * m
  | [], _ => by simp
  | q :: l, h => by
    have h1 := h q (by simp)
    have h2 := Small.sum (l := l) (fun x hx => h x (by simp [hx]))
    have e : ((q :: l).length : Int) * m = l.length * m + m := by
      rw [List.length_cons, Int.natCast_add, Int.add_mul]; omega
    rw [e, List.sum_cons]
    omega
theorem Small.part {m : Int} {l : List Int} (h : Small m l) (a b : Nat) : Small m ((l.take a).drop b) := fun q hq => h q (List.mem_of_mem_take (List.mem_of_mem_drop hq))
theorem Small.getD {m : Int} {l : List Int} (h : Small m l) {i : Nat} (hi : i < l.length) : 0 ≤ l.getD i 0 ∧ l.getD i 0 ≤ m := by
  have : l.getD i 0 = l[i] := by simp [List.getD, hi]
  rw [this]; exact h _ (List.getElem_mem hi)

theorem getD_snoc_lt {l : List Int} {x : Int} {i : Nat} (h : i < l.length) : (l ++ [x]).getD i 0 = l.getD i 0 := by
  simp [List.getD, List.getElem?_append_left h]
theorem getD_snoc_eq {l : List Int} {x : Int} : (l ++ [x]).getD l.length 0 = x := by simp [List.getD]

theorem Pot.time {B T K : Int} {ts qs : List Int} {A now A' now' : Int} (h : Pot B T K ts qs A now) (hA : A' ≤ A + (now' - now) * T) : Pot B T K ts qs A' now' := fun i hi => by
  have h1 := h i hi
  have e : (now' - ts.getD i 0) * T = (now - ts.getD i 0) * T + (now' - now) * T := by rw [← Int.add_mul]; congr 1; omega
  rw [e]; omega
theorem Pot.take {B T K : Int} {ts qs : List Int} {A now q : Int} (h : Pot B T K ts qs A now) (hl : qs.length = ts.length) (hA : A ≤ B * K) : Pot B T K (ts ++ [now]) (qs ++ [q]) (A - q * K) now := fun i hi => by
  rw [List.length_append, List.length_singleton] at hi
  by_cases hlt : i < ts.length
  · have h1 := h i hlt
    rw [getD_snoc_lt hlt, List.drop_append_of_le_length (by omega), List.sum_append]
    have : ((qs.drop i).sum + [q].sum) * K = (qs.drop i).sum * K + q * K := by rw [Int.add_mul]; simp
    rw [this]; omega
  · have e : i = ts.length := by omega
    subst e
    rw [getD_snoc_eq, ← hl, List.drop_left, Int.sub_self, Int.zero_mul]
    simp only [List.sum_cons, List.sum_nil, Int.add_zero]
    omega
theorem Win.take {B T K : Int} {ts qs : List Int} {A now q : Int} (hw : Win B T K ts qs) (h : Pot B T K (ts ++ [now]) (qs ++ [q]) A now) (hl : qs.length = ts.length) (hA : 0 ≤ A) : Win B T K (ts ++ [now]) (qs ++ [q]) := fun i k hik hk => by
  rw [List.length_append, List.length_singleton] at hk
  by_cases hlt : k < ts.length
  · have h1 := hw i k hik hlt
    rw [getD_snoc_lt hlt, getD_snoc_lt (by omega : i < ts.length), List.take_append_of_le_length (by omega)]
    exact h1
  · have e : k = ts.length := by omega
    subst e
    have h1 := h i (by rw [List.length_append, List.length_singleton]; omega)
    rw [List.take_of_length_le (by rw [List.length_append, List.length_singleton]; omega), getD_snoc_eq, Int.sub_mul]
    omega
theorem atP_time {B T K P L a b : Int} (g : BkOk B T K P L) (h0 : 0 ≤ a) (hab : a ≤ b) (hb : b ≤ 1099511627776) : atP B T K P L b ≤ atP B T K P L a + (b - a) * T := by
  rw [atP_eq g, atP_eq g]
  have h1 : atL L b - L ≤ (atL L a - L) + (b - a) := by unfold atL clipT; omega
  have h2 := Int.mul_le_mul_of_nonneg_right h1 g.t1
  rw [Int.add_mul] at h2
  have h3 := Int.mul_nonneg (show 0 ≤ b - a by omega) g.t1
  omega
theorem prod_bd {x y a c : Int} (h0 : -a ≤ x) (h1 : x ≤ a) (h2 : 0 ≤ y) (h3 : y ≤ c) (ha : 0 ≤ a) : -(a * c) ≤ x * y ∧ x * y ≤ a * c := by
  have h4 : a * y ≤ a * c := Int.mul_le_mul_of_nonneg_left h3 ha
  have h5 : x * y ≤ a * y := Int.mul_le_mul_of_nonneg_right h1 h2
  have h6 : -a * y ≤ x * y := Int.mul_le_mul_of_nonneg_right h0 h2
  rw [Int.neg_mul] at h6
  omega
theorem sum_step {qs : List Int} {i k : Nat} (hik : i ≤ k) (hk : k < qs.length) : ((qs.take (k + 1)).drop i).sum = ((qs.take k).drop i).sum + qs.getD k 0 := by
  have e : qs.take (k + 1) = qs.take k ++ [qs[k]] := by rw [List.take_succ_eq_append_getElem hk]
  rw [e, List.drop_append_of_le_length (by simp; omega), List.sum_append]
  simp [List.getD, hk]
end Go.Proofs.Ytclfbgoocfcdpaa.Bk

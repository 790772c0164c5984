/- For walks of a document's functions, in any program: slices of structs as lists of rows of k cells. Conditions: each row has k cells. -/
import Derived.Test.YtbpjfhfibllhgaaRk2
namespace Go.Proofs.Ytbpjfhfibllhgaa
open Go.RowKit

/-- The cells of a list of rows. -/
def rowsC {α : Type} (f : α → List Value) (l : List α) : List Value := l.flatMap f
section
variable {α : Type} {f : α → List Value} {k : Nat} {l r : List α}
theorem rowsC_nil : rowsC f ([] : List α) = [] := rfl
theorem rowsC_cons (x : α) (l : List α) : rowsC f (x :: l) = f x ++ rowsC f l := List.flatMap_cons
theorem rowsC_one (x : α) : rowsC f [x] = f x := by rw [rowsC_cons, rowsC_nil, List.append_nil]
theorem rowsC_append (l r : List α) : rowsC f (l ++ r) = rowsC f l ++ rowsC f r := List.flatMap_append
theorem rowsC_len (h : ∀ x, (f x).length = k) : ∀ l : List α, (rowsC f l).length = l.length * k
  | [] => by simp [rowsC_nil]
  | x :: l => by rw [rowsC_cons, List.length_append, h, rowsC_len h l, List.length_cons, Nat.add_mul, Nat.one_mul, Nat.add_comm]
theorem rowsC_get (h : ∀ x, (f x).length = k) : ∀ (l : List α) (i : Nat) (hi : i < l.length) (j : Nat), j < k → (rowsC f l)[i * k + j]? = (f l[i])[j]?
  | x :: l, 0, _, j, hj => by
    rw [rowsC_cons, Nat.zero_mul, Nat.zero_add, List.getElem?_append_left (by rw [h]; exact hj)]
    rfl
  | x :: l, i + 1, hi, j, hj => by
    rw [rowsC_cons, Nat.add_mul, Nat.one_mul, List.getElem?_append_right (by rw [h]; omega), h, show i * k + k + j - k = i * k + j by omega]
    exact rowsC_get h l i (by simpa using hi) j hj
theorem rowsC_take (h : ∀ x, (f x).length = k) : ∀ (l : List α) (i : Nat), rowsC f (l.take i) = (rowsC f l).take (i * k)
  | l, 0 => by simp [rowsC_nil]
  | [], i + 1 => by simp [rowsC_nil]
  | x :: l, i + 1 => by
    rw [List.take_succ_cons, rowsC_cons, rowsC_cons, rowsC_take h l i, Nat.add_mul, Nat.one_mul, Nat.add_comm (i * k) k, ← h x, List.take_length_add_append]
theorem rowsC_drop (h : ∀ x, (f x).length = k) : ∀ (l : List α) (i : Nat), rowsC f (l.drop i) = (rowsC f l).drop (i * k)
  | l, 0 => by simp
  | [], i + 1 => by simp [rowsC_nil]
  | x :: l, i + 1 => by
    rw [List.drop_succ_cons, rowsC_cons, rowsC_drop h l i, Nat.add_mul, Nat.one_mul, Nat.add_comm (i * k) k, ← h x, List.drop_length_add_append]
theorem rowsC_ones (h1 : ∀ x, ∀ u ∈ f x, u.oneCell' = true) : ∀ (l : List α), ∀ u ∈ rowsC f l, u.oneCell' = true
  | [], u, h => by simp [rowsC_nil] at h
  | x :: l, u, h => by
    rw [rowsC_cons] at h
    rcases List.mem_append.1 h with h | h
    · exact h1 x u h
    · exact rowsC_ones h1 l u h
theorem rowsC_onesIn : ∀ (l : List α), (∀ x ∈ l, ∀ u ∈ f x, u.oneCell' = true) → ∀ u ∈ rowsC f l, u.oneCell' = true
  | [], _, u, h => by simp [rowsC_nil] at h
  | x :: l, h1, u, h => by
    rw [rowsC_cons] at h
    rcases List.mem_append.1 h with h | h
    · exact h1 x (by simp) u h
    · exact rowsC_onesIn l (fun y hy => h1 y (by simp [hy])) u h
end
/-- The rows l lie at v. -/
def RowsAt {α : Type} (e : TypeId) (k : Nat) (f : α → List Value) (w : World) (v : Value) (l : List α) : Prop := OL w e k v l.length (rowsC f l)
section
variable {α : Type} {f : α → List Value} {k : Nat} {l r : List α} {e : TypeId} {w w' : World} {v : Value}
theorem RowsAt.at_ {ao : Option Addr} {cap : Nat} (h : RowsAt e k f w (.slice ao l.length cap) l) (hf : ∀ x, (f x).length = k) {i : Nat} (hi : i < l.length) (d : α) : ∃ g off, ao = some ⟨g, off, none⟩ ∧ ∀ j, j < k → w.cell? ⟨g, off + i * k + j, none⟩ = (f (l.getD i d))[j]? := by
  obtain ⟨_, _, e1, _, _, h2⟩ := OL.shape h
  obtain ⟨g, off, e2⟩ := h2 (by omega)
  simp only [Value.slice.injEq] at e1
  obtain rfl := e1.1.trans e2
  refine ⟨g, off, rfl, fun j hj => ?_⟩
  have hik : i * k + j < l.length * k := by
    have h1 : (i + 1) * k ≤ l.length * k := Nat.mul_le_mul_right k hi
    rw [Nat.add_mul, Nat.one_mul] at h1
    omega
  have c := OL.cell h (i * k + j) hik
  rw [← Nat.add_assoc] at c
  rw [c, rowsC_get hf l i hi j hj]
  simp [List.getD, hi]
theorem RowsAt.bel (h : RowsAt e k f w v l) (hb : Below w.heap.size w w') : RowsAt e k f w' v l := OL.bel h hb
theorem RowsAt.take {g off cap : Nat} (h : RowsAt e k f w (.slice (some ⟨g, off, none⟩) l.length cap) l) (hf : ∀ x, (f x).length = k) {i : Nat} (hi : i ≤ l.length) : OL w e k (.slice (some ⟨g, off, none⟩) i cap) i (rowsC f (l.take i)) := by
  rw [rowsC_take hf]
  exact OL.head h i hi
theorem RowsAt.drop {g off cap : Nat} (h : RowsAt e k f w (.slice (some ⟨g, off, none⟩) l.length cap) l) (hf : ∀ x, (f x).length = k) {i : Nat} (hi : i ≤ l.length) : OL w e k (.slice (if cap = i then some ⟨g, off, none⟩ else some ⟨g, off + i * k, none⟩) (l.length - i) (cap - i)) (l.length - i) (rowsC f (l.drop i)) := by
  rw [rowsC_drop hf]
  exact OL.tail h i hi
end
end Go.Proofs.Ytbpjfhfibllhgaa

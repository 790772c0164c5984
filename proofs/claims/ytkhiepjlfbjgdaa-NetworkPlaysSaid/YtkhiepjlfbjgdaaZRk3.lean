/- For walks of a document's functions, in any program: slices cut at the end, one element appended, a fresh slice in front. Conditions: short slices. For walks of a document's functions, in any program: slices of structs as lists of rows of k cells. Conditions: each row has k cells. -/
import Derived.Test.YtkhiepjlfbjgdaaZRk
namespace Go.Proofs.Ytkhiepjlfbjgdaa
open Go.RowKit

section
variable {P : Program} {w w' w1 : World} {e : TypeId} {size n q : Nat} {v : Value} {xs : List Value}
/-- Cutting at the end: v[:k]. -/
theorem OL.head {g off cap : Nat} (h : OL w e size (.slice (some ⟨g, off, none⟩) n cap) n xs) (k : Nat) (hk : k ≤ n) : OL w e size (.slice (some ⟨g, off, none⟩) k cap) k (xs.take (k * size)) := by
  have hlen := h.1
  have hle : k * size ≤ n * size := Nat.mul_le_mul_right _ hk
  rcases h.2 with ⟨h', _⟩ | ⟨g', off', cap', cur, h', hg, hnc, hcm, hsz, ht⟩
  · simp at h'
  · simp only [Value.slice.injEq, Option.some.injEq, Addr.mk.injEq, and_true, true_and] at h'
    obtain ⟨⟨rfl, rfl⟩, rfl⟩ := h'
    refine ⟨by rw [List.length_take, hlen]; omega, .inr ⟨g, off, cap, cur, rfl, hg, by omega, hcm, hsz, ?_⟩⟩
    rw [← ht, List.take_take, Nat.min_eq_left hle]
/-- append(v, x...), both laid in rows. -/
theorem ol_app {m : Nat} {x : Value} {ys : List Value} (t : TypeId) (z : Value) (bytes : Nat) (ht : P.underlying t = some (.slice e)) (hinfo : (P.info? e).map (fun i => (i.zero, i.size, i.bytes)) = some (some z, size, bytes)) (hzs : z.cells.size = size) (hsz : 0 < size)
    (h : OL w e size v n xs) (hy : OL w e size x m ys) (hone : ∀ u ∈ ys, u.oneCell' = true) (hn : n + m ≤ 2000000) (hb : bytes ≤ 1000) :
    ∃ ao cap w', (Builtin.append_ #[t, t] t #[v, x]).run P w = .ok (.slice ao (n + m) cap) w' ∧ OL w' e size (.slice ao (n + m) cap) (n + m) (xs ++ ys) ∧ w.grownBy w' v.ownBlock ∧ ((Value.slice ao (n + m) cap).ownBlock = v.ownBlock ∨ (Value.slice ao (n + m) cap).ownBlock = some w.heap.size) := by
  obtain ⟨ti, hi', iz, is, ib⟩ := info_parts hinfo
  have hbb : (n + m) * bytes ≤ 2000000 * 1000 := Nat.mul_le_mul hn hb
  obtain ⟨v', w', hap, ho3, hg3, how3⟩ := h.append (P := P) t t t ti _ _ ht hi' iz is ib hzs hsz (OL.src hy ht hone) (by unfold maxLen; omega) (by omega)
  obtain ⟨ao, cap, rfl, _⟩ := OL.shape ho3
  exact ⟨ao, cap, w', hap, ho3, hg3, how3⟩
/-- append(v, x), x in a block of its own. -/
theorem ol_more {cs : List Value} (t : TypeId) (z : Value) (bytes : Nat) (ht : P.underlying t = some (.slice e)) (hinfo : (P.info? e).map (fun i => (i.zero, i.size, i.bytes)) = some (some z, size, bytes)) (hzs : z.cells.size = size) (hsz : 0 < size)
    (h : OL w e size v n xs) (hq : w.heap[q]? = some (.cells cs.toArray e (0, 0))) (hcs : cs.length = size) (hone : ∀ u ∈ cs, u.oneCell' = true) (hn : n ≤ 1000000) (hb : bytes ≤ 1000) :
    ∃ ao cap w', (Builtin.append_ #[t, t] t #[v, .slice (some ⟨q, 0, none⟩) 1 1]).run P w = .ok (.slice ao (n + 1) cap) w' ∧ OL w' e size (.slice ao (n + 1) cap) (n + 1) (xs ++ cs) ∧ w.grownBy w' v.ownBlock ∧ ((Value.slice ao (n + 1) cap).ownBlock = v.ownBlock ∨ (Value.slice ao (n + 1) cap).ownBlock = some w.heap.size) :=
  ol_app t z bytes ht hinfo hzs hsz h (OL.of_block (cs := cs) hq (by rw [hcs, Nat.one_mul]) (by simp [maxLen])) hone (by omega) hb
/-- What an append into the row of v leaves of other rows. -/
theorem grown_types (h : OL w e size v n xs) (hg : w.grownBy w' v.ownBlock) : ∀ (b : Nat) (cs : Array Value) (t : TypeId), t ≠ e → w.heap[b]? = some (Obj.cells cs t (0, 0)) → w'.heap[b]? = w.heap[b]? := fun b cs t ht hc =>
  hg.block b (lt_of_block hc) fun eq => by
    obtain ⟨cur, h2⟩ := OL.elem h b eq.symm
    exact type_ne hc h2 ht rfl
/-- The row of what append gives is new where v's was. -/
theorem grown_own {B : Nat} {ao : Option Addr} {m cap : Nat} (hv : ∀ g, v.ownBlock = some g → B ≤ g) (hB : B ≤ w.heap.size) (h : (Value.slice ao m cap).ownBlock = v.ownBlock ∨ (Value.slice ao m cap).ownBlock = some w.heap.size) : ∀ g, (Value.slice ao m cap).ownBlock = some g → B ≤ g := fun g hg => by
  rcases h with h | h
  · exact hv g (h.symm.trans hg)
  · have := Option.some.inj (h.symm.trans hg); omega
theorem cell_same {g o : Nat} (h : w'.heap[g]? = w.heap[g]?) (_ : True := trivial) : w'.cell? ⟨g, o, none⟩ = w.cell? ⟨g, o, none⟩ := by simp [World.cell?, h]
/-- What app_fresh gives lies in new blocks. -/
theorem grown_fresh {B g0 : Nat} {ao : Option Addr} {m cap : Nat} (h0 : B ≤ g0) (hB : B ≤ w.heap.size) (h : (Value.slice ao m cap).ownBlock = some g0 ∨ (Value.slice ao m cap).ownBlock = some w.heap.size) : ∀ g, (Value.slice ao m cap).ownBlock = some g → B ≤ g := fun g hg => by
  rcases h with h | h <;> (have := Option.some.inj (h.symm.trans hg); omega)
/-- A cell that can be read stays. -/
theorem below_cell {w0 wx : World} {g o : Nat} {u : Value} (hb : Below w0.heap.size w0 wx) (h : w0.cell? ⟨g, o, none⟩ = some u) : wx.cell? ⟨g, o, none⟩ = some u := by
  have hlt : g < w0.heap.size := by
    unfold World.cell? at h
    cases hh : w0.heap[g]? with
    | none => simp [hh] at h
    | some ob => exact lt_of_block hh
  exact (cell_same (hb.block g hlt) trivial).trans h
theorem results_cell3t {P : Program} {fn : Func} {p u v : Tmp} {ty : TypeId} (h : fn.results = #[.cell p ty, .tmp u, .tmp v]) (tmps : Array Value) (w : World) (g : Nat) (t : TypeId) (cs : Array Value) (fr : Nat × Nat) (d : TypeDesc)
    (hp : tmps.getD p undef = .pointer (some ⟨g, 0, none⟩)) (hg : w.heap[g]? = some (.cells cs t fr))
    (hu : P.underlying ty = some d) (hd : (match d with | .struct _ | .array _ _ => true | _ => false) = true) (hi : (P.info? ty).map (·.size) = some cs.size) :
    (results fn tmps).run P w = .ok (.tuple #[.agg cs, tmps.getD u undef, tmps.getD v undef]) w := by
  have hp' : tmps[p]?.getD undef = .pointer (some ⟨g, 0, none⟩) := by simpa using hp
  simp [results, h, hp', asAddr, run_loadVar_row w g t ty cs fr d hg hu hd hi]
end
end Go.Proofs.Ytkhiepjlfbjgdaa

namespace Go.Proofs.Ytkhiepjlfbjgdaa
open Go.RowKit

/-- The cells of a list of rows. -/
def rowsC {α : Type} (f : α → List Value) (l : List α) : List Value := l.flatMap f
section
variable {α : Type} {f : α → List Value} {k : Nat} {l r : List α}
theorem rowsC_nil : rowsC f ([] : List α) = [] := rfl
theorem rowsC_cons (x : α) (l : List α) : rowsC f (x :: l) = f x ++ rowsC f l := List.flatMap_cons
theorem rowsC_one (x : α) : rowsC f [x] = f x := by rw [rowsC_cons, rowsC_nil, List.append_nil]
theorem rowsC_append (l r : List α) : rowsC f (l ++ r) = rowsC f l ++ rowsC f r := List.flatMap_append
theorem rowsC_len (h : ∀ x, (f x).length = k) : ∀ l : List α, (rowsC f l).length = l.length * k
  | [] => by simp [rowsC_nil]
  | x :: l => by rw [rowsC_cons, List.length_append, h, rowsC_len h l, List.length_cons, Nat.add_mul, Nat.one_mul, Nat.add_comm]
theorem rowsC_get (h : ∀ x, (f x).length = k) : ∀ (l : List α) (i : Nat) (hi : i < l.length) (j : Nat), j < k → (rowsC f l)[i * k + j]? = (f l[i])[j]?
  | x :: l, 0, _, j, hj => by
    rw [rowsC_cons, Nat.zero_mul, Nat.zero_add, List.getElem?_append_left (by rw [h]; exact hj)]
    rfl
  | x :: l, i + 1, hi, j, hj => by
    rw [rowsC_cons, Nat.add_mul, Nat.one_mul, List.getElem?_append_right (by rw [h]; omega), h, show i * k + k + j - k = i * k + j by omega]
    exact rowsC_get h l i (by simpa using hi) j hj
theorem rowsC_take (h : ∀ x, (f x).length = k) : ∀ (l : List α) (i : Nat), rowsC f (l.take i) = (rowsC f l).take (i * k)
  | l, 0 => by simp [rowsC_nil]
  | [], i + 1 => by simp [rowsC_nil]
  | x :: l, i + 1 => by
    rw [List.take_succ_cons, rowsC_cons, rowsC_cons, rowsC_take h l i, Nat.add_mul, Nat.one_mul, Nat.add_comm (i * k) k, ← h x, List.take_length_add_append]
theorem rowsC_drop (h : ∀ x, (f x).length = k) : ∀ (l : List α) (i : Nat), rowsC f (l.drop i) = (rowsC f l).drop (i * k)
  | l, 0 => by simp
  | [], i + 1 => by simp [rowsC_nil]
  | x :: l, i + 1 => by
    rw [List.drop_succ_cons, rowsC_cons, rowsC_drop h l i, Nat.add_mul, Nat.one_mul, Nat.add_comm (i * k) k, ← h x, List.drop_length_add_append]
theorem rowsC_ones (h1 : ∀ x, ∀ u ∈ f x, u.oneCell' = true) : ∀ (l : List α), ∀ u ∈ rowsC f l, u.oneCell' = true
  | [], u, h => by simp [rowsC_nil] at h
  | x :: l, u, h => by
    rw [rowsC_cons] at h
    rcases List.mem_append.1 h with h | h
    · exact h1 x u h
    · exact rowsC_ones h1 l u h
theorem rowsC_onesIn : ∀ (l : List α), (∀ x ∈ l, ∀ u ∈ f x, u.oneCell' = true) → ∀ u ∈ rowsC f l, u.oneCell' = true
  | [], _, u, h => by simp [rowsC_nil] at h
  | x :: l, h1, u, h => by
    rw [rowsC_cons] at h
    rcases List.mem_append.1 h with h | h
    · exact h1 x (by simp) u h
    · exact rowsC_onesIn l (fun y hy => h1 y (by simp [hy])) u h
end
/-- The rows l lie at v. -/
def RowsAt {α : Type} (e : TypeId) (k : Nat) (f : α → List Value) (w : World) (v : Value) (l : List α) : Prop := OL w e k v l.length (rowsC f l)
section
variable {α : Type} {f : α → List Value} {k : Nat} {l r : List α} {e : TypeId} {w w' : World} {v : Value}
theorem RowsAt.at_ {ao : Option Addr} {cap : Nat} (h : RowsAt e k f w (.slice ao l.length cap) l) (hf : ∀ x, (f x).length = k) {i : Nat} (hi : i < l.length) (d : α) : ∃ g off, ao = some ⟨g, off, none⟩ ∧ ∀ j, j < k → w.cell? ⟨g, off + i * k + j, none⟩ = (f (l.getD i d))[j]? := by
  obtain ⟨_, _, e1, _, _, h2⟩ := OL.shape h
  obtain ⟨g, off, e2⟩ := h2 (by omega)
  simp only [Value.slice.injEq] at e1
  obtain rfl := e1.1.trans e2
  refine ⟨g, off, rfl, fun j hj => ?_⟩
  have hik : i * k + j < l.length * k := by
    have h1 : (i + 1) * k ≤ l.length * k := Nat.mul_le_mul_right k hi
    rw [Nat.add_mul, Nat.one_mul] at h1
    omega
  have c := OL.cell h (i * k + j) hik
  rw [← Nat.add_assoc] at c
  rw [c, rowsC_get hf l i hi j hj]
  simp [List.getD, hi]
theorem RowsAt.bel (h : RowsAt e k f w v l) (hb : Below w.heap.size w w') : RowsAt e k f w' v l := OL.bel h hb
theorem RowsAt.take {g off cap : Nat} (h : RowsAt e k f w (.slice (some ⟨g, off, none⟩) l.length cap) l) (hf : ∀ x, (f x).length = k) {i : Nat} (hi : i ≤ l.length) : OL w e k (.slice (some ⟨g, off, none⟩) i cap) i (rowsC f (l.take i)) := by
  rw [rowsC_take hf]
  exact OL.head h i hi
theorem RowsAt.drop {g off cap : Nat} (h : RowsAt e k f w (.slice (some ⟨g, off, none⟩) l.length cap) l) (hf : ∀ x, (f x).length = k) {i : Nat} (hi : i ≤ l.length) : OL w e k (.slice (if cap = i then some ⟨g, off, none⟩ else some ⟨g, off + i * k, none⟩) (l.length - i) (cap - i)) (l.length - i) (rowsC f (l.drop i)) := by
  rw [rowsC_drop hf]
  exact OL.tail h i hi
end
end Go.Proofs.Ytkhiepjlfbjgdaa

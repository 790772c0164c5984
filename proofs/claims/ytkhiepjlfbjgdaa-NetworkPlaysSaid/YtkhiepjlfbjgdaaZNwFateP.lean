/- network: the plain law of NetworkFates. Conditions: each its own. -/
import Derived.Test.YtkhiepjlfbjgdaaZNwDelP
namespace Go.Proofs.Ytkhiepjlfbjgdaa
open Go.RowKit

def aA : ByteArray := ⟨#[97]⟩
def aB : ByteArray := ⟨#[98]⟩
section
variable {s : Net} {x y : ByteArray} {k i : Nat} {l : List Int} {at_ : Int}
theorem Net.get_setL_at (s : Net) (x y : ByteArray) (L : Line) : (s.setL x y L).get x y = L := by
  unfold Net.get
  rw [Net.setL_at]
  rfl
theorem Net.get_setL_ne {s : Net} {x y x' y' : ByteArray} (h : ¬ (x' = x ∧ y' = y)) (L : Line) : (s.setL x y L).get x' y' = s.get x' y' := by
  unfold Net.get
  rw [Net.setL_ne h]
  rfl
theorem Net.get_touch (s : Net) (x y x' y' : ByteArray) : (s.touch x y).get x' y' = s.get x' y' := by
  unfold Net.touch
  by_cases h : x' = x ∧ y' = y
  · obtain ⟨rfl, rfl⟩ := h
    exact Net.get_setL_at ..
  · exact Net.get_setL_ne h _
/-- A message of its own, as it arrives. -/
def mk0 (at_ : Int) (i : Nat) : Arr := ⟨at_, aA, aB, [(i : Int)], (i : Int) + 1, 0⟩
/-- Ahead of message i: the fate of message k is l. -/
structure FtS (at_ : Int) (k : Nat) (l : List Int) (i : Nat) (s : Net) : Prop where
  arr : s.arr = (List.range i).map (mk0 at_)
  d : (s.get aA aB).delay = 0
  n : (s.get aA aB).sent = i
  f : (s.get aA aB).fates k = some l
  o : ∀ j : Int, j ≠ k → (s.get aA aB).fates j = none
  c : s.cuts = []
  z : s.lost = 0
  m : s.msgs = i
  p : s.present ≤ at_
theorem FtS.touch (h : FtS at_ k l i s) (x y : ByteArray) : FtS at_ k l i (s.touch x y) :=
  ⟨h.arr, by rw [Net.get_touch]; exact h.d, by rw [Net.get_touch]; exact h.n, by rw [Net.get_touch]; exact h.f, by rw [Net.get_touch]; exact h.o, h.c, h.z, h.m, h.p⟩
theorem fts_e0 (k : Nat) : fateE (Net.init 0) aA aB k = 0 := by
  unfold fateE
  refine if_neg ?_
  show ¬ ((none : Option (List Int)).isSome = true ∨ (k : Int) < 0)
  simp
theorem fts_s0 (k : Nat) (l : List Int) : fateS (Net.init 0) aA aB k l = (Net.init 0).fate aA aB k l := by
  unfold fateS
  refine if_neg ?_
  show ¬ ((none : Option (List Int)).isSome = true ∨ (k : Int) < 0)
  simp
theorem fts_start (hat : 0 ≤ at_) (k : Nat) (l : List Int) : FtS at_ k l 0 ((Net.init 0).fate aA aB k l) := by
  have e : ((Net.init 0).fate aA aB k l).get aA aB = ((Net.init 0).get aA aB).setF k l := Net.get_setL_at ..
  refine ⟨rfl, by rw [e]; rfl, by rw [e]; rfl, by rw [e]; exact if_pos rfl, fun j hj => by rw [e]; exact if_neg hj, rfl, rfl, rfl, hat⟩
theorem FtS.again (h : FtS at_ k l i s) (l' : List Int) : fateE s aA aB k = 4 ∧ fateS s aA aB k l' = s.touch aA aB := by
  have e : ((s.get aA aB).fates k).isSome = true ∨ (k : Int) < (s.get aA aB).sent := .inl (by rw [h.f]; rfl)
  exact ⟨if_pos e, if_pos e⟩
theorem FtS.late (h : FtS at_ k l (i + 1) s) (l' : List Int) : fateE s aA aB i = 4 ∧ fateS s aA aB i l' = s.touch aA aB := by
  have e : ((s.get aA aB).fates i).isSome = true ∨ (i : Int) < (s.get aA aB).sent := .inr (by rw [h.n]; omega)
  exact ⟨if_pos e, if_pos e⟩
theorem FtS.back (h : FtS at_ k l i s) (h0 : s.get aB aA = ⟨0, 0, fun _ => none⟩) : fateE s aB aA k = 0 ∧ FtS at_ k l i (fateS s aB aA k []) := by
  have e : ¬ (((s.get aB aA).fates k).isSome = true ∨ (k : Int) < (s.get aB aA).sent) := by rw [h0]; simp
  refine ⟨if_neg e, ?_⟩
  have e1 : fateS s aB aA k [] = s.fate aB aA k [] := if_neg e
  have e2 : (s.fate aB aA k []).get aA aB = s.get aA aB := Net.get_setL_ne (by simp [aA, aB]) _
  rw [e1]
  exact ⟨h.arr, by rw [e2]; exact h.d, by rw [e2]; exact h.n, by rw [e2]; exact h.f, by rw [e2]; exact h.o, h.c, h.z, h.m, h.p⟩
theorem back_get (k : Nat) (l : List Int) : (((Net.init 0).fate aA aB k l).touch aA aB).get aB aA = ⟨0, 0, fun _ => none⟩ := by
  rw [Net.get_touch]
  exact Net.get_setL_ne (by simp [aA, aB]) _
theorem FtS.list (h : FtS at_ k l i s) : s.list at_ aA aB = if i = k then l else [0] := by
  unfold Net.list
  rw [h.c, if_neg (by simp [cutB]), h.n]
  by_cases e : i = k
  · subst e; rw [h.f, if_pos rfl]; rfl
  · rw [h.o i (by omega), if_neg e, h.d]; rfl
theorem sent_get (s : Net) (t : Int) (x y : ByteArray) (data : List Int) : (s.sent t x y data).get x y = { s.get x y with sent := (s.get x y).sent + 1 } := Net.get_setL_at ..
theorem FtS.sent (h : FtS at_ k l i s) (hi : i ≠ k) : FtS at_ k l (i + 1) (s.sent at_ aA aB [(i : Int)]) := by
  have hl := h.list
  rw [if_neg hi] at hl
  refine ⟨?_, by rw [sent_get]; exact h.d, by rw [sent_get]; show (s.get aA aB).sent + 1 = _; rw [h.n]; omega, by rw [sent_get]; exact h.f, by rw [sent_get]; exact h.o, h.c, ?_, by show s.msgs + 1 = _; rw [h.m]; omega, Int.le_refl _⟩
  · show s.arr ++ news at_ aA aB [(i : Int)] (s.msgs + 1) (s.list at_ aA aB) (s.list at_ aA aB).length = _
    rw [hl, h.arr, h.m]
    simp [news, mk0, List.range_succ]
  · show s.lost + (if (s.list at_ aA aB).length = 0 then 1 else 0) = 0
    rw [hl, h.z]
    rfl
/-- All that comes at last. -/
def fullA (at_ : Int) (k : Nat) (l : List Int) : List Arr := (List.range k).map (mk0 at_) ++ news at_ aA aB [(k : Int)] (k + 1) l l.length
/-- Behind message k. -/
structure FtE (at_ : Int) (k : Nat) (l : List Int) (s : Net) : Prop where
  arr : s.arr = fullA at_ k l
  n : (s.get aA aB).sent = k + 1
  z : s.lost = if l.length = 0 then 1 else 0
theorem FtS.last (h : FtS at_ k l k s) : FtE at_ k l (s.sent at_ aA aB [(k : Int)]) := by
  have hl := h.list
  rw [if_pos rfl] at hl
  refine ⟨?_, by rw [sent_get]; show (s.get aA aB).sent + 1 = _; rw [h.n], ?_⟩
  · show s.arr ++ news at_ aA aB [(k : Int)] (s.msgs + 1) (s.list at_ aA aB) (s.list at_ aA aB).length = _
    rw [hl, h.arr, h.m]
    rfl
  · show s.lost + (if (s.list at_ aA aB).length = 0 then 1 else 0) = _
    rw [hl, h.z]
    omega
theorem FtE.late (h : FtE at_ k l s) (l' : List Int) : fateE s aA aB k = 4 ∧ fateS s aA aB k l' = s.touch aA aB := by
  have e : ((s.get aA aB).fates k).isSome = true ∨ (k : Int) < (s.get aA aB).sent := .inr (by rw [h.n]; omega)
  exact ⟨if_pos e, if_pos e⟩
theorem FtE.touch (h : FtE at_ k l s) (x y : ByteArray) : FtE at_ k l (s.touch x y) := ⟨h.arr, by rw [Net.get_touch]; exact h.n, h.z⟩
theorem full_len (at_ : Int) (k : Nat) (l : List Int) : (fullA at_ k l).length = k + l.length := by simp [fullA, news]
/-- What a delivery of the full list bears. -/
theorem full_mem {z : Arr} (h : z ∈ fullA at_ k l) : ∃ i : Nat, i ≤ k ∧ z.data = [(i : Int)] ∧ (i = k ∨ z.t = at_) ∧ (z.t = at_ ∨ ∃ j, j < l.length ∧ z.t = at_ + l.getD j 0) := by
  rcases List.mem_append.1 h with h | h
  · obtain ⟨i, hi, rfl⟩ := List.mem_map.1 h
    have := List.mem_range.1 hi
    exact ⟨i, by omega, rfl, .inr rfl, .inl rfl⟩
  · obtain ⟨j, hj, rfl⟩ := List.mem_map.1 h
    have := List.mem_range.1 hj
    exact ⟨k, Nat.le_refl _, rfl, .inl rfl, .inr ⟨j, this, rfl⟩⟩
/-- How many of the list bear the number i. -/
def cntD (R : List Arr) (i : Nat) : Nat := R.countP fun z => decide (z.data = [(i : Int)])
theorem range_count (k i : Nat) (f : Nat → Arr) (hf : ∀ j, (f j).data = [(j : Int)]) : cntD ((List.range k).map f) i = if i < k then 1 else 0 := by
  unfold cntD
  rw [List.countP_map]
  have : (List.range k).countP ((fun z => decide (z.data = [(i : Int)])) ∘ f) = (List.range k).count i := by
    rw [List.count_eq_countP]
    apply List.countP_congr
    intro j _
    simp [hf]
    omega
  rw [this, List.nodup_range.count]
  simp only [List.mem_range]
theorem full_cnt (at_ : Int) (k : Nat) (l : List Int) (i : Nat) : cntD (fullA at_ k l) i = if i < k then 1 else if i = k then l.length else 0 := by
  have h1 := range_count k i (mk0 at_) fun _ => rfl
  have h2 : cntD (news at_ aA aB [(k : Int)] (k + 1) l l.length) i = if i = k then l.length else 0 := by
    unfold cntD news
    rw [List.countP_map]
    by_cases e : i = k
    · subst e
      rw [if_pos rfl, List.countP_eq_length.2 (fun j _ => by simp)]
      simp
    · rw [if_neg e, List.countP_eq_zero.2 (fun j _ => by simp; omega)]
  unfold cntD at *
  unfold fullA
  rw [List.countP_append, h1, h2]
  by_cases e : i < k
  · rw [if_pos e, if_pos e, if_neg (by omega)]
  · rw [if_neg e, if_neg e, Nat.zero_add]
/-- When those that bear the number k came, counted from at_. -/
def timesD (at_ : Int) (k : Nat) (R : List Arr) : List Int := (R.filter fun z => decide (z.data = [(k : Int)])).map fun z => z.t - at_
theorem timesD_snoc (R : List Arr) (z : Arr) : timesD at_ k (R ++ [z]) = if z.data = [(k : Int)] then timesD at_ k R ++ [z.t - at_] else timesD at_ k R := by
  unfold timesD
  rw [List.filter_append, List.map_append]
  by_cases e : z.data = [(k : Int)]
  · rw [if_pos e]; simp [e]
  · rw [if_neg e]; simp [e]
theorem cntD_snoc (R : List Arr) (z : Arr) (i : Nat) : cntD (R ++ [z]) i = cntD R i + if z.data = [(i : Int)] then 1 else 0 := by
  unfold cntD
  rw [List.countP_append]
  by_cases e : z.data = [(i : Int)] <;> simp [e]
theorem full_time {R : List Arr} (h : R.Perm (fullA at_ k l)) {j : Nat} (hj : j < l.length) : l.getD j 0 ∈ timesD at_ k R := by
  unfold timesD
  refine List.mem_map.2 ⟨⟨at_ + l.getD j 0, aA, aB, [(k : Int)], k + 1, j⟩, ?_, by show at_ + _ - at_ = _; omega⟩
  rw [List.mem_filter]
  refine ⟨h.symm.subset ?_, by simp⟩
  exact List.mem_append_right _ (List.mem_map.2 ⟨j, List.mem_range.2 hj, rfl⟩)
/-- One delivery more has come. -/
theorem recv_perm {R : List Arr} {F : List Arr} (h : (R ++ s.arr).Perm F) (h0 : 0 < s.arr.length) : ((R ++ [s.at_ (bestN s s.arr.length)]) ++ s.recv.arr).Perm F := by
  have hlt := bestN_lt s _ h0
  refine List.Perm.trans ?_ h
  rw [List.append_assoc]
  refine List.Perm.append_left R ?_
  show (s.at_ _ :: s.arr.eraseIdx _).Perm s.arr
  have e : s.at_ (bestN s s.arr.length) = s.arr[bestN s s.arr.length] := by
    unfold Net.at_
    rw [List.getD_eq_getElem?_getD, List.getElem?_eq_getElem hlt]
    rfl
  rw [e]
  rw [List.eraseIdx_eq_take_drop_succ]
  refine List.perm_middle.symm.trans ?_
  rw [← List.drop_eq_getElem_cons hlt, List.take_append_drop]
end
end Go.Proofs.Ytkhiepjlfbjgdaa

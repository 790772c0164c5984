/- collapse: the plain law of CollapseKeys. Conditions: each its own. -/
import Derived.Test.YtfnohilhlofimaaCoLeaveP
import Derived.Sort.Walk0
namespace Go.Proofs.Ytfnohilhlofimaa
open Go.RowKit

theorem keyC_at (i : Nat) (hi : i < 5) : keyC (i : Int) = c5[i]'(by simp [c5]; omega) := by
  match i, hi with
  | 0, _ => rfl
  | 1, _ => rfl
  | 2, _ => rfl
  | 3, _ => rfl
  | 4, _ => rfl
theorem c5_nodup : c5.Nodup := by simp [c5]
def ka : ByteArray := ⟨#[97, 110, 111, 116, 104, 101, 114, 32, 107, 101, 121]⟩
theorem ka_cU : ka ∈ cU := by simp [ka, cU]
theorem ka_c5 : ka ∉ c5 := by simp [ka, c5]
section
variable {s : Tb} {N p : Nat} {k : ByteArray} {l : List Int}
open Classical in
/-- How many of the first i keys are there. -/
noncomputable def cnt (s : Tb) (i : Nat) : Nat := ((c5.take i).filter fun k => decide (s.L k ≠ [])).length
theorem cnt_zero : cnt s 0 = 0 := rfl
theorem cnt_le (i : Nat) : cnt s i ≤ 5 := Nat.le_trans (List.length_filter_le _ _) (by rw [List.length_take]; simp [c5]; omega)
theorem cnt_yes {i : Nat} (hi : i < 5) (h : s.L (keyC (i : Int)) ≠ []) : cnt s (i + 1) = cnt s i + 1 := by
  unfold cnt
  rw [List.take_succ_eq_append_getElem (by simp [c5]; omega), List.filter_append, List.length_append, ← keyC_at i hi]
  simp [h]
theorem cnt_no {i : Nat} (hi : i < 5) (h : s.L (keyC (i : Int)) = []) : cnt s (i + 1) = cnt s i := by
  unfold cnt
  rw [List.take_succ_eq_append_getElem (by simp [c5]; omega), List.filter_append, List.length_append, ← keyC_at i hi]
  simp [h]
theorem cnt_all (hs : Sm s) : cnt s 5 = (keysS s).length := by
  unfold cnt keysS
  rw [show c5.take 5 = c5 from rfl]
  refine ((List.perm_ext_iff_of_nodup (c5_nodup.filter _) (cU_asc.nodup.filter _)).2 fun x => ?_).length_eq
  rw [List.mem_filter, List.mem_filter]
  simp only [decide_eq_true_eq]
  exact ⟨fun h => ⟨c5_cU h.1, h.2⟩, fun h => ⟨hs.l x h.2, h.2⟩⟩
/-- Ascending keys, as the walk asks. -/
theorem asc_less {ks : List ByteArray} (h : Asc ks) {i : Nat} (hi : i + 1 < ks.length) : Op.bytesLess (ks[i]).toList (ks[i + 1]).toList = true := by
  rw [bytesLess_eq, decide_eq_true_eq, ByteArray.toList_eq, ByteArray.toList_eq]
  exact (List.pairwise_iff_getElem.1 h) i (i + 1) (by omega) hi (by omega)
/-- Behind Done: the first p of the ids have asked again. -/
structure Ag (l : List Int) (k : ByteArray) (p : Nat) (s : Tb) : Prop where
  n : ∀ i, p ≤ i → i < l.length → s.I (l.getD i 0) = none
  l : s.L k = []
  m : s.M ka = none
theorem Ag.start (h : TbOk N s) (hs : Sm s) (k : ByteArray) : Ag (s.L k) k 0 (DoneT s k) := by
  refine ⟨fun i _ hi => ?_, done_L s k, ?_⟩
  · have hm : (s.L k).getD i 0 ∈ s.L k := by simp [List.getD, hi]
    unfold DoneT
    rw [if_neg (List.ne_nil_of_mem hm)]
    exact delAll_in (.inl hm)
  · unfold DoneT
    split
    · exact hs.noM ka_c5
    · exact hs.noM ka_c5
theorem Ag.none (h : Ag l k p s) (hp : p < l.length) : askE s (l.getD p 0) = 0 := by
  unfold askE
  rw [h.n p (Nat.le_refl _) hp]
  rfl
theorem Ag.ask (h : Ag l k p s) (hn : l.Nodup) (hk : k ≠ ka) (hp : p < l.length) : Ag l k (p + 1) (AskS s ka (l.getD p 0) 0) := by
  rw [ask_new (h.n p (Nat.le_refl _) hp) (mark_none h.m 0)]
  refine ⟨fun i hi hil => ?_, ?_, h.m⟩
  · show upd s.I _ _ (l.getD i 0) = _
    rw [upd_other ?_]
    · exact h.n i (by omega) hil
    · intro e
      rw [List.getD_eq_getElem?_getD, List.getD_eq_getElem?_getD, List.getElem?_eq_getElem hil, List.getElem?_eq_getElem hp] at e
      have := (List.getElem_inj hn).1 e
      omega
  · show upd s.L ka _ k = []
    rw [upd_other hk]
    exact h.l
theorem fail_none (h : s.L k = []) : failE s k = 3 := by unfold failE; rw [h]; rfl
end
end Go.Proofs.Ytfnohilhlofimaa

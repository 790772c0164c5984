/- collapse: the rows and marks of the document beside the table; plain. No program. -/
import Derived.Test.YtfnohilhlofimaaCoI
namespace Go.Proofs.Ytfnohilhlofimaa
open Go.RowKit

abbrev DRow := ByteArray × List Int
/-- The document's rows: the keys that have ids, ascending. -/
noncomputable def rowsL (L : ByteArray → List Int) : List DRow := (cU.filter fun k => decide (L k ≠ [])).map fun k => (k, L k)
def one (k : ByteArray) (l : List Int) : List DRow := if l = [] then [] else [(k, l)]
def dRow : DRow := (ByteArray.empty, [])
def fullB (r : DRow) : Bool := !r.2.isEmpty
def belowB (k : ByteArray) (r : DRow) : Bool := decide (bysS r.1 < bysS k)
/-- The place of a key. -/
def placeD (R : List DRow) (k : ByteArray) : Nat := R.findIdx fun r => !belowB k r
def withD (R : List DRow) (i : Nat) (ids : List Int) : List DRow := (R.set i ((R.getD i dRow).1, ids)).filter fullB
section
variable {L : ByteArray → List Int} {k : ByteArray} {A B R : List DRow} {l ids : List Int}
theorem rows_aux (K : List ByteArray) (h : ∀ x ∈ K, x ≠ k) (l : List Int) : ((K.filter fun x => decide (upd L k l x ≠ [])).map fun x => (x, upd L k l x)) = (K.filter fun x => decide (L x ≠ [])).map fun x => (x, L x) := by
  have h1 : ∀ x ∈ K, upd L k l x = L x := fun x hx => upd_other (h x hx)
  rw [List.filter_congr (q := fun x => decide (L x ≠ [])) fun x hx => by rw [h1 x hx]]
  exact List.map_congr_left fun x hx => by rw [h1 x ((List.mem_filter.1 hx).1)]
/-- The rows about a key. -/
theorem rows_split (L : ByteArray → List Int) (hk : k ∈ cU) : ∃ A B, (∀ r ∈ A, bysS r.1 < bysS k ∧ r.2 ≠ []) ∧ (∀ r ∈ B, bysS k < bysS r.1 ∧ r.2 ≠ []) ∧ ∀ l, rowsL (upd L k l) = A ++ (one k l ++ B) := by
  obtain ⟨X, Y, hc⟩ := List.append_of_mem hk
  have ha := cU_asc
  unfold Asc at ha
  rw [hc, List.pairwise_append, List.pairwise_cons] at ha
  obtain ⟨_, ⟨h2, _⟩, h3⟩ := ha
  have hX : ∀ x ∈ X, bysS x < bysS k := fun x hx => h3 x hx k (by simp)
  refine ⟨(X.filter fun x => decide (L x ≠ [])).map fun x => (x, L x), (Y.filter fun x => decide (L x ≠ [])).map fun x => (x, L x), fun r hr => ?_, fun r hr => ?_, fun l => ?_⟩
  · obtain ⟨x, hx, rfl⟩ := List.mem_map.1 hr
    obtain ⟨h4, h5⟩ := List.mem_filter.1 hx
    exact ⟨hX x h4, of_decide_eq_true h5⟩
  · obtain ⟨x, hx, rfl⟩ := List.mem_map.1 hr
    obtain ⟨h4, h5⟩ := List.mem_filter.1 hx
    exact ⟨h2 x h4, of_decide_eq_true h5⟩
  · unfold rowsL
    rw [hc, List.filter_append, List.filter_cons, List.map_append]
    rw [rows_aux X (fun x hx e => by have := hX x hx; rw [e] at this; exact List.lt_irrefl _ this) l]
    congr 1
    have hY := rows_aux (L := L) (k := k) Y (fun x hx e => by have := h2 x hx; rw [e] at this; exact List.lt_irrefl _ this) l
    rw [upd_same]
    unfold one
    by_cases e : l = []
    · rw [if_neg (by simpa using e), if_pos e, hY, List.nil_append]
    · rw [if_pos (by simpa using e), if_neg e, List.map_cons, hY, upd_same]
      rfl
theorem upd_self (L : ByteArray → List Int) (k : ByteArray) : upd L k (L k) = L := funext fun x => by
  by_cases e : x = k
  · subst e; exact upd_same
  · exact upd_other e
theorem place_eq (hA : ∀ r ∈ A, bysS r.1 < bysS k ∧ r.2 ≠ []) (hB : ∀ r ∈ B, bysS k < bysS r.1 ∧ r.2 ≠ []) : placeD (A ++ (one k l ++ B)) k = A.length := by
  unfold placeD
  rw [List.findIdx_append]
  have h1 : List.findIdx (fun r => !belowB k r) A = A.length := by
    rw [List.findIdx_eq_length]
    intro r hr
    simp [belowB, (hA r hr).1]
  rw [h1, if_neg (Nat.lt_irrefl _)]
  have h2 : List.findIdx (fun r => !belowB k r) (one k l ++ B) = 0 := by
    unfold one
    split
    · cases B with
      | nil => rfl
      | cons r B =>
        rw [List.nil_append, List.findIdx_cons]
        have h3 : ¬ bysS r.1 < bysS k := fun h3 => List.lt_irrefl _ (List.lt_trans h3 (hB r (by simp)).1)
        simp [belowB, h3]
    · rw [List.singleton_append, List.findIdx_cons]
      simp [belowB, List.lt_irrefl]
  rw [h2, Nat.zero_add]
theorem full_all (h : ∀ r ∈ R, r.2 ≠ []) : R.filter fullB = R := List.filter_eq_self.2 fun r hr => by
  have := h r hr
  unfold fullB
  cases h2 : r.2 with
  | nil => exact absurd h2 this
  | cons => rfl
theorem with_eq {l0 : List Int} (hA : ∀ r ∈ A, r.2 ≠ []) (hB : ∀ r ∈ B, r.2 ≠ []) (ids : List Int) : withD (A ++ (k, l0) :: B) A.length ids = A ++ (one k ids ++ B) := by
  unfold withD
  have h1 : (A ++ (k, l0) :: B).getD A.length dRow = (k, l0) := by simp [List.getD]
  rw [h1, List.set_append_right _ _ (Nat.le_refl _), Nat.sub_self, List.set_cons_zero, List.filter_append, full_all hA]
  congr 1
  unfold one
  by_cases e : ids = []
  · rw [if_pos e, List.filter_cons, if_neg (by simp [fullB, e]), full_all hB, List.nil_append]
  · rw [if_neg e, List.filter_cons, if_pos (by unfold fullB; cases ids with | nil => exact absurd rfl e | cons => rfl), full_all hB, List.singleton_append]
/-- What the calls leave of the rows. -/
theorem rows_with (hk : k ∈ cU) (hl : L k ≠ []) (ids : List Int) : withD (rowsL L) (placeD (rowsL L) k) ids = rowsL (upd L k ids) ∧ (rowsL L)[placeD (rowsL L) k]? = some (k, L k) := by
  obtain ⟨A, B, hA, hB, h⟩ := rows_split L hk
  have h0 := h (L k)
  rw [upd_self] at h0
  rw [h0, place_eq hA hB, h ids]
  have h1 : one k (L k) = [(k, L k)] := if_neg hl
  rw [h1, List.singleton_append]
  exact ⟨with_eq (fun r hr => (hA r hr).2) (fun r hr => (hB r hr).2) ids, by simp⟩
theorem rows_new (hk : k ∈ cU) (hl : L k = []) {ids : List Int} (hi : ids ≠ []) : (rowsL L).take (placeD (rowsL L) k) ++ ((k, ids) :: (rowsL L).drop (placeD (rowsL L) k)) = rowsL (upd L k ids) ∧ placeD (rowsL L) k ≤ (rowsL L).length ∧ ∀ r, (rowsL L)[placeD (rowsL L) k]? = some r → r.1 ≠ k := by
  obtain ⟨A, B, hA, hB, h⟩ := rows_split L hk
  have h0 := h (L k)
  rw [upd_self] at h0
  rw [h0, place_eq hA hB, h ids]
  have h1 : one k (L k) = [] := if_pos hl
  have h2 : one k ids = [(k, ids)] := if_neg hi
  rw [h1, h2, List.nil_append, List.take_left, List.drop_left]
  refine ⟨rfl, by simp, fun r hr e => ?_⟩
  rw [List.getElem?_append_right (Nat.le_refl _), Nat.sub_self] at hr
  cases B with
  | nil => cases hr
  | cons r' B =>
    have h3 : r' = r := by simpa using hr
    have := (hB r' (by simp)).1
    rw [h3, e] at this
    exact List.lt_irrefl _ this
theorem rows_mem {r : DRow} (h : r ∈ rowsL L) : r.2 = L r.1 ∧ r.2 ≠ [] ∧ r.1 ∈ cU := by
  unfold rowsL at h
  obtain ⟨x, hx, rfl⟩ := List.mem_map.1 h
  obtain ⟨h4, h5⟩ := List.mem_filter.1 hx
  exact ⟨rfl, of_decide_eq_true h5, h4⟩
theorem rows_len (L : ByteArray → List Int) : (rowsL L).length ≤ 8 := by
  unfold rowsL
  rw [List.length_map]
  exact List.length_filter_le _ _
/-- Where an id stands. -/
theorem rows_id {s : Tb} {N : Nat} (h : TbOk N s) {n : Int} (hi : s.I n = some k) : k ∈ cU ∧ s.L k ≠ [] ∧ (rowsL s.L)[placeD (rowsL s.L) k]? = some (k, s.L k) ∧ n ∈ s.L k ∧ ∀ i r, (rowsL s.L)[i]? = some r → n ∈ r.2 → i = placeD (rowsL s.L) k := by
  have h1 := (h.iL n k).1 hi
  have h2 : s.L k ≠ [] := fun e => by rw [e] at h1; cases h1
  have h3 := h.un k h2
  refine ⟨h3, h2, (rows_with h3 h2 []).2, h1, fun i r hr hn => ?_⟩
  have h4 := rows_mem (List.mem_of_getElem? hr)
  have h5 : s.I n = some r.1 := (h.iL n r.1).2 (by rw [← h4.1]; exact hn)
  rw [hi] at h5
  have h6 : k = r.1 := Option.some.inj h5
  have hnd : (rowsL s.L).Nodup := by
    unfold rowsL
    have : (cU.filter fun k => decide (s.L k ≠ [])).Pairwise fun x y => bysS x < bysS y := List.Pairwise.filter _ cU_asc
    exact List.pairwise_map.2 (this.imp fun hlt e => by have e2 := congrArg Prod.fst e; simp only at e2; rw [e2] at hlt; exact List.lt_irrefl _ hlt)
  have h7 : r = (k, s.L k) := by rw [h6, ← h4.1]
  have h8 := (rows_with h3 h2 []).2
  rw [h7] at hr
  obtain ⟨q1, q2⟩ := List.getElem?_eq_some_iff.1 hr
  obtain ⟨q3, q4⟩ := List.getElem?_eq_some_iff.1 h8
  exact (List.getElem_inj hnd).1 (q2.trans q4.symm)
theorem rows_noid {s : Tb} {N : Nat} (h : TbOk N s) {n : Int} (hi : s.I n = none) : ∀ r ∈ rowsL s.L, n ∉ r.2 := fun r hr hn => by
  have h4 := rows_mem hr
  have h5 : s.I n = some r.1 := (h.iL n r.1).2 (by rw [← h4.1]; exact hn)
  rw [hi] at h5
  cases h5
end
/-- Marks, the latest first. -/
def markOf : List (ByteArray × Int) → ByteArray → Option Int
  | [], _ => none
  | (x, u) :: r, k => if x = k then some u else markOf r k
def setMarkD (ms : List (ByteArray × Int)) (k : ByteArray) (u : Int) : List (ByteArray × Int) := (k, u) :: ms.filter fun m => !decide (m.1 = k)
theorem markOf_filter {ms : List (ByteArray × Int)} {k x : ByteArray} (h : x ≠ k) : markOf (ms.filter fun m => !decide (m.1 = k)) x = markOf ms x := by
  induction ms with
  | nil => rfl
  | cons m ms ih =>
    obtain ⟨y, u⟩ := m
    by_cases e : y = k
    · rw [List.filter_cons, if_neg (by simp [e]), ih]
      show _ = if y = x then some u else markOf ms x
      rw [if_neg (fun e2 => h (by rw [← e2, e]))]
    · rw [List.filter_cons, if_pos (by simp [e])]
      show (if y = x then some u else markOf (ms.filter fun m => !decide (m.1 = k)) x) = if y = x then some u else markOf ms x
      rw [ih]
theorem markOf_set (ms : List (ByteArray × Int)) (k : ByteArray) (u : Int) : markOf (setMarkD ms k u) = upd (markOf ms) k (some u) := funext fun x => by
  unfold setMarkD
  show (if k = x then some u else _) = _
  by_cases e : x = k
  · subst e; rw [if_pos rfl, upd_same]
  · rw [if_neg (fun e2 => e e2.symm), upd_other e, markOf_filter e]
theorem setMark_len (ms : List (ByteArray × Int)) (k : ByteArray) (u : Int) : (setMarkD ms k u).length ≤ ms.length + 1 := Nat.succ_le_succ (List.length_filter_le _ _)
end Go.Proofs.Ytfnohilhlofimaa

/- queue: a list of items as cells; index, sum, keys. Conditions: each contract names its own. -/
import Derived.Test.YtonkaodbjohkkaaQuB
namespace Go.Proofs.Ytonkaodbjohkkaa
open Go.RowKit

abbrev It := ByteArray × Int
def itCells : List It → List Value
  | [] => []
  | x :: r => .string x.1 :: .int .i64 x.2 :: itCells r
theorem itCells_len : ∀ l : List It, (itCells l).length = l.length * 2
  | [] => rfl
  | c :: r => by simp [itCells, itCells_len r]; omega
theorem itCells_get : ∀ (l : List It) (i : Nat) (h : i < l.length), (itCells l)[i * 2]? = some (.string l[i].1) ∧ (itCells l)[i * 2 + 1]? = some (.int .i64 l[i].2)
  | e :: r, 0, _ => by simp [itCells]
  | e :: r, i + 1, h => by
    have := itCells_get r i (by simpa using h)
    simp only [itCells, Nat.add_mul, List.getElem?_cons_succ, List.getElem_cons_succ]
    exact ⟨by simpa using this.1, by simpa using this.2⟩
theorem itCells_append : ∀ (l r : List It), itCells (l ++ r) = itCells l ++ itCells r
  | [], r => rfl
  | e :: l, r => by simp [itCells, itCells_append l r]
theorem itCells_drop : ∀ (l : List It) (i : Nat), itCells (l.drop i) = (itCells l).drop (i * 2)
  | l, 0 => by simp
  | [], i + 1 => by simp [itCells]
  | e :: l, i + 1 => by
    rw [Nat.add_mul, List.drop_succ_cons, itCells_drop l i]
    simp [itCells]
theorem itCells_take : ∀ (l : List It) (i : Nat), itCells (l.take i) = (itCells l).take (i * 2)
  | l, 0 => by simp [itCells]
  | [], i + 1 => by simp [itCells]
  | e :: l, i + 1 => by
    rw [Nat.add_mul, List.take_succ_cons]
    simp [itCells, itCells_take l i]
theorem itCells_erase (l : List It) (i : Nat) : itCells (l.eraseIdx i) = (itCells l).take (i * 2) ++ (itCells l).drop ((i + 1) * 2) := by
  rw [List.eraseIdx_eq_take_drop_succ, itCells_append, itCells_take, itCells_drop]
theorem itCells_one (l : List It) : ∀ u ∈ itCells l, u.oneCell' = true := by
  induction l with
  | nil => simp [itCells]
  | cons x r ih => simp only [itCells, List.mem_cons]; rintro u (rfl | rfl | h); rfl; rfl; exact ih u h
/-- The list at v. -/
def IsL (w : World) (v : Value) (l : List It) : Prop := OL w 65 2 v l.length (itCells l)
theorem IsL.form {w : World} {v : Value} {l : List It} (h : IsL w v l) : ∃ ao cap, v = .slice ao l.length cap ∧ (0 < l.length → ∃ g off, ao = some ⟨g, off, none⟩ ∧ g < w.heap.size) ∧ l.length ≤ cap ∧ cap ≤ 9223372036854775807 := by
  rcases OL.forms h with ⟨e, e0⟩ | ⟨g, off, cap, e, h1, h2, h3⟩
  · exact ⟨none, 0, by rw [e, e0], by omega, by omega, by omega⟩
  · exact ⟨_, cap, e, fun _ => ⟨g, off, rfl, h3⟩, h1, by unfold maxLen at h2; omega⟩
def eqB (x y : ByteArray) : Bool := x.toList == y.toList
theorem eqB_iff {x y : ByteArray} : eqB x y = true ↔ x = y := by
  unfold eqB
  rw [beq_iff_eq]
  constructor
  · intro h
    rw [ByteArray.toList_eq, ByteArray.toList_eq] at h
    exact ByteArray.ext (Array.toList_inj.1 h)
  · rintro rfl; rfl
theorem eqB_self (x : ByteArray) : eqB x x = true := eqB_iff.2 rfl
theorem eqB_ne {x y : ByteArray} (h : x ≠ y) : eqB x y = false := by
  cases e : eqB x y
  · rfl
  · exact absurd (eqB_iff.1 e) h
def idxN (l : List It) (k : ByteArray) : Option Nat := l.findIdx? fun x => eqB x.1 k
def idxI (l : List It) (k : ByteArray) : Int := match idxN l k with
  | some i => i
  | none => -1
def dIt : It := (ByteArray.empty, 0)
theorem idxN_some {l : List It} {k : ByteArray} {i : Nat} (hi : i < l.length) (h : eqB (l.getD i dIt).1 k = true) (hb : ∀ j, j < i → eqB (l.getD j dIt).1 k = false) : idxN l k = some i := by
  unfold idxN
  rw [List.findIdx?_eq_some_iff_getElem]
  refine ⟨hi, by simpa [List.getD, hi] using h, fun j hj => ?_⟩
  have := hb j hj
  simp [List.getD, show j < l.length by omega] at this
  rw [this]; simp
theorem idxN_none {l : List It} {k : ByteArray} (hb : ∀ j, j < l.length → eqB (l.getD j dIt).1 k = false) : idxN l k = none := by
  unfold idxN
  rw [List.findIdx?_eq_none_iff]
  intro x hx
  obtain ⟨i, hi, rfl⟩ := List.getElem_of_mem hx
  simpa [List.getD, hi] using hb i hi
theorem idxN_lt {l : List It} {k : ByteArray} {i : Nat} (h : idxN l k = some i) : i < l.length := by
  unfold idxN at h
  rw [List.findIdx?_eq_some_iff_getElem] at h
  exact h.1
section
variable {w : World} {v : Value} {l : List It}
theorem index1_any (x : It) (k : ByteArray) (p : Nat) (w : World) (h0 : w.cell? ⟨p, 0, none⟩ = some (.string k)) (l0 : p < w.heap.size) :
    Calls Try.prog 41 #[.agg #[.string x.1, .int .i64 x.2], .pointer (some ⟨p, 0, none⟩)] w fun e w' => e = .returned (.bool (eqB x.1 k)) ∧ Below w.heap.size w w' := by
  have hB : Below w.heap.size w (w.alloc (.cells #[.string x.1, .int .i64 x.2] 65)) := by go_grown
  have g0 := (hB.cell (p := ⟨p, 0, none⟩) l0).trans h0
  unfold eqB
  clear h0
  go_enter Try.func41, Try.ntmps41
  go_wp2
  go_ret
  exact ⟨rfl, hB⟩
set_option maxRecDepth 100000 in
set_option maxHeartbeats 1600000 in
theorem indexf_any {p : Nat} {k : ByteArray} (ho : IsL w v l) (h0 : w.cell? ⟨p, 0, none⟩ = some (.string k)) (l0 : p < w.heap.size) :
    Calls Try.prog 40 #[v, .func (.func 41) #[] #[.pointer (some ⟨p, 0, none⟩)]] w fun e w' => e = .returned (.int .i64 (idxI l k)) ∧ Below w.heap.size w w' := by
  obtain ⟨ao, cap, rfl, hao, hcp, hcm⟩ := ho.form
  have CS := Lib.hid (fun (c : It) (w' : World) (hb : Below w.heap.size w w') => index1_any c k p w' ((hb.cell (p := ⟨p, 0, none⟩) l0).trans h0) (Nat.lt_of_lt_of_le l0 hb.size))
  have HO := Lib.hid ho
  have HA := Lib.hid hao
  have hmax : l.length ≤ 9223372036854775807 := by omega
  clear ho h0 l0 hao hcp
  go_enter Try.func40, Try.ntmps40
  go_wp2_with fail
  go_loopw [8] (fun i wr => ∃ j : Nat, j ≤ l.length ∧ i = .int .i64 j ∧ (∀ i, i < j → eqB (l.getD i dIt).1 k = false) ∧ Below w.heap.size w wr) (fun i _ => l.length - (intOf i).toNat)
  case atStart => exact ⟨0, Nat.zero_le _, rfl, by omega, Below.refl _ _⟩
  case round =>
    obtain ⟨j, hk, rfl, hF, hB⟩ := hrel
    have HF := Lib.hid hF
    clear hF
    by_cases hlt : j < l.length
    · obtain ⟨g, off, rfl, _⟩ := HA.out (by omega)
      have ho := OL.below HO.out hB (fun g hg => OL.lt HO.out g hg)
      obtain ⟨c0, c1⟩ := itCells_get l j hlt
      have e : l[j] = l.getD j dIt := by simp [List.getD, hlt]
      rw [e] at c0 c1
      have a0 := (ho.cell (j * 2) (by omega)).trans c0
      have a1 := (ho.cell (j * 2 + 1) (by omega)).trans c1
      rw [← Nat.add_assoc] at a1
      have CK := Lib.hid (CS.out (l.getD j dIt) wr hB)
      have HT := Lib.hid (fun h => show idxI l k = j from by unfold idxI; rw [idxN_some hlt h HF.out])
      have HN := Lib.hid (fun (h : eqB (l.getD j dIt).1 k = false) (i : Nat) (hi : i < j + 1) => show eqB (l.getD i dIt).1 k = false from by
        by_cases e : i = j
        · rw [e]; exact h
        · exact HF.out i (by omega))
      clear ho c0 c1 e
      generalize l.getD j dIt = c at a0 a1 CK HT HN
      cases hc : eqB c.1 k
      · rw [hc] at CK
        have HN2 := Lib.hid (HN.out hc)
        clear HT HN hc
        go_wp2_with fail
        refine CK.out.mono ?_
        rintro e w1 ⟨rfl, hb⟩
        have hB1 := hB.trans (hb.mono hB.size)
        clear a0 a1 CK hb hB
        go_wp2
        go_roundw
        case rel => exact ⟨j + 1, by omega, by go_num, HN2.out, hB1⟩
        case measure => simp [intOf]; omega
      · rw [hc] at CK
        have HT2 := Lib.hid (HT.out hc)
        clear HT HN hc
        go_wp2_with fail
        refine CK.out.mono ?_
        rintro e w1 ⟨rfl, hb⟩
        have hB1 := hB.trans (hb.mono hB.size)
        clear a0 a1 CK hb hB
        go_wp2
        go_ret
        exact ⟨by rw [HT2.out]; rfl, hB1⟩
    · obtain rfl : j = l.length := by omega
      have HR := Lib.hid (show idxI l k = -1 from by unfold idxI; rw [idxN_none HF.out])
      go_wp2
      go_ret
      exact ⟨by rw [HR.out]; rfl, hB⟩
theorem index_any {k : ByteArray} (ho : IsL w v l) : Calls Try.prog 28 #[v, .string k] w fun e w' => e = .returned (.int .i64 (idxI l k)) ∧ Below w.heap.size w w' := by
  have hB : Below w.heap.size w (w.alloc (.cells #[.string k] 9)) := by go_grown
  have CI := Lib.hid (indexf_any (k := k) (OL.below ho hB (fun g hg => OL.lt ho g hg)) (has_cell (heap_alloc_new w _) 0) (by simp))
  obtain ⟨ao, cap, rfl, _⟩ := ho.form
  clear ho
  go_enter Try.func28, Try.ntmps28
  go_wp2_with fail
  refine CI.out.mono ?_
  rintro e w1 ⟨rfl, hb⟩
  have hB1 := hB.trans (hb.mono hB.size)
  go_wp2
  go_ret
  exact ⟨rfl, hB1⟩
end
end Go.Proofs.Ytonkaodbjohkkaa

/- topology: texts: whether one is there, which list is less, whether two lists are the same; names of towns. Conditions: the slices can be read. -/
import Derived.Test.YtpcapmialdmcaaaTpQ
import Derived.Test.YtpcapmialdmcaaaErr
import Derived.Lib.MinMax
namespace Go.Proofs.Ytpcapmialdmcaaa
open Go.RowKit

def strs (l : List ByteArray) : List Value := l.map Value.string
theorem strs_len (l : List ByteArray) : (strs l).length = l.length := by simp [strs]
theorem strs_get (l : List ByteArray) (i : Nat) (h : i < l.length) : (strs l)[i]? = some (.string (l.getD i ByteArray.empty)) := by simp [strs, List.getD, h]
theorem strs_one (l : List ByteArray) : ∀ u ∈ strs l, u.oneCell' = true := by
  intro u hu
  obtain ⟨x, _, rfl⟩ := List.mem_map.1 hu
  rfl
theorem infoStr : (Try.prog.info? 9).map (fun i => (i.zero, i.size, i.bytes)) = some (some (.string ByteArray.empty), 1, 16) := by kernel_rfl
/-- A slice of texts. -/
def IsT (w : World) (v : Value) (l : List ByteArray) : Prop := OL w 9 1 v l.length (strs l)
theorem IsT.form {w : World} {v : Value} {l : List ByteArray} (h : IsT w v l) : ∃ ao cap, v = .slice ao l.length cap ∧ (0 < l.length → ∃ g off, ao = some ⟨g, off, none⟩ ∧ g < w.heap.size) ∧ l.length ≤ cap ∧ cap ≤ 9223372036854775807 := by
  rcases OL.forms h with ⟨e, e0⟩ | ⟨g, off, cap, e, h1, h2, h3⟩
  · exact ⟨none, 0, by rw [e, e0], by omega, by omega, by omega⟩
  · exact ⟨_, cap, e, fun _ => ⟨g, off, rfl, h3⟩, h1, by unfold maxLen at h2; omega⟩
/-- What a call leaves that returns new texts. -/
def NewT (l : List ByteArray) (w : World) (en : Ending) (w' : World) : Prop :=
  ∃ v', en = .returned v' ∧ IsT w' v' l ∧ (∀ k, v'.ownBlock = some k → w.heap.size ≤ k) ∧ Below w.heap.size w w'
/-- append(out, k). -/
theorem texts_append {w : World} {v : Value} {l : List ByteArray} (h : IsT w v l) (hl : l.length ≤ 1000000) (k : ByteArray) :
    ∃ v' w', (Builtin.append_ #[28, 28] 28 #[v, .slice (some ⟨w.heap.size, 0, none⟩) 1 1]).run Try.prog (w.alloc (.cells #[.string k] 9)) = .ok v' w' ∧ IsT w' v' (l ++ [k]) ∧ (w.alloc (.cells #[.string k] 9)).grownBy w' v.ownBlock ∧ (v'.ownBlock = v.ownBlock ∨ v'.ownBlock = some (w.heap.size + 1)) ∧ ∃ ao cap, v' = .slice ao (l.length + 1) cap := by
  obtain ⟨ti, hi, iz, is, ib⟩ := info_parts infoStr
  have h1 := OL.alloc h (.cells #[.string k] 9)
  have hsrc : Src Try.prog 1 28 (.slice (some ⟨w.heap.size, 0, none⟩) 1 1) 1 [.string k] (w.alloc (.cells #[.string k] 9)) :=
    (OL.of_block (cs := [.string k]) (size := 1) (n := 1) (heap_alloc_new w _) rfl (by simp [maxLen])).src Try.underlying28 (fun u hu => by simp at hu; rw [hu]; rfl)
  obtain ⟨v', w', hap, ho, hgr, hown⟩ := h1.append (P := Try.prog) 28 28 28 ti _ 16 Try.underlying28 hi iz is ib rfl (by omega) hsrc (by unfold maxLen; omega) (by omega)
  obtain ⟨g, off, cap, rfl, _⟩ := ho.form (by omega)
  refine ⟨_, w', hap, ?_, hgr, by rwa [World.size_alloc] at hown, _, cap, rfl⟩
  show OL _ _ _ _ (l ++ [k]).length (strs (l ++ [k]))
  rw [List.length_append]
  simpa [strs] using ho
/-- A slice of texts that can be read. -/
def RT (w : World) (v : Value) (l : List ByteArray) : Prop := ∃ ao cap, v = .slice ao l.length cap ∧ l.length ≤ 9223372036854775807 ∧
  (0 < l.length → ∃ b off, ao = some ⟨b, off, none⟩ ∧ b < w.heap.size ∧ ∀ i, i < l.length → w.cell? ⟨b, off + i, none⟩ = some (.string (l.getD i ByteArray.empty)))
section
variable {w w' : World} {v : Value} {l : List ByteArray}
theorem IsT.rt (h : IsT w v l) : RT w v l := by
  rcases OL.forms h with ⟨e, e0⟩ | ⟨g, off, cap, e, h1, h2, h3⟩
  · exact ⟨none, 0, by rw [e, e0], by omega, by omega⟩
  · subst e
    refine ⟨_, cap, rfl, by unfold maxLen at h2; omega, fun _ => ⟨g, off, rfl, h3, fun i hi => ?_⟩⟩
    exact (OL.cell h i (by omega)).trans (strs_get l i hi)
theorem RT.below (h : RT w v l) {B : Nat} (hb : Below B w w') (hB : w.heap.size ≤ B) : RT w' v l := by
  obtain ⟨ao, cap, e, h1, h2⟩ := h
  refine ⟨ao, cap, e, h1, fun h0 => ?_⟩
  obtain ⟨b, off, e2, h3, h4⟩ := h2 h0
  exact ⟨b, off, e2, by have := hb.size; omega, fun i hi => (hb.cell (p := ⟨b, off + i, none⟩) (by simp; omega)).trans (h4 i hi)⟩
theorem RT.belowS (h : RT w v l) (hb : Below w.heap.size w w') : RT w' v l := h.below hb (Nat.le_refl _)
def inL (k : ByteArray) (l : List ByteArray) : Bool := l.any fun x => k.toList == x.toList
theorem inL_iff {k : ByteArray} {l : List ByteArray} : inL k l = true ↔ k ∈ l := by
  unfold inL
  rw [List.any_eq_true]
  constructor
  · rintro ⟨x, hx, h⟩
    rw [eqB_iff] at h
    rw [h]; exact hx
  · exact fun h => ⟨k, h, by rw [eqB_iff]⟩
theorem inL_of {k : ByteArray} {l : List ByteArray} (h : k ∈ l) : inL k l = true := inL_iff.2 h
theorem inL_not {k : ByteArray} {l : List ByteArray} (h : ∀ i, i < l.length → l.getD i ByteArray.empty ≠ k) : inL k l = false := by
  cases e : inL k l
  · rfl
  · obtain ⟨i, hi, he⟩ := List.getElem_of_mem (inL_iff.1 e)
    exact absurd (by simp [List.getD, hi, he]) (h i hi)
theorem getD_mem {l : List ByteArray} {i : Nat} (h : i < l.length) : l.getD i ByteArray.empty ∈ l := by
  have : l.getD i ByteArray.empty = l[i] := by simp [List.getD, h]
  rw [this]; exact List.getElem_mem h
def IdxP (k : ByteArray) (l : List ByteArray) (w : World) (e : Ending) (w' : World) : Prop := ∃ x : Int, e = .returned (.int .i64 x) ∧ decide (0 ≤ x) = inL k l ∧ -1 ≤ x ∧ x ≤ 9223372036854775807 ∧ w' = w
set_option maxHeartbeats 800000 in
theorem index_any (h : RT w v l) (k : ByteArray) : Calls Try.prog 47 #[v, .string k] w (IdxP k l w) := by
  obtain ⟨ao, cap, rfl, hn, hc⟩ := h
  have HC := Lib.hid hc
  have HI := Lib.hid (fun i (hi : i < l.length) (e : l.getD i ByteArray.empty = k) => show inL k l = true from inL_of (by rw [← e]; exact getD_mem hi))
  have HN := Lib.hid (@inL_not k l)
  clear hc
  go_enter Try.func47, Try.ntmps47
  go_wp2_with fail
  go_loopw [8] (fun iv wr => ∃ j : Nat, j ≤ l.length ∧ iv = .int .i64 j ∧ (∀ i, i < j → l.getD i ByteArray.empty ≠ k) ∧ wr = w) (fun iv _ => l.length - (intOf iv).toNat)
  case atStart => exact ⟨0, Nat.zero_le _, rfl, fun i hi => by omega, rfl⟩
  case round =>
    obtain ⟨j, hj, rfl, hF, rfl⟩ := hrel
    have HF := Lib.hid hF
    clear hF
    by_cases hlt : j < l.length
    · obtain ⟨b, off, rfl, _, hc⟩ := HC.out (by omega)
      have c0 := hc j hlt
      have HJ := Lib.hid (HI.out j hlt)
      have HS := Lib.hid (fun (h : l.getD j ByteArray.empty ≠ k) (i : Nat) (hi : i < j + 1) => show l.getD i ByteArray.empty ≠ k from by
        by_cases e : i = j
        · rw [e]; exact h
        · exact HF.out i (by omega))
      clear hc
      generalize l.getD j ByteArray.empty = y at *
      cases hq : (k.toList == y.toList)
      · have HS2 := Lib.hid (HS.out fun e => by rw [e] at hq; simp at hq)
        go_wp2_with fail
        go_roundw
        case rel => exact ⟨j + 1, by omega, by go_num, HS2.out, by first | rfl | trivial⟩
        case measure => simp [intOf]; omega
      · have HP : Hid (IdxP k l wr (.returned (.int .i64 (j : Int))) wr) := Lib.hid ⟨j, rfl, by rw [HJ.out (eqB_iff.1 hq).symm]; exact decide_eq_true (by omega), by omega, by omega, rfl⟩
        go_wp2_with fail
        go_ret
        exact HP.out
    · obtain rfl : j = l.length := by omega
      have HP : Hid (IdxP k l wr (.returned (.int .i64 (-1))) wr) := Lib.hid ⟨-1, rfl, by rw [inL_not HF.out]; rfl, by omega, by omega, rfl⟩
      go_wp2_with fail
      go_ret
      exact HP.out
set_option maxHeartbeats 800000 in
theorem contains_any (h : RT w v l) (k : ByteArray) : Calls Try.prog 41 #[v, .string k] w fun e w' => e = .returned (.bool (inL k l)) ∧ w' = w := by
  have CI := Lib.hid (index_any h k)
  obtain ⟨ao, cap, rfl, hn, hc⟩ := h
  clear hc
  go_enter Try.func41, Try.ntmps41
  go_wp2_with fail
  refine CI.out.mono ?_
  rintro e w1 ⟨x, rfl, hx, h1, h2, hw⟩
  obtain rfl : w = w1 := hw.symm
  have HX := Lib.hid hx
  clear hx
  go_wp2
  go_ret
  rw [← HX.out]
  exact ⟨rfl, rfl⟩
/-- Go's cmp.Compare of texts. -/
def cmpS (x y : ByteArray) : Int := if ltS x y = true then -1 else if ltS y x = true then 1 else 0
set_option maxHeartbeats 800000 in
theorem cmp_any (x y : ByteArray) (w : World) : Calls Try.prog 60 #[.string x, .string y] w fun e w' => e = .returned (.int .i64 (cmpS x y)) ∧ w' = w := by
  have hx : (x.toList == x.toList) = true := eqB_iff.2 rfl
  have hy : (y.toList == y.toList) = true := eqB_iff.2 rfl
  cases h1 : ltS x y
  · cases h2 : (x.toList == y.toList)
    · have hne := eqB_false.1 h2
      have h3 : ltS y x = true := by
        cases h3 : ltS y x
        · exact absurd (ltS_tri h1 h3) hne
        · rfl
      have hv : cmpS x y = 1 := by unfold cmpS; rw [h1, h3]; rfl
      rw [hv]
      unfold ltS at h1
      clear h3 hv hne
      go_enter Try.func60, Try.ntmps60
      go_wp2
      go_ret
      exact ⟨rfl, rfl⟩
    · have hv : cmpS x y = 0 := by
        have e := eqB_iff.1 h2
        subst e
        unfold cmpS
        rw [ltS_irrefl]; rfl
      rw [hv]
      unfold ltS at h1
      clear hv
      go_enter Try.func60, Try.ntmps60
      go_wp2
      go_ret
      exact ⟨rfl, rfl⟩
  · have hv : cmpS x y = -1 := by unfold cmpS; rw [h1]; rfl
    rw [hv]
    unfold ltS at h1
    clear hv
    go_enter Try.func60, Try.ntmps60
    go_wp2
    go_ret
    exact ⟨rfl, rfl⟩
theorem drop_lt {l : List ByteArray} {j : Nat} (h : j < l.length) : l.drop j = l.getD j ByteArray.empty :: l.drop (j + 1) := by
  rw [List.drop_eq_getElem_cons h]; simp [List.getD, h]
def CmpP (a b : List ByteArray) (w : World) (e : Ending) (w' : World) : Prop := ∃ x : Int, e = .returned (.int .i64 x) ∧ decide (x < 0) = lexLt a b ∧ -1 ≤ x ∧ x ≤ 1 ∧ w' = w
set_option maxRecDepth 100000 in
set_option maxHeartbeats 1600000 in
theorem compare_any {va vb : Value} {a b : List ByteArray} (ha : RT w va a) (hb : RT w vb b) : Calls Try.prog 48 #[va, vb] w (CmpP a b w) := by
  obtain ⟨aoa, capa, rfl, hna, hca⟩ := ha
  obtain ⟨aob, capb, rfl, hnb, hcb⟩ := hb
  have HA := Lib.hid hca
  have HB := Lib.hid hcb
  clear hca hcb
  go_enter Try.func48, Try.ntmps48
  go_wp2_with fail
  go_loopw [11] (fun iv wr => ∃ j : Nat, j ≤ a.length ∧ j ≤ b.length ∧ iv = .int .i64 j ∧ lexLt a b = lexLt (a.drop j) (b.drop j) ∧ wr = w) (fun iv _ => a.length - (intOf iv).toNat)
  case atStart => exact ⟨0, Nat.zero_le _, Nat.zero_le _, rfl, rfl, rfl⟩
  case round =>
    obtain ⟨j, hj, hjb, rfl, hF, rfl⟩ := hrel
    have HF := Lib.hid hF
    clear hF
    by_cases hlt : j < a.length
    · obtain ⟨ba, offa, rfl, _, hc⟩ := HA.out (by omega)
      have c0 := hc j hlt
      clear hc
      by_cases hlb : j < b.length
      · obtain ⟨bb, offb, rfl, _, hc⟩ := HB.out (by omega)
        have d0 := hc j hlb
        clear hc
        have dj : decide ((b.length : Int) ≤ (j : Int)) = false := decide_eq_false (by omega)
        have HS := Lib.hid (show lexLt a b = (ltS (a.getD j ByteArray.empty) (b.getD j ByteArray.empty) || (((a.getD j ByteArray.empty).toList == (b.getD j ByteArray.empty).toList) && lexLt (a.drop (j + 1)) (b.drop (j + 1)))) from by rw [HF.out, drop_lt hlt, drop_lt hlb]; rfl)
        generalize a.getD j ByteArray.empty = x at *
        generalize b.getD j ByteArray.empty = y at *
        by_cases hc : cmpS x y = 0
        · have hxy : x = y := by
            unfold cmpS at hc
            by_cases h1 : ltS x y = true
            · rw [if_pos h1] at hc; omega
            · rw [if_neg h1] at hc
              by_cases h2 : ltS y x = true
              · rw [if_pos h2] at hc; omega
              · exact ltS_tri (by simpa using h1) (by simpa using h2)
          subst hxy
          have HN := Lib.hid (show lexLt a b = lexLt (a.drop (j + 1)) (b.drop (j + 1)) from by rw [HS.out, ltS_irrefl, eqB_iff.2 rfl]; rfl)
          have CC := Lib.hid (cmp_any x x wr)
          rw [hc] at CC
          clear hc
          go_wp2_with fail
          refine CC.out.mono ?_
          rintro e w1 ⟨rfl, hw⟩
          obtain rfl : wr = w1 := hw.symm
          go_wp2_with fail
          go_roundw
          case rel => exact ⟨j + 1, by omega, by omega, by go_num, HN.out, by first | rfl | trivial⟩
          case measure => simp [intOf]; omega
        · have HP : Hid (CmpP a b wr (.returned (.int .i64 (cmpS x y))) wr) := Lib.hid ⟨_, rfl, by
            rw [HS.out]
            unfold cmpS at hc ⊢
            by_cases h1 : ltS x y = true
            · rw [if_pos h1, h1]; rfl
            · rw [if_neg h1] at hc ⊢
              have hxy : (x.toList == y.toList) = false := eqB_false.2 fun e => by
                subst e
                rw [ltS_irrefl, if_neg (by simp)] at hc
                exact hc rfl
              rw [hxy, show ltS x y = false by simpa using h1]
              split <;> rfl, by unfold cmpS; split <;> (try split) <;> omega, by unfold cmpS; split <;> (try split) <;> omega, rfl⟩
          have CC := Lib.hid (cmp_any x y wr)
          generalize cmpS x y = z at *
          have hz : (z != 0) = true := by simpa using hc
          go_wp2_with fail
          refine CC.out.mono ?_
          rintro e w1 ⟨rfl, hw⟩
          obtain rfl : wr = w1 := hw.symm
          go_wp2_with fail
          go_ret
          exact HP.out
      · have dj : decide ((b.length : Int) ≤ (j : Int)) = true := decide_eq_true (by omega)
        have HP : Hid (CmpP a b wr (.returned (.int .i64 1)) wr) := Lib.hid ⟨1, rfl, by
          rw [HF.out, List.drop_eq_nil_of_le (by omega : b.length ≤ j)]
          cases a.drop j <;> rfl, by omega, by omega, rfl⟩
        go_wp2_with fail
        go_ret
        exact HP.out
    · obtain rfl : j = a.length := by omega
      by_cases hlb : a.length < b.length
      · have HP : Hid (CmpP a b wr (.returned (.int .i64 (-1))) wr) := Lib.hid ⟨-1, rfl, by
          rw [HF.out, List.drop_eq_nil_of_le (Nat.le_refl _), drop_lt hlb]
          rfl, by omega, by omega, rfl⟩
        go_wp2_with fail
        go_ret
        exact HP.out
      · have HP : Hid (CmpP a b wr (.returned (.int .i64 0)) wr) := Lib.hid ⟨0, rfl, by
          rw [HF.out, List.drop_eq_nil_of_le (Nat.le_refl _), List.drop_eq_nil_of_le (by omega : b.length ≤ a.length)]
          rfl, by omega, by omega, rfl⟩
        go_wp2_with fail
        go_ret
        exact HP.out
/-- A route as a value. -/
def rtV (v : Value) (s : Int) : Value := .agg #[v, .int .i64 s]
set_option maxRecDepth 100000 in
set_option maxHeartbeats 1600000 in
theorem better_any {va vb : Value} {a b : Rt} (ha : RT w va a.1) (hb : RT w vb b.1) : Calls Try.prog 42 #[rtV va a.2, rtV vb b.2] w fun e w' => e = .returned (.bool (btr a b)) ∧ Below w.heap.size w w' := by
  have HB0 : Below w.heap.size w ((w.alloc (.cells #[va, .int .i64 a.2] 77)).alloc (.cells #[vb, .int .i64 b.2] 77)) := by go_grown
  have CC := Lib.hid (fun w' hb' => compare_any (ha.belowS (w' := w') hb') (hb.belowS hb'))
  have HV := Lib.hid (show btr a b = if a.2 ≠ b.2 then decide (a.2 < b.2) else if a.1.length ≠ b.1.length then decide (a.1.length < b.1.length) else lexLt a.1 b.1 from rfl)
  generalize btr a b = x at *
  obtain ⟨a, sa⟩ := a
  obtain ⟨b, sb⟩ := b
  obtain ⟨aoa, capa, rfl, hna, _⟩ := ha
  obtain ⟨aob, capb, rfl, hnb, _⟩ := hb
  unfold rtV
  dsimp only at *
  generalize a.length = na at *
  generalize b.length = nb at *
  by_cases h1 : sa = sb
  · subst h1
    rw [if_neg (by simp)] at HV
    by_cases h2 : na = nb
    · subst h2
      rw [if_neg (by simp)] at HV
      go_enter Try.func42, Try.ntmps42
      go_wp2_with fail
      refine (CC.out _ HB0).mono ?_
      rintro e w1 ⟨z, rfl, hz, h3, h4, rfl⟩
      go_wp2
      go_ret
      rw [HV.out]
      exact ⟨rfl, HB0⟩
    · rw [if_pos h2] at HV
      have hli : (na : Int) ≠ (nb : Int) := by omega
      have hl2 : decide (na < nb) = decide ((na : Int) < (nb : Int)) := by
        by_cases h : na < nb
        · rw [decide_eq_true h, decide_eq_true (by omega)]
        · rw [decide_eq_false h, decide_eq_false (by omega)]
      rw [HV.out, hl2]
      clear HV CC
      go_enter Try.func42, Try.ntmps42
      go_wp2
      go_ret
      exact ⟨rfl, HB0⟩
  · rw [if_pos h1] at HV
    rw [HV.out]
    go_enter Try.func42, Try.ntmps42
    go_wp2
    go_ret
    exact ⟨rfl, HB0⟩
set_option maxHeartbeats 800000 in
theorem pair_any (a b : ByteArray) (w : World) : Calls Try.prog 35 #[.string a, .string b] w fun e w' => e = .returned (.agg #[.string (Lib.minS a b), .string (Lib.maxS a b)]) ∧ Below w.heap.size w w' := by
  have hmin := fun w ts t => @Lib.run_min_strs Try.prog w ts t a b
  have hmax := fun w ts t => @Lib.run_max_strs Try.prog w ts t a b
  go_enter Try.func35, Try.ntmps35
  go_wp2
  try simp only [Exit.inBlock, Exit.then]
  refine bodyPost_ret (results_cell_row rfl _ _ w.heap.size 91 _ (0, 0) _ rfl (heap_alloc_new w _) Try.underlying91 rfl (by kernel_rfl)) rfl ?_
  exact ⟨rfl, by go_grown⟩
set_option maxHeartbeats 800000 in
theorem clip_any (t : Int) (w : World) : Calls Try.prog 36 #[.int .i64 t] w fun e w' => e = .returned (.int .i64 (clipT t)) ∧ w' = w := by
  go_enter Try.func36, Try.ntmps36
  go_wp2
  go_ret
  exact ⟨rfl, rfl⟩
end
end Go.Proofs.Ytpcapmialdmcaaa

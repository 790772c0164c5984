/- queue: sum and keys of a list. Conditions: sizes are not negative, their sum is small. -/
import Derived.Test.YtonkaodbjohkkaaQuC
namespace Go.Proofs.Ytonkaodbjohkkaa
open Go.RowKit

def sumI (l : List It) : Int := (l.map Prod.snd).sum
theorem sumI_nil : sumI [] = 0 := rfl
theorem sumI_cons (x : It) (l : List It) : sumI (x :: l) = x.2 + sumI l := by simp [sumI]
theorem sumI_append (l r : List It) : sumI (l ++ r) = sumI l + sumI r := by simp [sumI]
theorem sumI_nonneg {l : List It} (h : ∀ x ∈ l, 0 ≤ x.2) : 0 ≤ sumI l := by
  induction l with
  | nil => exact Int.le_refl _
  | cons x r ih =>
    rw [sumI_cons]
    have := h x List.mem_cons_self
    have := ih fun y hy => h y (List.mem_cons_of_mem _ hy)
    omega
theorem take_snoc {l : List It} {j : Nat} (h : j < l.length) : l.take (j + 1) = l.take j ++ [l.getD j dIt] := by
  rw [List.take_succ_eq_append_getElem h]; simp [List.getD, h]
theorem sumI_take {l : List It} (h : ∀ x ∈ l, 0 ≤ x.2) (j : Nat) : 0 ≤ sumI (l.take j) ∧ sumI (l.take j) ≤ sumI l := by
  constructor
  · exact sumI_nonneg fun x hx => h x (List.mem_of_mem_take hx)
  · have h1 : sumI l = sumI (l.take j) + sumI (l.drop j) := by rw [← sumI_append, List.take_append_drop]
    have h2 : 0 ≤ sumI (l.drop j) := sumI_nonneg fun x hx => h x (List.mem_of_mem_drop hx)
    omega
def strs (l : List ByteArray) : List Value := l.map Value.string
theorem strs_len (l : List ByteArray) : (strs l).length = l.length := by simp [strs]
theorem strs_get (l : List ByteArray) (i : Nat) (h : i < l.length) : (strs l)[i]? = some (.string (l.getD i ByteArray.empty)) := by simp [strs, List.getD, h]
theorem strs_one (l : List ByteArray) : ∀ u ∈ strs l, u.oneCell' = true := by
  intro u hu
  obtain ⟨x, _, rfl⟩ := List.mem_map.1 hu
  rfl
theorem infoStr : (Try.prog.info? 9).map (fun i => (i.zero, i.size, i.bytes)) = some (some (.string ByteArray.empty), 1, 16) := by kernel_rfl
/-- A slice of texts. -/
def IsT (w : World) (v : Value) (l : List ByteArray) : Prop := OL w 9 1 v l.length (strs l)
theorem IsT.form {w : World} {v : Value} {l : List ByteArray} (h : IsT w v l) : ∃ ao cap, v = .slice ao l.length cap ∧ (0 < l.length → ∃ g off, ao = some ⟨g, off, none⟩ ∧ g < w.heap.size) ∧ l.length ≤ cap ∧ cap ≤ 9223372036854775807 := by
  rcases OL.forms h with ⟨e, e0⟩ | ⟨g, off, cap, e, h1, h2, h3⟩
  · exact ⟨none, 0, by rw [e, e0], by omega, by omega, by omega⟩
  · exact ⟨_, cap, e, fun _ => ⟨g, off, rfl, h3⟩, h1, by unfold maxLen at h2; omega⟩
/-- What a call leaves that returns new texts. -/
def NewT (l : List ByteArray) (w : World) (en : Ending) (w' : World) : Prop :=
  ∃ v', en = .returned v' ∧ IsT w' v' l ∧ (∀ k, v'.ownBlock = some k → w.heap.size ≤ k) ∧ Below w.heap.size w w'
/-- append(out, k). -/
theorem texts_append {w : World} {v : Value} {l : List ByteArray} (h : IsT w v l) (hl : l.length ≤ 1000000) (k : ByteArray) :
    ∃ v' w', (Builtin.append_ #[29, 29] 29 #[v, .slice (some ⟨w.heap.size, 0, none⟩) 1 1]).run Try.prog (w.alloc (.cells #[.string k] 9)) = .ok v' w' ∧ IsT w' v' (l ++ [k]) ∧ (w.alloc (.cells #[.string k] 9)).grownBy w' v.ownBlock ∧ (v'.ownBlock = v.ownBlock ∨ v'.ownBlock = some (w.heap.size + 1)) ∧ ∃ ao cap, v' = .slice ao (l.length + 1) cap := by
  obtain ⟨ti, hi, iz, is, ib⟩ := info_parts infoStr
  have h1 := OL.alloc h (.cells #[.string k] 9)
  have hsrc : Src Try.prog 1 29 (.slice (some ⟨w.heap.size, 0, none⟩) 1 1) 1 [.string k] (w.alloc (.cells #[.string k] 9)) :=
    (OL.of_block (cs := [.string k]) (size := 1) (n := 1) (heap_alloc_new w _) rfl (by simp [maxLen])).src Try.underlying29 (fun u hu => by simp at hu; rw [hu]; rfl)
  obtain ⟨v', w', hap, ho, hgr, hown⟩ := h1.append (P := Try.prog) 29 29 29 ti _ 16 Try.underlying29 hi iz is ib rfl (by omega) hsrc (by unfold maxLen; omega) (by omega)
  obtain ⟨g, off, cap, rfl, _⟩ := ho.form (by omega)
  refine ⟨_, w', hap, ?_, hgr, by rwa [World.size_alloc] at hown, _, cap, rfl⟩
  show OL _ _ _ _ (l ++ [k]).length (strs (l ++ [k]))
  rw [List.length_append]
  simpa [strs] using ho
section
variable {w : World} {v : Value} {l : List It}
set_option maxHeartbeats 800000 in
theorem sum_any (ho : IsL w v l) (h0 : ∀ x ∈ l, 0 ≤ x.2) (hs : sumI l ≤ 4611686018427387904) : Calls Try.prog 31 #[v] w fun e w' => e = .returned (.int .i64 (sumI l)) ∧ Below w.heap.size w w' := by
  obtain ⟨ao, cap, rfl, hao, hcp, hcm⟩ := ho.form
  have HO := Lib.hid ho
  have HA := Lib.hid hao
  have H0 := Lib.hid h0
  have HS := Lib.hid (fun j => sumI_take h0 j)
  have hmax : l.length ≤ 9223372036854775807 := by omega
  clear ho hao hcp h0
  go_enter Try.func31, Try.ntmps31
  go_wp2_with fail
  go_loopw [3, 8] (fun s i wr => ∃ j : Nat, j ≤ l.length ∧ i = .int .i64 j ∧ s = .int .i64 (sumI (l.take j)) ∧ Below w.heap.size w wr) (fun _ i _ => l.length - (intOf i).toNat)
  case atStart => exact ⟨0, Nat.zero_le _, rfl, by rw [List.take_zero]; rfl, Below.refl _ _⟩
  case round =>
    obtain ⟨j, hk, rfl, rfl, hB⟩ := hrel
    by_cases hlt : j < l.length
    · obtain ⟨g, off, rfl, _⟩ := HA.out (by omega)
      have ho := OL.below HO.out hB (fun g hg => OL.lt HO.out g hg)
      obtain ⟨c0, c1⟩ := itCells_get l j hlt
      have e : l[j] = l.getD j dIt := by simp [List.getD, hlt]
      rw [e] at c0 c1
      have a0 := (ho.cell (j * 2) (by omega)).trans c0
      have a1 := (ho.cell (j * 2 + 1) (by omega)).trans c1
      rw [← Nat.add_assoc] at a1
      have hx := H0.out (l.getD j dIt) (by simp [List.getD, hlt])
      obtain ⟨s0, s1⟩ := HS.out j
      obtain ⟨s2, s3⟩ := HS.out (j + 1)
      have HN := Lib.hid (show sumI (l.take (j + 1)) = sumI (l.take j) + (l.getD j dIt).2 from by rw [take_snoc hlt, sumI_append, sumI_cons, sumI_nil, Int.add_zero])
      rw [HN.out] at s2 s3
      clear ho c0 c1 e
      generalize l.getD j dIt = c at a0 a1 HN hx s2 s3
      generalize sumI (l.take j) = sj at *
      have hB1 := hB.alloc hB.size (.cells #[.string c.1, .int .i64 c.2] 65)
      clear hB
      go_wp2
      go_roundw
      case rel => exact ⟨j + 1, by omega, by go_num, by rw [HN.out], hB1⟩
      case measure => simp [intOf]; omega
    · obtain rfl : j = l.length := by omega
      have HR := Lib.hid (show l.take l.length = l from List.take_length)
      go_wp2
      go_ret
      exact ⟨by rw [HR.out]; rfl, hB⟩
set_option maxRecDepth 100000 in
set_option maxHeartbeats 800000 in
theorem keys_any (ho : IsL w v l) (hl : l.length ≤ 100000) : Calls Try.prog 33 #[v] w (NewT (l.map Prod.fst) w) := by
  obtain ⟨ao, cap, rfl, hao, hcp, hcm⟩ := ho.form
  have HO := Lib.hid ho
  have HA := Lib.hid hao
  clear ho hao hcp
  go_enter Try.func33, Try.ntmps33
  go_wp2_with fail
  go_loopw [3, 8] (fun out i wr => ∃ j : Nat, j ≤ l.length ∧ i = .int .i64 j ∧ IsT wr out ((l.take j).map Prod.fst) ∧ (∀ k, out.ownBlock = some k → w.heap.size ≤ k) ∧ Below w.heap.size w wr) (fun _ i _ => l.length - (intOf i).toNat)
  case atStart => exact ⟨0, Nat.zero_le _, rfl, by rw [List.take_zero]; exact OL.nil _ _ _, fun k hk => by simp [Value.ownBlock] at hk, Below.refl _ _⟩
  case round =>
    obtain ⟨j, hk, rfl, hT, hF, hB⟩ := hrel
    by_cases hlt : j < l.length
    · obtain ⟨g, off, rfl, _⟩ := HA.out (by omega)
      have ho := OL.below HO.out hB (fun g hg => OL.lt HO.out g hg)
      obtain ⟨c0, c1⟩ := itCells_get l j hlt
      have e : l[j] = l.getD j dIt := by simp [List.getD, hlt]
      rw [e] at c0 c1
      have a0 := (ho.cell (j * 2) (by omega)).trans c0
      have a1 := (ho.cell (j * 2 + 1) (by omega)).trans c1
      rw [← Nat.add_assoc] at a1
      have HN := Lib.hid (show (l.take (j + 1)).map Prod.fst = (l.take j).map Prod.fst ++ [(l.getD j dIt).1] from by rw [take_snoc hlt, List.map_append]; rfl)
      clear ho c0 c1 e
      generalize l.getD j dIt = c at a0 a1 HN
      have hB1 := hB.alloc hB.size (.cells #[.string c.1, .int .i64 c.2] 65)
      have hT1 : IsT (wr.alloc (.cells #[.string c.1, .int .i64 c.2] 65)) _ _ := OL.alloc hT _
      have hlen : ((l.take j).map Prod.fst).length = j := by rw [List.length_map, List.length_take]; omega
      obtain ⟨v', w', hap, hT', hgr, hown, ao', cap', rfl⟩ := texts_append hT1 (by omega) c.1
      obtain ⟨aoo, co, hov, _⟩ := hT.form
      rw [hlen] at hov hap
      subst hov
      have hB2 : Below w.heap.size w w' := (hB1.alloc (by have := hB.size; simp; omega) _).grown hgr (by have := hB.size; simp; omega) (fun k hk => hF k hk)
      have HP := Lib.hid (And.intro hT' (And.intro hB2 (show ∀ k, (Value.slice ao' (((l.take j).map Prod.fst).length + 1) cap').ownBlock = some k → w.heap.size ≤ k from fun k hk => by
        rcases hown with h | h
        · rw [h] at hk; exact hF k hk
        · rw [h] at hk
          have h3 := Option.some.inj hk
          have := hB.size
          rw [World.size_alloc] at h3
          omega)))
      rw [hlen] at HP
      rw [World.size_alloc] at hap
      have HAP := Lib.hid hap
      clear hT hT1 hap hT' hgr hown hB hB1 hB2 hF
      go_wp2_with (refine wpList_append_run (v := .slice aoo j co) (xv := .slice (some ⟨wr.heap.size + 1, 0, none⟩) 1 1) rfl (.tmp 12) (.tmp 15) _ _ rfl (by rfl) (by rfl) HAP.out ?_)
      go_roundw
      case rel => exact ⟨j + 1, by omega, by go_num, by rw [HN.out]; exact HP.out.1, HP.out.2.2, HP.out.2.1⟩
      case measure => simp [intOf]; omega
    · obtain rfl : j = l.length := by omega
      have HR := Lib.hid (show NewT (l.map Prod.fst) w (.returned _) wr from ⟨_, rfl, by rw [List.take_length] at hT; exact hT, hF, hB⟩)
      clear hT hF hB
      go_wp2
      go_ret
      exact HR.out
end
end Go.Proofs.Ytonkaodbjohkkaa

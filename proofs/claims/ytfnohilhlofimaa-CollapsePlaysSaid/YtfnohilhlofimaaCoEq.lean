/- collapse: the base's Texts and Ints. Conditions: the slices can be read. -/
import Derived.Test.YtfnohilhlofimaaCoCrowd
namespace Go.Proofs.Ytfnohilhlofimaa
open Go.RowKit

theorem eqB_iff {a b : ByteArray} : (a.toList == b.toList) = true ↔ a = b := by
  rw [beq_iff_eq]
  constructor
  · intro h
    rw [ByteArray.toList_eq, ByteArray.toList_eq] at h
    exact ByteArray.ext (Array.toList_inj.1 h)
  · intro h
    rw [h]
section
variable {w w' : World}
theorem list_ext_getD {α : Type} {d : α} {a b : List α} (hl : a.length = b.length) (h : ∀ i, i < a.length → a.getD i d = b.getD i d) : a = b := by
  apply List.ext_getElem hl
  intro i h1 h2
  have := h i h1
  simpa [List.getD, h1, h2] using this
set_option maxRecDepth 100000 in
set_option maxHeartbeats 800000 in
theorem texts_any {va vb : Value} {a b : List ByteArray} (ha : IsT w va a) (hb : IsT w vb b) : Calls Try.prog 24 #[va, vb] w fun e w' => ∃ x, e = .returned (.bool x) ∧ (x = true ↔ a = b) ∧ Below w.heap.size w w' := by
  obtain ⟨aoa, capa, rfl, hao, _⟩ := ha.form
  obtain ⟨aob, capb, rfl, hbo, _⟩ := hb.form
  have HA := Lib.hid (And.intro ha hao)
  have HB := Lib.hid (And.intro hb hbo)
  clear ha hb hao hbo
  go_enter Try.func24, Try.ntmps24
  by_cases hl : a.length = b.length
  · have hli : (a.length : Int) = (b.length : Int) := by omega
    have HB : Hid (OL w 9 1 (.slice aob a.length capb) a.length (strs b) ∧ _) := Lib.hid (And.intro (by have h := HB.out.1; unfold IsT at h; rw [← hl] at h; exact h) HB.out.2)
    rw [← hl] at HB
    go_wp2_with fail
    go_loopw [13] (fun i wr => ∃ j : Nat, j ≤ a.length ∧ i = .int .i64 j ∧ (∀ i, i < j → a.getD i ByteArray.empty = b.getD i ByteArray.empty) ∧ Below w.heap.size w wr) (fun i _ => a.length - (intOf i).toNat)
    case atStart => exact ⟨0, Nat.zero_le _, rfl, fun i hi => by omega, Below.refl _ _⟩
    case round =>
      obtain ⟨j, hk, rfl, hF, hB⟩ := hrel
      have HF := Lib.hid hF
      clear hF
      by_cases hlt : j < a.length
      · obtain ⟨ga, offa, rfl, _⟩ := HA.out.2 (by omega)
        obtain ⟨gb, offb, rfl, _⟩ := HB.out.2 (by omega)
        have hoa : OL wr 9 1 (.slice (some ⟨ga, offa, none⟩) a.length capa) a.length (strs a) := OL.below HA.out.1 hB (fun g hg => OL.lt HA.out.1 g hg)
        have hob : OL wr 9 1 (.slice (some ⟨gb, offb, none⟩) a.length capb) a.length (strs b) := OL.below HB.out.1 hB (fun g hg => OL.lt HB.out.1 g hg)
        have a0 := (hoa.cell j (by omega)).trans (strs_get a j hlt)
        have b0 := (hob.cell j (by omega)).trans (strs_get b j (by omega))
        have HN := Lib.hid (fun (h : a.getD j ByteArray.empty = b.getD j ByteArray.empty) (i : Nat) (hi : i < j + 1) => show a.getD i ByteArray.empty = b.getD i ByteArray.empty from by
          by_cases e : i = j
          · rw [e]; exact h
          · exact HF.out i (by omega))
        have HO := Lib.hid (fun (h : a.getD j ByteArray.empty ≠ b.getD j ByteArray.empty) (e : a = b) => h (by rw [e]))
        clear hoa hob
        generalize a.getD j ByteArray.empty = x at a0 HN HO
        generalize b.getD j ByteArray.empty = y at b0 HN HO
        cases hc : (x.toList == y.toList)
        · have HO2 := Lib.hid (HO.out (fun e => by rw [e] at hc; simp at hc))
          go_wp2_with fail
          go_quiet (fail)
          go_wp2
          go_ret
          exact ⟨false, rfl, ⟨fun h => (by cases h), fun h => absurd h HO2.out⟩, ⟨hB.os, hB.tape, hB.output, hB.size, hB.block⟩⟩
        · have HN2 := Lib.hid (HN.out (eqB_iff.1 hc))
          go_wp2_with fail
          go_quiet (fail)
          go_wp2
          go_roundw
          case rel => exact ⟨j + 1, by omega, by go_num, HN2.out, ⟨hB.os, hB.tape, hB.output, hB.size, hB.block⟩⟩
          case measure => simp [intOf]; omega
      · obtain rfl : j = a.length := by omega
        go_wp2
        go_ret
        exact ⟨true, rfl, ⟨fun _ => list_ext_getD hl HF.out, fun _ => rfl⟩, hB⟩
  · have hli : (a.length : Int) ≠ (b.length : Int) := by omega
    go_wp2
    go_ret
    exact ⟨false, rfl, ⟨fun h => (by cases h), fun h => absurd (congrArg List.length h) hl⟩, Below.refl _ _⟩
set_option maxRecDepth 100000 in
set_option maxHeartbeats 800000 in
theorem ints_any {va vb : Value} {a b : List Int} (ha : IsI w va a) (hb : IsI w vb b) : Calls Try.prog 25 #[va, vb] w fun e w' => ∃ x, e = .returned (.bool x) ∧ (x = true ↔ a = b) ∧ Below w.heap.size w w' := by
  obtain ⟨aoa, capa, rfl, hao, _⟩ := ha.form
  obtain ⟨aob, capb, rfl, hbo, _⟩ := hb.form
  have HA := Lib.hid (And.intro ha hao)
  have HB := Lib.hid (And.intro hb hbo)
  clear ha hb hao hbo
  go_enter Try.func25, Try.ntmps25
  by_cases hl : a.length = b.length
  · have hli : (a.length : Int) = (b.length : Int) := by omega
    have HB : Hid (OL w 3 1 (.slice aob a.length capb) a.length (ints b) ∧ _) := Lib.hid (And.intro (by have h := HB.out.1; unfold IsI at h; rw [← hl] at h; exact h) HB.out.2)
    rw [← hl] at HB
    go_wp2_with fail
    go_loopw [13] (fun i wr => ∃ j : Nat, j ≤ a.length ∧ i = .int .i64 j ∧ (∀ i, i < j → a.getD i 0 = b.getD i 0) ∧ Below w.heap.size w wr) (fun i _ => a.length - (intOf i).toNat)
    case atStart => exact ⟨0, Nat.zero_le _, rfl, fun i hi => by omega, Below.refl _ _⟩
    case round =>
      obtain ⟨j, hk, rfl, hF, hB⟩ := hrel
      have HF := Lib.hid hF
      clear hF
      by_cases hlt : j < a.length
      · obtain ⟨ga, offa, rfl, _⟩ := HA.out.2 (by omega)
        obtain ⟨gb, offb, rfl, _⟩ := HB.out.2 (by omega)
        have hoa : OL wr 3 1 (.slice (some ⟨ga, offa, none⟩) a.length capa) a.length (ints a) := OL.below HA.out.1 hB (fun g hg => OL.lt HA.out.1 g hg)
        have hob : OL wr 3 1 (.slice (some ⟨gb, offb, none⟩) a.length capb) a.length (ints b) := OL.below HB.out.1 hB (fun g hg => OL.lt HB.out.1 g hg)
        have a0 := (hoa.cell j (by omega)).trans (ints_get a j hlt)
        have b0 := (hob.cell j (by omega)).trans (ints_get b j (by omega))
        have HN := Lib.hid (fun (h : a.getD j 0 = b.getD j 0) (i : Nat) (hi : i < j + 1) => show a.getD i 0 = b.getD i 0 from by
          by_cases e : i = j
          · rw [e]; exact h
          · exact HF.out i (by omega))
        have HO := Lib.hid (fun (h : a.getD j 0 ≠ b.getD j 0) (e : a = b) => h (by rw [e]))
        clear hoa hob
        generalize a.getD j 0 = x at a0 HN HO
        generalize b.getD j 0 = y at b0 HN HO
        by_cases hc : ¬ x = y
        · have HO2 := Lib.hid (HO.out hc)
          have d0 : (x == y) = false := by rw [beq_eq_false_iff_ne]; exact hc
          go_wp2_with fail
          go_quiet (fail)
          go_wp2
          go_ret
          exact ⟨false, rfl, ⟨fun h => (by cases h), fun h => absurd h HO2.out⟩, ⟨hB.os, hB.tape, hB.output, hB.size, hB.block⟩⟩
        · have hc := Classical.not_not.1 hc
          have HN2 := Lib.hid (HN.out hc)
          have d0 : (x == y) = true := by rw [beq_iff_eq]; exact hc
          clear hc
          go_wp2_with fail
          go_quiet (fail)
          go_wp2
          go_roundw
          case rel => exact ⟨j + 1, by omega, by go_num, HN2.out, ⟨hB.os, hB.tape, hB.output, hB.size, hB.block⟩⟩
          case measure => simp [intOf]; omega
      · obtain rfl : j = a.length := by omega
        go_wp2
        go_ret
        exact ⟨true, rfl, ⟨fun _ => list_ext_getD hl HF.out, fun _ => rfl⟩, hB⟩
  · have hli : (a.length : Int) ≠ (b.length : Int) := by omega
    go_wp2
    go_ret
    exact ⟨false, rfl, ⟨fun h => (by cases h), fun h => absurd (congrArg List.length h) hl⟩, Below.refl _ _⟩
theorem texts_same {va vb : Value} {a : List ByteArray} (ha : IsT w va a) (hb : IsT w vb a) : Calls Try.prog 24 #[va, vb] w fun e w' => e = .returned (.bool true) ∧ Below w.heap.size w w' :=
  (texts_any ha hb).mono fun _ _ ⟨x, he, hx, hb⟩ => ⟨by rw [he, hx.2 rfl], hb⟩
theorem ints_same {va vb : Value} {a : List Int} (ha : IsI w va a) (hb : IsI w vb a) : Calls Try.prog 25 #[va, vb] w fun e w' => e = .returned (.bool true) ∧ Below w.heap.size w w' :=
  (ints_any ha hb).mono fun _ _ ⟨x, he, hx, hb⟩ => ⟨by rw [he, hx.2 rfl], hb⟩
end
end Go.Proofs.Ytfnohilhlofimaa

/- topology: the fixed example. Conditions: none. -/
import Derived.Test.YtpcapmialdmcaaaTpK
namespace Go.Proofs.Ytpcapmialdmcaaa
open Go.RowKit Go.Maps

def sA : ByteArray := ⟨#[97]⟩
def sB : ByteArray := ⟨#[98]⟩
def sC : ByteArray := ⟨#[99]⟩
def awT : List ByteArray := [sA, sB, sC]
def awL : List TL := [⟨sA, sB, 2, []⟩, ⟨sB, sC, 2, []⟩, ⟨sA, sC, 5, []⟩]
theorem townP_one {c : UInt8} (h : okC ((c.toNat : Nat) : Int)) : TownP ⟨#[c]⟩ := by
  refine ⟨fun j hj => ?_, by show 1 ≤ 1; omega, by show 1 ≤ 32; omega⟩
  have hj' : j < 1 := hj
  obtain rfl : j = 0 := by omega
  exact h
theorem aw_okN : okN awT := ⟨by simp [awT], fun x hx => by
  simp [awT] at hx
  rcases hx with rfl | rfl | rfl
  · exact townP_one (.inr (.inr (.inr (by decide))))
  · exact townP_one (.inr (.inr (.inr (by decide))))
  · exact townP_one (.inr (.inr (.inr (by decide)))), by decide⟩
theorem ne_of {a b : ByteArray} (h : (a.toList == b.toList) = false) : a ≠ b := eqB_false.1 h
theorem sAB : sA ≠ sB := by decide
theorem sBC : sB ≠ sC := by decide
theorem sAC : sA ≠ sC := by decide
theorem aw1 : connS awT [] sA sB 2 = ([⟨sA, sB, 2, []⟩], 0) := by
  rw [connS_new ⟨by simp [awT], by simp [awT], sAB⟩ (by omega) rfl]
  kernel_rfl
theorem aw2 : connS awT [⟨sA, sB, 2, []⟩] sB sC 2 = ([⟨sA, sB, 2, []⟩, ⟨sB, sC, 2, []⟩], 0) := by
  rw [connS_new ⟨by simp [awT], by simp [awT], sBC⟩ (by omega) (by kernel_rfl)]
  kernel_rfl
theorem aw3 : connS awT [⟨sA, sB, 2, []⟩, ⟨sB, sC, 2, []⟩] sA sC 5 = (awL, 0) := by
  rw [connS_new ⟨by simp [awT], by simp [awT], sAC⟩ (by omega) (by kernel_rfl)]
  kernel_rfl
theorem lee_sum {a b : Rt} (h : lee a b) : a.2 ≤ b.2 := by
  unfold lee at h
  rcases Int.lt_or_le b.2 a.2 with h1 | h1
  · rw [btr_iff.2 (.inl h1)] at h; cases h
  · exact h1
theorem lee_lt {a b : Rt} (h : a.2 < b.2) : lee a b := lee.of_btr (btr_iff.2 (.inl h))
theorem aw_edges {i k : ByteArray} {l : Int} (h : lat awL 0 i k = some l) (hi : i = sA ∨ i = sB ∨ i = sC) (hk : k = sA ∨ k = sB ∨ k = sC) : (i = sA ∧ k = sB ∧ l = 2) ∨ (i = sB ∧ k = sA ∧ l = 2) ∨ (i = sB ∧ k = sC ∧ l = 2) ∨ (i = sC ∧ k = sB ∧ l = 2) ∨ (i = sA ∧ k = sC ∧ l = 5) ∨ (i = sC ∧ k = sA ∧ l = 5) := by
  rcases hi with rfl | rfl | rfl <;> rcases hk with rfl | rfl | rfl
  · rw [show lat awL 0 sA sA = none by kernel_rfl] at h; cases h
  · rw [show lat awL 0 sA sB = some 2 by kernel_rfl] at h; exact .inl ⟨rfl, rfl, (Option.some.inj h).symm⟩
  · rw [show lat awL 0 sA sC = some 5 by kernel_rfl] at h; exact .inr (.inr (.inr (.inr (.inl ⟨rfl, rfl, (Option.some.inj h).symm⟩))))
  · rw [show lat awL 0 sB sA = some 2 by kernel_rfl] at h; exact .inr (.inl ⟨rfl, rfl, (Option.some.inj h).symm⟩)
  · rw [show lat awL 0 sB sB = none by kernel_rfl] at h; cases h
  · rw [show lat awL 0 sB sC = some 2 by kernel_rfl] at h; exact .inr (.inr (.inl ⟨rfl, rfl, (Option.some.inj h).symm⟩))
  · rw [show lat awL 0 sC sA = some 5 by kernel_rfl] at h; exact .inr (.inr (.inr (.inr (.inr ⟨rfl, rfl, (Option.some.inj h).symm⟩))))
  · rw [show lat awL 0 sC sB = some 2 by kernel_rfl] at h; exact .inr (.inr (.inr (.inl ⟨rfl, rfl, (Option.some.inj h).symm⟩)))
  · rw [show lat awL 0 sC sC = none by kernel_rfl] at h; cases h
theorem aw_in {x : ByteArray} (h : x ∈ awT) : x = sA ∨ x = sB ∨ x = sC := by simpa [awT] using h
theorem aw_low {v : ByteArray} {p : Rt} (h : Pth (lat awL 0) (· ∈ awT) sA v p) : (v = sA → lee ([sA], 0) p) ∧ (v = sB → lee ([sA, sB], 2) p) ∧ (v = sC → lee ([sA, sB, sC], 4) p) ∧ 0 ≤ p.2 := by
  induction h with
  | one _ => exact ⟨fun _ => lee.refl _, fun e => absurd e sAB, fun e => absurd e sAC, Int.le_refl _⟩
  | @snoc i r k l hp he hv ih =>
    obtain ⟨i1, i2, i3, i4⟩ := ih
    have hg : (gone r k l).2 = r.2 + l := rfl
    rcases aw_edges he (aw_in hp.in) (aw_in hv) with ⟨rfl, rfl, rfl⟩ | ⟨rfl, rfl, rfl⟩ | ⟨rfl, rfl, rfl⟩ | ⟨rfl, rfl, rfl⟩ | ⟨rfl, rfl, rfl⟩ | ⟨rfl, rfl, rfl⟩
    · exact ⟨fun e => absurd e.symm sAB, fun _ => lee_gone (i1 rfl) sB 2, fun e => absurd e sBC, by omega⟩
    · exact ⟨fun _ => lee_lt (by show 0 < (gone r sA 2).2; omega), fun e => absurd e sAB, fun e => absurd e sAC, by omega⟩
    · exact ⟨fun e => absurd e.symm sAC, fun e => absurd e.symm sBC, fun _ => lee_gone (i2 rfl) sC 2, by omega⟩
    · have := lee_sum (i3 rfl)
      have h4 : (4 : Int) ≤ r.2 := this
      exact ⟨fun e => absurd e.symm sAB, fun _ => lee_lt (by show 2 < (gone r sB 2).2; omega), fun e => absurd e sBC, by omega⟩
    · exact ⟨fun e => absurd e.symm sAC, fun e => absurd e.symm sBC, fun _ => lee_lt (by show 4 < (gone r sC 5).2; omega), by omega⟩
    · exact ⟨fun _ => lee_lt (by show 0 < (gone r sA 5).2; omega), fun e => absurd e sAB, fun e => absurd e sAC, by omega⟩
theorem aw_path : Pth (lat awL 0) (· ∈ awT) sA sC ([sA, sB, sC], 4) := by
  have h1 : Pth (lat awL 0) (· ∈ awT) sA sB ([sA, sB], 2) := .snoc (.one (by simp [awT])) (show lat awL 0 sA sB = some 2 by kernel_rfl) (by simp [awT])
  exact .snoc h1 (show lat awL 0 sB sC = some 2 by kernel_rfl) (by simp [awT])
theorem aw_route {code : Int} {r : Rt} (h : RouteR awT awL 0 sA sC code r) : code = 0 ∧ r = ([sA, sB, sC], 4) :=
  h.unique (.inr ⟨⟨by simp [awT], by simp [awT]⟩, .inl ⟨rfl, aw_path, fun r' hp => (aw_low hp).2.2.1 rfl⟩⟩)
def AwP (w : World) (e : Ending) (w' : World) : Prop := e = .returned (.bool true) ∧ Below w.heap.size w w'
section
variable {w w' : World} {v : Value} {l a b : List ByteArray}
theorem list_ext_getD {α : Type} {d : α} {a b : List α} (hl : a.length = b.length) (h : ∀ i, i < a.length → a.getD i d = b.getD i d) : a = b := by
  apply List.ext_getElem hl
  intro i h1 h2
  have := h i h1
  simpa [List.getD, h1, h2] using this
set_option maxRecDepth 100000 in
set_option maxHeartbeats 800000 in
theorem texts_any {va vb : Value} (ha : RT w va a) (hb : RT w vb b) : Calls Try.prog 16 #[va, vb] w fun e w' => ∃ x, e = .returned (.bool x) ∧ (x = true ↔ a = b) ∧ Below w.heap.size w w' := by
  obtain ⟨aoa, capa, rfl, hna, hao⟩ := ha
  obtain ⟨aob, capb, rfl, hnb, hbo⟩ := hb
  have HA := Lib.hid hao
  have HB := Lib.hid hbo
  clear hao hbo
  go_enter Try.func16, Try.ntmps16
  by_cases hl : a.length = b.length
  · have HL := Lib.hid hl
    have HBL : Hid (∀ j, j < a.length → ∃ bb off, aob = some ⟨bb, off, none⟩ ∧ bb < w.heap.size ∧ w.cell? ⟨bb, off + j, none⟩ = some (.string (b.getD j ByteArray.empty))) := Lib.hid fun j hj => by
      obtain ⟨bb, off, h1, h2, h3⟩ := HB.out (by omega)
      exact ⟨bb, off, h1, h2, h3 j (by omega)⟩
    have HEX := Lib.hid (fun (h : ∀ i, i < a.length → a.getD i ByteArray.empty = b.getD i ByteArray.empty) => list_ext_getD hl h)
    rw [← hl]
    clear hl HB
    go_wp2_with fail
    go_loopw [13] (fun i wr => ∃ j : Nat, j ≤ a.length ∧ i = .int .i64 j ∧ (∀ i, i < j → a.getD i ByteArray.empty = b.getD i ByteArray.empty) ∧ Below w.heap.size w wr) (fun i _ => a.length - (intOf i).toNat)
    case atStart => exact ⟨0, Nat.zero_le _, rfl, fun i hi => by omega, Below.refl _ _⟩
    case round =>
      obtain ⟨j, hk, rfl, hF, hB⟩ := hrel
      have HF := Lib.hid hF
      clear hF
      by_cases hlt : j < a.length
      · obtain ⟨ga, offa, rfl, hga, ha⟩ := HA.out (by omega)
        obtain ⟨gb, offb, rfl, hgb, hb⟩ := HBL.out j hlt
        have a0 := (hB.cell (p := ⟨ga, offa + j, none⟩) hga).trans (ha j hlt)
        have b0 := (hB.cell (p := ⟨gb, offb + j, none⟩) hgb).trans hb
        have HN := Lib.hid (fun (h : a.getD j ByteArray.empty = b.getD j ByteArray.empty) (i : Nat) (hi : i < j + 1) => show a.getD i ByteArray.empty = b.getD i ByteArray.empty from by
          by_cases e : i = j
          · rw [e]; exact h
          · exact HF.out i (by omega))
        have HO := Lib.hid (fun (h : a.getD j ByteArray.empty ≠ b.getD j ByteArray.empty) (e : a = b) => h (by rw [e]))
        clear ha hb hga hgb
        generalize a.getD j ByteArray.empty = x at a0 HN HO
        generalize b.getD j ByteArray.empty = y at b0 HN HO
        cases hc : (x.toList == y.toList)
        · have HO2 := Lib.hid (HO.out (fun e => by rw [e] at hc; simp at hc))
          go_wp2_with fail
          go_quiet (fail)
          go_wp2
          go_ret
          exact ⟨false, rfl, ⟨fun h => (by cases h), fun h => absurd h HO2.out⟩, ⟨hB.os, hB.tape, hB.output, hB.size, hB.block⟩⟩
        · have HN2 := Lib.hid (HN.out (eqB_iff.1 hc))
          go_wp2_with fail
          go_quiet (fail)
          go_wp2
          go_roundw
          case rel => exact ⟨j + 1, by omega, by go_num, HN2.out, ⟨hB.os, hB.tape, hB.output, hB.size, hB.block⟩⟩
          case measure => simp [intOf]; omega
      · obtain rfl : j = a.length := by omega
        go_wp2
        go_ret
        exact ⟨true, rfl, ⟨fun _ => HEX.out HF.out, fun _ => rfl⟩, hB⟩
  · have hli : (a.length : Int) ≠ (b.length : Int) := by omega
    go_wp2
    go_ret
    exact ⟨false, rfl, ⟨fun h => (by cases h), fun h => absurd (congrArg List.length h) hl⟩, Below.refl _ _⟩
end
end Go.Proofs.Ytpcapmialdmcaaa

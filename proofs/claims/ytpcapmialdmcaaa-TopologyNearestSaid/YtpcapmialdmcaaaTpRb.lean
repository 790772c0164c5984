/- topology: the document's better. Conditions: both routes can be read. -/
import Derived.Test.YtpcapmialdmcaaaTpRu
namespace Go.Proofs.Ytpcapmialdmcaaa
open Go.RowKit Go.Maps

section
variable {w w' : World}
set_option maxRecDepth 100000 in
set_option maxHeartbeats 1600000 in
theorem rbetter_any {va vb : Value} {a b : Rt} (ha : RT w va a.1) (hb : RT w vb b.1) : Calls Try.prog 44 #[va, .int .i64 a.2, vb, .int .i64 b.2] w fun e w' => e = .returned (.bool (btr a b)) ∧ Below w.heap.size w w' := by
  have HA0 := Lib.hid (fun (wx : World) (hx : Below w.heap.size w wx) => ha.belowS hx)
  have HB0 := Lib.hid (fun (wx : World) (hx : Below w.heap.size w wx) => hb.belowS hx)
  have HV := Lib.hid (show btr a b = if a.2 ≠ b.2 then decide (a.2 < b.2) else if a.1.length ≠ b.1.length then decide (a.1.length < b.1.length) else lexLt a.1 b.1 from rfl)
  generalize btr a b = x at *
  obtain ⟨a, sa⟩ := a
  obtain ⟨b, sb⟩ := b
  obtain ⟨aoa, capa, rfl, hna, _⟩ := ha
  obtain ⟨aob, capb, rfl, hnb, _⟩ := hb
  dsimp only at *
  by_cases h1 : sa = sb
  · subst h1
    rw [if_neg (by simp)] at HV
    by_cases h2 : a.length = b.length
    · rw [if_neg (by simpa using h2)] at HV
      obtain ⟨na, hl⟩ : ∃ n, b.length = n := ⟨_, rfl⟩
      have HLB := Lib.hid hl
      have HLA := Lib.hid (h2.trans hl)
      rw [hl] at h2 HB0 hnb
      rw [h2] at HA0 hna
      rw [hl, h2]
      clear h2 hl
      go_enter Try.func44, Try.ntmps44
      go_wp2_with fail
      go_loopw [28] (fun iv wr => ∃ j : Nat, j ≤ na ∧ iv = .int .i64 j ∧ lexLt a b = lexLt (a.drop j) (b.drop j) ∧ Below w.heap.size w wr) (fun iv _ => na - (intOf iv).toNat)
      case atStart => exact ⟨0, Nat.zero_le _, rfl, rfl, Below.refl _ _⟩
      case round =>
        obtain ⟨j, hj, rfl, hF, hB⟩ := hrel
        have HF := Lib.hid hF
        have HB := Lib.hid hB
        clear hF hB
        by_cases hlt : j < na
        · obtain ⟨ao', cap', e, _, hc⟩ := HA0.out wr HB.out
          obtain ⟨rfl, _, rfl⟩ : aoa = ao' ∧ True ∧ capa = cap' := by simp at e; exact ⟨e.1, trivial, e.2.2⟩
          obtain ⟨ba, offa, rfl, _, hc⟩ := hc (by rw [HLA.out]; omega)
          have c0 := hc j (by rw [HLA.out]; omega)
          clear hc e
          obtain ⟨ao', cap', e, _, hc⟩ := HB0.out wr HB.out
          obtain ⟨rfl, _, rfl⟩ : aob = ao' ∧ True ∧ capb = cap' := by simp at e; exact ⟨e.1, trivial, e.2.2⟩
          obtain ⟨bb, offb, rfl, _, hc⟩ := hc (by rw [HLB.out]; omega)
          have d0 := hc j (by rw [HLB.out]; omega)
          clear hc e
          have HS := Lib.hid (show lexLt a b = (ltS (a.getD j ByteArray.empty) (b.getD j ByteArray.empty) || (((a.getD j ByteArray.empty).toList == (b.getD j ByteArray.empty).toList) && lexLt (a.drop (j + 1)) (b.drop (j + 1)))) from by rw [HF.out, drop_lt (l := a) (j := j) (by rw [HLA.out]; exact hlt), drop_lt (l := b) (j := j) (by rw [HLB.out]; exact hlt)]; rfl)
          generalize a.getD j ByteArray.empty = xx at *
          generalize b.getD j ByteArray.empty = yy at *
          cases hc : (xx.toList == yy.toList)
          · have HP : Hid (x = Op.bytesLess xx.toList yy.toList) := Lib.hid (by rw [HV.out, HS.out, hc]; show (ltS xx yy || (false && _)) = ltS xx yy; simp)
            go_wp2_with fail
            go_quiet (fail)
            go_wp2_with fail
            go_quiet (fail)
            go_wp2_with fail
            go_ret
            rw [HP.out]
            exact ⟨rfl, ⟨HB.out.os, HB.out.tape, HB.out.output, HB.out.size, HB.out.block⟩⟩
          · have HN : Hid (lexLt a b = lexLt (a.drop (j + 1)) (b.drop (j + 1))) := Lib.hid (by rw [HS.out, hc, eqB_iff.1 hc, ltS_irrefl]; rfl)
            go_wp2_with fail
            go_quiet (fail)
            go_wp2_with fail
            go_roundw
            case rel => exact ⟨j + 1, by omega, by go_num, HN.out, ⟨HB.out.os, HB.out.tape, HB.out.output, HB.out.size, HB.out.block⟩⟩
            case measure => simp [intOf]; omega
        · obtain rfl : j = na := by omega
          have HP : Hid (x = false) := Lib.hid (by
            rw [HV.out, HF.out, List.drop_eq_nil_of_le (by rw [HLA.out]; exact Nat.le_refl _), List.drop_eq_nil_of_le (by rw [HLB.out]; exact Nat.le_refl _)]
            rfl)
          go_wp2_with fail
          go_ret
          rw [HP.out]
          exact ⟨rfl, HB.out⟩
    · rw [if_pos h2] at HV
      clear HA0 HB0
      generalize a.length = na at *
      generalize b.length = nb at *
      have hli : (na : Int) ≠ (nb : Int) := by omega
      rw [HV.out]
      clear HV
      go_enter Try.func44, Try.ntmps44
      go_wp2
      go_ret
      exact ⟨rfl, Below.refl _ _⟩
  · rw [if_pos h1] at HV
    rw [HV.out]
    clear HA0 HB0 HV
    go_enter Try.func44, Try.ntmps44
    go_wp2
    go_ret
    exact ⟨rfl, Below.refl _ _⟩
end
end Go.Proofs.Ytpcapmialdmcaaa

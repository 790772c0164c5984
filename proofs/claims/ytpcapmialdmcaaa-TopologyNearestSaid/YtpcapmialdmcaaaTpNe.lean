/- topology: the walk of the program's Nearest. Conditions: the map is whole, the list can be read. -/
import Derived.Test.YtpcapmialdmcaaaTpNeP
namespace Go.Proofs.Ytpcapmialdmcaaa
open Go.RowKit Go.Maps

/-- What Nearest leaves. -/
def NearP (ts : List ByteArray) (L : List TL) (t : Int) (a : ByteArray) (l : List ByteArray) (w : World) (e : Ending) (w' : World) : Prop :=
  e = .returned (.tuple #[.string (nearE ts L t a l).1, errV (nearE ts L t a l).2]) ∧ Below w.heap.size w w'
section
variable {w w' : World} {m : Nat} {ts : List ByteArray} {L : List TL} {g : MG} {a : ByteArray} {l : List ByteArray} {ao : Option Addr} {cap : Nat}
theorem NearP.mk {x : ByteArray} {c : Int} {t : Int} (h : nearE ts L t a l = (x, c)) (hb : Below w.heap.size w w') : NearP ts L t a l w (.returned (.tuple #[.string x, errV c])) w' := by
  unfold NearP
  rw [h]
  exact ⟨rfl, hb⟩
set_option maxRecDepth 100000 in
set_option maxHeartbeats 6400000 in
theorem near_any (h : MapAt w m ts L g) (hl : RT w (.slice ao l.length cap) l) (t : Int) : Calls Try.prog 25 #[.pointer (some ⟨m, 0, none⟩), .string a, .slice ao l.length cap, .int .i64 t] w (NearP ts L t a l w) := by
  have CA := Lib.hid (has_any h a)
  have CS := Lib.hid (fun s => has_any h s)
  have HL := Lib.hid hl
  have hn : l.length ≤ 9223372036854775807 := by obtain ⟨_, _, _, hn, _⟩ := hl; exact hn
  unfold ptrV at CA CS
  by_cases ha : a ∈ ts
  · rw [inL_of ha] at CA
    have CR := Lib.hid (routes_any h ha t)
    unfold ptrV at CR
    have HTZ := Lib.hid (fun s hs => (h.tz s hs).sz)
    have HOK := Lib.hid (And.intro h.ok h.tl)
    have HA := Lib.hid ha
    clear h ha hl
    go_enter Try.func25, Try.ntmps25
    go_wp2_with fail
    refine CA.out.mono ?_
    rintro e w1 ⟨rfl, hw⟩
    obtain rfl : w = w1 := hw.symm
    go_wp2_with fail
    go_loopw [30] (fun iv wr => ∃ j : Nat, j ≤ l.length ∧ iv = .int .i64 j ∧ (∀ q, q < j → l.getD q ByteArray.empty ∈ ts) ∧ wr = w) (fun iv _ => l.length - (intOf iv).toNat)
    case atStart => exact ⟨0, Nat.zero_le _, rfl, fun q hq => by omega, rfl⟩
    case round =>
      obtain ⟨j, hj, rfl, hF, rfl⟩ := hrel
      have HF := Lib.hid hF
      clear hF
      by_cases hlt : j < l.length
      · obtain ⟨ao', cap', e, _, hc⟩ := HL.out
        obtain ⟨rfl, _, rfl⟩ : ao = ao' ∧ True ∧ cap = cap' := by simp at e; exact ⟨e.1, trivial, e.2⟩
        obtain ⟨b, off, rfl, _, hc⟩ := hc (by omega)
        have c0 := hc j hlt
        have C1 := Lib.hid (CS.out (l.getD j ByteArray.empty))
        clear hc e
        by_cases hs : l.getD j ByteArray.empty ∈ ts
        · have HS := Lib.hid (fun (q : Nat) (hq : q < j + 1) => show l.getD q ByteArray.empty ∈ ts from by
            by_cases e : q = j
            · rw [e]; exact hs
            · exact HF.out q (by omega))
          rw [inL_of hs] at C1
          clear hs
          generalize l.getD j ByteArray.empty = y at *
          go_wp2_with fail
          refine C1.out.mono ?_
          rintro e w1 ⟨rfl, hw⟩
          obtain rfl : wr = w1 := hw.symm
          go_wp2_with fail
          go_roundw
          case rel => exact ⟨j + 1, by omega, by go_num, HS.out, by first | rfl | trivial⟩
          case measure => simp [intOf]; omega
        · have HP : Hid (NearP ts L t a l wr (.returned (.tuple #[.string ⟨#[]⟩, .iface 54 (.int .i64 8)])) wr) := Lib.hid (NearP.mk (nearE_bad fun hx => hs (hx.2 _ (getD_mem hlt))) (Below.refl _ _))
          have hf : inL (l.getD j ByteArray.empty) ts = false := by
            cases hq : inL (l.getD j ByteArray.empty) ts
            · rfl
            · exact absurd (inL_iff.1 hq) hs
          rw [hf] at C1
          clear hs hf
          generalize l.getD j ByteArray.empty = y at *
          go_wp2_with fail
          refine C1.out.mono ?_
          rintro e w1 ⟨rfl, hw⟩
          obtain rfl : wr = w1 := hw.symm
          go_wp2_with fail
          go_ret2
          exact HP.out
      · obtain rfl : j = l.length := by omega
        have HALL : Hid (a ∈ ts ∧ ∀ s ∈ l, s ∈ ts) := Lib.hid ⟨HA.out, fun s hs => by
          obtain ⟨q, hq, rfl⟩ := List.getElem_of_mem hs
          have := HF.out q hq
          simpa [List.getD, hq] using this⟩
        clear HF
        obtain ⟨wo, hwo⟩ : ∃ wo : World, wo = wr := ⟨_, rfl⟩
        subst hwo
        go_wp2_with fail
        refine CR.out.mono ?_
        rintro e w1 ⟨db, D, V, rfl, hm, hV, hb, hB⟩
        have HM := Lib.hid (And.intro hm hb)
        have HB := Lib.hid hB
        have HV := Lib.hid hV
        have HSN := Lib.hid (fun s (hd : D s = none) => sumF_none ((hB s).2.1 hd))
        have HSS := Lib.hid (fun s r (hd : D s = some r) => And.intro (sumF_some (((hB s).1 r).1 hd)) (Best.bd HOK.out.1 HOK.out.2 (((hB s).1 r).1 hd)))
        clear hm hV hb hB CR CA CS HB
        go_wp2_with fail
        go_loopw [13, 14, 15, 46] (fun ov lv fv iv wx => ∃ (j : Nat) (out : ByteArray) (le : Int) (fd : Bool), j ≤ l.length ∧ iv = .int .i64 j ∧ ov = .string out ∧ lv = .int .i64 le ∧ fv = .bool fd ∧ NrV 0 (nrL (sumF ts L t a) (l.take j)) out le fd ∧ Below w1.heap.size w1 wx) (fun _ _ _ iv _ => l.length - (intOf iv).toNat)
        case atStart => exact ⟨0, _, _, _, Nat.zero_le _, rfl, rfl, rfl, rfl, .inl ⟨rfl, rfl, rfl, rfl⟩, Below.refl _ _⟩
        case round =>
          obtain ⟨j, out, le, fd, hj, rfl, rfl, rfl, rfl, hv, hb⟩ := hrel
          have HNV := Lib.hid hv
          have HBX := Lib.hid hb
          clear hv hb
          by_cases hlt : j < l.length
          · obtain ⟨ao', cap', e, _, hc⟩ := HL.out.belowS (HM.out.2.trans (HBX.out.mono HM.out.2.size))
            obtain ⟨rfl, _, rfl⟩ : ao = ao' ∧ True ∧ cap = cap' := by simp at e; exact ⟨e.1, trivial, e.2⟩
            obtain ⟨b, off, rfl, _, hc⟩ := hc (by omega)
            have c0 := hc j hlt
            have hlk := rt_look (HM.out.1.belowS HBX.out) (HTZ.out _ (HALL.out.2 _ (getD_mem hlt)))
            have HNS := Lib.hid (nrL_succ (sumF ts L t a) hlt)
            clear hc e
            generalize l.getD j ByteArray.empty = s at *
            cases hD : D s with
            | none =>
              have hnv := HNV.out.skip (HSN.out s hD)
              rw [← HNS.out] at hnv
              have HNX := Lib.hid hnv
              rw [hD] at hlk
              have hlk' : (Instr.lookup 79 (.map (some db)) (.string s) true).run Try.prog wr = .ok (.tuple #[.agg #[.slice none 0 0, .int .i64 0], .bool false]) wr := hlk
              have HBA := Lib.hid (HBX.out.alloc HBX.out.size (.cells #[.slice none 0 0, .int .i64 0] 77))
              clear hlk hD hnv
              go_wp2_with fail
              go_roundw
              case rel => exact ⟨j + 1, out, le, fd, by omega, by go_num, rfl, rfl, rfl, HNX.out, HBA.out⟩
              case measure => simp [intOf]; omega
            | some r =>
              rw [hD] at hlk
              obtain ⟨vao, vcp, hve, _⟩ := (HV.out s r hD).form
              rw [hve] at hlk
              obtain ⟨hsf, hzb⟩ := HSS.out s r hD
              have hlk' : (Instr.lookup 79 (.map (some db)) (.string s) true).run Try.prog wr = .ok (.tuple #[.agg #[.slice vao r.1.length vcp, .int .i64 r.2], .bool true]) wr := hlk
              have HSF := Lib.hid hsf
              clear hlk hD hsf hve
              generalize r.1.length = lr at *
              generalize r.2 = z at *
              have hba := HBX.out.alloc HBX.out.size (.cells #[.slice vao lr vcp, .int .i64 z] 77)
              have HBA := Lib.hid hba
              clear hba
              cases fd
              · have hnv := HNV.out.first HSF.out hzb
                rw [← HNS.out] at hnv
                have HNX := Lib.hid hnv
                clear hnv hzb
                go_wp2_with fail
                go_quiet (fail)
                go_wp2_with fail
                go_roundw
                case rel => exact ⟨j + 1, s, z, true, by omega, by go_num, rfl, rfl, rfl, HNX.out, ⟨HBA.out.os, HBA.out.tape, HBA.out.output, HBA.out.size, HBA.out.block⟩⟩
                case measure => simp [intOf]; omega
              · by_cases h1 : z < le
                · have hnv := HNV.out.less HSF.out hzb (.inl h1)
                  rw [← HNS.out] at hnv
                  have HNX := Lib.hid hnv
                  clear hnv hzb
                  go_wp2_with fail
                  go_quiet (fail)
                  go_wp2_with fail
                  go_roundw
                  case rel => exact ⟨j + 1, s, z, true, by omega, by go_num, rfl, rfl, rfl, HNX.out, ⟨HBA.out.os, HBA.out.tape, HBA.out.output, HBA.out.size, HBA.out.block⟩⟩
                  case measure => simp [intOf]; omega
                · by_cases h2 : z = le
                  · subst h2
                    have d1 : (z == z) = true := by simp
                    cases h3 : ltS s out
                    · have hnv := HNV.out.stay HSF.out h1 (fun hx => by rw [h3] at hx; cases hx.2)
                      rw [← HNS.out] at hnv
                      have HNX := Lib.hid hnv
                      unfold ltS at h3
                      clear hnv hzb
                      go_wp2_with fail
                      go_roundw
                      case rel => exact ⟨j + 1, out, z, true, by omega, by go_num, rfl, rfl, rfl, HNX.out, HBA.out⟩
                      case measure => simp [intOf]; omega
                    · have hnv := HNV.out.less HSF.out hzb (.inr ⟨rfl, h3⟩)
                      rw [← HNS.out] at hnv
                      have HNX := Lib.hid hnv
                      unfold ltS at h3
                      clear hnv hzb
                      go_wp2_with fail
                      go_quiet (fail)
                      go_wp2_with fail
                      go_roundw
                      case rel => exact ⟨j + 1, s, z, true, by omega, by go_num, rfl, rfl, rfl, HNX.out, ⟨HBA.out.os, HBA.out.tape, HBA.out.output, HBA.out.size, HBA.out.block⟩⟩
                      case measure => simp [intOf]; omega
                  · have hnv := HNV.out.stay HSF.out h1 (fun hx => h2 hx.1)
                    rw [← HNS.out] at hnv
                    have HNX := Lib.hid hnv
                    have d1 : (z == le) = false := by rw [beq_eq_false_iff_ne]; exact h2
                    clear hnv hzb h2
                    go_wp2_with fail
                    go_roundw
                    case rel => exact ⟨j + 1, out, le, true, by omega, by go_num, rfl, rfl, rfl, HNX.out, HBA.out⟩
                    case measure => simp [intOf]; omega
          · obtain rfl : j = l.length := by omega
            have hnv := HNV.out
            rw [List.take_length] at hnv
            have hbb := HM.out.2.trans (HBX.out.mono HM.out.2.size)
            cases fd
            · have HP : Hid (NearP ts L t a l wo (.returned (.tuple #[.string ⟨#[]⟩, .iface 54 (.int .i64 3)])) wr) := Lib.hid (NearP.mk (nearE_no HALL.out hnv) hbb)
              clear hnv hbb
              go_wp2_with fail
              go_ret2
              exact HP.out
            · have HP : Hid (NearP ts L t a l wo (.returned (.tuple #[.string out, .nilIface])) wr) := Lib.hid (NearP.mk (nearE_yes HALL.out hnv) hbb)
              clear hnv hbb
              go_wp2_with fail
              go_ret2
              exact HP.out
  · have HP : Hid (NearP ts L t a l w (.returned (.tuple #[.string ⟨#[]⟩, .iface 54 (.int .i64 8)])) w) := Lib.hid (NearP.mk (nearE_bad fun hx => ha hx.1) (Below.refl _ _))
    have hf : inL a ts = false := by
      cases hq : inL a ts
      · rfl
      · exact absurd (inL_iff.1 hq) ha
    rw [hf] at CA
    clear h ha hl hf
    go_enter Try.func25, Try.ntmps25
    go_wp2_with fail
    refine CA.out.mono ?_
    rintro e w1 ⟨rfl, hw⟩
    obtain rfl : w = w1 := hw.symm
    go_wp2_with fail
    go_ret2
    exact HP.out
end
end Go.Proofs.Ytpcapmialdmcaaa

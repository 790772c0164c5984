/- network: the document's covered. Conditions: the network can be read. -/
import Derived.Test.YtkhiepjlfbjgdaaZNwPb
namespace Go.Proofs.Ytkhiepjlfbjgdaa
open Go.RowKit

section
variable {K J : Nat → Prop} {w w' wx w0 : World} {q : DNv} {D : DN}
set_option maxRecDepth 100000 in
set_option maxHeartbeats 6400000 in
theorem dcovered_any (h : DNAt K w q D) (t : Int) (x y : ByteArray) : Calls Try.prog 50 #[dnV q D, .int .i64 t, .string x, .string y] w fun e w' => e = .returned (.bool (cutB D.cs t x y)) ∧ Below w.heap.size w w' := by
  obtain ⟨au, cu, af, cf, ac, cc, ae, ce, al, cl, rfl, _, _, hl, _⟩ := h.shapes
  have HD := Lib.hid (TN.start h)
  unfold dnV dnC tDN at *
  dsimp only at *
  clear h
  go_enter Try.func50, Try.ntmps50
  go_upto_region 1 with fail
  generalize w.alloc (.cells #[.int .i64 D.dflt, .int .i64 D.present, .int .i64 D.lost, .slice au D.us.length cu, .slice af D.fs.length cf, .slice ac D.cs.length cc, .slice ae D.se.length ce, .slice al D.ls.length cl] 69) = w1 at *
  obtain ⟨bx, hbx⟩ : ∃ bx, w.heap.size = bx := ⟨_, rfl⟩
  have HBX := Lib.hid hbx
  rw [hbx] at HD ⊢
  clear hbx
  go_wp2_with fail
  go_loopw [9] (fun iv wr => ∃ j : Nat, j ≤ D.cs.length ∧ iv = .int .i64 j ∧ Below w1.heap.size w1 wr ∧ ∀ q, q < j → covB (D.cs.getD q dCut) t x y = false) (fun iv _ => D.cs.length - (intOf iv).toNat)
  case atStart => exact ⟨0, Nat.zero_le _, rfl, Below.refl _ _, fun i hi => by omega⟩
  case round =>
    obtain ⟨j, hj, rfl, hb, hN⟩ := hrel
    have HN := Lib.hid hN
    have HW := Lib.hid (HD.out.bel hb)
    have HB := Lib.hid hb
    obtain ⟨x0, x1, x2, x3, x4, x5, x6, x7⟩ := HW.out.get
    clear x0 x1 x2 x3 x4 x6 x7 hN hb
    by_cases hlt : j < D.cs.length
    · obtain ⟨g, off, rfl, c⟩ := HW.out.d.c.at_ cC_len hlt dCut
      have c0 := c 0 (by omega)
      have c1 := c 1 (by omega)
      have c2 := c 2 (by omega)
      have c3 := c 3 (by omega)
      have HR := Lib.hid (fun h => cutB_true (t := t) (x := x) (y := y) hlt h)
      have HN2 : Hid (covB (D.cs.getD j dCut) t x y = false → ∀ q, q < j + 1 → covB (D.cs.getD q dCut) t x y = false) := Lib.hid fun h1 q hq => by
        by_cases e : q = j
        · rw [e]; exact h1
        · exact HN.out q (by omega)
      clear c
      generalize D.cs.getD j dCut = m at *
      obtain ⟨ma, mb, m0, m1⟩ := m
      replace c0 : wr.cell? ⟨g, off + j * 4, none⟩ = some (.string ma) := c0
      replace c1 : wr.cell? ⟨g, off + j * 4 + 1, none⟩ = some (.string mb) := c1
      replace c2 : wr.cell? ⟨g, off + j * 4 + 2, none⟩ = some (.int .i64 m0) := c2
      replace c3 : wr.cell? ⟨g, off + j * 4 + 3, none⟩ = some (.int .i64 m1) := c3
      have HC : Hid (covB ⟨ma, mb, m0, m1⟩ t x y = (decide (m0 ≤ t) && (decide (t < m1) && ((nameB ma x && nameB mb y) || (nameB ma y && nameB mb x))))) := Lib.hid rfl
      have HBA := Lib.hid (HB.out.alloc HB.out.size (.cells #[.string ma, .string mb, .int .i64 m0, .int .i64 m1] 117))
      have HE := Lib.hid (HD.out.b.trans (HBA.out.mono HD.out.b.size))
      have N1 := Lib.hid (dname_any ma x)
      have N2 := Lib.hid (dname_any mb y)
      have N3 := Lib.hid (dname_any ma y)
      have N4 := Lib.hid (dname_any mb x)
      have dj : decide ((j : Int) < (D.cs.length : Int)) = true := decide_eq_true (by omega)
      generalize nameB ma x = b1 at *
      generalize nameB mb y = b2 at *
      generalize nameB ma y = b3 at *
      generalize nameB mb x = b4 at *
      by_cases h0 : m0 ≤ t
      · have d0 : decide (m0 ≤ t) = true := decide_eq_true h0
        by_cases h1 : t < m1
        · have d1 : decide (t < m1) = true := decide_eq_true h1
          clear h0 h1
          cases b1
          · skip
            cases b3
            · skip
              have HV : Hid (covB ⟨ma, mb, m0, m1⟩ t x y = false) := Lib.hid (by rw [HC.out]; simp [*])
              go_wp2_with fail
              refine (N1.out _).mono ?_
              rintro e wn1 ⟨rfl, hwn⟩
              subst hwn
              go_wp2_with fail
              refine (N3.out _).mono ?_
              rintro e wn3 ⟨rfl, hwn⟩
              subst hwn
              go_wp2_with fail
              go_roundw
              case rel => exact ⟨j + 1, by omega, by go_num, HBA.out, HN2.out HV.out⟩
              case measure => simp [intOf]; omega
            · skip
              cases b4
              · skip
                have HV : Hid (covB ⟨ma, mb, m0, m1⟩ t x y = false) := Lib.hid (by rw [HC.out]; simp [*])
                go_wp2_with fail
                refine (N1.out _).mono ?_
                rintro e wn1 ⟨rfl, hwn⟩
                subst hwn
                go_wp2_with fail
                refine (N3.out _).mono ?_
                rintro e wn3 ⟨rfl, hwn⟩
                subst hwn
                go_wp2_with fail
                refine (N4.out _).mono ?_
                rintro e wn4 ⟨rfl, hwn⟩
                subst hwn
                go_wp2_with fail
                go_roundw
                case rel => exact ⟨j + 1, by omega, by go_num, HBA.out, HN2.out HV.out⟩
                case measure => simp [intOf]; omega
              · skip
                have HV : Hid (covB ⟨ma, mb, m0, m1⟩ t x y = true) := Lib.hid (by rw [HC.out]; simp [*])
                go_wp2_with fail
                refine (N1.out _).mono ?_
                rintro e wn1 ⟨rfl, hwn⟩
                subst hwn
                go_wp2_with fail
                refine (N3.out _).mono ?_
                rintro e wn3 ⟨rfl, hwn⟩
                subst hwn
                go_wp2_with fail
                refine (N4.out _).mono ?_
                rintro e wn4 ⟨rfl, hwn⟩
                subst hwn
                go_wp2_with fail
                go_ret
                exact ⟨by rw [HR.out HV.out]; rfl, HE.out⟩
          · skip
            cases b2
            · skip
              cases b3
              · skip
                have HV : Hid (covB ⟨ma, mb, m0, m1⟩ t x y = false) := Lib.hid (by rw [HC.out]; simp [*])
                go_wp2_with fail
                refine (N1.out _).mono ?_
                rintro e wn1 ⟨rfl, hwn⟩
                subst hwn
                go_wp2_with fail
                refine (N2.out _).mono ?_
                rintro e wn2 ⟨rfl, hwn⟩
                subst hwn
                go_wp2_with fail
                refine (N3.out _).mono ?_
                rintro e wn3 ⟨rfl, hwn⟩
                subst hwn
                go_wp2_with fail
                go_roundw
                case rel => exact ⟨j + 1, by omega, by go_num, HBA.out, HN2.out HV.out⟩
                case measure => simp [intOf]; omega
              · skip
                cases b4
                · skip
                  have HV : Hid (covB ⟨ma, mb, m0, m1⟩ t x y = false) := Lib.hid (by rw [HC.out]; simp [*])
                  go_wp2_with fail
                  refine (N1.out _).mono ?_
                  rintro e wn1 ⟨rfl, hwn⟩
                  subst hwn
                  go_wp2_with fail
                  refine (N2.out _).mono ?_
                  rintro e wn2 ⟨rfl, hwn⟩
                  subst hwn
                  go_wp2_with fail
                  refine (N3.out _).mono ?_
                  rintro e wn3 ⟨rfl, hwn⟩
                  subst hwn
                  go_wp2_with fail
                  refine (N4.out _).mono ?_
                  rintro e wn4 ⟨rfl, hwn⟩
                  subst hwn
                  go_wp2_with fail
                  go_roundw
                  case rel => exact ⟨j + 1, by omega, by go_num, HBA.out, HN2.out HV.out⟩
                  case measure => simp [intOf]; omega
                · skip
                  have HV : Hid (covB ⟨ma, mb, m0, m1⟩ t x y = true) := Lib.hid (by rw [HC.out]; simp [*])
                  go_wp2_with fail
                  refine (N1.out _).mono ?_
                  rintro e wn1 ⟨rfl, hwn⟩
                  subst hwn
                  go_wp2_with fail
                  refine (N2.out _).mono ?_
                  rintro e wn2 ⟨rfl, hwn⟩
                  subst hwn
                  go_wp2_with fail
                  refine (N3.out _).mono ?_
                  rintro e wn3 ⟨rfl, hwn⟩
                  subst hwn
                  go_wp2_with fail
                  refine (N4.out _).mono ?_
                  rintro e wn4 ⟨rfl, hwn⟩
                  subst hwn
                  go_wp2_with fail
                  go_ret
                  exact ⟨by rw [HR.out HV.out]; rfl, HE.out⟩
            · skip
              have HV : Hid (covB ⟨ma, mb, m0, m1⟩ t x y = true) := Lib.hid (by rw [HC.out]; simp [*])
              go_wp2_with fail
              refine (N1.out _).mono ?_
              rintro e wn1 ⟨rfl, hwn⟩
              subst hwn
              go_wp2_with fail
              refine (N2.out _).mono ?_
              rintro e wn2 ⟨rfl, hwn⟩
              subst hwn
              go_wp2_with fail
              go_ret
              exact ⟨by rw [HR.out HV.out]; rfl, HE.out⟩
        · have d1 : decide (t < m1) = false := decide_eq_false h1
          clear h0 h1
          have HV : Hid (covB ⟨ma, mb, m0, m1⟩ t x y = false) := Lib.hid (by rw [HC.out]; simp [*])
          go_wp2_with fail
          go_roundw
          case rel => exact ⟨j + 1, by omega, by go_num, HBA.out, HN2.out HV.out⟩
          case measure => simp [intOf]; omega
      · have d0 : decide (m0 ≤ t) = false := decide_eq_false h0
        clear h0
        have HV : Hid (covB ⟨ma, mb, m0, m1⟩ t x y = false) := Lib.hid (by rw [HC.out]; simp [*])
        go_wp2_with fail
        go_roundw
        case rel => exact ⟨j + 1, by omega, by go_num, HBA.out, HN2.out HV.out⟩
        case measure => simp [intOf]; omega
    · obtain rfl : j = D.cs.length := by omega
      have dj : decide ((D.cs.length : Int) < (D.cs.length : Int)) = false := decide_eq_false (by omega)
      have HE := Lib.hid (HD.out.b.trans (HB.out.mono HD.out.b.size))
      go_wp2_with fail
      go_ret
      exact ⟨by rw [cutB_false HN.out]; rfl, HE.out⟩
end
end Go.Proofs.Ytkhiepjlfbjgdaa

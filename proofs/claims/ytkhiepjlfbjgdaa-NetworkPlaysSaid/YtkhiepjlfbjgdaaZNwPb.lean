/- network: the document's Delay, count, fate, is, Next. Conditions: the network can be read. -/
import Derived.Test.YtkhiepjlfbjgdaaZNwPa
namespace Go.Proofs.Ytkhiepjlfbjgdaa
open Go.RowKit

section
variable {K J : Nat → Prop} {w w' wx w0 : World} {q : DNv} {D : DN} {bx : Nat} {vu vf vc vs vl : Value}
theorem TN.get (h : TN w bx K ⟨vu, vf, vc, vs, vl⟩ D wx) : (wx.cell? ⟨bx, 0, none⟩ = some (.int .i64 D.dflt) ∧ wx.cell? ⟨bx, 1, none⟩ = some (.int .i64 D.present) ∧ wx.cell? ⟨bx, 2, none⟩ = some (.int .i64 D.lost) ∧ wx.cell? ⟨bx, 3, none⟩ = some vu ∧ wx.cell? ⟨bx, 4, none⟩ = some vf ∧ wx.cell? ⟨bx, 5, none⟩ = some vc ∧ wx.cell? ⟨bx, 6, none⟩ = some vs ∧ wx.cell? ⟨bx, 7, none⟩ = some vl) := (get_row8 h.o).1
theorem ddelay_ok (d : Int) (w : World) : Calls Try.prog 24 #[.int .i64 d] w fun e w' => e = .returned (.bool (!badD d)) ∧ w' = w := by
  by_cases h1 : 0 ≤ d
  · by_cases h2 : d ≤ 17179869184
    · have HB : Hid (badD d = false) := Lib.hid (by unfold badD; simp; omega)
      have d1 : decide (0 ≤ d) = true := decide_eq_true h1
      have d2 : decide (d ≤ 17179869184) = true := decide_eq_true h2
      rw [HB.out]
      go_enter Try.func24, Try.ntmps24
      go_wp2_with fail
      go_ret
      exact ⟨rfl, rfl⟩
    · have HB : Hid (badD d = true) := Lib.hid (by unfold badD; simp; omega)
      have d1 : decide (0 ≤ d) = true := decide_eq_true h1
      have d2 : decide (d ≤ 17179869184) = false := decide_eq_false h2
      rw [HB.out]
      go_enter Try.func24, Try.ntmps24
      go_wp2_with fail
      go_ret
      exact ⟨rfl, rfl⟩
  · have HB : Hid (badD d = true) := Lib.hid (by unfold badD; simp; omega)
    have d1 : decide (0 ≤ d) = false := decide_eq_false h1
    rw [HB.out]
    go_enter Try.func24, Try.ntmps24
    go_wp2_with fail
    go_ret
    exact ⟨rfl, rfl⟩
theorem dname_any (x y : ByteArray) (w : World) : Calls Try.prog 52 #[.string x, .string y] w fun e w' => e = .returned (.bool (nameB x y)) ∧ w' = w := by
  by_cases h : x.toList = [42]
  · have HN := Lib.hid (show nameB x y = true from by unfold nameB; rw [h]; rfl)
    have hb : (x.toList == [42]) = true := by rw [h]; rfl
    clear h
    rw [HN.out]
    go_enter Try.func52, Try.ntmps52
    go_wp2_with fail
    go_ret
    exact ⟨rfl, rfl⟩
  · have hb : (x.toList == [42]) = false := by rw [beq_eq_false_iff_ne]; exact h
    have HN := Lib.hid (show nameB x y = (x.toList == y.toList) from by unfold nameB; rw [hb]; rfl)
    clear h
    rw [HN.out]
    go_enter Try.func52, Try.ntmps52
    go_wp2_with fail
    go_ret
    exact ⟨rfl, rfl⟩
theorem count_snoc {se : List DL} {x y : ByteArray} {j : Nat} (h : j < se.length) : countD (se.take (j + 1)) x y = countD (se.take j) x y + (if (se.getD j dDL).a = x ∧ (se.getD j dDL).b = y then 1 else 0) := by
  have e : se.getD j dDL = se[j] := by simp [List.getD, h]
  unfold countD
  rw [List.take_succ_eq_append_getElem h, List.countP_append, List.countP_singleton, e]
  unfold dirD'
  simp only [decide_eq_true_eq]
set_option maxRecDepth 100000 in
set_option maxHeartbeats 3200000 in
theorem dcount_any (h : DNAt K w q D) (x y : ByteArray) : Calls Try.prog 48 #[dnV q D, .string x, .string y] w fun e w' => e = .returned (.int .i64 (countD D.se x y)) ∧ Below w.heap.size w w' := by
  obtain ⟨au, cu, af, cf, ac, cc, ae, ce, al, cl, rfl, _, _, _, hl, _⟩ := h.shapes
  have HD := Lib.hid (TN.start h)
  unfold dnV dnC tDN at *
  dsimp only at *
  clear h
  go_enter Try.func48, Try.ntmps48
  go_upto_region 1 with fail
  generalize w.alloc (.cells #[.int .i64 D.dflt, .int .i64 D.present, .int .i64 D.lost, .slice au D.us.length cu, .slice af D.fs.length cf, .slice ac D.cs.length cc, .slice ae D.se.length ce, .slice al D.ls.length cl] 69) = w1 at *
  obtain ⟨bx, hbx⟩ : ∃ bx, w.heap.size = bx := ⟨_, rfl⟩
  have HBX := Lib.hid hbx
  rw [hbx] at HD ⊢
  clear hbx
  obtain ⟨x0, x1, x2, x3, x4, x5, x6, x7⟩ := HD.out.get
  clear x0 x1 x2 x3 x4 x5 x7
  go_wp2_with fail
  go_loopw [7, 8] (fun kv iv wr => ∃ j k : Nat, j ≤ D.se.length ∧ k ≤ j ∧ kv = .int .i64 k ∧ iv = .int .i64 j ∧ wr = w1 ∧ k = countD (D.se.take j) x y) (fun _ iv _ => D.se.length - (intOf iv).toNat)
  case atStart => exact ⟨0, 0, Nat.zero_le _, Nat.le_refl _, rfl, rfl, rfl, rfl⟩
  case round =>
    obtain ⟨j, k, hj, hk, rfl, rfl, rfl, hC⟩ := hrel
    have HC := Lib.hid hC
    clear hC
    by_cases hlt : j < D.se.length
    · obtain ⟨g, off, rfl, c⟩ := HD.out.d.e.at_ dC_len hlt dDL
      have c1 := c 1 (by omega)
      have c2 := c 2 (by omega)
      have HS := Lib.hid (count_snoc (x := x) (y := y) hlt)
      rw [← HC.out] at HS
      clear c
      generalize D.se.getD j dDL = m at *
      replace c1 : wr.cell? ⟨g, off + j * 4 + 1, none⟩ = some (.string m.a) := c1
      replace c2 : wr.cell? ⟨g, off + j * 4 + 2, none⟩ = some (.string m.b) := c2
      have dj : decide ((j : Int) < (D.se.length : Int)) = true := decide_eq_true (by omega)
      by_cases ha : m.a = x
      · have e1 : (m.a.toList == x.toList) = true := eqT_iff.2 ha
        by_cases hb : m.b = y
        · have e2 : (m.b.toList == y.toList) = true := eqT_iff.2 hb
          have HN : Hid (k + 1 = countD (D.se.take (j + 1)) x y) := Lib.hid (by rw [HS.out, if_pos ⟨ha, hb⟩])
          clear ha hb
          go_wp2_with fail
          go_roundw
          case rel => exact ⟨j + 1, k + 1, by omega, by omega, by go_num, by go_num, by first | rfl | trivial, HN.out⟩
          case measure => simp [intOf]; omega
        · have e2 : (m.b.toList == y.toList) = false := eqT_not hb
          have HN : Hid (k = countD (D.se.take (j + 1)) x y) := Lib.hid (by rw [HS.out, if_neg (fun h => hb h.2)]; rfl)
          clear ha hb
          go_wp2_with fail
          go_roundw
          case rel => exact ⟨j + 1, k, by omega, by omega, by go_num, by go_num, by first | rfl | trivial, HN.out⟩
          case measure => simp [intOf]; omega
      · have e1 : (m.a.toList == x.toList) = false := eqT_not ha
        have HN : Hid (k = countD (D.se.take (j + 1)) x y) := Lib.hid (by rw [HS.out, if_neg (fun h => ha h.1)]; rfl)
        clear ha
        go_wp2_with fail
        go_roundw
        case rel => exact ⟨j + 1, k, by omega, by omega, by go_num, by go_num, by first | rfl | trivial, HN.out⟩
        case measure => simp [intOf]; omega
    · obtain rfl : j = D.se.length := by omega
      have dj : decide ((D.se.length : Int) < (D.se.length : Int)) = false := decide_eq_false (by omega)
      rw [List.take_length] at HC
      go_wp2_with fail
      go_ret
      exact ⟨by rw [HC.out]; rfl, HD.out.b⟩
/-- Where a fate is. -/
inductive FateR (fs : List FR) (x y : ByteArray) (i : Int) : Int → Prop
  | there (k : Nat) (hk : k < fs.length) (h : fs.find? (isF x y i) = some (fs.getD k dFR)) : FateR fs x y i k
  | none (h : fs.find? (isF x y i) = none) : FateR fs x y i (-1)
theorem find_at {p : FR → Bool} : ∀ {l : List FR} {k : Nat}, (∀ q, q < k → p (l.getD q dFR) = false) → k < l.length → p (l.getD k dFR) = true → l.find? p = some (l.getD k dFR)
  | [], k, _, h, _ => by simp at h
  | z :: l, 0, _, _, h => by
    have h : p z = true := h
    rw [List.find?_cons_of_pos h]; rfl
  | z :: l, k + 1, h1, h2, h3 => by
    have h : p z = false := h1 0 (by omega)
    rw [List.find?_cons_of_neg (by simp [h])]
    exact find_at (k := k) (fun q hq => h1 (q + 1) (by omega)) (by simpa using h2) h3
theorem find_no {p : FR → Bool} {l : List FR} (h : ∀ q, q < l.length → p (l.getD q dFR) = false) : l.find? p = none := by
  rw [List.find?_eq_none]
  intro z hz
  obtain ⟨i, hi, rfl⟩ := List.getElem_of_mem hz
  have := h i hi
  simp [List.getD, hi] at this
  simp [this]
theorem isF_iff {x y : ByteArray} {i : Int} {f : FR} : isF x y i f = true ↔ f.a = x ∧ f.b = y ∧ f.i = i := by unfold isF; simp
theorem isF_not {x y : ByteArray} {i : Int} {f : FR} (h : ¬ (f.a = x ∧ f.b = y ∧ f.i = i)) : isF x y i f = false := by
  cases h2 : isF x y i f
  · rfl
  · exact absurd (isF_iff.1 h2) h
set_option maxRecDepth 100000 in
set_option maxHeartbeats 3200000 in
theorem dfate_any (h : DNAt K w q D) (x y : ByteArray) (i : Int) : Calls Try.prog 49 #[dnV q D, .string x, .string y, .int .i64 i] w fun e w' => ∃ r, e = .returned (.int .i64 r) ∧ FateR D.fs x y i r ∧ Below w.heap.size w w' := by
  obtain ⟨au, cu, af, cf, ac, cc, ae, ce, al, cl, rfl, _, hl, _⟩ := h.shapes
  have HD := Lib.hid (TN.start h)
  unfold dnV dnC tDN at *
  dsimp only at *
  clear h
  go_enter Try.func49, Try.ntmps49
  go_upto_region 1 with fail
  generalize w.alloc (.cells #[.int .i64 D.dflt, .int .i64 D.present, .int .i64 D.lost, .slice au D.us.length cu, .slice af D.fs.length cf, .slice ac D.cs.length cc, .slice ae D.se.length ce, .slice al D.ls.length cl] 69) = w1 at *
  obtain ⟨bx, hbx⟩ : ∃ bx, w.heap.size = bx := ⟨_, rfl⟩
  have HBX := Lib.hid hbx
  rw [hbx] at HD ⊢
  clear hbx
  go_wp2_with fail
  go_loopw [9] (fun iv wr => ∃ j : Nat, j ≤ D.fs.length ∧ iv = .int .i64 j ∧ Below w1.heap.size w1 wr ∧ ∀ q, q < j → isF x y i (D.fs.getD q dFR) = false) (fun iv _ => D.fs.length - (intOf iv).toNat)
  case atStart => exact ⟨0, Nat.zero_le _, rfl, Below.refl _ _, fun i hi => by omega⟩
  case round =>
    obtain ⟨j, hj, rfl, hb, hN⟩ := hrel
    have HN := Lib.hid hN
    have HW := Lib.hid (HD.out.bel hb)
    have HB := Lib.hid hb
    obtain ⟨x0, x1, x2, x3, x4, x5, x6, x7⟩ := HW.out.get
    clear x0 x1 x2 x3 x5 x6 x7 hN hb
    by_cases hlt : j < D.fs.length
    · obtain ⟨g, off, rfl, c⟩ := HW.out.d.f.at_ fC_len hlt dFR
      have c0 := c 0 (by omega)
      have c1 := c 1 (by omega)
      have c2 := c 2 (by omega)
      have c3 := c 3 (by omega)
      have HR := Lib.hid (fun h => FateR.there (x := x) (y := y) (i := i) j hlt (find_at HN.out hlt h))
      have HN2 : Hid (isF x y i (D.fs.getD j dFR) = false → ∀ q, q < j + 1 → isF x y i (D.fs.getD q dFR) = false) := Lib.hid fun h1 q hq => by
        by_cases e : q = j
        · rw [e]; exact h1
        · exact HN.out q (by omega)
      have hm : D.fs.getD j dFR ∈ D.fs := by simp [List.getD, hlt]
      obtain ⟨fo, fc, _, _, _, hfv, _⟩ := (HW.out.d.r _ hm).v
      clear c hm
      generalize D.fs.getD j dFR = m at *
      replace c0 : wr.cell? ⟨g, off + j * 4, none⟩ = some (.string m.a) := c0
      replace c1 : wr.cell? ⟨g, off + j * 4 + 1, none⟩ = some (.string m.b) := c1
      replace c2 : wr.cell? ⟨g, off + j * 4 + 2, none⟩ = some (.int .i64 m.i) := c2
      replace c3 : wr.cell? ⟨g, off + j * 4 + 3, none⟩ = some (.slice fo m.l.length fc) := c3.trans (by rw [← hfv]; rfl)
      clear hfv
      generalize m.l.length = ml at *
      have HBA := Lib.hid (HB.out.alloc HB.out.size (.cells #[.string m.a, .string m.b, .int .i64 m.i, .slice fo ml fc] 114))
      have HE := Lib.hid (HD.out.b.trans (HBA.out.mono HD.out.b.size))
      have dj : decide ((j : Int) < (D.fs.length : Int)) = true := decide_eq_true (by omega)
      by_cases ha : m.a = x
      · have e1 : (m.a.toList == x.toList) = true := eqT_iff.2 ha
        by_cases hb : m.b = y
        · have e2 : (m.b.toList == y.toList) = true := eqT_iff.2 hb
          by_cases hi : m.i = i
          · have e3 : (m.i == i) = true := by rw [hi]; simp
            have HP := Lib.hid (HR.out (isF_iff.2 ⟨ha, hb, hi⟩))
            clear ha hb hi
            go_wp2_with fail
            go_ret
            exact ⟨_, rfl, HP.out, HE.out⟩
          · have e3 : (m.i == i) = false := by simp [hi]
            have HN3 := Lib.hid (HN2.out (isF_not fun h => hi h.2.2))
            clear ha hb hi
            go_wp2_with fail
            go_roundw
            case rel => exact ⟨j + 1, by omega, by go_num, HBA.out, HN3.out⟩
            case measure => simp [intOf]; omega
        · have e2 : (m.b.toList == y.toList) = false := eqT_not hb
          have HN3 := Lib.hid (HN2.out (isF_not fun h => hb h.2.1))
          clear ha hb
          go_wp2_with fail
          go_roundw
          case rel => exact ⟨j + 1, by omega, by go_num, HBA.out, HN3.out⟩
          case measure => simp [intOf]; omega
      · have e1 : (m.a.toList == x.toList) = false := eqT_not ha
        have HN3 := Lib.hid (HN2.out (isF_not fun h => ha h.1))
        clear ha
        go_wp2_with fail
        go_roundw
        case rel => exact ⟨j + 1, by omega, by go_num, HBA.out, HN3.out⟩
        case measure => simp [intOf]; omega
    · obtain rfl : j = D.fs.length := by omega
      have dj : decide ((D.fs.length : Int) < (D.fs.length : Int)) = false := decide_eq_false (by omega)
      have HE := Lib.hid (HD.out.b.trans (HB.out.mono HD.out.b.size))
      go_wp2_with fail
      go_ret
      exact ⟨_, rfl, .none (find_no HN.out), HE.out⟩
/-- What Next returns. -/
def nextI (ls : List DL) (k : Nat) : Int := if k = 0 then -1 else (bestD ls k : Int)
set_option maxRecDepth 100000 in
set_option maxHeartbeats 3200000 in
theorem dnext_any (h : DNAt K w q D) : Calls Try.prog 40 #[dnV q D] w fun e w' => e = .returned (.int .i64 (nextI D.ls D.ls.length)) ∧ Below w.heap.size w w' := by
  obtain ⟨au, cu, af, cf, ac, cc, ae, ce, al, cl, rfl, _, _, _, _, hl⟩ := h.shapes
  have HD := Lib.hid (TN.start h)
  unfold dnV dnC tDN at *
  dsimp only at *
  clear h
  go_enter Try.func40, Try.ntmps40
  go_upto_region 1 with fail
  generalize w.alloc (.cells #[.int .i64 D.dflt, .int .i64 D.present, .int .i64 D.lost, .slice au D.us.length cu, .slice af D.fs.length cf, .slice ac D.cs.length cc, .slice ae D.se.length ce, .slice al D.ls.length cl] 69) = w1 at *
  obtain ⟨bx, hbx⟩ : ∃ bx, w.heap.size = bx := ⟨_, rfl⟩
  have HBX := Lib.hid hbx
  rw [hbx] at HD ⊢
  clear hbx
  go_wp2_with fail
  go_loopw [3, 4] (fun bv iv wr => ∃ j : Nat, j ≤ D.ls.length ∧ iv = .int .i64 j ∧ bv = .int .i64 (nextI D.ls j) ∧ Below w1.heap.size w1 wr) (fun _ iv _ => D.ls.length - (intOf iv).toNat)
  case atStart => exact ⟨0, Nat.zero_le _, rfl, rfl, Below.refl _ _⟩
  case round =>
    obtain ⟨j, hj, rfl, rfl, hb⟩ := hrel
    have HW := Lib.hid (HD.out.bel hb)
    have HB := Lib.hid hb
    obtain ⟨x0, x1, x2, x3, x4, x5, x6, x7⟩ := HW.out.get
    clear x0 x1 x2 x3 x4 x5 x6 hb
    by_cases hlt : j < D.ls.length
    · have dj : decide ((j : Int) < (D.ls.length : Int)) = true := decide_eq_true (by omega)
      by_cases h0 : j = 0
      · subst h0
        have HN : Hid (nextI D.ls (0 + 1) = 0) := Lib.hid (by
          have e : bestD D.ls (0 + 1) = 0 := by rw [bestD]; simp [bestD]
          unfold nextI
          rw [if_neg (by omega), e]
          rfl)
        rw [show nextI D.ls 0 = -1 from rfl]
        go_upto_region 5 with fail
        go_quiet (fail)
        have HBN := Lib.hid (HB.out.trans (below_draw _ wr nq))
        go_wp2_with fail
        go_roundw
        case rel => exact ⟨0 + 1, by omega, by go_num, by rw [HN.out]; rfl, HBN.out⟩
        case measure => simp [intOf]; omega
      · have hbl := bestD_lt D.ls j (by omega)
        have HN : Hid (nextI D.ls (j + 1) = if (D.ls.getD j dDL).t < (D.ls.getD (bestD D.ls j) dDL).t then (j : Int) else (bestD D.ls j : Int)) := Lib.hid (by
          unfold nextI
          rw [if_neg (by omega), bestD]
          split <;> rfl)
        rw [show nextI D.ls j = (bestD D.ls j : Int) from if_neg h0]
        obtain ⟨g, off, rfl, c⟩ := HW.out.d.l.at_ dC_len hlt dDL
        have c0 : wr.cell? ⟨g, off + j * 4, none⟩ = some (.int .i64 (D.ls.getD j dDL).t) := c 0 (by omega)
        obtain ⟨g', off', he, c'⟩ := HW.out.d.l.at_ dC_len (show bestD D.ls j < D.ls.length by omega) dDL
        simp only [Option.some.injEq, Addr.mk.injEq, and_true] at he
        obtain ⟨rfl, rfl⟩ := he
        generalize bestD D.ls j = bj at *
        have c1 : wr.cell? ⟨g, off + bj * 4, none⟩ = some (.int .i64 (D.ls.getD bj dDL).t) := c' 0 (by omega)
        clear c c'
        generalize (D.ls.getD j dDL).t = tj at *
        generalize (D.ls.getD bj dDL).t = tb at *
        have db : decide ((bj : Int) < 0) = false := decide_eq_false (by omega)
        have hbl2 : bj < D.ls.length := by omega
        by_cases ht : tj < tb
        · rw [if_pos ht] at HN
          have dt : decide (tj < tb) = true := decide_eq_true ht
          clear h0
          go_upto_region 5 with fail
          go_quiet (fail)
          have HBN := Lib.hid (HB.out.trans (below_draw _ wr nq))
          go_wp2_with fail
          go_roundw
          case rel => exact ⟨j + 1, by omega, by go_num, by rw [HN.out], HBN.out⟩
          case measure => simp [intOf]; omega
        · rw [if_neg ht] at HN
          have dt : decide (tj < tb) = false := decide_eq_false ht
          clear h0
          go_upto_region 5 with fail
          go_quiet (fail)
          have HBN := Lib.hid (HB.out.trans (below_draw _ wr nq))
          go_wp2_with fail
          go_roundw
          case rel => exact ⟨j + 1, by omega, by go_num, by rw [HN.out], HBN.out⟩
          case measure => simp [intOf]; omega
    · obtain rfl : j = D.ls.length := by omega
      have dj : decide ((D.ls.length : Int) < (D.ls.length : Int)) = false := decide_eq_false (by omega)
      have HE := Lib.hid (HD.out.b.trans (HB.out.mono HD.out.b.size))
      go_wp2_with fail
      go_ret
      exact ⟨rfl, HE.out⟩
end
end Go.Proofs.Ytkhiepjlfbjgdaa

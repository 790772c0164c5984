/- topology: the document's Up. Conditions: the map can be read. -/
import Derived.Test.YtpcapmialdmcaaaTpW
import Derived.Test.YtpcapmialdmcaaaTpO
namespace Go.Proofs.Ytpcapmialdmcaaa
open Go.RowKit Go.Maps

section
variable {w w' : World} {ts : List ByteArray} {L : List TL} {a b : ByteArray} {tao lao : Option Addr} {tn tc lc : Nat}
theorem IsC.form {v : Value} {l : List (Int × Int)} (h : IsC w v l) : ∃ ao cap, v = .slice ao l.length cap ∧ (0 < l.length → ∃ g off, ao = some ⟨g, off, none⟩ ∧ g < w.heap.size) ∧ l.length ≤ cap ∧ cap ≤ 9223372036854775807 := by
  rcases OL.forms h with ⟨e, e0⟩ | ⟨g, off, cap, e, h1, h2, h3⟩
  · exact ⟨none, 0, by rw [e, e0], by omega, by omega, by omega⟩
  · exact ⟨_, cap, e, fun _ => ⟨g, off, rfl, h3⟩, h1, by unfold maxLen at h2; omega⟩
theorem IsC.at_ {g off cap : Nat} {l : List (Int × Int)} (h : IsC w (.slice (some ⟨g, off, none⟩) l.length cap) l) {j : Nat} (hj : j < l.length) : w.cell? ⟨g, off + j * 2, none⟩ = some (.int .i64 (l.getD j (0, 0)).1) ∧ w.cell? ⟨g, off + j * 2 + 1, none⟩ = some (.int .i64 (l.getD j (0, 0)).2) := by
  obtain ⟨e0, e1⟩ := prs_get l j hj
  have c0 := OL.cell h (j * 2) (by omega)
  have c1 := OL.cell h (j * 2 + 1) (by omega)
  rw [← Nat.add_assoc] at c1
  exact ⟨c0.trans e0, c1.trans e1⟩
set_option maxRecDepth 100000 in
set_option maxHeartbeats 3200000 in
theorem rup_any (h : RefL w (.slice lao L.length lc) L) (t : Int) : Calls Try.prog 23 #[.agg #[.slice tao tn tc, .slice lao L.length lc], .string a, .string b, .int .i64 t] w fun e w' => e = .returned (.bool (upT L a b t)) ∧ Below w.heap.size w w' := by
  have hb1 := (Below.refl w.heap.size w).alloc (Nat.le_refl _) (.cells #[.slice tao tn tc, .slice lao L.length lc] 31)
  have hq1 := heap_alloc_new w (.cells #[.slice tao tn tc, .slice lao L.length lc] 31)
  have x0 := (has_cell hq1 0).trans (show _ = some (Value.slice tao tn tc) from rfl)
  have x1 := (has_cell hq1 1).trans (show _ = some (Value.slice lao L.length lc) from rfl)
  have CF := Lib.hid (fun (wx : World) (hb : Below w.heap.size w wx) => find_any (tao := tao) (tn := tn) (tc := tc) (a := a) (b := b) (h.below hb))
  unfold FindP at CF
  have HQ1 := Lib.hid hq1
  have HB1 := Lib.hid hb1
  clear hq1 hb1
  cases hf : fnd L a b with
  | none =>
    have hu : upT L a b t = false := by unfold upT; rw [hf]
    rw [hu]
    rw [hf] at CF
    unfold fndI at CF
    clear hu hf h
    go_enter Try.func23, Try.ntmps23
    go_wp2_with fail
    refine (CF.out _ HB1.out).mono ?_
    rintro e w2 ⟨rfl, hb2⟩
    have HP := Lib.hid (HB1.out.trans (hb2.mono HB1.out.size))
    clear hb2 x0 x1
    go_wp2_with fail
    go_ret
    exact ⟨rfl, HP.out⟩
  | some i =>
    have hi := (fnd_some hf).1
    rw [hf] at CF
    unfold fndI at CF
    have hu : upT L a b t = (lk L i).cuts.all fun c => !(decide (c.1 ≤ clipT t) && decide (clipT t < c.2)) := by unfold upT; rw [hf]; rfl
    have HTO := Lib.hid (@all_to (lk L i).cuts (clipT t))
    have HNO := Lib.hid (fun (q : Nat) => @all_no (lk L i).cuts (clipT t) q)
    rw [← hu] at HTO HNO
    generalize upT L a b t = x at *
    obtain ⟨lao', lc', e, _, hl⟩ := h.form
    obtain ⟨g, off, e2, _⟩ := hl (by omega)
    obtain rfl : lao = some ⟨g, off, none⟩ := by simp at e; rw [e.1]; exact e2
    obtain ⟨co, cc, hcc, hIC, _⟩ := h.cuts hi
    have HCC := Lib.hid (And.intro hcc hIC)
    obtain ⟨co', cc', ec, hao, _, hcm⟩ := hIC.form
    obtain ⟨rfl, _, rfl⟩ : co = co' ∧ True ∧ cc = cc' := by simpa using ec
    have HAO := Lib.hid hao
    have hlen : (lk L i).cuts.length ≤ 9223372036854775807 := by omega
    have hiI : (i : Int) < (L.length : Int) := by omega
    have hge : decide ((i : Int) < 0) = false := decide_eq_false (by omega)
    generalize (lk L i).cuts = cs at *
    clear hu hf h hl e e2 hcc hIC ec hao
    go_enter Try.func23, Try.ntmps23
    go_wp2_with fail
    refine (CF.out _ HB1.out).mono ?_
    rintro e w2 ⟨rfl, hb2⟩
    have HB2 := Lib.hid (HB1.out.trans (hb2.mono HB1.out.size))
    have HQ2 := Lib.hid ((hb2.block _ (lt_of_block HQ1.out)).trans HQ1.out)
    clear hb2 x0 x1
    go_wp2_with fail
    refine (time_any t w2).mono ?_
    rintro e wx ⟨rfl, hw⟩
    obtain rfl : w2 = wx := hw.symm
    have x1 := (has_cell HQ2.out 1).trans (show _ = some (Value.slice (some ⟨g, off, none⟩) L.length lc) from rfl)
    have p1 := (HB2.out.cell (World.block_lt_of_cell? _ _ HCC.out.1)).trans HCC.out.1
    generalize clipT t = T at *
    go_wp2_with fail
    clear x1 p1
    go_loopw [27] (fun iv wr => ∃ j : Nat, j ≤ cs.length ∧ iv = .int .i64 j ∧ (∀ q, q < j → ¬ ((cs.getD q (0, 0)).1 ≤ T ∧ T < (cs.getD q (0, 0)).2)) ∧ Below w.heap.size w wr) (fun iv _ => cs.length - (intOf iv).toNat)
    case atStart => exact ⟨0, Nat.zero_le _, rfl, fun q hq => by omega, HB2.out⟩
    case round =>
      obtain ⟨j, hj, rfl, hF, hb⟩ := hrel
      have HFF := Lib.hid hF
      clear hF
      by_cases hlt : j < cs.length
      · obtain ⟨gv, offv, rfl, _⟩ := HAO.out (by omega)
        have hcw : IsC wr (.slice (some ⟨gv, offv, none⟩) cs.length cc) cs := OL.below HCC.out.2 hb (fun k hk => OL.lt HCC.out.2 k hk)
        obtain ⟨c0, c1⟩ := IsC.at_ hcw hlt
        clear hcw
        have HN := Lib.hid (HNO.out j hlt)
        have HS := Lib.hid (fun (h : ¬ ((cs.getD j (0, 0)).1 ≤ T ∧ T < (cs.getD j (0, 0)).2)) (q : Nat) (hq : q < j + 1) => show ¬ ((cs.getD q (0, 0)).1 ≤ T ∧ T < (cs.getD q (0, 0)).2) from by
          by_cases e : q = j
          · rw [e]; exact h
          · exact HFF.out q (by omega))
        have HBA := Lib.hid (hb.alloc hb.size (.cells #[.int .i64 (cs.getD j (0, 0)).1, .int .i64 (cs.getD j (0, 0)).2] 101))
        generalize (cs.getD j (0, 0)).1 = p at *
        generalize (cs.getD j (0, 0)).2 = q at *
        by_cases h1 : p ≤ T
        · by_cases h2 : T < q
          · have HR := Lib.hid (HN.out ⟨h1, h2⟩)
            go_wp2_with fail
            go_ret
            rw [HR.out]
            exact ⟨rfl, HBA.out⟩
          · have HR := Lib.hid (HS.out fun e => h2 e.2)
            go_wp2_with fail
            go_roundw
            case rel => exact ⟨j + 1, by omega, by go_num, HR.out, HBA.out⟩
            case measure => simp [intOf]; omega
        · have HR := Lib.hid (HS.out fun e => h1 e.1)
          go_wp2_with fail
          go_roundw
          case rel => exact ⟨j + 1, by omega, by go_num, HR.out, HBA.out⟩
          case measure => simp [intOf]; omega
      · obtain rfl : j = cs.length := by omega
        have HR := Lib.hid (HTO.out HFF.out)
        go_wp2_with fail
        go_ret
        rw [HR.out]
        exact ⟨rfl, hb⟩
end
end Go.Proofs.Ytpcapmialdmcaaa

/- topology: the walk of Up. Conditions: the names are no longer than can be. -/
import Derived.Test.YtpcapmialdmcaaaTpF
namespace Go.Proofs.Ytpcapmialdmcaaa
open Go.RowKit Go.Maps

section
variable {w w' : World} {m : Nat} {ts : List ByteArray} {L : List TL} {g : MG} {a b : ByteArray}
theorem all_to {l : List (Int × Int)} {T : Int} (h : ∀ q, q < l.length → ¬ ((l.getD q (0, 0)).1 ≤ T ∧ T < (l.getD q (0, 0)).2)) : (l.all fun c => !(decide (c.1 ≤ T) && decide (T < c.2))) = true := by
  rw [List.all_eq_true]
  intro c hc
  obtain ⟨q, hq, rfl⟩ := List.getElem_of_mem hc
  have := h q hq
  rw [show l.getD q (0, 0) = l[q] by simp [List.getD, hq]] at this
  by_cases h1 : l[q].1 ≤ T
  · by_cases h2 : T < l[q].2
    · exact absurd ⟨h1, h2⟩ this
    · simp [h2]
  · simp [h1]
theorem all_no {l : List (Int × Int)} {T : Int} {q : Nat} (hq : q < l.length) (h : (l.getD q (0, 0)).1 ≤ T ∧ T < (l.getD q (0, 0)).2) : (l.all fun c => !(decide (c.1 ≤ T) && decide (T < c.2))) = false := by
  cases e : l.all fun c => !(decide (c.1 ≤ T) && decide (T < c.2))
  · rfl
  · have h1 := List.all_eq_true.1 e _ (List.getElem_mem hq)
    rw [show l.getD q (0, 0) = l[q] by simp [List.getD, hq]] at h
    simp [h.1, h.2] at h1
def UpP (x : Bool) (w : World) (e : Ending) (w' : World) : Prop := e = .returned (.bool x) ∧ Below w.heap.size w w'
set_option maxRecDepth 100000 in
set_option maxHeartbeats 3200000 in
theorem up_none (h : MapAt w m ts L g) (za : a.size ≤ 9223372036854775807) (zb : b.size ≤ 9223372036854775807) (t : Int) (hf : fnd L a b = none) : Calls Try.prog 17 #[ptrV m, .string a, .string b, .int .i64 t] w (UpP (upT L a b t) w) := by
  have hu : upT L a b t = false := by unfold upT; rw [hf]
  rw [hu]
  have HF := Lib.hid (h.lookF za zb)
  rw [hf] at HF
  unfold lkV at HF
  obtain ⟨c1, _⟩ := HF.out w (Below.refl _ _)
  unfold ptrV
  clear h za zb hf hu
  go_enter Try.func17, Try.ntmps17
  go_wp2_with fail
  go_region_held3 (fun w' => w'.cell? ⟨m, 1, none⟩ = some (.map (some g.lb))) (go_keep)
    (first | (go_at_call 35; refine (pair_any a b _).mono ?_; rintro e w1 ⟨rfl, hb1⟩; have HB1 : Hid (Below w.heap.size w w1) := Lib.hid (by first | exact hb1 | exact (below_drew _ _).trans hb1 | exact (below_draw _ _ _).trans hb1); obtain ⟨c1, hlk⟩ := HF.out w1 HB1.out))
  clear HF hlk hb1 c1
  go_wp2_with fail
  go_ret
  exact ⟨rfl, HB1.out⟩
set_option maxRecDepth 100000 in
set_option maxHeartbeats 3200000 in
theorem up_some (h : MapAt w m ts L g) (za : a.size ≤ 9223372036854775807) (zb : b.size ≤ 9223372036854775807) (t : Int) {i : Nat} (hf : fnd L a b = some i) : Calls Try.prog 17 #[ptrV m, .string a, .string b, .int .i64 t] w (UpP (upT L a b t) w) := by
  have hu : upT L a b t = (lk L i).cuts.all fun c => !(decide (c.1 ≤ clipT t) && decide (clipT t < c.2)) := by unfold upT; rw [hf]; rfl
  have hi := (fnd_some hf).1
  have HTO := Lib.hid (@all_to (lk L i).cuts (clipT t))
  have HNO := Lib.hid (fun (q : Nat) => @all_no (lk L i).cuts (clipT t) q)
  rw [← hu] at HTO HNO
  generalize upT L a b t = x at *
  have HF := Lib.hid (h.lookF za zb)
  rw [hf] at HF
  unfold lkV ptrV at HF
  obtain ⟨ao, cp, hsv, hao, _, hcp⟩ := (h.cu i hi).form
  have HS := Lib.hid (fun (w1 : World) (hb : Below w.heap.size w w1) => show w1.cell? ⟨g.P i, 1, none⟩ = some (.slice ao (lk L i).cuts.length cp) from by
    have := (has_cell ((h.bel hb).pr i hi) 1).trans (show _ = some (g.sv i) from rfl)
    rw [this, hsv])
  have HC := Lib.hid (fun (w1 : World) (hb : Below w.heap.size w w1) => show IsP w1 (.slice ao (lk L i).cuts.length cp) (lk L i).cuts from by rw [← hsv]; exact (h.bel hb).cu i hi)
  have HAO := Lib.hid hao
  obtain ⟨c1, _⟩ := HF.out w (Below.refl _ _)
  have hlen : (lk L i).cuts.length ≤ 9223372036854775807 := by omega
  generalize (lk L i).cuts = cs at *
  unfold ptrV
  clear h za zb hf hu hsv hao hi
  go_enter Try.func17, Try.ntmps17
  go_wp2_with fail
  go_region_held3 (fun w' => w'.cell? ⟨m, 1, none⟩ = some (.map (some g.lb))) (go_keep)
    (first | (go_at_call 35; refine (pair_any a b _).mono ?_; rintro e w1 ⟨rfl, hb1⟩; have HB1 : Hid (Below w.heap.size w w1) := Lib.hid (by first | exact hb1 | exact (below_drew _ _).trans hb1 | exact (below_draw _ _ _).trans hb1); obtain ⟨c1, hlk⟩ := HF.out w1 HB1.out))
  clear hlk hb1
  go_wp2_with fail
  refine (clip_any t w1).mono ?_
  rintro e w2 ⟨rfl, hw⟩
  obtain rfl : w1 = w2 := hw.symm
  generalize clipT t = T at *
  have p1 := HS.out w1 HB1.out
  go_wp2_with fail
  go_region_held3 (fun w' => w'.cell? ⟨m, 1, none⟩ = some (.map (some g.lb)) ∧ w'.cell? ⟨g.P i, 1, none⟩ = some (.slice ao cs.length cp)) (go_keep)
    (first | (go_at_call 35; refine (pair_any a b _).mono ?_; rintro e w2 ⟨rfl, hb2⟩; have HB2 : Hid (Below w.heap.size w w2) := Lib.hid (HB1.out.trans ((by first | exact hb2 | exact (below_drew _ _).trans hb2 | exact (below_draw _ _ _).trans hb2 : Below w1.heap.size w1 w2).mono HB1.out.size)); obtain ⟨c1, hlk⟩ := HF.out w2 HB2.out; have p1 := HS.out w2 HB2.out))
  have HB3 := Lib.hid (by first | exact HB2.out | exact HB2.out.trans (below_drew _ _) | exact HB2.out.trans (below_draw _ _ _) : Below w.heap.size w w2)
  clear hlk hb2 c1 HF p1 HS HB1 HB2
  go_wp2_with fail
  go_loopw [38] (fun iv wr => ∃ j : Nat, j ≤ cs.length ∧ iv = .int .i64 j ∧ (∀ q, q < j → ¬ ((cs.getD q (0, 0)).1 ≤ T ∧ T < (cs.getD q (0, 0)).2)) ∧ Below w.heap.size w wr) (fun iv _ => cs.length - (intOf iv).toNat)
  case atStart => exact ⟨0, Nat.zero_le _, rfl, fun q hq => by omega, HB3.out⟩
  case round =>
    obtain ⟨j, hj, rfl, hF, hb⟩ := hrel
    have HFF := Lib.hid hF
    clear hF
    by_cases hlt : j < cs.length
    · obtain ⟨gv, offv, rfl⟩ := HAO.out (by omega)
      obtain ⟨c0, c1⟩ := (HC.out wr hb).at_ hlt rfl
      have HN := Lib.hid (HNO.out j hlt)
      have HS := Lib.hid (fun (h : ¬ ((cs.getD j (0, 0)).1 ≤ T ∧ T < (cs.getD j (0, 0)).2)) (q : Nat) (hq : q < j + 1) => show ¬ ((cs.getD q (0, 0)).1 ≤ T ∧ T < (cs.getD q (0, 0)).2) from by
        by_cases e : q = j
        · rw [e]; exact h
        · exact HFF.out q (by omega))
      have HBA := Lib.hid (hb.alloc hb.size (.cells #[.int .i64 (cs.getD j (0, 0)).1, .int .i64 (cs.getD j (0, 0)).2] 51))
      generalize (cs.getD j (0, 0)).1 = p at *
      generalize (cs.getD j (0, 0)).2 = q at *
      by_cases h1 : p ≤ T
      · by_cases h2 : T < q
        · have HR := Lib.hid (HN.out ⟨h1, h2⟩)
          go_wp2_with fail
          go_ret
          rw [HR.out]
          exact ⟨rfl, HBA.out⟩
        · have HR := Lib.hid (HS.out fun e => h2 e.2)
          go_wp2_with fail
          go_roundw
          case rel => exact ⟨j + 1, by omega, by go_num, HR.out, HBA.out⟩
          case measure => simp [intOf]; omega
      · have HR := Lib.hid (HS.out fun e => h1 e.1)
        go_wp2_with fail
        go_roundw
        case rel => exact ⟨j + 1, by omega, by go_num, HR.out, HBA.out⟩
        case measure => simp [intOf]; omega
    · obtain rfl : j = cs.length := by omega
      have HR := Lib.hid (HTO.out HFF.out)
      go_wp2_with fail
      go_ret
      rw [HR.out]
      exact ⟨rfl, hb⟩
theorem up_any (h : MapAt w m ts L g) (za : a.size ≤ 9223372036854775807) (zb : b.size ≤ 9223372036854775807) (t : Int) : Calls Try.prog 17 #[ptrV m, .string a, .string b, .int .i64 t] w (UpP (upT L a b t) w) := by
  cases hf : fnd L a b with
  | none => exact up_none h za zb t hf
  | some i => exact up_some h za zb t hf
end
end Go.Proofs.Ytpcapmialdmcaaa

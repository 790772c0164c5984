/- topology: the document's map: in memory; whether a town is there; where a link is; New. Conditions: each its own. -/
import Derived.Test.YtpcapmialdmcaaaTpNil
import Derived.Laws.ResultCell
namespace Go.Proofs.Ytpcapmialdmcaaa
open Go.RowKit Go.Maps

/-- The links' cells; vs: the slices of their interruptions. -/
def lks : List TL → List Value → List Value
  | l :: L, v :: vs => .string l.a :: .string l.b :: .int .i64 l.lat :: v :: lks L vs
  | _, _ => []
theorem lks_len : ∀ (L : List TL) (vs : List Value), vs.length = L.length → (lks L vs).length = L.length * 4
  | [], [], _ => rfl
  | [], _ :: _, h => by simp at h
  | _ :: _, [], h => by simp at h
  | _ :: L, _ :: vs, h => by simp [lks, lks_len L vs (by simpa using h)]; omega
theorem lks_get : ∀ (L : List TL) (vs : List Value) (i : Nat), vs.length = L.length → i < L.length → (lks L vs)[i * 4]? = some (.string (lk L i).a) ∧ (lks L vs)[i * 4 + 1]? = some (.string (lk L i).b) ∧ (lks L vs)[i * 4 + 2]? = some (.int .i64 (lk L i).lat) ∧ (lks L vs)[i * 4 + 3]? = some (vs.getD i undef)
  | [], _, i, _, h => by simp at h
  | _ :: _, [], _, h, _ => by simp at h
  | l :: L, v :: vs, 0, _, _ => by simp [lks, lk]
  | l :: L, v :: vs, i + 1, h, hi => by
    have := lks_get L vs i (by simpa using h) (by simpa using hi)
    rw [Nat.add_mul, Nat.one_mul]
    have e : lk (l :: L) (i + 1) = lk L i := by simp [lk]
    rw [e]
    exact ⟨by simpa [lks] using this.1, by simpa [lks] using this.2.1, by simpa [lks] using this.2.2.1, by simpa [lks] using this.2.2.2⟩
theorem lks_append : ∀ (L : List TL) (vs : List Value) (x : TL) (v : Value), vs.length = L.length → lks (L ++ [x]) (vs ++ [v]) = lks L vs ++ lks [x] [v]
  | [], [], _, _, _ => rfl
  | [], _ :: _, _, _, h => by simp at h
  | _ :: _, [], _, _, h => by simp at h
  | l :: L, v :: vs, x, u, h => by simp [lks, lks_append L vs x u (by simpa using h)]
theorem lks_lat : ∀ (L : List TL) (vs : List Value) (i : Nat) (z : Int), vs.length = L.length → i < L.length → (lks L vs).set (i * 4 + 2) (.int .i64 z) = lks (L.set i { lk L i with lat := z }) vs
  | [], _, i, _, _, h => by simp at h
  | _ :: _, [], _, _, h, _ => by simp at h
  | l :: L, v :: vs, 0, z, _, _ => by simp [lks, lk]
  | l :: L, v :: vs, i + 1, z, h, hi => by
    have := lks_lat L vs i z (by simpa using h) (by simpa using hi)
    have e : lk (l :: L) (i + 1) = lk L i := by simp [lk]
    rw [Nat.add_mul, Nat.one_mul, e]
    simp [lks, this]
theorem lks_cut : ∀ (L : List TL) (vs : List Value) (i : Nat) (cs : List (Int × Int)) (u : Value), vs.length = L.length → i < L.length → (lks L vs).set (i * 4 + 3) u = lks (L.set i { lk L i with cuts := cs }) (vs.set i u)
  | [], _, i, _, _, _, h => by simp at h
  | _ :: _, [], _, _, _, h, _ => by simp at h
  | l :: L, v :: vs, 0, cs, u, _, _ => by simp [lks, lk]
  | l :: L, v :: vs, i + 1, cs, u, h, hi => by
    have := lks_cut L vs i cs u (by simpa using h) (by simpa using hi)
    have e : lk (l :: L) (i + 1) = lk L i := by simp [lk]
    rw [Nat.add_mul, Nat.one_mul, e]
    simp [lks, this]
def IsC (w : World) (v : Value) (l : List (Int × Int)) : Prop := OL w 101 2 v l.length (prs l)
def RefL (w : World) (lv : Value) (L : List TL) : Prop := ∃ vs, vs.length = L.length ∧ OL w 99 4 lv L.length (lks L vs) ∧ (∀ u ∈ lks L vs, u.oneCell' = true) ∧ ∀ i, i < L.length → IsC w (vs.getD i undef) (lk L i).cuts
/-- The document's map. -/
def RefAt (w : World) (tv lv : Value) (ts : List ByteArray) (L : List TL) : Prop := RT w tv ts ∧ RefL w lv L
section
variable {w w' : World} {tv lv : Value} {ts : List ByteArray} {L : List TL} {a b : ByteArray}
theorem RefL.below (h : RefL w lv L) (hb : Below w.heap.size w w') : RefL w' lv L := by
  obtain ⟨vs, h1, h2, h3, h4⟩ := h
  exact ⟨vs, h1, OL.below h2 hb fun k hk => OL.lt h2 k hk, h3, fun i hi => OL.below (h4 i hi) hb fun k hk => OL.lt (h4 i hi) k hk⟩
theorem RefAt.below (h : RefAt w tv lv ts L) (hb : Below w.heap.size w w') : RefAt w' tv lv ts L := ⟨h.1.belowS hb, h.2.below hb⟩
theorem RefAt.nil (h : RT w tv ts) : RefAt w tv (.slice none 0 0) ts [] := ⟨h, [], rfl, OL.nil _ _ _, by simp [lks], fun i hi => by simp at hi⟩
theorem RefL.form (h : RefL w lv L) : ∃ ao cap, lv = .slice ao L.length cap ∧ L.length ≤ 9223372036854775807 ∧ (0 < L.length → ∃ b off, ao = some ⟨b, off, none⟩ ∧ ∀ i, i < L.length → w.cell? ⟨b, off + i * 4, none⟩ = some (.string (lk L i).a) ∧ w.cell? ⟨b, off + i * 4 + 1, none⟩ = some (.string (lk L i).b) ∧ w.cell? ⟨b, off + i * 4 + 2, none⟩ = some (.int .i64 (lk L i).lat)) := by
  obtain ⟨vs, h1, h2, h3, h4⟩ := h
  rcases OL.forms h2 with ⟨e, e0⟩ | ⟨g, off, cap, e, k1, k2, k3⟩
  · exact ⟨none, 0, by rw [e, e0], by omega, by omega⟩
  · subst e
    refine ⟨_, cap, rfl, by unfold maxLen at k2; omega, fun _ => ⟨g, off, rfl, fun i hi => ?_⟩⟩
    have hc := lks_get L vs i h1 hi
    exact ⟨(OL.cell h2 (i * 4) (by omega)).trans hc.1, (OL.cell h2 (i * 4 + 1) (by omega)).trans hc.2.1, (OL.cell h2 (i * 4 + 2) (by omega)).trans hc.2.2.1⟩
set_option maxRecDepth 100000 in
set_option maxHeartbeats 1600000 in
theorem known_any {lao : Option Addr} {ln lc : Nat} (h : RT w tv ts) (s : ByteArray) : Calls Try.prog 33 #[.agg #[tv, .slice lao ln lc], .string s] w fun e w' => e = .returned (.bool (inL s ts)) ∧ Below w.heap.size w w' := by
  obtain ⟨ao, cap, rfl, hn, hc⟩ := h
  have HC := Lib.hid hc
  have hb0 := (Below.refl w.heap.size w).alloc (Nat.le_refl _) (.cells #[.slice ao ts.length cap, .slice lao ln lc] 31)
  have hq := heap_alloc_new w (.cells #[.slice ao ts.length cap, .slice lao ln lc] 31)
  have x0 := (has_cell hq 0).trans (show _ = some (Value.slice ao ts.length cap) from rfl)
  have HB0 := Lib.hid hb0
  have HI := Lib.hid (fun i (hi : i < ts.length) (e : ts.getD i ByteArray.empty = s) => show inL s ts = true from inL_of (by rw [← e]; exact getD_mem hi))
  have HN := Lib.hid (@inL_not s ts)
  clear hc hb0 hq
  go_enter Try.func33, Try.ntmps33
  go_wp2_with fail
  go_loopw [9] (fun iv wr => ∃ j : Nat, j ≤ ts.length ∧ iv = .int .i64 j ∧ (∀ i, i < j → ts.getD i ByteArray.empty ≠ s) ∧ wr = w.alloc (.cells #[.slice ao ts.length cap, .slice lao ln lc] 31)) (fun iv _ => ts.length - (intOf iv).toNat)
  case atStart => exact ⟨0, Nat.zero_le _, rfl, fun i hi => by omega, rfl⟩
  case round =>
    obtain ⟨j, hj, rfl, hF, rfl⟩ := hrel
    have HF := Lib.hid hF
    clear hF
    by_cases hlt : j < ts.length
    · obtain ⟨b, off, rfl, hlb, hc⟩ := HC.out (by omega)
      have c0 := (HB0.out.cell (p := ⟨b, off + j, none⟩) hlb).trans (hc j hlt)
      have HJ := Lib.hid (HI.out j hlt)
      have HS := Lib.hid (fun (h : ts.getD j ByteArray.empty ≠ s) (i : Nat) (hi : i < j + 1) => show ts.getD i ByteArray.empty ≠ s from by
        by_cases e : i = j
        · rw [e]; exact h
        · exact HF.out i (by omega))
      clear hc hlb
      generalize ts.getD j ByteArray.empty = y at *
      cases hq : (y.toList == s.toList)
      · have HS2 := Lib.hid (HS.out fun e => by rw [e] at hq; simp at hq)
        go_wp2_with fail
        go_roundw
        case rel => exact ⟨j + 1, by omega, by go_num, HS2.out, by first | rfl | trivial⟩
        case measure => simp [intOf]; omega
      · have HR := Lib.hid (HJ.out (eqB_iff.1 hq))
        go_wp2_with fail
        go_ret
        rw [HR.out]
        exact ⟨rfl, HB0.out⟩
    · obtain rfl : j = ts.length := by omega
      have HR := Lib.hid (HN.out HF.out)
      go_wp2_with fail
      go_ret
      rw [HR.out]
      exact ⟨rfl, HB0.out⟩
def fndI : Option Nat → Int
  | none => -1
  | some i => i
theorem fnd_to {j : Nat} (hj : j < L.length) (h : ∀ i, i < j → isL a b (lk L i) = false) (hx : isL a b (lk L j) = true) : fnd L a b = some j := by
  unfold fnd
  rw [List.findIdx?_eq_some_iff_getElem]
  rw [lk_get hj] at hx
  refine ⟨hj, hx, fun i hi => ?_⟩
  have := h i hi
  rw [lk_get (by omega)] at this
  simpa using this
theorem fnd_no (h : ∀ i, i < L.length → isL a b (lk L i) = false) : fnd L a b = none := by
  unfold fnd
  rw [List.findIdx?_eq_none_iff]
  intro x hx
  obtain ⟨i, hi, rfl⟩ := List.getElem_of_mem hx
  have := h i hi
  rw [lk_get hi] at this
  simpa using this
def FindP (L : List TL) (a b : ByteArray) (w : World) (e : Ending) (w' : World) : Prop := e = .returned (.int .i64 (fndI (fnd L a b))) ∧ Below w.heap.size w w'
set_option maxRecDepth 100000 in
set_option maxHeartbeats 1600000 in
theorem find_any {tao : Option Addr} {tn tc : Nat} (h : RefL w lv L) : Calls Try.prog 39 #[.agg #[.slice tao tn tc, lv], .string a, .string b] w (FindP L a b w) := by
  have HR := Lib.hid (fun w' hb => (h.below (w' := w') hb).form)
  obtain ⟨ao, cap, rfl, hn, _⟩ := h.form
  have hb0 := (Below.refl w.heap.size w).alloc (Nat.le_refl _) (.cells #[.slice tao tn tc, .slice ao L.length cap] 31)
  have hq := heap_alloc_new w (.cells #[.slice tao tn tc, .slice ao L.length cap] 31)
  have x1 := (has_cell hq 1).trans (show _ = some (Value.slice ao L.length cap) from rfl)
  have HB0 := Lib.hid hb0
  have hmin := fun w ts t => @Lib.run_min_strs Try.prog w ts t a b
  have hmax := fun w ts t => @Lib.run_max_strs Try.prog w ts t a b
  have HRR : Hid (0 < L.length → ∃ b off, ao = some ⟨b, off, none⟩ ∧ ∀ i, i < L.length → (w.alloc (.cells #[.slice tao tn tc, .slice ao L.length cap] 31)).cell? ⟨b, off + i * 4, none⟩ = some (.string (lk L i).a) ∧ (w.alloc (.cells #[.slice tao tn tc, .slice ao L.length cap] 31)).cell? ⟨b, off + i * 4 + 1, none⟩ = some (.string (lk L i).b)) := Lib.hid fun h0 => by
    obtain ⟨ao', cap', e, _, h2⟩ := HR.out _ hb0
    simp only [Value.slice.injEq] at e
    obtain ⟨b, off, e2, h3⟩ := h2 h0
    exact ⟨b, off, by rw [e.1, e2], fun i hi => ⟨(h3 i hi).1, (h3 i hi).2.1⟩⟩
  clear h hb0 hq HR
  go_enter Try.func39, Try.ntmps39
  go_wp2_with fail
  go_loopw [11] (fun iv wr => ∃ j : Nat, j ≤ L.length ∧ iv = .int .i64 j ∧ (∀ i, i < j → isL a b (lk L i) = false) ∧ wr = w.alloc (.cells #[.slice tao tn tc, .slice ao L.length cap] 31)) (fun iv _ => L.length - (intOf iv).toNat)
  case atStart => exact ⟨0, Nat.zero_le _, rfl, fun i hi => by omega, rfl⟩
  case round =>
    obtain ⟨j, hj, rfl, hF, rfl⟩ := hrel
    have HF := Lib.hid hF
    clear hF
    by_cases hlt : j < L.length
    · obtain ⟨lb, off, rfl, hc⟩ := HRR.out (by omega)
      obtain ⟨c0, c1⟩ := hc j hlt
      have HE := Lib.hid (show isL a b (lk L j) = (((lk L j).a.toList == (Lib.minS a b).toList) && ((lk L j).b.toList == (Lib.maxS a b).toList)) from rfl)
      have HS := Lib.hid (fun (h : isL a b (lk L j) = false) (i : Nat) (hi : i < j + 1) => show isL a b (lk L i) = false from by
        by_cases e : i = j
        · rw [e]; exact h
        · exact HF.out i (by omega))
      have HY := Lib.hid (fun (h : isL a b (lk L j) = true) => fnd_to hlt HF.out h)
      clear hc
      generalize (lk L j).a = x at *
      generalize (lk L j).b = y at *
      generalize Lib.minS a b = mn at *
      generalize Lib.maxS a b = mx at *
      cases h1 : (x.toList == mn.toList)
      · have HS2 := Lib.hid (HS.out (by rw [HE.out, h1]; rfl))
        go_wp2_with fail
        go_roundw
        case rel => exact ⟨j + 1, by omega, by go_num, HS2.out, by first | rfl | trivial⟩
        case measure => simp [intOf]; omega
      · cases h2 : (y.toList == mx.toList)
        · have HS2 := Lib.hid (HS.out (by rw [HE.out, h1, h2]; rfl))
          go_wp2_with fail
          go_roundw
          case rel => exact ⟨j + 1, by omega, by go_num, HS2.out, by first | rfl | trivial⟩
          case measure => simp [intOf]; omega
        · have HP : Hid (FindP L a b w (.returned (.int .i64 (j : Int))) (w.alloc (.cells #[.slice tao tn tc, .slice (some ⟨lb, off, none⟩) L.length cap] 31))) := Lib.hid ⟨by rw [HY.out (by rw [HE.out, h1, h2]; rfl)]; rfl, HB0.out⟩
          go_wp2_with fail
          go_ret
          exact HP.out
    · obtain rfl : j = L.length := by omega
      have HP : Hid (FindP L a b w (.returned (.int .i64 (-1))) (w.alloc (.cells #[.slice tao tn tc, .slice ao L.length cap] 31))) := Lib.hid ⟨by rw [fnd_no HF.out]; rfl, HB0.out⟩
      go_wp2_with fail
      go_ret
      exact HP.out
end
end Go.Proofs.Ytpcapmialdmcaaa

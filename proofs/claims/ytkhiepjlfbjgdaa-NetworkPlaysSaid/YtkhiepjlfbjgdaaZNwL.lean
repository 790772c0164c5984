/- network: which cuts lose a message. Conditions: the cuts can be read. -/
import Derived.Test.YtkhiepjlfbjgdaaZNwK
namespace Go.Proofs.Ytkhiepjlfbjgdaa
open Go.RowKit

theorem send1_any (c : NCut) (t : Int) (x y : ByteArray) (p0 p1 p2 : Nat) (w : World) (h0 : w.cell? ⟨p0, 0, none⟩ = some (.int .i64 t)) (h1 : w.cell? ⟨p1, 0, none⟩ = some (.string x)) (h2 : w.cell? ⟨p2, 0, none⟩ = some (.string y)) (l0 : p0 < w.heap.size) (l1 : p1 < w.heap.size) (l2 : p2 < w.heap.size) :
    Calls Try.prog 34 #[.agg #[.string c.a, .string c.b, .int .i64 c.t0, .int .i64 c.t1], .pointer (some ⟨p0, 0, none⟩), .pointer (some ⟨p1, 0, none⟩), .pointer (some ⟨p2, 0, none⟩)] w fun e w' => e = .returned (.bool (covB c t x y)) ∧ Below w.heap.size w w' := by
  have hB : Below w.heap.size w (w.alloc (.cells #[.string c.a, .string c.b, .int .i64 c.t0, .int .i64 c.t1] 102)) := by go_grown
  have CC := Lib.hid (covers_any c t x y (w.alloc (.cells #[.string c.a, .string c.b, .int .i64 c.t0, .int .i64 c.t1] 102)))
  have g0 := (hB.cell (p := ⟨p0, 0, none⟩) l0).trans h0
  have g1 := (hB.cell (p := ⟨p1, 0, none⟩) l1).trans h1
  have g2 := (hB.cell (p := ⟨p2, 0, none⟩) l2).trans h2
  clear h0 h1 h2
  go_enter Try.func34, Try.ntmps34
  go_wp2_with fail
  refine CC.out.mono ?_
  rintro e w1 ⟨rfl, hb⟩
  have hB1 := hB.trans (hb.mono hB.size)
  go_wp2
  go_ret
  exact ⟨rfl, hB1⟩
/-- Does a cut lose the message? -/
def cutB (l : List NCut) (t : Int) (x y : ByteArray) : Bool := l.any fun c => covB c t x y
def dCut : NCut := ⟨ByteArray.empty, ByteArray.empty, 0, 0⟩
theorem cutB_false {l : List NCut} {t : Int} {x y : ByteArray} (h : ∀ i, i < l.length → covB (l.getD i dCut) t x y = false) : cutB l t x y = false := by
  unfold cutB
  rw [List.any_eq_false]
  intro c hc
  obtain ⟨i, hi, rfl⟩ := List.getElem_of_mem hc
  have := h i hi
  simp [List.getD, hi] at this
  rw [this]; simp
theorem cutB_true {l : List NCut} {t : Int} {x y : ByteArray} {i : Nat} (hi : i < l.length) (h : covB (l.getD i dCut) t x y = true) : cutB l t x y = true := by
  unfold cutB
  rw [List.any_eq_true]
  refine ⟨l[i], List.getElem_mem hi, ?_⟩
  simpa [List.getD, hi] using h
set_option maxRecDepth 100000 in
set_option maxHeartbeats 1600000 in
theorem index_cuts {l : List NCut} {v : Value} {t : Int} {x y : ByteArray} {p0 p1 p2 : Nat} {w : World} (ho : OL w 102 4 v l.length (cutCells l)) (h0 : w.cell? ⟨p0, 0, none⟩ = some (.int .i64 t)) (h1 : w.cell? ⟨p1, 0, none⟩ = some (.string x)) (h2 : w.cell? ⟨p2, 0, none⟩ = some (.string y)) (l0 : p0 < w.heap.size) (l1 : p1 < w.heap.size) (l2 : p2 < w.heap.size) :
    Calls Try.prog 46 #[v, .func (.func 34) #[] #[.pointer (some ⟨p0, 0, none⟩), .pointer (some ⟨p1, 0, none⟩), .pointer (some ⟨p2, 0, none⟩)]] w fun e w' => (∃ r : Int, e = .returned (.int .i64 r) ∧ decide (0 ≤ r) = cutB l t x y) ∧ Below w.heap.size w w' := by
  obtain ⟨ao, cap, hv, hao, hmax⟩ : ∃ ao cap, v = .slice ao l.length cap ∧ (0 < l.length → ∃ g off, ao = some ⟨g, off, none⟩) ∧ l.length ≤ 9223372036854775807 := by
    rcases ho.forms with ⟨e, e0⟩ | ⟨g, off, cap, e, hc1, hc2, _⟩
    · exact ⟨none, 0, by rw [e, e0], by omega, by omega⟩
    · exact ⟨_, cap, e, fun _ => ⟨g, off, rfl⟩, by unfold maxLen at hc2; omega⟩
  subst hv
  have CS := Lib.hid (fun (c : NCut) (w' : World) (hb : Below w.heap.size w w') => send1_any c t x y p0 p1 p2 w' ((hb.cell (p := ⟨p0, 0, none⟩) l0).trans h0) ((hb.cell (p := ⟨p1, 0, none⟩) l1).trans h1) ((hb.cell (p := ⟨p2, 0, none⟩) l2).trans h2) (Nat.lt_of_lt_of_le l0 hb.size) (Nat.lt_of_lt_of_le l1 hb.size) (Nat.lt_of_lt_of_le l2 hb.size))
  have HO := Lib.hid ho
  have HA := Lib.hid hao
  clear ho h0 h1 h2 l0 l1 l2 hao
  go_enter Try.func46, Try.ntmps46
  go_wp2_with fail
  go_loopw [8] (fun i wr => ∃ k : Nat, k ≤ l.length ∧ i = .int .i64 k ∧ (∀ i, i < k → covB (l.getD i dCut) t x y = false) ∧ Below w.heap.size w wr) (fun i _ => l.length - (intOf i).toNat)
  case atStart => exact ⟨0, Nat.zero_le _, rfl, by omega, Below.refl _ _⟩
  case round =>
    obtain ⟨k, hk, rfl, hF, hB⟩ := hrel
    have HF := Lib.hid hF
    clear hF
    by_cases hlt : k < l.length
    · obtain ⟨g, off, rfl⟩ := HA.out (by omega)
      have ho := HO.out.below hB (fun g hg => HO.out.lt g hg)
      obtain ⟨c0, c1, c2, c3⟩ := cutCells_get l k hlt
      have e : l[k] = l.getD k dCut := by simp [List.getD, hlt]
      rw [e] at c0 c1 c2 c3
      have a0 := (ho.cell (k * 4) (by omega)).trans c0
      have a1 := (ho.cell (k * 4 + 1) (by omega)).trans c1
      have a2 := (ho.cell (k * 4 + 2) (by omega)).trans c2
      have a3 := (ho.cell (k * 4 + 3) (by omega)).trans c3
      rw [← Nat.add_assoc] at a1 a2 a3
      have CK := Lib.hid (CS.out (l.getD k dCut) wr hB)
      have HT := Lib.hid (fun h => cutB_true (t := t) (x := x) (y := y) hlt h)
      have HN := Lib.hid (fun (h : covB (l.getD k dCut) t x y = false) (i : Nat) (hi : i < k + 1) => show covB (l.getD i dCut) t x y = false from by
        by_cases e : i = k
        · rw [e]; exact h
        · exact HF.out i (by omega))
      clear ho c0 c1 c2 c3 e
      generalize l.getD k dCut = c at a0 a1 a2 a3 CK HT HN
      cases hc : covB c t x y
      · rw [hc] at CK
        have HN2 := Lib.hid (HN.out hc)
        clear HT HN hc
        go_wp2_with fail
        refine CK.out.mono ?_
        rintro e w1 ⟨rfl, hb⟩
        have hB1 := hB.trans (hb.mono hB.size)
        clear a0 a1 a2 a3 CK hb hB
        go_wp2
        go_roundw
        case rel => exact ⟨k + 1, by omega, by go_num, HN2.out, hB1⟩
        case measure => simp [intOf]; omega
      · rw [hc] at CK
        have HT2 := Lib.hid (HT.out hc)
        clear HT HN hc
        go_wp2_with fail
        refine CK.out.mono ?_
        rintro e w1 ⟨rfl, hb⟩
        have hB1 := hB.trans (hb.mono hB.size)
        clear a0 a1 a2 a3 CK hb hB
        go_wp2
        go_ret
        exact ⟨⟨_, rfl, by rw [HT2.out]; simp⟩, hB1⟩
    · obtain rfl : k = l.length := by omega
      have HR := Lib.hid (cutB_false HF.out)
      go_wp2
      go_ret
      exact ⟨⟨_, rfl, by rw [HR.out]; rfl⟩, hB⟩
theorem contains_cuts {l : List NCut} {v : Value} {t : Int} {x y : ByteArray} {p0 p1 p2 : Nat} {w : World} (ho : OL w 102 4 v l.length (cutCells l)) (h0 : w.cell? ⟨p0, 0, none⟩ = some (.int .i64 t)) (h1 : w.cell? ⟨p1, 0, none⟩ = some (.string x)) (h2 : w.cell? ⟨p2, 0, none⟩ = some (.string y)) (l0 : p0 < w.heap.size) (l1 : p1 < w.heap.size) (l2 : p2 < w.heap.size) :
    Calls Try.prog 33 #[v, .func (.func 34) #[] #[.pointer (some ⟨p0, 0, none⟩), .pointer (some ⟨p1, 0, none⟩), .pointer (some ⟨p2, 0, none⟩)]] w fun e w' => e = .returned (.bool (cutB l t x y)) ∧ Below w.heap.size w w' := by
  have CI := Lib.hid (index_cuts ho h0 h1 h2 l0 l1 l2)
  clear ho h0 h1 h2 l0 l1 l2
  generalize cutB l t x y = r at CI ⊢
  go_enter Try.func33, Try.ntmps33
  go_wp2_with fail
  refine CI.out.mono ?_
  rintro e w1 ⟨⟨i, rfl, hi⟩, hb⟩
  go_wp2
  go_ret
  exact ⟨by rw [← hi]; rfl, hb⟩
end Go.Proofs.Ytkhiepjlfbjgdaa

/- The document's Page, with, programmed. Conditions: the data can be read; the lists are short. -/
import Derived.Test.YtbpjfhfibllhgaaDrA
namespace Go.Proofs.Ytbpjfhfibllhgaa
open Go.RowKit
open Go.Proofs.Ytbpjfhfibllhgaa.Dv

/-- Bytes that can be read. -/
structure RdB (w : World) (ao : Option Addr) (m b off : Nat) (l : List Int) : Prop where
  ll : l.length = m
  ao : 0 < m → ao = some ⟨b, off, none⟩
  lt : 0 < m → b < w.heap.size
  c : ∀ i, i < m → w.cell? ⟨b, off + i, none⟩ = some (.int .u8 (l.getD i 0))
def DPg (l : List Int) (w : World) (e : Ending) (w' : World) : Prop :=
  ∃ ao cap, e = .returned (.slice ao 512 cap) ∧ OL w' 5 1 (.slice ao 512 cap) 512 (bys l) ∧ (∀ g, (Value.slice ao 512 cap).ownBlock = some g → w.heap.size ≤ g) ∧ Below w.heap.size w w'
section
variable {K J : Nat → Prop} {w w' wx : World} {ao : Option Addr} {m b off cap : Nat} {l : List Int}
theorem RdB.bel (h : RdB w ao m b off l) (hb : Below w.heap.size w w') : RdB w' ao m b off l :=
  ⟨h.ll, h.ao, fun h0 => Nat.lt_of_lt_of_le (h.lt h0) hb.size, fun i hi => (hb.cell (p := ⟨b, off + i, none⟩) (h.lt (by omega))).trans (h.c i hi)⟩
theorem RdB.of_bytes {X : Nat → Int} (h : IsBytes w ao m b off X) : RdB w ao m b off (bl m X) :=
  ⟨bl_len m X, h.ao, h.lt, fun i hi => by rw [h.c i hi, bl_get, if_pos hi]⟩
theorem RdB.of_ol (h : OL w 5 1 (.slice ao l.length cap) l.length (bys l)) : ∃ b off, RdB w ao l.length b off l := by
  by_cases h0 : 0 < l.length
  · obtain ⟨g, off, c, e, _, _, hl⟩ := OL.form h h0
    simp only [Value.slice.injEq, true_and] at e
    obtain ⟨rfl, rfl⟩ := e
    exact ⟨g, off, rfl, fun _ => rfl, fun _ => hl, fun i hi => (OL.cell h i (by omega)).trans (bys_get l i hi)⟩
  · exact ⟨0, 0, rfl, fun h => absurd h h0, fun h => absurd h h0, fun i hi => absurd hi (by omega)⟩
theorem RdB.nil (w : World) : RdB w none 0 0 0 [] := ⟨rfl, fun h => by omega, fun h => by omega, fun i hi => by omega⟩
theorem infoU8 : (Try.prog.info? 5).map (fun i => (i.zero, i.size, i.bytes)) = some (some (.int .u8 0), 1, 1) := by kernel_rfl
theorem pageL_take_succ (l : List Int) (n : Int) {i : Nat} (hi : i < 512) : (pageL l n).take (i + 1) = (pageL l n).take i ++ [if i < l.length ∧ (i : Int) < n then l.getD i 0 else 255] := by
  rw [List.take_succ_eq_append_getElem (by rw [pageL_len]; exact hi)]
  simp [pageL]
theorem bys_append (a b : List Int) : bys (a ++ b) = bys a ++ bys b := by simp [bys]
theorem bys_one (l : List Int) : ∀ u ∈ bys l, u.oneCell' = true := fun u hu => by
  obtain ⟨x, _, rfl⟩ := List.mem_map.1 hu
  rfl
/-- One byte more. -/
theorem pg_more {v : Value} {i : Nat} (n x : Int) (h : OL w 5 1 v i (bys ((pageL l n).take i))) (hi : i < 512) (hx : (if i < l.length ∧ (i : Int) < n then l.getD i 0 else 255) = x) {B : Nat} (hv : ∀ g, v.ownBlock = some g → B ≤ g) (hB : B ≤ w.heap.size) :
    ∃ ao cap w', (Builtin.append_ #[22, 22] 22 #[v, .slice (some ⟨w.heap.size, 0, none⟩) 1 1]).run Try.prog (w.alloc (.cells #[.int .u8 x] 5)) = .ok (.slice ao (i + 1) cap) w' ∧
      OL w' 5 1 (.slice ao (i + 1) cap) (i + 1) (bys ((pageL l n).take (i + 1))) ∧ (∀ g, (Value.slice ao (i + 1) cap).ownBlock = some g → B ≤ g) ∧ Below B w w' := by
  have hb1 := (Below.refl w.heap.size w).alloc (Nat.le_refl _) (.cells #[.int .u8 x] 5)
  obtain ⟨ao, cap, w', hap, ho, hg, how⟩ := ol_more 22 _ _ Try.underlying22 infoU8 rfl (by omega) (h.bel hb1) (heap_alloc_new w (.cells #[.int .u8 x] 5)) rfl (by simp [Value.oneCell']) (by omega) (by omega)
  refine ⟨ao, cap, w', hap, ?_, grown_own hv (Nat.le_trans hB hb1.size) how, ?_⟩
  · rw [pageL_take_succ l n hi, bys_append, hx]
    exact ho
  · exact (hb1.mono hB).grown hg (Nat.le_trans hB hb1.size) hv
set_option maxRecDepth 100000 in
set_option maxHeartbeats 1600000 in
theorem dpage_any (h : RdB w ao m b off l) (hm : m ≤ 9223372036854775807) (n : Int) : Calls Try.prog 43 #[.slice ao m cap, .int .i64 n] w (DPg (pageL l n) w) := by
  have H := Lib.hid h
  have HLL := Lib.hid h.ll
  have hb0 := (Below.refl w.heap.size w).alloc (Nat.le_refl _) (.cells #[] 5)
  have HS : Hid (OL (w.alloc (.cells #[] 5)) 5 1 (.slice (some ⟨w.heap.size, 0, none⟩) 0 0) 0 (bys ((pageL l n).take 0)) ∧ Below w.heap.size w (w.alloc (.cells #[] 5))) := Lib.hid ⟨OL.of_block (cs := []) (heap_alloc_new w _) (by simp) (by simp [maxLen]), hb0⟩
  have HZ := Lib.hid (Nat.le_refl w.heap.size)
  clear h hb0
  go_enter Try.func43, Try.ntmps43
  go_wp2_with fail
  go_loopw [5, 6] (fun ov iv wr => ∃ i : Nat, i ≤ 512 ∧ iv = .int .i64 i ∧ OL wr 5 1 ov i (bys ((pageL l n).take i)) ∧ (∀ g, ov.ownBlock = some g → w.heap.size ≤ g) ∧ Below w.heap.size w wr) (fun _ iv _ => 512 - (intOf iv).toNat)
  case atStart => exact ⟨0, by omega, rfl, HS.out.1, fun g hg => by simp [Value.ownBlock] at hg; omega, HS.out.2⟩
  case round =>
    clear HS
    obtain ⟨i, hi, rfl, ho, hown, hB⟩ := hrel
    by_cases hlt : i < 512
    · obtain ⟨oa, oc, rfl, _⟩ := OL.shape ho
      by_cases hc : i < m ∧ (i : Int) < n
      · obtain ⟨h1, h2⟩ := hc
        obtain rfl := H.out.ao (by omega)
        have c0 := (H.out.bel hB).c i h1
        obtain ⟨ao', cap', w', hap, ho', hown', hB'⟩ := pg_more n (l.getD i 0) ho hlt (by rw [if_pos ⟨by rw [HLL.out]; exact h1, h2⟩]) hown hB.size
        have HAP := Lib.hid hap
        have HO := Lib.hid (And.intro ho' (And.intro hown' (hB.trans hB')))
        have d1 : decide ((i : Int) < (m : Int)) = true := decide_eq_true (by omega)
        have d2 : decide ((i : Int) < n) = true := decide_eq_true h2
        clear ho hown hap ho' hown' hB' hB
        generalize l.getD i 0 = x at *
        go_wp2_with (refine wpList_append_run (v := .slice oa i oc) (xv := .slice (some ⟨wr.heap.size, 0, none⟩) 1 1) rfl (.tmp 26) (.tmp 28) _ _ rfl (by rfl) (by rfl) HAP.out ?_)
        go_roundw
        case rel => exact ⟨i + 1, by omega, by go_num, HO.out.1, HO.out.2.1, HO.out.2.2⟩
        case measure => simp [intOf]; omega
      · obtain ⟨ao', cap', w', hap, ho', hown', hB'⟩ := pg_more n 255 ho hlt (by rw [if_neg (by rw [HLL.out]; exact hc)]) hown hB.size
        have HAP := Lib.hid hap
        have HO := Lib.hid (And.intro ho' (And.intro hown' (hB.trans hB')))
        clear ho hown hap ho' hown' hB' hB
        by_cases h1 : i < m
        · have d1 : decide ((i : Int) < (m : Int)) = true := decide_eq_true (by omega)
          have d2 : decide ((i : Int) < n) = false := decide_eq_false (fun h => hc ⟨h1, h⟩)
          clear hc
          go_wp2_with (refine wpList_append_run (v := .slice oa i oc) (xv := .slice (some ⟨wr.heap.size, 0, none⟩) 1 1) rfl (.tmp 26) (.tmp 28) _ _ rfl (by rfl) (by rfl) HAP.out ?_)
          go_roundw
          case rel => exact ⟨i + 1, by omega, by go_num, HO.out.1, HO.out.2.1, HO.out.2.2⟩
          case measure => simp [intOf]; omega
        · have d1 : decide ((i : Int) < (m : Int)) = false := decide_eq_false (by omega)
          clear hc
          go_wp2_with (refine wpList_append_run (v := .slice oa i oc) (xv := .slice (some ⟨wr.heap.size, 0, none⟩) 1 1) rfl (.tmp 26) (.tmp 28) _ _ rfl (by rfl) (by rfl) HAP.out ?_)
          go_roundw
          case rel => exact ⟨i + 1, by omega, by go_num, HO.out.1, HO.out.2.1, HO.out.2.2⟩
          case measure => simp [intOf]; omega
    · obtain rfl : i = 512 := by omega
      obtain ⟨oa, oc, rfl, _⟩ := OL.shape ho
      have e : (pageL l n).take 512 = pageL l n := List.take_of_length_le (by rw [pageL_len]; omega)
      rw [e] at ho
      have HR : Hid (DPg (pageL l n) w (.returned (.slice oa 512 oc)) wr) := Lib.hid ⟨oa, oc, rfl, ho, hown, hB⟩
      clear ho hown hB e
      go_wp2
      go_ret
      exact HR.out
end
end Go.Proofs.Ytbpjfhfibllhgaa

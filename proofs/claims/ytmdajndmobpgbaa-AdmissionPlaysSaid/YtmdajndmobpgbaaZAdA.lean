/- admission: slices.Clone, slices.Index, slices.Contains, slices.Delete of integers; slices.Clone, slices.Delete, slices.IndexFunc of requests; slices.Clone of shares. Conditions: each contract names its own. -/
import Derived.Test.YtmdajndmobpgbaaZHeld
import Derived.Test.YtmdajndmobpgbaaZAdBk
namespace Go.Proofs.Ytmdajndmobpgbaa
open Go.RowKit
open Go.Proofs.Ytmdajndmobpgbaa.Fq

def IsI (w : World) (v : Value) (l : List Int) : Prop := OL w 3 1 v l.length (ints l)
theorem ints_oneA (l : List Int) : ∀ u ∈ ints l, u.oneCell' = true := by
  intro u hu
  obtain ⟨x, _, rfl⟩ := List.mem_map.1 hu
  rfl
section
variable {w w' : World} {v : Value} {l : List Int}
theorem IsI.form (h : IsI w v l) : ∃ ao cap, v = .slice ao l.length cap ∧ (0 < l.length → ∃ g off, ao = some ⟨g, off, none⟩) ∧ l.length ≤ cap ∧ cap ≤ 9223372036854775807 := by
  rcases OL.forms h with ⟨e, e0⟩ | ⟨g, off, cp, e, h1, h2, _⟩
  · exact ⟨none, 0, by rw [e, e0], fun h => by omega, by omega, by omega⟩
  · exact ⟨_, cp, e, fun _ => ⟨g, off, rfl⟩, h1, h2⟩
theorem IsI.belowS (h : IsI w v l) (hb : Below w.heap.size w w') : IsI w' v l := OL.below h hb fun g hg => OL.lt h g hg
theorem IsI.at_ {g off n cp : Nat} (h : IsI w (.slice (some ⟨g, off, none⟩) n cp) l) (hn : n = l.length) {q : Nat} (hq : q < n) : w.cell? ⟨g, off + q, none⟩ = some (.int .i64 (l.getD q 0)) := by
  subst hn
  exact (OL.cell h q (by omega)).trans (ints_get l q hq)
/-- A new list that a call gives. -/
def NewI (l : List Int) (w : World) (e : Ending) (w' : World) : Prop :=
  ∃ v, e = .returned v ∧ IsI w' v l ∧ (∀ k, v.ownBlock = some k → w.heap.size ≤ k) ∧ Below w.heap.size w w'
theorem infoI : (Try.prog.info? 3).map (fun i => (i.zero, i.size, i.bytes)) = some (some (.int .i64 0), 1, 8) := by kernel_rfl
set_option maxRecDepth 100000 in
theorem ai_clone (h : IsI w v l) (hn : l.length ≤ 1000000) : Calls Try.prog 46 #[v] w (NewI l w) := by
  obtain ⟨ao, c, rfl, hao, _⟩ := h.form
  cases ao with
  | none =>
    have h0 : l.length = 0 := by
      rcases Nat.eq_zero_or_pos l.length with h | h
      · exact h
      · obtain ⟨g, off, e⟩ := hao h; cases e
    obtain rfl : l = [] := List.eq_nil_of_length_eq_zero h0
    have hq : ∀ wx, (binOp BinOp.eql 37 (Value.slice none 0 c) (Value.slice none 0 0)).run Try.prog wx = .ok (.bool true) wx := fun wx => Lib.run_eql_slice_nil wx 37 3 none 0 c 0 0 Try.underlying37
    clear h hao h0
    show Calls Try.prog 46 #[.slice none 0 c] w (NewI [] w)
    go_enter Try.func46, Try.ntmps46
    go_wp2
    go_ret
    exact ⟨_, rfl, OL.nil _ _ _, fun k hk => by simp [Value.ownBlock] at hk, Below.refl _ _⟩
  | some a =>
    obtain ⟨g', off', cap', w', hap, ho, hg, hB⟩ := fresh_append (P := Try.prog) 37 _ _ Try.underlying37 infoI rfl (by omega) (OL.src (OL.alloc h (.cells #[] 3)) Try.underlying37 (ints_oneA l)) (by unfold maxLen; omega) (by omega)
    have hq : ∀ wx, (binOp BinOp.eql 37 (Value.slice (some a) l.length c) (Value.slice none 0 0)).run Try.prog wx = .ok (.bool false) wx := fun wx => Lib.run_eql_slice_nil wx 37 3 (some a) l.length c 0 0 Try.underlying37
    have HP : Hid (NewI l w (.returned (.slice (some ⟨g', off', none⟩) l.length cap')) w') := Lib.hid ⟨_, rfl, ho, fun k hk => by simp [Value.ownBlock] at hk; omega, hB⟩
    have HAP := Lib.hid hap
    clear ho hg hB h hap hn hao
    go_enter Try.func46, Try.ntmps46
    go_wp2_with (refine wpList_append_run (v := .slice (some ⟨w.heap.size, 0, none⟩) 0 0) (xv := .slice (some a) l.length c) rfl (.tmp 5) (.tmp 6) _ _ rfl (by rfl) (by rfl) HAP.out ?_)
    go_ret
    exact HP.out
/-- The place of a number that is there. -/
theorem ai_index (h : IsI w v l) {n : Int} {i : Nat} (hi : i < l.length) (hv : l.getD i 0 = n) (hb : ∀ j, j < i → l.getD j 0 ≠ n) (hl : l.length ≤ 1000000) : Calls Try.prog 37 #[v, .int .i64 n] w fun e w' => e = .returned (.int .i64 i) ∧ w' = w := by
  obtain ⟨ao, c, rfl, hao, _⟩ := h.form
  obtain ⟨g, off, rfl⟩ := hao (by omega)
  have HC := Lib.hid (fun q (hq : q < l.length) => h.at_ rfl hq)
  have HV := Lib.hid (And.intro hv hb)
  clear h hao hv hb
  generalize l.length = m at *
  go_enter Try.func37, Try.ntmps37
  go_wp2
  go_loopw [8] (fun iv wr => ∃ k : Nat, k ≤ i ∧ iv = .int .i64 k ∧ wr = w) (fun iv _ => m - (intOf iv).toNat)
  case atStart => exact ⟨0, Nat.zero_le _, rfl, rfl⟩
  case round =>
    obtain ⟨k, hk, rfl, rfl⟩ := hrel
    have hkm : k < m := by omega
    have a0 := HC.out k hkm
    by_cases hki : k = i
    · subst hki
      have hv := HV.out.1
      rw [hv] at a0
      clear hv
      have d1 : (n == n) = true := by simp
      go_wp2
      go_ret
      exact ⟨rfl, rfl⟩
    · have hv := HV.out.2 k (by omega)
      generalize l.getD k 0 = x at *
      have d1 : (n == x) = false := by simp; exact fun e => hv e.symm
      clear hv
      go_wp2
      go_roundw
      case rel => exact ⟨k + 1, by omega, by go_num, by first | rfl | trivial⟩
      case measure => simp [intOf]; omega
end
theorem zeroI (w : World) : (zeroValue 3).run Try.prog w = .ok (.int .i64 0) w := by kernel_rfl
def zI : List Value := [.int .i64 0]
theorem zIC : (Builtin.zeroCells (Value.int .i64 0).cells 1).toList = zI := by
  have hc : (Value.int .i64 0).cells = #[.int .i64 0] := rfl
  rw [hc]
  simp [Builtin.zeroCells, zI]
def AiDel (g off cap n i : Nat) (xs : List Value) (w : World) (e : Ending) (w' : World) : Prop :=
  e = .returned (.slice (some ⟨g, off, none⟩) (n - 1) cap) ∧ OL w' 3 1 (.slice (some ⟨g, off, none⟩) (n - 1) cap) (n - 1) (xs.take (i * 1) ++ xs.drop ((i + 1) * 1)) ∧ w.grownBy w' (some g)
set_option maxRecDepth 100000 in
set_option maxHeartbeats 1000000 in
theorem ai_delete {g off cap n i : Nat} {xs : List Value} (w : World) (h : OL w 3 1 (.slice (some ⟨g, off, none⟩) n cap) n xs) (hone : ∀ u ∈ xs, u.oneCell' = true) (hi : i < n) (j : Int) (hij : j = i + 1) :
    Calls Try.prog 38 #[.slice (some ⟨g, off, none⟩) n cap, .int .i64 i, .int .i64 j] w (AiDel g off cap n i xs w) := by
  obtain ⟨A, W1, W2, hR⟩ := h.del (P := Try.prog) (t := 37) hi hone _ zI 8 Try.underlying37 infoI zIC rfl (by simp [zI]; decide) zeroI
  obtain ⟨j, rfl⟩ : ∃ k : Nat, j = (k : Int) := ⟨i + 1, by omega⟩
  obtain ⟨hA, hap, hcl, hol, hgr, hnc, hcm⟩ := hR
  unfold AiDel
  have HP := Lib.hid (And.intro hol hgr)
  have hij2 : i + 1 = j := by omega
  clear hij
  rw [hij2] at hA hap
  have HAP := Lib.hid hap
  clear hol hgr hap h hone
  obtain ⟨m, rfl⟩ : ∃ m, n = m + 1 := ⟨n - 1, by omega⟩
  rw [Nat.add_sub_cancel] at *
  simp only [Nat.mul_one] at hcl hA
  have hcm' : ¬ cap = m := by omega
  unfold maxLen at hcm
  have hle : i ≤ m := by omega
  have hic : i ≤ cap := by omega
  have hjc : j ≤ cap := by omega
  have hjm : j ≤ m + 1 := by omega
  have hjn : ¬ i = j := by omega
  have hij' : i ≤ j := by omega
  clear hij2
  have hjI : (j : Int) ≤ (m : Int) + 1 := by omega
  by_cases hc : cap = j
  · rw [if_pos hc] at hA
    obtain rfl := Option.some.inj hA
    clear hA
    subst hc
    have h0 : m + 1 - cap = 0 := by omega
    rw [Nat.sub_self, h0] at HAP
    clear h0 hjc
    go_enter Try.func38, Try.ntmps38
    go_wp2_with fail
    go_region_law (refine step_append_run (v := .slice (some ⟨g, off, none⟩) i cap) (xv := .slice (some ⟨g, off, none⟩) 0 0) rfl (.tmp 22) (.tmp 25) 37 37 rfl (by simp [Act.eval, Act.put]) (by simp [Act.eval, Act.put]) HAP.out ?_)
    go_wp2
    go_ret
    exact ⟨rfl, HP.out⟩
  · rw [if_neg hc] at hA
    obtain rfl := Option.some.inj hA
    clear hA
    go_enter Try.func38, Try.ntmps38
    go_wp2_with fail
    go_region_law (refine step_append_run (v := .slice (some ⟨g, off, none⟩) i cap) (xv := .slice (some ⟨g, off + j, none⟩) (m + 1 - j) (cap - j)) rfl (.tmp 22) (.tmp 25) 37 37 rfl (by simp [Act.eval, Act.put]) (by simp [Act.eval, Act.put]) HAP.out ?_)
    go_wp2
    go_ret
    exact ⟨rfl, HP.out⟩

/-- The first place of a number, or -1. -/
theorem ai_index_none {w : World} {v : Value} {l : List Int} (h : IsI w v l) {n : Int} (hb : ∀ j, j < l.length → l.getD j 0 ≠ n) (hl : l.length ≤ 1000000) : Calls Try.prog 37 #[v, .int .i64 n] w fun e w' => e = .returned (.int .i64 (-1)) ∧ w' = w := by
  obtain ⟨ao, c, rfl, hao, _⟩ := h.form
  have HC := Lib.hid (fun g off (e : ao = some ⟨g, off, none⟩) q (hq : q < l.length) => IsI.at_ (by rw [← e]; exact h) rfl hq)
  have HV := Lib.hid hb
  have HA := Lib.hid hao
  clear h hao hb
  generalize l.length = m at *
  go_enter Try.func37, Try.ntmps37
  go_wp2
  go_loopw [8] (fun iv wr => ∃ k : Nat, k ≤ m ∧ iv = .int .i64 k ∧ wr = w) (fun iv _ => m - (intOf iv).toNat)
  case atStart => exact ⟨0, Nat.zero_le _, rfl, rfl⟩
  case round =>
    obtain ⟨k, hk, rfl, rfl⟩ := hrel
    by_cases hkm : k < m
    · obtain ⟨g, off, rfl⟩ := HA.out (by omega)
      have a0 := HC.out g off rfl k hkm
      have hv := HV.out k hkm
      generalize l.getD k 0 = x at *
      have d1 : (n == x) = false := by simp; exact fun e => hv e.symm
      clear hv
      go_wp2
      go_roundw
      case rel => exact ⟨k + 1, by omega, by go_num, by first | rfl | trivial⟩
      case measure => simp [intOf]; omega
    · obtain rfl : k = m := by omega
      go_wp2
      go_ret
      exact ⟨rfl, rfl⟩
theorem mem_at {l : List Int} {n : Int} (h : n ∈ l) : ∃ i, i < l.length ∧ l.getD i 0 = n ∧ ∀ j, j < i → l.getD j 0 ≠ n := by
  refine ⟨l.idxOf n, List.idxOf_lt_length_of_mem h, ?_, fun j hj => ?_⟩
  · rw [List.getD_eq_getElem?_getD, List.getElem?_eq_getElem (List.idxOf_lt_length_of_mem h)]
    exact List.getElem_idxOf _
  · have := List.not_of_lt_findIdx (p := (· == n)) (xs := l) hj
    have hl := Nat.lt_trans hj (List.idxOf_lt_length_of_mem h)
    rw [List.getD_eq_getElem?_getD, List.getElem?_eq_getElem hl]
    simpa using this
theorem nmem_at {l : List Int} {n : Int} (h : n ∉ l) : ∀ j, j < l.length → l.getD j 0 ≠ n := fun j hj e => h (by
  rw [← e, List.getD_eq_getElem?_getD, List.getElem?_eq_getElem hj]
  exact List.getElem_mem hj)
theorem ai_contains {w : World} {v : Value} {l : List Int} (h : IsI w v l) (n : Int) (hl : l.length ≤ 1000000) : Calls Try.prog 35 #[v, .int .i64 n] w fun e w' => e = .returned (.bool (decide (n ∈ l))) ∧ w' = w := by
  by_cases hm : n ∈ l
  · obtain ⟨i, hi, hv, hb⟩ := mem_at hm
    have CI := Lib.hid (ai_index h hi hv hb hl)
    have HM := Lib.hid (decide_eq_true hm)
    obtain ⟨ao, c, rfl, _⟩ := h.form
    clear h hm hv hb
    go_enter Try.func35, Try.ntmps35
    go_wp2_with fail
    refine CI.out.mono ?_
    rintro e w1 ⟨rfl, hw1⟩
    obtain rfl : w = w1 := hw1.symm
    go_wp2
    go_ret
    rw [HM.out]
    exact ⟨rfl, rfl⟩
  · have CI := Lib.hid (ai_index_none h (nmem_at hm) hl)
    have HM := Lib.hid (decide_eq_false hm)
    obtain ⟨ao, c, rfl, _⟩ := h.form
    clear h hm
    go_enter Try.func35, Try.ntmps35
    go_wp2_with fail
    refine CI.out.mono ?_
    rintro e w1 ⟨rfl, hw1⟩
    obtain rfl : w = w1 := hw1.symm
    go_wp2
    go_ret
    rw [HM.out]
    exact ⟨rfl, rfl⟩
/-- A list of requests. -/
def IsQ (w : World) (v : Value) (l : List Ent) : Prop := OL w 100 2 v l.length (entCells l)
theorem infoR : (Try.prog.info? 100).map (fun i => (i.zero, i.size, i.bytes)) = some (some (.agg #[.int .i64 0, .int .i64 0]), 2, 16) := by kernel_rfl
def zR : List Value := [.int .i64 0, .int .i64 0]
theorem zRC : (Builtin.zeroCells (Value.agg #[.int .i64 0, .int .i64 0]).cells 1).toList = zR := by
  have hc : (Value.agg #[.int .i64 0, .int .i64 0]).cells = #[.int .i64 0, .int .i64 0] := rfl
  rw [hc]
  simp [Builtin.zeroCells, zR]
  rfl
theorem zeroR (w : World) : (zeroValue 100).run Try.prog w = .ok (.agg #[.int .i64 0, .int .i64 0]) w := by kernel_rfl
section
variable {w w' : World} {v : Value} {l : List Ent}
theorem IsQ.form (h : IsQ w v l) : ∃ ao cap, v = .slice ao l.length cap ∧ (0 < l.length → ∃ g off, ao = some ⟨g, off, none⟩) ∧ l.length ≤ cap ∧ cap ≤ 9223372036854775807 := by
  rcases OL.forms h with ⟨e, e0⟩ | ⟨g, off, cp, e, h1, h2, _⟩
  · exact ⟨none, 0, by rw [e, e0], fun h => by omega, by omega, by omega⟩
  · exact ⟨_, cp, e, fun _ => ⟨g, off, rfl⟩, h1, h2⟩
theorem IsQ.belowS (h : IsQ w v l) (hb : Below w.heap.size w w') : IsQ w' v l := OL.below h hb fun g hg => OL.lt h g hg
theorem IsQ.at_ {g off n cp : Nat} (h : IsQ w (.slice (some ⟨g, off, none⟩) n cp) l) {q : Nat} (hq : q < l.length) (hn : n = l.length) : w.cell? ⟨g, off + q * 2, none⟩ = some (.int .i64 l[q].1) ∧ w.cell? ⟨g, off + q * 2 + 1, none⟩ = some (.int .i64 l[q].2) := by
  subst hn
  have hc := entCells_get l q hq
  exact ⟨(OL.cell h (q * 2) (by omega)).trans hc.1, (OL.cell h (q * 2 + 1) (by omega)).trans hc.2⟩
def NewQ (l : List Ent) (w : World) (e : Ending) (w' : World) : Prop :=
  ∃ v, e = .returned v ∧ IsQ w' v l ∧ (∀ k, v.ownBlock = some k → w.heap.size ≤ k) ∧ Below w.heap.size w w'
set_option maxRecDepth 100000 in
theorem aq_clone (h : IsQ w v l) (hn : l.length ≤ 1000000) : Calls Try.prog 40 #[v] w (NewQ l w) := by
  obtain ⟨ao, c, rfl, hao, _⟩ := h.form
  cases ao with
  | none =>
    have h0 : l.length = 0 := by
      rcases Nat.eq_zero_or_pos l.length with h | h
      · exact h
      · obtain ⟨g, off, e⟩ := hao h; cases e
    obtain rfl : l = [] := List.eq_nil_of_length_eq_zero h0
    have hq : ∀ wx, (binOp BinOp.eql 98 (Value.slice none 0 c) (Value.slice none 0 0)).run Try.prog wx = .ok (.bool true) wx := fun wx => Lib.run_eql_slice_nil wx 98 100 none 0 c 0 0 Try.underlying98
    clear h hao h0
    show Calls Try.prog 40 #[.slice none 0 c] w (NewQ [] w)
    go_enter Try.func40, Try.ntmps40
    go_wp2
    go_ret
    exact ⟨_, rfl, OL.nil _ _ _, fun k hk => by simp [Value.ownBlock] at hk, Below.refl _ _⟩
  | some a =>
    obtain ⟨g', off', cap', w', hap, ho, hg, hB⟩ := fresh_append (P := Try.prog) 98 _ _ Try.underlying98 infoR rfl (by omega) (OL.src (OL.alloc h (.cells #[] 100)) Try.underlying98 (entCells_one l)) (by unfold maxLen; omega) (by omega)
    have hq : ∀ wx, (binOp BinOp.eql 98 (Value.slice (some a) l.length c) (Value.slice none 0 0)).run Try.prog wx = .ok (.bool false) wx := fun wx => Lib.run_eql_slice_nil wx 98 100 (some a) l.length c 0 0 Try.underlying98
    have HP : Hid (NewQ l w (.returned (.slice (some ⟨g', off', none⟩) l.length cap')) w') := Lib.hid ⟨_, rfl, ho, fun k hk => by simp [Value.ownBlock] at hk; omega, hB⟩
    have HAP := Lib.hid hap
    clear ho hg hB h hap hn hao
    go_enter Try.func40, Try.ntmps40
    go_wp2_with (refine wpList_append_run (v := .slice (some ⟨w.heap.size, 0, none⟩) 0 0) (xv := .slice (some a) l.length c) rfl (.tmp 5) (.tmp 6) _ _ rfl (by rfl) (by rfl) HAP.out ?_)
    go_ret
    exact HP.out
end
def AqDel (g off cap n i : Nat) (xs : List Value) (w : World) (e : Ending) (w' : World) : Prop :=
  e = .returned (.slice (some ⟨g, off, none⟩) (n - 1) cap) ∧ OL w' 100 2 (.slice (some ⟨g, off, none⟩) (n - 1) cap) (n - 1) (xs.take (i * 2) ++ xs.drop ((i + 1) * 2)) ∧ w.grownBy w' (some g)
set_option maxRecDepth 100000 in
set_option maxHeartbeats 1000000 in
theorem aq_delete {g off cap n i : Nat} {xs : List Value} (w : World) (h : OL w 100 2 (.slice (some ⟨g, off, none⟩) n cap) n xs) (hone : ∀ u ∈ xs, u.oneCell' = true) (hi : i < n) (j : Int) (hij : j = i + 1) :
    Calls Try.prog 39 #[.slice (some ⟨g, off, none⟩) n cap, .int .i64 i, .int .i64 j] w (AqDel g off cap n i xs w) := by
  obtain ⟨A, W1, W2, hR⟩ := h.del (P := Try.prog) (t := 98) hi hone _ zR 16 Try.underlying98 infoR zRC rfl (by simp [zR]; decide) zeroR
  obtain ⟨j, rfl⟩ : ∃ k : Nat, j = (k : Int) := ⟨i + 1, by omega⟩
  obtain ⟨hA, hap, hcl, hol, hgr, hnc, hcm⟩ := hR
  unfold AqDel
  have HP := Lib.hid (And.intro hol hgr)
  have hij2 : i + 1 = j := by omega
  clear hij
  rw [hij2] at hA hap
  have HAP := Lib.hid hap
  clear hol hgr hap h hone
  obtain ⟨m, rfl⟩ : ∃ m, n = m + 1 := ⟨n - 1, by omega⟩
  rw [Nat.add_sub_cancel] at *
  have hcm' : ¬ cap = m := by omega
  unfold maxLen at hcm
  have hle : i ≤ m := by omega
  have hic : i ≤ cap := by omega
  have hjc : j ≤ cap := by omega
  have hjm : j ≤ m + 1 := by omega
  have hjn : ¬ i = j := by omega
  have hij' : i ≤ j := by omega
  clear hij2
  have hjI : (j : Int) ≤ (m : Int) + 1 := by omega
  by_cases hc : cap = j
  · rw [if_pos hc] at hA
    obtain rfl := Option.some.inj hA
    clear hA
    subst hc
    have h0 : m + 1 - cap = 0 := by omega
    rw [Nat.sub_self, h0] at HAP
    clear h0 hjc
    go_enter Try.func39, Try.ntmps39
    go_wp2_with fail
    go_region_law (refine step_append_run (v := .slice (some ⟨g, off, none⟩) i cap) (xv := .slice (some ⟨g, off, none⟩) 0 0) rfl (.tmp 22) (.tmp 25) 98 98 rfl (by simp [Act.eval, Act.put]) (by simp [Act.eval, Act.put]) HAP.out ?_)
    go_wp2
    go_ret
    exact ⟨rfl, HP.out⟩
  · rw [if_neg hc] at hA
    obtain rfl := Option.some.inj hA
    clear hA
    go_enter Try.func39, Try.ntmps39
    go_wp2_with fail
    go_region_law (refine step_append_run (v := .slice (some ⟨g, off, none⟩) i cap) (xv := .slice (some ⟨g, off + j * 2, none⟩) (m + 1 - j) (cap - j)) rfl (.tmp 22) (.tmp 25) 98 98 rfl (by simp [Act.eval, Act.put]) (by simp [Act.eval, Act.put]) HAP.out ?_)
    go_wp2
    go_ret
    exact ⟨rfl, HP.out⟩

set_option maxHeartbeats 400000 in
theorem aq_eqid (a z id : Int) (bx : Nat) (w : World) (hx : w.cell? ⟨bx, 0, none⟩ = some (.int .i64 id)) :
    Calls Try.prog 62 #[.agg #[.int .i64 a, .int .i64 z], .pointer (some ⟨bx, 0, none⟩)] w fun e w' => e = .returned (.bool (decide (a = id))) ∧ Below w.heap.size w w' := by
  have hlt := World.block_lt_of_cell? w _ hx
  have hx' : ∀ o, (w.alloc o).cell? ⟨bx, 0, none⟩ = some (.int .i64 id) := fun o => (World.cell?_of_block (w := w) (a := ⟨bx, 0, none⟩) (Below.heap_alloc w o bx hlt)).trans hx
  by_cases h : a = id
  · have H := Lib.hid (show decide (a = id) = true from decide_eq_true h)
    have hb : (a == id) = true := by simpa using h
    clear h
    go_enter Try.func62, Try.ntmps62
    go_wp2
    go_ret
    rw [H.out]
    exact ⟨rfl, by go_grown⟩
  · have H := Lib.hid (show decide (a = id) = false from decide_eq_false h)
    have hb : (a == id) = false := by simpa using h
    clear h
    go_enter Try.func62, Try.ntmps62
    go_wp2
    go_ret
    rw [H.out]
    exact ⟨rfl, by go_grown⟩

set_option maxHeartbeats 800000 in
theorem aq_index (v : Value) (l : List Ent) (id : Int) (bx : Nat) (w : World) (h : OL w 100 2 v l.length (entCells l)) (hl : l.length ≤ 1000000) (hx : w.cell? ⟨bx, 0, none⟩ = some (.int .i64 id)) :
    Calls Try.prog 61 #[v, .func (.func 62) #[] #[.pointer (some ⟨bx, 0, none⟩)]] w (IxEPost l id w) := by
  have hbx := World.block_lt_of_cell? w _ hx
  rcases h.forms with ⟨rfl, h0⟩ | ⟨g, off, cap, rfl, _, _, hg⟩
  · have hl0 : l = [] := List.eq_nil_of_length_eq_zero h0
    subst hl0
    go_enter Try.func61, Try.ntmps61
    go_wp2_with fail
    refine wp_loop_rounds 1 ?_
    rw [rounds_succ]
    go_wp2
    go_ret
    exact ⟨_, rfl, .inl ⟨rfl, by simp⟩, Below.refl _ _⟩
  · go_enter Try.func61, Try.ntmps61
    have H := Lib.hid h
    clear h
    go_wp2_with fail
    go_loopw [8] (fun i wr => ∃ (k : Nat), k ≤ l.length ∧ i = .int .i64 k ∧ (∀ j, j < k → ∀ e', l[j]? = some e' → e'.1 ≠ id) ∧ Below w.heap.size w wr) (fun i _ => l.length - (intOf i).toNat)
    case atStart => exact ⟨0, Nat.zero_le _, rfl, by omega, Below.refl _ _⟩
    case round =>
      obtain ⟨k, hk, rfl, hno, hB⟩ := hrel
      have HN := Lib.hid hno
      clear hno
      by_cases hlt : k < l.length
      · have hc := entCells_get l k hlt
        have hc0 := (hB.cell (p := ⟨g, off + k * 2, none⟩) hg).trans ((H.out.cell (k * 2) (by omega)).trans hc.1)
        have hc1 := (hB.cell (p := ⟨g, off + k * 2 + 1, none⟩) hg).trans ((H.out.cell (k * 2 + 1) (by omega)).trans hc.2)
        have hxr := (hB.cell (p := ⟨bx, 0, none⟩) hbx).trans hx
        have HL := Lib.hid (show l[k]? = some l[k] from List.getElem?_eq_getElem hlt)
        have CE := Lib.hid (fun w hx => aq_eqid l[k].1 l[k].2 id bx w hx)
        clear hc
        generalize l[k] = en at hc0 hc1 HL CE
        by_cases he : en.1 = id
        · have ce := CE.out wr hxr
          rw [decide_eq_true he] at ce
          have CE2 := Lib.hid ce
          have HE := Lib.hid he
          clear ce he CE
          go_wp2_with fail
          refine CE2.out.mono ?_
          rintro e w' ⟨rfl, hb'⟩
          go_wp2
          go_ret
          exact ⟨_, rfl, .inr ⟨k, en, rfl, HL.out, HE.out, HN.out⟩, hB.trans (hb'.mono hB.size)⟩
        · have ce := CE.out wr hxr
          rw [decide_eq_false he] at ce
          have CE2 := Lib.hid ce
          have HE := Lib.hid he
          clear ce he CE
          go_wp2_with fail
          refine CE2.out.mono ?_
          rintro e w' ⟨rfl, hb'⟩
          go_wp2
          go_roundw
          case rel => exact ⟨k + 1, by omega, by go_num, fun j hj e' he' => by
            by_cases hjk : j = k
            · rw [hjk, HL.out] at he'
              have : en = e' := by simpa using he'
              rw [← this]; exact HE.out
            · exact HN.out j (by omega) e' he', hB.trans (hb'.mono hB.size)⟩
          case measure => simp [intOf]; omega
      · obtain rfl : k = l.length := by omega
        go_wp2
        go_ret
        refine ⟨_, rfl, .inl ⟨rfl, fun e he => ?_⟩, hB⟩
        obtain ⟨j, hj, rfl⟩ := List.getElem_of_mem he
        exact HN.out j hj _ (List.getElem?_eq_getElem hj)

/-- A share: burst, tokens, ticks, quantum. -/
structure Shr where
  b : Int
  t : Int
  k : Int
  q : Int
def shCells : List Shr → List Value
  | [] => []
  | s :: r => .int .i64 s.b :: .int .i64 s.t :: .int .i64 s.k :: .int .i64 s.q :: shCells r
theorem shCells_len : ∀ l : List Shr, (shCells l).length = l.length * 4
  | [] => rfl
  | s :: r => by simp [shCells, shCells_len r]; omega
theorem shCells_get : ∀ (l : List Shr) (i : Nat) (h : i < l.length), (shCells l)[i * 4]? = some (.int .i64 l[i].b) ∧ (shCells l)[i * 4 + 1]? = some (.int .i64 l[i].t) ∧ (shCells l)[i * 4 + 2]? = some (.int .i64 l[i].k) ∧ (shCells l)[i * 4 + 3]? = some (.int .i64 l[i].q)
  | s :: r, 0, _ => by simp [shCells]
  | s :: r, i + 1, h => by
    have := shCells_get r i (by simpa using h)
    simp only [shCells, Nat.add_mul, List.getElem?_cons_succ, List.getElem_cons_succ]
    exact ⟨by simpa using this.1, by simpa using this.2.1, by simpa using this.2.2.1, by simpa using this.2.2.2⟩
theorem shCells_one (l : List Shr) : ∀ u ∈ shCells l, u.oneCell' = true := by
  induction l with
  | nil => simp [shCells]
  | cons x r ih => simp only [shCells, List.mem_cons]; rintro u (rfl | rfl | rfl | rfl | h); rfl; rfl; rfl; rfl; exact ih u h
def IsS (w : World) (v : Value) (l : List Shr) : Prop := OL w 29 4 v l.length (shCells l)
theorem infoS : (Try.prog.info? 29).map (fun i => (i.zero, i.size, i.bytes)) = some (some (.agg #[.int .i64 0, .int .i64 0, .int .i64 0, .int .i64 0]), 4, 32) := by kernel_rfl
section
variable {w w' : World} {v : Value} {l : List Shr}
theorem IsS.form (h : IsS w v l) : ∃ ao cap, v = .slice ao l.length cap ∧ (0 < l.length → ∃ g off, ao = some ⟨g, off, none⟩) ∧ l.length ≤ cap ∧ cap ≤ 9223372036854775807 := by
  rcases OL.forms h with ⟨e, e0⟩ | ⟨g, off, cp, e, h1, h2, _⟩
  · exact ⟨none, 0, by rw [e, e0], fun h => by omega, by omega, by omega⟩
  · exact ⟨_, cp, e, fun _ => ⟨g, off, rfl⟩, h1, h2⟩
theorem IsS.belowS (h : IsS w v l) (hb : Below w.heap.size w w') : IsS w' v l := OL.below h hb fun g hg => OL.lt h g hg
theorem IsS.at_ {g off n cp : Nat} (h : IsS w (.slice (some ⟨g, off, none⟩) n cp) l) {q : Nat} (hq : q < l.length) (hn : n = l.length) : w.cell? ⟨g, off + q * 4, none⟩ = some (.int .i64 l[q].b) ∧ w.cell? ⟨g, off + q * 4 + 1, none⟩ = some (.int .i64 l[q].t) ∧ w.cell? ⟨g, off + q * 4 + 2, none⟩ = some (.int .i64 l[q].k) ∧ w.cell? ⟨g, off + q * 4 + 3, none⟩ = some (.int .i64 l[q].q) := by
  subst hn
  have hc := shCells_get l q hq
  exact ⟨(OL.cell h (q * 4) (by omega)).trans hc.1, (OL.cell h (q * 4 + 1) (by omega)).trans hc.2.1, (OL.cell h (q * 4 + 2) (by omega)).trans hc.2.2.1, (OL.cell h (q * 4 + 3) (by omega)).trans hc.2.2.2⟩
def NewS (l : List Shr) (w : World) (e : Ending) (w' : World) : Prop :=
  ∃ v, e = .returned v ∧ IsS w' v l ∧ (∀ k, v.ownBlock = some k → w.heap.size ≤ k) ∧ Below w.heap.size w w'
set_option maxRecDepth 100000 in
theorem as_clone (h : IsS w v l) (hn : l.length ≤ 1000000) : Calls Try.prog 31 #[v] w (NewS l w) := by
  obtain ⟨ao, c, rfl, hao, _⟩ := h.form
  cases ao with
  | none =>
    have h0 : l.length = 0 := by
      rcases Nat.eq_zero_or_pos l.length with h | h
      · exact h
      · obtain ⟨g, off, e⟩ := hao h; cases e
    obtain rfl : l = [] := List.eq_nil_of_length_eq_zero h0
    have hq : ∀ wx, (binOp BinOp.eql 30 (Value.slice none 0 c) (Value.slice none 0 0)).run Try.prog wx = .ok (.bool true) wx := fun wx => Lib.run_eql_slice_nil wx 30 29 none 0 c 0 0 Try.underlying30
    clear h hao h0
    show Calls Try.prog 31 #[.slice none 0 c] w (NewS [] w)
    go_enter Try.func31, Try.ntmps31
    go_wp2
    go_ret
    exact ⟨_, rfl, OL.nil _ _ _, fun k hk => by simp [Value.ownBlock] at hk, Below.refl _ _⟩
  | some a =>
    obtain ⟨g', off', cap', w', hap, ho, hg, hB⟩ := fresh_append (P := Try.prog) 30 _ _ Try.underlying30 infoS rfl (by omega) (OL.src (OL.alloc h (.cells #[] 29)) Try.underlying30 (shCells_one l)) (by unfold maxLen; omega) (by omega)
    have hq : ∀ wx, (binOp BinOp.eql 30 (Value.slice (some a) l.length c) (Value.slice none 0 0)).run Try.prog wx = .ok (.bool false) wx := fun wx => Lib.run_eql_slice_nil wx 30 29 (some a) l.length c 0 0 Try.underlying30
    have HP : Hid (NewS l w (.returned (.slice (some ⟨g', off', none⟩) l.length cap')) w') := Lib.hid ⟨_, rfl, ho, fun k hk => by simp [Value.ownBlock] at hk; omega, hB⟩
    have HAP := Lib.hid hap
    clear ho hg hB h hap hn hao
    go_enter Try.func31, Try.ntmps31
    go_wp2_with (refine wpList_append_run (v := .slice (some ⟨w.heap.size, 0, none⟩) 0 0) (xv := .slice (some a) l.length c) rfl (.tmp 5) (.tmp 6) _ _ rfl (by rfl) (by rfl) HAP.out ?_)
    go_ret
    exact HP.out
end
end Go.Proofs.Ytmdajndmobpgbaa

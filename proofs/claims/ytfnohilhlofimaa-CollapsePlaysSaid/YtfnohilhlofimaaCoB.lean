/- collapse: slices.Clone, slices.Index, slices.Delete of integers. Conditions: each contract names its own. -/
import Derived.Test.YtfnohilhlofimaaCoA
namespace Go.Proofs.Ytfnohilhlofimaa
open Go.RowKit

def IsI (w : World) (v : Value) (l : List Int) : Prop := OL w 3 1 v l.length (ints l)
theorem ints_one (l : List Int) : ∀ u ∈ ints l, u.oneCell' = true := by
  intro u hu
  obtain ⟨x, _, rfl⟩ := List.mem_map.1 hu
  rfl
section
variable {w w' : World} {v : Value} {l : List Int}
theorem IsI.form (h : IsI w v l) : ∃ ao cap, v = .slice ao l.length cap ∧ (0 < l.length → ∃ g off, ao = some ⟨g, off, none⟩) ∧ l.length ≤ cap ∧ cap ≤ 9223372036854775807 := by
  rcases OL.forms h with ⟨e, e0⟩ | ⟨g, off, cp, e, h1, h2, _⟩
  · exact ⟨none, 0, by rw [e, e0], fun h => by omega, by omega, by omega⟩
  · exact ⟨_, cp, e, fun _ => ⟨g, off, rfl⟩, h1, h2⟩
theorem IsI.belowS (h : IsI w v l) (hb : Below w.heap.size w w') : IsI w' v l := OL.below h hb fun g hg => OL.lt h g hg
theorem IsI.at_ {g off n cp : Nat} (h : IsI w (.slice (some ⟨g, off, none⟩) n cp) l) (hn : n = l.length) {q : Nat} (hq : q < n) : w.cell? ⟨g, off + q, none⟩ = some (.int .i64 (l.getD q 0)) := by
  subst hn
  exact (OL.cell h q (by omega)).trans (ints_get l q hq)
/-- A new list that a call gives. -/
def NewI (l : List Int) (w : World) (e : Ending) (w' : World) : Prop :=
  ∃ v, e = .returned v ∧ IsI w' v l ∧ (∀ k, v.ownBlock = some k → w.heap.size ≤ k) ∧ Below w.heap.size w w'
theorem infoI : (Try.prog.info? 3).map (fun i => (i.zero, i.size, i.bytes)) = some (some (.int .i64 0), 1, 8) := by kernel_rfl
set_option maxRecDepth 100000 in
theorem clone_any (h : IsI w v l) (hn : l.length ≤ 1000000) : Calls Try.prog 34 #[v] w (NewI l w) := by
  obtain ⟨ao, c, rfl, hao, _⟩ := h.form
  cases ao with
  | none =>
    have h0 : l.length = 0 := by
      rcases Nat.eq_zero_or_pos l.length with h | h
      · exact h
      · obtain ⟨g, off, e⟩ := hao h; cases e
    obtain rfl : l = [] := List.eq_nil_of_length_eq_zero h0
    have hq : ∀ wx, (binOp BinOp.eql 38 (Value.slice none 0 c) (Value.slice none 0 0)).run Try.prog wx = .ok (.bool true) wx := fun wx => Lib.run_eql_slice_nil wx 38 3 none 0 c 0 0 Try.underlying38
    clear h hao h0
    show Calls Try.prog 34 #[.slice none 0 c] w (NewI [] w)
    go_enter Try.func34, Try.ntmps34
    go_wp2
    go_ret
    exact ⟨_, rfl, OL.nil _ _ _, fun k hk => by simp [Value.ownBlock] at hk, Below.refl _ _⟩
  | some a =>
    obtain ⟨g', off', cap', w', hap, ho, hg, hB⟩ := fresh_append (P := Try.prog) 38 _ _ Try.underlying38 infoI rfl (by omega) (OL.src (OL.alloc h (.cells #[] 3)) Try.underlying38 (ints_one l)) (by unfold maxLen; omega) (by omega)
    have hq : ∀ wx, (binOp BinOp.eql 38 (Value.slice (some a) l.length c) (Value.slice none 0 0)).run Try.prog wx = .ok (.bool false) wx := fun wx => Lib.run_eql_slice_nil wx 38 3 (some a) l.length c 0 0 Try.underlying38
    have HP : Hid (NewI l w (.returned (.slice (some ⟨g', off', none⟩) l.length cap')) w') := Lib.hid ⟨_, rfl, ho, fun k hk => by simp [Value.ownBlock] at hk; omega, hB⟩
    have HAP := Lib.hid hap
    clear ho hg hB h hap hn hao
    go_enter Try.func34, Try.ntmps34
    go_wp2_with (refine wpList_append_run (v := .slice (some ⟨w.heap.size, 0, none⟩) 0 0) (xv := .slice (some a) l.length c) rfl (.tmp 5) (.tmp 6) _ _ rfl (by rfl) (by rfl) HAP.out ?_)
    go_ret
    exact HP.out
/-- The place of a number that is there. -/
theorem index_any (h : IsI w v l) {n : Int} {i : Nat} (hi : i < l.length) (hv : l.getD i 0 = n) (hb : ∀ j, j < i → l.getD j 0 ≠ n) (hl : l.length ≤ 1000000) : Calls Try.prog 37 #[v, .int .i64 n] w fun e w' => e = .returned (.int .i64 i) ∧ w' = w := by
  obtain ⟨ao, c, rfl, hao, _⟩ := h.form
  obtain ⟨g, off, rfl⟩ := hao (by omega)
  have HC := Lib.hid (fun q (hq : q < l.length) => h.at_ rfl hq)
  have HV := Lib.hid (And.intro hv hb)
  clear h hao hv hb
  generalize l.length = m at *
  go_enter Try.func37, Try.ntmps37
  go_wp2
  go_loopw [8] (fun iv wr => ∃ k : Nat, k ≤ i ∧ iv = .int .i64 k ∧ wr = w) (fun iv _ => m - (intOf iv).toNat)
  case atStart => exact ⟨0, Nat.zero_le _, rfl, rfl⟩
  case round =>
    obtain ⟨k, hk, rfl, rfl⟩ := hrel
    have hkm : k < m := by omega
    have a0 := HC.out k hkm
    by_cases hki : k = i
    · subst hki
      have hv := HV.out.1
      rw [hv] at a0
      clear hv
      have d1 : (n == n) = true := by simp
      go_wp2
      go_ret
      exact ⟨rfl, rfl⟩
    · have hv := HV.out.2 k (by omega)
      generalize l.getD k 0 = x at *
      have d1 : (n == x) = false := by simp; exact fun e => hv e.symm
      clear hv
      go_wp2
      go_roundw
      case rel => exact ⟨k + 1, by omega, by go_num, by first | rfl | trivial⟩
      case measure => simp [intOf]; omega
end
def zI : List Value := [.int .i64 0]
theorem zIC : (Builtin.zeroCells (Value.int .i64 0).cells 1).toList = zI := by
  have hc : (Value.int .i64 0).cells = #[.int .i64 0] := rfl
  rw [hc]
  simp [Builtin.zeroCells, zI]
def DelPost (g off cap n i : Nat) (xs : List Value) (w : World) (e : Ending) (w' : World) : Prop :=
  e = .returned (.slice (some ⟨g, off, none⟩) (n - 1) cap) ∧ OL w' 3 1 (.slice (some ⟨g, off, none⟩) (n - 1) cap) (n - 1) (xs.take (i * 1) ++ xs.drop ((i + 1) * 1)) ∧ w.grownBy w' (some g)
set_option maxRecDepth 100000 in
set_option maxHeartbeats 1000000 in
theorem delete_any {g off cap n i : Nat} {xs : List Value} (w : World) (h : OL w 3 1 (.slice (some ⟨g, off, none⟩) n cap) n xs) (hone : ∀ u ∈ xs, u.oneCell' = true) (hi : i < n) (j : Int) (hij : j = i + 1) :
    Calls Try.prog 38 #[.slice (some ⟨g, off, none⟩) n cap, .int .i64 i, .int .i64 j] w (DelPost g off cap n i xs w) := by
  obtain ⟨A, W1, W2, hR⟩ := h.del (P := Try.prog) (t := 38) hi hone _ zI 8 Try.underlying38 infoI zIC rfl (by simp [zI]; decide) zeroI
  obtain ⟨j, rfl⟩ : ∃ k : Nat, j = (k : Int) := ⟨i + 1, by omega⟩
  obtain ⟨hA, hap, hcl, hol, hgr, hnc, hcm⟩ := hR
  unfold DelPost
  have HP := Lib.hid (And.intro hol hgr)
  have hij2 : i + 1 = j := by omega
  clear hij
  rw [hij2] at hA hap
  have HAP := Lib.hid hap
  clear hol hgr hap h hone
  obtain ⟨m, rfl⟩ : ∃ m, n = m + 1 := ⟨n - 1, by omega⟩
  rw [Nat.add_sub_cancel] at *
  simp only [Nat.mul_one] at hcl hA
  have hcm' : ¬ cap = m := by omega
  unfold maxLen at hcm
  have hle : i ≤ m := by omega
  have hic : i ≤ cap := by omega
  have hjc : j ≤ cap := by omega
  have hjm : j ≤ m + 1 := by omega
  have hjn : ¬ i = j := by omega
  have hij' : i ≤ j := by omega
  clear hij2
  have hjI : (j : Int) ≤ (m : Int) + 1 := by omega
  by_cases hc : cap = j
  · rw [if_pos hc] at hA
    obtain rfl := Option.some.inj hA
    clear hA
    subst hc
    have h0 : m + 1 - cap = 0 := by omega
    rw [Nat.sub_self, h0] at HAP
    clear h0 hjc
    go_enter Try.func38, Try.ntmps38
    go_wp2_with fail
    go_region_law (refine step_append_run (v := .slice (some ⟨g, off, none⟩) i cap) (xv := .slice (some ⟨g, off, none⟩) 0 0) rfl (.tmp 22) (.tmp 25) 38 38 rfl (by simp [Act.eval, Act.put]) (by simp [Act.eval, Act.put]) HAP.out ?_)
    go_wp2
    go_ret
    exact ⟨rfl, HP.out⟩
  · rw [if_neg hc] at hA
    obtain rfl := Option.some.inj hA
    clear hA
    go_enter Try.func38, Try.ntmps38
    go_wp2_with fail
    go_region_law (refine step_append_run (v := .slice (some ⟨g, off, none⟩) i cap) (xv := .slice (some ⟨g, off + j, none⟩) (m + 1 - j) (cap - j)) rfl (.tmp 22) (.tmp 25) 38 38 rfl (by simp [Act.eval, Act.put]) (by simp [Act.eval, Act.put]) HAP.out ?_)
    go_wp2
    go_ret
    exact ⟨rfl, HP.out⟩
end Go.Proofs.Ytfnohilhlofimaa

/- network: slices.Delete of a delivery; Receive. Conditions: there is a delivery. -/
import Derived.Test.YtkhiepjlfbjgdaaNwR
import Derived.Test.YtkhiepjlfbjgdaaDel
namespace Go.Proofs.Ytkhiepjlfbjgdaa
open Go.RowKit

def zArr : List Value := [.int .i64 0, .string ByteArray.empty, .string ByteArray.empty, .slice none 0 0, .int .i64 0, .int .i64 0]
theorem zArrC : (Builtin.zeroCells (Value.agg #[.int .i64 0, .string ByteArray.empty, .string ByteArray.empty, .slice none 0 0, .int .i64 0, .int .i64 0]).cells 1).toList = zArr := by
  have hc : (Value.agg #[.int .i64 0, .string ByteArray.empty, .string ByteArray.empty, .slice none 0 0, .int .i64 0, .int .i64 0]).cells = #[.int .i64 0, .string ByteArray.empty, .string ByteArray.empty, .slice none 0 0, .int .i64 0, .int .i64 0] := rfl
  rw [hc]
  simp [Builtin.zeroCells, zArr]
  rfl
theorem zArrV (w : World) : (zeroValue 98).run Try.prog w = .ok (.agg #[.int .i64 0, .string ByteArray.empty, .string ByteArray.empty, .slice none 0 0, .int .i64 0, .int .i64 0]) w := by kernel_rfl
def DelPost (g off cap n i : Nat) (xs : List Value) (w : World) (e : Ending) (w' : World) : Prop :=
  e = .returned (.slice (some ⟨g, off, none⟩) (n - 1) cap) ∧ OL w' 98 6 (.slice (some ⟨g, off, none⟩) (n - 1) cap) (n - 1) (xs.take (i * 6) ++ xs.drop ((i + 1) * 6)) ∧ w.grownBy w' (some g)
set_option maxRecDepth 100000 in
set_option maxHeartbeats 1000000 in
theorem delete_any {g off cap n i : Nat} {xs : List Value} (w : World) (h : OL w 98 6 (.slice (some ⟨g, off, none⟩) n cap) n xs) (hone : ∀ u ∈ xs, u.oneCell' = true) (hi : i < n) (j : Int) (hij : j = i + 1) :
    Calls Try.prog 32 #[.slice (some ⟨g, off, none⟩) n cap, .int .i64 i, .int .i64 j] w (DelPost g off cap n i xs w) := by
  obtain ⟨A, W1, W2, hR⟩ := h.del (P := Try.prog) (t := 84) hi hone _ zArr 80 Try.underlying84 infoArr zArrC rfl (by simp [zArr]; decide) zArrV
  obtain ⟨j, rfl⟩ : ∃ k : Nat, j = (k : Int) := ⟨i + 1, by omega⟩
  obtain ⟨hA, hap, hcl, hol, hgr, hnc, hcm⟩ := hR
  unfold DelPost
  have HP := Lib.hid (And.intro hol hgr)
  have hij2 : i + 1 = j := by omega
  clear hij
  rw [hij2] at hA hap
  have HAP := Lib.hid hap
  clear hol hgr hap h hone
  obtain ⟨m, rfl⟩ : ∃ m, n = m + 1 := ⟨n - 1, by omega⟩
  rw [Nat.add_sub_cancel] at *
  have hcm' : ¬ cap = m := by omega
  unfold maxLen at hcm
  have hle : i ≤ m := by omega
  have hic : i ≤ cap := by omega
  have hjc : j ≤ cap := by omega
  have hjm : j ≤ m + 1 := by omega
  have hjn : ¬ i = j := by omega
  have hij' : i ≤ j := by omega
  clear hij2
  have hjI : (j : Int) ≤ (m : Int) + 1 := by omega
  by_cases hc : cap = j
  · rw [if_pos hc] at hA
    obtain rfl := Option.some.inj hA
    clear hA
    subst hc
    have h0 : m + 1 - cap = 0 := by omega
    rw [Nat.sub_self, h0] at HAP
    clear h0 hjc
    go_enter Try.func32, Try.ntmps32
    go_wp2_with fail
    go_region_law (refine step_append_run (v := .slice (some ⟨g, off, none⟩) i cap) (xv := .slice (some ⟨g, off, none⟩) 0 0) rfl (.tmp 22) (.tmp 25) 84 84 rfl (by simp [Act.eval, Act.put]) (by simp [Act.eval, Act.put]) HAP.out ?_)
    go_wp2
    go_ret
    exact ⟨rfl, HP.out⟩
  · rw [if_neg hc] at hA
    obtain rfl := Option.some.inj hA
    clear hA
    go_enter Try.func32, Try.ntmps32
    go_wp2_with fail
    go_region_law (refine step_append_run (v := .slice (some ⟨g, off, none⟩) i cap) (xv := .slice (some ⟨g, off + j * 6, none⟩) (m + 1 - j) (cap - j)) rfl (.tmp 22) (.tmp 25) 84 84 rfl (by simp [Act.eval, Act.put]) (by simp [Act.eval, Act.put]) HAP.out ?_)
    go_wp2
    go_ret
    exact ⟨rfl, HP.out⟩
end Go.Proofs.Ytkhiepjlfbjgdaa

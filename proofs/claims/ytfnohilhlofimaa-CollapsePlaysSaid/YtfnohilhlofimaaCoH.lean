/- collapse: what holds of a table between calls; the calls as the statements see them. Conditions: each contract names its own. -/
import Derived.Test.YtfnohilhlofimaaCoD
import Derived.Test.YtfnohilhlofimaaCoE
import Derived.Test.YtfnohilhlofimaaCoF
import Derived.Test.YtfnohilhlofimaaCoG
import Derived.Test.YtfnohilhlofimaaCoK
namespace Go.Proofs.Ytfnohilhlofimaa
open Go.RowKit

/-- The keys that the statements use, ascending. -/
def cU : List ByteArray := [⟨#[]⟩, ⟨#[97]⟩, ⟨#[97, 47, 98]⟩, ⟨#[97, 110, 111, 116, 104, 101, 114, 32, 107, 101, 121]⟩, ⟨#[98]⟩, ⟨#[99]⟩, ⟨#[99, 114, 111, 119, 100]⟩, ⟨#[107]⟩]
theorem cU_asc : Asc cU := by unfold Asc cU bysS; decide
theorem cU_size {k : ByteArray} (h : k ∈ cU) : k.size ≤ maxLen := by
  have : ∀ k ∈ cU, k.size ≤ 11 := by decide
  have := this k h
  unfold maxLen; omega
structure TbOk (N : Nat) (s : Tb) : Prop where
  iL : ∀ n k, s.I n = some k ↔ n ∈ s.L k
  nd : ∀ k, (s.L k).Nodup
  bd : ∀ k n, n ∈ s.L k → -9223372036854775808 ≤ n ∧ n ≤ 9223372036854775807
  un : ∀ k, s.L k ≠ [] → k ∈ cU
  ln : ∀ k, (s.L k).length ≤ N
noncomputable def RemS (s : Tb) (n : Int) : Tb := match s.I n with
  | none => s
  | some k => { s with I := upd s.I n none, L := upd s.L k ((s.L k).erase n) }
noncomputable def DoneT (s : Tb) (k : ByteArray) : Tb := if s.L k = [] then s else DoneS s k
noncomputable def MarkS (s : Tb) (k : ByteArray) (n : Int) : Tb := { s with M := upd s.M k (some n) }
section
variable {N : Nat} {s : Tb} {k k' : ByteArray} {n now : Int}
theorem TbOk.mono {M : Nat} (h : TbOk N s) (hM : N ≤ M) : TbOk M s := ⟨h.iL, h.nd, h.bd, h.un, fun k => Nat.le_trans (h.ln k) hM⟩
theorem TbOk.one (h : TbOk N s) (h1 : n ∈ s.L k) (h2 : n ∈ s.L k') : k = k' := by
  have e1 := (h.iL n k).2 h1
  have e2 := (h.iL n k').2 h2
  rw [e1] at e2
  exact Option.some.inj e2
theorem tb0_ok : TbOk 0 tb0 := ⟨fun n k => ⟨fun h => (by cases h), fun h => (by cases h)⟩, fun _ => List.nodup_nil, fun _ _ h => (by cases h), fun _ h => absurd rfl h, fun _ => Nat.le_refl _⟩
theorem TbOk.mark (h : TbOk N s) : TbOk N (MarkS s k n) := ⟨h.iL, h.nd, h.bd, h.un, h.ln⟩
theorem TbOk.ask (h : TbOk N s) (hk : k ∈ cU) (hn : -9223372036854775808 ≤ n ∧ n ≤ 9223372036854775807) : TbOk (N + 1) (AskS s k n now) := by
  unfold AskS
  split
  · exact h.mono (Nat.le_succ _)
  · rename_i hc
    have hI : s.I n = none := by
      cases e : s.I n with
      | none => rfl
      | some x => exact absurd (.inl (by rw [e]; rfl)) hc
    have hno : ∀ x, n ∉ s.L x := fun x hx => by have := (h.iL n x).2 hx; rw [hI] at this; cases this
    refine ⟨fun m x => ?_, fun x => ?_, fun x m hm => ?_, fun x hx => ?_, fun x => ?_⟩
    · show upd s.I n (some k) m = some x ↔ m ∈ upd s.L k (s.L k ++ [n]) x
      by_cases em : m = n
      · subst em
        rw [upd_same]
        by_cases ex : x = k
        · subst ex; rw [upd_same]; simp
        · rw [upd_other ex]
          exact ⟨fun e => absurd (Option.some.inj e).symm ex, fun e => absurd e (hno x)⟩
      · rw [upd_other em, h.iL]
        by_cases ex : x = k
        · subst ex; rw [upd_same]; simp [em]
        · rw [upd_other ex]
    · show (upd s.L k (s.L k ++ [n]) x).Nodup
      by_cases ex : x = k
      · subst ex
        rw [upd_same, List.nodup_append]
        exact ⟨h.nd x, by simp, fun a ha b hb e => by rw [List.mem_singleton] at hb; subst hb; subst e; exact hno x ha⟩
      · rw [upd_other ex]; exact h.nd x
    · have hm : m ∈ upd s.L k (s.L k ++ [n]) x := hm
      by_cases ex : x = k
      · subst ex
        rw [upd_same, List.mem_append, List.mem_singleton] at hm
        rcases hm with hm | rfl
        · exact h.bd x m hm
        · exact hn
      · rw [upd_other ex] at hm; exact h.bd x m hm
    · have hx : upd s.L k (s.L k ++ [n]) x ≠ [] := hx
      by_cases ex : x = k
      · subst ex; exact hk
      · rw [upd_other ex] at hx; exact h.un x hx
    · show (upd s.L k (s.L k ++ [n]) x).length ≤ N + 1
      have := h.ln x
      by_cases ex : x = k
      · subst ex; rw [upd_same]; simp; exact this
      · rw [upd_other ex]; omega
theorem TbOk.rem (h : TbOk N s) : TbOk N (RemS s n) := by
  unfold RemS
  split
  · exact h
  · rename_i k hk
    have hm := (h.iL n k).1 hk
    refine ⟨fun m x => ?_, fun x => ?_, fun x m hm => ?_, fun x hx => ?_, fun x => ?_⟩
    · show upd s.I n none m = some x ↔ m ∈ upd s.L k ((s.L k).erase n) x
      by_cases em : m = n
      · subst em
        rw [upd_same]
        by_cases ex : x = k
        · subst ex
          rw [upd_same, (h.nd x).mem_erase_iff]
          simp
        · rw [upd_other ex]
          exact ⟨fun e => (by cases e), fun e => absurd (h.one e hm) ex⟩
      · rw [upd_other em, h.iL]
        by_cases ex : x = k
        · subst ex; rw [upd_same, List.mem_erase_of_ne em]
        · rw [upd_other ex]
    · show (upd s.L k ((s.L k).erase n) x).Nodup
      by_cases ex : x = k
      · subst ex; rw [upd_same]; exact (h.nd x).erase n
      · rw [upd_other ex]; exact h.nd x
    · have hm : m ∈ upd s.L k ((s.L k).erase n) x := hm
      by_cases ex : x = k
      · subst ex; rw [upd_same] at hm; exact h.bd x m (List.mem_of_mem_erase hm)
      · rw [upd_other ex] at hm; exact h.bd x m hm
    · have hx : upd s.L k ((s.L k).erase n) x ≠ [] := hx
      by_cases ex : x = k
      · subst ex; exact h.un x (List.ne_nil_of_mem hm)
      · rw [upd_other ex] at hx; exact h.un x hx
    · show (upd s.L k ((s.L k).erase n) x).length ≤ N
      have := h.ln x
      by_cases ex : x = k
      · subst ex; rw [upd_same]; exact Nat.le_trans (List.length_erase_le) this
      · rw [upd_other ex]; exact this
theorem TbOk.done (h : TbOk N s) : TbOk N (DoneT s k) := by
  unfold DoneT
  split
  · exact h
  · refine ⟨fun m x => ?_, fun x => ?_, fun x m hm => ?_, fun x hx => ?_, fun x => ?_⟩
    · show delAll s.I (s.L k) m = some x ↔ m ∈ upd s.L k [] x
      by_cases em : m ∈ s.L k
      · rw [delAll_in (.inl em)]
        by_cases ex : x = k
        · subst ex; rw [upd_same]; simp
        · rw [upd_other ex]
          exact ⟨fun e => (by cases e), fun e => absurd (h.one e em) ex⟩
      · rw [delAll_out em, h.iL]
        by_cases ex : x = k
        · subst ex; rw [upd_same]; simp [em]
        · rw [upd_other ex]
    · show (upd s.L k [] x).Nodup
      by_cases ex : x = k
      · subst ex; rw [upd_same]; exact List.nodup_nil
      · rw [upd_other ex]; exact h.nd x
    · have hm : m ∈ upd s.L k [] x := hm
      by_cases ex : x = k
      · subst ex; rw [upd_same] at hm; cases hm
      · rw [upd_other ex] at hm; exact h.bd x m hm
    · exact h.un x (upd_nil hx).2
    · show (upd s.L k [] x).length ≤ N
      have := h.ln x
      by_cases ex : x = k
      · subst ex; rw [upd_same]; exact Nat.zero_le _
      · rw [upd_other ex]; exact this
theorem TbOk.fail_eq (h : TbOk N s) {x : Int} {r : List Int} (hl : s.L k = x :: r) : FailS s k = RemS s x := by
  have hI := (h.iL x k).2 (by rw [hl]; exact List.mem_cons_self ..)
  unfold FailS RemS
  rw [hl, hI]
  simp
  rw [hl]; simp
theorem TbOk.fail (h : TbOk N s) : TbOk N (FailS s k) := by
  cases hl : s.L k with
  | nil => unfold FailS; rw [hl]; exact h
  | cons x r => rw [h.fail_eq hl]; exact h.rem
end
end Go.Proofs.Ytfnohilhlofimaa

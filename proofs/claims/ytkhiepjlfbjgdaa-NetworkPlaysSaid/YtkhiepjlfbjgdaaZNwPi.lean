/- network: the calls in all their errors; the statements' acts, fits, send. Conditions: each contract names its own. -/
import Derived.Test.YtkhiepjlfbjgdaaZNwPh
namespace Go.Proofs.Ytkhiepjlfbjgdaa
open Go.RowKit

section
variable {w0 w w1 w' : World} {K J : Nat → Prop} {b c c' : Nat} {s s' : Net} {q q' : DNv} {D D' : DN}
theorem cn_refused {v : Value} {e : Ending} (h : CN w0 K b c s w) (he : e = .returned v) (hb : Below w.heap.size w w') : CNP w0 K b c s v w e w' := ⟨he, h.bel hb, h.same hb⟩
theorem cn_delayE (h : CN w0 K b c s w) {x y : ByteArray} (hx : x.size ≤ maxLen) (hy : y.size ≤ maxLen) {d : Int} (hd : -9223372036854775808 ≤ d ∧ d ≤ 9223372036854775807) :
    Calls Try.prog 19 #[.pointer (some ⟨b, 0, none⟩), .string x, .string y, .int .i64 d] w (CNP w0 K b c (if badD d = true then s else s.delay x y d) (errV (if badD d = true then 1 else 0)) w) := by
  by_cases hb : badD d = true
  · rw [if_pos hb, if_pos hb]
    exact (delay_bad w b x y d hd hb).mono fun _ _ he => cn_refused h he.1 he.2
  · rw [if_neg hb, if_neg hb]
    exact cn_delay h hx hy (by simpa using hb)
theorem cn_cutE (h : CN w0 K b c s w) (x y : ByteArray) (i j : Int) (hn : s.cuts.length ≤ 1000) :
    Calls Try.prog 21 #[.pointer (some ⟨b, 0, none⟩), .string x, .string y, .int .i64 i, .int .i64 j] w (CNP w0 K b c (if j < i then s else s.cut x y i j) (errV (if j < i then 7 else 0)) w) := by
  by_cases hij : j < i
  · rw [if_pos hij, if_pos hij]
    exact (cut_order b x y i j w hij).mono fun _ _ he => ⟨he.1, by rw [he.2]; exact h, by rw [he.2]; exact Same.refl _ _⟩
  · rw [if_neg hij, if_neg hij]
    exact (cut_ok h.t x y i j (by omega) hn).mono fun _ _ he => h.up (fun _ hk => hk) he ⟨h.g.u, h.g.p0, h.g.p1, h.g.l, h.g.m0, h.g.m1, h.g.o0, h.g.o1, h.g.a⟩
theorem cn_sendE {ao : Option Addr} {n cp bk off : Nat} {X : Nat → Int} (h : CN w0 K b c s w) (hc : c ≤ 1000) {x y : ByteArray} (hx : x.size ≤ maxLen) (hy : y.size ≤ maxLen) (t : Int)
    (hX : IsBytes w ao n bk off X) (hXP : 0 < n → K bk ∨ bk < w0.heap.size) (hn : n ≤ 100000) :
    Calls Try.prog 17 #[.pointer (some ⟨b, 0, none⟩), .int .i64 t, .string x, .string y, .slice ao n cp] w (CNP w0 K b (c + 1) (sendS s t x y (lst n X)) (errV (sendE s t)) w) :=
  (n_send h.t.bound h.g hc (fun _ hk => hk.2) hx hy t hX (fun h0 hk => by
    rcases hXP h0 with h1 | h1
    · exact hk.1.2 h1
    · have := hk.1.1; omega) hn).mono fun _ _ he => h.up (fun _ hk => hk.1) he (by
      unfold sendS
      by_cases e : sendE s t = 0
      · rw [if_pos e]
        unfold sendE at e
        split at e
        · cases e
        · split at e
          · cases e
          · exact h.g.sent (by omega) (by omega) x y _
      · rw [if_neg e]
        exact h.g.mono (by omega))
/-- A Fate's error, and what it leaves. -/
noncomputable def fatE (s : Net) (x y : ByteArray) (i : Int) (l : List Int) : Int := if fateBad i l = true then 1 else fateE s x y i
noncomputable def fatS (s : Net) (x y : ByteArray) (i : Int) (l : List Int) : Net := if fateBad i l = true then s else fateS s x y i l
theorem bad_lst {n : Nat} {X : Nat → Int} : firstBad n X = !((lst n X).any badD) := by
  unfold firstBad lst
  cases h : ((List.range n).map X).any badD
  · refine decide_eq_true fun i hi => ?_
    have h2 := List.any_eq_false.1 h (X i) (List.mem_map.2 ⟨i, List.mem_range.2 hi, rfl⟩)
    simpa using h2
  · refine decide_eq_false fun h3 => ?_
    obtain ⟨x, hx, hb⟩ := List.any_eq_true.1 h
    obtain ⟨i, hi, rfl⟩ := List.mem_map.1 hx
    have := h3 i (List.mem_range.1 hi)
    rw [this] at hb
    cases hb
theorem cn_fateE {ao : Option Addr} {n cp bk off : Nat} {X : Nat → Int} (h : CN w0 K b c s w) {x y : ByteArray} (hx : x.size ≤ maxLen) (hy : y.size ≤ maxLen) {i : Int} (hX : IsInts w ao n bk off X) (hXP : 0 < n → K bk ∨ bk < w0.heap.size) (hi2 : i ≤ 9223372036854775807) :
    Calls Try.prog 12 #[.pointer (some ⟨b, 0, none⟩), .string x, .string y, .int .i64 i, .slice ao n cp] w (CNP w0 K b c (fatS s x y i (lst n X)) (errV (fatE s x y i (lst n X))) w) := by
  unfold fatS fatE
  by_cases h1 : i < 0
  · have e : fateBad i (lst n X) = true := by unfold fateBad; simp [h1]
    rw [if_pos e, if_pos e]
    exact (fate_neg b x y i ao n cp w h1).mono fun _ _ he => ⟨he.1, by rw [he.2]; exact h, by rw [he.2]; exact Same.refl _ _⟩
  · by_cases h2 : 4 < n
    · have e : fateBad i (lst n X) = true := by unfold fateBad; simp [lst_len, h2]
      rw [if_pos e, if_pos e]
      exact (fate_many b x y i ao n cp w (by omega) h2).mono fun _ _ he => ⟨he.1, by rw [he.2]; exact h, by rw [he.2]; exact Same.refl _ _⟩
    · cases hb : firstBad n X
      · have e : fateBad i (lst n X) = true := by
          rw [bad_lst] at hb
          unfold fateBad
          simp only [Bool.not_eq_false'] at hb
          rw [hb]; simp
        rw [if_pos e, if_pos e]
        exact (fate_bad (c := cp) b x y i w hX (by omega) (by omega) hb).mono fun _ _ he => ⟨he.1, by rw [he.2]; exact h, by rw [he.2]; exact Same.refl _ _⟩
      · have e : ¬ fateBad i (lst n X) = true := by
          rw [bad_lst] at hb
          unfold fateBad
          simp only [Bool.not_eq_true'] at hb
          rw [hb, lst_len]
          simp; omega
        rw [if_neg e, if_neg e]
        exact cn_fate h hx hy hX hXP (by omega) hi2 (by omega) hb
end
end Go.Proofs.Ytkhiepjlfbjgdaa

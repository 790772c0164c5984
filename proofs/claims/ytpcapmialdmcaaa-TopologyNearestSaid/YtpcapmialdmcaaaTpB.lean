/- topology: a map of towns in memory. Conditions: each lemma names its own. -/
import Derived.Test.YtpcapmialdmcaaaTpT
import Derived.Test.YtpcapmialdmcaaaTpSort
import Derived.Test.YtpcapmialdmcaaaMapL
import Derived.Test.YtpcapmialdmcaaaHeld2
namespace Go.Proofs.Ytpcapmialdmcaaa
open Go.RowKit Go.Maps Go.ChangeShapes Go.WideShapes Go.WideMaps

theorem laidOutT : laidOutB Try.prog = true := by kernel_rfl
/-- The key of a link. -/
def keyV (a b : ByteArray) : Value := .agg #[.string a, .string b]
theorem keyV_inj {a b a' b' : ByteArray} : keyV a b = keyV a' b' ↔ a = a' ∧ b = b' := by simp [keyV]
theorem pairK : Keyed Try.prog 91 := Keyed.of_law (deep_law_laid laidOutT (m := 2) (by omega) (of_decide_eq_true (by kernel_rfl)) (by kernel_rfl) (by rw [Try.underlying91]))
theorem strK : Keyed Try.prog 9 := string_keyed Try.underlying9
theorem isK1 {s : ByteArray} (h : s.size ≤ 9223372036854775807) : IsK Try.prog 9 (.string s) := ⟨.string s.data.toList, by simp [keyOf, Try.underlying9, mapKey, show s.size ≤ maxLen from h]⟩
theorem isK2_of {P : Program} {k e : TypeId} (hk : P.underlying k = some (.array 2 e)) (he : P.underlying e = some .string) (c2 : P.cellsOf k = 2) (c1 : P.cellsOf e = 1) (kt : P.keyType k = true) (hn : ∃ n, P.types.size + 1 = n + 2) {a b : ByteArray} (ha : a.size ≤ 9223372036854775807) (hb : b.size ≤ 9223372036854775807) : IsK P k (keyV a b) := by
  obtain ⟨n, hn⟩ := hn
  have l1 : ∀ s : ByteArray, s.size ≤ 9223372036854775807 → P.keyLits (n + 1) e [.string s] = some [.string s.data.toList] := fun s hs => by
    simp [Program.keyLits, he, show s.size ≤ maxLen from hs]
  have l2 : P.keyLits (n + 2) k [.string a, .string b] = some [.string a.data.toList, .string b.data.toList] := by
    have e1 : P.keyLits (n + 2) k [.string a, .string b] = (if [Value.string a, .string b].length = P.cellsOf k then ((List.range 2).mapM fun i => P.keyLits (n + 1) e (([Value.string a, .string b].drop (i * P.cellsOf e)).take (P.cellsOf e))).map List.flatten else none) := by
      simp only [Program.keyLits, hk]
    rw [e1, c2, c1, if_pos (show [Value.string a, Value.string b].length = 2 from rfl)]
    have e2 : ((List.range 2).mapM fun i => P.keyLits (n + 1) e (([Value.string a, .string b].drop (i * 1)).take 1)) = some [[.string a.data.toList], [.string b.data.toList]] := by
      simp [show List.range 2 = [0, 1] from rfl, l1 a ha, l1 b hb]
    rw [e2]
    rfl
  refine ⟨.string (keyBytes [.string a.data.toList, .string b.data.toList]), ?_⟩
  have f1 : (keyV a b).formed P k = true := by simp [Value.formed, keyV, hk, c2]
  unfold keyOf
  rw [hk]
  show (if (P.keyType k && (keyV a b).formed P k) = true then (P.keyLits (P.types.size + 1) k (keyV a b).cells.toList).map _ else none) = _
  rw [kt, f1, hn, show (keyV a b).cells.toList = [.string a, .string b] from rfl, l2]
  rfl
theorem isK2 {a b : ByteArray} (ha : a.size ≤ 9223372036854775807) (hb : b.size ≤ 9223372036854775807) : IsK Try.prog 91 (keyV a b) :=
  isK2_of Try.underlying91 Try.underlying9 (by kernel_rfl) (by kernel_rfl) (by kernel_rfl) ⟨Try.prog.types.size - 1, by kernel_rfl⟩ ha hb
end Go.Proofs.Ytpcapmialdmcaaa

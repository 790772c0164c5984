/- A list of texts, as the statement's argument. Conditions: none. -/
import Derived.Test.YtpcapmialdmcaaaTpNames
import Derived.Test.YtpcapmialdmcaaaSeeMore
import Derived.SliceStrings
namespace Go.Proofs.Ytpcapmialdmcaaa
open Go.ChangeShapes Go.WideShapes Go.ChangeAt Go.RowKit Go.Deep
section
variable {H : Type} {enc : TypeId × Value → H} {W : World} {base : Nat} {held : Bool}
set_option maxRecDepth 100000 in
theorem strs1 {r : Reach} {b0 : Nat} {v : Value} {d : DataW H} {p : List MemPlace} (hv : Value.okWide Try.prog W r b0 28 v) (h : DataW.Trod enc Try.prog W base (fun _ => true) held 28 v d p) :
    ∃ (ao : Option Addr) (l : List ByteArray) (cap : Nat), v = .slice ao l.length cap ∧ l.length ≤ cap ∧ RT W (.slice ao l.length cap) l ∧ ∀ x ∈ l, x.size ≤ 9223372036854775807 := by
  obtain ⟨ao, len, cap, rfl⟩ := okWide_slice Try.underlying28 hv
  obtain ⟨ao2, n, c, b, off, he, hnc, hc, hao, hlt, key⟩ : ∃ (ao' : Option Addr) (n c b off : Nat), (Value.slice ao len cap) = .slice ao' n c ∧ n ≤ c ∧ c ≤ 9223372036854775807 ∧ (0 < n → ao' = some ⟨b, off, none⟩) ∧ (0 < n → b < W.heap.size) ∧ ∀ i, i < n → ∃ s : ByteArray, W.cell? ⟨b, off + i, none⟩ = some (.string s) ∧ s.size ≤ 9223372036854775807 := by
    obtain ⟨fuel, hf⟩ := h
    rcases open_slice Try.underlying28 hf with ⟨hcs, _⟩ | ⟨a, len', cap', m, n, D, Pl, hcs, _, hl, hm, hmm, _, hc⟩
    · simp [Value.cells] at hcs
      obtain ⟨rfl, rfl, rfl⟩ := hcs
      exact ⟨none, 0, 0, 0, 0, rfl, by omega, by omega, by omega, by omega, fun i hi => by omega⟩
    · simp [Value.cells] at hcs
      obtain ⟨rfl, rfl, rfl⟩ := hcs
      simp at hmm
      subst hmm
      unfold maxLen at hm
      have ce : Try.prog.cellsOf 9 = 1 := by kernel_rfl
      have key : ∀ i, i < len → ∃ s : ByteArray, W.cell? (a.add i) = some (.string s) ∧ s.size ≤ 9223372036854775807 := by
        intro i hi
        obtain ⟨cs', h1, h2⟩ := hc i (by omega)
        rw [ce] at h1
        obtain ⟨_, hlen, hcell⟩ := World.cells?_some h1
        obtain ⟨s, hs, _, hsz⟩ := DataW.trod_string Try.underlying9 h2
        have e0 := hcell 0 (by omega)
        rw [Nat.mul_one, add_add, Nat.add_zero, hs] at e0
        exact ⟨s, e0, by unfold maxLen at hsz; omega⟩
      obtain ⟨b, off, spot⟩ := a
      have hsp : 0 < len → spot = none := fun h0 => by
        obtain ⟨q, hq, _⟩ := key 0 h0
        have := World.cell?_spot (by simpa [Addr.add] using hq)
        simpa using this
      refine ⟨_, len, m, b, off, rfl, hl, by omega, fun h0 => by rw [hsp h0], ?_, ?_⟩
      · intro h0
        obtain ⟨q, hq, _⟩ := key 0 h0
        exact World.block_lt_of_cell? W _ (by simpa [Addr.add] using hq)
      · intro i hi
        obtain ⟨q, hq, wq⟩ := key i hi
        have := hsp (by omega)
        subst this
        rw [add_plain] at hq
        exact ⟨q, hq, wq⟩
  simp only [Value.slice.injEq] at he
  obtain ⟨rfl, rfl, rfl⟩ := he
  have hex : ∀ i, ∃ s : ByteArray, i < len → W.cell? ⟨b, off + i, none⟩ = some (.string s) ∧ s.size ≤ 9223372036854775807 := fun i => by
    by_cases hi : i < len
    · obtain ⟨s, h1, h2⟩ := key i hi
      exact ⟨s, fun _ => ⟨h1, h2⟩⟩
    · exact ⟨ByteArray.empty, fun h => absurd h hi⟩
  have hln : ((List.range len).map fun i => Classical.choose (hex i)).length = len := by simp
  refine ⟨ao, (List.range len).map fun i => Classical.choose (hex i), cap, by rw [hln], by rw [hln]; exact hnc, ⟨ao, cap, rfl, by rw [hln]; omega, fun h0 => ?_⟩, fun x hx => ?_⟩
  · rw [hln] at h0
    refine ⟨b, off, hao h0, hlt h0, fun i hi => ?_⟩
    rw [hln] at hi
    rw [((Classical.choose_spec (hex i)) hi).1]
    simp [List.getD, hi]
  · obtain ⟨i, hi, rfl⟩ := List.mem_map.1 hx
    exact ((Classical.choose_spec (hex i)) (List.mem_range.1 hi)).2
end
end Go.Proofs.Ytpcapmialdmcaaa

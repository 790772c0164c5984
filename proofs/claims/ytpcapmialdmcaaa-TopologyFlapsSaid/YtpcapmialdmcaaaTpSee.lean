/- A list of pairs of integers, as the statement's argument. Conditions: none. -/
import Derived.Test.YtpcapmialdmcaaaTpO
import Derived.Test.YtpcapmialdmcaaaSeeMore
namespace Go.Proofs.Ytpcapmialdmcaaa
open Go.ChangeShapes Go.WideShapes Go.ChangeAt Go.RowKit Go.Deep
section
variable {H : Type} {enc : TypeId × Value → H} {W : World} {base : Nat} {held : Bool}
set_option maxRecDepth 100000 in
theorem cuts1 {r : Reach} {b0 : Nat} {v : Value} {d : DataW H} {p : List MemPlace} (hv : Value.okWide Try.prog W r b0 47 v) (h : DataW.Trod enc Try.prog W base (fun _ => true) held 47 v d p) :
    ∃ (ao : Option Addr) (n c b off : Nat) (X : Nat → Nat → Int), v = .slice ao n c ∧ n ≤ 9223372036854775807 ∧ IsCut W ao n b off X := by
  obtain ⟨ao, len, cap, rfl⟩ := okWide_slice Try.underlying47 hv
  obtain ⟨fuel, hf⟩ := h
  rcases open_slice Try.underlying47 hf with ⟨hcs, _⟩ | ⟨a, len', cap', m, n, D, Pl, hcs, _, hl, hm, hmm, _, hc⟩
  · simp [Value.cells] at hcs
    obtain ⟨rfl, rfl, rfl⟩ := hcs
    exact ⟨none, 0, 0, 0, 0, fun _ _ => 0, rfl, by omega, by omega, by omega, fun i hi => by omega⟩
  · simp [Value.cells] at hcs
    obtain ⟨rfl, rfl, rfl⟩ := hcs
    simp at hmm
    subst hmm
    unfold maxLen at hm
    have ce : Try.prog.cellsOf 51 = 2 := by kernel_rfl
    have c1 : Try.prog.cellsOf 3 = 1 := by kernel_rfl
    have key : ∀ i, i < len → ∀ j, j < 2 → ∃ q, W.cell? (a.add (i * 2 + j)) = some (.int .i64 q) ∧ (Lit.int .i64 q).wf = true := by
      intro i hi j hj
      obtain ⟨cs', h1, h2⟩ := hc i (by omega)
      rw [ce] at h1
      obtain ⟨_, hlen, hcell⟩ := World.cells?_some h1
      obtain ⟨xs, m2, _, _, _, hxl, hx⟩ := DataW.trod_array Try.underlying51 h2
      have g := hx j hj
      rw [c1, Nat.mul_one] at g
      have hjc : j < cs'.length := by omega
      have hd : (cs'.drop j).take 1 = [cs'[j]] := by rw [List.drop_eq_getElem_cons hjc]; rfl
      rw [hd, List.getElem?_eq_getElem (by omega)] at g
      have e0 := hcell j (by omega)
      rw [add_add, List.getElem?_eq_getElem hjc] at e0
      obtain ⟨q, hq, wq⟩ := See.one Try.underlying3 g
      rw [hq] at e0
      exact ⟨q, e0, wq⟩
    obtain ⟨b, off, spot⟩ := a
    have hsp : 0 < len → spot = none := fun h0 => by
      obtain ⟨q, hq, _⟩ := key 0 h0 0 (by omega)
      have := World.cell?_spot (by simpa [Addr.add] using hq)
      simpa using this
    refine ⟨_, len, m, b, off, fun i j => intOf ((W.cell? ⟨b, off + i * 2 + j, none⟩).getD default), rfl, by omega, fun h0 => by rw [hsp h0], ?_, ?_⟩
    · intro h0
      obtain ⟨q, hq, _⟩ := key 0 h0 0 (by omega)
      exact World.block_lt_of_cell? W _ (by simpa [Addr.add] using hq)
    · intro i hi j hj
      obtain ⟨q, hq, wq⟩ := key i hi j hj
      have := hsp (by omega)
      subst this
      rw [add_plain, ← Nat.add_assoc] at hq
      have e : intOf ((W.cell? ⟨b, off + i * 2 + j, none⟩).getD default) = q := by rw [hq]; rfl
      show _ = some (Value.int .i64 (intOf _)) ∧ -9223372036854775808 ≤ intOf _ ∧ intOf _ ≤ 9223372036854775807
      rw [e]
      exact ⟨hq, bounds_i64 wq⟩
end
end Go.Proofs.Ytpcapmialdmcaaa

/- Lists of messages and of triples that can be read, as the statements' arguments. Conditions: none. -/
import Derived.Test.YtkhiepjlfbjgdaaNwMsgs
import Derived.Test.YtkhiepjlfbjgdaaSeeMore
namespace Go.Proofs.Ytkhiepjlfbjgdaa
open Go.ChangeShapes Go.WideShapes Go.ChangeAt Go.RowKit Go.Deep
section
variable {H : Type} {enc : TypeId × Value → H} {W : World} {base : Nat} {held : Bool}
set_option maxRecDepth 100000 in
theorem msgs1 {r : Reach} {b0 : Nat} {v : Value} {d : DataW H} {p : List MemPlace} (hv : Value.okWide Try.prog W r b0 22 v) (h : DataW.Trod enc Try.prog W base (fun _ => true) held 22 v d p) :
    ∃ (ao : Option Addr) (n c b off : Nat) (A : Nat → MsgV), v = .slice ao n c ∧ n ≤ 9223372036854775807 ∧ IsMsgs W ao n b off A := by
  obtain ⟨ao0, len, cap, rfl⟩ := okWide_slice Try.underlying22 hv
  obtain ⟨fu, x, hf⟩ := See.cell_of h rfl
  obtain ⟨ao, n, c, b, off, hy, hnc, hc, hao, hlt, hr⟩ := See.recs 4 (by omega) Try.underlying22 Try.underlying37 (by kernel_rfl) (by kernel_rfl) rfl hf
  rw [hy]
  have key : ∀ i, i < n → ∃ a : MsgV, (W.cell? ⟨b, off + i * 4, none⟩ = some (.int .u8 a.gap) ∧ W.cell? ⟨b, off + i * 4 + 1, none⟩ = some (.int .u8 a.from_) ∧ W.cell? ⟨b, off + i * 4 + 2, none⟩ = some (.int .u8 a.to_) ∧ W.cell? ⟨b, off + i * 4 + 3, none⟩ = some (.string a.data)) ∧
      (0 ≤ a.gap ∧ a.gap ≤ 255) ∧ (0 ≤ a.from_ ∧ a.from_ ≤ 255) ∧ (0 ≤ a.to_ ∧ a.to_ ≤ 255) ∧ a.data.size ≤ maxLen := by
    intro i hi
    obtain ⟨q0, e0, g0⟩ := hr i hi 0 _ rfl
    obtain ⟨q1, e1, g1⟩ := hr i hi 1 _ rfl
    obtain ⟨q2, e2, g2⟩ := hr i hi 2 _ rfl
    obtain ⟨q3, e3, g3⟩ := hr i hi 3 _ rfl
    obtain ⟨i0, rfl, w0⟩ := See.Fld.int g0 Try.underlying5
    obtain ⟨i1, rfl, w1⟩ := See.Fld.int g1 Try.underlying5
    obtain ⟨i2, rfl, w2⟩ := See.Fld.int g2 Try.underlying5
    obtain ⟨s3, rfl, hs⟩ := See.Fld.str g3 Try.underlying9
    exact ⟨⟨i0, i1, i2, s3⟩, ⟨e0, e1, e2, e3⟩, bounds_u8 w0, bounds_u8 w1, bounds_u8 w2, hs⟩
  refine ⟨ao, n, c, b, off, fun i => if h : i < n then Classical.choose (key i h) else ⟨0, 0, 0, ByteArray.empty⟩, rfl, by omega, hao, hlt, fun i hi => ?_, fun i hi => ?_⟩
  · rw [dif_pos hi]; exact (Classical.choose_spec (key i hi)).1
  · rw [dif_pos hi]; exact (Classical.choose_spec (key i hi)).2
set_option maxRecDepth 100000 in
theorem trips1 {r : Reach} {b0 : Nat} {v : Value} {d : DataW H} {p : List MemPlace} (hv : Value.okWide Try.prog W r b0 23 v) (h : DataW.Trod enc Try.prog W base (fun _ => true) held 23 v d p) :
    ∃ (ao : Option Addr) (n c b off : Nat) (X : Nat → Nat → Int), v = .slice ao n c ∧ n ≤ 9223372036854775807 ∧ IsTrip W ao n b off X := by
  obtain ⟨ao, len, cap, rfl⟩ := okWide_slice Try.underlying23 hv
  obtain ⟨fuel, hf⟩ := h
  rcases open_slice Try.underlying23 hf with ⟨hcs, _⟩ | ⟨a, len', cap', m, n, D, Pl, hcs, _, hl, hm, hmm, _, hc⟩
  · simp [Value.cells] at hcs
    obtain ⟨rfl, rfl, rfl⟩ := hcs
    exact ⟨none, 0, 0, 0, 0, fun _ _ => 0, rfl, by omega, by omega, by omega, fun i hi => by omega⟩
  · simp [Value.cells] at hcs
    obtain ⟨rfl, rfl, rfl⟩ := hcs
    simp at hmm
    subst hmm
    unfold maxLen at hm
    have ce : Try.prog.cellsOf 34 = 3 := by kernel_rfl
    have c1 : Try.prog.cellsOf 33 = 1 := by kernel_rfl
    have key : ∀ i, i < len → ∀ j, j < 3 → ∃ q, W.cell? (a.add (i * 3 + j)) = some (.int .u16 q) ∧ (Lit.int .u16 q).wf = true := by
      intro i hi j hj
      obtain ⟨cs', h1, h2⟩ := hc i (by omega)
      rw [ce] at h1
      obtain ⟨_, hlen, hcell⟩ := World.cells?_some h1
      obtain ⟨xs, m2, _, _, _, hxl, hx⟩ := DataW.trod_array Try.underlying34 h2
      have g := hx j hj
      rw [c1, Nat.mul_one] at g
      have hjc : j < cs'.length := by omega
      have hd : (cs'.drop j).take 1 = [cs'[j]] := by rw [List.drop_eq_getElem_cons hjc]; rfl
      rw [hd, List.getElem?_eq_getElem (by omega)] at g
      have e0 := hcell j (by omega)
      rw [add_add, List.getElem?_eq_getElem hjc] at e0
      obtain ⟨q, hq, wq⟩ := See.one Try.underlying33 g
      rw [hq] at e0
      exact ⟨q, e0, wq⟩
    obtain ⟨b, off, spot⟩ := a
    have hsp : 0 < len → spot = none := fun h0 => by
      obtain ⟨q, hq, _⟩ := key 0 h0 0 (by omega)
      have := World.cell?_spot (by simpa [Addr.add] using hq)
      simpa using this
    refine ⟨_, len, m, b, off, fun i j => intOf ((W.cell? ⟨b, off + i * 3 + j, none⟩).getD default), rfl, by omega, fun h0 => by rw [hsp h0], ?_, ?_⟩
    · intro h0
      obtain ⟨q, hq, _⟩ := key 0 h0 0 (by omega)
      exact World.block_lt_of_cell? W _ (by simpa [Addr.add] using hq)
    · intro i hi j hj
      obtain ⟨q, hq, wq⟩ := key i hi j hj
      have := hsp (by omega)
      subst this
      rw [add_plain, ← Nat.add_assoc] at hq
      have e : intOf ((W.cell? ⟨b, off + i * 3 + j, none⟩).getD default) = q := by rw [hq]; rfl
      show _ = some (Value.int .u16 (intOf _)) ∧ 0 ≤ intOf _ ∧ intOf _ ≤ 65535
      rw [e]
      exact ⟨hq, bounds_u16 wq⟩
end
end Go.Proofs.Ytkhiepjlfbjgdaa

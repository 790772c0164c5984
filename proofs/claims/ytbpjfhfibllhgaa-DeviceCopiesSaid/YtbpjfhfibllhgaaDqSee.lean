/- Lists of acts that can be read, and arrays of them. Conditions: none. -/
import Derived.Test.YtbpjfhfibllhgaaDqActs
import Derived.Test.YtbpjfhfibllhgaaSeeMore
namespace Go.Proofs.Ytbpjfhfibllhgaa
open Go.ChangeShapes Go.WideShapes Go.ChangeAt Go.RowKit Go.Deep
namespace See
section
variable {H : Type} {enc : TypeId × Value → H} {P : Program} {w : World} {base : Nat} {held : Bool}
theorem arr2s {r : Reach} {b0 : Nat} {t e : TypeId} {v : Value} {d : DataW H} {p : List MemPlace} (ht : P.underlying t = some (.array 2 e)) (hC : P.cellsOf t = 2) (ce : P.cellsOf e = 1)
    (hv : Value.okWide P w r b0 t v) (h : DataW.Trod enc P w base (fun _ => true) held t v d p) :
    ∃ y0 y1, v = .agg #[y0, y1] ∧ Fld enc P w base held e y0 ∧ Fld enc P w base held e y1 := by
  obtain ⟨cs, rfl, hsz⟩ : ∃ cs, v = .agg cs ∧ cs.size = P.cellsOf t := by
    simp only [Value.okWide, ht] at hv
    cases v <;> simp_all
  rw [hC] at hsz
  obtain ⟨c0, c1, rfl⟩ : ∃ c0 c1, cs = #[c0, c1] := by
    match cs, hsz with
    | ⟨[x, y]⟩, _ => exact ⟨x, y, rfl⟩
  obtain ⟨fuel, hf⟩ := h
  obtain ⟨xs, m, _, _, _, hl, hx⟩ := DataW.trod_array ht hf
  have g0 := hx 0 (by omega)
  have g1 := hx 1 (by omega)
  match xs, hl with
  | [y0, y1], _ =>
    simp [Value.cells, ce] at g0 g1
    exact ⟨c0, c1, rfl, ⟨_, _, g0⟩, ⟨_, _, g1⟩⟩
theorem arr3s {r : Reach} {b0 : Nat} {t e : TypeId} {v : Value} {d : DataW H} {p : List MemPlace} (ht : P.underlying t = some (.array 3 e)) (hC : P.cellsOf t = 3) (ce : P.cellsOf e = 1)
    (hv : Value.okWide P w r b0 t v) (h : DataW.Trod enc P w base (fun _ => true) held t v d p) :
    ∃ y0 y1 y2, v = .agg #[y0, y1, y2] ∧ Fld enc P w base held e y0 ∧ Fld enc P w base held e y1 ∧ Fld enc P w base held e y2 := by
  obtain ⟨cs, rfl, hsz⟩ : ∃ cs, v = .agg cs ∧ cs.size = P.cellsOf t := by
    simp only [Value.okWide, ht] at hv
    cases v <;> simp_all
  rw [hC] at hsz
  obtain ⟨c0, c1, c2, rfl⟩ : ∃ c0 c1 c2, cs = #[c0, c1, c2] := by
    match cs, hsz with
    | ⟨[x, y, z]⟩, _ => exact ⟨x, y, z, rfl⟩
  obtain ⟨fuel, hf⟩ := h
  obtain ⟨xs, m, _, _, _, hl, hx⟩ := DataW.trod_array ht hf
  have g0 := hx 0 (by omega)
  have g1 := hx 1 (by omega)
  have g2 := hx 2 (by omega)
  match xs, hl with
  | [y0, y1, y2], _ =>
    simp [Value.cells, ce] at g0 g1 g2
    exact ⟨c0, c1, c2, rfl, ⟨_, _, g0⟩, ⟨_, _, g1⟩, ⟨_, _, g2⟩⟩
end
end See
section
variable {H : Type} {enc : TypeId × Value → H} {W : World} {base : Nat} {held : Bool}
theorem acts_of {y : Value} (h : See.Fld enc Try.prog W base held 51 y) :
    ∃ (ao : Option Addr) (n c b off : Nat) (A : Nat → ActV), y = .slice ao n c ∧ n ≤ 9223372036854775807 ∧ IsActs W ao n b off A := by
  obtain ⟨fu, x, hf⟩ := h
  obtain ⟨ao, n, c, b, off, rfl, hnc, hc, hao, hlt, hr⟩ := See.recs 5 (by omega) Try.underlying51 Try.underlying55 (by kernel_rfl) (by kernel_rfl) rfl hf
  have key : ∀ i, i < n → ∃ a : ActV, (W.cell? ⟨b, off + i * 5, none⟩ = some (.int .u8 a.kind) ∧ W.cell? ⟨b, off + i * 5 + 1, none⟩ = some (.int .i64 a.block) ∧ W.cell? ⟨b, off + i * 5 + 2, none⟩ = some (.int .i64 a.page) ∧
      W.cell? ⟨b, off + i * 5 + 3, none⟩ = some (.slice a.dao a.dn a.dc) ∧ W.cell? ⟨b, off + i * 5 + 4, none⟩ = some (.slice a.kao a.kn a.kc)) ∧ a.ok W := by
    intro i hi
    obtain ⟨q0, e0, g0⟩ := hr i hi 0 _ rfl
    obtain ⟨q1, e1, g1⟩ := hr i hi 1 _ rfl
    obtain ⟨q2, e2, g2⟩ := hr i hi 2 _ rfl
    obtain ⟨q3, e3, n3, x3, g3⟩ := hr i hi 3 _ rfl
    obtain ⟨q4, e4, n4, x4, g4⟩ := hr i hi 4 _ rfl
    obtain ⟨i0, rfl, w0⟩ := See.Fld.int g0 Try.underlying5
    obtain ⟨i1, rfl, w1⟩ := See.Fld.int g1 Try.underlying3
    obtain ⟨i2, rfl, w2⟩ := See.Fld.int g2 Try.underlying3
    obtain ⟨dao, dn, dc, db, doff, dX, rfl, hd1, hd2, hd3, hd4, hd5⟩ := See.nums1 Try.underlying22 Try.underlying5 (by kernel_rfl) g3
    obtain ⟨kao, kn, kc, kb, koff, kX, rfl, hk1, hk2, hk3, hk4, hk5⟩ := See.nums1 Try.underlying29 Try.underlying3 (by kernel_rfl) g4
    exact ⟨⟨i0, i1, i2, dao, dn, dc, db, doff, dX, kao, kn, kc, kb, koff, kX⟩, ⟨e0, e1, e2, e3, e4⟩, { d := ⟨hd3, hd4, fun j hj => (hd5 j hj).1, fun j hj => bounds_u8 (hd5 j hj).2⟩, k := ⟨hk3, hk4, fun j hj => (hk5 j hj).1, fun j hj => bounds_i64 (hk5 j hj).2⟩, k0 := bounds_u8 w0, bb := bounds_i64 w1, pb := bounds_i64 w2, dl := by show dn ≤ _; omega, kl := by show kn ≤ _; omega }⟩
  refine ⟨ao, n, c, b, off, fun i => if h : i < n then Classical.choose (key i h) else ⟨0, 0, 0, none, 0, 0, 0, 0, fun _ => 0, none, 0, 0, 0, 0, fun _ => 0⟩, rfl, by omega, hao, hlt, fun i hi => ?_, fun i hi => ?_⟩
  · rw [dif_pos hi]; exact (Classical.choose_spec (key i hi)).1
  · rw [dif_pos hi]; exact (Classical.choose_spec (key i hi)).2
set_option maxRecDepth 100000 in
theorem acts1 {r : Reach} {b0 : Nat} {v : Value} {d : DataW H} {p : List MemPlace} (hv : Value.okWide Try.prog W r b0 51 v) (h : DataW.Trod enc Try.prog W base (fun _ => true) held 51 v d p) :
    ∃ (ao : Option Addr) (n c b off : Nat) (A : Nat → ActV), v = .slice ao n c ∧ n ≤ 9223372036854775807 ∧ IsActs W ao n b off A := by
  obtain ⟨ao, len, cap, rfl⟩ := okWide_slice Try.underlying51 hv
  exact acts_of (See.cell_of h rfl)
end
end Go.Proofs.Ytbpjfhfibllhgaa

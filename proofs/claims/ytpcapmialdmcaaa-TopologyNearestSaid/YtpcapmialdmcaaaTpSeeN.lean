/- A net and three numbers as the statements' arguments. Conditions: none. -/
import Derived.Test.YtpcapmialdmcaaaTpZ
import Derived.Test.YtpcapmialdmcaaaSeeMore
namespace Go.Proofs.Ytpcapmialdmcaaa
open Go.ChangeShapes Go.WideShapes Go.ChangeAt Go.RowKit Go.Deep
section
variable {H : Type} {enc : TypeId × Value → H} {W : World} {base : Nat} {held : Bool}
theorem okWide_arr3 {P : Program} {r : Reach} {b0 : Nat} {t e : TypeId} {v : Value} (ht : P.underlying t = some (.array 3 e)) (hv : Value.okWide P W r b0 t v) : ∃ cs, v = .agg cs ∧ cs.size = P.cellsOf t := by
  simp only [Value.okWide, ht] at hv
  cases v <;> simp_all
set_option maxRecDepth 100000 in
theorem arr3u {r : Reach} {b0 : Nat} {v : Value} {d : DataW H} {p : List MemPlace}
    (hv : Value.okWide Try.prog W r b0 44 v) (h : DataW.Trod enc Try.prog W base (fun _ => true) held 44 v d p) :
    ∃ a b c : Int, v = .agg #[.int .u8 a, .int .u8 b, .int .u8 c] ∧ (0 ≤ a ∧ a ≤ 255) ∧ (0 ≤ b ∧ b ≤ 255) ∧ (0 ≤ c ∧ c ≤ 255) := by
  obtain ⟨cs, rfl, hsz⟩ : ∃ cs, v = .agg cs ∧ cs.size = Try.prog.cellsOf 44 := okWide_arr3 (e := 5) Try.underlying44 hv
  rw [show Try.prog.cellsOf 44 = 3 by kernel_rfl] at hsz
  obtain ⟨c0, c1, c2, rfl⟩ : ∃ c0 c1 c2, cs = #[c0, c1, c2] := by
    match cs, hsz with
    | ⟨[x, y, z]⟩, _ => exact ⟨x, y, z, rfl⟩
  obtain ⟨fuel, hf⟩ := h
  obtain ⟨xs, m, _, _, _, hl, hx⟩ := DataW.trod_array Try.underlying44 hf
  have g0 := hx 0 (by omega)
  have g1 := hx 1 (by omega)
  have g2 := hx 2 (by omega)
  have ce : Try.prog.cellsOf 5 = 1 := by kernel_rfl
  match xs, hl with
  | [y0, y1, y2], _ =>
    simp [Value.cells, ce] at g0 g1 g2
    obtain ⟨a, rfl, wa⟩ := See.one Try.underlying5 g0
    obtain ⟨b, rfl, wb⟩ := See.one Try.underlying5 g1
    obtain ⟨c, rfl, wc⟩ := See.one Try.underlying5 g2
    exact ⟨a, b, c, rfl, bounds_u8 wa, bounds_u8 wb, bounds_u8 wc⟩
set_option maxRecDepth 100000 in
theorem net_of {r : Reach} {b0 : Nat} {v : Value} {d : DataW H} {p : List MemPlace} (hv : Value.okWide Try.prog W r b0 24 v) (h : DataW.Trod enc Try.prog W base (fun _ => true) held 24 v d p) :
    ∃ (T : Int) (ao : Option Addr) (c : Nat) (ls : List Ln), v = .agg #[.int .u8 T, .slice ao ls.length c] ∧ (0 ≤ T ∧ T ≤ 255) ∧ IsLn W (.slice ao ls.length c) ls := by
  obtain ⟨cs, rfl, hsz⟩ := okWide_struct Try.underlying24 hv
  rw [show Try.prog.cellsOf 24 = 2 by kernel_rfl] at hsz
  obtain ⟨c0, c1, rfl⟩ : ∃ c0 c1, cs = #[c0, c1] := by
    obtain ⟨l⟩ := cs
    match l, hsz with
    | [a, b], _ => exact ⟨a, b, rfl⟩
  obtain ⟨fuel, hf⟩ := h
  obtain ⟨xs, n, _, _, hl, hlen, hx⟩ := DataW.trod_struct Try.underlying24 hf
  match xs, hlen with
  | [y0, y1], _ =>
    have g0 := hx 0 _ rfl
    have g1 := hx 1 _ rfl
    have k1 : Try.prog.cellsOf 5 = 1 := by kernel_rfl
    have k3 : Try.prog.cellsOf 22 = 1 := by kernel_rfl
    simp [Value.cells, k1, k3] at g0 g1
    obtain ⟨T, rfl, wT⟩ := See.one Try.underlying5 g0
    obtain ⟨ao, n, c, b, off, rfl, hnc, hc, hao, hlt, hr⟩ := See.recs 6 (by omega) Try.underlying22 Try.underlying58 (by kernel_rfl) (by kernel_rfl) rfl g1
    have key : ∀ i, i < n → ∃ l : Ln, (∀ c, c < 6 → W.cell? ⟨b, off + i * 6 + c, none⟩ = some (lnV l c)) ∧ (0 ≤ l.a ∧ l.a ≤ 255) ∧ (0 ≤ l.b ∧ l.b ≤ 255) := by
      intro i hi
      obtain ⟨q0, e0, f0⟩ := hr i hi 0 _ rfl
      obtain ⟨q1, e1, f1⟩ := hr i hi 1 _ rfl
      obtain ⟨q2, e2, f2⟩ := hr i hi 2 _ rfl
      obtain ⟨q3, e3, f3⟩ := hr i hi 3 _ rfl
      obtain ⟨q4, e4, f4⟩ := hr i hi 4 _ rfl
      obtain ⟨q5, e5, f5⟩ := hr i hi 5 _ rfl
      obtain ⟨z0, rfl, w0⟩ := See.Fld.int f0 Try.underlying5
      obtain ⟨z1, rfl, w1⟩ := See.Fld.int f1 Try.underlying5
      obtain ⟨z2, rfl⟩ : ∃ z : Bool, q2 = .bool z := by
        obtain ⟨n2, x2, h2⟩ := f2
        obtain ⟨z, hz, _⟩ := DataW.trod_bool Try.underlying4 h2
        exact ⟨z, by simpa using hz⟩
      obtain ⟨z3, rfl, w3⟩ := See.Fld.int f3 Try.underlying3
      obtain ⟨z4, rfl, w4⟩ := See.Fld.int f4 Try.underlying3
      obtain ⟨z5, rfl, w5⟩ := See.Fld.int f5 Try.underlying3
      refine ⟨⟨z0, z1, z2, z3, z4, z5⟩, fun c hc => ?_, bounds_u8 w0, bounds_u8 w1⟩
      match c, hc with
      | 0, _ => exact e0
      | 1, _ => exact e1
      | 2, _ => exact e2
      | 3, _ => exact e3
      | 4, _ => exact e4
      | 5, _ => exact e5
    let F : Nat → Ln := fun i => if hi : i < n then (key i hi).choose else dLn
    have hF : ∀ i, i < n → (∀ c, c < 6 → W.cell? ⟨b, off + i * 6 + c, none⟩ = some (lnV (F i) c)) ∧ (0 ≤ (F i).a ∧ (F i).a ≤ 255) ∧ (0 ≤ (F i).b ∧ (F i).b ≤ 255) := fun i hi => by
      have e : F i = (key i hi).choose := dif_pos hi
      rw [e]
      exact (key i hi).choose_spec
    have hln : ((List.range n).map F).length = n := by simp
    refine ⟨T, ao, c, (List.range n).map F, by rw [hln], bounds_u8 wT, ao, c, rfl, by rw [hln]; omega, fun l hl => ?_, fun h0 => ?_⟩
    · obtain ⟨i, hi, rfl⟩ := List.mem_map.1 hl
      exact (hF i (List.mem_range.1 hi)).2
    · rw [hln] at h0
      refine ⟨b, off, hao h0, hlt h0, fun i hi cc hcc => ?_⟩
      rw [hln] at hi
      have e : ((List.range n).map F).getD i dLn = F i := by simp [List.getD, hi]
      rw [e]
      exact (hF i hi).1 cc hcc
end
end Go.Proofs.Ytpcapmialdmcaaa

/- A setup and a script as the statements' arguments; a slice's bytes are within the reach. Conditions: none. -/
import Derived.Test.YtmdajndmobpgbaaAdRunA
import Derived.Test.YtmdajndmobpgbaaSeeMore
import Derived.SizedLaws
namespace Go.Proofs.Ytmdajndmobpgbaa
open Go.ChangeShapes Go.WideShapes Go.ChangeAt Go.RowKit Go.Deep
section
variable {H : Type} {enc : TypeId × Value → H} {W : World} {base : Nat} {held : Bool}
theorem sized_len {ts : List TypeId} {ds : List (DataW H)} (hsz : (DataW.weightsEach Try.prog ts ds).all (· ≤ reachBytes) = true) {j : Nat} {t e : TypeId} {d : DataW H} {ao : Option Addr} {n c : Nat} {p : List MemPlace} (ht : ts[j]? = some t) (hd : ds[j]? = some d) (hu : Try.prog.underlying t = some (.slice e))
    (h : DataW.Trod enc Try.prog W base (fun _ => true) held t (.slice ao n c) d p) : n * Try.prog.bytesOf e ≤ reachBytes := by
  obtain ⟨fuel, hf⟩ := h
  rcases open_slice hu hf with ⟨hcs, hx⟩ | ⟨a, len, cap, m, k, D, Pl, hcs, _, hl, hm, hmm, hx, _⟩
  · simp [Value.cells] at hcs
    obtain ⟨rfl, rfl, rfl⟩ := hcs
    omega
  · simp [Value.cells] at hcs
    obtain ⟨rfl, rfl, rfl⟩ := hcs
    simp only [Prod.mk.injEq] at hx
    obtain ⟨rfl, _⟩ := hx
    have := sized_slice hsz ht hd hu
    simp only [List.length_map, List.length_range] at this
    exact Nat.le_trans (Nat.mul_le_mul_right _ (Nat.le_add_right _ _)) this
theorem scK_of {fs : Array Field} (hs : Try.prog.underlying 63 = some (.struct fs)) : ∀ j f, fs[j]? = some f → Try.prog.underlying f.type = some (.int (scK j)) := by
  have e := (Option.some.inj (hs.symm.trans Try.underlying63))
  simp only [TypeDesc.struct.injEq] at e
  subst e
  intro j f hf
  match j, hf with
  | 0, hf => cases hf; exact Try.underlying5
  | 1, hf => cases hf; exact Try.underlying61
  | 2, hf => cases hf; exact Try.underlying3
  | 3, hf => cases hf; exact Try.underlying3
  | 4, hf => cases hf; exact Try.underlying3
set_option maxRecDepth 100000 in
theorem setup_of {r : Reach} {b0 : Nat} {v : Value} {d : DataW H} {p : List MemPlace} (hv : Value.okWide Try.prog W r b0 48 v) (h : DataW.Trod enc Try.prog W base (fun _ => true) held 48 v d p) :
    ∃ (ao : Option Addr) (n c b off : Nat) (slots : Int) (X : Nat → Nat → Int), v = setupV ao n c slots ∧ n ≤ 9223372036854775807 ∧ IsSh W ao n b off X := by
  obtain ⟨cs, rfl, hsz⟩ := okWide_struct Try.underlying48 hv
  rw [show Try.prog.cellsOf 48 = 2 by kernel_rfl] at hsz
  obtain ⟨c0, c1, rfl⟩ : ∃ c0 c1, cs = #[c0, c1] := by
    obtain ⟨l⟩ := cs
    match l, hsz with
    | [a, b], _ => exact ⟨a, b, rfl⟩
  obtain ⟨fuel, hf⟩ := h
  obtain ⟨xs, n, _, _, hl, hlen, hx⟩ := DataW.trod_struct Try.underlying48 hf
  match xs, hlen with
  | [y0, y1], _ =>
    have g0 := hx 0 _ rfl
    have g1 := hx 1 _ rfl
    have k1 : Try.prog.cellsOf 46 = 1 := by kernel_rfl
    have k3 : Try.prog.cellsOf 3 = 1 := by kernel_rfl
    simp [Value.cells, k1, k3] at g0 g1
    obtain ⟨a1, rfl, w1⟩ := See.one Try.underlying3 g1
    obtain ⟨ao, n, c, b, off, rfl, hnc, hc, hao, hlt, hr⟩ := See.recs 4 (by omega) Try.underlying46 Try.underlying77 (by kernel_rfl) (by kernel_rfl) rfl g0
    have key : ∀ i, i < n → ∀ j, j < 4 → ∃ q, W.cell? ⟨b, off + i * 4 + j, none⟩ = some (.int .i64 q) ∧ (Lit.int .i64 q).wf = true := by
      intro i hi j hj
      match j, hj with
      | 0, _ => obtain ⟨q, e, g⟩ := hr i hi 0 _ rfl; obtain ⟨z, rfl, wz⟩ := See.Fld.int g Try.underlying3; exact ⟨z, e, wz⟩
      | 1, _ => obtain ⟨q, e, g⟩ := hr i hi 1 _ rfl; obtain ⟨z, rfl, wz⟩ := See.Fld.int g Try.underlying3; exact ⟨z, e, wz⟩
      | 2, _ => obtain ⟨q, e, g⟩ := hr i hi 2 _ rfl; obtain ⟨z, rfl, wz⟩ := See.Fld.int g Try.underlying3; exact ⟨z, e, wz⟩
      | 3, _ => obtain ⟨q, e, g⟩ := hr i hi 3 _ rfl; obtain ⟨z, rfl, wz⟩ := See.Fld.int g Try.underlying3; exact ⟨z, e, wz⟩
    refine ⟨ao, n, c, b, off, a1, fun i j => intOf ((W.cell? ⟨b, off + i * 4 + j, none⟩).getD default), rfl, by omega, hao, hlt, fun i hi j hj => ?_⟩
    obtain ⟨q, e, wq⟩ := key i hi j hj
    rw [e]
    exact ⟨rfl, wq⟩
end
end Go.Proofs.Ytmdajndmobpgbaa

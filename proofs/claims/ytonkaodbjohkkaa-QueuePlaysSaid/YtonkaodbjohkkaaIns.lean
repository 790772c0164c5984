/- Inserting one element at the front of a slice: the runs of copy and append, and what they make of the row. Over any program. -/
import Derived.Test.YtonkaodbjohkkaaKit
import Derived.Lib.AppendZerosOnto
import Derived.Lib.Overlaps
import Derived.Laws.IdiomCopy
namespace Go.Proofs.Ytonkaodbjohkkaa
open Go.RowKit

theorem run_copy_gen {P : Program} (w : World) (dT sT ty elem : TypeId) (size b o dLen dCap : Nat) (a : Addr) (sLen sCap : Nat) (cs : List Value)
    (hu : P.underlying dT = some (.slice elem)) (hs : (P.info? elem).map (·.size) = some size) (hn : cs.length = Nat.min sLen dLen * size)
    (hsrc : ∀ j v, cs[j]? = some v → w.cell? (a.add j) = some v) (hc : ∀ j, j < cs.length → (w.cell? ⟨b, o + j, none⟩).isSome = true) (hf : ∀ j, j < cs.length → w.frozen? ⟨b, o + j, none⟩ = false) (h1 : ∀ v ∈ cs, v.oneCell' = true) :
    (Builtin.copy_ #[dT, sT] ty #[.slice (some ⟨b, o, none⟩) dLen dCap, .slice (some a) sLen sCap]).run P w = .ok (goInt (Nat.min sLen dLen)) (w.setCells b o cs) := by
  have hl := run_loadCells_list (P := P) w a cs hsrc
  have hst := run_storeCells_cells (P := P) b o cs 0 w (by simpa using hc) (by simpa using hf) h1
  cases hq : P.info? elem with
  | none => simp [hq] at hs
  | some i =>
    have hi : i.size = size := by simpa [hq] using hs
    simp [Builtin.copy_, run_underlying hu, Builtin.lenOf, Builtin.firstCells, sizeOf, typeInfo, hq, hi, ← hn, hl, hst]
theorem wp_copy_run {P : Program} {w : World} {o : Oper} {a : Act} {K : Act → World → Prop} {Q : Exit → Act → World → Prop} (d s : Operand) (t t' : TypeId)
    (ho : o.op = .call { callee := .builtin .copy, args := #[d, s], argTypes := #[t, t'] }) {v u : Value} (hd : a.eval d = v) (hs : a.eval s = u) {v' : Value} {w' : World}
    (hr : (Builtin.copy_ #[t, t'] o.type #[v, u]).run P w = .ok v' w') (h : K (a.put o.dst v') w') : o.wp P a w K Q := by
  unfold Oper.wp execOp
  simp only [ho, resolve, invoke, builtin, Sem.run_bind, Sem.run_pure, Result.andThen_ok, List.map_toArray, List.map_cons, List.map_nil, hd, hs, hr]
  exact h
theorem wpList_copy_run {P : Program} {w : World} {ops : Array Oper} {rest : List Oper} {o : Oper} {a : Act} {Q : Exit → Act → World → Prop} (hgd : o.guard = none) (d s : Operand) (t t' : TypeId)
    (ho : o.op = .call { callee := .builtin .copy, args := #[d, s], argTypes := #[t, t'] }) {v u : Value} (hd : a.eval d = v) (hs : a.eval s = u) {v' : Value} {w' : World}
    (hr : (Builtin.copy_ #[t, t'] o.type #[v, u]).run P w = .ok v' w') (h : wpList P ops Q rest (a.put o.dst v') w') : wpList P ops Q (o :: rest) a w :=
  wpList_plain hgd fun _ hK => wp_copy_run d s t t' ho hd hs hr (hK _ _ h)
theorem step_copy_run {P : Program} {w : World} {ops : Array Oper} {o : Oper} {a : Act} {K : Act → World → Prop} {Q : Exit → Act → World → Prop} {E : Prop} (hg : o.guard = none) (d x : Operand) (t t' : TypeId)
    (ho : o.op = Op.call { callee := Callee.builtin Builtin.copy, args := #[d, x], argTypes := #[t, t'] }) {v u : Value} (hd : a.eval d = v) (hx : a.eval x = u) {v' : Value} {w' : World}
    (hr : (Builtin.copy_ #[t, t'] o.type #[v, u]).run P w = .ok v' w') (h : K (a.put o.dst v') w') : if Region.wanted o (yielded ops a.tmps) = true then Oper.wp P o a w K Q else E := by
  have hw : Region.wanted o (yielded ops a.tmps) = true := by simp [Region.wanted, hg]
  rw [if_pos hw]
  exact wp_copy_run d x t t' ho hd hx hr h
section
variable {w : World} {e : TypeId} {size n g off cap : Nat} {xs ys : List Value}
theorem drew_setCells (b : Nat) : ∀ (vs : List Value) (o : Nat) (w : World), (w.setCells b o vs).drew = w.drew.setCells b o vs
  | [], _, _ => rfl
  | v :: r, o, w => by rw [World.setCells, World.setCells, drew_setCells b r]; rfl
theorem block_shift {cur : Array Value} (hg : w.heap[g]? = some (.cells cur e (0, 0))) (hys : ys.length = size) (hroom : off + size + xs.length ≤ cur.size) :
    ∃ cur', ((w.setCells g (off + size) xs).setCells g off ys).heap[g]? = some (.cells cur' e (0, 0)) ∧ cur'.size = cur.size ∧ (cur'.toList.drop off).take (size + xs.length) = ys ++ xs := by
  obtain ⟨c1, h1, s1, l1⟩ := setCells_block g xs (off + size) w cur e (0, 0) hg hroom
  obtain ⟨c2, h2, s2, l2⟩ := setCells_block g ys off _ c1 e (0, 0) h1 (by omega)
  refine ⟨c2, h2, by omega, ?_⟩
  have ht : (c1.toList.take off).length = off := by rw [List.length_take, Array.length_toList]; omega
  have ht2 : (cur.toList.take (off + size)).length = off + size := by rw [List.length_take, Array.length_toList]; omega
  rw [l2, List.append_assoc, List.drop_append_of_le_length (by omega), List.drop_of_length_le (by omega), List.nil_append]
  rw [hys, l1, List.append_assoc, List.drop_append_of_le_length (by omega), List.drop_of_length_le (by omega), List.nil_append, ← List.append_assoc]
  rw [List.take_append_of_le_length (by rw [List.length_append]; omega), List.take_of_length_le (by rw [List.length_append]; omega)]
theorem OL.shift (h : OL w e size (.slice (some ⟨g, off, none⟩) n cap) n xs) (hys : ys.length = size) (hroom : n + 1 ≤ cap) :
    OL ((w.setCells g (off + size) xs).setCells g off ys) e size (.slice (some ⟨g, off, none⟩) (n + 1) cap) (n + 1) (ys ++ xs) := by
  have hlen := h.1
  rcases h.2 with ⟨h', _⟩ | ⟨g', off', cap', cur, h', hg, hnc, hcm, hsz, ht⟩
  · simp at h'
  · simp only [Value.slice.injEq, Option.some.injEq, Addr.mk.injEq, and_true, true_and] at h'
    obtain ⟨⟨rfl, rfl⟩, rfl⟩ := h'
    have e1 : (n + 1) * size = n * size + size := Nat.succ_mul ..
    have e2 : (n + 1) * size ≤ cap * size := Nat.mul_le_mul_right _ hroom
    obtain ⟨cur', h2, h3, h4⟩ := block_shift (xs := xs) (off := off) hg hys (by omega)
    refine ⟨by rw [List.length_append, hys, hlen]; omega, .inr ⟨g, off, cap, cur', rfl, h2, hroom, hcm, by omega, ?_⟩⟩
    rw [show (n + 1) * size = size + xs.length by omega]
    exact h4
/-- The same at a row of the call's own. -/
theorem new_shift {cur : Array Value} {G : Nat} (hg : w.heap[g]? = some (.cells cur e (0, 0))) (hys : ys.length = size) (hxs : xs.length = n * size) (hc : cur.size = G * size) (hG : n + 1 ≤ G) (hGm : G ≤ maxLen) :
    OL ((w.setCells g 0 ys).setCells g size xs) e size (.slice (some ⟨g, 0, none⟩) (n + 1) G) (n + 1) (ys ++ xs) := by
  have e1 : (n + 1) * size = n * size + size := Nat.succ_mul ..
  have e2 : (n + 1) * size ≤ G * size := Nat.mul_le_mul_right _ hG
  obtain ⟨c1, h1, s1, l1⟩ := setCells_block g ys 0 w cur e (0, 0) hg (by omega)
  obtain ⟨c2, h2, s2, l2⟩ := setCells_block g xs size _ c1 e (0, 0) h1 (by omega)
  refine ⟨by rw [List.length_append, hys, hxs]; omega, .inr ⟨g, 0, G, c2, rfl, h2, hG, hGm, by omega, ?_⟩⟩
  have ht : c1.toList.take size = ys := by
    rw [l1]
    simp only [List.take_zero, List.nil_append]
    rw [List.take_append_of_le_length (by omega), List.take_of_length_le (by omega)]
  rw [l2, ht, List.drop_zero, List.take_append_of_le_length (by rw [List.length_append]; omega), List.take_of_length_le (by rw [List.length_append]; omega)]
end
end Go.Proofs.Ytonkaodbjohkkaa

/- For walks of a document's functions, in any program: slices cut at the end, one element appended, a fresh slice in front. Conditions: short slices. -/
import Derived.Test.YtbpjfhfibllhgaaRk
namespace Go.Proofs.Ytbpjfhfibllhgaa
open Go.RowKit

section
variable {P : Program} {w w' w1 : World} {e : TypeId} {size n q : Nat} {v : Value} {xs : List Value}
/-- Cutting at the end: v[:k]. -/
theorem OL.head {g off cap : Nat} (h : OL w e size (.slice (some ⟨g, off, none⟩) n cap) n xs) (k : Nat) (hk : k ≤ n) : OL w e size (.slice (some ⟨g, off, none⟩) k cap) k (xs.take (k * size)) := by
  have hlen := h.1
  have hle : k * size ≤ n * size := Nat.mul_le_mul_right _ hk
  rcases h.2 with ⟨h', _⟩ | ⟨g', off', cap', cur, h', hg, hnc, hcm, hsz, ht⟩
  · simp at h'
  · simp only [Value.slice.injEq, Option.some.injEq, Addr.mk.injEq, and_true, true_and] at h'
    obtain ⟨⟨rfl, rfl⟩, rfl⟩ := h'
    refine ⟨by rw [List.length_take, hlen]; omega, .inr ⟨g, off, cap, cur, rfl, hg, by omega, hcm, hsz, ?_⟩⟩
    rw [← ht, List.take_take, Nat.min_eq_left hle]
/-- append(v, x...), both laid in rows. -/
theorem ol_app {m : Nat} {x : Value} {ys : List Value} (t : TypeId) (z : Value) (bytes : Nat) (ht : P.underlying t = some (.slice e)) (hinfo : (P.info? e).map (fun i => (i.zero, i.size, i.bytes)) = some (some z, size, bytes)) (hzs : z.cells.size = size) (hsz : 0 < size)
    (h : OL w e size v n xs) (hy : OL w e size x m ys) (hone : ∀ u ∈ ys, u.oneCell' = true) (hn : n + m ≤ 2000000) (hb : bytes ≤ 1000) :
    ∃ ao cap w', (Builtin.append_ #[t, t] t #[v, x]).run P w = .ok (.slice ao (n + m) cap) w' ∧ OL w' e size (.slice ao (n + m) cap) (n + m) (xs ++ ys) ∧ w.grownBy w' v.ownBlock ∧ ((Value.slice ao (n + m) cap).ownBlock = v.ownBlock ∨ (Value.slice ao (n + m) cap).ownBlock = some w.heap.size) := by
  obtain ⟨ti, hi', iz, is, ib⟩ := info_parts hinfo
  have hbb : (n + m) * bytes ≤ 2000000 * 1000 := Nat.mul_le_mul hn hb
  obtain ⟨v', w', hap, ho3, hg3, how3⟩ := h.append (P := P) t t t ti _ _ ht hi' iz is ib hzs hsz (OL.src hy ht hone) (by unfold maxLen; omega) (by omega)
  obtain ⟨ao, cap, rfl, _⟩ := OL.shape ho3
  exact ⟨ao, cap, w', hap, ho3, hg3, how3⟩
/-- append(v, x), x in a block of its own. -/
theorem ol_more {cs : List Value} (t : TypeId) (z : Value) (bytes : Nat) (ht : P.underlying t = some (.slice e)) (hinfo : (P.info? e).map (fun i => (i.zero, i.size, i.bytes)) = some (some z, size, bytes)) (hzs : z.cells.size = size) (hsz : 0 < size)
    (h : OL w e size v n xs) (hq : w.heap[q]? = some (.cells cs.toArray e (0, 0))) (hcs : cs.length = size) (hone : ∀ u ∈ cs, u.oneCell' = true) (hn : n ≤ 1000000) (hb : bytes ≤ 1000) :
    ∃ ao cap w', (Builtin.append_ #[t, t] t #[v, .slice (some ⟨q, 0, none⟩) 1 1]).run P w = .ok (.slice ao (n + 1) cap) w' ∧ OL w' e size (.slice ao (n + 1) cap) (n + 1) (xs ++ cs) ∧ w.grownBy w' v.ownBlock ∧ ((Value.slice ao (n + 1) cap).ownBlock = v.ownBlock ∨ (Value.slice ao (n + 1) cap).ownBlock = some w.heap.size) :=
  ol_app t z bytes ht hinfo hzs hsz h (OL.of_block (cs := cs) hq (by rw [hcs, Nat.one_mul]) (by simp [maxLen])) hone (by omega) hb
/-- What an append into the row of v leaves of other rows. -/
theorem grown_types (h : OL w e size v n xs) (hg : w.grownBy w' v.ownBlock) : ∀ (b : Nat) (cs : Array Value) (t : TypeId), t ≠ e → w.heap[b]? = some (Obj.cells cs t (0, 0)) → w'.heap[b]? = w.heap[b]? := fun b cs t ht hc =>
  hg.block b (lt_of_block hc) fun eq => by
    obtain ⟨cur, h2⟩ := OL.elem h b eq.symm
    exact type_ne hc h2 ht rfl
/-- The row of what append gives is new where v's was. -/
theorem grown_own {B : Nat} {ao : Option Addr} {m cap : Nat} (hv : ∀ g, v.ownBlock = some g → B ≤ g) (hB : B ≤ w.heap.size) (h : (Value.slice ao m cap).ownBlock = v.ownBlock ∨ (Value.slice ao m cap).ownBlock = some w.heap.size) : ∀ g, (Value.slice ao m cap).ownBlock = some g → B ≤ g := fun g hg => by
  rcases h with h | h
  · exact hv g (h.symm.trans hg)
  · have := Option.some.inj (h.symm.trans hg); omega
theorem cell_same {g o : Nat} (h : w'.heap[g]? = w.heap[g]?) (_ : True := trivial) : w'.cell? ⟨g, o, none⟩ = w.cell? ⟨g, o, none⟩ := by simp [World.cell?, h]
/-- What app_fresh gives lies in new blocks. -/
theorem grown_fresh {B g0 : Nat} {ao : Option Addr} {m cap : Nat} (h0 : B ≤ g0) (hB : B ≤ w.heap.size) (h : (Value.slice ao m cap).ownBlock = some g0 ∨ (Value.slice ao m cap).ownBlock = some w.heap.size) : ∀ g, (Value.slice ao m cap).ownBlock = some g → B ≤ g := fun g hg => by
  rcases h with h | h <;> (have := Option.some.inj (h.symm.trans hg); omega)
/-- A cell that can be read stays. -/
theorem below_cell {w0 wx : World} {g o : Nat} {u : Value} (hb : Below w0.heap.size w0 wx) (h : w0.cell? ⟨g, o, none⟩ = some u) : wx.cell? ⟨g, o, none⟩ = some u := by
  have hlt : g < w0.heap.size := by
    unfold World.cell? at h
    cases hh : w0.heap[g]? with
    | none => simp [hh] at h
    | some ob => exact lt_of_block hh
  exact (cell_same (hb.block g hlt) trivial).trans h
theorem results_cell3t {P : Program} {fn : Func} {p u v : Tmp} {ty : TypeId} (h : fn.results = #[.cell p ty, .tmp u, .tmp v]) (tmps : Array Value) (w : World) (g : Nat) (t : TypeId) (cs : Array Value) (fr : Nat × Nat) (d : TypeDesc)
    (hp : tmps.getD p undef = .pointer (some ⟨g, 0, none⟩)) (hg : w.heap[g]? = some (.cells cs t fr))
    (hu : P.underlying ty = some d) (hd : (match d with | .struct _ | .array _ _ => true | _ => false) = true) (hi : (P.info? ty).map (·.size) = some cs.size) :
    (results fn tmps).run P w = .ok (.tuple #[.agg cs, tmps.getD u undef, tmps.getD v undef]) w := by
  have hp' : tmps[p]?.getD undef = .pointer (some ⟨g, 0, none⟩) := by simpa using hp
  simp [results, h, hp', asAddr, run_loadVar_row w g t ty cs fr d hg hu hd hi]
end
end Go.Proofs.Ytbpjfhfibllhgaa

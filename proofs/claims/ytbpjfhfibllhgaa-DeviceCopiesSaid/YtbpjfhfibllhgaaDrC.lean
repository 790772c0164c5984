/- The document's with and programmed. Conditions: the lists can be read and are short. -/
import Derived.Test.YtbpjfhfibllhgaaDrB
namespace Go.Proofs.Ytbpjfhfibllhgaa
open Go.RowKit
open Go.Proofs.Ytbpjfhfibllhgaa.Dv

theorem rows_set2 {α : Type} {f : α → List Value} {a c : Value} {x : α} (hx : f x = [a, c]) (hf : ∀ y, (f y).length = 2) : ∀ (l : List α) (i : Nat), i < l.length → ((rowsC f l).set (i * 2) a).set (i * 2 + 1) c = rowsC f (l.set i x)
  | y :: l, 0, _ => by
    rw [List.set_cons_zero, rowsC_cons, rowsC_cons, hx]
    match hy : f y, hf y with
    | [u, v], _ => rfl
  | y :: l, i + 1, hi => by
    rw [List.set_cons_succ, rowsC_cons, rowsC_cons]
    have e : (i + 1) * 2 = (f y).length + i * 2 := by rw [hf]; omega
    rw [e, List.set_append_right _ _ (by omega), show (f y).length + i * 2 + 1 = (f y).length + (i * 2 + 1) by omega, List.set_append_right _ _ (by omega), Nat.add_sub_cancel_left, Nat.add_sub_cancel_left, rows_set2 hx hf l i (by simpa using hi)]
theorem rows_one {α : Type} (v : α → Value) : ∀ l : List α, rowsC (fun x => [v x]) l = l.map v
  | [] => rfl
  | x :: l => by rw [rowsC_cons, rows_one v l]; rfl
def NewB (l : List RBv) (w : World) (e : Ending) (w' : World) : Prop :=
  ∃ ao cap, e = .returned (.slice ao l.length cap) ∧ RowsAt 90 2 rbC w' (.slice ao l.length cap) l ∧ (∀ g, (Value.slice ao l.length cap).ownBlock = some g → w.heap.size ≤ g) ∧ Below w.heap.size w w'
section
variable {K J : Nat → Prop} {w w' wx : World} {v : Value} {l : List RBv}
theorem rbC_ones (h1 : ∀ x ∈ l, x.v.oneCell' = true) : ∀ u ∈ rowsC rbC l, u.oneCell' = true := rowsC_onesIn l fun x hx u hu => by
  simp only [rbC, List.mem_cons, List.not_mem_nil, or_false] at hu
  rcases hu with rfl | rfl
  · exact h1 x hx
  · rfl
theorem RbOk.one {x : RBv} (h : RbOk K w x) : x.v.oneCell' = true := by
  obtain ⟨ao, cap, e, _⟩ := OL.shape h.o
  rw [e]; rfl
theorem PvOk.one {x : PV} (h : PvOk K w x) : x.v.oneCell' = true := by
  obtain ⟨ao, cap, e, _⟩ := OL.shape h.o
  rw [e]; rfl
set_option maxRecDepth 100000 in
set_option maxHeartbeats 1600000 in
theorem dwith_any (h : RowsAt 90 2 rbC w v l) (h1 : ∀ x ∈ l, x.v.oneCell' = true) {i : Nat} (hi : i < l.length) (hl : l.length ≤ 100000) (xa : Option Addr) (xk xc : Nat) (xps : List PV) (xw : Int) :
    Calls Try.prog 53 #[v, .int .i64 i, .agg #[.slice xa xk xc, .int .i64 xw]] w (NewB (l.set i ⟨.slice xa xk xc, xps, xw⟩) w) := by
  obtain ⟨ao, cap, rfl, _⟩ := OL.shape h
  have b1 := (Below.refl w.heap.size w).alloc (Nat.le_refl _) (.cells #[(.slice xa xk xc), .int .i64 xw] 90)
  have b2 := b1.alloc b1.size (.cells #[] 90)
  have h2 := h.bel b2
  obtain ⟨oa, oc, w3, hap, ho, how, hb3⟩ := app_fresh (g := w.heap.size + 1) 61 _ _ Try.underlying61 infoRB rfl (by omega) (heap_at (w := w.alloc (.cells #[(.slice xa xk xc), .int .i64 xw] 90)) (o := .cells #[] 90) (by simp)) (OL.src h2 Try.underlying61 (rbC_ones h1)) (by unfold maxLen; omega) (by omega)
  have hb3' : Below w.heap.size w w3 := b2.trans (hb3.mono b2.size)
  have hnew : ∀ g, (Value.slice oa l.length oc).ownBlock = some g → w.heap.size ≤ g := fun g hg => by
    rcases how with h | h <;> (have := Option.some.inj (h.symm.trans hg); have := b2.size; simp at *; omega)
  obtain ⟨g, off, rfl⟩ : ∃ g off, oa = some ⟨g, off, none⟩ := by
    obtain ⟨_, _, e, _, _, h0⟩ := OL.shape ho
    cases e
    exact h0 (by omega)
  have hx := (hb3.block _ (by simp; omega)).trans (has_alloc (heap_alloc_new w (.cells #[(.slice xa xk xc), .int .i64 xw] 90)) (.cells #[] 90))
  have x0 := (has_cell hx 0).trans (show _ = some (Value.slice xa xk xc) from rfl)
  have x1 := (has_cell hx 1).trans (show _ = some (Value.int .i64 xw) from rfl)
  have hlen : (rowsC rbC l).length = l.length * 2 := rowsC_len rbC_len l
  have c0 := OL.cell ho (i * 2) (by omega)
  have c1 := OL.cell ho (i * 2 + 1) (by omega)
  rw [List.getElem?_eq_getElem (by omega)] at c0 c1
  rw [← Nat.add_assoc] at c1
  have z0 := fun j => OL.free ho j
  have o4 := OL.setCell (OL.setCell ho (i * 2) (by omega) (.slice xa xk xc)) (i * 2 + 1) (by omega) (.int .i64 xw)
  rw [rows_set2 (x := (⟨.slice xa xk xc, xps, xw⟩ : RBv)) rfl rbC_len l i hi, ← Nat.add_assoc] at o4
  have hb4 : Below w.heap.size w ((w3.setCell ⟨g, off + i * 2, none⟩ (.slice xa xk xc)).setCell ⟨g, off + i * 2 + 1, none⟩ (.int .i64 xw)) := (hb3'.setCell (p := ⟨g, off + i * 2, none⟩) (hnew g rfl) _).setCell (p := ⟨g, off + i * 2 + 1, none⟩) (hnew g rfl) _
  have HAP := Lib.hid hap
  have HR : Hid (NewB (l.set i ⟨.slice xa xk xc, xps, xw⟩) w (.returned (.slice (some ⟨g, off, none⟩) l.length oc)) ((w3.setCell ⟨g, off + i * 2, none⟩ (.slice xa xk xc)).setCell ⟨g, off + i * 2 + 1, none⟩ (.int .i64 xw))) := Lib.hid (by
    refine ⟨some ⟨g, off, none⟩, oc, by rw [List.length_set], ?_, by rw [List.length_set]; exact hnew, hb4⟩
    unfold RowsAt
    rw [List.length_set]
    exact o4)
  generalize (rowsC rbC l)[i * 2] = u0 at *
  generalize (rowsC rbC l)[i * 2 + 1] = u1 at *
  have hoc : l.length ≤ oc := by
    obtain ⟨_, _, e, h1, _⟩ := OL.shape ho
    cases e
    exact h1
  clear h h1 h2 ho how hb3 hb3' hnew hx hlen o4 hb4 b1 b2 hap
  obtain ⟨n, hn⟩ : ∃ n, l.length = n := ⟨_, rfl⟩
  rw [hn] at hi hl HAP HR hoc ⊢
  clear hn
  go_enter Try.func53, Try.ntmps53
  go_wp2_with (refine wpList_append_run (v := .slice (some ⟨w.heap.size + 1, 0, none⟩) 0 0) (xv := .slice ao n cap) rfl (.tmp 8) (.tmp 9) _ _ rfl (by rfl) (by rfl) HAP.out ?_)
  go_ret
  exact HR.out
end
end Go.Proofs.Ytbpjfhfibllhgaa

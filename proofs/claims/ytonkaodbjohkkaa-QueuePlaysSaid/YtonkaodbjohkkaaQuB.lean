/- queue: slices.Insert at the front of a full list; Insert in all cases. Conditions: the list is short. -/
import Derived.Test.YtonkaodbjohkkaaQuA
namespace Go.Proofs.Ytonkaodbjohkkaa
open Go.RowKit

section
variable {w : World} {v : Value} {n vb : Nat} {xs : List Value}
set_option maxRecDepth 100000 in
set_option maxHeartbeats 1000000 in
theorem ins_grow {g off cap : Nat} (h : OL w 65 2 (.slice (some ⟨g, off, none⟩) n cap) n xs) (hone : ∀ u ∈ xs, u.oneCell' = true) (hn : 0 < n) (hbig : n ≤ 1000000) (hroom : cap < n + 1) (k : ByteArray) (z : Int) (hb : w.heap[vb]? = some (.cells #[.string k, .int .i64 z] 65 (0, 0))) :
    Calls Try.prog 43 #[.slice (some ⟨g, off, none⟩) n cap, .int .i64 0, .slice (some ⟨vb, 0, none⟩) 1 1] w (InsP (.slice (some ⟨g, off, none⟩) n cap) n xs [.string k, .int .i64 z] w) := by
  have hlen := h.1
  obtain ⟨_, _, _, hE, hnc, hcm, hgl⟩ := h.form (by omega)
  simp only [Value.slice.injEq, Option.some.injEq, Addr.mk.injEq, and_true, true_and] at hE
  obtain ⟨⟨rfl, rfl⟩, rfl⟩ := hE
  obtain ⟨ti, hi, iz, is, ib⟩ := info_parts infoIt
  have hbl := lt_of_block hb
  have hold : (Builtin.firstCells ti.size 0 (.slice (some ⟨g, off, none⟩) 0 cap)).run Try.prog w.drew = .ok (#[] : Array Value) w.drew := by
    have := run_firstCells_some (P := Try.prog) w.drew ti.size 0 ⟨g, off, none⟩ 0 cap [] (by simp) (fun j u hu => by simp at hu)
    exact this
  have hrz := fun ty => Lib.run_append_grow_zeros (P := Try.prog) w 59 3 ty 65 ti _ .i64 .i64 Try.underlying59 Try.underlying3 hi iz (some ⟨g, off, none⟩) 0 cap [] hold (n + 1) (by omega) (by omega) (by omega) (by omega) (by rw [ib]; omega) (by rw [ib, Nat.zero_add]; exact growslice_fits hroom (by omega))
  simp only [Nat.zero_add] at hrz
  have hGn : n + 1 ≤ grownCap w (n + 1) cap 65 := grownCap_ge w _ _ _
  have hGm : grownCap w (n + 1) cap 65 ≤ maxLen := grownCap_le_maxLen w _ _ _ (by unfold maxLen; omega)
  generalize grownCap w (n + 1) cap 65 = G at hrz hGn hGm
  obtain ⟨ROW, hROW⟩ : ∃ ROW : Array Value, ROW = (([] : List Value).toArray ++ Builtin.zeroCells (Value.agg #[.string ByteArray.empty, .int .i64 0]).cells (n + 1) ++ Builtin.zeroCells (Value.agg #[.string ByteArray.empty, .int .i64 0]).cells (G - (n + 1))) := ⟨_, rfl⟩
  have hRs : ROW.size = G * 2 := by
    rw [hROW]
    have hc : (Value.agg #[.string ByteArray.empty, .int .i64 0]).cells.size = 2 := rfl
    simp only [Array.size_append, List.size_toArray, size_zeroCells, hc, List.length_nil, Nat.zero_add]
    omega
  rw [← hROW] at hrz
  have hnew := heap_alloc_new w.drew (.cells ROW 65)
  have hsz : w.drew.heap.size = w.heap.size := rfl
  have hbel : Below w.heap.size w (w.drew.alloc (.cells ROW 65)) := (below_drew _ _).alloc (Nat.le_refl _) _
  have hb1 := below_ats hbel hb
  have h1 := h.below hbel (fun j hj => h.lt j hj)
  clear hROW
  generalize hW1 : w.drew.alloc (.cells ROW 65) = W1 at *
  rw [hsz] at hnew
  have hvn : vb ≠ w.heap.size := by omega
  have hgn : g ≠ w.heap.size := by omega
  have hcp1 : ∀ ty dc, (Builtin.copy_ #[59, 58] ty #[.slice (some ⟨w.heap.size, 0, none⟩) (n + 1) dc, .slice (some ⟨vb, 0, none⟩) 1 1]).run Try.prog W1 = .ok (goInt (Nat.min 1 (n + 1))) (W1.setCells w.heap.size 0 [.string k, .int .i64 z]) := fun ty dc =>
    run_copy_gen W1 _ _ ty 65 2 w.heap.size 0 (n + 1) dc ⟨vb, 0, none⟩ 1 1 [.string k, .int .i64 z] Try.underlying59 sizeIt (by rw [show Nat.min 1 (n + 1) = 1 from Nat.min_eq_left (by omega)]; rfl)
      (fun j u hj => by rw [Addr.add_lit, Nat.zero_add, has_cell hb1]; simpa using hj) (fun j hj => by rw [has_cell hnew, Array.getElem?_eq_getElem (by simp at hj; omega)]; rfl) (fun j _ => has_free hnew _) (fun u hu => by simp at hu; rcases hu with rfl | rfl <;> rfl)
  obtain ⟨c1, hc1, hs1, _⟩ := setCells_block w.heap.size [.string k, .int .i64 z] 0 W1.drew ROW 65 (0, 0) hnew (by simp; omega)
  have hd : (W1.setCells w.heap.size 0 [.string k, .int .i64 z]).drew = W1.drew.setCells w.heap.size 0 [.string k, .int .i64 z] := drew_setCells _ _ _ _
  have h2 : OL (W1.drew.setCells w.heap.size 0 [.string k, .int .i64 z]) 65 2 (.slice (some ⟨g, off, none⟩) n cap) n xs := h1.heap fun j hj => by
    have : g = j := Option.some.inj hj
    subst this
    exact World.heap_setCells_other W1.drew w.heap.size 0 _ (h1.lt g rfl) hgn
  have hcp2 : ∀ ty dc sc, (Builtin.copy_ #[59, 59] ty #[.slice (some ⟨w.heap.size, 2, none⟩) n dc, .slice (some ⟨g, off, none⟩) n sc]).run Try.prog (W1.setCells w.heap.size 0 [.string k, .int .i64 z]).drew = .ok (goInt (Nat.min n n)) ((W1.setCells w.heap.size 0 [.string k, .int .i64 z]).drew.setCells w.heap.size 2 xs) := fun ty dc sc => by
    rw [hd]
    exact run_copy_gen _ _ _ ty 65 2 w.heap.size 2 n dc ⟨g, off, none⟩ n sc xs Try.underlying59 sizeIt (by rw [hlen, show Nat.min n n = n from Nat.min_self n])
      (fun j u hj => by rw [Addr.add_lit, h2.cell j (by have := (List.getElem?_eq_some_iff.1 hj).1; omega)]; exact hj) (fun j hj => by rw [has_cell hc1, Array.getElem?_eq_getElem (by omega)]; rfl) (fun j _ => has_free hc1 _) hone
  have hfin := new_shift (w := W1.drew) (G := G) (ys := [.string k, .int .i64 z]) (xs := xs) (n := n) (size := 2) (show W1.drew.heap[w.heap.size]? = _ from hnew) rfl hlen hRs hGn hGm
  rw [← hd] at hfin
  have hg1 := grownBy_setCells W1.drew w.heap.size 0 [.string k, .int .i64 z]
  rw [← hd] at hg1
  have hg2 := grownBy_setCells (W1.setCells w.heap.size 0 [.string k, .int .i64 z]).drew w.heap.size 2 xs
  have HP := Lib.hid (show InsP (.slice (some ⟨g, off, none⟩) n cap) n xs [.string k, .int .i64 z] w (.returned (.slice (some ⟨w.heap.size, 0, none⟩) (n + 1) G)) ((W1.setCells w.heap.size 0 [.string k, .int .i64 z]).drew.setCells w.heap.size 2 xs) from
    ⟨_, rfl, hfin, ⟨(hg2.os.trans hg1.os).trans hbel.os, (hg2.tape.trans hg1.tape).trans hbel.tape, (hg2.output.trans hg1.output).trans hbel.output, Nat.le_trans hbel.size (Nat.le_trans hg1.size hg2.size), fun j hj hr => ((hg2.block j (Nat.lt_of_lt_of_le hj (Nat.le_trans hbel.size hg1.size)) (fun e => by have := Option.some.inj e; omega)).trans (hg1.block j (Nat.lt_of_lt_of_le hj hbel.size) (fun e => by have := Option.some.inj e; omega))).trans (hbel.block j hj)⟩, .inr rfl⟩)
  have HRZ : Hid (∀ ty, (Builtin.append_ #[59, 3] ty #[.slice (some ⟨g, off, none⟩) 0 cap, .int .i64 ((n : Int) + 1)]).run Try.prog w = .ok (.slice (some ⟨w.heap.size, 0, none⟩) (n + 1) G) W1) := Lib.hid hrz
  have HC1 := Lib.hid hcp1
  have HC2 := Lib.hid hcp2
  clear hrz hcp1 hcp2 hfin hg1 hg2 h2 hc1 hs1 hd hnew hb1 h1 hbel hold hi iz is ib hone hRs h hlen hb hW1
  unfold maxLen at hcm hGm
  have hnn : ¬ (n : Int) = 0 := by omega
  have hl1 : (1 : Int) ≤ (n : Int) + 1 := by omega
  have hw1 : IntKind.i64.wrap 1 = 1 := by decide
  have hG0 : ¬ G = 0 := by omega
  have hG1 : ¬ G = 1 := by omega
  have hc0 : ¬ cap = 0 := by omega
  go_enter Try.func43, Try.ntmps43
  go_wp2_with (first
    | (refine wpList_append_run (v := .slice (some ⟨g, off, none⟩) 0 cap) (xv := .int .i64 ((n : Int) + 1)) rfl (.tmp 34) (.tmp 39) _ _ rfl (by rfl) (by rfl) (HRZ.out _) ?_)
    | (refine wpList_copy_run (v := .slice (some ⟨w.heap.size, 0, none⟩) (n + 1) G) (u := .slice (some ⟨vb, 0, none⟩) 1 1) rfl (.tmp 43) (.tmp 44) 59 58 rfl (by rfl) (by rfl) (HC1.out _ _) ?_))
  go_region_law (refine step_copy_run (v := .slice (some ⟨w.heap.size, 2, none⟩) n (G - 1)) (u := .slice (some ⟨g, off, none⟩) n cap) rfl (.tmp 50) (.tmp 53) 59 59 rfl (by simp [Act.eval, Act.put]) (by simp [Act.eval, Act.put]) (HC2.out _ _ _) ?_)
  go_wp2
  go_ret
  exact HP.out
/-- Insert at the front. -/
theorem ins_any (h : OL w 65 2 v n xs) (hone : ∀ u ∈ xs, u.oneCell' = true) (hbig : n ≤ 1000000) (k : ByteArray) (z : Int) (hb : w.heap[vb]? = some (.cells #[.string k, .int .i64 z] 65 (0, 0))) (hne : v.ownBlock ≠ some vb) :
    Calls Try.prog 43 #[v, .int .i64 0, .slice (some ⟨vb, 0, none⟩) 1 1] w (InsP v n xs [.string k, .int .i64 z] w) := by
  by_cases hn : 0 < n
  · obtain ⟨g, off, cap, rfl, _⟩ := h.form hn
    by_cases hr : n + 1 ≤ cap
    · exact ins_room h hone hn hr k z hb (fun e => hne (by rw [e]; rfl))
    · exact ins_grow h hone hn hbig (by omega) k z hb
  · obtain rfl : n = 0 := by omega
    exact ins_empty h k z hb
end
end Go.Proofs.Ytonkaodbjohkkaa

/- The document's New; its calls with bounds that the law gives; told. Conditions: the device is that of the program. -/
import Derived.Test.YtbpjfhfibllhgaaDrI
namespace Go.Proofs.Ytbpjfhfibllhgaa
open Go.RowKit
open Go.Proofs.Ytbpjfhfibllhgaa.Dv

theorem rb_blank : ∀ n, rowsC rbC (List.replicate n nilRB) = (madeCells #[.slice none 0 0, .int .i64 0] (n * 2)).toList := by
  intro n
  rw [← blkCells_blank n]
  induction n with
  | zero => rfl
  | succ n ih =>
    rw [List.replicate_succ, List.replicate_succ, List.replicate_succ, rowsC_cons, ih]
    rfl
/-- The document's device is within its bounds. -/
structure RLe (g : RG) : Prop where
  n1 : 1 ≤ g.nw.length
  n2 : g.nw.length ≤ 64
  d : g.du.length = g.nw.length
  p : g.pe.length ≤ 100000
  lf : g.left ≤ 9223372036854775807
  pg : g.pages ≤ 32
  ps : ∀ x ∈ g.du, x.ps.length ≤ 100
  ok : ∀ x ∈ g.pe, (0 ≤ x.block ∧ x.block < g.du.length) ∧ (0 ≤ x.page ∧ x.page < 100)
theorem RLe.of {n p : Nat} {s : Dev} {g : RG} (h : SimD n p s g.pl) (gd : Gd n p s) (hp : s.pending.length ≤ 100000) : RLe g := by
  have h1 : g.nw.length = n := by have := h.ln; simpa [RG.pl] using this
  have h2 : g.du.length = n := by have := h.ld; simpa [RG.pl] using this
  have h3 : s.pending.length = g.pe.length := by rw [h.pd]; simp [RG.pl]
  have h4 := h.left
  have h5 : g.pages = p := h.pg
  have hp2 := gd.p2
  refine ⟨by rw [h1]; exact gd.n1, by rw [h1]; exact gd.n2, by rw [h1, h2], by omega, ?_, by omega, fun x hx => ?_, fun x hx => ?_⟩
  · show g.pl.left ≤ _
    rw [h4]
    have := gd.l1
    split <;> omega
  · obtain ⟨i, hi, rfl⟩ := List.getElem_of_mem hx
    have := (h.du i (by omega)).l
    have e : (g.pl.durable.getD i nilR) = (g.du[i]).pl := by
      show (g.du.map RBv.pl).getD i nilR = _
      simp [List.getD, hi]
    rw [e] at this
    have e2 : ((g.du[i]).pl).1.length = (g.du[i]).ps.length := List.length_map _
    omega
  · obtain ⟨h6, h7, _⟩ := h.ok x.pl (List.mem_map_of_mem hx)
    rw [h2]
    have e1 : x.pl.block = x.block := rfl
    have e2 : x.pl.page = x.page := rfl
    rw [e1] at h6
    rw [e2] at h7
    exact ⟨h6, h7.1, by omega⟩
section
variable {K : Nat → Prop} {w : World} {q : RQ} {g : RG}
theorem derase_any (h : RAt K w q g) (le : RLe g) (x : Int) : Calls Try.prog 44 #[rgV q g, .int .i64 x] w (RetR K (g.pl.eraseS x) (g.pl.eraseE x) w) := by
  obtain ⟨ad, cd, an, cn, ap, cp, rfl, _, ⟨_, _, han⟩, _⟩ := h.shapes
  have hl : g.pl.now.length = g.nw.length := by simp [RG.pl]
  have n2 := le.n2
  unfold RDev.eraseS RDev.eraseE
  rw [hl]
  by_cases hx : 0 ≤ x ∧ x < g.nw.length
  · obtain ⟨i, rfl⟩ := Int.eq_ofNat_of_zero_le hx.1
    obtain ⟨gn, on, rfl⟩ := han le.n1
    rw [if_neg (show ¬ ¬ (0 ≤ (i : Int) ∧ (i : Int) < (g.nw.length : Int)) from fun f => f hx), if_neg (show ¬ ¬ (0 ≤ (i : Int) ∧ (i : Int) < (g.nw.length : Int)) from fun f => f hx)]
    exact derase_ok h rfl rfl le.lf (by omega) (by omega) le.p (Lib.hid rfl) (Lib.hid rfl)
  · rw [if_pos hx, if_pos hx]
    exact derase_bad h rfl x hx (by omega)
theorem dprog_any {da : Option Addr} {m dc db doff : Nat} {l : List Int} (h : RAt K w q g) (le : RLe g) (hd : RdB w da m db doff l) (hm : m ≤ 9223372036854775807) (x y : Int) :
    Calls Try.prog 48 #[rgV q g, .int .i64 x, .int .i64 y, .slice da m dc] w (RetR K (g.pl.progS x y l) (g.pl.progE x y m) w) := by
  obtain ⟨ad, cd, an, cn, ap, cp, rfl, _, ⟨_, _, han⟩, _⟩ := h.shapes
  have hl : g.pl.now.length = g.nw.length := by simp [RG.pl]
  have n2 := le.n2
  have pg := le.pg
  by_cases hr : (0 ≤ x ∧ x < g.nw.length) ∧ (0 ≤ y ∧ y < g.pages)
  · have hE : g.pl.progE x y m = if 512 < m then 5 else if y ≠ ((g.pl.blk x.toNat).1.length : Int) then 6 else if g.pl.pow.2 = false then 11 else 0 := by
      unfold RDev.progE; rw [hl, if_neg (fun f => f hr)]
    have hS : g.pl.progS x y l = if g.pl.progE x y m = 11 then g.pl.pow.1 else if g.pl.progE x y m = 0 then g.pl.pow.1.prog x.toNat y.toNat (fill l) else g.pl := by
      unfold RDev.progS; rw [hd.ll]
    by_cases h5 : 512 < m
    · rw [if_pos h5] at hE
      rw [hS, hE, if_neg (by decide), if_neg (by decide)]
      exact dprog_large h (by omega) h5 x y hr
    · rw [if_neg h5] at hE
      obtain ⟨i, rfl⟩ := Int.eq_ofNat_of_zero_le hr.1.1
      obtain ⟨gn, on, rfl⟩ := han le.n1
      obtain ⟨⟨xv, xps, xw⟩, hx⟩ : ∃ z, g.nw.getD i nilRB = z := ⟨_, rfl⟩
      have hb : (g.pl.blk (i : Int).toNat).1.length = xps.length := by
        rw [Int.toNat_natCast, RG.blk_pl, hx]
        exact List.length_map _
      rw [hb] at hE
      by_cases h6 : y = (xps.length : Int)
      · subst h6
        rw [if_neg (by simp)] at hE
        refine dprog_ok h rfl rfl le.lf (by omega) hx rfl (by omega) (by omega) le.p (by omega) (by omega) hd (Lib.hid ?_) (Lib.hid hE)
        rw [hS, hE]
        by_cases hp : g.pl.pow.2 = false
        · rw [if_pos hp, if_pos rfl, if_pos hp]
        · rw [if_neg hp, if_neg (by decide), if_pos rfl, if_neg hp, Int.toNat_natCast, Int.toNat_natCast]
      · rw [if_pos h6] at hE
        rw [hS, hE, if_neg (by decide), if_neg (by decide)]
        exact dprog_state h rfl (by omega) hx y hr.2 h6 (by omega) (by omega)
  · have hE : g.pl.progE x y m = 1 := by unfold RDev.progE; rw [hl]; exact if_pos hr
    have hS : g.pl.progS x y l = g.pl := by unfold RDev.progS; rw [hd.ll, hE, if_neg (by decide), if_neg (by decide)]
    rw [hS, hE]
    exact dprog_bad h (by omega) x y hr
end
def toldE (r : RDev) (a : ActV) (page : Int) : Int := if a.kind % 6 = 1 then r.eraseE a.block else if a.kind % 6 = 2 then r.syncE else if a.kind % 6 = 3 then 0 else if a.kind % 6 = 4 then 0 else r.progE a.block page a.dn
def toldS (r : RDev) (a : ActV) (page : Int) : RDev := if a.kind % 6 = 1 then r.eraseS a.block else if a.kind % 6 = 2 then r.syncS else if a.kind % 6 = 3 then r.fail a.page else if a.kind % 6 = 4 then r.crash (kf a.kn a.kX) else r.progS a.block page (bl a.dn a.dX)
/-- The program's act is the document's. -/
theorem SimD.act {n p : Nat} {s : Dev} {r : RDev} (h : SimD n p s r) (g : Gd n p s) (a : ActV) : doE n p s a = toldE r a (actPage n s a) ∧ SimD n p (doS n p s a) (toldS r a (actPage n s a)) := by
  unfold doE toldE doS toldS
  by_cases h1 : a.kind % 6 = 1
  · rw [if_pos h1, if_pos h1, if_pos h1, if_pos h1]; exact ⟨h.eraseE g _, h.eraseS g _⟩
  · rw [if_neg h1, if_neg h1, if_neg h1, if_neg h1]
    by_cases h2 : a.kind % 6 = 2
    · rw [if_pos h2, if_pos h2, if_pos h2, if_pos h2]; exact ⟨h.syncE g, h.syncS g⟩
    · rw [if_neg h2, if_neg h2, if_neg h2, if_neg h2]
      by_cases h3 : a.kind % 6 = 3
      · rw [if_pos h3, if_pos h3, if_pos h3, if_pos h3]; exact ⟨rfl, h.fail _⟩
      · rw [if_neg h3, if_neg h3, if_neg h3, if_neg h3]
        by_cases h4 : a.kind % 6 = 4
        · rw [if_pos h4, if_pos h4, if_pos h4, if_pos h4]; exact ⟨rfl, h.crash g _⟩
        · rw [if_neg h4, if_neg h4, if_neg h4, if_neg h4]
          exact ⟨h.progE g _ _ _, h.progS g _ _ _⟩
theorem blank_rows {w : World} {b n : Nat} (hn : n ≤ 64) (h : w.heap[b]? = some (.cells (madeCells #[.slice none 0 0, .int .i64 0] (n * 2)) 90 (0, 0))) : RowsAt 90 2 rbC w (.slice (some ⟨b, 0, none⟩) n n) (List.replicate n nilRB) := by
  unfold RowsAt
  rw [List.length_replicate]
  have e : madeCells #[Value.slice none 0 0, .int .i64 0] (n * 2) = (rowsC rbC (List.replicate n nilRB)).toArray := by rw [rb_blank]
  rw [e] at h
  exact OL.of_block h (by rw [rowsC_len rbC_len]; simp) (by unfold maxLen; omega)
theorem dnew_end (w : World) {n : Nat} (p : Int) (hn : n ≤ 64) (cs : Array Value) {b1 b2 : Nat} (h : (b1 = w.heap.size + 1 ∧ b2 = w.heap.size + 1 + 1) ∨ (b1 = w.heap.size + 1 + 1 ∧ b2 = w.heap.size + 1)) {wx : World} (hx : wx = (((w.alloc (.cells cs tRD)).alloc (.cells (madeCells #[.slice none 0 0, .int .i64 0] (n * 2)) 90)).alloc (.cells (madeCells #[.slice none 0 0, .int .i64 0] (n * 2)) 90)).drew) :
    wx.heap[w.heap.size]? = some (.cells cs tRD (0, 0)) ∧ RAt (fun j => False ∨ w.heap.size ≤ j) wx ⟨.slice (some ⟨b1, 0, none⟩) n n, .slice (some ⟨b2, 0, none⟩) n n, .slice none 0 0⟩ ⟨p, List.replicate n nilRB, List.replicate n nilRB, [], false, -1⟩ ∧ Below w.heap.size w wx := by
  subst hx
  have r1 := has_alloc (has_alloc (heap_alloc_new w (.cells cs tRD)) (.cells (madeCells #[.slice none 0 0, .int .i64 0] (n * 2)) 90)) (.cells (madeCells #[.slice none 0 0, .int .i64 0] (n * 2)) 90)
  have r2 := has_alloc (heap_at (g := w.heap.size + 1) (w := w.alloc (.cells cs tRD)) (o := .cells (madeCells #[.slice none 0 0, .int .i64 0] (n * 2)) 90) (by simp)) (.cells (madeCells #[.slice none 0 0, .int .i64 0] (n * 2)) 90)
  have r3 := heap_at (g := w.heap.size + 1 + 1) (w := (w.alloc (.cells cs tRD)).alloc (.cells (madeCells #[.slice none 0 0, .int .i64 0] (n * 2)) 90)) (o := .cells (madeCells #[.slice none 0 0, .int .i64 0] (n * 2)) 90) (by simp)
  have hb : ∀ {b : Nat}, b = w.heap.size + 1 ∨ b = w.heap.size + 1 + 1 → w.heap.size ≤ b := fun {b} h => by omega
  have key : ∀ {b : Nat}, b = w.heap.size + 1 ∨ b = w.heap.size + 1 + 1 → (((w.alloc (.cells cs tRD)).alloc (.cells (madeCells #[.slice none 0 0, .int .i64 0] (n * 2)) 90)).alloc (.cells (madeCells #[.slice none 0 0, .int .i64 0] (n * 2)) 90)).drew.heap[b]? = some (.cells (madeCells #[.slice none 0 0, .int .i64 0] (n * 2)) 90 (0, 0)) := fun {b} h => by
    rcases h with rfl | rfl
    · exact r2
    · exact r3
  have h1 : b1 = w.heap.size + 1 ∨ b1 = w.heap.size + 1 + 1 := by omega
  have h2 : b2 = w.heap.size + 1 ∨ b2 = w.heap.size + 1 + 1 := by omega
  have hr : ∀ {P : RBv → Prop}, P nilRB → ∀ x ∈ List.replicate n nilRB, P x := fun hp x hx => by rw [(List.mem_replicate.1 hx).2]; exact hp
  refine ⟨r1, ⟨blank_rows hn (key h1), blank_rows hn (key h2), OL.nil _ _ _, fun k hk => ?_, fun k hk => ?_, fun k hk => by simp [Value.ownBlock] at hk, hr (RbOk.nil _ _ _), hr (RbOk.nil _ _ _), fun x hx => by cases hx⟩, by go_grown⟩
  · have hk : b1 = k := Option.some.inj hk
    subst hk
    exact .inr (hb h1)
  · have hk : b2 = k := Option.some.inj hk
    subst hk
    exact .inr (hb h2)
set_option maxRecDepth 100000 in
set_option maxHeartbeats 1600000 in
theorem dnew_any (w : World) {n : Nat} (p : Int) (hn : n ≤ 64) : Calls Try.prog 42 #[.int .i64 n, .int .i64 p] w (RetR1 (fun _ => False) ⟨p, List.replicate n nilR, List.replicate n nilR, [], false, -1⟩ w) := by
  obtain ⟨i0, hi, iz, is, ib⟩ := info_parts infoRB
  have hmk : ∀ w, (Instr.makeSlice 61 (.int .i64 (n : Int)) (.int .i64 (n : Int))).run Try.prog w = .ok (.slice (some ⟨w.heap.size, 0, none⟩) n n) (w.alloc (.cells (madeCells #[.slice none 0 0, .int .i64 0] (n * 2)) 90)) := fun w => by
    have := run_make (P := Try.prog) w 61 90 i0 _ Try.underlying61 hi iz .i64 .i64 (n : Int) (n : Int) (by omega) (Int.le_refl _) (by rw [ib]; omega) (by omega)
    rw [is] at this
    exact this
  go_enter Try.func42, Try.ntmps42
  go_upto_region 1 with fail
  go_region
  · generalize hwx : (((w.alloc (.cells #[.int .i64 p, .slice (some ⟨w.heap.size + 1, 0, none⟩) n n, .slice (some ⟨w.heap.size + 1 + 1, 0, none⟩) n n, .slice none 0 0, .bool false, .int .i64 (-1)] 64)).alloc (.cells (madeCells #[.slice none 0 0, .int .i64 0] (n * 2)) 90)).alloc (.cells (madeCells #[.slice none 0 0, .int .i64 0] (n * 2)) 90)).drew = wx
    have HE := Lib.hid (dnew_end w p hn _ (.inl ⟨rfl, rfl⟩) hwx.symm)
    clear hwx
    repeat (first | go_values | go_skip | go_guarded | go_step | go_upon)
    try simp only [Exit.inBlock, Exit.then]
    refine bodyPost_ret (results_cell_row rfl _ _ w.heap.size 64 _ (0, 0) _ rfl HE.out.1 Try.underlying64 rfl infoR6) rfl ?_
    exact ⟨_, _, rfl, HE.out.2.1, by simp [RG.pl, List.map_replicate, RBv.pl, nilRB, nilR], HE.out.2.2⟩
  · generalize hwx : (((w.alloc (.cells #[.int .i64 p, .slice (some ⟨w.heap.size + 1 + 1, 0, none⟩) n n, .slice (some ⟨w.heap.size + 1, 0, none⟩) n n, .slice none 0 0, .bool false, .int .i64 (-1)] 64)).alloc (.cells (madeCells #[.slice none 0 0, .int .i64 0] (n * 2)) 90)).alloc (.cells (madeCells #[.slice none 0 0, .int .i64 0] (n * 2)) 90)).drew = wx
    have HE := Lib.hid (dnew_end w p hn _ (.inr ⟨rfl, rfl⟩) hwx.symm)
    clear hwx
    repeat (first | go_values | go_skip | go_guarded | go_step | go_upon)
    try simp only [Exit.inBlock, Exit.then]
    refine bodyPost_ret (results_cell_row rfl _ _ w.heap.size 64 _ (0, 0) _ rfl HE.out.1 Try.underlying64 rfl infoR6) rfl ?_
    exact ⟨_, _, rfl, HE.out.2.1, by simp [RG.pl, List.map_replicate, RBv.pl, nilRB, nilR], HE.out.2.2⟩
end Go.Proofs.Ytbpjfhfibllhgaa

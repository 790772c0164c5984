/- The document's price. Conditions: the admission can be read; the tenant has a request. The document's with: buckets, one of them replaced. Conditions: the buckets can be read. -/
import Derived.Test.YtmdajndmobpgbaaZApE
namespace Go.Proofs.Ytmdajndmobpgbaa
open Go.RowKit
open Go.Proofs.Ytmdajndmobpgbaa.Fq
open Go.Proofs.Ytmdajndmobpgbaa.Bk

section
variable {K : Nat → Prop} {w : World} {lv : List Value} {a : DA} {q : DQ}
/-- What is read of a tenant. -/
theorem DAt.tenant (h : DAt K w q lv a) {ab al : Option Addr} {cb cl : Nat} (hb : q.b = .slice ab a.bks.length cb) (hl : q.l = .slice al a.f.m cl) {t : Nat} (ht : t < a.f.m) (htb : t < a.bks.length) {e : Ent} {r : List Ent} (he : a.f.lst t = e :: r) :
    ∃ gb ob gl ol ge oe ce, ab = some ⟨gb, ob, none⟩ ∧ al = some ⟨gl, ol, none⟩ ∧ w.cell? ⟨gb, ob + t * 5, none⟩ = some (.int .i64 (a.bks.getD t nilDB).b) ∧ w.cell? ⟨gl, ol + t, none⟩ = some (.slice (some ⟨ge, oe, none⟩) (r.length + 1) ce) ∧
      w.cell? ⟨ge, oe + 1, none⟩ = some (.int .i64 e.2) ∧ w.cell? ⟨ge, oe, none⟩ = some (.int .i64 e.1) ∧ r.length + 1 ≤ ce ∧ ce ≤ 9223372036854775807 := by
  have h1 := h.b
  rw [hb] at h1
  obtain ⟨gb, ob, rfl, hc⟩ := RowsAt.at_ h1 dbC_len htb nilDB
  have c0 := (hc 0 (by omega)).trans (show _ = some (Value.int .i64 (a.bks.getD t nilDB).b) from rfl)
  have h2 := h.f.a.l
  rw [hl] at h2
  obtain ⟨gl, ol, _, e2, _⟩ := OL.form h2 (by omega)
  simp only [Value.slice.injEq] at e2
  obtain ⟨rfl, -, -⟩ := e2
  have hlv : t < lv.length := by rw [h.f.a.lvl]; exact ht
  have c1 := OL.cell h2 t (by omega)
  have e3 : lv[t]? = some (lv.getD t nilS) := by simp [List.getD, hlv]
  rw [e3] at c1
  have h4 := h.f.a.e t ht
  rw [he] at h4
  obtain ⟨ge, oe, ce, e5, h5, h6, _⟩ := OL.form h4 (by simp)
  rw [e5] at c1 h4
  have k0 := OL.cell h4 0 (by simp)
  have k1 := OL.cell h4 1 (by simp; omega)
  refine ⟨gb, ob, gl, ol, ge, oe, ce, rfl, rfl, by rw [Nat.add_zero] at c0; exact c0, c1, k1.trans rfl, ?_, by simpa using h5, by unfold maxLen at h6; omega⟩
  rw [Nat.add_zero] at k0
  exact k0.trans rfl
set_option maxRecDepth 100000 in
set_option maxHeartbeats 1600000 in
theorem rprice_any (h : DAt K w q lv a) {t : Nat} (hlm : a.f.m ≤ 1000000) (hlb : a.bks.length = a.f.m) (ht : t < a.f.m) {e : Ent} {r : List Ent} (he : a.f.lst t = e :: r) :
    Calls Try.prog 54 #[daV q a, .int .i64 t] w fun en w' => en = .returned (.int .i64 (min e.2 (a.bks.getD t nilDB).b)) ∧ Below w.heap.size w w' := by
  obtain ⟨ab, cb, aq, cq, ad, cd, al, cl, ar, cr, rfl, ⟨hcb, hcb2⟩, ⟨hcl, hcl2⟩, -⟩ := h.shapes
  have hb0 := (Below.refl w.heap.size w).alloc (Nat.le_refl _) (.cells #[.int .i64 a.slots, .slice ab a.bks.length cb, .slice aq a.f.m cq, .slice ad a.f.m cd, .slice al a.f.m cl, .int .i64 a.f.cur, .bool a.f.begun, .slice ar a.run.length cr] 57)
  have hx0 := heap_alloc_new w (.cells #[.int .i64 a.slots, .slice ab a.bks.length cb, .slice aq a.f.m cq, .slice ad a.f.m cd, .slice al a.f.m cl, .int .i64 a.f.cur, .bool a.f.begun, .slice ar a.run.length cr] 57)
  obtain ⟨gb, ob, gl, ol, ge, oe, ce, rfl, rfl, c0, c1, c2, _, hce, hce2⟩ := (h.bel hb0).tenant rfl rfl ht (by rw [hlb]; exact ht) he
  clear h he
  unfold daV daC
  dsimp only
  rw [hlb] at hx0 hb0 c0 c1 c2 hcb ⊢
  obtain ⟨bx, hbx⟩ : ∃ bx, w.heap.size = bx := ⟨_, rfl⟩
  rw [hbx] at hx0
  generalize (a.bks.getD t nilDB).b = B at *
  generalize e.2 = z at *
  generalize r.length = rn at *
  generalize a.f.m = m at *
  go_enter Try.func54, Try.ntmps54
  go_upto_region 1 with fail
  generalize w.alloc (.cells #[.int .i64 a.slots, .slice (some ⟨gb, ob, none⟩) m cb, .slice aq m cq, .slice ad m cd, .slice (some ⟨gl, ol, none⟩) m cl, .int .i64 a.f.cur, .bool a.f.begun, .slice ar a.run.length cr] 57) = w1 at *
  obtain ⟨⟨x0, x1, x2, x3, x4, x5, x6, x7⟩, _⟩ := get8 hx0
  have HB := Lib.hid hb0
  clear hx0 hb0 hbx x0 x2 x3 x5 x6 x7
  have hti : (t : Int) < m := by omega
  go_quiet (fail)
  go_wp2
  go_ret
  exact ⟨rfl, HB.out.trans ((below_draw _ _ _).mono HB.out.size)⟩
end
end Go.Proofs.Ytmdajndmobpgbaa

namespace Go.Proofs.Ytmdajndmobpgbaa
open Go.RowKit
open Go.Proofs.Ytmdajndmobpgbaa.Fq
open Go.Proofs.Ytmdajndmobpgbaa.Bk

theorem rowsC_set5 : ∀ (l : List DB) (i : Nat) (x : DB), i < l.length → rowsC dbC (l.set i x) = (((((rowsC dbC l).set (i * 5) (.int .i64 x.b)).set (i * 5 + 1) (.int .i64 x.t)).set (i * 5 + 2) (.int .i64 x.k)).set (i * 5 + 3) (.int .i64 x.p)).set (i * 5 + 4) (.int .i64 x.l)
  | y :: l, 0, x, _ => by simp [rowsC_cons, dbC]
  | y :: l, i + 1, x, h => by
    have ih := rowsC_set5 l i x (by simpa using h)
    rw [List.set_cons_succ, rowsC_cons, rowsC_cons, ih]
    simp [dbC, Nat.add_mul]
section
variable {w : World} {l : List DB} {ab : Option Addr} {nb cb : Nat}
theorem RowsAt.set5 {g off cap : Nat} (h : RowsAt 114 5 dbC w (.slice (some ⟨g, off, none⟩) l.length cap) l) {i : Nat} (hi : i < l.length) (x : DB) :
    RowsAt 114 5 dbC (((((w.setCell ⟨g, off + i * 5, none⟩ (.int .i64 x.b)).setCell ⟨g, off + i * 5 + 1, none⟩ (.int .i64 x.t)).setCell ⟨g, off + i * 5 + 2, none⟩ (.int .i64 x.k)).setCell ⟨g, off + i * 5 + 3, none⟩ (.int .i64 x.p)).setCell ⟨g, off + i * 5 + 4, none⟩ (.int .i64 x.l)) (.slice (some ⟨g, off, none⟩) l.length cap) (l.set i x) := by
  unfold RowsAt at *
  rw [List.length_set, rowsC_set5 l i x hi]
  have h0 := OL.setCell h (i * 5) (by omega) (.int .i64 x.b)
  have h1 := OL.setCell h0 (i * 5 + 1) (by omega) (.int .i64 x.t)
  have h2 := OL.setCell h1 (i * 5 + 2) (by omega) (.int .i64 x.k)
  have h3 := OL.setCell h2 (i * 5 + 3) (by omega) (.int .i64 x.p)
  have h4 := OL.setCell h3 (i * 5 + 4) (by omega) (.int .i64 x.l)
  simp only [Nat.add_assoc] at h4 ⊢
  exact h4
theorem OL.some5 {w : World} {e : TypeId} {n g off cap : Nat} {xs : List Value} (h : OL w e 5 (.slice (some ⟨g, off, none⟩) n cap) n xs) {k : Nat} (hk : k < n * 5) : (∃ u, w.cell? ⟨g, off + k, none⟩ = some u) ∧ w.frozen? ⟨g, off + k, none⟩ = false := by
  have hc := OL.cell h k hk
  have hl : k < xs.length := by rw [h.1]; exact hk
  rw [List.getElem?_eq_getElem hl] at hc
  exact ⟨⟨_, hc⟩, OL.free h _⟩
def WithP (l : List DB) (w : World) (e : Ending) (w' : World) : Prop := ∃ v, e = .returned v ∧ RowsAt 114 5 dbC w' v l ∧ (∀ k, v.ownBlock = some k → w.heap.size ≤ k) ∧ Below w.heap.size w w'
set_option maxRecDepth 100000 in
set_option maxHeartbeats 1600000 in
theorem rwith_any (h : RowsAt 114 5 dbC w (.slice ab nb cb) l) (hn : l.length = nb) (hnb : nb ≤ 1000) {i : Nat} (hi : i < nb) (x : DB) :
    Calls Try.prog 55 #[.slice ab nb cb, .int .i64 i, bkV x.b x.t x.k x.p x.l] w (WithP (l.set i x) w) := by
  obtain ⟨B, T, K, P, L⟩ := x
  have hb0 := (Below.refl w.heap.size w).alloc (Nat.le_refl _) (.cells #[.int .i64 B, .int .i64 T, .int .i64 K, .int .i64 P, .int .i64 L] 114)
  have hx0 := heap_alloc_new w (.cells #[.int .i64 B, .int .i64 T, .int .i64 K, .int .i64 P, .int .i64 L] 114)
  unfold bkV bkA
  dsimp only
  go_enter Try.func55, Try.ntmps55
  go_upto_region 1 with fail
  have hox := h.bel hb0
  generalize w.alloc (.cells #[.int .i64 B, .int .i64 T, .int .i64 K, .int .i64 P, .int .i64 L] 114) = w1 at *
  unfold RowsAt at hox
  rw [hn] at hox
  obtain ⟨g, off, cap, w2, hap, ho, hg, hb2⟩ := fresh_append (P := Try.prog) (w := w1) 52 _ _ Try.underlying52 infoDB rfl (by omega) (OL.src (OL.bel hox ((Below.refl w1.heap.size w1).alloc (Nat.le_refl _) (.cells #[] 114))) Try.underlying52 (rowsC_ones dbC_one l)) (by unfold maxLen; omega) (by omega)
  have HAP := Lib.hid hap
  have HR : Hid (RowsAt 114 5 dbC w2 (.slice (some ⟨g, off, none⟩) l.length cap) l) := Lib.hid (by unfold RowsAt; rw [hn]; exact ho)
  have HX2 := Lib.hid ((hb2.block _ (lt_of_block hx0)).trans hx0)
  have HB2 := Lib.hid (hb0.trans (hb2.mono hb0.size))
  have HG : Hid (w.heap.size ≤ g) := Lib.hid (Nat.le_trans hb0.size hg)
  have HN := Lib.hid hn
  obtain ⟨_, _, ecp, hcp, hcp2, _⟩ := OL.shape ho
  simp only [Value.slice.injEq] at ecp
  obtain ⟨-, -, rfl⟩ := ecp
  have hii : i < l.length := by rw [hn]; exact hi
  clear h hox hap ho hg hb2 hx0 hb0 hn
  go_upto_region 2 with (refine wpList_append_run (v := .slice (some ⟨w1.heap.size, 0, none⟩) 0 0) (xv := .slice ab nb cb) rfl (.tmp 8) (.tmp 9) _ _ rfl (by rfl) (by rfl) HAP.out ?_)
  clear HAP
  obtain ⟨_, _, eg, hc⟩ := RowsAt.at_ HR.out dbC_len hii nilDB
  cases eg
  clear hc
  have h0 := HR.out
  unfold RowsAt at h0
  have h1 := OL.setCell h0 (i * 5) (by omega) (.int .i64 B)
  have h2 := OL.setCell h1 (i * 5 + 1) (by omega) (.int .i64 T)
  have h3 := OL.setCell h2 (i * 5 + 2) (by omega) (.int .i64 K)
  have h4 := OL.setCell h3 (i * 5 + 3) (by omega) (.int .i64 P)
  obtain ⟨⟨u0, k0⟩, z0⟩ := OL.some5 h0 (k := i * 5) (by omega)
  obtain ⟨⟨u1, k1⟩, z1⟩ := OL.some5 h1 (k := i * 5 + 1) (by omega)
  obtain ⟨⟨u2, k2⟩, z2⟩ := OL.some5 h2 (k := i * 5 + 2) (by omega)
  obtain ⟨⟨u3, k3⟩, z3⟩ := OL.some5 h3 (k := i * 5 + 3) (by omega)
  obtain ⟨⟨u4, k4⟩, z4⟩ := OL.some5 h4 (k := i * 5 + 4) (by omega)
  clear h0 h1 h2 h3 h4
  simp only [← Nat.add_assoc] at k1 k2 k3 k4 z1 z2 z3 z4
  have HF := Lib.hid (HR.out.set5 hii ⟨B, T, K, P, L⟩)
  have HBF := Lib.hid (((((HB2.out.setCell (p := ⟨g, off + i * 5, none⟩) HG.out (.int .i64 B)).setCell (p := ⟨g, off + i * 5 + 1, none⟩) HG.out (.int .i64 T)).setCell (p := ⟨g, off + i * 5 + 2, none⟩) HG.out (.int .i64 K)).setCell (p := ⟨g, off + i * 5 + 3, none⟩) HG.out (.int .i64 P)).setCell (p := ⟨g, off + i * 5 + 4, none⟩) HG.out (.int .i64 L))
  rw [HN.out] at HF
  have hin : (i : Int) < nb := by omega
  go_wp2_with (first | (refine wpList_load_row rfl 114 (.tmp 5) rfl w.heap.size (by rfl) 114 #[.int .i64 B, .int .i64 T, .int .i64 K, .int .i64 P, .int .i64 L] (0, 0) _ HX2.out Try.underlying114 rfl infoBK ?_))
  go_ret
  exact ⟨_, rfl, HF.out, fun k hk => by simp [Value.ownBlock] at hk; have := HG.out; omega, HBF.out⟩
end
end Go.Proofs.Ytmdajndmobpgbaa

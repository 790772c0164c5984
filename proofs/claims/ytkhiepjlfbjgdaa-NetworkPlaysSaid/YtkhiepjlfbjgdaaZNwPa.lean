/- network: the document's network in memory. Conditions: it can be read. -/
import Derived.Test.YtkhiepjlfbjgdaaZNwDelP
import Derived.Test.YtkhiepjlfbjgdaaZNwPp
import Derived.Test.YtkhiepjlfbjgdaaZRk3
import Derived.BigQuiet
namespace Go.Proofs.Ytkhiepjlfbjgdaa
open Go.RowKit

theorem infoDU : (Try.prog.info? 127).map (fun i => (i.zero, i.size, i.bytes)) = some (some (.agg #[.string ByteArray.empty, .string ByteArray.empty, .int .i64 0]), 3, 40) := by kernel_rfl
theorem infoDF : (Try.prog.info? 114).map (fun i => (i.zero, i.size, i.bytes)) = some (some (.agg #[.string ByteArray.empty, .string ByteArray.empty, .int .i64 0, .slice none 0 0]), 4, 64) := by kernel_rfl
theorem infoDC : (Try.prog.info? 117).map (fun i => (i.zero, i.size, i.bytes)) = some (some (.agg #[.string ByteArray.empty, .string ByteArray.empty, .int .i64 0, .int .i64 0]), 4, 48) := by kernel_rfl
theorem infoDD : (Try.prog.info? 75).map (fun i => (i.zero, i.size, i.bytes)) = some (some (.agg #[.int .i64 0, .string ByteArray.empty, .string ByteArray.empty, .string ByteArray.empty]), 4, 56) := by kernel_rfl
def tDN : TypeId := 69
def uC (x : UR) : List Value := [.string x.1, .string x.2.1, .int .i64 x.2.2]
def fC (x : FR) : List Value := [.string x.a, .string x.b, .int .i64 x.i, x.v]
def cC (c : NCut) : List Value := [.string c.a, .string c.b, .int .i64 c.t0, .int .i64 c.t1]
def dC (x : DL) : List Value := [.int .i64 x.t, .string x.a, .string x.b, .string x.d]
structure DNv where
  vu : Value
  vf : Value
  vc : Value
  vs : Value
  vl : Value
def dnC (q : DNv) (s : DN) : Array Value := #[.int .i64 s.dflt, .int .i64 s.present, .int .i64 s.lost, q.vu, q.vf, q.vc, q.vs, q.vl]
/-- A row of 8 cells is set anew. -/
theorem set_row8 {w : World} {rb : Nat} {t : TypeId} {a0 a1 a2 a3 a4 a5 a6 a7 : Value} (h : w.heap[rb]? = some (.cells #[a0, a1, a2, a3, a4, a5, a6, a7] t (0, 0))) (x0 x1 x2 x3 x4 x5 x6 x7 : Value) :
    ((((((((w.setCell ⟨rb, 0, none⟩ x0).setCell ⟨rb, 1, none⟩ x1).setCell ⟨rb, 2, none⟩ x2).setCell ⟨rb, 3, none⟩ x3).setCell ⟨rb, 4, none⟩ x4).setCell ⟨rb, 5, none⟩ x5).setCell ⟨rb, 6, none⟩ x6).setCell ⟨rb, 7, none⟩ x7).heap[rb]? = some (.cells #[x0, x1, x2, x3, x4, x5, x6, x7] t (0, 0)) ∧
    (∀ k, k ≠ rb → ((((((((w.setCell ⟨rb, 0, none⟩ x0).setCell ⟨rb, 1, none⟩ x1).setCell ⟨rb, 2, none⟩ x2).setCell ⟨rb, 3, none⟩ x3).setCell ⟨rb, 4, none⟩ x4).setCell ⟨rb, 5, none⟩ x5).setCell ⟨rb, 6, none⟩ x6).setCell ⟨rb, 7, none⟩ x7).heap[k]? = w.heap[k]?) ∧
    ∀ B w0, B ≤ rb → Below B w0 w → Below B w0 ((((((((w.setCell ⟨rb, 0, none⟩ x0).setCell ⟨rb, 1, none⟩ x1).setCell ⟨rb, 2, none⟩ x2).setCell ⟨rb, 3, none⟩ x3).setCell ⟨rb, 4, none⟩ x4).setCell ⟨rb, 5, none⟩ x5).setCell ⟨rb, 6, none⟩ x6).setCell ⟨rb, 7, none⟩ x7) := by
  refine ⟨?_, fun k hk => ?_, fun B w0 hB hb => ?_⟩
  · have h0 := setCell_heap_self (o := 0) (u := x0) h
    have h1 := setCell_heap_self (o := 1) (u := x1) h0
    have h2 := setCell_heap_self (o := 2) (u := x2) h1
    have h3 := setCell_heap_self (o := 3) (u := x3) h2
    have h4 := setCell_heap_self (o := 4) (u := x4) h3
    have h5 := setCell_heap_self (o := 5) (u := x5) h4
    have h6 := setCell_heap_self (o := 6) (u := x6) h5
    have h7 := setCell_heap_self (o := 7) (u := x7) h6
    simpa using h7
  · rw [Below.heap_setCell _ _ _ _ hk, Below.heap_setCell _ _ _ _ hk, Below.heap_setCell _ _ _ _ hk, Below.heap_setCell _ _ _ _ hk, Below.heap_setCell _ _ _ _ hk, Below.heap_setCell _ _ _ _ hk, Below.heap_setCell _ _ _ _ hk, Below.heap_setCell _ _ _ _ hk]
  · exact (((((((hb.setCell hB _).setCell hB _).setCell hB _).setCell hB _).setCell hB _).setCell hB _).setCell hB _).setCell hB _
/-- What a walk wants of a row of 8 cells. -/
theorem get_row8 {wx : World} {rb : Nat} {t : TypeId} {a0 a1 a2 a3 a4 a5 a6 a7 : Value} (h : wx.heap[rb]? = some (.cells #[a0, a1, a2, a3, a4, a5, a6, a7] t (0, 0))) :
    (wx.cell? ⟨rb, 0, none⟩ = some a0 ∧ wx.cell? ⟨rb, 1, none⟩ = some a1 ∧ wx.cell? ⟨rb, 2, none⟩ = some a2 ∧ wx.cell? ⟨rb, 3, none⟩ = some a3 ∧ wx.cell? ⟨rb, 4, none⟩ = some a4 ∧ wx.cell? ⟨rb, 5, none⟩ = some a5 ∧ wx.cell? ⟨rb, 6, none⟩ = some a6 ∧ wx.cell? ⟨rb, 7, none⟩ = some a7) ∧ wx.frozen? ⟨rb, 0, none⟩ = false ∧ wx.frozen? ⟨rb, 1, none⟩ = false ∧ wx.frozen? ⟨rb, 2, none⟩ = false ∧ wx.frozen? ⟨rb, 3, none⟩ = false ∧ wx.frozen? ⟨rb, 4, none⟩ = false ∧ wx.frozen? ⟨rb, 5, none⟩ = false ∧ wx.frozen? ⟨rb, 6, none⟩ = false ∧ wx.frozen? ⟨rb, 7, none⟩ = false :=
  ⟨⟨(has_cell h 0).trans rfl, (has_cell h 1).trans rfl, (has_cell h 2).trans rfl, (has_cell h 3).trans rfl, (has_cell h 4).trans rfl, (has_cell h 5).trans rfl, (has_cell h 6).trans rfl, (has_cell h 7).trans rfl⟩, has_free h 0, has_free h 1, has_free h 2, has_free h 3, has_free h 4, has_free h 5, has_free h 6, has_free h 7⟩
/-- One cell of a row is set anew. -/
theorem set_one {w : World} {rb i : Nat} {t : TypeId} {cs : Array Value} (h : w.heap[rb]? = some (.cells cs t (0, 0))) (x : Value) :
    (w.setCell ⟨rb, i, none⟩ x).heap[rb]? = some (.cells (cs.setIfInBounds i x) t (0, 0)) ∧ (∀ k, k ≠ rb → (w.setCell ⟨rb, i, none⟩ x).heap[k]? = w.heap[k]?) ∧ ∀ B w0, B ≤ rb → Below B w0 w → Below B w0 (w.setCell ⟨rb, i, none⟩ x) :=
  ⟨setCell_heap_self h, fun k hk => Below.heap_setCell _ _ _ _ hk, fun B w0 hB hb => hb.setCell hB _⟩
def dnV (q : DNv) (s : DN) : Value := .agg (dnC q s)
/-- The delays of a fate can be read; they lie below B. -/
structure FRok (B : Nat) (w : World) (x : FR) : Prop where
  v : ∃ ao c b off X, x.v = .slice ao x.l.length c ∧ IsInts w ao x.l.length b off X ∧ (∀ i, i < x.l.length → X i = x.l.getD i 0) ∧ (0 < x.l.length → b < B)
structure DNAt (K : Nat → Prop) (w : World) (q : DNv) (s : DN) : Prop where
  u : RowsAt 127 3 uC w q.vu s.us
  f : RowsAt 114 4 fC w q.vf s.fs
  c : RowsAt 117 4 cC w q.vc s.cs
  e : RowsAt 75 4 dC w q.vs s.se
  l : RowsAt 75 4 dC w q.vl s.ls
  ku : ∀ g, q.vu.ownBlock = some g → K g
  kf : ∀ g, q.vf.ownBlock = some g → K g
  kc : ∀ g, q.vc.ownBlock = some g → K g
  ks : ∀ g, q.vs.ownBlock = some g → K g
  kl : ∀ g, q.vl.ownBlock = some g → K g
  r : ∀ x ∈ s.fs, FRok s.lim w x
  lm : s.lim ≤ w.heap.size
section
variable {K J : Nat → Prop} {w w' : World} {q : DNv} {s : DN}
theorem FRok.heap {B : Nat} {x : FR} (h : FRok B w x) (hh : ∀ g, g < B → w'.heap[g]? = w.heap[g]?) (hs : w.heap.size ≤ w'.heap.size) : FRok B w' x := by
  obtain ⟨ao, c, b, off, X, e, hi, hx, hb⟩ := h.v
  exact ⟨ao, c, b, off, X, e, ⟨hi.ao, fun h0 => Nat.lt_of_lt_of_le (hi.lt h0) hs, fun i hn => (World.cell?_of_block (a := ⟨b, off + i, none⟩) (hh b (hb (by omega)))).trans (hi.c i hn), hi.bd⟩, hx, hb⟩
theorem DNAt.bel (h : DNAt K w q s) (hb : Below w.heap.size w w') : DNAt K w' q s :=
  ⟨h.u.bel hb, h.f.bel hb, h.c.bel hb, h.e.bel hb, h.l.bel hb, h.ku, h.kf, h.kc, h.ks, h.kl, fun x hx => (h.r x hx).heap (fun g hg => hb.block g (Nat.lt_of_lt_of_le hg h.lm)) hb.size, Nat.le_trans h.lm hb.size⟩
theorem DNAt.to (h : DNAt K w q s) (hJ : ∀ k, k < w.heap.size → K k → J k) : DNAt J w q s :=
  ⟨h.u, h.f, h.c, h.e, h.l, fun g hg => hJ g (OL.lt h.u g hg) (h.ku g hg), fun g hg => hJ g (OL.lt h.f g hg) (h.kf g hg), fun g hg => hJ g (OL.lt h.c g hg) (h.kc g hg), fun g hg => hJ g (OL.lt h.e g hg) (h.ks g hg), fun g hg => hJ g (OL.lt h.l g hg) (h.kl g hg), h.r, h.lm⟩
theorem DNAt.more (h : DNAt K w q s) (hJ : ∀ k, K k → J k) : DNAt J w q s := h.to fun k _ hk => hJ k hk
theorem DNAt.heap (h : DNAt K w q s) (hh : ∀ g, K g → g < w.heap.size → w'.heap[g]? = w.heap[g]?) (hl : ∀ g, g < s.lim → w'.heap[g]? = w.heap[g]?) (hs : w.heap.size ≤ w'.heap.size) : DNAt K w' q s :=
  ⟨OL.heap h.u fun g hg => hh g (h.ku g hg) (OL.lt h.u g hg), OL.heap h.f fun g hg => hh g (h.kf g hg) (OL.lt h.f g hg), OL.heap h.c fun g hg => hh g (h.kc g hg) (OL.lt h.c g hg), OL.heap h.e fun g hg => hh g (h.ks g hg) (OL.lt h.e g hg), OL.heap h.l fun g hg => hh g (h.kl g hg) (OL.lt h.l g hg), h.ku, h.kf, h.kc, h.ks, h.kl, fun x hx => (h.r x hx).heap hl hs, Nat.le_trans h.lm hs⟩
theorem DNAt.heapQ (h : DNAt K w q s) (hk : ∀ (b : Nat) (cs : Array Value) (t : TypeId), t ≠ tDN → w.heap[b]? = some (Obj.cells cs t (0, 0)) → w'.heap[b]? = w.heap[b]?) (hl : ∀ g, g < s.lim → w'.heap[g]? = w.heap[g]?) (hs : w.heap.size ≤ w'.heap.size) : DNAt K w' q s := by
  have key : ∀ {e : TypeId} {size n : Nat} {u : Value} {xs : List Value}, e ≠ tDN → OL w e size u n xs → OL w' e size u n xs := fun {e size n u xs} he ho => OL.heap ho fun g hg => by
    obtain ⟨cur, hc⟩ := OL.elem ho g hg
    exact hk g _ _ he hc
  exact ⟨key (by decide) h.u, key (by decide) h.f, key (by decide) h.c, key (by decide) h.e, key (by decide) h.l, h.ku, h.kf, h.kc, h.ks, h.kl, fun x hx => (h.r x hx).heap hl hs, Nat.le_trans h.lm hs⟩
theorem DNAt.shapes (h : DNAt K w q s) : ∃ au cu af cf ac cc ae ce al cl, q = ⟨.slice au s.us.length cu, .slice af s.fs.length cf, .slice ac s.cs.length cc, .slice ae s.se.length ce, .slice al s.ls.length cl⟩ ∧
    s.us.length ≤ 9223372036854775807 ∧ s.fs.length ≤ 9223372036854775807 ∧ s.cs.length ≤ 9223372036854775807 ∧ s.se.length ≤ 9223372036854775807 ∧ s.ls.length ≤ 9223372036854775807 := by
  obtain ⟨au, cu, e1, h1, k1, _⟩ := OL.shape h.u
  obtain ⟨af, cf, e2, h2, k2, _⟩ := OL.shape h.f
  obtain ⟨ac, cc, e3, h3, k3, _⟩ := OL.shape h.c
  obtain ⟨ae, ce, e4, h4, k4, _⟩ := OL.shape h.e
  obtain ⟨al, cl, e5, h5, k5, _⟩ := OL.shape h.l
  obtain ⟨vu, vf, vc, vs, vl⟩ := q
  subst e1 e2 e3 e4 e5
  exact ⟨au, cu, af, cf, ac, cc, ae, ce, al, cl, rfl, by omega, by omega, by omega, by omega, by omega⟩
/-- The one box of a function that only looks. -/
structure TN (w : World) (bx : Nat) (K : Nat → Prop) (q : DNv) (s : DN) (wx : World) : Prop where
  o : wx.heap[bx]? = some (.cells (dnC q s) tDN (0, 0))
  d : DNAt K wx q s
  b : Below w.heap.size w wx
theorem TN.bel {bx : Nat} {wx : World} (h : TN w bx K q s wx) (hb : Below wx.heap.size wx w') : TN w bx K q s w' := ⟨(hb.block _ (lt_of_block h.o)).trans h.o, h.d.bel hb, h.b.trans (hb.mono h.b.size)⟩
theorem TN.start (h : DNAt K w q s) : TN w w.heap.size K q s (w.alloc (.cells (dnC q s) tDN)) :=
  ⟨heap_alloc_new w _, h.bel ((Below.refl _ _).alloc (Nat.le_refl _) _), (Below.refl _ _).alloc (Nat.le_refl _) _⟩
end
theorem uC_len (x : UR) : (uC x).length = 3 := rfl
theorem fC_len (x : FR) : (fC x).length = 4 := rfl
theorem cC_len (x : NCut) : (cC x).length = 4 := rfl
theorem dC_len (x : DL) : (dC x).length = 4 := rfl
theorem eqT_iff {a b : ByteArray} : (a.toList == b.toList) = true ↔ a = b := by
  rw [beq_iff_eq]
  constructor
  · intro h
    rw [ByteArray.toList_eq, ByteArray.toList_eq] at h
    exact ByteArray.ext (Array.toList_inj.1 h)
  · intro h
    rw [h]
theorem eqT_not {a b : ByteArray} (h : a ≠ b) : (a.toList == b.toList) = false := by
  cases h2 : (a.toList == b.toList)
  · rfl
  · exact absurd (eqT_iff.1 h2) h
end Go.Proofs.Ytkhiepjlfbjgdaa

/- The document's device in memory. Conditions: each contract names its own. -/
import Derived.Test.YtbpjfhfibllhgaaDrP
import Derived.Test.YtbpjfhfibllhgaaRk3
namespace Go.Proofs.Ytbpjfhfibllhgaa
open Go.RowKit
open Go.Proofs.Ytbpjfhfibllhgaa.Dv

/-- Bytes and where they lie. -/
structure PV where
  v : Value
  l : List Int
/-- A block, a deed, the device, with the values that their lists are. -/
structure RBv where
  v : Value
  ps : List PV
  worn : Int
structure RDv where
  erase : Bool
  block : Int
  page : Int
  d : PV
structure RG where
  pages : Int
  du : List RBv
  nw : List RBv
  pe : List RDv
  off : Bool
  left : Int
structure RQ where
  vd : Value
  vn : Value
  vp : Value
def nilPV : PV := ⟨.slice none 0 0, []⟩
def nilRB : RBv := ⟨.slice none 0 0, [], 0⟩
def nilRD : RDv := ⟨false, 0, 0, nilPV⟩
def pvC (x : PV) : List Value := [x.v]
def rbC (x : RBv) : List Value := [x.v, .int .i64 x.worn]
def rdC (x : RDv) : List Value := [.bool x.erase, .int .i64 x.block, .int .i64 x.page, x.d.v]
def RBv.pl (x : RBv) : RBk := (x.ps.map PV.l, x.worn)
def RDv.pl (x : RDv) : RDeed := ⟨x.erase, x.block, x.page, x.d.l⟩
def RG.pl (g : RG) : RDev := ⟨g.pages, g.du.map RBv.pl, g.nw.map RBv.pl, g.pe.map RDv.pl, g.off, g.left⟩
def rgC (q : RQ) (g : RG) : Array Value := #[.int .i64 g.pages, q.vd, q.vn, q.vp, .bool g.off, .int .i64 g.left]
def rgV (q : RQ) (g : RG) : Value := .agg (rgC q g)
def tRD : TypeId := 64
def zRD : Array Value := #[.int .i64 0, .slice none 0 0, .slice none 0 0, .slice none 0 0, .bool false, .int .i64 0]
theorem infoRB : (Try.prog.info? 90).map (fun i => (i.zero, i.size, i.bytes)) = some (some (.agg #[.slice none 0 0, .int .i64 0]), 2, 32) := by kernel_rfl
theorem infoRD : (Try.prog.info? 106).map (fun i => (i.zero, i.size, i.bytes)) = some (some (.agg #[.bool false, .int .i64 0, .int .i64 0, .slice none 0 0]), 4, 48) := by kernel_rfl
theorem infoRY : (Try.prog.info? 22).map (fun i => (i.zero, i.size, i.bytes)) = some (some (.slice none 0 0), 1, 24) := by kernel_rfl
theorem infoR6 : (Try.prog.info? 64).map (·.size) = some 6 := by kernel_rfl
structure PvOk (K : Nat → Prop) (w : World) (x : PV) : Prop where
  o : OL w 5 1 x.v x.l.length (bys x.l)
  k : ∀ g, x.v.ownBlock = some g → K g
structure RbOk (K : Nat → Prop) (w : World) (x : RBv) : Prop where
  o : RowsAt 22 1 pvC w x.v x.ps
  k : ∀ g, x.v.ownBlock = some g → K g
  p : ∀ y ∈ x.ps, PvOk K w y
/-- The document's device: what its fields hold. -/
structure RAt (K : Nat → Prop) (w : World) (q : RQ) (g : RG) : Prop where
  d : RowsAt 90 2 rbC w q.vd g.du
  n : RowsAt 90 2 rbC w q.vn g.nw
  p : RowsAt 106 4 rdC w q.vp g.pe
  kd : ∀ k, q.vd.ownBlock = some k → K k
  kn : ∀ k, q.vn.ownBlock = some k → K k
  kp : ∀ k, q.vp.ownBlock = some k → K k
  bd : ∀ x ∈ g.du, RbOk K w x
  bn : ∀ x ∈ g.nw, RbOk K w x
  bp : ∀ x ∈ g.pe, PvOk K w x.d
section
variable {K J : Nat → Prop} {w w' wx : World} {q : RQ} {g : RG}
theorem pvC_len (x : PV) : (pvC x).length = 1 := rfl
theorem rbC_len (x : RBv) : (rbC x).length = 2 := rfl
theorem rdC_len (x : RDv) : (rdC x).length = 4 := rfl
theorem PvOk.nil (K : Nat → Prop) (w : World) : PvOk K w nilPV := ⟨OL.nil _ _ _, fun g hg => by simp [nilPV, Value.ownBlock] at hg⟩
theorem RbOk.nil (K : Nat → Prop) (w : World) (x : Int) : RbOk K w ⟨.slice none 0 0, [], x⟩ := ⟨OL.nil _ _ _, fun g hg => by simp [Value.ownBlock] at hg, fun y hy => by cases hy⟩
theorem PvOk.bel {x : PV} (h : PvOk K w x) (hb : Below w.heap.size w w') : PvOk K w' x := ⟨h.o.bel hb, h.k⟩
theorem PvOk.more {x : PV} (h : PvOk K w x) (hJ : ∀ k, k < w.heap.size → K k → J k) : PvOk J w x := ⟨h.o, fun g hg => hJ g (h.o.lt g hg) (h.k g hg)⟩
theorem PvOk.heap {x : PV} (h : PvOk K w x) (hh : ∀ g, K g → g < w.heap.size → w'.heap[g]? = w.heap[g]?) : PvOk K w' x := ⟨h.o.heap fun g hg => hh g (h.k g hg) (h.o.lt g hg), h.k⟩
theorem RbOk.bel {x : RBv} (h : RbOk K w x) (hb : Below w.heap.size w w') : RbOk K w' x := ⟨h.o.bel hb, h.k, fun y hy => (h.p y hy).bel hb⟩
theorem RbOk.more {x : RBv} (h : RbOk K w x) (hJ : ∀ k, k < w.heap.size → K k → J k) : RbOk J w x := ⟨h.o, fun g hg => hJ g (OL.lt h.o g hg) (h.k g hg), fun y hy => (h.p y hy).more hJ⟩
theorem RbOk.heap {x : RBv} (h : RbOk K w x) (hh : ∀ g, K g → g < w.heap.size → w'.heap[g]? = w.heap[g]?) : RbOk K w' x := ⟨OL.heap h.o fun g hg => hh g (h.k g hg) (OL.lt h.o g hg), h.k, fun y hy => (h.p y hy).heap hh⟩
theorem RAt.bel (h : RAt K w q g) (hb : Below w.heap.size w w') : RAt K w' q g :=
  ⟨h.d.bel hb, h.n.bel hb, h.p.bel hb, h.kd, h.kn, h.kp, fun x hx => (h.bd x hx).bel hb, fun x hx => (h.bn x hx).bel hb, fun x hx => (h.bp x hx).bel hb⟩
theorem RAt.to (h : RAt K w q g) (hJ : ∀ k, k < w.heap.size → K k → J k) : RAt J w q g :=
  ⟨h.d, h.n, h.p, fun k hk => hJ k (OL.lt h.d k hk) (h.kd k hk), fun k hk => hJ k (OL.lt h.n k hk) (h.kn k hk), fun k hk => hJ k (OL.lt h.p k hk) (h.kp k hk), fun x hx => (h.bd x hx).more hJ, fun x hx => (h.bn x hx).more hJ, fun x hx => (h.bp x hx).more hJ⟩
theorem RAt.heap (h : RAt K w q g) (hh : ∀ g, K g → g < w.heap.size → w'.heap[g]? = w.heap[g]?) : RAt K w' q g :=
  ⟨OL.heap h.d fun k hk => hh k (h.kd k hk) (OL.lt h.d k hk), OL.heap h.n fun k hk => hh k (h.kn k hk) (OL.lt h.n k hk), OL.heap h.p fun k hk => hh k (h.kp k hk) (OL.lt h.p k hk), h.kd, h.kn, h.kp, fun x hx => (h.bd x hx).heap hh, fun x hx => (h.bn x hx).heap hh, fun x hx => (h.bp x hx).heap hh⟩
theorem RAt.shapes (h : RAt K w q g) : ∃ ad cd an cn ap cp, q = ⟨.slice ad g.du.length cd, .slice an g.nw.length cn, .slice ap g.pe.length cp⟩ ∧
    (g.du.length ≤ cd ∧ cd ≤ 9223372036854775807 ∧ (0 < g.du.length → ∃ b o, ad = some ⟨b, o, none⟩)) ∧ (g.nw.length ≤ cn ∧ cn ≤ 9223372036854775807 ∧ (0 < g.nw.length → ∃ b o, an = some ⟨b, o, none⟩)) ∧ (g.pe.length ≤ cp ∧ cp ≤ 9223372036854775807 ∧ (0 < g.pe.length → ∃ b o, ap = some ⟨b, o, none⟩)) := by
  obtain ⟨ad, cd, e1, h1, k1, m1⟩ := OL.shape h.d
  obtain ⟨an, cn, e2, h2, k2, m2⟩ := OL.shape h.n
  obtain ⟨ap, cp, e3, h3, k3, m3⟩ := OL.shape h.p
  obtain ⟨vd, vn, vp⟩ := q
  subst e1 e2 e3
  exact ⟨ad, cd, an, cn, ap, cp, rfl, ⟨h1, k1, m1⟩, ⟨h2, k2, m2⟩, h3, k3, m3⟩
/-- A function's box of a device. -/
structure TR (w : World) (bx : Nat) (K : Nat → Prop) (q : RQ) (g : RG) (wx : World) : Prop where
  o : wx.heap[bx]? = some (.cells (rgC q g) tRD (0, 0))
  d : RAt K wx q g
  b : Below w.heap.size w wx
theorem TR.bel {bx : Nat} {wx : World} (h : TR w bx K q g wx) (hb : Below wx.heap.size wx w') : TR w bx K q g w' := ⟨(hb.block _ (lt_of_block h.o)).trans h.o, h.d.bel hb, h.b.trans (hb.mono h.b.size)⟩
theorem TR.start (h : RAt K w q g) : TR w w.heap.size K q g (w.alloc (.cells (rgC q g) tRD)) :=
  have hb := (Below.refl w.heap.size w).alloc (Nat.le_refl _) (.cells (rgC q g) tRD)
  ⟨heap_alloc_new w _, h.bel hb, hb⟩
end
end Go.Proofs.Ytbpjfhfibllhgaa

/- What 'small' of the statements computes: a size that New accepts. -/
import Derived.Test.YtclfbgoocfcdpaaBkMore
import Derived.Deep.RegionHeld3
namespace Go.Proofs.Ytclfbgoocfcdpaa
open Go.RowKit
open Go.Proofs.Ytclfbgoocfcdpaa.Bk

theorem below_of {w0 w w' : World} {B : Nat} (h : Below B w0 w) (os : w'.os = w.os) (tape : w'.tape = w.tape) (output : w'.output = w.output) (size : w.heap.size ≤ w'.heap.size) (bl : ∀ k, k < w.heap.size → w'.heap[k]? = w.heap[k]?) (hB : B ≤ w.heap.size) : Below B w0 w' :=
  h.trans ⟨os, tape, output, size, fun k hk => bl k (by omega)⟩

set_option maxHeartbeats 800000 in
theorem small_any (a b c : Int) (w : World) : Calls Try.prog 10 #[.agg #[.int .i64 a, .int .i64 b, .int .i64 c]] w fun e w' =>
    e = .returned (.agg #[.int .i64 (max 1 (min a 1048576)), .int .i64 (max 0 (min b 1048576)), .int .i64 (max 1 (min c 1048576))]) ∧ Below w.heap.size w w' := by
  go_enter Try.func10, Try.ntmps10
  go_wp2_with fail
  go_region_held3 (fun w' => w'.cell? ⟨w.heap.size, 0, none⟩ = some (.int .i64 a) ∧ w'.cell? ⟨w.heap.size, 1, none⟩ = some (.int .i64 b) ∧ w'.cell? ⟨w.heap.size, 2, none⟩ = some (.int .i64 c)) (first | (simp [go_sem, World.cell?_alloc_past]; done) | exact ⟨by assumption, by assumption, by assumption⟩)
    (first | (go_at_call 12; refine (Clip_any _ _ _ _).mono ?_; rintro e w' ⟨rfl, rfl⟩))
  all_goals go_wp2
  all_goals go_returns
  all_goals exact ⟨rfl, by go_grown⟩

/-- Block b is the statement's own size. -/
def IsX (w : World) (b : Nat) (x0 x1 x2 : Int) : Prop := w.heap[b]? = some (.cells #[.int .i64 x0, .int .i64 x1, .int .i64 x2] 23 (0, 0))
theorem IsX.cells {w : World} {b : Nat} {x0 x1 x2 : Int} (h : IsX w b x0 x1 x2) :
    w.cell? ⟨b, 0, none⟩ = some (.int .i64 x0) ∧ w.cell? ⟨b, 1, none⟩ = some (.int .i64 x1) ∧ w.cell? ⟨b, 2, none⟩ = some (.int .i64 x2) := by
  unfold IsX at h; simp [World.cell?, h]
theorem IsX.free {w : World} {b : Nat} {x0 x1 x2 : Int} (h : IsX w b x0 x1 x2) (i : Nat) : w.frozen? ⟨b, i, none⟩ = false := by
  unfold IsX at h; simp [World.frozen?, h]
theorem IsX.lt {w : World} {b : Nat} {x0 x1 x2 : Int} (h : IsX w b x0 x1 x2) : b < w.heap.size := lt_of_block h
theorem IsX.below {w w' : World} {b : Nat} {x0 x1 x2 : Int} (h : IsX w b x0 x1 x2) {B : Nat} (hb : Below B w w') (hB : b < B) : IsX w' b x0 x1 x2 := (hb.block b hB).trans h
theorem IsBk.below {w w' : World} {b : Nat} {B T K P L : Int} (h : IsBk w b B T K P L) {n : Nat} (hb : Below n w w') (hB : b < n) : IsBk w' b B T K P L := (hb.block b hB).trans h
theorem IsX.grown {w w' : World} {b : Nat} {x0 x1 x2 : Int} (h : IsX w b x0 x1 x2) {r : Option Nat} (g : w.grownBy w' r) (hr : some b ≠ r) : IsX w' b x0 x1 x2 := (g.block b h.lt hr).trans h
theorem IsX.alloc {w : World} {b : Nat} {x0 x1 x2 : Int} (h : IsX w b x0 x1 x2) (o : Obj) : IsX (w.alloc o) b x0 x1 x2 := (Below.heap_alloc w o b h.lt).trans h
theorem IsX.set {w : World} {b : Nat} {x0 x1 x2 : Int} (h : IsX w b x0 x1 x2) (y0 y1 y2 : Int) :
    IsX (((w.setCell ⟨b, 0, none⟩ (.int .i64 y0)).setCell ⟨b, 1, none⟩ (.int .i64 y1)).setCell ⟨b, 2, none⟩ (.int .i64 y2)) b y0 y1 y2 :=
  setCell_heap_self (setCell_heap_self (setCell_heap_self h))

/-- What is known of the list of Takings. -/
structure IsTk (w : World) (ao : Option Addr) (len : Nat) (b off : Nat) (Lt N : Nat → Int) : Prop where
  ao : 0 < len → ao = some ⟨b, off, none⟩
  lt : 0 < len → b < w.heap.size
  c0 : ∀ i, i < len → w.cell? ⟨b, off + i * 2, none⟩ = some (.int .u16 (Lt i))
  c1 : ∀ i, i < len → w.cell? ⟨b, off + i * 2 + 1, none⟩ = some (.int .i64 (N i))
  l0 : ∀ i, i < len → 0 ≤ Lt i ∧ Lt i ≤ 65535
  n0 : ∀ i, i < len → -9223372036854775808 ≤ N i ∧ N i ≤ 9223372036854775807
theorem IsTk.below {w w' : World} {ao : Option Addr} {len b off : Nat} {Lt N : Nat → Int} (h : IsTk w ao len b off Lt N) {B : Nat} (hb : Below B w w') (hB : w.heap.size ≤ B) : IsTk w' ao len b off Lt N :=
  ⟨h.ao, fun h0 => by have := h.lt h0; have := hb.size; omega, fun i hi => (hb.cell (p := ⟨b, off + i * 2, none⟩) (by have := h.lt (by omega); simp; omega)).trans (h.c0 i hi),
    fun i hi => (hb.cell (p := ⟨b, off + i * 2 + 1, none⟩) (by have := h.lt (by omega); simp; omega)).trans (h.c1 i hi), h.l0, h.n0⟩

/-- A size that New accepts. -/
structure SzOk (B T K : Int) : Prop where
  b1 : 1 ≤ B
  b2 : B ≤ 1048576
  t1 : 0 ≤ T
  t2 : T ≤ 1048576
  k1 : 1 ≤ K
  k2 : K ≤ 1048576
theorem SzOk.ok {B T K : Int} (h : SzOk B T K) : BkOk B T K (B * K) 0 := BkOk.new h.b1 h.b2 h.t1 h.t2 h.k1 h.k2
theorem small_some (a b c : Int) (w : World) : Calls Try.prog 10 #[.agg #[.int .i64 a, .int .i64 b, .int .i64 c]] w fun e w' =>
    ∃ B T K : Int, e = .returned (.agg #[.int .i64 B, .int .i64 T, .int .i64 K]) ∧ SzOk B T K ∧ Below w.heap.size w w' :=
  (small_any a b c w).mono fun _ _ ⟨he, hb⟩ => ⟨_, _, _, he, ⟨by omega, by omega, by omega, by omega, by omega, by omega⟩, hb⟩
/-- New, in the words of its bucket. -/
theorem new_some (B T K : Int) (w : World) (h : SzOk B T K) :
    Calls Try.prog 11 #[.int .i64 B, .int .i64 T, .int .i64 K] w fun e w' =>
      e = .returned (.tuple #[.pointer (some ⟨w.heap.size, 0, none⟩), .nilIface]) ∧ IsBk w' w.heap.size B T K (B * K) 0 ∧ w.heap.size < w'.heap.size ∧ Below w.heap.size w w' :=
  (new_any B T K w h.b1 h.b2 h.t1 h.t2 h.k1 h.k2).mono fun _ _ ⟨he, hw⟩ => by subst hw; exact ⟨he, heap_alloc_new w _, by simp, by go_grown⟩

/-- A block, in a later world. -/
theorem has_below {w w' : World} {b B : Nat} {o : Obj} (h : w.heap[b]? = some o) (hb : Below B w w') (hB : b < B) : w'.heap[b]? = some o := (hb.block b hB).trans h
theorem has_grown {w w' : World} {b : Nat} {o : Obj} {r : Option Nat} (h : w.heap[b]? = some o) (g : w.grownBy w' r) (hr : some b ≠ r) : w'.heap[b]? = some o := (g.block b (lt_of_block h) hr).trans h
theorem has_alloc {w : World} {b : Nat} {o : Obj} (h : w.heap[b]? = some o) (o' : Obj) : (w.alloc o').heap[b]? = some o := (Below.heap_alloc w o' b (lt_of_block h)).trans h
theorem has_set {w : World} {b : Nat} {o : Obj} (h : w.heap[b]? = some o) (a : Addr) (u : Value) (ha : b ≠ a.block) : (w.setCell a u).heap[b]? = some o := (Below.heap_setCell w a u b ha).trans h
theorem has_cell {w : World} {b : Nat} {cs : Array Value} {t : TypeId} {fr : Nat × Nat} (h : w.heap[b]? = some (.cells cs t fr)) (i : Nat) : w.cell? ⟨b, i, none⟩ = cs[i]? := by simp [World.cell?, h]
theorem has_free {w : World} {b : Nat} {cs : Array Value} {t : TypeId} (h : w.heap[b]? = some (.cells cs t (0, 0))) (i : Nat) : w.frozen? ⟨b, i, none⟩ = false := by simp [World.frozen?, h]
theorem grownBy_und {w w' : World} {r : Option Nat} (h : w.drew.grownBy w' r) : w.grownBy w' r := ⟨h.os, h.tape, h.output, h.size, h.block⟩
theorem grownBy_undN {w w' : World} {r : Option Nat} {n : Nat} (h : (w.drewN n).grownBy w' r) : w.grownBy w' r := ⟨h.os, h.tape, h.output, h.size, h.block⟩
end Go.Proofs.Ytclfbgoocfcdpaa

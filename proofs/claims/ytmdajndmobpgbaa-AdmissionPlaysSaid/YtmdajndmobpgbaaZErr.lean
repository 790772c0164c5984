/- Small lemmas that every chapter uses: blocks that are known, rows of integers, draws. Over any program. Error codes as values, and what the statements' base says of them: Num, Is, Clip. Conditions: none. -/
import Derived.Test.YtmdajndmobpgbaaZOL
import Derived.Deep.OwnRows
import Derived.WalkSpells
import Derived.Laws.CopyOwn
import Derived.Deep.RegionLaw
import Derived.StillTailTactics
import Derived.BigRegion
import Derived.Deep.DeepCutAuto
namespace Go.Proofs.Ytmdajndmobpgbaa
open Go.RowKit

def ints (l : List Int) : List Value := l.map (Value.int .i64)
theorem ints_len (l : List Int) : (ints l).length = l.length := by simp [ints]
theorem ints_get (l : List Int) (i : Nat) (h : i < l.length) : (ints l)[i]? = some (.int .i64 (l.getD i 0)) := by simp [ints, List.getD, h]
theorem ints_set (l : List Int) (i : Nat) (x : Int) : ints (l.set i x) = (ints l).set i (.int .i64 x) := by simp [ints, List.map_set]
theorem has_lt {w : World} {b : Nat} {o : Obj} (h : w.heap[b]? = some o) : b < w.heap.size := lt_of_block h
theorem has_cell {w : World} {b : Nat} {cs : Array Value} {t : TypeId} {fr : Nat × Nat} (h : w.heap[b]? = some (.cells cs t fr)) (i : Nat) : w.cell? ⟨b, i, none⟩ = cs[i]? := by simp [World.cell?, h]
theorem has_free {w : World} {b : Nat} {cs : Array Value} {t : TypeId} (h : w.heap[b]? = some (.cells cs t (0, 0))) (i : Nat) : w.frozen? ⟨b, i, none⟩ = false := by simp [World.frozen?, h]
theorem below_draw (B : Nat) (w : World) (n : Nat) : Below B w (w.drewN n) := ⟨rfl, rfl, rfl, Nat.le_refl _, fun _ _ => rfl⟩
theorem below_drew (B : Nat) (w : World) : Below B w w.drew := ⟨rfl, rfl, rfl, Nat.le_refl _, fun _ _ => rfl⟩
theorem grownBy_rfl (w : World) (r : Option Nat) : w.grownBy w r := ⟨rfl, rfl, rfl, Nat.le_refl _, fun _ _ _ => rfl⟩
theorem heap_at {w : World} {o : Obj} {g : Nat} (h : g = w.heap.size) : (w.alloc o).heap[g]? = some o := by subst h; exact heap_alloc_new w o
theorem drew_heap (X : World) : X.drew.heap = X.heap := rfl
theorem type_ne {w : World} {a b : Nat} {c1 c2 : Array Value} {t1 t2 : TypeId} {f1 f2 : Nat × Nat} (h1 : w.heap[a]? = some (.cells c1 t1 f1)) (h2 : w.heap[b]? = some (.cells c2 t2 f2)) (hne : t1 ≠ t2) : a ≠ b := fun e => by
  subst e
  rw [h1] at h2
  simp only [Option.some.injEq, Obj.cells.injEq] at h2
  exact hne h2.2.1
theorem getD_set_self {α : Type} {l : List α} {i : Nat} {x d : α} (h : i < l.length) : (l.set i x).getD i d = x := by simp [List.getD, h]
theorem getD_set_ne {α : Type} {l : List α} {i j : Nat} {x d : α} (h : i ≠ j) : (l.set i x).getD j d = l.getD j d := by simp [List.getD, List.getElem?_set_ne h]
theorem wp_gen {P : Program} {c : Code} {Q : Exit → Act → World → Prop} {a : Act} {w : World} (h : ∀ R : Exit → Act → World → Prop, (∀ e a w, Q e a w → R e a w) → Code.wp P c R a w) : Code.wp P c Q a w := h Q fun _ _ _ h => h

/-- The slice at ao, n elements, can be read: its elements are Q 0 .. -/
structure IsInts (w : World) (ao : Option Addr) (n b off : Nat) (Q : Nat → Int) : Prop where
  ao : 0 < n → ao = some ⟨b, off, none⟩
  lt : 0 < n → b < w.heap.size
  c : ∀ i, i < n → w.cell? ⟨b, off + i, none⟩ = some (.int .i64 (Q i))
  bd : ∀ i, i < n → -9223372036854775808 ≤ Q i ∧ Q i ≤ 9223372036854775807
theorem IsInts.below {w w' : World} {ao : Option Addr} {n b off : Nat} {Q : Nat → Int} (h : IsInts w ao n b off Q) {B : Nat} (hb : Below B w w') (hB : w.heap.size ≤ B) : IsInts w' ao n b off Q :=
  ⟨h.ao, fun h0 => by have := h.lt h0; have := hb.size; omega, fun i hi => (hb.cell (p := ⟨b, off + i, none⟩) (by have := h.lt (by omega); simp; omega)).trans (h.c i hi), h.bd⟩
/-- The slice of bytes at ao can be read. -/
structure IsBytes (w : World) (ao : Option Addr) (n b off : Nat) (Q : Nat → Int) : Prop where
  ao : 0 < n → ao = some ⟨b, off, none⟩
  lt : 0 < n → b < w.heap.size
  c : ∀ i, i < n → w.cell? ⟨b, off + i, none⟩ = some (.int .u8 (Q i))
  bd : ∀ i, i < n → 0 ≤ Q i ∧ Q i ≤ 255
theorem IsBytes.below {w w' : World} {ao : Option Addr} {n b off : Nat} {Q : Nat → Int} (h : IsBytes w ao n b off Q) {B : Nat} (hb : Below B w w') (hB : w.heap.size ≤ B) : IsBytes w' ao n b off Q :=
  ⟨h.ao, fun h0 => by have := h.lt h0; have := hb.size; omega, fun i hi => (hb.cell (p := ⟨b, off + i, none⟩) (by have := h.lt (by omega); simp; omega)).trans (h.c i hi), h.bd⟩
/-- A row of integers, known whole. -/
def IsRow (w : World) (e : TypeId) (b : Nat) (l : List Int) : Prop := w.heap[b]? = some (.cells (ints l).toArray e (0, 0))
theorem IsRow.cell {w : World} {e : TypeId} {b : Nat} {l : List Int} (h : IsRow w e b l) {i : Nat} (hi : i < l.length) : w.cell? ⟨b, i, none⟩ = some (.int .i64 (l.getD i 0)) := by
  rw [has_cell h i, List.getElem?_toArray]; exact ints_get l i hi
theorem IsRow.set {w : World} {e : TypeId} {b : Nat} {l : List Int} (h : IsRow w e b l) (i : Nat) (x : Int) : IsRow (w.setCell ⟨b, i, none⟩ (.int .i64 x)) e b (l.set i x) := by
  have := setCell_heap_self (o := i) (u := Value.int .i64 x) h
  unfold IsRow
  rw [ints_set, ← List.setIfInBounds_toArray]; exact this
theorem IsRow.made {w : World} {e : TypeId} {b n : Nat} (h : w.heap[b]? = some (.cells (madeCells #[.int .i64 0] n) e (0, 0))) : IsRow w e b (List.replicate n 0) := by
  unfold IsRow
  rw [h, show madeCells #[Value.int .i64 0] n = (List.replicate n (Value.int .i64 0)).toArray by rw [← toList_madeCells_one _ n]]
  simp [ints]
theorem madeCells_list (z : Value) (n : Nat) : madeCells #[z] n = (List.replicate n z).toArray := by rw [← toList_madeCells_one z n]
/-- A row of cells, known whole. -/
theorem setCell_list {w : World} {b o : Nat} {cs : List Value} {t : TypeId} {fr : Nat × Nat} {u : Value} (h : w.heap[b]? = some (.cells cs.toArray t fr)) :
    (w.setCell ⟨b, o, none⟩ u).heap[b]? = some (.cells (cs.set o u).toArray t fr) := by
  rw [setCell_heap_self h, List.setIfInBounds_toArray]
theorem setCell_other {w : World} {b k o : Nat} {u : Value} (h : k ≠ b) : (w.setCell ⟨b, o, none⟩ u).heap[k]? = w.heap[k]? := Below.heap_setCell _ _ _ _ h
theorem has_alloc {w : World} {b : Nat} {o : Obj} (h : w.heap[b]? = some o) (o' : Obj) : (w.alloc o').heap[b]? = some o := (Below.heap_alloc w o' b (lt_of_block h)).trans h
theorem below_at {B : Nat} {w w' : World} {k : Nat} {o : Obj} (h : Below B w w') (hk : w.heap[k]? = some o) (hB : k < B) : w'.heap[k]? = some o := (h.block k hB).trans hk
theorem below_ats {w w' : World} {k : Nat} {o : Obj} (h : Below w.heap.size w w') (hk : w.heap[k]? = some o) : w'.heap[k]? = some o := (h.block k (lt_of_block hk)).trans hk
/-- A block of cells, known whole. -/
def Row (w : World) (e : TypeId) (b : Nat) (cs : List Value) : Prop := w.heap[b]? = some (.cells cs.toArray e (0, 0))
section
variable {w w' : World} {e : TypeId} {b : Nat} {cs : List Value}
theorem Row.lt (h : Row w e b cs) : b < w.heap.size := lt_of_block h
theorem Row.cell (h : Row w e b cs) {i : Nat} (hi : i < cs.length) : w.cell? ⟨b, i, none⟩ = some (cs.getD i undef) := by
  rw [has_cell h i, List.getElem?_toArray]; simp [List.getD, hi]
theorem Row.free (h : Row w e b cs) (i : Nat) : w.frozen? ⟨b, i, none⟩ = false := has_free h i
theorem Row.set (h : Row w e b cs) (i : Nat) (u : Value) : Row (w.setCell ⟨b, i, none⟩ u) e b (cs.set i u) := setCell_list h
theorem Row.at (h : Row w e b cs) (hh : w'.heap[b]? = w.heap[b]?) : Row w' e b cs := hh.trans h
theorem Row.belowS (h : Row w e b cs) (hb : Below w.heap.size w w') : Row w' e b cs := below_ats hb h
theorem Row.below {B : Nat} (h : Row w e b cs) (hb : Below B w w') (hB : b < B) : Row w' e b cs := below_at hb h hB
theorem Row.alloc (h : Row w e b cs) (o : Obj) : Row (w.alloc o) e b cs := has_alloc h o
theorem Row.made {n : Nat} {z : Value} (h : w.heap[b]? = some (.cells (madeCells #[z] n) e (0, 0))) : Row w e b (List.replicate n z) := by
  unfold Row; rw [h, madeCells_list]
theorem Row.new (w : World) (e : TypeId) (cs : List Value) : Row (w.alloc (.cells cs.toArray e)) e w.heap.size cs := heap_alloc_new w _
end
theorem OL.src {P : Program} {w : World} {e : TypeId} {size : Nat} {v : Value} {n : Nat} {xs : List Value} (h : OL w e size v n xs) {tx e' : TypeId} (hk : P.underlying tx = some (.slice e')) (h1 : ∀ u ∈ xs, u.oneCell' = true) : Src P size tx v n xs w := by
  rcases h.forms with ⟨rfl, rfl⟩ | ⟨g, off, cap, rfl, _⟩
  · have := h.1
    obtain rfl : xs = [] := List.eq_nil_of_length_eq_zero (by simpa using this)
    exact Src.ofNil (size := size) w hk 0
  · refine Src.ofSlice (size := size) w hk ⟨g, off, none⟩ n cap xs h.1 (fun j u hu => ?_) h1
    have hj : j < n * size := by have := (List.getElem?_eq_some_iff.1 hu).1; rw [h.1] at this; exact this
    rw [Addr.add_lit, h.cell j hj]; exact hu
theorem OL.empty {w : World} {e : TypeId} (size : Nat) : OL (w.alloc (.cells #[] e)) e size (.slice (some ⟨w.heap.size, 0, none⟩) 0 0) 0 [] :=
  OL.of_block (cs := []) (heap_alloc_new w _) (by simp) (by simp [maxLen])
/-- What a call leaves that returns a new slice of cells xs. -/
def NewOL (e : TypeId) (size n : Nat) (xs : List Value) (w : World) (en : Ending) (w' : World) : Prop :=
  ∃ g off cap, en = .returned (.slice (some ⟨g, off, none⟩) n cap) ∧ OL w' e size (.slice (some ⟨g, off, none⟩) n cap) n xs ∧ w.heap.size ≤ g ∧ Below w.heap.size w w'
/-- append([]T{}, v...): the run, and what it leaves. -/
theorem fresh_append {P : Program} {w : World} {e : TypeId} {size : Nat} {v : Value} {n : Nat} {xs : List Value} (t : TypeId) (z : Value) (bytes : Nat) (ht : P.underlying t = some (.slice e)) (hinfo : (P.info? e).map (fun i => (i.zero, i.size, i.bytes)) = some (some z, size, bytes))
    (hzs : z.cells.size = size) (hsz : 0 < size) (hs : Src P size t v n xs (w.alloc (.cells #[] e))) (h63 : n ≤ maxLen) (hbytes : n * bytes ≤ 140737488355328) :
    ∃ g off cap w', (Builtin.append_ #[t, t] t #[.slice (some ⟨w.heap.size, 0, none⟩) 0 0, v]).run P (w.alloc (.cells #[] e)) = .ok (.slice (some ⟨g, off, none⟩) n cap) w' ∧
      OL w' e size (.slice (some ⟨g, off, none⟩) n cap) n xs ∧ w.heap.size ≤ g ∧ Below w.heap.size w w' := by
  obtain ⟨i, hi, iz, is, ib⟩ := info_parts hinfo
  obtain ⟨v', w', hap, ho, hg, hown⟩ := (OL.empty (w := w) (e := e) size).append (P := P) t t t i z bytes ht hi iz is ib hzs hsz hs (by rw [Nat.zero_add]; exact h63) (by rw [Nat.zero_add]; exact hbytes)
  rw [Nat.zero_add, List.nil_append] at ho
  have hB : Below w.heap.size w w' := ((Below.refl _ _).alloc (Nat.le_refl _) _).grown hg (by simp) (fun k hk => by simp [Value.ownBlock] at hk; omega)
  rcases ho.forms with ⟨rfl, _⟩ | ⟨g, off, cap, rfl, _⟩
  · rcases hown with h | h <;> simp [Value.ownBlock] at h
  · refine ⟨g, off, cap, w', hap, ho, ?_, hB⟩
    rcases hown with h | h
    · have : g = w.heap.size := by simpa [Value.ownBlock] using h
      omega
    · have : g = w.heap.size + 1 := by simpa [Value.ownBlock] using h
      omega
end Go.Proofs.Ytmdajndmobpgbaa

namespace Go.Proofs.Ytmdajndmobpgbaa
open Go.RowKit

/-- An error code as a value of type error; 0: none. -/
def errV (k : Int) : Value := if k = 0 then .nilIface else .iface 33 (.int .i64 k)
theorem errV0 : errV 0 = .nilIface := rfl
theorem errV_pos {k : Int} (h : k ≠ 0) : errV k = .iface 33 (.int .i64 k) := if_neg h
set_option maxHeartbeats 400000 in
theorem num_nil (w : World) : Calls Try.prog 23 #[.nilIface] w fun e w' => e = .returned (.int .i64 0) ∧ w' = w := by
  go_enter Try.func23, Try.ntmps23
  go_wp2
  go_ret
  exact ⟨rfl, rfl⟩
theorem ta_errno (k : Int) (w : World) : (Instr.typeAssert (.iface 33 (.int .i64 k)) 25 33 true).run Try.prog w = .ok (.tuple #[.int .i64 k, .bool true]) w := by kernel_rfl
set_option maxHeartbeats 400000 in
theorem num_err (k : Int) (w : World) : Calls Try.prog 23 #[.iface 33 (.int .i64 k)] w fun e w' => e = .returned (.int .i64 k) ∧ w' = w := by
  have hta := ta_errno k
  go_enter Try.func23, Try.ntmps23
  go_wp2
  go_ret
  exact ⟨rfl, rfl⟩
theorem num_any (k : Int) (w : World) : Calls Try.prog 23 #[errV k] w fun e w' => e = .returned (.int .i64 k) ∧ w' = w := by
  by_cases h : k = 0
  · subst h; exact num_nil w
  · rw [show errV k = _ from if_neg h]; exact num_err k w
def isB (k m : Int) : Bool := decide (k = m ∧ m ≠ 0)
theorem isB_true {m : Int} (h : m ≠ 0) : isB m m = true := decide_eq_true ⟨rfl, h⟩
theorem isB_false {k m : Int} (h : k ≠ m) : isB k m = false := decide_eq_false (fun x => h x.1)
theorem is_any (k m : Int) (hm : m ≠ 0) (w : World) : Calls Try.prog 13 #[errV k, .int .i64 m] w fun e w' => e = .returned (.bool (isB k m)) ∧ w' = w := by
  have CN := Lib.hid (num_any k w)
  have hz : (m == 0) = false := by rw [beq_eq_false_iff_ne]; exact hm
  have hz2 : (m != 0) = true := by rw [bne_iff_ne]; exact hm
  generalize hv : errV k = v at CN ⊢
  have HV := Lib.hid hv
  clear hv
  by_cases h : k = m
  · have H := Lib.hid (show isB k m = true from decide_eq_true ⟨h, hm⟩)
    have hb : (k == m) = true := by rw [beq_iff_eq]; exact h
    clear h hm
    go_enter Try.func13, Try.ntmps13
    go_wp2_with (go_at_call 23; refine CN.out.mono ?_; rintro e w1 ⟨rfl, rfl⟩)
    go_ret
    rw [H.out]
    exact ⟨rfl, rfl⟩
  · have H := Lib.hid (show isB k m = false from isB_false h)
    have hb : (k == m) = false := by rw [beq_eq_false_iff_ne]; exact h
    clear h hm
    go_enter Try.func13, Try.ntmps13
    go_wp2_with (go_at_call 23; refine CN.out.mono ?_; rintro e w1 ⟨rfl, rfl⟩)
    go_ret
    rw [H.out]
    exact ⟨rfl, rfl⟩
end Go.Proofs.Ytmdajndmobpgbaa

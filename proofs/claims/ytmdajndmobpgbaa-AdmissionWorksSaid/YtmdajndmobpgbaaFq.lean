/- The queue of package fair in memory, and what its small methods compute: known, Length, Deficit, find, and the library functions that they call. Conditions: the queue lies in memory as 'FqAt' says. -/
import Derived.Test.YtmdajndmobpgbaaKit
import Derived.Test.YtmdajndmobpgbaaFqMath
namespace Go.Proofs.Ytmdajndmobpgbaa
open Go.RowKit
open Go.Proofs.Ytmdajndmobpgbaa.Fq

def entCells : List Ent → List Value
  | [] => []
  | e :: r => .int .i64 e.1 :: .int .i64 e.2 :: entCells r
theorem entCells_len : ∀ l : List Ent, (entCells l).length = l.length * 2
  | [] => rfl
  | e :: r => by simp [entCells, entCells_len r]; omega
theorem entCells_get : ∀ (l : List Ent) (i : Nat) (h : i < l.length), (entCells l)[i * 2]? = some (.int .i64 l[i].1) ∧ (entCells l)[i * 2 + 1]? = some (.int .i64 l[i].2)
  | e :: r, 0, _ => by simp [entCells]
  | e :: r, i + 1, h => by
    have := entCells_get r i (by simpa using h)
    simp only [entCells, Nat.add_mul, List.getElem?_cons_succ, List.getElem_cons_succ]
    exact ⟨by simpa using this.1, by simpa using this.2⟩
theorem entCells_append : ∀ (l r : List Ent), entCells (l ++ r) = entCells l ++ entCells r
  | [], r => rfl
  | e :: l, r => by simp [entCells, entCells_append l r]
theorem entCells_drop : ∀ (l : List Ent) (i : Nat), entCells (l.drop i) = (entCells l).drop (i * 2)
  | l, 0 => by simp
  | [], i + 1 => by simp [entCells]
  | e :: l, i + 1 => by
    rw [Nat.add_mul, List.drop_succ_cons, entCells_drop l i]
    simp [entCells]

def nilS : Value := .slice none 0 0
/-- The value of the queue of a tenant. -/
def qv (vals : List Value) (t : Nat) : Value := vals.getD t nilS

/-- The queue s lies at block b; its quanta, deficits and queues at bq, bd, bl; the queues' values are vals. -/
structure FqAt (w : World) (b bq cq bd cd : Nat) (xt : List Value) (bl : Nat) (vals : List Value) (s : FQ) : Prop where
  hb : w.heap[b]? = some (.cells #[.slice (some ⟨bq, 0, none⟩) s.m cq, .slice (some ⟨bd, 0, none⟩) s.m cd, .slice (some ⟨bl, 0, none⟩) s.m s.m, .int .i64 s.cur, .bool s.begun] 140 (0, 0))
  hq : OL w 3 1 (.slice (some ⟨bq, 0, none⟩) s.m cq) s.m (ints s.quanta)
  hd : w.heap[bd]? = some (.cells (ints s.defs ++ xt).toArray 3 (0, 0))
  hl : w.heap[bl]? = some (.cells vals.toArray 145 (0, 0))
  hls : ∀ t, t < s.m → OL w 147 2 (qv vals t) (s.lst t).length (entCells (s.lst t))
  lq : s.quanta.length = s.m
  ld : s.defs.length = s.m
  lv : vals.length = s.m
  ne : bq ≠ bd
  ap : ∀ t t' g, t ≠ t' → (qv vals t).ownBlock = some g → (qv vals t').ownBlock ≠ some g
/-- The blocks that a queue takes up. -/
def Fp (b bq bd bl : Nat) (vals : List Value) (k : Nat) : Prop := k = b ∨ k = bq ∨ k = bd ∨ k = bl ∨ ∃ t, (qv vals t).ownBlock = some k

theorem qv_lt {vals : List Value} {t g : Nat} (h : (qv vals t).ownBlock = some g) : t < vals.length := by
  rcases Nat.lt_or_ge t vals.length with h' | h'
  · exact h'
  · unfold qv at h; simp [List.getD, List.getElem?_eq_none h', nilS, Value.ownBlock] at h
section
variable {w w' : World} {b bq cq bd cd bl : Nat} {xt : List Value} {vals : List Value} {s : FQ}
theorem FqAt.fp_lt (h : FqAt w b bq cq bd cd xt bl vals s) : ∀ k, Fp b bq bd bl vals k → k < w.heap.size := by
  rintro k (rfl | rfl | rfl | rfl | ⟨t, ht⟩)
  · exact has_lt h.hb
  · exact h.hq.lt _ rfl
  · exact has_lt h.hd
  · exact has_lt h.hl
  · exact (h.hls t (by rw [← h.lv]; exact qv_lt ht)).lt k ht
/-- Where none of its blocks has changed it lies as before. -/
theorem FqAt.same (h : FqAt w b bq cq bd cd xt bl vals s) (hh : ∀ k, Fp b bq bd bl vals k → w'.heap[k]? = w.heap[k]?) : FqAt w' b bq cq bd cd xt bl vals s :=
  { h with
    hb := (hh b (.inl rfl)).trans h.hb
    hq := h.hq.heap fun g hg => by simp [Value.ownBlock] at hg; subst hg; exact hh _ (.inr (.inl rfl))
    hd := (hh bd (.inr (.inr (.inl rfl)))).trans h.hd
    hl := (hh bl (.inr (.inr (.inr (.inl rfl))))).trans h.hl
    hls := fun t ht => (h.hls t ht).heap fun g hg => hh g (.inr (.inr (.inr (.inr ⟨t, hg⟩)))) }
theorem FqAt.below {B : Nat} (h : FqAt w b bq cq bd cd xt bl vals s) (hb : Below B w w') (hB : ∀ k, Fp b bq bd bl vals k → k < B) : FqAt w' b bq cq bd cd xt bl vals s :=
  h.same fun k hk => hb.block k (hB k hk)
theorem FqAt.belowS (h : FqAt w b bq cq bd cd xt bl vals s) (hb : Below w.heap.size w w') : FqAt w' b bq cq bd cd xt bl vals s := h.below hb h.fp_lt
theorem FqAt.c0 (h : FqAt w b bq cq bd cd xt bl vals s) : w.cell? ⟨b, 0, none⟩ = some (.slice (some ⟨bq, 0, none⟩) s.m cq) := has_cell h.hb 0
theorem FqAt.c1 (h : FqAt w b bq cq bd cd xt bl vals s) : w.cell? ⟨b, 1, none⟩ = some (.slice (some ⟨bd, 0, none⟩) s.m cd) := has_cell h.hb 1
theorem FqAt.c2 (h : FqAt w b bq cq bd cd xt bl vals s) : w.cell? ⟨b, 2, none⟩ = some (.slice (some ⟨bl, 0, none⟩) s.m s.m) := has_cell h.hb 2
theorem FqAt.c3 (h : FqAt w b bq cq bd cd xt bl vals s) : w.cell? ⟨b, 3, none⟩ = some (.int .i64 s.cur) := has_cell h.hb 3
theorem FqAt.c4 (h : FqAt w b bq cq bd cd xt bl vals s) : w.cell? ⟨b, 4, none⟩ = some (.bool s.begun) := has_cell h.hb 4
theorem FqAt.cQ (h : FqAt w b bq cq bd cd xt bl vals s) {t : Nat} (ht : t < s.m) : w.cell? ⟨bq, t, none⟩ = some (.int .i64 (s.qn t)) := by
  have := h.hq.cell t (by omega)
  rw [ints_get _ _ (by rw [h.lq]; exact ht), Nat.zero_add] at this
  exact this
theorem FqAt.cD (h : FqAt w b bq cq bd cd xt bl vals s) {t : Nat} (ht : t < s.m) : w.cell? ⟨bd, t, none⟩ = some (.int .i64 (s.df t)) := by
  rw [has_cell h.hd t]
  have := ints_get s.defs t (by rw [h.ld]; exact ht)
  show (ints s.defs ++ xt).toArray[t]? = _
  rw [List.getElem?_toArray, List.getElem?_append_left (by rw [ints_len, h.ld]; exact ht), this]; rfl
theorem FqAt.cL (h : FqAt w b bq cq bd cd xt bl vals s) {t : Nat} (ht : t < s.m) : w.cell? ⟨bl, t, none⟩ = some (qv vals t) := by
  rw [has_cell h.hl t]
  simp [qv, List.getD, h.lv, ht]
end

set_option maxHeartbeats 400000 in
theorem known_nil (t : Int) (w : World) : Calls Try.prog 63 #[.pointer none, .int .i64 t] w fun e w' => e = .returned (.bool false) ∧ w' = w := by
  go_enter Try.func63, Try.ntmps63
  go_wp2
  go_ret
  exact ⟨rfl, rfl⟩
def knB (s : FQ) (t : Int) : Bool := decide (0 ≤ t ∧ t < s.m)
theorem knB_true {s : FQ} {t : Int} (h0 : 0 ≤ t) (h1 : t < s.m) : knB s t = true := decide_eq_true ⟨h0, h1⟩
theorem knB_false {s : FQ} {t : Int} (h : ¬ (0 ≤ t ∧ t < s.m)) : knB s t = false := decide_eq_false h
set_option maxHeartbeats 400000 in
theorem known_any {b bq cq bd cd bl : Nat} {xt : List Value} {vals : List Value} {s : FQ} (t : Int) (w : World) (h : FqAt w b bq cq bd cd xt bl vals s) :
    Calls Try.prog 63 #[.pointer (some ⟨b, 0, none⟩), .int .i64 t] w fun e w' => e = .returned (.bool (knB s t)) ∧ w' = w := by
  have c2 := h.c2
  by_cases h0 : 0 ≤ t
  · by_cases h1 : t < s.m
    · have H := Lib.hid (knB_true h0 h1)
      go_enter Try.func63, Try.ntmps63
      go_wp2
      go_ret
      rw [H.out]; exact ⟨rfl, rfl⟩
    · have H := Lib.hid (knB_false (s := s) (t := t) (fun h => h1 h.2))
      go_enter Try.func63, Try.ntmps63
      go_wp2
      go_ret
      rw [H.out]; exact ⟨rfl, rfl⟩
  · have H := Lib.hid (knB_false (s := s) (t := t) (fun h => h0 h.1))
    go_enter Try.func63, Try.ntmps63
    go_wp2
    go_ret
    rw [H.out]; exact ⟨rfl, rfl⟩

def dfI (s : FQ) (t : Int) : Int := if 0 ≤ t ∧ t < s.m then s.df t.toNat else 0
def lnI (s : FQ) (t : Int) : Int := if 0 ≤ t ∧ t < s.m then (s.lst t.toNat).length else 0
end Go.Proofs.Ytmdajndmobpgbaa

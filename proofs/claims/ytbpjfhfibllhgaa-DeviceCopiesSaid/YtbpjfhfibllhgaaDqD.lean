/- The walks of power, erase, Fail, Program, Erase, Sync. Conditions: the device lies in memory as 'DevAt Qp' says, and its numbers are in their bounds ('Gd'). -/
import Derived.Test.YtbpjfhfibllhgaaDqC
namespace Go.Proofs.Ytbpjfhfibllhgaa
open Go.RowKit
open Go.Proofs.Ytbpjfhfibllhgaa.Dv
variable {Qp : Nat → Prop}

theorem only_set (w : World) (b o : Nat) (u : Value) : Only (· = b) w (w.setCell ⟨b, o, none⟩ u) := (Only.refl (· = b) w).setCell (p := ⟨b, o, none⟩) (.inl rfl) u
theorem only_set2 (w : World) (b o o' : Nat) (u u' : Value) : Only (· = b) w ((w.setCell ⟨b, o, none⟩ u).setCell ⟨b, o', none⟩ u') := (only_set w b o u).setCell (p := ⟨b, o', none⟩) (.inl rfl) u'
section
variable {w : World} {b : Nat} {vd vn vp : Value} {ds ns ps : List Value} {s : Dev} {n p : Nat}
/-- What a change of the device's own cells leaves. -/
def OwnP (Qp : Nat → Prop) (b : Nat) (vd : Value) (ds : List Value) (vn : Value) (ns : List Value) (vp : Value) (ps : List Value) (v : Value) (s' : Dev) (w : World) (e : Ending) (w' : World) : Prop :=
  e = .returned v ∧ DevAt Qp w' b vd ds vn ns vp ps s' ∧ Only (· = b) w w'
theorem power_any (h : DevAt Qp w b vd ds vn ns vp ps s) (g : Gd n p s) : Calls Try.prog 36 #[.pointer (some ⟨b, 0, none⟩)] w (OwnP Qp b vd ds vn ns vp ps (.bool s.pow.2) s.pow.1 w) := by
  have c3 := h.c3
  have c4 := h.c4
  have c5 := h.c5
  have z := has_free h.hb
  have H := Lib.hid h
  have hl0 := g.l0
  have hl1 := g.l1
  rcases pow_cases s with ⟨e1, e2, e⟩ | ⟨e1, e2, e⟩ | ⟨e1, e2, e3, e⟩ | ⟨e1, e2, e⟩
  · rw [e1] at c4
    rw [e2] at c5
    have HE := Lib.hid e
    clear e e1 e2 h g
    go_enter Try.func36, Try.ntmps36
    go_wp2
    go_ret
    rw [HE.out]
    refine ⟨rfl, H.out.own (only_set2 _ _ _ _ _ _) ?_ rfl rfl rfl, only_set2 _ _ _ _ _ _⟩
    have := setCell_heap_self (o := 4) (u := .bool false) (setCell_heap_self (o := 3) (u := .bool true) H.out.hb)
    simpa using this
  · have hno : s.planned = true → (s.left == 0) = false := fun hp => by rw [beq_eq_false_iff_ne]; exact fun hz => e1 ⟨hp, hz⟩
    have HE := Lib.hid e
    rw [e2] at c3
    generalize s.left = L at *
    cases hpl : s.planned
    · rw [hpl] at c4
      clear e e1 e2 h g hno hpl
      go_enter Try.func36, Try.ntmps36
      go_wp2
      go_ret
      rw [HE.out]
      exact ⟨rfl, H.out, Only.refl _ _⟩
    · have hz := hno hpl
      rw [hpl] at c4
      clear e e1 e2 h g hno hpl
      go_enter Try.func36, Try.ntmps36
      go_wp2
      go_ret
      rw [HE.out]
      exact ⟨rfl, H.out, Only.refl _ _⟩
  · have HE := Lib.hid e
    rw [e1] at c3
    rw [e2] at c4
    have hz : (s.left == 0) = false := by rw [beq_eq_false_iff_ne]; exact e3
    have HX := Lib.hid (fun (u : Int) (hu : u = s.left - 1) => (show (w.setCell ⟨b, 5, none⟩ (.int .i64 u)).heap[b]? = some (.cells #[vd, vn, vp, .bool s.off, .bool s.planned, .int .i64 (s.left - 1)] 81 (0, 0)) from by
      have := setCell_heap_self (o := 5) (u := .int .i64 u) H.out.hb
      rw [hu] at this
      simpa [hu] using this))
    have HZ := Lib.hid e3
    generalize s.left = L at c5 hl0 hl1 hz HX HZ HE ⊢
    clear e e1 e2 e3 h g
    go_enter Try.func36, Try.ntmps36
    go_wp2
    go_ret
    rw [HE.out]
    exact ⟨rfl, H.out.own (only_set _ _ _ _) (HX.out _ rfl) rfl rfl rfl, only_set _ _ _ _⟩
  · have HE := Lib.hid e
    rw [e1] at c3
    rw [e2] at c4
    clear e e1 e2 h g
    go_enter Try.func36, Try.ntmps36
    go_wp2
    go_ret
    rw [HE.out]
    exact ⟨rfl, H.out, Only.refl _ _⟩
theorem fail_nil (i : Int) (w : World) : Calls Try.prog 23 #[.pointer none, .int .i64 i] w fun e w' => e = .returned (.tuple #[]) ∧ w' = w := by
  go_enter Try.func23, Try.ntmps23
  go_wp2
  go_end0
  exact ⟨rfl, rfl⟩
theorem fail_any (h : DevAt Qp w b vd ds vn ns vp ps s) (i : Int) : Calls Try.prog 23 #[.pointer (some ⟨b, 0, none⟩), .int .i64 i] w (OwnP Qp b vd ds vn ns vp ps (.tuple #[]) (s.plan i) w) := by
  have c3 := h.c3
  have c4 := h.c4
  have c5 := h.c5
  have z := has_free h.hb
  have H := Lib.hid h
  by_cases ho : s.off = true
  · have HE := Lib.hid (show s.plan i = s from if_pos ho)
    rw [ho] at c3
    clear ho h
    go_enter Try.func23, Try.ntmps23
    go_wp2
    go_end0
    rw [HE.out]
    exact ⟨rfl, H.out, Only.refl _ _⟩
  · have HE := Lib.hid (show s.plan i = { s with planned := true, left := max i 0 } from if_neg ho)
    have ho' : s.off = false := Bool.not_eq_true _ ▸ ho
    rw [ho'] at c3
    clear ho ho' h
    go_enter Try.func23, Try.ntmps23
    go_wp2
    go_end0
    rw [HE.out]
    refine ⟨rfl, H.out.own (only_set2 _ _ _ _ _ _) ?_ rfl rfl rfl, only_set2 _ _ _ _ _ _⟩
    have := setCell_heap_self (o := 5) (u := .int .i64 (max i 0)) (setCell_heap_self (o := 4) (u := .bool true) H.out.hb)
    simpa using this
/-- A block is erased. -/
def ErsP (g o np : Nat) (x : Int) (w : World) (e : Ending) (w' : World) : Prop :=
  e = .returned (.tuple #[]) ∧ w' = ((w.alloc (.cells (madeCells #[.slice none 0 0] np) 22)).setCell ⟨g, o, none⟩ (.slice (some ⟨w.heap.size, 0, none⟩) np np)).setCell ⟨g, o + 1, none⟩ (.int .i64 (wrap64 (x + 1)))
theorem ers_any {g o np cp : Nat} {a : Addr} {x : Int} (w : World) (h0 : w.cell? ⟨g, o, none⟩ = some (.slice (some a) np cp)) (h1 : w.cell? ⟨g, o + 1, none⟩ = some (.int .i64 x)) (hz : ∀ j, w.frozen? ⟨g, j, none⟩ = false) (hn : np ≤ 1000000) :
    Calls Try.prog 38 #[.pointer (some ⟨g, o, none⟩)] w (ErsP g o np x w) := by
  have hmk := run_make_row' (P := Try.prog) 75 22 (.slice none 0 0) 24 Try.underlying75 (by kernel_rfl) rfl .i64 .i64 np (by omega) (by omega) w
  have hlt := World.block_lt_of_cell? w _ h0
  have k0 := (Below.cell (B := w.heap.size) (show Below w.heap.size w (w.alloc (.cells (madeCells #[.slice none 0 0] np) 22)) by go_grown) (p := ⟨g, o, none⟩) hlt).trans h0
  have k1 := (Below.cell (B := w.heap.size) (show Below w.heap.size w (w.alloc (.cells (madeCells #[.slice none 0 0] np) 22)) by go_grown) (p := ⟨g, o + 1, none⟩) hlt).trans h1
  have kz : ∀ j, (w.alloc (.cells (madeCells #[.slice none 0 0] np) 22)).frozen? ⟨g, j, none⟩ = false := fun j => (Below.frozen (B := w.heap.size) (show Below w.heap.size w (w.alloc (.cells (madeCells #[.slice none 0 0] np) 22)) by go_grown) (p := ⟨g, j, none⟩) hlt).trans (hz j)
  unfold ErsP
  generalize w.alloc (.cells (madeCells #[.slice none 0 0] np) 22) = w1 at hmk k0 k1 kz ⊢
  clear hn
  go_enter Try.func38, Try.ntmps38
  go_wp2
  go_end0
  exact ⟨rfl, rfl⟩
end
end Go.Proofs.Ytbpjfhfibllhgaa

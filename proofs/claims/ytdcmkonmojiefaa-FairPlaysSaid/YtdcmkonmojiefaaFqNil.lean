/- What every statement of this layer begins with (awake), and the statement FairNil: the walk. Conditions: none. -/
import Derived.Test.YtdcmkonmojiefaaFqLaw
namespace Go.Proofs.Ytdcmkonmojiefaa
open Go.RowKit
open Go.Proofs.Ytdcmkonmojiefaa.Fq

def awQ (i : Nat) : Int := if i = 0 then 10 else 20
theorem aw_new : newOk awQ 2 := ⟨by omega, by omega, fun i _ => by unfold awQ; split <;> omega⟩
theorem aw_put : putE (FQ.init awQ 2) 1 5 10 = 0 := putE_of (by rw [init_m]; omega) (by omega) (fun ⟨t, _, e, he, _⟩ => by rw [init_lst] at he; cases he) (by rw [init_lst]; simp)
theorem aw_pick {s1 : FQ} {en : Ent} {r : List Ent} (h : Chs (putS (FQ.init awQ 2) 1 5 10) s1) (hl : s1.lst s1.cur = en :: r) : s1.cur = 1 ∧ en.1 = 5 := by
  have g := (Gd.init aw_new).putS 1 5 10
  obtain ⟨g1, _, hls, _, _⟩ := h.gd g
  have hc := g1.cur
  rw [putS_ok aw_put, init_lst] at hls
  have e : s1.lst s1.cur = (FQ.setL (FQ.init awQ 2) (1 : Int).toNat ([] ++ [(5, 10)])).lst s1.cur := by unfold FQ.lst; rw [hls]
  have hm : s1.m = 2 := by
    have : s1.m = (FQ.setL (FQ.init awQ 2) (1 : Int).toNat ([] ++ [(5, 10)])).m := by unfold FQ.m; rw [hls]
    rw [this, setL_m, init_m]
  by_cases h1 : s1.cur = 1
  · rw [h1] at e hl
    rw [show (1 : Int).toNat = 1 from rfl, setL_lst_self (by rw [init_m]; omega), hl] at e
    simp at e
    exact ⟨h1, by rw [e.1]⟩
  · rw [show (1 : Int).toNat = 1 from rfl, setL_lst_ne (fun e => h1 e.symm), init_lst, hl] at e
    cases e
def AwP (B : Nat) (w : World) (e : Ending) (w' : World) : Prop := e = .returned (.tuple #[.int .i64 1, .int .i64 5, .nilIface]) ∧ Below B w w'
theorem aw_next {B b : Nat} (w : World) (h : QB w B b (putS (FQ.init awQ 2) 1 5 10)) (hw : B ≤ w.heap.size) : Calls Try.prog 14 #[.pointer (some ⟨b, 0, none⟩)] w (AwP B w) := by
  have hm : (putS (FQ.init awQ 2) 1 5 10).m = 2 := by rw [putS_ok aw_put, setL_m, init_m]
  have hl : (putS (FQ.init awQ 2) 1 5 10).lst 1 = [(5, 10)] := by rw [putS_ok aw_put, init_lst, show (1 : Int).toNat = 1 from rfl, setL_lst_self (by rw [init_m]; omega)]; rfl
  refine (q_next w h hw ((Gd.init aw_new).putS 1 5 10) (t0 := 1) (by omega) (by rw [hl]; simp)).mono ?_
  rintro e w' ⟨s1, en, r, hc, hl, he, _, hb⟩
  obtain ⟨h1, h2⟩ := aw_pick hc hl
  rw [h1, h2] at he
  exact ⟨he, hb⟩
theorem aw_putc {B b : Nat} (w : World) (h : QB w B b (FQ.init awQ 2)) (hw : B ≤ w.heap.size) :
    Calls Try.prog 24 #[.pointer (some ⟨b, 0, none⟩), .int .i64 1, .int .i64 5, .int .i64 10] w fun e w' => e = .returned .nilIface ∧ QB w' B b (putS (FQ.init awQ 2) 1 5 10) ∧ Below B w w' := by
  have := q_put 1 5 10 w h hw (by rw [init_m]; omega) (fun t _ => by rw [init_lst]; simp)
  rw [aw_put] at this
  exact this
set_option maxHeartbeats 400000 in
theorem awake_any (w : World) : Calls Try.prog 11 #[] w fun e w' => e = .returned (.bool true) ∧ Below w.heap.size w w' := by
  have hI : IsInts (w.alloc (.cells #[.int .i64 10, .int .i64 20] 3)) (some ⟨w.heap.size, 0, none⟩) 2 w.heap.size 0 awQ :=
    ⟨fun _ => rfl, fun _ => by simp, fun i hi => by
      rw [has_cell (heap_alloc_new w _)]
      match i, hi with
      | 0, _ => rfl
      | 1, _ => rfl, fun i _ => by unfold awQ; split <;> omega⟩
  have HI := Lib.hid hI
  clear hI
  go_enter Try.func11, Try.ntmps11
  go_wp2_with fail
  have hB0 : Below w.heap.size w (w.alloc (.cells #[.int .i64 10, .int .i64 20] 3)) := by go_grown
  refine (q_new _ HI.out aw_new).mono ?_
  rintro e w1 ⟨b, rfl, hq, hb⟩
  have hB1 := hB0.trans (hb.mono hB0.size)
  have hq := hq.mono hB0.size
  clear HI hB0 hb
  go_wp2_with fail
  refine (aw_putc _ hq hB1.size).mono ?_
  rintro e w2 ⟨rfl, hq2, hb2⟩
  have hB2 := hB1.trans (hb2.mono (Nat.le_refl _))
  clear hq hb2
  go_wp2_with fail
  refine (aw_next _ hq2 hB2.size).mono ?_
  rintro e w3 ⟨rfl, hb3⟩
  have hB3 := hB2.trans hb3
  clear hq2 hb3
  go_wp2
  go_ret
  exact ⟨rfl, hB3⟩

def IsSt (w : World) (b : Nat) (x0 x1 x2 x3 : Int) : Prop := w.heap[b]? = some (.cells #[.int .u8 x0, .int .i64 x1, .int .i64 x2, .int .i64 x3] 31 (0, 0))
theorem IsSt.below {w w' : World} {B b : Nat} {x0 x1 x2 x3 : Int} (h : IsSt w b x0 x1 x2 x3) (hb : Below B w w') (hB : b < B) : IsSt w' b x0 x1 x2 x3 := (hb.block b hB).trans h
theorem IsSt.cells {w : World} {b : Nat} {x0 x1 x2 x3 : Int} (h : IsSt w b x0 x1 x2 x3) : w.cell? ⟨b, 0, none⟩ = some (.int .u8 x0) ∧ w.cell? ⟨b, 1, none⟩ = some (.int .i64 x1) ∧ w.cell? ⟨b, 2, none⟩ = some (.int .i64 x2) ∧ w.cell? ⟨b, 3, none⟩ = some (.int .i64 x3) :=
  ⟨has_cell h 0, has_cell h 1, has_cell h 2, has_cell h 3⟩
theorem IsSt.lt {w : World} {b : Nat} {x0 x1 x2 x3 : Int} (h : IsSt w b x0 x1 x2 x3) : b < w.heap.size := lt_of_block h
set_option maxHeartbeats 400000 in
theorem nil_walk (x0 x1 x2 x3 : Int) (w : World) : Calls Try.prog 9 #[.agg #[.int .u8 x0, .int .i64 x1, .int .i64 x2, .int .i64 x3]] w fun e w' => e = .returned (.bool true) ∧ Below w.heap.size w w' := by
  go_enter Try.func9, Try.ntmps9
  go_wp2_with fail
  have hX : IsSt (w.alloc (.cells #[.int .u8 x0, .int .i64 x1, .int .i64 x2, .int .i64 x3] 31)) w.heap.size x0 x1 x2 x3 := heap_alloc_new w _
  have hB : Below w.heap.size w (w.alloc (.cells #[.int .u8 x0, .int .i64 x1, .int .i64 x2, .int .i64 x3] 31)) := by go_grown
  refine (awake_any _).mono ?_
  rintro e w1 ⟨rfl, hb1⟩
  replace hX := hX.below hb1 hX.lt
  replace hB := hB.trans (hb1.mono (by simp))
  clear hb1
  obtain ⟨c0, c1, c2, c3⟩ := hX.cells
  go_wp2_with (go_at_call 14; refine (next_nil _).mono ?_; rintro e w2 ⟨rfl, rfl⟩)
  refine (peek_nil _).mono ?_
  rintro e w3 ⟨rfl, hb3⟩
  replace hX := hX.below hb3 hX.lt
  replace hB := hB.trans (hb3.mono hB.size)
  clear hb3 c0 c1 c2 c3
  obtain ⟨c0, c1, c2, c3⟩ := hX.cells
  go_wp2_with fail
  refine (put_nil _ _ _ _).mono ?_
  rintro e w4 ⟨rfl, hb4⟩
  replace hX := hX.below hb4 hX.lt
  replace hB := hB.trans (hb4.mono hB.size)
  clear hb4 c0 c1 c2 c3
  obtain ⟨c0, c1, c2, c3⟩ := hX.cells
  go_wp2_with (first
    | (go_at_call 16; refine (is3 _).mono ?_; rintro e w1 ⟨rfl, rfl⟩)
    | (go_at_call 18; refine (cancel_nil _ _).mono ?_; rintro e w1 ⟨rfl, rfl⟩)
    | (go_at_call 17; refine (deficit_nil _ _).mono ?_; rintro e w1 ⟨rfl, rfl⟩)
    | (go_at_call 13; refine (length_nil _ _).mono ?_; rintro e w1 ⟨rfl, rfl⟩))
  go_ret
  exact ⟨rfl, hB⟩
end Go.Proofs.Ytdcmkonmojiefaa

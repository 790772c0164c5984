/- admission: the statement AdmissionIds: the walk. Conditions: the cost is a byte. -/
import Derived.Test.YtmdajndmobpgbaaAdIdP
namespace Go.Proofs.Ytmdajndmobpgbaa
open Go.RowKit
open Go.Proofs.Ytmdajndmobpgbaa.Fq
open Go.Proofs.Ytmdajndmobpgbaa.Bk

theorem isE (k : Int) (hk : k ≠ 0) (w : World) : Calls Try.prog 13 #[errV k, .int .i64 k] w fun e w' => e = .returned (.bool true) ∧ w' = w := by
  have := is_any k k hk w
  rw [isB_true hk] at this
  exact this
theorem one_id (w : World) (id : Int) : IsI (w.alloc (.cells #[.int .i64 id] 3)) (.slice (some ⟨w.heap.size, 0, none⟩) 1 1) [id] := OL.of_block (cs := ints [id]) (heap_alloc_new w _) rfl (by simp [maxLen])
theorem below_one (w : World) (id : Int) : Below w.heap.size w (w.alloc (.cells #[.int .i64 id] 3)) := by go_grown
theorem sort_one (id : Int) : sortI [id] = [id] := by simp [sortI]
theorem can_not {s : AS} {run : List Int} {r id : Int} {t i : Nat} (h : IdSt s [] [] run r) (hf : AFind s id (some (t, i))) : False := by
  have := (h.has id).1 (afind_has hf)
  simp at this
set_option maxRecDepth 100000 in
set_option maxHeartbeats 3200000 in
theorem ids_walk (c id : Int) (cn : Bool) (w : World) (hc0 : 0 ≤ c) (hc1 : c ≤ 255) : Calls Try.prog 3 #[.int .u8 c, .int .i64 id, .bool cn] w (AwP w) := by
  have CA' := Lib.hid (awake_any w)
  obtain ⟨n, hn⟩ : ∃ n, 1 + c = n := ⟨_, rfl⟩
  have hn1 : 1 ≤ n := by omega
  have hn2 : n ≤ 256 := by omega
  have HNE := Lib.hid hn
  clear hn
  go_enter Try.func3, Try.ntmps3
  go_wp2_with fail
  refine CA'.out.mono ?_
  rintro e w1 ⟨rfl, hb1⟩
  have hb2 : Below w1.heap.size w1 (w1.alloc (.cells #[.int .i64 1000, .int .i64 0, .int .i64 1, .int .i64 1, .int .i64 1000, .int .i64 0, .int .i64 1, .int .i64 300] 29)) := by go_grown
  have hS : IsS (w1.alloc (.cells #[.int .i64 1000, .int .i64 0, .int .i64 1, .int .i64 1, .int .i64 1000, .int .i64 0, .int .i64 1, .int .i64 300] 29)) (.slice (some ⟨w1.heap.size, 0, none⟩) 2 2) idS := OL.of_block (cs := shCells idS) (heap_alloc_new w1 _) rfl (by simp [idS, maxLen])
  have CN := Lib.hid (c_new (slots := 2) hS (by simp [idS]) (fun s hs => by simp [idS] at hs; rcases hs with rfl | rfl <;> simp) id_ok)
  have HB := Lib.hid (hb1.trans (hb2.mono hb1.size))
  clear CA' hb1 hb2 hS
  go_wp2_with fail
  refine CN.out.mono ?_
  rintro e w2 ⟨b, rfl, hC⟩
  have I0 := Lib.hid IdSt.start
  generalize AS.init idS 2 = s0 at *
  obtain ⟨W, hW⟩ : ∃ W, w1.alloc (.cells #[.int .i64 1000, .int .i64 0, .int .i64 1, .int .i64 1, .int .i64 1000, .int .i64 0, .int .i64 1, .int .i64 300] 29) = W := ⟨_, rfl⟩
  rw [hW] at hC HB
  clear CN hW
  obtain ⟨e1, I1'⟩ := I0.out.sub0 (id := id) (c := n) hn1 (by omega)
  have CS := Lib.hid (c_submit hC 0 0 id n)
  rw [e1, errV0] at CS
  have I1 := Lib.hid I1'
  generalize subS s0 0 id n = s1 at *
  clear e1 I1' hC I0
  have HC1 : Hid (c + 1 ≤ 256) := Lib.hid (by omega)
  have hne := HNE.out
  subst hne
  go_wp2_with fail
  refine CS.out.mono ?_
  rintro e w3 ⟨rfl, hC, _⟩
  obtain ⟨e1, e2⟩ := I1.out.sub4 (t := 1) (id := id) (c := 1 + c) ⟨by omega, by omega⟩ hn1 (by omega) (.inl ⟨_, List.mem_singleton.2 rfl, rfl⟩)
  have CS := Lib.hid (c_submit hC 0 1 id (1 + c))
  rw [e1, e2] at CS
  clear e1 e2 hC
  go_wp2_with fail
  refine CS.out.mono ?_
  rintro e w4 ⟨rfl, hC, _⟩
  clear CS
  go_wp2_with fail
  refine (isE 4 (by decide) _).mono ?_
  rintro e w4' ⟨rfl, hw4⟩
  obtain rfl : w4 = w4' := hw4.symm
  obtain ⟨e1, e2⟩ := I1.out.fin3 (id := id) (by simp)
  have CF := Lib.hid (c_finish hC id)
  rw [e1, e2] at CF
  clear e1 e2 hC
  go_wp2_with fail
  refine CF.out.mono ?_
  rintro e w5 ⟨rfl, hC, _⟩
  clear CF
  go_wp2_with fail
  refine (isE 3 (by decide) _).mono ?_
  rintro e w5' ⟨rfl, hw5⟩
  obtain rfl : w5 = w5' := hw5.symm
  cases cn
  · have I2 := I1
    clear I1
    have CT := Lib.hid (c_start hC 0)
    clear hC
    go_wp2_with fail
    refine CT.out.mono ?_
    rintro e u1 ⟨s3, o, a, hl, v, rfl, hi, hC, _⟩
    obtain ⟨rfl, I3'⟩ := I2.out.st0 hn1 (by omega) (by omega) hl
    have I3 := Lib.hid I3'
    obtain ⟨ao, cap, rfl⟩ := OL.shape hi
    have CI := Lib.hid (ints_same (hi.belowS (below_one u1 id)) (one_id u1 id))
    have HC := Lib.hid ((hC.less (J := fun _ => False) fun _ f => f.elim).bel (below_one u1 id))
    generalize s3.back = s4 at *
    clear CT hl hi hC I3' I2
    go_wp2_with fail
    refine CI.out.mono ?_
    rintro e u2 ⟨rfl, hb2⟩
    have CT := Lib.hid (c_start (HC.out.bel hb2) 0)
    clear CI HC hb2
    go_wp2_with fail
    refine CT.out.mono ?_
    rintro e u3 ⟨s5, o, a, hl, v, rfl, hi, hC, _⟩
    obtain ⟨rfl, I5'⟩ := I3.out.idle hl
    have I5 := Lib.hid I5'
    obtain ⟨ao3, cap3, rfl⟩ := OL.shape hi
    have HC := Lib.hid (hC.less (J := fun _ => False) fun _ f => f.elim)
    generalize s5.back = s6 at *
    clear CT hl hi hC I5' I3
    have CX := Lib.hid (c_cancel HC.out id)
    clear HC
    go_wp2_with fail
    refine CX.out.mono ?_
    rintro e u4 (⟨rfl, _, hC, _⟩ | ⟨rfl, t, i, hf, _⟩)
    rotate_left
    · exact (can_not I5.out hf).elim
    obtain ⟨e1, e2⟩ := I5.out.sub4 (t := 0) (id := id) (c := 1 + c) ⟨by omega, by omega⟩ hn1 (by omega) (.inr (.inr (by simp)))
    have CS := Lib.hid (c_submit hC 0 0 id (1 + c))
    rw [e1, e2] at CS
    clear e1 e2 hC CX
    go_wp2_with fail
    refine CS.out.mono ?_
    rintro e u5 ⟨rfl, hC, _⟩
    have HC := Lib.hid hC
    clear CS hC
    go_wp2_with fail
    refine (isE 4 (by decide) _).mono ?_
    rintro e u5' ⟨rfl, hw5⟩
    obtain rfl : u5 = u5' := hw5.symm
    have CR := Lib.hid (c_running HC.out)
    rw [I5.out.rn, sort_one] at CR
    clear HC
    go_wp2_with fail
    refine CR.out.mono ?_
    rintro e u6 ⟨v, rfl, hi, hC, _⟩
    obtain ⟨ao6, cap6, rfl⟩ := OL.shape hi
    have CI := Lib.hid (ints_same (hi.belowS (below_one u6 id)) (one_id u6 id))
    have HC := Lib.hid ((hC.less (J := fun _ => False) fun _ f => f.elim).bel (below_one u6 id))
    clear CR hi hC
    go_wp2_with fail
    refine CI.out.mono ?_
    rintro e u7 ⟨rfl, hb7⟩
    obtain ⟨e1, I7'⟩ := I5.out.fin0
    have CF := Lib.hid (c_finish (HC.out.bel hb7) id)
    rw [e1, errV0] at CF
    have I7 := Lib.hid I7'
    generalize finS s6 id = s7 at *
    clear e1 I7' CI HC hb7 I5
    go_wp2_with fail
    refine CF.out.mono ?_
    rintro e u8 ⟨rfl, hC, _⟩
    obtain ⟨e1, e2⟩ := I7.out.fin3 (id := id) (by simp)
    have CF := Lib.hid (c_finish hC id)
    rw [e1, e2] at CF
    clear e1 e2 hC
    go_wp2_with fail
    refine CF.out.mono ?_
    rintro e u9 ⟨rfl, hC, _⟩
    have HC := Lib.hid hC
    clear CF hC
    go_wp2_with fail
    refine (isE 3 (by decide) _).mono ?_
    rintro e u9' ⟨rfl, hw9⟩
    obtain rfl : u9 = u9' := hw9.symm
    obtain ⟨e1, I8'⟩ := I7.out.sub0 (id := id) (c := 1) (by omega) (by omega)
    have CS := Lib.hid (c_submit HC.out 0 0 id 1)
    rw [e1, errV0] at CS
    have I8 := Lib.hid I8'
    generalize subS s7 0 id 1 = s8 at *
    clear e1 I8' HC I7
    go_wp2_with fail
    refine CS.out.mono ?_
    rintro e u10 ⟨rfl, hC, _⟩
    have CT := Lib.hid (c_start hC 0)
    clear CS hC
    go_wp2_with fail
    refine CT.out.mono ?_
    rintro e u11 ⟨s9, o, a, hl, v, rfl, hi, hC, _⟩
    obtain ⟨rfl, _⟩ := I8.out.st0 (by omega) (by omega) (by omega) hl
    obtain ⟨ao11, cap11, rfl⟩ := OL.shape hi
    have CI := Lib.hid (ints_same (hi.belowS (below_one u11 id)) (one_id u11 id))
    have HC := Lib.hid ((hC.less (J := fun _ => False) fun _ f => f.elim).bel (below_one u11 id))
    clear CT hl hi hC I8
    go_wp2_with fail
    refine CI.out.mono ?_
    rintro e u12 ⟨rfl, hb12⟩
    have HP : Hid (AwP w (.returned (.bool true)) u12) := Lib.hid ⟨rfl, HB.out.trans ((HC.out.bel hb12).be.mono HB.out.size)⟩
    clear CI HC hb12
    go_wp2
    go_ret
    exact HP.out
  · have CX := Lib.hid (c_cancel hC id)
    clear hC
    go_wp2_with fail
    refine CX.out.mono ?_
    rintro e w6 (⟨rfl, hno, _⟩ | ⟨rfl, t, i, hf, hC, _⟩)
    · exact absurd ((I1.out.has id).2 (.inl ⟨_, List.mem_singleton.2 rfl, rfl⟩)) hno
    have I6 := Lib.hid (I1.out.can hf)
    generalize canS s1 t i = s6' at *
    have CX := Lib.hid (c_cancel hC id)
    clear hC hf I1
    go_wp2_with fail
    refine CX.out.mono ?_
    rintro e w7 (⟨rfl, _, hC, _⟩ | ⟨rfl, t', i', hf, _⟩)
    rotate_left
    · exact (can_not I6.out hf).elim
    obtain ⟨e1, I2'⟩ := I6.out.sub1 (id := id) (c := 1 + c) hn1 (by omega)
    have CS := Lib.hid (c_submit hC 0 1 id (1 + c))
    rw [e1, errV0] at CS
    have I2 := Lib.hid I2'
    generalize subS s6' 1 id (1 + c) = s2' at *
    clear e1 I2' hC CX I6
    go_wp2_with fail
    refine CS.out.mono ?_
    rintro e w8 ⟨rfl, hC, _⟩
    clear CS
    have CT := Lib.hid (c_start hC 0)
    clear hC
    go_wp2_with fail
    refine CT.out.mono ?_
    rintro e u1 ⟨s3, o, a, hl, v, rfl, hi, hC, _⟩
    obtain ⟨rfl, I3'⟩ := I2.out.st1 hn1 (by omega) (by omega) hl
    have I3 := Lib.hid I3'
    obtain ⟨ao, cap, rfl⟩ := OL.shape hi
    have CI := Lib.hid (ints_same (hi.belowS (below_one u1 id)) (one_id u1 id))
    have HC := Lib.hid ((hC.less (J := fun _ => False) fun _ f => f.elim).bel (below_one u1 id))
    generalize s3.back = s4 at *
    clear CT hl hi hC I3' I2
    go_wp2_with fail
    refine CI.out.mono ?_
    rintro e u2 ⟨rfl, hb2⟩
    have CT := Lib.hid (c_start (HC.out.bel hb2) 0)
    clear CI HC hb2
    go_wp2_with fail
    refine CT.out.mono ?_
    rintro e u3 ⟨s5, o, a, hl, v, rfl, hi, hC, _⟩
    obtain ⟨rfl, I5'⟩ := I3.out.idle hl
    have I5 := Lib.hid I5'
    obtain ⟨ao3, cap3, rfl⟩ := OL.shape hi
    have HC := Lib.hid (hC.less (J := fun _ => False) fun _ f => f.elim)
    generalize s5.back = s6 at *
    clear CT hl hi hC I5' I3
    have CX := Lib.hid (c_cancel HC.out id)
    clear HC
    go_wp2_with fail
    refine CX.out.mono ?_
    rintro e u4 (⟨rfl, _, hC, _⟩ | ⟨rfl, t, i, hf, _⟩)
    rotate_left
    · exact (can_not I5.out hf).elim
    obtain ⟨e1, e2⟩ := I5.out.sub4 (t := 0) (id := id) (c := 1 + c) ⟨by omega, by omega⟩ hn1 (by omega) (.inr (.inr (by simp)))
    have CS := Lib.hid (c_submit hC 0 0 id (1 + c))
    rw [e1, e2] at CS
    clear e1 e2 hC CX
    go_wp2_with fail
    refine CS.out.mono ?_
    rintro e u5 ⟨rfl, hC, _⟩
    have HC := Lib.hid hC
    clear CS hC
    go_wp2_with fail
    refine (isE 4 (by decide) _).mono ?_
    rintro e u5' ⟨rfl, hw5⟩
    obtain rfl : u5 = u5' := hw5.symm
    have CR := Lib.hid (c_running HC.out)
    rw [I5.out.rn, sort_one] at CR
    clear HC
    go_wp2_with fail
    refine CR.out.mono ?_
    rintro e u6 ⟨v, rfl, hi, hC, _⟩
    obtain ⟨ao6, cap6, rfl⟩ := OL.shape hi
    have CI := Lib.hid (ints_same (hi.belowS (below_one u6 id)) (one_id u6 id))
    have HC := Lib.hid ((hC.less (J := fun _ => False) fun _ f => f.elim).bel (below_one u6 id))
    clear CR hi hC
    go_wp2_with fail
    refine CI.out.mono ?_
    rintro e u7 ⟨rfl, hb7⟩
    obtain ⟨e1, I7'⟩ := I5.out.fin0
    have CF := Lib.hid (c_finish (HC.out.bel hb7) id)
    rw [e1, errV0] at CF
    have I7 := Lib.hid I7'
    generalize finS s6 id = s7 at *
    clear e1 I7' CI HC hb7 I5
    go_wp2_with fail
    refine CF.out.mono ?_
    rintro e u8 ⟨rfl, hC, _⟩
    obtain ⟨e1, e2⟩ := I7.out.fin3 (id := id) (by simp)
    have CF := Lib.hid (c_finish hC id)
    rw [e1, e2] at CF
    clear e1 e2 hC
    go_wp2_with fail
    refine CF.out.mono ?_
    rintro e u9 ⟨rfl, hC, _⟩
    have HC := Lib.hid hC
    clear CF hC
    go_wp2_with fail
    refine (isE 3 (by decide) _).mono ?_
    rintro e u9' ⟨rfl, hw9⟩
    obtain rfl : u9 = u9' := hw9.symm
    obtain ⟨e1, I8'⟩ := I7.out.sub0 (id := id) (c := 1) (by omega) (by omega)
    have CS := Lib.hid (c_submit HC.out 0 0 id 1)
    rw [e1, errV0] at CS
    have I8 := Lib.hid I8'
    generalize subS s7 0 id 1 = s8 at *
    clear e1 I8' HC I7
    go_wp2_with fail
    refine CS.out.mono ?_
    rintro e u10 ⟨rfl, hC, _⟩
    have CT := Lib.hid (c_start hC 0)
    clear CS hC
    go_wp2_with fail
    refine CT.out.mono ?_
    rintro e u11 ⟨s9, o, a, hl, v, rfl, hi, hC, _⟩
    obtain ⟨rfl, _⟩ := I8.out.st0 (by omega) (by omega) (by omega) hl
    obtain ⟨ao11, cap11, rfl⟩ := OL.shape hi
    have CI := Lib.hid (ints_same (hi.belowS (below_one u11 id)) (one_id u11 id))
    have HC := Lib.hid ((hC.less (J := fun _ => False) fun _ f => f.elim).bel (below_one u11 id))
    clear CT hl hi hC I8
    go_wp2_with fail
    refine CI.out.mono ?_
    rintro e u12 ⟨rfl, hb12⟩
    have HP : Hid (AwP w (.returned (.bool true)) u12) := Lib.hid ⟨rfl, HB.out.trans ((HC.out.bel hb12).be.mono HB.out.size)⟩
    clear CI HC hb12
    go_wp2
    go_ret
    exact HP.out
end Go.Proofs.Ytmdajndmobpgbaa

/- admission: what a Submit that is accepted makes; awake; the statement AdmissionNil: the walks. Conditions: none. -/
import Derived.Test.YtmdajndmobpgbaaZAdRunP
namespace Go.Proofs.Ytmdajndmobpgbaa
open Go.RowKit
open Go.Proofs.Ytmdajndmobpgbaa.Fq
open Go.Proofs.Ytmdajndmobpgbaa.Bk

section
variable {s : AS}
theorem subE_ok {t : Nat} {id c : Int} (ht : t < s.m) (hc1 : 1 ≤ c) (hc2 : c ≤ 1048576) (hh : ¬ s.has id) (hr : id ∉ s.run) (hf : (s.q t).length < 256) : subE s t id c = 0 := by
  unfold subE
  rw [if_neg (by omega), if_neg (by omega), if_neg (by rintro (h | h); exact hh h; exact hr h), Int.toNat_natCast, if_neg (by omega)]
theorem subS_q {t : Nat} {id c : Int} (ok : AOk s) (h : subE s t id c = 0) (ht : t < s.m) : (subS s t id c).q t = s.q t ++ [(id, c)] ∧ (∀ t', t ≠ t' → (subS s t id c).q t' = s.q t') ∧ (subS s t id c).run = s.run ∧ (subS s t id c).bk = s.bk ∧ (subS s t id c).sh = s.sh ∧ (subS s t id c).slots = s.slots := by
  unfold subS
  rw [if_pos h, Int.toNat_natCast]
  exact ⟨AS.q_self (s := s.setF _) (by show t < s.ql.length; rw [ok.lq]; exact ht) _, fun t' hne => AS.q_ne (s := s.setF _) hne _, rfl, rfl, rfl, rfl⟩
theorem no_has (h : ∀ t, t < s.m → s.q t = []) (id : Int) : ¬ s.has id := by
  rintro ⟨t, ht, e, he, _⟩
  rw [h t ht] at he
  cases he
end
def awS : List Shr := [⟨2, 1, 10, 1⟩]
theorem aw_ok : adOk awS 3 := by
  refine ⟨by omega, fun s hs => ?_, by simp [awS], fun s hs => ?_⟩
  · simp [awS] at hs
    subst hs
    exact ⟨by simp, by simp, by simp⟩
  · simp [awS] at hs
    subst hs
    simp
theorem aw_sub : subE (AS.init awS 3) 0 7 1 = 0 := subE_ok (t := 0) (by decide) (by omega) (by omega) (no_has (fun t _ => init_q _ _ _) _) (by show (7 : Int) ∉ []; simp) (by rw [init_q]; simp)
theorem aw_start {s1 : AS} {o : List Int} {a : List Nat} (h : SLoop 0 (subS (AS.init awS 3) 0 7 1) [] [] s1 o a) : o = [7] ∧ s1.back.run = [7] := by
  have ok := (init_ok aw_ok).subS 0 7 1
  obtain ⟨q0, q1, hr, hbk, hsh, hsl⟩ := subS_q (t := 0) (init_ok aw_ok) aw_sub (by decide)
  rw [init_q] at q0
  have hz : ∀ t', t' < (subS (AS.init awS 3) 0 7 1).m → t' ≠ 0 → (subS (AS.init awS 3) 0 7 1).q t' = [] := fun t' _ hne => by
    rw [show (0 : Int) = ((0 : Nat) : Int) from rfl, q1 t' (Ne.symm hne), init_q]
  have hm : 0 < (subS (AS.init awS 3) 0 7 1).m := by unfold AS.m; rw [show (0 : Int) = ((0 : Nat) : Int) from rfl, hsh]; decide
  have htk : (subS (AS.init awS 3) 0 7 1).takes 0 0 = true := by
    unfold AS.takes priceOf AS.shr AS.bkt
    rw [show (0 : Int) = ((0 : Nat) : Int) from rfl, q0, hsh, hbk]
    decide
  obtain ⟨f1, hc, e, _, rfl, rfl⟩ := h.single ok (by rw [show (0 : Int) = ((0 : Nat) : Int) from rfl, hr, hsl]; decide) hm q0 hz htk
  obtain ⟨h1, _⟩ := began_st (now := 0) ok hc e hm q0 hz
  refine ⟨rfl, h1.trans ?_⟩
  rw [show (0 : Int) = ((0 : Nat) : Int) from rfl, hr]
  rfl
def AwP (w : World) (e : Ending) (w' : World) : Prop := e = .returned (.bool true) ∧ Below w.heap.size w w'
set_option maxRecDepth 100000 in
set_option maxHeartbeats 1600000 in
theorem awake_any (w : World) : Calls Try.prog 10 #[] w (AwP w) := by
  have hb0 : Below w.heap.size w (w.alloc (.cells #[.int .i64 2, .int .i64 1, .int .i64 10, .int .i64 1] 29)) := by go_grown
  have hS : IsS (w.alloc (.cells #[.int .i64 2, .int .i64 1, .int .i64 10, .int .i64 1] 29)) (.slice (some ⟨w.heap.size, 0, none⟩) 1 1) awS := OL.of_block (cs := shCells awS) (heap_alloc_new w _) rfl (by simp [awS, maxLen])
  have CN := Lib.hid (c_new (slots := 3) hS (by simp [awS]) (fun s hs => by simp [awS] at hs; subst hs; simp) aw_ok)
  have HB0 := Lib.hid hb0
  clear hS hb0
  go_enter Try.func10, Try.ntmps10
  go_wp2_with fail
  refine CN.out.mono ?_
  rintro e w1 ⟨b, rfl, hC⟩
  have CS := Lib.hid (c_submit hC 0 0 7 1)
  rw [aw_sub, errV0] at CS
  clear CN hC
  go_wp2_with fail
  refine CS.out.mono ?_
  rintro e w2 ⟨rfl, hC, _⟩
  have CT := Lib.hid (c_start hC 0)
  clear CS hC
  go_wp2_with fail
  refine CT.out.mono ?_
  rintro e w3 ⟨s1, o, a, hl, v, rfl, hi, hC, _⟩
  obtain ⟨rfl, hrun⟩ := aw_start hl
  obtain ⟨ao, cap, rfl⟩ := OL.shapeA hi
  have hi7 : IsI (w3.alloc (.cells #[.int .i64 7] 3)) (.slice (some ⟨w3.heap.size, 0, none⟩) 1 1) [7] := OL.of_block (cs := ints [7]) (heap_alloc_new w3 _) rfl (by simp [maxLen])
  have hb3 : Below w3.heap.size w3 (w3.alloc (.cells #[.int .i64 7] 3)) := by go_grown
  have CI := Lib.hid (ints_same (hi.belowS hb3) hi7)
  have HC := Lib.hid (hC.bel hb3)
  have HR := Lib.hid hrun
  clear CT hl hi hi7 hb3 hC hrun
  go_wp2_with fail
  refine CI.out.mono ?_
  rintro e w4 ⟨rfl, hb4⟩
  have CR := Lib.hid (c_running (HC.out.bel hb4))
  rw [HR.out] at CR
  clear CI HC hb4
  go_wp2_with fail
  refine CR.out.mono ?_
  rintro e w5 ⟨v5, rfl, hi5, hC5, _⟩
  have hs7 : sortI [7] = [7] := by simp [sortI]
  rw [hs7] at hi5
  obtain ⟨ao5, cap5, rfl⟩ := OL.shapeA hi5
  have hi7 : IsI (w5.alloc (.cells #[.int .i64 7] 3)) (.slice (some ⟨w5.heap.size, 0, none⟩) 1 1) [7] := OL.of_block (cs := ints [7]) (heap_alloc_new w5 _) rfl (by simp [maxLen])
  have hb5 : Below w5.heap.size w5 (w5.alloc (.cells #[.int .i64 7] 3)) := by go_grown
  have CI := Lib.hid (ints_same (hi5.belowS hb5) hi7)
  have HC := Lib.hid (hC5.bel hb5)
  clear CR hi5 hi7 hb5 hC5 hs7
  go_wp2_with fail
  refine CI.out.mono ?_
  rintro e w6 ⟨rfl, hb6⟩
  have HP : Hid (AwP w (.returned (.bool true)) w6) := Lib.hid ⟨rfl, HB0.out.trans ((HC.out.bel hb6).be.mono HB0.out.size)⟩
  clear CI HC hb6
  go_wp2
  go_ret
  exact HP.out
/-- A step of a script. -/
def stepV (what later t id c : Int) : Value := .agg #[.int .u8 what, .int .u16 later, .int .i64 t, .int .i64 id, .int .i64 c]
set_option maxRecDepth 100000 in
set_option maxHeartbeats 1600000 in
theorem nil_walk (what later t id c : Int) (w : World) : Calls Try.prog 9 #[stepV what later t id c] w (AwP w) := by
  unfold stepV
  have hb0 : Below w.heap.size w (w.alloc (.cells #[.int .u8 what, .int .u16 later, .int .i64 t, .int .i64 id, .int .i64 c] 63)) := by go_grown
  have HX := Lib.hid (heap_alloc_new w (.cells #[.int .u8 what, .int .u16 later, .int .i64 t, .int .i64 id, .int .i64 c] 63))
  have hlt : w.heap.size < (w.alloc (.cells #[.int .u8 what, .int .u16 later, .int .i64 t, .int .i64 id, .int .i64 c] 63)).heap.size := by simp
  have HB0 := Lib.hid hb0
  have CA' := Lib.hid (awake_any (w.alloc (.cells #[.int .u8 what, .int .u16 later, .int .i64 t, .int .i64 id, .int .i64 c] 63)))
  have HI : Hid (isB 3 3 = true) := Lib.hid (isB_true (by decide))
  clear hb0
  go_enter Try.func9, Try.ntmps9
  go_wp2_with fail
  refine CA'.out.mono ?_
  rintro e w1 ⟨rfl, hb1⟩
  have hx1 := below_ats hb1 HX.out
  have x2 := (has_cell hx1 2).trans (show _ = some (Value.int .i64 t) from rfl)
  have x3 := (has_cell hx1 3).trans (show _ = some (Value.int .i64 id) from rfl)
  have x4 := (has_cell hx1 4).trans (show _ = some (Value.int .i64 c) from rfl)
  have HP : Hid (AwP w (.returned (.bool true)) w1) := Lib.hid ⟨rfl, HB0.out.trans (hb1.mono HB0.out.size)⟩
  have CIs := Lib.hid (fun w => by have := is_any 3 3 (by decide) w; rw [HI.out] at this; exact this)
  clear CA' hb1 hx1 HX hlt
  go_wp2_with (first | (go_at_call 19; refine (awhen_nil _ _).mono ?_; rintro e w' ⟨rfl, rfl⟩) | (go_at_call 12; refine (submit_nil _ _ _ _ _).mono ?_; rintro e w' ⟨rfl, rfl⟩) | (go_at_call 13; refine (CIs.out _).mono ?_; rintro e w' ⟨rfl, rfl⟩) | (go_at_call 17; refine (start_nil _ _).mono ?_; rintro e w' ⟨rfl, rfl⟩) | (go_at_call 14; refine (finish_nil _ _).mono ?_; rintro e w' ⟨rfl, rfl⟩) | (go_at_call 15; refine (acancel_nil _ _).mono ?_; rintro e w' ⟨rfl, rfl⟩) | (go_at_call 18; refine (running_nil _).mono ?_; rintro e w' ⟨rfl, rfl⟩))
  go_ret
  exact HP.out
end Go.Proofs.Ytmdajndmobpgbaa

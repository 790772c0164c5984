/- collapse: a nil table; the walk of the statement CollapseNil. Conditions: the argument's numbers are what their types hold. -/
import Derived.Test.YtfnohilhlofimaaCoJ
namespace Go.Proofs.Ytfnohilhlofimaa
open Go.RowKit

theorem nil_mark (k : ByteArray) (n : Int) (w : World) : Calls Try.prog 20 #[.pointer none, .string k, .int .i64 n] w fun e w' => e = .returned (.tuple #[]) ∧ w' = w := by
  go_enter Try.func20, Try.ntmps20
  go_wp2
  first | go_end0 | refine bodyPost_ret (results_none rfl _ _ _) rfl ?_
  exact ⟨rfl, rfl⟩
theorem nil_ask (k : ByteArray) (n now : Int) (w : World) : Calls Try.prog 13 #[.pointer none, .string k, .int .i64 n, .int .i64 now] w fun e w' => e = .returned (.tuple #[.int .i64 0, .iface 37 (.int .i64 3)]) ∧ w' = w := by
  go_enter Try.func13, Try.ntmps13
  go_wp2
  go_ret2
  exact ⟨rfl, rfl⟩
theorem nil_done (k : ByteArray) (w : World) : Calls Try.prog 16 #[.pointer none, .string k] w fun e w' => e = .returned (.tuple #[.slice none 0 0, .iface 37 (.int .i64 3)]) ∧ w' = w := by
  go_enter Try.func16, Try.ntmps16
  go_wp2
  go_ret2
  exact ⟨rfl, rfl⟩
theorem nil_fail (k : ByteArray) (w : World) : Calls Try.prog 14 #[.pointer none, .string k] w fun e w' => e = .returned (.tuple #[.int .i64 0, .bool false, .iface 37 (.int .i64 3)]) ∧ w' = w := by
  go_enter Try.func14, Try.ntmps14
  go_wp2
  go_ret3
  exact ⟨rfl, rfl⟩
theorem nil_leave (n : Int) (w : World) : Calls Try.prog 23 #[.pointer none, .int .i64 n] w fun e w' => e = .returned (.tuple #[.int .i64 0, .bool false, .iface 37 (.int .i64 3)]) ∧ w' = w := by
  go_enter Try.func23, Try.ntmps23
  go_wp2
  go_ret3
  exact ⟨rfl, rfl⟩
theorem nil_leader (k : ByteArray) (w : World) : Calls Try.prog 17 #[.pointer none, .string k] w fun e w' => e = .returned (.tuple #[.int .i64 0, .bool false]) ∧ w' = w := by
  go_enter Try.func17, Try.ntmps17
  go_wp2
  go_ret2
  exact ⟨rfl, rfl⟩
theorem nil_waiters (k : ByteArray) (w : World) : Calls Try.prog 22 #[.pointer none, .string k] w fun e w' => e = .returned (.slice none 0 0) ∧ w' = w := by
  go_enter Try.func22, Try.ntmps22
  go_wp2
  go_ret
  exact ⟨rfl, rfl⟩
theorem nil_keys (w : World) : Calls Try.prog 21 #[.pointer none] w fun e w' => e = .returned (.slice none 0 0) ∧ w' = w := by
  go_enter Try.func21, Try.ntmps21
  go_wp2
  go_ret
  exact ⟨rfl, rfl⟩
theorem nil_marked (k : ByteArray) (n : Int) (w : World) : Calls Try.prog 19 #[.pointer none, .string k, .int .i64 n] w fun e w' => e = .returned (.bool false) ∧ w' = w := by
  go_enter Try.func19, Try.ntmps19
  go_wp2
  go_ret
  exact ⟨rfl, rfl⟩
theorem is3_same (w : World) : Calls Try.prog 15 #[.iface 37 (.int .i64 3), .int .i64 3] w fun e w' => e = .returned (.bool true) ∧ w' = w := by
  have := is_any 3 3 (by decide) w
  rw [isB_true (by decide), errV_pos (by decide)] at this
  exact this
set_option maxRecDepth 100000 in
set_option maxHeartbeats 1600000 in
theorem nil_walk (x0 x1 x2 x3 : Int) (h1 : 0 ≤ x1 ∧ x1 ≤ 255) (h2 : -128 ≤ x2 ∧ x2 ≤ 127) (h3 : -128 ≤ x3 ∧ x3 ≤ 127) (w : World) :
    Calls Try.prog 8 #[.agg #[.int .u8 x0, .int .u8 x1, .int .i8 x2, .int .i8 x3]] w fun e w' => e = .returned (.bool true) ∧ Below w.heap.size w w' := by
  have q2 : IntKind.i64.wrap x2 = x2 := IntWalk.i64_in _ (by omega)
  have q3 : IntKind.i64.wrap x3 = x3 := IntWalk.i64_in _ (by omega)
  have CK := Lib.hid (key_any x1 h1)
  have hba : Below w.heap.size w (w.alloc (.cells #[.int .u8 x0, .int .u8 x1, .int .i8 x2, .int .i8 x3] 28)) := by go_grown
  have HX := Lib.hid (heap_alloc_new w (.cells #[.int .u8 x0, .int .u8 x1, .int .i8 x2, .int .i8 x3] 28))
  have HL : Hid (w.heap.size < (w.alloc (.cells #[.int .u8 x0, .int .u8 x1, .int .i8 x2, .int .i8 x3] 28)).heap.size) := Lib.hid (by simp)
  have HBA := Lib.hid hba
  clear h1 h2 h3 hba
  generalize hwa : w.alloc (.cells #[.int .u8 x0, .int .u8 x1, .int .i8 x2, .int .i8 x3] 28) = wa at HX HL HBA
  have CA := Lib.hid (awake_any wa)
  have fin : Hid (∀ w2, Below wa.heap.size wa w2 → Below w.heap.size w w2) := Lib.hid fun w2 h => HBA.out.trans (h.mono HBA.out.size)
  generalize hq : w.heap.size = q at HX HL fin ⊢
  generalize keyC x1 = k at *
  go_enter Try.func8, Try.ntmps8
  go_wp2_with fail
  skip
  clear hwa hq
  refine CA.out.mono ?_
  rintro e w1 ⟨rfl, hb⟩
  have hx := ((hb).block _ HL.out).trans HX.out
  have c1 := (has_cell hx 1).trans (show _ = some (Value.int .u8 x1) from rfl)
  have c2 := (has_cell hx 2).trans (show _ = some (Value.int .i8 x2) from rfl)
  have c3 := (has_cell hx 3).trans (show _ = some (Value.int .i8 x3) from rfl)
  have HB := Lib.hid hb
  clear hb hx CA
  go_wp2_with fail
  go_region_held3 (fun w' => w'.cell? ⟨q, 1, none⟩ = some (.int .u8 x1) ∧ w'.cell? ⟨q, 3, none⟩ = some (.int .i8 x3)) (go_keep)
    (first
      | (go_at_call 18; refine (CK.out _).mono ?_; rintro e w2 ⟨rfl, hb2⟩; have HB2 : Hid (Below wa.heap.size wa w2) := Lib.hid (HB.out.trans ⟨hb2.os, hb2.tape, hb2.output, hb2.size, fun k hk => hb2.block k (Nat.lt_of_lt_of_le hk HB.out.size)⟩); have hx := ((HB2.out).block _ HL.out).trans HX.out; have c1 := (has_cell hx 1).trans (show _ = some (Value.int .u8 x1) from rfl); have c2 := (has_cell hx 2).trans (show _ = some (Value.int .i8 x2) from rfl); have c3 := (has_cell hx 3).trans (show _ = some (Value.int .i8 x3) from rfl))
      | (go_at_call 20; refine (nil_mark _ _ _).mono ?_; rintro e w3 ⟨rfl, hw⟩; subst hw))
  clear HB hb2 hx
  go_wp2_with fail
  go_region_held3 (fun w' => w'.cell? ⟨q, 1, none⟩ = some (.int .u8 x1) ∧ w'.cell? ⟨q, 2, none⟩ = some (.int .i8 x2) ∧ w'.cell? ⟨q, 3, none⟩ = some (.int .i8 x3)) (go_keep)
    (first
      | (go_at_call 18; refine (CK.out _).mono ?_; rintro e w4 ⟨rfl, hb4⟩; have HB4 : Hid (Below wa.heap.size wa w4) := Lib.hid (HB2.out.trans ⟨hb4.os, hb4.tape, hb4.output, hb4.size, fun k hk => hb4.block k (Nat.lt_of_lt_of_le hk HB2.out.size)⟩); have hx := ((HB4.out).block _ HL.out).trans HX.out; have c1 := (has_cell hx 1).trans (show _ = some (Value.int .u8 x1) from rfl); have c2 := (has_cell hx 2).trans (show _ = some (Value.int .i8 x2) from rfl); have c3 := (has_cell hx 3).trans (show _ = some (Value.int .i8 x3) from rfl))
      | (go_at_call 13; refine (nil_ask _ _ _ _).mono ?_; rintro e w5 ⟨rfl, hw⟩; subst hw))
  clear HB2 hb4 hx
  go_wp2_with fail
  refine (CK.out _).mono ?_
  rintro e w6 ⟨rfl, hb6⟩
  have HB6 : Hid (Below wa.heap.size wa w6) := Lib.hid (HB4.out.trans (hb6.mono HB4.out.size))
  have hx := ((HB6.out).block _ HL.out).trans HX.out
  have c1 := (has_cell hx 1).trans (show _ = some (Value.int .u8 x1) from rfl)
  have c2 := (has_cell hx 2).trans (show _ = some (Value.int .i8 x2) from rfl)
  have c3 := (has_cell hx 3).trans (show _ = some (Value.int .i8 x3) from rfl)
  clear HB4 hb6 hx
  go_wp2_with fail
  refine (nil_done _ _).mono ?_
  rintro e wz ⟨rfl, hw⟩
  subst hw
  go_wp2_with fail
  refine (CK.out _).mono ?_
  rintro e w7 ⟨rfl, hb7⟩
  have HB7 : Hid (Below wa.heap.size wa w7) := Lib.hid (HB6.out.trans (hb7.mono HB6.out.size))
  have hx := ((HB7.out).block _ HL.out).trans HX.out
  have c1 := (has_cell hx 1).trans (show _ = some (Value.int .u8 x1) from rfl)
  have c2 := (has_cell hx 2).trans (show _ = some (Value.int .i8 x2) from rfl)
  have c3 := (has_cell hx 3).trans (show _ = some (Value.int .i8 x3) from rfl)
  clear HB6 hb7 hx
  go_wp2_with fail
  refine (nil_fail _ _).mono ?_
  rintro e wz ⟨rfl, hw⟩
  subst hw
  go_wp2_with fail
  refine (nil_leave _ _).mono ?_
  rintro e wz ⟨rfl, hw⟩
  subst hw
  go_wp2_with fail
  refine (CK.out _).mono ?_
  rintro e w8 ⟨rfl, hb8⟩
  have HB8 : Hid (Below wa.heap.size wa w8) := Lib.hid (HB7.out.trans (hb8.mono HB7.out.size))
  have hx := ((HB8.out).block _ HL.out).trans HX.out
  have c1 := (has_cell hx 1).trans (show _ = some (Value.int .u8 x1) from rfl)
  have c2 := (has_cell hx 2).trans (show _ = some (Value.int .i8 x2) from rfl)
  have c3 := (has_cell hx 3).trans (show _ = some (Value.int .i8 x3) from rfl)
  clear HB7 hb8 hx
  go_wp2_with fail
  refine (nil_leader _ _).mono ?_
  rintro e wz ⟨rfl, hw⟩
  subst hw
  go_wp2_with fail
  refine (is3_same _).mono ?_
  rintro e wz ⟨rfl, hw⟩
  subst hw
  go_wp2_with fail
  refine (is3_same _).mono ?_
  rintro e wz ⟨rfl, hw⟩
  subst hw
  go_wp2_with fail
  refine (is3_same _).mono ?_
  rintro e wz ⟨rfl, hw⟩
  subst hw
  go_wp2_with fail
  refine (is3_same _).mono ?_
  rintro e wz ⟨rfl, hw⟩
  subst hw
  go_wp2_with fail
  refine (CK.out _).mono ?_
  rintro e w9 ⟨rfl, hb9⟩
  have HB9 : Hid (Below wa.heap.size wa w9) := Lib.hid (HB8.out.trans (hb9.mono HB8.out.size))
  have hx := ((HB9.out).block _ HL.out).trans HX.out
  have c1 := (has_cell hx 1).trans (show _ = some (Value.int .u8 x1) from rfl)
  have c2 := (has_cell hx 2).trans (show _ = some (Value.int .i8 x2) from rfl)
  have c3 := (has_cell hx 3).trans (show _ = some (Value.int .i8 x3) from rfl)
  clear HB8 hb9 hx
  go_wp2_with fail
  refine (nil_waiters _ _).mono ?_
  rintro e wz ⟨rfl, hw⟩
  subst hw
  go_wp2_with fail
  refine (nil_keys _).mono ?_
  rintro e wz ⟨rfl, hw⟩
  subst hw
  go_wp2_with fail
  refine (CK.out _).mono ?_
  rintro e w10 ⟨rfl, hb10⟩
  have HB10 : Hid (Below wa.heap.size wa w10) := Lib.hid (HB9.out.trans (hb10.mono HB9.out.size))
  have hx := ((HB10.out).block _ HL.out).trans HX.out
  have c1 := (has_cell hx 1).trans (show _ = some (Value.int .u8 x1) from rfl)
  have c2 := (has_cell hx 2).trans (show _ = some (Value.int .i8 x2) from rfl)
  have c3 := (has_cell hx 3).trans (show _ = some (Value.int .i8 x3) from rfl)
  clear HB9 hb10 hx
  go_wp2_with fail
  refine (nil_marked _ _ _).mono ?_
  rintro e wz ⟨rfl, hw⟩
  subst hw
  go_wp2
  go_ret
  exact ⟨rfl, fin.out _ HB10.out⟩
end Go.Proofs.Ytfnohilhlofimaa

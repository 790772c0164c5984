/- network: a nil network; Delay. Conditions: each contract names its own. -/
import Derived.Test.YtkhiepjlfbjgdaaNwC
import Derived.Laws.ResultCell
namespace Go.Proofs.Ytkhiepjlfbjgdaa
open Go.RowKit

theorem results_row_tmp {P : Program} {fn : Func} {p u : Tmp} {ty : TypeId} (h : fn.results = #[.cell p ty, .tmp u]) {tmps : Array Value} {w : World} {g : Nat} {t : TypeId} {cs : Array Value} {fr : Nat × Nat} {d : TypeDesc}
    (hp : tmps.getD p undef = .pointer (some ⟨g, 0, none⟩)) (hg : w.heap[g]? = some (.cells cs t fr))
    (hu : P.underlying ty = some d) (hd : (match d with | .struct _ | .array _ _ => true | _ => false) = true) (hi : (P.info? ty).map (·.size) = some cs.size) :
    (results fn tmps).run P w = .ok (.tuple #[.agg cs, tmps.getD u undef]) w := by
  rw [results_cell_tmp h, hp]
  simp [asAddr, run_loadVar_row w g t ty cs fr d hg hu hd hi, Result.andThen]
theorem delay_nil (x y : ByteArray) (d : Int) (w : World) : Calls Try.prog 19 #[.pointer none, .string x, .string y, .int .i64 d] w fun e w' => e = .returned (.iface 48 (.int .i64 3)) ∧ w' = w := by
  go_enter Try.func19, Try.ntmps19
  go_wp2
  go_ret
  exact ⟨rfl, rfl⟩
theorem fate_nil (x y : ByteArray) (i : Int) (v : Value) (w : World) : Calls Try.prog 12 #[.pointer none, .string x, .string y, .int .i64 i, v] w fun e w' => e = .returned (.iface 48 (.int .i64 3)) ∧ w' = w := by
  go_enter Try.func12, Try.ntmps12
  go_wp2
  go_ret
  exact ⟨rfl, rfl⟩
theorem cut_nil (x y : ByteArray) (i j : Int) (w : World) : Calls Try.prog 21 #[.pointer none, .string x, .string y, .int .i64 i, .int .i64 j] w fun e w' => e = .returned (.iface 48 (.int .i64 3)) ∧ w' = w := by
  go_enter Try.func21, Try.ntmps21
  go_wp2
  go_ret
  exact ⟨rfl, rfl⟩
theorem send_nil (t : Int) (x y : ByteArray) (v : Value) (w : World) : Calls Try.prog 17 #[.pointer none, .int .i64 t, .string x, .string y, v] w fun e w' => e = .returned (.iface 48 (.int .i64 3)) ∧ Below w.heap.size w w' := by
  have hB : Below w.heap.size w (((w.alloc (.cells #[.int .i64 t] 3)).alloc (.cells #[.string x] 9)).alloc (.cells #[.string y] 9)) := by go_grown
  go_enter Try.func17, Try.ntmps17
  go_wp2
  go_ret
  exact ⟨rfl, hB⟩
theorem first_nil (w : World) : Calls Try.prog 31 #[.pointer none] w fun e w' => e = .returned (.tuple #[.int .i64 0, .bool false]) ∧ w' = w := by
  go_enter Try.func31, Try.ntmps31
  go_wp2
  go_ret2
  exact ⟨rfl, rfl⟩
theorem next_nil (w : World) : Calls Try.prog 15 #[.pointer none] w fun e w' => e = .returned (.tuple #[.int .i64 0, .iface 48 (.int .i64 3)]) ∧ w' = w := by
  go_enter Try.func15, Try.ntmps15
  go_wp2_with fail
  refine (first_nil w).mono ?_
  rintro e w1 ⟨rfl, rfl⟩
  go_wp2
  go_ret2
  exact ⟨rfl, rfl⟩
theorem recv_nil (w : World) : Calls Try.prog 16 #[.pointer none] w fun e w' => e = .returned (.tuple #[.agg #[.int .i64 0, .string ByteArray.empty, .string ByteArray.empty, .slice none 0 0], .iface 48 (.int .i64 3)]) ∧ Below w.heap.size w w' := by
  have hB : Below w.heap.size w (w.alloc (.cells #[.int .i64 0, .string ByteArray.empty, .string ByteArray.empty, .slice none 0 0] 43)) := by go_grown
  go_enter Try.func16, Try.ntmps16
  go_wp2_with fail
  refine (first_nil _).mono ?_
  rintro e w1 ⟨rfl, rfl⟩
  go_wp2
  (try simp only [Exit.inBlock, Exit.then])
  refine bodyPost_ret (results_row_tmp rfl rfl (heap_alloc_new w _) Try.underlying43 rfl (by kernel_rfl)) rfl ?_
  exact ⟨rfl, hB⟩
end Go.Proofs.Ytkhiepjlfbjgdaa

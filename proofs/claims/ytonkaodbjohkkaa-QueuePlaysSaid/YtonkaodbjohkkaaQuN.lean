/- queue: the law's helper key; keys that differ. -/
import Derived.Test.YtonkaodbjohkkaaQuM
import Derived.Laws.BytesArg
namespace Go.Proofs.Ytonkaodbjohkkaa
open Go.RowKit

def keyB (n : Int) : ByteArray := strOfNums [97 + n % 16, 48 + n / 16]
set_option maxHeartbeats 800000 in
theorem key_any (n : Int) (hn : 0 ≤ n ∧ n ≤ 255) (w : World) : Calls Try.prog 11 #[.int .u8 n] w fun e w' => e = .returned (.string (keyB n)) ∧ Below w.heap.size w w' := by
  have q1 : n.tmod 16 = n % 16 := Int.tmod_eq_emod_of_nonneg hn.1
  have q2 : n.tdiv 16 = n / 16 := Int.tdiv_eq_ediv_of_nonneg hn.1
  have q3 : IntKind.u8.wrap (n % 16) = n % 16 := IntWalk.u8_in _ (by omega)
  have q4 : IntKind.u8.wrap (n / 16) = n / 16 := IntWalk.u8_in _ (by omega)
  have q5 : IntKind.u8.wrap (97 + n % 16) = 97 + n % 16 := IntWalk.u8_in _ (by omega)
  have q6 : IntKind.u8.wrap (48 + n / 16) = 48 + n / 16 := IntWalk.u8_in _ (by omega)
  have hB : Below w.heap.size w (w.alloc (.cells #[.int .u8 (97 + n % 16), .int .u8 (48 + n / 16)] 5)) := by go_grown
  have hx := heap_alloc_new w (.cells #[.int .u8 (97 + n % 16), .int .u8 (48 + n / 16)] 5)
  have hc : (convert 22 9 (.slice (some ⟨w.heap.size, 0, none⟩) 2 2)).run Try.prog (w.alloc (.cells #[.int .u8 (97 + n % 16), .int .u8 (48 + n / 16)] 5)) = .ok (.string (keyB n)) (w.alloc (.cells #[.int .u8 (97 + n % 16), .int .u8 (48 + n / 16)] 5)) := by
    refine run_convert_bytes_arg (P := Try.prog) _ 22 5 Try.underlying22 Try.underlying5 w.heap.size 0 2 2 [97 + n % 16, 48 + n / 16] rfl (fun i hi => ?_) 9 Try.underlying9
    have : i = 0 ∨ i = 1 := by omega
    rcases this with rfl | rfl
    · exact has_cell hx 0
    · exact has_cell hx 1
  clear hx
  go_enter Try.func11, Try.ntmps11
  go_wp2
  go_ret
  exact ⟨rfl, hB⟩
theorem data_cat (a b : ByteArray) : (a ++ b).data.toList = a.data.toList ++ b.data.toList := by simp [ByteArray.data_append]
theorem cat_ne {x y : UInt8} (h : x ≠ y) (s t : ByteArray) : (⟨#[x]⟩ ++ s : ByteArray) ≠ ⟨#[y]⟩ ++ t := fun e => by
  have := congrArg (fun z => z.data.toList) e
  simp only [data_cat] at this
  exact h (List.cons.inj this).1
theorem one_ne {x y : UInt8} (h : x ≠ y) (s : ByteArray) (l : List UInt8) : (⟨(x :: l).toArray⟩ : ByteArray) ≠ ⟨#[y]⟩ ++ s := fun e => by
  have := congrArg (fun z => z.data.toList) e
  simp only [data_cat] at this
  exact h (List.cons.inj this).1
end Go.Proofs.Ytonkaodbjohkkaa

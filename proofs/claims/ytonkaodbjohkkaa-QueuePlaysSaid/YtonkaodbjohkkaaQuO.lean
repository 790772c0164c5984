/- queue: the law's helpers capacity and size. Conditions: the number is of its kind. -/
import Derived.Test.YtonkaodbjohkkaaQuBd
namespace Go.Proofs.Ytonkaodbjohkkaa
open Go.RowKit

def capQ (n : Int) : Int := 1 + n % 64
theorem capacity_any (n : Int) (hn : 0 ≤ n ∧ n ≤ 255) (w : World) : Calls Try.prog 18 #[.int .u8 n] w fun e w' => e = .returned (.int .i64 (capQ n)) ∧ w' = w := by
  have q1 : n.tmod 64 = n % 64 := Int.tmod_eq_emod_of_nonneg hn.1
  have q2 : IntKind.u8.wrap (n % 64) = n % 64 := IntWalk.u8_in _ (by omega)
  have q3 : IntKind.i64.wrap (n % 64) = n % 64 := IntWalk.i64_in _ (by omega)
  have q4 : IntKind.i64.wrap (1 + n % 64) = 1 + n % 64 := IntWalk.i64_in _ (by omega)
  go_enter Try.func18, Try.ntmps18
  go_wp2
  go_ret
  exact ⟨rfl, rfl⟩
def sizeI (n : Int) : Int := max (-1099511627776) (min n 1099511627776)
theorem sizeI_in (n : Int) : -1099511627776 ≤ sizeI n ∧ sizeI n ≤ 1099511627776 := by unfold sizeI; omega
theorem clip3 (n lo hi : Int) (w : World) : Calls Try.prog 37 #[.int .i64 n, .int .i64 lo, .int .i64 hi] w fun e w' => e = .returned (.int .i64 (max lo (min n hi))) ∧ w' = w := by
  go_enter Try.func37, Try.ntmps37
  go_wp2
  go_ret
  exact ⟨rfl, rfl⟩
theorem size_any (n : Int) (w : World) : Calls Try.prog 23 #[.int .i64 n] w fun e w' => e = .returned (.int .i64 (sizeI n)) ∧ w' = w := by
  have CC := Lib.hid (clip3 n (-1099511627776) 1099511627776 w)
  go_enter Try.func23, Try.ntmps23
  go_wp2_with fail
  refine CC.out.mono ?_
  rintro e w1 ⟨rfl, rfl⟩
  go_wp2
  go_ret
  exact ⟨rfl, rfl⟩
end Go.Proofs.Ytonkaodbjohkkaa

/- DeviceCopies, whole. Conditions: the arguments can be read. -/
import Derived.Test.YtbpjfhfibllhgaaDrCopies
namespace Go.Proofs.Ytbpjfhfibllhgaa
open Go.RowKit
open Go.Proofs.Ytbpjfhfibllhgaa.Dv

theorem copies_walk {ao0 ao1 ao2 : Option Addr} {n0 c0 b0 f0 n1 c1 b1 f1 n2 c2 b2 f2 : Nat} {A0 A1 A2 : Nat → ActV} (x y : Int) (w : World) (hx : 0 ≤ x ∧ x ≤ 255) (hy : 0 ≤ y ∧ y ≤ 255)
    (h0 : IsActs w ao0 n0 b0 f0 A0) (h1 : IsActs w ao1 n1 b1 f1 A1) (h2 : IsActs w ao2 n2 b2 f2 A2) (l0 : n0 ≤ 9223372036854775807) (l1 : n1 ≤ 9223372036854775807) (l2 : n2 ≤ 9223372036854775807) : Calls Try.prog 9 #[.agg #[.int .u8 x, .int .u8 y], .agg #[.slice ao0 n0 c0, .slice ao1 n1 c1, .slice ao2 n2 c2]] w (AwP w) := by
  cases t0 : fitsB n0 A0
  · exact copies_bad0 x y w hx hy h0 h1 h2 l0 l1 l2 t0
  cases t1 : fitsB n1 A1
  · exact copies_bad1 x y w hx hy h0 h1 h2 l0 l1 l2 t0 t1
  cases t2 : fitsB n2 A2
  · exact copies_bad2 x y w hx hy h0 h1 h2 l0 l1 l2 t0 t1 t2
  exact copies_good x y w hx hy h0 h1 h2 l0 l1 l2 t0 t1 t2
end Go.Proofs.Ytbpjfhfibllhgaa

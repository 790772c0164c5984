/- queue: the walk of the statement QueueReturns. Conditions: the number is of its kind. -/
import Derived.Test.YtonkaodbjohkkaaQuRetPlain
namespace Go.Proofs.Ytonkaodbjohkkaa
open Go.RowKit

def RtP (w : World) (e : Ending) (w' : World) : Prop := e = .returned (.bool true) ∧ Below w.heap.size w w'
/-- The state between the calls of a statement: the queue in new blocks; all else as it was. -/
structure St (w0 : World) (B b : Nat) (s : QS) (w : World) : Prop where
  q : QB B w b s
  be : Below w0.heap.size w0 w
  sz : B ≤ w.heap.size
  lo : w0.heap.size ≤ B
section
variable {w0 w w' : World} {B b c : Nat} {s s' : QS}
theorem St.below (h : St w0 B b s w) (hb : Below w.heap.size w w') : St w0 B b s w' := ⟨h.q.belowS hb, h.be.trans (hb.mono h.be.size), Nat.le_trans h.sz hb.size, h.lo⟩
theorem St.next (h : St w0 B b s w) (hq : QB B w' b s' ∧ Below B w w') : St w0 B b s' w' := ⟨hq.1, h.be.trans (hq.2.mono h.lo), Nat.le_trans h.sz hq.2.size, h.lo⟩
/-- A list of texts that is built and compared. -/
theorem St.cmp (h : St w0 B b s w) {v : Value} {a l : List ByteArray} (hT : IsT w v a) (n : Nat) (hn : n = l.length) (hl : n ≤ 100) {x : Bool} (hx : x = true ↔ a = l) :
    Hid (St w0 B b s (w.alloc (.cells (strs l).toArray 9)) ∧ Calls Try.prog 14 #[v, .slice (some ⟨w.heap.size, 0, none⟩) n n] (w.alloc (.cells (strs l).toArray 9)) fun e w' => e = .returned (.bool x) ∧ Below (w.alloc (.cells (strs l).toArray 9)).heap.size (w.alloc (.cells (strs l).toArray 9)) w') := by
  have hA : Below w.heap.size w (w.alloc (.cells (strs l).toArray 9)) := by go_grown
  exact Lib.hid ⟨h.below hA, b_texts (OL.below hT hA (fun g hg => OL.lt hT g hg)) (lit_texts w l n hn hl) hx⟩
end
set_option maxRecDepth 100000 in
set_option maxHeartbeats 3200000 in
theorem returns_walk (n : Int) (hn : 0 ≤ n ∧ n ≤ 255) (w : World) : Calls Try.prog 5 #[.int .u8 n] w (RtP w) := by
  have CA := Lib.hid (awake_any w)
  have KA := Lib.hid (key_any n hn)
  have HD := Lib.hid (Diff.of (A := ⟨#[97]⟩ ++ keyB n) (B := ⟨#[98]⟩ ++ keyB n) (C := ⟨#[99]⟩ ++ keyB n) (D := ⟨#[100]⟩) (cat_ne (by decide) _ _) (cat_ne (by decide) _ _) (one_ne (by decide) _ []).symm (cat_ne (by decide) _ _) (one_ne (by decide) _ []).symm (one_ne (by decide) _ []).symm)
  have HN := Lib.hid (And.intro (eqB_ne (one_ne (x := 110) (y := 97) (by decide) (keyB n) [111, 110, 101]).symm) (And.intro (eqB_ne (one_ne (x := 110) (y := 98) (by decide) (keyB n) [111, 110, 101]).symm) (eqB_ne (one_ne (x := 110) (y := 99) (by decide) (keyB n) [111, 110, 101]).symm)))
  go_enter Try.func5, Try.ntmps5
  go_wp2_with fail
  refine CA.out.mono ?_
  rintro e w1 ⟨rfl, hB1⟩
  have CN := Lib.hid (b_new 100 w1 (by omega) (by omega))
  clear CA
  go_wp2_with fail
  refine CN.out.mono ?_
  rintro e w2 ⟨b, rfl, hQ, hB2⟩
  have hS : St w w1.heap.size b _ w2 := ⟨hQ, hB1.trans (hB2.mono hB1.size), hB2.size, hB1.size⟩
  clear CN hQ hB1 hB2
  go_wp2_with fail
  refine (KA.out _).mono ?_
  rintro e w3 ⟨rfl, hb⟩
  have hS := hS.below hb
  clear hb
  go_wp2_with fail
  refine (KA.out _).mono ?_
  rintro e w4 ⟨rfl, hb⟩
  have hS := hS.below hb
  clear hb
  go_wp2_with fail
  refine (KA.out _).mono ?_
  rintro e w5 ⟨rfl, hb⟩
  have hS := hS.below hb
  clear hb
  go_upto_region 7 with fail
  generalize (⟨#[97]⟩ ++ keyB n : ByteArray) = A at *
  generalize (⟨#[98]⟩ ++ keyB n : ByteArray) = B at *
  generalize (⟨#[99]⟩ ++ keyB n : ByteArray) = C at *
  clear KA
  have CP := Lib.hid (b_put (c := 5) hS.q hS.sz (gd_of (by simp) (by simp) (by simp) (by simp) (by simp [sumI]) (by simp) (by simp)) (by simp) (by simp [sumI]) (by decide) A 40 (by decide) rt1)
  go_wp2_with fail
  refine CP.out.mono ?_
  rintro e w6 ⟨_, _, rfl, _, hq⟩
  have hS := hS.next hq
  clear CP hq
  have CP := Lib.hid (b_put (c := 5) hS.q hS.sz (gd_of (by simp) (by simp) (by simp) (by simp) (by simp [sumI]) (by simp) (by simp)) (by simp) (by simp [sumI]) (by decide) B 40 (by decide) (rt2 HD.out))
  go_wp2_with fail
  refine CP.out.mono ?_
  rintro e w7 ⟨_, _, rfl, _, hq⟩
  have hS := hS.next hq
  clear CP hq
  have CP := Lib.hid (b_put (c := 5) hS.q hS.sz (gd_of (by simp) (by simp) (by simp) (by simp) (by simp [sumI]) (by simp) (by simp)) (by simp) (by simp [sumI]) (by decide) C 40 (by decide) (rt3 HD.out))
  go_wp2_with fail
  refine CP.out.mono ?_
  rintro e w8 ⟨_, _, rfl, _, hq⟩
  have hS := hS.next hq
  clear CP hq
  have CP := Lib.hid (b_put (c := 5) hS.q hS.sz (gd_of (by simp) (by simp) (by simp) (by simp) (by simp [sumI]) (by simp) (by simp)) (by simp) (by simp [sumI]) (by decide) ⟨#[100]⟩ 40 (by decide) (rt4 HD.out))
  go_wp2_with fail
  refine CP.out.mono ?_
  rintro e w9 ⟨_, _, rfl, _, hq⟩
  have hS := hS.next hq
  clear CP hq
  have CG := Lib.hid (b_ghosts hS.q hS.sz (by simp) (l := [B, A]) rfl)
  go_wp2_with fail
  refine CG.out.mono ?_
  rintro e w10 ⟨_, _, rfl, hT, hq⟩
  have hS := hS.next hq
  have CT := hS.cmp hT (l := [B, A]) 2 rfl (by decide) (x := true) (by simp)
  clear CG hT hq hS
  go_wp2_with fail
  refine CT.out.2.mono ?_
  rintro e w11 ⟨rfl, hb⟩
  have hS := CT.out.1.below hb
  clear CT hb
  have CG := Lib.hid (b_keys hS.q hS.sz (by simp) (l := [⟨#[100]⟩, C]) rfl)
  go_wp2_with fail
  refine CG.out.mono ?_
  rintro e w12 ⟨_, _, rfl, hT, hq⟩
  have hS := hS.next hq
  have CT := hS.cmp hT (l := [⟨#[100]⟩, C]) 2 rfl (by decide) (x := true) (by simp)
  clear CG hT hq hS
  go_wp2_with fail
  refine CT.out.2.mono ?_
  rintro e w13 ⟨rfl, hb⟩
  have hS := CT.out.1.below hb
  clear CT hb
  have CP := Lib.hid (b_put (c := 5) hS.q hS.sz (gd_of (by simp) (by simp) (by simp) (by simp) (by simp [sumI]) (by simp) (by simp)) (by simp) (by simp [sumI]) (by decide) A 5 (by decide) (rt5 HD.out))
  go_wp2_with fail
  refine CP.out.mono ?_
  rintro e w14 ⟨_, _, rfl, _, hq⟩
  have hS := hS.next hq
  clear CP hq
  have CP := Lib.hid (b_put (c := 5) hS.q hS.sz (gd_of (by simp) (by simp) (by simp) (by simp) (by simp [sumI]) (by simp) (by simp)) (by simp) (by simp [sumI]) (by decide) B 5 (by decide) (rt6 HD.out))
  go_wp2_with fail
  refine CP.out.mono ?_
  rintro e w15 ⟨_, _, rfl, _, hq⟩
  have hS := hS.next hq
  clear CP hq
  have CG := Lib.hid (b_keys hS.q hS.sz (by simp) (l := [⟨#[100]⟩, C, B, A]) rfl)
  go_wp2_with fail
  refine CG.out.mono ?_
  rintro e w16 ⟨_, _, rfl, hT, hq⟩
  have hS := hS.next hq
  have CT := hS.cmp hT (l := [⟨#[100]⟩, C, B, A]) 4 rfl (by decide) (x := true) (by simp)
  clear CG hT hq hS
  go_wp2_with fail
  refine CT.out.2.mono ?_
  rintro e w17 ⟨rfl, hb⟩
  have hS := CT.out.1.below hb
  clear CT hb
  have CG := Lib.hid (b_ghosts hS.q hS.sz (by simp) (l := []) rfl)
  go_wp2_with fail
  refine CG.out.mono ?_
  rintro e w18 ⟨_, _, rfl, _, hq⟩
  have hS := hS.next hq
  clear CG hq
  have CV := Lib.hid (b_touch hS.q hS.sz (by simp) A (rt7 HD.out))
  rw [show (hasL (QS.mk _ _ _ _).f A || hasL (QS.mk _ _ _ _).r A) = true from by simp [hasL_cons, hasL_nil, eqB_self]] at CV
  go_wp2_with fail
  refine CV.out.mono ?_
  rintro e w19 ⟨rfl, hq⟩
  have hS := hS.next hq
  clear CV hq
  have CG := Lib.hid (b_keys hS.q hS.sz (by simp) (l := [⟨#[100]⟩, C, A, B]) rfl)
  go_wp2_with fail
  refine CG.out.mono ?_
  rintro e w20 ⟨_, _, rfl, hT, hq⟩
  have hS := hS.next hq
  have CT := hS.cmp hT (l := [⟨#[100]⟩, C, A, B]) 4 rfl (by decide) (x := true) (by simp)
  clear CG hT hq hS
  go_wp2_with fail
  refine CT.out.2.mono ?_
  rintro e w21 ⟨rfl, hb⟩
  have hS := CT.out.1.below hb
  clear CT hb
  have CV := Lib.hid (b_touch hS.q hS.sz (by simp) C (rt8 (by simp [hasL_cons, hasL_nil, HD.out.ac, HD.out.bc])))
  rw [show (hasL (QS.mk _ _ _ _).f C || hasL (QS.mk _ _ _ _).r C) = true from by simp [hasL_cons, hasL_nil, eqB_self]] at CV
  go_wp2_with fail
  refine CV.out.mono ?_
  rintro e w22 ⟨rfl, hq⟩
  have hS := hS.next hq
  clear CV hq
  have CG := Lib.hid (b_keys hS.q hS.sz (by simp) (l := [⟨#[100]⟩, C, A, B]) rfl)
  go_wp2_with fail
  refine CG.out.mono ?_
  rintro e w23 ⟨_, _, rfl, hT, hq⟩
  have hS := hS.next hq
  have CT := hS.cmp hT (l := [⟨#[100]⟩, C, A, B]) 4 rfl (by decide) (x := true) (by simp)
  clear CG hT hq hS
  go_wp2_with fail
  refine CT.out.2.mono ?_
  rintro e w24 ⟨rfl, hb⟩
  have hS := CT.out.1.below hb
  clear CT hb
  have CV := Lib.hid (b_touch hS.q hS.sz (by simp) ⟨#[110, 111, 110, 101]⟩ (rt8 (by simp [hasL_cons, hasL_nil, show eqB A ⟨#[110, 111, 110, 101]⟩ = false from HN.out.1, show eqB B ⟨#[110, 111, 110, 101]⟩ = false from HN.out.2.1])))
  rw [show (hasL (QS.mk _ _ _ _).f ⟨#[110, 111, 110, 101]⟩ || hasL (QS.mk _ _ _ _).r ⟨#[110, 111, 110, 101]⟩) = false from by simp [hasL_cons, hasL_nil, show eqB A ⟨#[110, 111, 110, 101]⟩ = false from HN.out.1, show eqB B ⟨#[110, 111, 110, 101]⟩ = false from HN.out.2.1, show eqB C ⟨#[110, 111, 110, 101]⟩ = false from HN.out.2.2, show eqB ⟨#[100]⟩ ⟨#[110, 111, 110, 101]⟩ = false from eqB_ne (by decide)]] at CV
  go_wp2_with fail
  refine CV.out.mono ?_
  rintro e w25 ⟨rfl, hq⟩
  have hS := hS.next hq
  clear CV hq
  go_wp2
  go_ret
  exact ⟨rfl, hS.be⟩
end Go.Proofs.Ytonkaodbjohkkaa

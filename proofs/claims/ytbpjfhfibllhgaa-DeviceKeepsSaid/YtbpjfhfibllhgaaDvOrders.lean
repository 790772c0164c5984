/- The statement DeviceOrders: the walk. Conditions: the list can be read, the two numbers are bytes. -/
import Derived.Test.YtbpjfhfibllhgaaDvSmall
namespace Go.Proofs.Ytbpjfhfibllhgaa
open Go.RowKit
open Go.Proofs.Ytbpjfhfibllhgaa.Dv

def DimP (x y : Int) (w : World) (e : Ending) (w' : World) : Prop := e = .returned (.tuple #[.int .i64 (1 + x % 5), .int .i64 (1 + y % 5)]) ∧ Below w.heap.size w w'
theorem dims_any (x y : Int) (w : World) (hx : 0 ≤ x ∧ x ≤ 255) (hy : 0 ≤ y ∧ y ≤ 255) : Calls Try.prog 17 #[.agg #[.int .u8 x, .int .u8 y]] w (DimP x y w) := by
  go_enter Try.func17, Try.ntmps17
  go_wp2_with fail
  try go_quiet (fail)
  go_wp2
  go_ret2
  refine ⟨rfl, ?_⟩
  exact ((Below.refl _ w).alloc (Nat.le_refl _) _).trans (below_draw _ _ _)
/-- The power is on, no failure is planned, and the first f pages of block 0 are programmed. -/
structure Ord (p c f : Nat) (x : Int) (s : Dev) : Prop where
  o : s.off = false
  pl : s.planned = false
  pr : ∀ i, i < p → (((s.blk 0).pages.getD i none).isNone = true ↔ f ≤ i)
  fp : f ≤ p
  wn : (s.blk 0).worn = x
  pc : s.pending.length ≤ c
section
variable {w : World} {B b p c f : Nat} {x : Int} {s : Dev}
theorem Ord.next (h : Ord p c f x s) (g : Gd 1 p s) : pgN (s.blk 0) = f := by
  have hl : (s.blk 0).pages.length = p := g.pn 0 (by omega)
  unfold pgN
  by_cases hf : f < p
  · refine findIdx_at (by omega) (fun j hj => ?_) ((h.pr f hf).2 (Nat.le_refl _))
    cases hn : ((s.blk 0).pages.getD j none).isNone
    · rfl
    · have := (h.pr j (by omega)).1 hn; omega
  · have : f = p := by have := h.fp; omega
    rw [findIdx_no (fun j hj => by
      cases hn : ((s.blk 0).pages.getD j none).isNone
      · rfl
      · have := (h.pr j (by omega)).1 hn; omega), hl, this]
theorem Ord.init (h : 1 ≤ p) : Ord p 0 0 0 (Dev.init 1 p) :=
  ⟨rfl, rfl, fun i hi => by
    have e : ((Dev.init 1 p).blk 0).pages = List.replicate p none := by unfold Dev.blk Dev.init; exact congrArg Blk.pages (blank_get (by omega))
    rw [e]; simp [List.getD, hi], by omega, rfl, by simp [Dev.init]⟩
theorem Ord.erase (h : Ord p c f x s) (g : Gd 1 p s) (h0 : 0 ≤ x) (h1 : x ≤ 1000000) : Ord p (c + 1) 0 (x + 1) (s.erase 0) := by
  have hb : (s.erase 0).blk 0 = wipe (s.blk 0) := by show (s.now.set 0 _).getD 0 nilB = _; exact getD_set_self (by rw [g.ln]; omega)
  refine ⟨h.o, h.pl, fun i hi => ?_, by omega, ?_, ?_⟩
  · rw [hb]
    show ((List.replicate (s.blk 0).pages.length (none : Page)).getD i none).isNone = true ↔ _
    have hl : (s.blk 0).pages.length = p := g.pn 0 (by omega)
    rw [hl]; simp [List.getD, hi]
  · rw [hb]
    show wrap64 ((s.blk 0).worn + 1) = x + 1
    rw [h.wn]
    unfold wrap64; omega
  · show (s.pending ++ _).length ≤ _; rw [List.length_append]; have := h.pc; simp; omega
theorem Ord.prog (h : Ord p c f x s) (g : Gd 1 p s) (hf : f < p) (l : List Int) : Ord p (c + 1) (f + 1) x (s.prog 0 f l) := by
  have hl : (s.blk 0).pages.length = p := g.pn 0 (by omega)
  have hb : (s.prog 0 f l).blk 0 = ⟨(s.blk 0).pages.set f (some (fill l)), (s.blk 0).worn⟩ := by show (s.now.set 0 _).getD 0 nilB = _; exact getD_set_self (by rw [g.ln]; omega)
  refine ⟨h.o, h.pl, fun i hi => ?_, by omega, by rw [hb]; exact h.wn, ?_⟩
  · rw [hb]
    show (((s.blk 0).pages.set f (some (fill l))).getD i none).isNone = true ↔ _
    rw [getD_set (by omega)]
    by_cases e : i = f
    · rw [if_pos e]; simp; omega
    · rw [if_neg e, h.pr i hi]; omega
  · show (s.pending ++ _).length ≤ _; rw [List.length_append]; have := h.pc; simp; omega
theorem Ord.mono {c' : Nat} (h : Ord p c f x s) (hc : c ≤ c') : Ord p c' f x s := ⟨h.o, h.pl, h.pr, h.fp, h.wn, Nat.le_trans h.pc hc⟩
def OrdP (B b p : Nat) (v : Value) (s' : Dev) (w : World) (e : Ending) (w' : World) : Prop := e = .returned v ∧ DS w' (B ≤ ·) b 1 p s' ∧ Below B w w'
theorem o_erase (h : DS w (B ≤ ·) b 1 p s) (hB : B ≤ w.heap.size) (ho : Ord p c f x s) (hc : c ≤ 1000000) :
    Calls Try.prog 18 #[.pointer (some ⟨b, 0, none⟩), .int .i64 0] w (OrdP B b p .nilIface (s.erase 0) w) := by
  have := d_erase 0 h (Nat.le_trans ho.pc hc)
  have hp := pow_free ho.o ho.pl
  rw [show eraseE 1 s 0 = 0 by unfold eraseE; rw [if_neg (by omega), if_neg (by rw [hp]; simp)], show eraseS 1 s 0 = s.erase 0 by unfold eraseS; rw [if_neg (by omega), if_neg (by rw [hp]; simp), hp]; rfl] at this
  exact this.mono fun e w' h => by obtain ⟨h1, h2, h3, _⟩ := h.own hB; exact ⟨h1, h2, h3⟩
theorem o_prog {g cap : Nat} {k y : Int} (h : DS w (B ≤ ·) b 1 p s) (hB : B ≤ w.heap.size) (ho : Ord p c f x s) (hc : c ≤ 1000000) (hk : 0 ≤ k) (hg : w.heap[g]? = some (.cells (bys [y]).toArray 5 (0, 0))) :
    Calls Try.prog 13 #[.pointer (some ⟨b, 0, none⟩), .int .i64 0, .int .i64 k, .slice (some ⟨g, 0, none⟩) 1 cap] w (OrdP B b p (errV (if (p : Int) ≤ k then 1 else if k = f then 0 else 6)) (if (p : Int) ≤ k then s else if k = f then s.prog 0 f [y] else s) w) := by
  have hh := own_prog (cap := cap) 0 k h hB (Nat.le_trans ho.pc hc) hg
  have hp := pow_free ho.o ho.pl
  have hn := ho.next h.gd
  rw [show ([y] : List Int).length = 1 from rfl] at hh
  by_cases h1 : (p : Int) ≤ k
  · have hE : progE 1 p s 0 k 1 = 1 := by unfold progE; rw [if_pos (show pageE 1 p 0 k = 1 from if_neg (by omega))]
    rw [if_pos h1, if_pos h1]
    rw [hE, progS_of s 0 k [y] hE (by decide) (by decide)] at hh
    exact hh.mono fun e w' h => ⟨h.1, h.2.1, h.2.2.1⟩
  · have hpg : pageE 1 p 0 k = 0 := if_pos (by omega)
    rw [if_neg h1, if_neg h1]
    by_cases h2 : k = f
    · subst h2
      have hE : progE 1 p s 0 f 1 = 0 := by unfold progE; rw [if_neg (by rw [hpg]; decide), if_neg (by omega), if_neg (by rw [show (0 : Int).toNat = 0 from rfl, hn]; simp), if_neg (by rw [hp]; simp)]
      rw [if_pos rfl, if_pos rfl]
      rw [hE, show progS 1 p s 0 f [y] = s.prog 0 f [y] by unfold progS; rw [show ([y] : List Int).length = 1 from rfl, hE, if_neg (by decide), if_pos rfl, hp]; simp] at hh
      exact hh.mono fun e w' h => ⟨h.1, h.2.1, h.2.2.1⟩
    · have hE : progE 1 p s 0 k 1 = 6 := by unfold progE; rw [if_neg (by rw [hpg]; decide), if_neg (by omega), if_pos (by rw [show (0 : Int).toNat = 0 from rfl, hn]; exact fun e => h2 e.symm)]
      rw [if_neg h2, if_neg h2]
      rw [hE, progS_of s 0 k [y] hE (by decide) (by decide)] at hh
      exact hh.mono fun e w' h => ⟨h.1, h.2.1, h.2.2.1⟩
theorem o_next (h : DS w (B ≤ ·) b 1 p s) (ho : Ord p c f x s) : Calls Try.prog 15 #[.pointer (some ⟨b, 0, none⟩), .int .i64 0] w fun e w' => e = .returned (.tuple #[.int .i64 f, .nilIface]) ∧ Below w.heap.size w w' := by
  have := d_next 0 h
  rw [show nextE 1 0 = 0 from rfl, show nextI 1 s 0 = f by unfold nextI; rw [if_pos (by omega), show (0 : Int).toNat = 0 from rfl, ho.next h.gd]] at this
  exact this
theorem o_worn (h : DS w (B ≤ ·) b 1 p s) (ho : Ord p c f x s) : Calls Try.prog 20 #[.pointer (some ⟨b, 0, none⟩), .int .i64 0] w fun e w' => e = .returned (.tuple #[.int .i64 x, .nilIface]) ∧ w' = w := by
  have := d_worn 0 h
  rw [show nextE 1 0 = 0 from rfl, show wornI 1 s 0 = x by unfold wornI; rw [if_pos (by omega), show (0 : Int).toNat = 0 from rfl, ho.wn]] at this
  exact this
end
set_option maxRecDepth 100000 in
set_option maxHeartbeats 1600000 in
theorem orders_walk {ao : Option Addr} {n c bk off : Nat} {K : Nat → Int} (x y : Int) (w : World) (hx : 0 ≤ x ∧ x ≤ 255) (hy : 0 ≤ y ∧ y ≤ 255) (hK : IsInts w ao n bk off K) (hn : n ≤ 9223372036854775807) :
    Calls Try.prog 4 #[.agg #[.int .u8 x, .int .u8 y], .slice ao n c] w (AwP w) := by
  have HK := Lib.hid hK
  clear hK
  have hB0 : Below w.heap.size w (w.alloc (.cells #[.int .u8 x, .int .u8 y] 38)) := by go_grown
  have hT := heap_alloc_new w (.cells #[.int .u8 x, .int .u8 y] 38)
  have hlt0 : w.heap.size < (w.alloc (.cells #[.int .u8 x, .int .u8 y] 38)).heap.size := by simp
  by_cases h40 : 40 < n
  · go_enter Try.func4, Try.ntmps4
    go_wp2_with fail
    generalize w.alloc (.cells #[.int .u8 x, .int .u8 y] 38) = w0 at hB0 ⊢
    refine (awake_any _).mono ?_
    rintro e w1 ⟨rfl, hb1⟩
    have hB1 := hB0.trans (hb1.mono hB0.size)
    clear hb1 hT hlt0
    go_wp2_with fail
    refine (awake_any _).mono ?_
    rintro e w2 ⟨rfl, hb2⟩
    have hB2 := hB1.trans (hb2.mono hB1.size)
    go_wp2
    go_ret
    exact ⟨rfl, hB2⟩
  · have hd : decide ((40 : Int) < (n : Int)) = false := by simp; omega
    obtain ⟨p, hp⟩ : ∃ p : Nat, 1 + y % 5 = (p : Int) := ⟨(1 + y % 5).toNat, by omega⟩
    have hp1 : 1 ≤ p := by omega
    have hp2 : p ≤ 5 := by omega
    have HP := Lib.hid hp
    clear hp
    go_enter Try.func4, Try.ntmps4
    go_wp2_with fail
    generalize w.alloc (.cells #[.int .u8 x, .int .u8 y] 38) = w0 at hB0 hT hlt0 ⊢
    refine (awake_any _).mono ?_
    rintro e w1 ⟨rfl, hb1⟩
    have hB1 := hB0.trans (hb1.mono hB0.size)
    have t0 := has_cell (below_ats hb1 hT) 0
    have t1 := has_cell (below_ats hb1 hT) 1
    clear hb1 hT hlt0 hB0
    go_wp2_with fail
    refine (dims_any x y _ hx hy).mono ?_
    rintro e w2 ⟨rfl, hb2⟩
    rw [HP.out]
    have hB2 := hB1.trans (hb2.mono hB1.size)
    clear hb2 hB1 t0 t1
    generalize 1 + x % 5 = xx
    go_wp2_with fail
    refine (d_new w2 (n := 1) (p := p) (by omega) (by omega) (by omega) (by omega)).mono ?_
    rintro e w3 ⟨b, rfl, hD, hb⟩
    rw [errV0]
    have hs2 := hB2.size
    have hB3 := hB2.trans (hb.mono hs2)
    have hs3 := hb.size
    have HD := Lib.hid hD
    clear hD hb hB2
    go_wp2_with fail
    go_loopw [9, 10, 38] (fun fv xv i wr => ∃ (j f : Nat) (wn : Int) (s : Dev), j ≤ n ∧ i = .int .i64 j ∧ fv = .int .i64 f ∧ xv = .int .i64 wn ∧ 0 ≤ wn ∧ wn ≤ j ∧ f ≤ p ∧ DS wr (w2.heap.size ≤ ·) b 1 p s ∧ Ord p j f wn s ∧ Below w.heap.size w wr ∧ w2.heap.size ≤ wr.heap.size) (fun _ _ i _ => n - (intOf i).toNat)
    case atStart => exact ⟨0, 0, 0, _, Nat.zero_le _, rfl, rfl, rfl, by omega, by omega, by omega, HD.out, Ord.init hp1, hB3, hs3⟩
    case round =>
      clear HD hB3 hs3
      obtain ⟨j, f, wn, s, hj, rfl, rfl, rfl, hw0, hw1, hfp, hD, hO, hB, hs⟩ := hrel
      by_cases hlt : j < n
      · obtain rfl := HK.out.ao (by omega)
        have ck := (HK.out.below hB (Nat.le_refl _)).c j hlt
        generalize K j = k at ck
        by_cases hk : k < 0
        · have C1 := Lib.hid (o_erase hD hs hO (by omega))
          have HO := Lib.hid (hO.erase hD.gd hw0 (by omega))
          clear hD hO
          go_wp2_with fail
          refine C1.out.mono ?_
          rintro e w4 ⟨rfl, hD4, hb4⟩
          have hs4 := Nat.le_trans hs hb4.size
          have hB4 := hB.trans (hb4.mono hs2)
          clear hb4 hB ck
          go_wp2
          go_roundw
          case rel => exact ⟨j + 1, 0, wn + 1, _, by omega, by go_num, rfl, rfl, by omega, by omega, by omega, hD4, HO.out, hB4, hs4⟩
          case measure => simp [intOf]; omega
        · have hk0 : 0 ≤ k := by omega
          obtain ⟨u, hu⟩ : ∃ u : Int, u = IntKind.u8.wrap k := ⟨_, rfl⟩
          have C1 := Lib.hid (fun (u : Int) => o_prog (cap := 1) (k := k) (y := u) (hD.belowS (w' := wr.alloc (.cells #[.int .u8 u] 5)) (by go_grown)) (by simp; omega) hO (by omega) hk0 (heap_alloc_new wr _))
          have HD := Lib.hid hD
          have HO := Lib.hid hO
          have hBa : ∀ u, Below w.heap.size w (wr.alloc (.cells #[.int .u8 u] 5)) := fun u => hB.alloc hB.size _
          have HBa := Lib.hid hBa
          clear hD hO hu hBa u
          by_cases hkp : (p : Int) ≤ k
          · have C2 : Hid (∀ u : Int, Calls Try.prog 13 #[.pointer (some ⟨b, 0, none⟩), .int .i64 0, .int .i64 k, .slice (some ⟨wr.heap.size, 0, none⟩) 1 1] (wr.alloc (.cells #[.int .u8 u] 5)) (OrdP w2.heap.size b p (.iface 43 (.int .i64 1)) s (wr.alloc (.cells #[.int .u8 u] 5)))) :=
              Lib.hid (fun u => by have := C1.out u; rw [if_pos hkp, if_pos hkp] at this; exact this)
            clear C1
            go_wp2_with fail
            refine (C2.out _).mono ?_
            rintro e w4 ⟨rfl, hD4, hb4⟩
            have hsz := hb4.size
            have hB4 := (HBa.out _).trans (hb4.mono hs2)
            have hs4 : w2.heap.size ≤ w4.heap.size := by simp at hsz; omega
            clear hb4 hB ck C2 hsz
            go_wp2_with fail
            refine (is_same 1 (by decide) _).mono ?_
            rintro e wz ⟨rfl, hw⟩
            subst hw
            have CN := Lib.hid (o_next hD4 HO.out)
            go_wp2_with fail
            refine CN.out.mono ?_
            rintro e w5 ⟨rfl, hb5⟩
            have hB5 := hB4.trans (hb5.mono hB4.size)
            have hs5 := Nat.le_trans hs4 hb5.size
            have HD5 := Lib.hid (hD4.belowS hb5)
            clear hD4 CN hb5 hB4
            go_wp2
            go_roundw
            case rel => exact ⟨j + 1, f, wn, _, by omega, by go_num, rfl, rfl, by omega, by omega, by omega, HD5.out, HO.out.mono (by omega), hB5, hs5⟩
            case measure => simp [intOf]; omega
          · by_cases hkf : k = f
            · have C2 : Hid (∀ u : Int, Calls Try.prog 13 #[.pointer (some ⟨b, 0, none⟩), .int .i64 0, .int .i64 k, .slice (some ⟨wr.heap.size, 0, none⟩) 1 1] (wr.alloc (.cells #[.int .u8 u] 5)) (OrdP w2.heap.size b p .nilIface (s.prog 0 f [u]) (wr.alloc (.cells #[.int .u8 u] 5)))) :=
                Lib.hid (fun u => by have := C1.out u; rw [if_neg hkp, if_neg hkp, if_pos hkf, if_pos hkf] at this; exact this)
              have hd2 : (k != (f : Int)) = false := by rw [bne_eq_false_iff_eq]; exact hkf
              have hf2 : f < p := by omega
              have HO2 := Lib.hid (fun u => HO.out.prog HD.out.gd hf2 [u])
              clear C1 hkf
              go_wp2_with fail
              refine (C2.out _).mono ?_
              rintro e w4 ⟨rfl, hD4, hb4⟩
              have hsz := hb4.size
              have hB4 := (HBa.out _).trans (hb4.mono hs2)
              have hs4 : w2.heap.size ≤ w4.heap.size := by simp at hsz; omega
              have CN := Lib.hid (o_next hD4 (HO2.out _))
              clear hb4 hB ck C2 hsz
              go_wp2_with fail
              refine CN.out.mono ?_
              rintro e w5 ⟨rfl, hb5⟩
              have hB5 := hB4.trans (hb5.mono hB4.size)
              have hs5 := Nat.le_trans hs4 hb5.size
              have HD5 := Lib.hid (hD4.belowS hb5)
              clear hD4 CN hb5 hB4
              go_wp2
              go_roundw
              case rel => exact ⟨j + 1, f + 1, wn, _, by omega, by go_num, by first | rfl | go_num, rfl, by omega, by omega, by omega, HD5.out, HO2.out _, hB5, hs5⟩
              case measure => simp [intOf]; omega
            · have C2 : Hid (∀ u : Int, Calls Try.prog 13 #[.pointer (some ⟨b, 0, none⟩), .int .i64 0, .int .i64 k, .slice (some ⟨wr.heap.size, 0, none⟩) 1 1] (wr.alloc (.cells #[.int .u8 u] 5)) (OrdP w2.heap.size b p (.iface 43 (.int .i64 6)) s (wr.alloc (.cells #[.int .u8 u] 5)))) :=
                Lib.hid (fun u => by have := C1.out u; rw [if_neg hkp, if_neg hkp, if_neg hkf, if_neg hkf] at this; exact this)
              have hd2 : (k != (f : Int)) = true := by rw [bne_iff_ne]; exact hkf
              clear C1 hkf
              go_wp2_with fail
              refine (C2.out _).mono ?_
              rintro e w4 ⟨rfl, hD4, hb4⟩
              have hsz := hb4.size
              have hB4 := (HBa.out _).trans (hb4.mono hs2)
              have hs4 : w2.heap.size ≤ w4.heap.size := by simp at hsz; omega
              clear hb4 hB ck C2 hsz
              go_wp2_with fail
              refine (is_same 6 (by decide) _).mono ?_
              rintro e wz ⟨rfl, hw⟩
              subst hw
              have CN := Lib.hid (o_next hD4 HO.out)
              go_wp2_with fail
              refine CN.out.mono ?_
              rintro e w5 ⟨rfl, hb5⟩
              have hB5 := hB4.trans (hb5.mono hB4.size)
              have hs5 := Nat.le_trans hs4 hb5.size
              have HD5 := Lib.hid (hD4.belowS hb5)
              clear hD4 CN hb5 hB4
              go_wp2
              go_roundw
              case rel => exact ⟨j + 1, f, wn, _, by omega, by go_num, rfl, rfl, by omega, by omega, by omega, HD5.out, HO.out.mono (by omega), hB5, hs5⟩
              case measure => simp [intOf]; omega
      · obtain rfl : j = n := by omega
        have CW := Lib.hid (o_worn hD hO)
        clear hD hO
        go_wp2_with fail
        refine CW.out.mono ?_
        rintro e w4 ⟨rfl, hw⟩
        subst hw
        go_wp2
        go_ret
        exact ⟨rfl, hB⟩
end Go.Proofs.Ytbpjfhfibllhgaa

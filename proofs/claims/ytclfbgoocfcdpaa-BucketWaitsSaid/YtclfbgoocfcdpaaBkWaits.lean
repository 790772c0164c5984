/- The statement BucketWaits: the walk. Conditions: what an argument that can be read is (IsTk). -/
import Derived.Test.YtclfbgoocfcdpaaBkLaw
import Derived.Test.YtclfbgoocfcdpaaBkWaitMath
namespace Go.Proofs.Ytclfbgoocfcdpaa
open Go.RowKit
open Go.Proofs.Ytclfbgoocfcdpaa.Bk

/-- The three buckets, as far as they are made. -/
def Three (j : Nat) (w : World) (X b0 b1 b2 : Nat) (B T K P L : Int) : Prop :=
  (1 ≤ j → X < b0 ∧ IsBk w b0 B T K P L) ∧ (2 ≤ j → b0 < b1 ∧ IsBk w b1 B T K P L) ∧ (3 ≤ j → b1 < b2 ∧ IsBk w b2 B T K P L)
theorem Three.below {j : Nat} {w w' : World} {X b0 b1 b2 : Nat} {B T K P L : Int} (h : Three j w X b0 b1 b2 B T K P L) (hb : Below w.heap.size w w') : Three j w' X b0 b1 b2 B T K P L :=
  ⟨fun hj => ⟨(h.1 hj).1, (h.1 hj).2.below hb (h.1 hj).2.lt⟩, fun hj => ⟨(h.2.1 hj).1, (h.2.1 hj).2.below hb (h.2.1 hj).2.lt⟩, fun hj => ⟨(h.2.2 hj).1, (h.2.2 hj).2.below hb (h.2.2 hj).2.lt⟩⟩
def ptrIf (c : Bool) (b : Nat) : Value := if c then .pointer (some ⟨b, 0, none⟩) else .pointer none

theorem is3' (w : World) : Calls Try.prog 16 #[.iface 45 (.int .i64 3), .int .i64 3] w fun e w' => e = .returned (.bool true) ∧ w' = w := is_any 3 3 w

set_option maxHeartbeats 1000000 in
set_option maxRecDepth 100000 in
theorem waits_walk (x0 x1 x2 : Int) (ao : Option Addr) (len cap b off : Nat) (Lt N : Nat → Int) (n : Int) (w : World) (hl : len ≤ 9223372036854775807) (ht : IsTk w ao len b off Lt N) :
    Calls Try.prog 7 #[.agg #[.int .i64 x0, .int .i64 x1, .int .i64 x2], .slice ao len cap, .int .i64 n] w fun e w' => e = .returned (.bool true) ∧ Below w.heap.size w w' := by
  by_cases hbig : 20 < len
  · go_enter Try.func7, Try.ntmps7
    go_wp2
    go_ret
    exact ⟨rfl, by go_grown⟩
  · go_enter Try.func7, Try.ntmps7
    have HT := Lib.hid ht
    clear ht
    go_wp2_with fail
    have hX : IsX (w.alloc (Obj.cells #[.int .i64 x0, .int .i64 x1, .int .i64 x2] 23)) w.heap.size x0 x1 x2 := heap_alloc_new w _
    have hB : Below w.heap.size w (w.alloc (Obj.cells #[.int .i64 x0, .int .i64 x1, .int .i64 x2] 23)) := by go_grown
    refine (awake_any _).mono ?_
    rintro e w1 ⟨rfl, hb1⟩
    replace hX := hX.below hb1 (by simp)
    replace hB := hB.trans (hb1.mono (by simp))
    clear hb1
    obtain ⟨c0, c1, c2⟩ := hX.cells
    go_wp2_with fail
    refine (small_some _ _ _ _).mono ?_
    rintro e w2 ⟨B, T, K, rfl, hs, hb2⟩
    replace hX := hX.below hb2 hX.lt
    replace hB := hB.trans (hb2.mono hB.size)
    clear c0 c1 c2 hb2
    have z := hX.free
    obtain ⟨c0, c1, c2⟩ := hX.cells
    go_wp2_with fail
    replace hX := hX.set B T K
    replace hB : Below w.heap.size w (((w2.setCell ⟨w.heap.size, 0, none⟩ (.int .i64 B)).setCell ⟨w.heap.size, 1, none⟩ (.int .i64 T)).setCell ⟨w.heap.size, 2, none⟩ (.int .i64 K)) := ((hB.setCell (by simp) _).setCell (by simp) _).setCell (by simp) _
    clear c0 c1 c2 z
    generalize ((w2.setCell ⟨w.heap.size, 0, none⟩ (.int .i64 B)).setCell ⟨w.heap.size, 1, none⟩ (.int .i64 T)).setCell ⟨w.heap.size, 2, none⟩ (.int .i64 K) = w3 at hX hB ⊢
    refine (Clip_any _ _ _ _).mono ?_
    rintro e w4 ⟨rfl, rfl⟩
    have hm1 : 1 ≤ max 1 (min n B) := by omega
    have hm2 : max 1 (min n B) ≤ B := by have := hs.b1; omega
    generalize max 1 (min n B) = m at hm1 hm2 ⊢
    have g0 := hs.ok
    have HN := Lib.hid (fun k hk => stt_now (B := B) (T := T) (K := K) (N := N) (HT.out.l0) k hk)
    have gf := stt_ok g0 Lt N len
    have hnf := HN.out len (Nat.le_refl _)
    go_wp2_with fail
    go_loopw [7, 8, 9, 10, 34] (fun now e0 e1 e2 i wr => ∃ (j b0 b1 b2 : Nat) (nv : Int), j ≤ 3 ∧ i = .int .i64 j ∧ now = .int .i64 nv ∧ (1 ≤ j → nv = (stt B T K Lt N len).1) ∧ e0 = ptrIf (decide (1 ≤ j)) b0 ∧ e1 = ptrIf (decide (2 ≤ j)) b1 ∧ e2 = ptrIf (decide (3 ≤ j)) b2 ∧
        Three j wr w.heap.size b0 b1 b2 B T K (stt B T K Lt N len).2.1 (stt B T K Lt N len).2.2 ∧ IsX wr w.heap.size B T K ∧ Below w.heap.size w wr) (fun _ _ _ _ i _ => 3 - (intOf i).toNat)
    case atStart => exact ⟨0, 0, 0, 0, 0, by omega, rfl, rfl, by omega, rfl, rfl, rfl, ⟨by omega, by omega, by omega⟩, hX, hB⟩
    case round =>
      obtain ⟨j, b0, b1, b2, nv, hj, rfl, rfl, hnv, rfl, rfl, rfl, h3, hX, hB⟩ := hrel
      by_cases hj3 : j < 3
      · obtain ⟨c0, c1, c2⟩ := hX.cells
        have HNV := Lib.hid hnv
        clear hnv
        go_wp2_with fail
        have hXlt := hX.lt
        refine (new_some B T K _ hs).mono ?_
        rintro e w4 ⟨rfl, hk, hsz, hb4⟩
        have h34 := h3.below hb4
        have hX4 := hX.below hb4 hX.lt
        have hB4 := hB.trans (hb4.mono hB.size)
        have hlt0 : 1 ≤ j → b0 < wr.heap.size := fun h => (h3.1 h).2.lt
        have hlt1 : 2 ≤ j → b1 < wr.heap.size := fun h => (h3.2.1 h).2.lt
        generalize wr.heap.size = bk at hk hsz hb4 hXlt hlt0 hlt1 ⊢
        have HL := Lib.hid (And.intro hlt0 hlt1)
        have H34 := Lib.hid h34
        clear c0 c1 c2 hlt0 hlt1 h34 h3
        obtain ⟨wo, hwo⟩ : ∃ wo, wo = w4 := ⟨_, rfl⟩
        rw [← hwo] at hk hsz hb4 hX4 hB4 H34 ⊢
        clear hwo hX hB
        go_wp2_with fail
        go_loopw [7, 51] (fun now i wr => ∃ (k : Nat), k ≤ len ∧ i = .int .i64 k ∧ now = .int .i64 (stt B T K Lt N k).1 ∧
            IsBk wr bk B T K (stt B T K Lt N k).2.1 (stt B T K Lt N k).2.2 ∧ Below bk wo wr ∧ wo.heap.size ≤ wr.heap.size) (fun _ i _ => len - (intOf i).toNat)
        case atStart => exact ⟨0, Nat.zero_le _, rfl, rfl, hk, Below.refl _ _, Nat.le_refl _⟩
        case round =>
          obtain ⟨k, hkl, rfl, rfl, hbk, hbo, hso⟩ := hrel
          by_cases hlt : k < len
          · have ht := HT.out
            obtain rfl := ht.ao (by omega)
            have hB5 := hB4.trans (hbo.mono (by omega : w.heap.size ≤ bk))
            replace ht := ht.below hB5 (Nat.le_refl _)
            have e0 := ht.c0 k hlt
            have e1 := ht.c1 k hlt
            have l0 := ht.l0 k hlt
            have nn := ht.n0 k hlt
            clear ht
            have hnk := HN.out k (by omega)
            have HS1 := Lib.hid (show (stt B T K Lt N (k + 1)).1 = (stt B T K Lt N k).1 + Lt k from rfl)
            have HS2 := Lib.hid (show (stt B T K Lt N (k + 1)).2.1 = takeP B T K (stt B T K Lt N k).2.1 (stt B T K Lt N k).2.2 ((stt B T K Lt N k).1 + Lt k) (N k) from rfl)
            have HS3 := Lib.hid (show (stt B T K Lt N (k + 1)).2.2 = takeL (stt B T K Lt N k).2.2 ((stt B T K Lt N k).1 + Lt k) (N k) from rfl)
            have g := stt_ok g0 Lt N k
            generalize (stt B T K Lt N k).1 = nw at hnk HS1 HS2 HS3 ⊢
            generalize (stt B T K Lt N k).2.1 = P at g hbk HS2 ⊢
            generalize (stt B T K Lt N k).2.2 = L at g hbk HS2 HS3 ⊢
            generalize Lt k = lt at e0 l0 HS1 HS2 HS3
            generalize N k = q at e1 nn HS2 HS3
            go_wp2_with fail
            refine (take_any bk B T K P L (nw + lt) q _ (hbk.alloc _) g).mono ?_
            rintro e w6 ⟨rfl, hb6, hg6⟩
            have hsz6 := hg6.size
            rw [World.size_alloc] at hsz6
            have hbo6 := (hbo.alloc (by omega : bk ≤ wr.heap.size) (Obj.cells #[Value.int IntKind.u16 lt, Value.int IntKind.i64 q] 35)).grown hg6 (by simp; omega) (by intro k hk; simp at hk; omega)
            go_wp2
            go_roundw
            case rel => exact ⟨k + 1, by omega, by go_num, by rw [HS1.out], by rw [HS2.out, HS3.out]; exact hb6, hbo6, by omega⟩
            case measure => simp [intOf]; omega
          · obtain rfl : k = len := by omega
            have hX5 := hX4.below hbo (by omega)
            have hB5 := hB4.trans (hbo.mono (by omega : w.heap.size ≤ bk))
            rcases (show j = 0 ∨ j = 1 ∨ j = 2 by omega) with rfl | rfl | rfl
            · go_wp2
              go_roundw
              case rel =>
                exact ⟨1, bk, b1, b2, _, by omega, rfl, rfl, fun _ => rfl, rfl, rfl, rfl, ⟨fun _ => ⟨hXlt, hbk⟩, by omega, by omega⟩, hX5, hB5⟩
              case measure => simp [intOf]
            · go_wp2
              go_roundw
              case rel =>
                have h0 := H34.out.1 (by omega)
                have hl0 := HL.out.1 (by omega)
                exact ⟨2, b0, bk, b2, _, by omega, rfl, rfl, fun _ => rfl, rfl, rfl, rfl, ⟨fun _ => ⟨h0.1, h0.2.below hbo hl0⟩, fun _ => ⟨hl0, hbk⟩, by omega⟩, hX5, hB5⟩
              case measure => simp [intOf]
            · go_wp2
              go_roundw
              case rel =>
                have h0 := H34.out.1 (by omega)
                have hl0 := HL.out.1 (by omega)
                have h1 := H34.out.2.1 (by omega)
                have hl1 := HL.out.2 (by omega)
                exact ⟨3, b0, b1, bk, _, by omega, rfl, rfl, fun _ => rfl, rfl, rfl, rfl, ⟨fun _ => ⟨h0.1, h0.2.below hbo hl0⟩, fun _ => ⟨h1.1, h1.2.below hbo hl1⟩, fun _ => ⟨hl1, hbk⟩⟩, hX5, hB5⟩
              case measure => simp [intOf]
      · obtain rfl : j = 3 := by omega
        obtain rfl := hnv (by omega)
        obtain ⟨hx0, k0⟩ := h3.1 (by omega)
        obtain ⟨h01, k1⟩ := h3.2.1 (by omega)
        obtain ⟨h12, k2⟩ := h3.2.2 (by omega)
        have hwn := wait_none (now := (stt B T K Lt N len).1) gf hm1 hm2
        have hws := wait_some gf hnf.1 (by omega) hm1 hm2
        clear h3 hnv g0 hX
        generalize (stt B T K Lt N len).1 = nw at hwn hws hnf ⊢
        generalize (stt B T K Lt N len).2.1 = P at gf k0 k1 k2 hwn hws
        generalize (stt B T K Lt N len).2.2 = L at gf k0 k1 k2 hwn hws
        simp only [ptrIf, decide_true, show (1 : Nat) ≤ 3 from by omega, show (2 : Nat) ≤ 3 from by omega, Nat.le_refl, if_true]
        have cw := when_any b0 B T K P L nw m wr k0 gf
        by_cases hE : whenE B T K P L nw m = 0
        · have hs1 := hws hE
          rw [hE, show errV 0 = Value.nilIface from rfl] at cw
          have cl := take_any b1 B T K P L (whenT B T K P L nw m) m
          have ce := take_any b0 B T K P L (whenT B T K P L nw m - 1) m
          rw [hs1.2.2.1] at cl
          have CW := Lib.hid cw
          have CL := Lib.hid cl
          have CE := Lib.hid ce
          have h4 := hs1.2.2.2
          have h5 := hs1.1
          have h6 := hs1.2.1
          clear hws hwn hs1 hE cw cl ce
          generalize whenT B T K P L nw m = t at CW CL CE h4 h5 h6
          go_wp2_with fail
          refine CW.out.mono ?_
          rintro e w6 ⟨rfl, q6, rfl⟩
          go_wp2_with fail
          refine (CL.out _ (k1.drewN _) gf).mono ?_
          rintro e w7 ⟨rfl, k7, hg7⟩
          have hB7 := (below_drewN hB q6).grown hg7 hB.size (by intro k hk; simp at hk; omega)
          have k07 : IsBk w7 b0 B T K P L := has_grown (k0.drewN q6) hg7 (by simp; omega)
          by_cases htn : t = nw
          · subst htn
            clear CW CL CE h4
            go_wp2
            go_ret
            exact ⟨rfl, hB7⟩
          · have htn' : (t == nw) = false := by simpa using htn
            have ce2 := CE.out w7 k07 gf
            rw [h4.resolve_left htn] at ce2
            have CE2 := Lib.hid ce2
            clear CW CL CE h4 ce2 htn
            go_wp2_with fail
            refine CE2.out.mono ?_
            rintro e w8 ⟨rfl, k8, hg8⟩
            have hB8 := hB7.grown hg8 hB7.size (by intro k hk; simp at hk; omega)
            go_wp2
            go_ret
            exact ⟨rfl, hB8⟩
        · obtain ⟨hE3, hT0, hok⟩ := hwn hE
          rw [hE3, hT0, show errV 3 = Value.iface 45 (.int .i64 3) from rfl] at cw
          have cl := take_any b2 B T K P L 1099511627776 m
          rw [hok] at cl
          have CW := Lib.hid cw
          have CL := Lib.hid cl
          clear hws hwn hE hE3 hT0 hok cw cl
          go_wp2_with fail
          refine CW.out.mono ?_
          rintro e w6 ⟨rfl, q6, rfl⟩
          go_wp2_with fail
          refine (is3' _).mono ?_
          rintro e w7 ⟨rfl, rfl⟩
          go_wp2_with fail
          refine (CL.out _ (k2.drewN _) gf).mono ?_
          rintro e w8 ⟨rfl, k8, hg8⟩
          have hB8 := (below_drewN hB q6).grown hg8 hB.size (by intro k hk; simp at hk; omega)
          go_wp2
          go_ret
          exact ⟨rfl, hB8⟩
end Go.Proofs.Ytclfbgoocfcdpaa

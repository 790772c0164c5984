/- The statement NetworkOrders: the walk. Conditions: the messages and the triples can be read. -/
import Derived.Test.YtkhiepjlfbjgdaaNwMsgs
import Derived.Test.YtkhiepjlfbjgdaaNwCuts
import Derived.Deep.CutBlock
namespace Go.Proofs.Ytkhiepjlfbjgdaa
open Go.RowKit

/-- What holds of the network ahead of message k: last ≤ what is pending; nothing is behind t. -/
structure OrdS (c : Nat) (t last : Int) (s : Net) : Prop where
  g : NGd c s
  p : s.present ≤ t
  l : last ≤ t
  a : ∀ z ∈ s.arr, last ≤ z.t ∧ z.t ≤ 1152921504606846976
theorem news_t {t : Int} {x y : ByteArray} {data : List Int} {m : Int} {l : List Int} {k : Nat} (hk : k ≤ l.length) (hl : ∀ d ∈ l, badD d = false) {z : Arr} (h : z ∈ news t x y data m l k) : t ≤ z.t ∧ z.t ≤ t + 17179869184 := by
  obtain ⟨i, hi, rfl⟩ := List.mem_map.1 h
  have hi' : i < l.length := by have := List.mem_range.1 hi; omega
  have := bad_bd (hl (l.getD i 0) (by simp [List.getD, hi']))
  show t ≤ t + _ ∧ t + _ ≤ _
  omega
theorem OrdS.sent {c : Nat} {t last : Int} {s : Net} (h : OrdS c t last s) (h0 : 0 ≤ t) (h1 : t ≤ 1099511627776) (x y : ByteArray) (data : List Int) : OrdS (c + 1) t last (s.sent t x y data) := by
  refine ⟨h.g.sent h0 h1 x y data, Int.le_refl _, h.l, fun z hz => ?_⟩
  rcases List.mem_append.1 (show z ∈ s.arr ++ news t x y data (s.msgs + 1) (s.list t x y) (s.list t x y).length from hz) with hz | hz
  · exact h.a z hz
  · have := news_t (Nat.le_refl _) (h.g.list t x y).2 hz
    have := h.l
    omega
theorem OrdS.recv {c : Nat} {t last : Int} {s : Net} (h : OrdS c t last s) (h0 : 0 ≤ last) (hn : 0 < s.arr.length) (hx : (s.at_ (bestN s s.arr.length)).t ≤ t) : OrdS c t (s.at_ (bestN s s.arr.length)).t s.recv := by
  have hm := h.a _ (best_mem hn)
  refine ⟨h.g.recv (by omega) hm.2, ?_, hx, fun z hz => ⟨best_le (recv_mem hz), (h.a z (recv_mem hz)).2⟩⟩
  show max s.present _ ≤ t
  have := h.p
  omega
theorem OrdS.later {c : Nat} {t t' last : Int} {s : Net} (h : OrdS c t last s) (ht : t ≤ t') : OrdS c t' last s := ⟨h.g, by have := h.p; omega, by have := h.l; omega, h.a⟩
theorem two_ints {w : World} {g : Nat} {x y : Int} {fr : Nat × Nat} {t : TypeId} (hx : 0 ≤ x ∧ x ≤ 65535) (hy : 0 ≤ y ∧ y ≤ 65535) (h : w.heap[g]? = some (.cells #[.int .i64 x, .int .i64 y] t fr)) : IsInts w (some ⟨g, 0, none⟩) 2 g 0 (fun i => if i = 0 then x else y) ∧ firstBad 2 (fun i => if i = 0 then x else y) = true ∧ (lst 2 (fun i => if i = 0 then x else y)).length ≤ 4 ∧ ∀ d ∈ lst 2 (fun i => if i = 0 then x else y), badD d = false := by
  have hb : ∀ z : Int, 0 ≤ z ∧ z ≤ 65535 → badD z = false := fun z hz => by unfold badD; simp; omega
  refine ⟨⟨fun _ => rfl, fun _ => lt_of_block h, fun i hi => ?_, fun i hi => ?_⟩, decide_eq_true (fun i hi => ?_), by simp [lst], fun d hd => ?_⟩
  · match i, hi with
    | 0, _ => exact has_cell h 0
    | 1, _ => exact has_cell h 1
  · match i, hi with
    | 0, _ => show _ ≤ x ∧ x ≤ _; omega
    | 1, _ => show _ ≤ y ∧ y ≤ _; omega
  · match i, hi with
    | 0, _ => exact hb x hx
    | 1, _ => exact hb y hy
  · obtain ⟨i, hi, rfl⟩ := List.mem_map.1 hd
    have hi' := List.mem_range.1 hi
    match i, hi' with
    | 0, _ => exact hb x hx
    | 1, _ => exact hb y hy
/-- The state of NetworkOrders between its calls. -/
def MidR (w : World) (b k : Nat) (t : Int) (lv : Value) (wx : World) : Prop := ∃ (last : Int) (s : Net), lv = .int .i64 last ∧ 0 ≤ last ∧ NS wx (w.heap.size ≤ ·) b s ∧ Below w.heap.size w wx ∧ OrdS k t last s
def lenAt (w : World) (b : Nat) : Nat := match w.cell? ⟨b, 4, none⟩ with
  | some (.slice _ n _) => n
  | _ => 0
theorem NS.len {w : World} {P : Nat → Prop} {b : Nat} {s : Net} (h : NS w P b s) : lenAt w b = s.arr.length := by
  obtain ⟨q, hN, _⟩ := h
  obtain ⟨ao, cap, hv⟩ := hN.vaform
  unfold lenAt
  rw [show w.cell? ⟨b, 4, none⟩ = some q.va from has_cell hN.c 4, hv]
  exact hN.alen
theorem below_via {w a a' w1 : World} (h : Below w.heap.size w a) (hb : Below a'.heap.size a' w1) (h1 : a'.os = a.os) (h2 : a'.tape = a.tape) (h3 : a'.output = a.output) (h4 : a'.heap = a.heap) : Below w.heap.size w w1 :=
  h.trans ⟨hb.os.trans h1, hb.tape.trans h2, hb.output.trans h3, by rw [← h4]; exact hb.size, fun k hk => (hb.block k (by rw [h4]; exact Nat.lt_of_lt_of_le hk h.size)).trans (by rw [h4])⟩
theorem n_fate2 {w : World} {P : Nat → Prop} {b g cp : Nat} {s : Net} {p r : Int} (h : NS w P b s) {x y : ByteArray} (hx : x.size ≤ maxLen) (hy : y.size ≤ maxLen) {i : Int} (hi : 0 ≤ i) (hi2 : i ≤ 65535) (hp : 0 ≤ p ∧ p ≤ 65535) (hr : 0 ≤ r ∧ r ≤ 65535) (hg : w.heap[g]? = some (.cells #[.int .i64 p, .int .i64 r] 3 (0, 0))) (hP : ¬ P g) :
    Calls Try.prog 12 #[.pointer (some ⟨b, 0, none⟩), .string x, .string y, .int .i64 i, .slice (some ⟨g, 0, none⟩) 2 cp] w fun e w' => ∃ k : Int, ∃ l : List Int, l.length ≤ 4 ∧ (∀ d ∈ l, badD d = false) ∧ e = .returned (errV k) ∧ NS w' (grow P w) b (fateS s x y i l) ∧ Only P w w' := by
  obtain ⟨h1, h2, h3, h4⟩ := two_ints hp hr hg
  exact (n_fate (c := cp) h hx hy h1 (fun _ => hP) hi (by omega) (by omega) h2).mono fun e w' he => ⟨_, _, h3, h4, he.1, he.2.1, he.2.2⟩
theorem u16_in {x : Int} (h0 : 0 ≤ x) (h1 : x ≤ 65535) : IntKind.u16.wrap x = x := by
  simp [IntKind.wrap, IntKind.bits, IntKind.signed]; omega
theorem u8_bd (x : Int) : 0 ≤ IntKind.u8.wrap x ∧ IntKind.u8.wrap x ≤ 255 := by
  simp [IntKind.wrap, IntKind.bits, IntKind.signed]; omega
set_option maxRecDepth 100000 in
set_option maxHeartbeats 1600000 in
theorem orders_walk {ao ao2 : Option Addr} {n c b1 off n2 c2 b2 off2 : Nat} {A : Nat → MsgV} {X : Nat → Nat → Int} (w : World) (hA : IsMsgs w ao n b1 off A) (hX : IsTrip w ao2 n2 b2 off2 X) (hn : n ≤ 9223372036854775807) (hn2 : n2 ≤ 9223372036854775807) :
    Calls Try.prog 3 #[.slice ao n c, .slice ao2 n2 c2] w (AwP w) := by
  have HA := Lib.hid hA
  have HX := Lib.hid hX
  clear hA hX
  by_cases hbig : fewB n A = true ∧ n2 ≤ 60
  · have hfw := hbig.1
    have hn60 : n ≤ 60 := (of_decide_eq_true hfw).2
    have hn260 := hbig.2
    have d : decide ((60 : Int) < (n2 : Int)) = false := by simp; omega
    have CF := Lib.hid (fun (w1 : World) (hb : Below w.heap.size w w1) => few_any (c := c) w1 (HA.out.belowS hb (Nat.le_refl _)) hn)
    rw [hfw] at CF
    clear hbig hfw
    go_enter Try.func3, Try.ntmps3
    go_wp2_with fail
    refine (awake_any _).mono ?_
    rintro e w1 ⟨rfl, hb1⟩
    go_wp2_with fail
    refine (CF.out w1 hb1).mono ?_
    rintro e w1' ⟨rfl, hw⟩
    subst hw
    have C1 := Lib.hid (n_new 20 w1' (by omega) (by decide))
    have HB1 := Lib.hid hb1
    clear CF hb1
    go_wp2_with fail
    refine C1.out.mono ?_
    rintro e w2 ⟨b, rfl, hN, hb2⟩
    have HN := Lib.hid (hN.mono (Q := (w.heap.size ≤ ·)) fun k hk => Nat.le_trans HB1.out.size hk)
    have HB := Lib.hid (HB1.out.trans (hb2.mono HB1.out.size))
    clear C1 hN hb2
    go_wp2_with fail
    go_loopw [7] (fun i wr => ∃ k : Nat, ∃ s : Net, k ≤ n2 ∧ i = .int .i64 k ∧ NS wr (w.heap.size ≤ ·) b s ∧ Below w.heap.size w wr ∧ NGd 0 s ∧ s.present = 0 ∧ s.arr = []) (fun i _ => n2 - (intOf i).toNat)
    case atStart => exact ⟨0, _, by omega, rfl, HN.out, HB.out, NGd.init (by decide), rfl, rfl⟩
    case round =>
      clear HN HB
      obtain ⟨k, s, hk, rfl, hNr, hBr, hg, hp, ha⟩ := hrel
      by_cases hlt : k < n2
      · have HS := Lib.hid (And.intro hg (And.intro hp ha))
        have HN := Lib.hid hNr.bound
        have HB := Lib.hid hBr
        have hXr := HX.out.belowS hBr (Nat.le_refl _)
        obtain rfl := hXr.ao (by omega)
        obtain ⟨s0, q00, q01⟩ := hXr.c k hlt 0 (by omega)
        obtain ⟨s1, q10, q11⟩ := hXr.c k hlt 1 (by omega)
        obtain ⟨s2, q20, q21⟩ := hXr.c k hlt 2 (by omega)
        have z0 := hXr.lt (by omega)
        rw [Nat.add_zero] at s0
        have zw := HX.out.lt (by omega)
        have g0 := (HX.out.c k hlt 0 (by omega)).1
        have g1 := (HX.out.c k hlt 1 (by omega)).1
        have g2 := (HX.out.c k hlt 2 (by omega)).1
        rw [Nat.add_zero] at g0
        clear hg hp ha hNr hBr hXr
        generalize X k 0 = p0 at *
        generalize X k 1 = p1 at *
        generalize X k 2 = p2 at *
        have t0 : 0 ≤ p1.tmod 8 ∧ p1.tmod 8 ≤ 7 := by rw [Int.tmod_eq_emod_of_nonneg q10]; omega
        have t1 : 0 ≤ p2.tmod 50 ∧ p2.tmod 50 ≤ 49 := by rw [Int.tmod_eq_emod_of_nonneg q20]; omega
        obtain ⟨t00, t01⟩ := t0
        obtain ⟨t10, t11⟩ := t1
        have w1' : IntKind.i64.wrap (p1.tmod 8) = p1.tmod 8 := IntWalk.i64_in _ (by omega)
        have w2' : IntKind.i64.wrap (p2.tmod 50) = p2.tmod 50 := IntWalk.i64_in _ (by omega)
        have w3' : IntKind.i64.wrap p1 = p1 := IntWalk.i64_in _ (by omega)
        have w4' : IntKind.u16.wrap (p0.tdiv 6) = p0.tdiv 6 := by rw [Int.tdiv_eq_ediv_of_nonneg q00]; exact u16_in (by omega) (by omega)
        have hk0 : (0 : Int) ≤ (k : Int) := by omega
        have hkn : (k : Int) < (n2 : Int) := by omega
        have r0 := s0
        have r1 := s1
        have r2 := s2
        have u0 := u8_bd p0
        have u1 := u8_bd (p0.tdiv 6)
        obtain ⟨u00, u01⟩ := u0
        obtain ⟨u10, u11⟩ := u1
        go_wp2_with fail
        go_region_held3 (fun w' => w'.cell? ⟨b2, off2 + k * 3, none⟩ = some (.int .u16 p0) ∧ w'.cell? ⟨b2, off2 + k * 3 + 1, none⟩ = some (.int .u16 p1) ∧ w'.cell? ⟨b2, off2 + k * 3 + 2, none⟩ = some (.int .u16 p2)) (go_keep)
          (first
            | (go_at_call_of 13 (Value.int IntKind.u8 (IntKind.u8.wrap p0)); refine (node_i _ (by omega) (by omega) _).mono ?_; rintro e wn1 ⟨rfl, hbn1⟩; have HW1 : Hid (Below wr.heap.size wr wn1) := Lib.hid (by first | exact below_via (a := wr) (Below.refl _ _) hbn1 rfl rfl rfl rfl | exact below_via ((Below.refl wr.heap.size wr).alloc (Nat.le_refl _) _) hbn1 rfl rfl rfl rfl); have s0 := (HW1.out.cell (p := ⟨b2, off2 + k * 3, none⟩) z0).trans s0; have s1 := (HW1.out.cell (p := ⟨b2, off2 + k * 3 + 1, none⟩) z0).trans s1; have s2 := (HW1.out.cell (p := ⟨b2, off2 + k * 3 + 2, none⟩) z0).trans s2)
            | (go_at_call_of 13 (Value.int IntKind.u8 (IntKind.u8.wrap (p0.tdiv 6))); refine (node_i _ (by omega) (by omega) _).mono ?_; rintro e wn2 ⟨rfl, hbn2⟩; have HW2 : Hid (Below wr.heap.size wr wn2) := Lib.hid (by first | exact HW1.out.trans (hbn2.mono HW1.out.size) | exact below_via (HW1.out.alloc HW1.out.size _) hbn2 rfl rfl rfl rfl); have s0 := (HW2.out.cell (p := ⟨b2, off2 + k * 3, none⟩) z0).trans r0; have s1 := (HW2.out.cell (p := ⟨b2, off2 + k * 3 + 1, none⟩) z0).trans r1; have s2 := (HW2.out.cell (p := ⟨b2, off2 + k * 3 + 2, none⟩) z0).trans r2)
            | (go_at_call 12; refine (n_fate2 (p := p2.tmod 50) (r := p1) (P := fun k => w.heap.size ≤ k ∧ k < wr.heap.size) (s := s) (by first | exact HN.out.belowS HW2.out | exact HN.out.belowS (HW2.out.alloc HW2.out.size _)) (nodeS_len _) (nodeS_len _) (by omega) (by omega) (by omega) (by omega) (by first | exact heap_alloc_new _ _ | exact below_ats hbn2 (heap_alloc_new _ _) | exact below_ats hbn2 (below_ats hbn1 (heap_alloc_new _ _))) (fun h => by have h2 := h.2; have := HW1.out.size; have := HW2.out.size; (first | omega | (simp at h2; done) | (simp at h2; omega)))).mono ?_; rintro e w4 ⟨ke, le, hl1, hl2, rfl, hN4, hO4⟩; have hB4 : Hid (Below w.heap.size w w4) := Lib.hid (by first | exact (HB.out.trans (HW2.out.mono HB.out.size)).trans (hO4.below (by have := HB.out.size; have := HW2.out.size; omega) (fun k hk => hk.1)) | exact (HB.out.trans ((HW2.out.alloc HW2.out.size _).mono HB.out.size)).trans (hO4.below (by have := HB.out.size; have := HW2.out.size; simp; omega) (fun k hk => hk.1))); have hN5 := Lib.hid (hN4.mono (Q := (w.heap.size ≤ ·)) (fun k hk => hk.elim (fun h => h.1) (fun h => by have := HB.out.size; have := HW2.out.size; first | omega | (simp at h; done) | (simp at h; omega)))); have s0 := (hB4.out.cell (p := ⟨b2, off2 + k * 3, none⟩) zw).trans g0; have s1 := (hB4.out.cell (p := ⟨b2, off2 + k * 3 + 1, none⟩) zw).trans g1; have s2 := (hB4.out.cell (p := ⟨b2, off2 + k * 3 + 2, none⟩) zw).trans g2; generalize hxx : nodeS (IntKind.u8.wrap p0).toNat = xx at hN5; generalize hyy : nodeS (IntKind.u8.wrap (p0.tdiv 6)).toNat = yy at hN5; generalize hii : p1.tmod 8 = ii at hN5; have HY := Lib.hid (And.intro hxx (And.intro hyy hii)); clear hxx hyy hii hN4 hO4))
        all_goals
          clear s0 s1 s2 r0 r1 r2 g0 g1 g2 w1' w2' w3' w4' hbn1 hbn2
          have hE := fateS_same s xx yy ii le
          have HE : Hid (NGd 0 (fateS s xx yy ii le) ∧ (fateS s xx yy ii le).present = 0 ∧ (fateS s xx yy ii le).arr = []) := Lib.hid ⟨HS.out.1.fateS xx yy ii hl1 hl2, hE.2.1.trans HS.out.2.1, hE.1.trans HS.out.2.2⟩
          clear hE hl1 hl2
          go_wp2_with fail
          go_roundw
          case rel => exact ⟨k + 1, _, by omega, by go_num, hN5.out, hB4.out, HE.out⟩
          case measure => simp [intOf]; omega
      · obtain rfl : k = n2 := by omega
        have HS : Hid (OrdS 0 0 0 s) := Lib.hid ⟨hg, by omega, Int.le_refl _, fun z hz => by rw [ha] at hz; cases hz⟩
        clear hg hp ha
        go_wp2_with fail
        go_loopw [8, 9, 10] (fun tv lv i wr => ∃ (k : Nat) (t : Int), k ≤ n ∧ i = .int .i64 k ∧ tv = .int .i64 t ∧ 0 ≤ t ∧ t ≤ 255 * k ∧ MidR w b k t lv wr) (fun _ _ i _ => n - (intOf i).toNat)
        case atStart => exact ⟨0, 0, by omega, rfl, rfl, by omega, by omega, 0, s, rfl, by omega, hNr, hBr, HS.out⟩
        case round =>
          clear HS hNr hBr
          obtain ⟨k, t, hk, rfl, rfl, ht0, ht1, last, s, rfl, hl0, hNr, hBr, hO⟩ := hrel
          by_cases hlt : k < n
          · have HN := Lib.hid hNr
            have HB := Lib.hid hBr
            have HO := Lib.hid hO
            have hAr := HA.out.belowS hBr (Nat.le_refl _)
            obtain rfl := hAr.ao (by omega)
            obtain ⟨a0, a1, a2, _⟩ := hAr.c k hlt
            obtain ⟨⟨q00, q01⟩, ⟨q10, q11⟩, ⟨q20, q21⟩, _⟩ := hAr.bd k hlt
            have HC := Lib.hid (And.intro (HA.out.c k hlt) (HA.out.lt (by omega)))
            clear hO hNr hBr hAr
            generalize (A k).gap = p0 at *
            generalize (A k).from_ = p1 at *
            generalize (A k).to_ = p2 at *
            go_upto_block 4 with fail
            generalize ht' : t + p0 = t' at *
            have HM : Hid (MidR w b k t' (.int .i64 last) wr) := Lib.hid ⟨last, s, rfl, hl0, HN.out, HB.out, HO.out.later (by omega)⟩
            have ht1' : t' ≤ 15300 := by omega
            have ht0' : 0 ≤ t' := by omega
            have HT := Lib.hid (show t' ≤ 255 * ((k + 1 : Nat) : Int) by omega)
            clear ht' HN HB HO hl0 a0 a1 a2
            go_cut [9] (fun lv wx => MidR w b k t' lv wx)
            case first =>
              go_wp2_with fail
              go_loopw [9] (fun lv wr => MidR w b k t' lv wr) (fun _ wr => lenAt wr b)
              case atStart => exact HM.out
              case round =>
                clear HM
                obtain ⟨last, s, rfl, hl0, hNr, hBr, hO⟩ := hrel
                have HN := Lib.hid hNr
                have HB := Lib.hid hBr
                have HO := Lib.hid hO
                have CP := Lib.hid (n_pend hNr)
                by_cases h0 : s.arr.length = 0
                · rw [h0] at CP
                  clear hNr hBr hO h0
                  go_wp2_with fail
                  refine CP.out.mono ?_
                  rintro e w4 ⟨rfl, hw⟩
                  subst hw
                  go_wp2_with fail
                  go_meet
                  case rel => exact ⟨last, s, rfl, hl0, HN.out, HB.out, HO.out⟩
                · have CN := Lib.hid (next_some hNr (by omega))
                  have hd : decide ((0 : Int) < (s.arr.length : Int)) = true := by simp; omega
                  have hlen : s.arr.length ≤ 100000 := by have := hO.g.a; omega
                  have HL := Lib.hid hNr.len
                  clear hNr hBr hO
                  go_wp2_with fail
                  refine CP.out.mono ?_
                  rintro e w4 ⟨rfl, hw⟩
                  subst hw
                  go_wp2_with fail
                  refine CN.out.mono ?_
                  rintro e w5 ⟨rfl, hb5⟩
                  have HN5 := Lib.hid (HN.out.belowS hb5)
                  have HB5 := Lib.hid (HB.out.trans (hb5.mono HB.out.size))
                  have CR := Lib.hid (recv_some HN5.out (by omega) hlen)
                  have HX5 := Lib.hid (show ∃ x, x = s.at_ (bestN s s.arr.length) from ⟨_, rfl⟩)
                  have hx := HO.out.a _ (best_mem (s := s) (by omega))
                  have HRV := Lib.hid (fun hx => HO.out.recv hl0 (by omega) hx)
                  clear hb5 CN CP
                  generalize s.at_ (bestN s s.arr.length) = x at *
                  obtain ⟨hx0, hx1⟩ := hx
                  by_cases hgt : t' < x.t
                  · have d1 : decide (t' < x.t) = true := by simp; omega
                    clear hgt
                    go_wp2_with fail
                    go_meet
                    case rel => exact ⟨last, s, rfl, hl0, HN5.out, HB5.out, HO.out⟩
                  · have d1 : decide (t' < x.t) = false := by simp; omega
                    have HRV2 := Lib.hid (HRV.out (by omega))
                    have hlr : s.recv.arr.length < s.arr.length := by
                      show (s.arr.eraseIdx _).length < _
                      rw [List.length_eraseIdx_of_lt (bestN_lt s _ (by omega))]
                      omega
                    have HLR := Lib.hid hlr
                    clear hgt HRV hlr
                    go_wp2_with fail
                    refine CR.out.mono ?_
                    rintro e w6 ⟨vo, vc, rfl, _, _, hN6, hO6⟩
                    have hB6 := HB5.out.trans (hO6.below HB5.out.size (fun k hk => hk))
                    have hN6' := hN6.mono (Q := (w.heap.size ≤ ·)) (fun k hk => hk.1.elim id (fun h => by have := HB5.out.size; omega))
                    have hdn := heap_alloc_new w6 (.cells #[.int .i64 x.t, .string x.a, .string x.b, .slice vo x.data.length vc] 43)
                    have hb7 : Below w6.heap.size w6 (w6.alloc (.cells #[.int .i64 x.t, .string x.a, .string x.b, .slice vo x.data.length vc] 43)) := by go_grown
                    have HN7 := Lib.hid (hN6'.belowS hb7)
                    have HB7 := Lib.hid (hB6.trans (hb7.mono hB6.size))
                    have y0 := has_cell hdn 0
                    have HL7 := Lib.hid HN7.out.len
                    have d2 : decide (x.t < last) = false := by simp; omega
                    clear hN6 hN6' hO6 hB6 hb7 CR hdn
                    go_wp2_with fail
                    go_roundw
                    case rel => exact ⟨x.t, s.recv, rfl, by omega, HN7.out, HB7.out, HRV2.out⟩
                    case measure => rw [HL7.out, HL.out]; exact HLR.out
            case rest =>
              obtain ⟨last, s, rfl, hl0, hNr, hBr, hO⟩ := hcut
              have HN0 := Lib.hid hNr.bound
              have HB0 := Lib.hid hBr
              have HO := Lib.hid hO
              have a1 := (hBr.cell (p := ⟨b1, off + k * 4 + 1, none⟩) HC.out.2).trans HC.out.1.2.1
              have a2 := (hBr.cell (p := ⟨b1, off + k * 4 + 2, none⟩) HC.out.2).trans HC.out.1.2.2.1
              have hk0 : (0 : Int) ≤ (k : Int) := by omega
              have hkn : (k : Int) < (n : Int) := by omega
              clear hNr hBr hO
              go_upto_region 24 with fail
              go_region_held3 (fun w' => w'.cell? ⟨b1, off + k * 4 + 1, none⟩ = some (.int .u8 p1) ∧ w'.cell? ⟨b1, off + k * 4 + 2, none⟩ = some (.int .u8 p2)) (go_keep)
                (first
                  | (go_at_call_of 13 (Value.int IntKind.u8 p1); refine (node_i _ (by omega) (by omega) _).mono ?_; rintro e wn1 ⟨rfl, hbn1⟩; have HN1 := Lib.hid (HN0.out.belowS ⟨hbn1.os, hbn1.tape, hbn1.output, hbn1.size, hbn1.block⟩); have HB1 : Hid (Below w.heap.size w wn1) := Lib.hid (HB0.out.trans ⟨hbn1.os, hbn1.tape, hbn1.output, hbn1.size, fun k hk => hbn1.block k (Nat.lt_of_lt_of_le hk HB0.out.size)⟩); have a1 := (HB1.out.cell (p := ⟨b1, off + k * 4 + 1, none⟩) HC.out.2).trans HC.out.1.2.1; have a2 := (HB1.out.cell (p := ⟨b1, off + k * 4 + 2, none⟩) HC.out.2).trans HC.out.1.2.2.1)
                  | (go_at_call_of 13 (Value.int IntKind.u8 p2); refine (node_i _ (by omega) (by omega) _).mono ?_; rintro e wn2 ⟨rfl, hbn2⟩; have HN2 := Lib.hid (HN1.out.belowS ⟨hbn2.os, hbn2.tape, hbn2.output, hbn2.size, hbn2.block⟩); have HB2 : Hid (Below w.heap.size w wn2) := Lib.hid (HB1.out.trans ⟨hbn2.os, hbn2.tape, hbn2.output, hbn2.size, fun k hk => hbn2.block k (Nat.lt_of_lt_of_le hk HB1.out.size)⟩); have a1 := (HB2.out.cell (p := ⟨b1, off + k * 4 + 1, none⟩) HC.out.2).trans HC.out.1.2.1; have a2 := (HB2.out.cell (p := ⟨b1, off + k * 4 + 2, none⟩) HC.out.2).trans HC.out.1.2.2.1)
                  | (go_at_call 17; refine (send_ok (ao := none) (n := 0) (cp := 0) (bk := 0) (off := 0) (X := fun _ => 0) HN2.out HO.out.g (by omega) (fun j hj => Nat.lt_of_lt_of_le hj.2 (Nat.le_trans hbn1.size hbn2.size)) (nodeS_len _) (nodeS_len _) ht0' (by omega) HO.out.p (nil_bytes _) (fun h => by omega) (by omega)).mono ?_; rintro e w6 ⟨rfl, hN6, hO6⟩; have HB6 : Hid (Below w.heap.size w w6) := Lib.hid (HB2.out.trans (hO6.below HB2.out.size (fun j hj => hj.1))); have a1 := (HB6.out.cell (p := ⟨b1, off + k * 4 + 1, none⟩) HC.out.2).trans HC.out.1.2.1; have a2 := (HB6.out.cell (p := ⟨b1, off + k * 4 + 2, none⟩) HC.out.2).trans HC.out.1.2.2.1))
              generalize hs' : s.sent t' (nodeS p1.toNat) (nodeS p2.toNat) (lst 0 fun _ => 0) = s' at hN6
              have HO6 : Hid (OrdS (k + 1) t' last s') := Lib.hid (hs' ▸ HO.out.sent ht0' (by omega) _ _ _)
              have hpr : s'.present = t' := by rw [← hs']; rfl
              have HN6 := Lib.hid (hN6.mono (Q := (w.heap.size ≤ ·)) (fun j hj => hj.elim (fun h => h.1) (fun h => Nat.le_trans HB2.out.size h)))
              clear hs' hN6 hO6 a1 a2 hbn1 hbn2 HN0 HN1 HN2 HB0 HB1 HB2 HO
              generalize w6 = w7 at HN6 HB6 ⊢
              by_cases h0 : 0 < t'
              · have d1 : decide ((0 : Int) < t') = true := by simp; omega
                have CL := Lib.hid (send_late HN6.out (t' - 1) ⟨#[97]⟩ ⟨#[98]⟩ (.slice none 0 0) (by omega) (by omega) (by omega))
                clear hpr h0
                go_wp2_with fail
                refine CL.out.mono ?_
                rintro e w8 ⟨rfl, hb8⟩
                go_wp2_with fail
                refine (is_same 7 (by decide) _).mono ?_
                rintro e w9 ⟨rfl, hw⟩
                subst hw
                have HE : Hid (MidR w b (k + 1) t' (.int .i64 last) w9) := Lib.hid ⟨last, s', rfl, hl0, HN6.out.belowS hb8, HB6.out.trans (hb8.mono HB6.out.size), HO6.out⟩
                clear hb8 CL
                go_wp2_with fail
                go_roundw
                case rel => exact ⟨k + 1, t', by omega, by go_num, rfl, ht0', HT.out, HE.out⟩
                case measure => simp [intOf]; omega
              · have d1 : decide ((0 : Int) < t') = false := by simp; omega
                have HE : Hid (MidR w b (k + 1) t' (.int .i64 last) w7) := Lib.hid ⟨last, s', rfl, hl0, HN6.out, HB6.out, HO6.out⟩
                clear hpr h0
                go_wp2_with fail
                go_roundw
                case rel => exact ⟨k + 1, t', by omega, by go_num, rfl, ht0', HT.out, HE.out⟩
                case measure => simp [intOf]; omega
          · obtain rfl : k = n := by omega
            have C1 := Lib.hid (fun (w' : World) => send_low b (-1) ⟨#[97]⟩ ⟨#[98]⟩ (.slice none 0 0) w' (by omega))
            have C2 := Lib.hid (fun (w' : World) => send_high b 1099511627777 ⟨#[97]⟩ ⟨#[98]⟩ (.slice none 0 0) w' (by omega))
            clear hO hNr
            go_wp2_with fail
            refine (C1.out _).mono ?_
            rintro e w4 ⟨rfl, hb4⟩
            go_wp2_with fail
            refine (is_same 1 (by decide) _).mono ?_
            rintro e w5 ⟨rfl, hw⟩
            subst hw
            go_wp2_with fail
            refine (C2.out _).mono ?_
            rintro e w6 ⟨rfl, hb6⟩
            go_wp2_with fail
            refine (is_same 1 (by decide) _).mono ?_
            rintro e w7 ⟨rfl, hw⟩
            subst hw
            have hB4 := hBr.trans (hb4.mono hBr.size)
            go_wp2
            go_ret
            exact ⟨rfl, hB4.trans (hb6.mono hB4.size)⟩
  · have d : fewB n A = false ∨ (fewB n A = true ∧ decide ((60 : Int) < (n2 : Int)) = true) := by
      cases hf : fewB n A
      · exact .inl rfl
      · exact .inr ⟨rfl, by simp; rw [hf] at hbig; simp at hbig; omega⟩
    have CF := Lib.hid (fun (w1 : World) (hb : Below w.heap.size w w1) => few_any (c := c) w1 (HA.out.belowS hb (Nat.le_refl _)) hn)
    clear hbig HX
    rcases d with d | ⟨d, d2⟩
    all_goals
      rw [d] at CF
      clear d
      go_enter Try.func3, Try.ntmps3
      go_wp2_with fail
      refine (awake_any _).mono ?_
      rintro e w1 ⟨rfl, hb1⟩
      go_wp2_with fail
      refine (CF.out w1 hb1).mono ?_
      rintro e w1' ⟨rfl, hw⟩
      subst hw
      go_wp2_with fail
      refine (awake_any _).mono ?_
      rintro e w2 ⟨rfl, hb2⟩
      go_wp2
      go_ret
      exact ⟨rfl, hb1.trans (hb2.mono hb1.size)⟩
end Go.Proofs.Ytkhiepjlfbjgdaa

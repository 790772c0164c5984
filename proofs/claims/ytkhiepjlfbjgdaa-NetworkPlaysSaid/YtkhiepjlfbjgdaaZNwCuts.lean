/- The statement NetworkCuts: the walk. Conditions: the spans can be read. -/
import Derived.Test.YtkhiepjlfbjgdaaZNwX
namespace Go.Proofs.Ytkhiepjlfbjgdaa
open Go.RowKit

def spanK (j : Nat) : IntKind := if j < 2 then .u8 else .u16
theorem spanK_of {fs : Array Field} (he : Try.prog.underlying 56 = some (.struct fs)) : ∀ (j : Nat) (f : Field), fs[j]? = some f → Try.prog.underlying f.type = some (.int (spanK j)) := by
  rw [Try.underlying56] at he
  obtain rfl := TypeDesc.struct.inj (Option.some.inj he)
  intro j f hf
  match j, hf with
  | 0, hf => simp at hf; subst hf; exact Try.underlying5
  | 1, hf => simp at hf; subst hf; exact Try.underlying5
  | 2, hf => simp at hf; subst hf; exact Try.underlying33
  | 3, hf => simp at hf; subst hf; exact Try.underlying33
  | j + 4, hf => simp at hf
structure IsSpans (w : World) (ao : Option Addr) (n b off : Nat) (X : Nat → Nat → Int) : Prop where
  ao : 0 < n → ao = some ⟨b, off, none⟩
  lt : 0 < n → b < w.heap.size
  c : ∀ i, i < n → ∀ j, j < 4 → w.cell? ⟨b, off + i * 4 + j, none⟩ = some (.int (spanK j) (X i j)) ∧ (Lit.int (spanK j) (X i j)).wf = true
structure SpanC (w : World) (b o : Nat) (x0 x1 x2 x3 : Int) : Prop where
  c0 : w.cell? ⟨b, o, none⟩ = some (.int .u8 x0)
  c1 : w.cell? ⟨b, o + 1, none⟩ = some (.int .u8 x1)
  c2 : w.cell? ⟨b, o + 2, none⟩ = some (.int .u16 x2)
  c3 : w.cell? ⟨b, o + 3, none⟩ = some (.int .u16 x3)
theorem IsSpans.at_ {w : World} {ao : Option Addr} {n b off : Nat} {X : Nat → Nat → Int} (h : IsSpans w ao n b off X) {i : Nat} (hi : i < n) : SpanC w b (off + i * 4) (X i 0) (X i 1) (X i 2) (X i 3) ∧ (0 ≤ X i 0 ∧ X i 0 ≤ 255) ∧ (0 ≤ X i 1 ∧ X i 1 ≤ 255) ∧ (0 ≤ X i 2 ∧ X i 2 ≤ 65535) ∧ (0 ≤ X i 3 ∧ X i 3 ≤ 65535) :=
  ⟨⟨(h.c i hi 0 (by omega)).1, (h.c i hi 1 (by omega)).1, (h.c i hi 2 (by omega)).1, (h.c i hi 3 (by omega)).1⟩, bounds_u8 (h.c i hi 0 (by omega)).2, bounds_u8 (h.c i hi 1 (by omega)).2, bounds_u16 (h.c i hi 2 (by omega)).2, bounds_u16 (h.c i hi 3 (by omega)).2⟩
theorem IsSpans.belowS {w w' : World} {ao : Option Addr} {n b off : Nat} {X : Nat → Nat → Int} (h : IsSpans w ao n b off X) (hb : Below w.heap.size w w') : IsSpans w' ao n b off X :=
  ⟨h.ao, fun h0 => Nat.lt_of_lt_of_le (h.lt h0) hb.size, fun i hi j hj => ⟨(hb.cell (p := ⟨b, _, none⟩) (h.lt (by omega))).trans (h.c i hi j hj).1, (h.c i hi j hj).2⟩⟩
/-- The network behind k spans. -/
def cutNet (X : Nat → Nat → Int) : Nat → Net
  | 0 => Net.init 3
  | k + 1 => if X k 2 ≤ X k 3 then (cutNet X k).cut (nodeS (X k 0).toNat) (nodeS (X k 1).toNat) (X k 2) (X k 3) else cutNet X k
theorem cutNet_get (X : Nat → Nat → Int) : ∀ (k : Nat) (x y : ByteArray), (cutNet X k).get x y = ⟨3, 0, fun _ => none⟩ ∧ (cutNet X k).present = 0 ∧ (cutNet X k).lost = 0 ∧ (cutNet X k).msgs = 0 ∧ (cutNet X k).arr = [] ∧ (cutNet X k).cuts.length ≤ k ∧ NGd 0 (cutNet X k)
  | 0, x, y => ⟨rfl, rfl, rfl, rfl, rfl, Nat.le_refl _, NGd.init (by decide)⟩
  | k + 1, x, y => by
    obtain ⟨h1, h2, h3, h4, h5, h6, h7⟩ := cutNet_get X k x y
    rw [cutNet]
    split
    · exact ⟨h1, h2, h3, h4, h5, by simp [Net.cut]; omega, ⟨h7.u, h7.p0, h7.p1, h7.l, h7.m0, h7.m1, h7.o0, h7.o1, h7.a⟩⟩
    · exact ⟨h1, h2, h3, h4, h5, by omega, h7⟩
theorem cutNet_lost (X : Nat → Nat → Int) (k : Nat) (t : Int) (x y : ByteArray) :
    cutB (cutNet X (k + 1)).cuts t x y = (cutB (cutNet X k).cuts t x y || (((nameB (nodeS (X k 0).toNat) x && nameB (nodeS (X k 1).toNat) y) || (nameB (nodeS (X k 0).toNat) y && nameB (nodeS (X k 1).toNat) x)) && (decide (X k 2 ≤ t) && decide (t < X k 3)))) := by
  rw [cutNet]
  by_cases h : X k 2 ≤ X k 3
  · rw [if_pos h]
    unfold cutB Net.cut covB
    rw [List.any_append]
    simp only [List.any_cons, List.any_nil, Bool.or_false]
    congr 1
    cases decide (X k 2 ≤ t) <;> cases decide (t < X k 3) <;> simp
  · rw [if_neg h]
    have : (decide (X k 2 ≤ t) && decide (t < X k 3)) = false := by simp; omega
    rw [this, Bool.and_false, Bool.or_false]
theorem bestN_one (s : Net) : bestN s 1 = 0 := by unfold bestN; split <;> rfl
theorem sent_list {s : Net} {t : Int} {x y : ByteArray} (h : s.get x y = ⟨3, 0, fun _ => none⟩) (data : List Int) : (cutB s.cuts t x y = true → (s.sent t x y data).arr = s.arr ∧ (s.sent t x y data).lost = s.lost + 1) ∧ (cutB s.cuts t x y = false → (s.sent t x y data).arr = s.arr ++ [⟨t + 3, x, y, data, s.msgs + 1, 0⟩] ∧ (s.sent t x y data).lost = s.lost) := by
  have hl : s.list t x y = if cutB s.cuts t x y = true then [] else [3] := by unfold Net.list; rw [h]; rfl
  unfold Net.sent
  rw [hl]
  constructor
  · intro hc
    rw [if_pos hc]
    exact ⟨by simp [news], rfl⟩
  · intro hc
    rw [if_neg (by rw [hc]; decide)]
    exact ⟨by simp [news], by simp⟩
theorem node_i (k : Int) (h0 : 0 ≤ k) (h1 : k ≤ 255) (w : World) : Calls Try.prog 13 #[.int .u8 k] w fun e w' => e = .returned (.string (nodeS k.toNat)) ∧ Below w.heap.size w w' := by
  obtain ⟨n, rfl⟩ := Int.eq_ofNat_of_zero_le h0
  exact node_any n (by omega) w
theorem nodeS_len (k : Nat) : (nodeS k).size ≤ maxLen := by
  unfold nodeS
  have hr : k % 6 < 6 := Nat.mod_lt _ (by omega)
  generalize k % 6 = r at hr
  match r, hr with
  | 0, _ => decide
  | 1, _ => decide
  | 2, _ => decide
  | 3, _ => decide
  | 4, _ => decide
  | 5, _ => decide
set_option maxRecDepth 100000 in
set_option maxHeartbeats 1600000 in
theorem cuts_walk {ao : Option Addr} {n c bs off : Nat} {X : Nat → Nat → Int} {x0 x1 x2 x3 : Int} (w : World) (hX : IsSpans w ao n bs off X) (hn : n ≤ 9223372036854775807) (b0 : 0 ≤ x0 ∧ x0 ≤ 255) (b1 : 0 ≤ x1 ∧ x1 ≤ 255) (b2 : 0 ≤ x2 ∧ x2 ≤ 65535) :
    Calls Try.prog 5 #[.slice ao n c, .agg #[.int .u8 x0, .int .u8 x1, .int .u16 x2, .int .u16 x3]] w (AwP w) := by
  obtain ⟨b00, b01⟩ := b0
  obtain ⟨b10, b11⟩ := b1
  obtain ⟨b20, b21⟩ := b2
  have hB0 : Below w.heap.size w (w.alloc (.cells #[.int .u8 x0, .int .u8 x1, .int .u16 x2, .int .u16 x3] 56)) := by go_grown
  have hm := heap_alloc_new w (.cells #[.int .u8 x0, .int .u8 x1, .int .u16 x2, .int .u16 x3] 56)
  have HX := Lib.hid hX
  clear hX
  by_cases hbig : 60 < n
  · have d : decide ((60 : Int) < (n : Int)) = true := by simp; omega
    go_enter Try.func5, Try.ntmps5
    go_wp2_with fail
    refine (awake_any _).mono ?_
    rintro e w1 ⟨rfl, hb1⟩
    go_wp2_with fail
    refine (awake_any _).mono ?_
    rintro e w2 ⟨rfl, hb2⟩
    go_wp2
    go_ret
    exact ⟨rfl, (hB0.trans (hb1.mono hB0.size)).trans (hb2.mono (hB0.trans (hb1.mono hB0.size)).size)⟩
  · have d : decide ((60 : Int) < (n : Int)) = false := by simp; omega
    have hn60 : n ≤ 60 := by omega
    clear hbig
    go_enter Try.func5, Try.ntmps5
    go_wp2_with fail
    refine (awake_any _).mono ?_
    rintro e w1 ⟨rfl, hb1⟩
    have hB1 := hB0.trans (hb1.mono hB0.size)
    have C1 := Lib.hid (n_new 3 w1 (by omega) (by decide))
    have hm1 := below_ats hb1 hm
    have hlt1 : w.heap.size < w1.heap.size := lt_of_block hm1
    clear hB0 hm
    go_wp2_with fail
    refine C1.out.mono ?_
    rintro e w2 ⟨b, rfl, hN, hb2⟩
    have hB2 := hB1.trans (hb2.mono hB1.size)
    have hm2 := below_ats hb2 hm1
    have HN := Lib.hid (hN.mono (Q := (w1.heap.size ≤ ·)) fun k hk => hk)
    have m0 := has_cell hm2 0
    have m1 := has_cell hm2 1
    have m2 := has_cell hm2 2
    have z0 : w.heap.size < w2.heap.size := lt_of_block hm2
    have HB2 := Lib.hid hB2
    have hs12 : w1.heap.size ≤ w2.heap.size := hb2.size
    clear C1 hN hb2 hm1 hm2 hb1 hB1 hB2
    go_wp2_with fail
    have e1 : IntKind.i64.wrap x2 = x2 := IntWalk.i64_in _ (by omega)
    have t0 : 0 ≤ x0.tmod 5 ∧ x0.tmod 5 ≤ 4 := by rw [Int.tmod_eq_emod_of_nonneg b00]; omega
    have t1 : 0 ≤ x1.tmod 5 ∧ x1.tmod 5 ≤ 4 := by rw [Int.tmod_eq_emod_of_nonneg b10]; omega
    obtain ⟨t00, t01⟩ := t0
    obtain ⟨t10, t11⟩ := t1
    go_region_held3 (fun w' => w'.cell? ⟨w.heap.size, 0, none⟩ = some (.int .u8 x0) ∧ w'.cell? ⟨w.heap.size, 1, none⟩ = some (.int .u8 x1) ∧ w'.cell? ⟨w.heap.size, 2, none⟩ = some (.int .u16 x2)) (go_keep)
      (first
        | (go_at_call 13; refine (node_i _ (by omega) (by omega) _).mono ?_; rintro e wn ⟨rfl, hbn⟩; have m0 := (hbn.cell (p := ⟨w.heap.size, 0, none⟩) z0).trans m0; have m1 := (hbn.cell (p := ⟨w.heap.size, 1, none⟩) z0).trans m1; have m2 := (hbn.cell (p := ⟨w.heap.size, 2, none⟩) z0).trans m2; have z0 := Nat.lt_of_lt_of_le z0 hbn.size; have HN := Lib.hid (HN.out.belowS ⟨hbn.os, hbn.tape, hbn.output, hbn.size, hbn.block⟩); have HB2 : Hid (Below w.heap.size w wn) := Lib.hid (HB2.out.trans ⟨hbn.os, hbn.tape, hbn.output, hbn.size, fun k hk => hbn.block k (Nat.lt_of_lt_of_le hk HB2.out.size)⟩); have hs12 := Nat.le_trans hs12 hbn.size))
    have HXY := Lib.hid (And.intro (nodeS_len (x0.tmod 5).toNat) (nodeS_len (x1.tmod 5).toNat))
    generalize nodeS (x0.tmod 5).toNat = x at *
    generalize nodeS (x1.tmod 5).toNat = y at *
    clear m0 m1 m2 z0 hbn e1 t00 t01 t10 t11 b00 b01 b10 b11
    generalize wn = w3 at HN HB2 hs12 ⊢
    have HX3 := Lib.hid (HX.out.belowS HB2.out)
    go_wp2_with fail
    go_loopw [10, 11] (fun lo i wr => ∃ k : Nat, k ≤ n ∧ i = .int .i64 k ∧ lo = .bool (cutB (cutNet X k).cuts x2 x y) ∧ NS wr (w1.heap.size ≤ ·) b (cutNet X k) ∧ Below w.heap.size w wr ∧ w1.heap.size ≤ wr.heap.size) (fun _ i _ => n - (intOf i).toNat)
    case atStart => exact ⟨0, by omega, rfl, rfl, HN.out, HB2.out, hs12⟩
    case round =>
      obtain ⟨k, hk, rfl, rfl, hNr, hBr, hsr⟩ := hrel
      by_cases hlt : k < n
      · have HNr := Lib.hid (hNr.bound)
        have HBr := Lib.hid hBr
        have hXr := HX.out.belowS hBr
        obtain rfl := hXr.ao (by omega)
        obtain ⟨⟨s0, s1, s2, s3⟩, ⟨q00, q01⟩, ⟨q10, q11⟩, ⟨q20, q21⟩, ⟨q30, q31⟩⟩ := hXr.at_ hlt
        have HST := Lib.hid (cutNet_lost X k x2 x y)
        have HSN : Hid (cutNet X (k + 1) = if X k 2 ≤ X k 3 then (cutNet X k).cut (nodeS (X k 0).toNat) (nodeS (X k 1).toNat) (X k 2) (X k 3) else cutNet X k) := Lib.hid rfl
        have HCL := Lib.hid (cutNet_get X k x y)
        clear hNr hBr hXr
        generalize X k 0 = p0 at *
        generalize X k 1 = p1 at *
        generalize X k 2 = p2 at *
        generalize X k 3 = p3 at *
        have hba : Below wr.heap.size wr (wr.alloc (.cells #[.int .u8 p0, .int .u8 p1, .int .u16 p2, .int .u16 p3] 56)) := by go_grown
        have hcn := heap_alloc_new wr (.cells #[.int .u8 p0, .int .u8 p1, .int .u16 p2, .int .u16 p3] 56)
        have HNa := Lib.hid (HNr.out.belowS hba)
        have HBa := Lib.hid (HBr.out.trans (hba.mono HBr.out.size))
        have hsa : wr.heap.size < (wr.alloc (.cells #[.int .u8 p0, .int .u8 p1, .int .u16 p2, .int .u16 p3] 56)).heap.size := lt_of_block hcn
        go_upto_region 12 with fail
        generalize wr.alloc (.cells #[.int .u8 p0, .int .u8 p1, .int .u16 p2, .int .u16 p3] 56) = wa at hcn HNa HBa hsa ⊢
        generalize hcb : wr.heap.size = cb at *
        have m0 := has_cell hcn 0
        have m1 := has_cell hcn 1
        have m2 := has_cell hcn 2
        have m3 := has_cell hcn 3
        have e2 : IntKind.i64.wrap p2 = p2 := IntWalk.i64_in _ (by omega)
        have e3 : IntKind.i64.wrap p3 = p3 := IntWalk.i64_in _ (by omega)
        clear hba s0 s1 s2 s3 HNr HBr hcn
        by_cases hle : p2 ≤ p3
        · have hlc : (cutNet X k).cuts.length ≤ 1000 := by have := HCL.out.2.2.2.2.2.1; omega
          go_region_held3 (fun w' => w'.cell? ⟨cb, 0, none⟩ = some (.int .u8 p0) ∧ w'.cell? ⟨cb, 1, none⟩ = some (.int .u8 p1) ∧ w'.cell? ⟨cb, 2, none⟩ = some (.int .u16 p2) ∧ w'.cell? ⟨cb, 3, none⟩ = some (.int .u16 p3)) (go_keep)
            (first
              | (go_at_call 13; refine (node_i _ (by omega) (by omega) _).mono ?_; rintro e wn ⟨rfl, hbn⟩; have m0 := (hbn.cell (p := ⟨cb, 0, none⟩) hsa).trans m0; have m1 := (hbn.cell (p := ⟨cb, 1, none⟩) hsa).trans m1; have m2 := (hbn.cell (p := ⟨cb, 2, none⟩) hsa).trans m2; have m3 := (hbn.cell (p := ⟨cb, 3, none⟩) hsa).trans m3; have hsa := Nat.lt_of_lt_of_le hsa hbn.size; have HNa := Lib.hid (HNa.out.belowS ⟨hbn.os, hbn.tape, hbn.output, hbn.size, hbn.block⟩); have HBa : Hid (Below w.heap.size w wn) := Lib.hid (HBa.out.trans ⟨hbn.os, hbn.tape, hbn.output, hbn.size, fun k hk => hbn.block k (Nat.lt_of_lt_of_le hk HBa.out.size)⟩))
              | (go_at_call 21; refine (cut_ok HNa.out _ _ _ _ hle hlc).mono ?_; rintro e wc ⟨rfl, hNc, hOc⟩; have hck := hOc.block cb hsa (fun h => by omega); have m0 := (World.cell?_of_block (a := ⟨cb, 0, none⟩) hck).trans m0; have m1 := (World.cell?_of_block (a := ⟨cb, 1, none⟩) hck).trans m1; have m2 := (World.cell?_of_block (a := ⟨cb, 2, none⟩) hck).trans m2; have m3 := (World.cell?_of_block (a := ⟨cb, 3, none⟩) hck).trans m3; have HBc : Hid (Below w.heap.size w wc) := Lib.hid (HBa.out.trans (hOc.below HBa.out.size (fun k hk => by have := hk.1; omega))); have hsc := Nat.lt_of_lt_of_le hsa hOc.size))
          have hne : cutNet X (k + 1) = (cutNet X k).cut (nodeS p0.toNat) (nodeS p1.toNat) p2 p3 := by rw [HSN.out, if_pos hle]
          have HNE := Lib.hid hne
          have HNc := Lib.hid (show NS wc (w1.heap.size ≤ ·) b (cutNet X (k + 1)) from by rw [hne]; exact hNc.mono fun k hk => hk.elim (fun h => h.1) (fun h => by omega))
          clear hne hNc hOc hck HNa HBa hsa hlc e2 e3
          have HNa := HNc
          have HBa := HBc
          have hsa := hsc
          clear HNc HBc hsc
          go_wp2_with fail
          go_region_held3 (fun w' => w'.cell? ⟨cb, 0, none⟩ = some (.int .u8 p0) ∧ w'.cell? ⟨cb, 1, none⟩ = some (.int .u8 p1) ∧ w'.cell? ⟨cb, 2, none⟩ = some (.int .u16 p2) ∧ w'.cell? ⟨cb, 3, none⟩ = some (.int .u16 p3)) (go_keep)
            (first
              | (go_at_call 13; refine (node_i _ (by omega) (by omega) _).mono ?_; rintro e wn ⟨rfl, hbn⟩; have m0 := (hbn.cell (p := ⟨cb, 0, none⟩) hsa).trans m0; have m1 := (hbn.cell (p := ⟨cb, 1, none⟩) hsa).trans m1; have m2 := (hbn.cell (p := ⟨cb, 2, none⟩) hsa).trans m2; have m3 := (hbn.cell (p := ⟨cb, 3, none⟩) hsa).trans m3; have hsa := Nat.lt_of_lt_of_le hsa hbn.size; have HNa := Lib.hid (HNa.out.belowS ⟨hbn.os, hbn.tape, hbn.output, hbn.size, hbn.block⟩); have HBa : Hid (Below w.heap.size w wn) := Lib.hid (HBa.out.trans ⟨hbn.os, hbn.tape, hbn.output, hbn.size, fun k hk => hbn.block k (Nat.lt_of_lt_of_le hk HBa.out.size)⟩)))
          generalize wn = w8 at HNa HBa hsa m0 m1 m2 m3 ⊢
          clear hbn
          generalize nodeS p0.toNat = pa at *
          generalize nodeS p1.toNat = pb at *
          have HX1 := Lib.hid (And.intro HNa.out HBa.out)
          clear HNa HBa
          go_upto_region 19 with fail
          go_cut [16] (fun c wx => wx = w8 ∧ c = .bool (nameB pa x && nameB pb y))
          case first =>
            cases hp1 : (pa.toList == [42])
            · cases hp2 : (pa.toList == x.toList)
              · go_wp2_with fail
                go_meet
                case rel => exact ⟨rfl, by unfold nameB; rw [hp1, hp2]; rfl⟩
              · cases hp3 : (pb.toList == [42])
                · cases hp4 : (pb.toList == y.toList)
                  · go_wp2_with fail
                    go_meet
                    case rel => exact ⟨rfl, by unfold nameB; rw [hp1, hp2, hp3, hp4]; rfl⟩
                  · go_wp2_with fail
                    go_meet
                    case rel => exact ⟨rfl, by unfold nameB; rw [hp1, hp2, hp3, hp4]; rfl⟩
                · go_wp2_with fail
                  go_meet
                  case rel => exact ⟨rfl, by unfold nameB; rw [hp1, hp2, hp3]; rfl⟩
            · cases hp3 : (pb.toList == [42])
              · cases hp4 : (pb.toList == y.toList)
                · go_wp2_with fail
                  go_meet
                  case rel => exact ⟨rfl, by unfold nameB; rw [hp1, hp3, hp4]; rfl⟩
                · go_wp2_with fail
                  go_meet
                  case rel => exact ⟨rfl, by unfold nameB; rw [hp1, hp3, hp4]; rfl⟩
              · go_wp2_with fail
                go_meet
                case rel => exact ⟨rfl, by unfold nameB; rw [hp1, hp3]; rfl⟩
          case rest =>
            obtain ⟨rfl, rfl⟩ := hcut
            go_upto_region 20 with fail
            go_cut [17] (fun c wx => wx = wc ∧ c = .bool (nameB pa y && nameB pb x))
            case first =>
              cases hp1 : (pa.toList == [42])
              · cases hp2 : (pa.toList == y.toList)
                · go_wp2_with fail
                  go_meet
                  case rel => exact ⟨rfl, by unfold nameB; rw [hp1, hp2]; rfl⟩
                · cases hp3 : (pb.toList == [42])
                  · cases hp4 : (pb.toList == x.toList)
                    · go_wp2_with fail
                      go_meet
                      case rel => exact ⟨rfl, by unfold nameB; rw [hp1, hp2, hp3, hp4]; rfl⟩
                    · go_wp2_with fail
                      go_meet
                      case rel => exact ⟨rfl, by unfold nameB; rw [hp1, hp2, hp3, hp4]; rfl⟩
                  · go_wp2_with fail
                    go_meet
                    case rel => exact ⟨rfl, by unfold nameB; rw [hp1, hp2, hp3]; rfl⟩
              · cases hp3 : (pb.toList == [42])
                · cases hp4 : (pb.toList == x.toList)
                  · go_wp2_with fail
                    go_meet
                    case rel => exact ⟨rfl, by unfold nameB; rw [hp1, hp3, hp4]; rfl⟩
                  · go_wp2_with fail
                    go_meet
                    case rel => exact ⟨rfl, by unfold nameB; rw [hp1, hp3, hp4]; rfl⟩
                · go_wp2_with fail
                  go_meet
                  case rel => exact ⟨rfl, by unfold nameB; rw [hp1, hp3]; rfl⟩
            case rest =>
              obtain ⟨rfl, rfl⟩ := hcut
              go_upto_region 21 with fail
              generalize hth : (nameB pa x && nameB pb y) = th at *
              generalize hbk : (nameB pa y && nameB pb x) = bk at *
              generalize hlo : cutB (cutNet X k).cuts x2 x y = lo at *
              have HTH := Lib.hid (And.intro hth (And.intro hbk hlo))
              clear hth hbk hlo
              have hlo : cutB (cutNet X (k + 1)).cuts x2 x y = (lo || ((th || bk) && (decide (p2 ≤ x2) && decide (x2 < p3)))) := by rw [HST.out]
              have HLO := Lib.hid hlo
              clear hlo
              cases lo
              · cases hd1 : decide (p2 ≤ x2)
                · cases th <;> cases bk
                  all_goals
                    go_wp2_with fail
                    go_roundw
                    case rel => exact ⟨k + 1, by omega, by go_num, by rw [HLO.out]; first | rfl | (rw [hd1]; rfl) | (rw [hd1, hd2]; rfl), HX1.out.1, HX1.out.2, by omega⟩
                    case measure => simp [intOf]; omega
                · cases hd2 : decide (x2 < p3)
                  all_goals
                    cases th <;> cases bk
                  all_goals
                    go_wp2_with fail
                    go_roundw
                    case rel => exact ⟨k + 1, by omega, by go_num, by rw [HLO.out]; first | rfl | (rw [hd1]; rfl) | (rw [hd1, hd2]; rfl), HX1.out.1, HX1.out.2, by omega⟩
                    case measure => simp [intOf]; omega
              · go_wp2_with fail
                go_roundw
                case rel => exact ⟨k + 1, by omega, by go_num, by rw [HLO.out]; rfl, HX1.out.1, HX1.out.2, by omega⟩
                case measure => simp [intOf]; omega
        · go_region_held3 (fun w' => w'.cell? ⟨cb, 0, none⟩ = some (.int .u8 p0) ∧ w'.cell? ⟨cb, 1, none⟩ = some (.int .u8 p1) ∧ w'.cell? ⟨cb, 2, none⟩ = some (.int .u16 p2) ∧ w'.cell? ⟨cb, 3, none⟩ = some (.int .u16 p3)) (go_keep)
            (first
              | (go_at_call 13; refine (node_i _ (by omega) (by omega) _).mono ?_; rintro e wn ⟨rfl, hbn⟩; have m0 := (hbn.cell (p := ⟨cb, 0, none⟩) hsa).trans m0; have m1 := (hbn.cell (p := ⟨cb, 1, none⟩) hsa).trans m1; have m2 := (hbn.cell (p := ⟨cb, 2, none⟩) hsa).trans m2; have m3 := (hbn.cell (p := ⟨cb, 3, none⟩) hsa).trans m3; have hsa := Nat.lt_of_lt_of_le hsa hbn.size; have HNa := Lib.hid (HNa.out.belowS ⟨hbn.os, hbn.tape, hbn.output, hbn.size, hbn.block⟩); have HBa : Hid (Below w.heap.size w wn) := Lib.hid (HBa.out.trans ⟨hbn.os, hbn.tape, hbn.output, hbn.size, fun k hk => hbn.block k (Nat.lt_of_lt_of_le hk HBa.out.size)⟩))
              | (go_at_call 21; refine (cut_order _ _ _ _ _ _ (by omega)).mono ?_; rintro e wc ⟨rfl, hwc⟩; subst hwc))
          go_wp2_with fail
          refine (is_same 7 (by decide) _).mono ?_
          rintro e wd ⟨rfl, hwd⟩
          subst hwd
          have hd : (decide (p2 ≤ x2) && decide (x2 < p3)) = false := by simp; omega
          have hlo : cutB (cutNet X (k + 1)).cuts x2 x y = cutB (cutNet X k).cuts x2 x y := by rw [HST.out, hd, Bool.and_false, Bool.or_false]
          have hne : cutNet X (k + 1) = cutNet X k := by rw [HSN.out, if_neg (by omega)]
          have HE := Lib.hid (And.intro hlo hne)
          clear hlo hne hd e2 e3 m0 m1 m2 m3
          go_wp2_with fail
          go_roundw
          case rel => exact ⟨k + 1, by omega, by go_num, by rw [HE.out.1], by rw [HE.out.2]; exact HNa.out.mono fun k hk => hk.1, HBa.out, by omega⟩
          case measure => simp [intOf]; omega
      · obtain rfl : k = n := by omega
        obtain ⟨g1, g2, g3, g4, g5, _, g7⟩ := cutNet_get X k x y
        have hE0 : sendE (cutNet X k) x2 = 0 := by unfold sendE; rw [g2, if_neg (by omega), if_neg (by omega)]
        have hba : Below wr.heap.size wr (wr.alloc (.cells #[.int .u8 109] 5 (1, 2))) := by go_grown
        have hNa := hNr.bound.belowS hba
        have hBa := hBr.trans (hba.mono hBr.size)
        have kc := fun (w : World) (C : Array Value) (n c : Nat) => Lib.run_convert_bytes_const (P := Try.prog) w 41 5 C n c Try.underlying41 Try.underlying5
        have CS := Lib.hid (n_send (cp := 1) hNa g7 (by omega) (fun k hk => by simp; omega) HXY.out.1 HXY.out.2 x2 (bys_bytes (l := [109]) (heap_alloc_new wr _) (by simp)) (fun _ h => by omega) (by simp))
        rw [show lst ([109] : List Int).length (fun i => ([109] : List Int).getD i 0) = [109] from lst_self _, hE0, show sendS (cutNet X k) x2 x y [109] = (cutNet X k).sent x2 x y [109] from if_pos hE0] at CS
        have hsl := sent_list g1 (t := x2) [109]
        rw [g5, g3, g4] at hsl
        have HBa := Lib.hid hBa
        clear hNa hba hBa hNr hBr g1 g2 g3 g4 g5 g7 hE0
        generalize (cutNet X k).sent x2 x y [109] = S at *
        go_wp2_with fail
        refine CS.out.mono ?_
        rintro e w4 ⟨rfl, hN4, hO4⟩
        rw [errV0]
        have hB4 := HBa.out.trans (hO4.below HBa.out.size (fun k hk => by have := hk.1; omega))
        cases hcb : cutB (cutNet X k).cuts x2 x y
        · obtain ⟨ha, hlo⟩ := hsl.2 hcb
          have CR := Lib.hid (recv_some hN4 (by rw [ha]; simp) (by rw [ha]; simp))
          rw [show S.at_ (bestN S S.arr.length) = ⟨x2 + 3, x, y, [109], 1, 0⟩ from by unfold Net.at_; rw [ha, show ([] ++ [⟨x2 + 3, x, y, [109], 0 + 1, 0⟩] : List Arr).length = 1 from rfl, bestN_one]; rfl] at CR
          have hlo2 : S.recv.lost = 0 := hlo
          clear hsl ha hlo hN4 CS
          go_wp2_with fail
          refine CR.out.mono ?_
          rintro e w5 ⟨vo, vc, rfl, ho, _, hN5, hO5⟩
          have hB5 := hB4.trans (hO5.below hB4.size (fun k hk => by unfold grow at hk; have := hB4.size; have := HBa.out.size; simp at *; omega))
          have hb6 : Below w5.heap.size w5 (w5.alloc (.cells #[.int .i64 (x2 + 3), .string x, .string y, .slice vo 1 vc] 43)) := by go_grown
          have CL := Lib.hid (n_lost (hN5.belowS hb6))
          rw [hlo2] at CL
          have hstr := (show OL (w5.alloc (.cells #[.int .i64 (x2 + 3), .string x, .string y, .slice vo 1 vc] 43)) 5 1 (.slice vo [(109 : Int)].length vc) [(109 : Int)].length (bys [109]) from ho.below hb6 (fun g hg => ho.lt g hg)).str
          rw [show strOfNums [109] = ⟨#[109]⟩ from rfl, show [(109 : Int)].length = 1 from rfl] at hstr
          have hdn := heap_alloc_new w5 (.cells #[.int .i64 (x2 + 3), .string x, .string y, .slice vo 1 vc] 43)
          have y0 := has_cell hdn 0
          have y1 := has_cell hdn 1
          have y2 := has_cell hdn 2
          have y3 := has_cell hdn 3
          have hB6 := hB5.alloc hB5.size (.cells #[.int .i64 (x2 + 3), .string x, .string y, .slice vo 1 vc] 43)
          clear ho hN5 hO5 hB5 hB4 CR hb6 hdn hO4
          go_wp2_with fail
          refine CL.out.mono ?_
          rintro e w6 ⟨rfl, hw6⟩
          subst hw6
          go_wp2
          go_ret
          exact ⟨by simp, hB6⟩
        · obtain ⟨ha, hlo⟩ := hsl.1 hcb
          have CP := Lib.hid (n_pend hN4)
          rw [ha, show (([] : List Arr).length : Int) = 0 from rfl] at CP
          have CL := Lib.hid (n_lost hN4)
          rw [hlo, show (0 : Int) + 1 = 1 from rfl] at CL
          clear hsl ha hlo hN4 CS
          go_wp2_with fail
          refine CP.out.mono ?_
          rintro e w5 ⟨rfl, hw5⟩
          subst hw5
          go_wp2_with fail
          refine CL.out.mono ?_
          rintro e w6 ⟨rfl, hw6⟩
          subst hw6
          go_wp2
          go_ret
          exact ⟨rfl, hB4⟩
end Go.Proofs.Ytkhiepjlfbjgdaa

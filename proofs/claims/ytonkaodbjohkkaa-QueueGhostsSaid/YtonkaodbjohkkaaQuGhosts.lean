/- queue: the walk of the statement QueueGhosts. Conditions: the number is of its kind. -/
import Derived.Test.YtonkaodbjohkkaaQuGhP
namespace Go.Proofs.Ytonkaodbjohkkaa
open Go.RowKit

def GhR (w : World) (B b many : Nat) (wv i : Value) (wr : World) : Prop := ∃ j : Nat, j ≤ many ∧ i = .int .i64 j ∧ St w B b (gS j) wr ∧ IsT wr wv (evs (j - 1))
theorem evs_pred {i : Nat} : [kk i] ++ evs i = evs (i + 1) := rfl
theorem IsT.pre {w : World} {ao : Option Addr} {n cap : Nat} {l : List ByteArray} (h : IsT w (.slice ao n cap) l) (q : Nat) (hq : q ≤ l.length) : IsT w (.slice ao q cap) (l.take q) := by
  have hl : (l.take q).length = q := by rw [List.length_take]; omega
  unfold IsT
  rw [hl]
  refine ⟨by rw [strs_len, hl]; omega, ?_⟩
  rcases h.2 with ⟨e, h0⟩ | ⟨g, off, cap', cur, e, hg, h1, h2, h3, h4⟩
  · simp only [Value.slice.injEq] at e
    obtain ⟨rfl, rfl, rfl⟩ := e
    have : q = 0 := by omega
    subst this
    exact .inl ⟨rfl, rfl⟩
  · simp only [Value.slice.injEq] at e
    obtain ⟨rfl, rfl, rfl⟩ := e
    refine .inr ⟨g, off, cap, cur, rfl, hg, by omega, h2, h3, ?_⟩
    have := congrArg (List.take (q * 1)) h4
    rw [List.take_take, show min (q * 1) (l.length * 1) = q * 1 by omega] at this
    rw [this]
    simp [strs, List.map_take]
theorem gS_ghosts (m : Nat) : (gS m).g.map Prod.fst = (evs (m - 1)).take 64 := by
  cases m with
  | zero => rfl
  | succ i => exact zeros_fst _
theorem gS_has {m : Nat} (hm : m ≤ 255) {x : ByteArray} (h : x ∈ (evs (m - 1)).take 64) : (hasL (gS m).r x || hasL (gS m).f x) = false := by
  obtain ⟨i, h1, rfl⟩ := evs_mem (List.mem_of_mem_take h)
  cases m with
  | zero => omega
  | succ j =>
    show (hasL [(kk j, 1)] (kk i) || hasL [] (kk i)) = false
    rw [hasL_cons, hasL_nil, eqB_ne (kk_ne (by omega) (by omega) (by omega))]
    rfl
set_option maxRecDepth 100000 in
set_option maxHeartbeats 3200000 in
theorem ghosts_walk (n : Int) (hn : 0 ≤ n ∧ n ≤ 255) (w : World) : Calls Try.prog 4 #[.int .u8 n] w (RtP w) := by
  obtain ⟨m, rfl⟩ := Int.eq_ofNat_of_zero_le hn.1
  have hm : m ≤ 255 := by omega
  have CA := Lib.hid (awake_any w)
  clear hn
  go_enter Try.func4, Try.ntmps4
  go_wp2_with fail
  refine CA.out.mono ?_
  rintro e w1 ⟨rfl, hB1⟩
  have CN := Lib.hid (b_new 1 w1 (by omega) (by omega))
  have qm : IntKind.i64.wrap (m : Int) = (m : Int) := IntWalk.i64_in _ (by omega)
  clear CA
  go_wp2_with fail
  refine CN.out.mono ?_
  rintro e w2 ⟨b, rfl, hQ, hB2⟩
  have hS : St w w1.heap.size b (gS 0) w2 := ⟨hQ, hB1.trans (hB2.mono hB1.size), hB2.size, hB1.size⟩
  clear CN hQ hB1 hB2
  go_wp2_with fail
  go_loopw [5, 23] (fun wv i wr => GhR w w1.heap.size b m wv i wr) (fun _ i _ => m - (intOf i).toNat)
  case atStart => exact ⟨0, Nat.zero_le _, rfl, hS, OL.nil _ _ _⟩
  case round =>
    obtain ⟨j, hk, rfl, hS, hT⟩ := hrel
    by_cases hlt : j < m
    · have q1 : IntKind.u8.wrap (j : Int) = (j : Int) := IntWalk.u8_in _ (by omega)
      have KA := Lib.hid (key_any (j : Int) (by omega) wr)
      go_wp2_with fail
      refine KA.out.mono ?_
      rintro e w3 ⟨rfl, hb⟩
      have hT3 : IsT w3 _ _ := OL.below hT hb (fun g hg => OL.lt hT g hg)
      have hS := hS.below hb
      clear hb KA hT
      obtain ⟨g1, g2, g3⟩ := gS_gd (i := j)
      obtain ⟨aow, capw, hov, _⟩ := hT3.form
      rw [evs_len] at hov
      subst hov
      by_cases hj0 : j = 0
      · subst hj0
        have CP := Lib.hid (b_put2 hS.q hS.sz g1 g2 g3 (by decide) (⟨#[107]⟩ ++ keyB 0) 1 (by decide) (R := (gS 1, [])) gS_put0)
        clear g1 g2 g3
        go_wp2_with fail
        refine CP.out.mono ?_
        rintro e w4 ⟨⟨ao4, cap4, rfl, _, hq⟩, hkeep⟩
        have hT4 := hkeep _ _ hT3
        have hS := hS.next hq
        clear CP hq hkeep hT3
        go_wp2_with fail
        go_roundw
        case rel => exact ⟨1, by omega, by go_num, hS, hT4⟩
        case measure => simp [intOf]; omega
      · obtain ⟨i, hi0⟩ : ∃ i, i + 1 = j := ⟨j - 1, by omega⟩
        have hi := hi0
        have HI := Lib.hid hi0
        have d : (0 : Int) < (j : Int) := by omega
        have q2 : IntKind.i64.wrap ((j : Int) - 1) = (i : Int) := by rw [show (j : Int) - 1 = (i : Int) by omega]; exact IntWalk.i64_in _ (by omega)
        have q3 : IntKind.u8.wrap (i : Int) = (i : Int) := IntWalk.u8_in _ (by omega)
        have CP := Lib.hid (b_put2 hS.q hS.sz g1 g2 g3 (by decide) (⟨#[107]⟩ ++ keyB (j : Int)) 1 (by decide) (R := (gS (j + 1), [⟨#[107]⟩ ++ keyB (i : Int)])) (by subst hi; exact gS_put (by omega)))
        clear g1 g2 g3
        go_wp2_with fail
        refine CP.out.mono ?_
        rintro e w4 ⟨⟨ao4, cap4, rfl, hO, hq⟩, hkeep⟩
        have hT4 := hkeep _ _ hT3
        have hS := hS.next hq
        have KA := Lib.hid (key_any (i : Int) (by omega) w4)
        clear CP hq hkeep hT3
        go_wp2_with fail
        refine KA.out.mono ?_
        rintro e w5 ⟨rfl, hb⟩
        have hT5 : IsT w5 _ _ := OL.below hT4 hb (fun g hg => OL.lt hT4 g hg)
        have hO5 : IsT w5 _ _ := OL.below hO hb (fun g hg => OL.lt hO g hg)
        have hS := hS.below hb
        have CT := hS.cmp hO5 (l := [⟨#[107]⟩ ++ keyB (i : Int)]) 1 rfl (by decide) (x := true) (by simp)
        have hT6 : IsT (w5.alloc (.cells (strs [⟨#[107]⟩ ++ keyB (i : Int)]).toArray 9)) _ _ := OL.alloc hT5 _
        clear KA hb hT4 hO hO5 hT5 hS
        go_wp2_with fail
        refine CT.out.2.mono ?_
        rintro e w7 ⟨rfl, hb⟩
        have hT7 : IsT w7 _ _ := OL.below hT6 hb (fun g hg => OL.lt hT6 g hg)
        have hS := CT.out.1.below hb
        clear CT hb hT6
        have hA : Below w7.heap.size w7 (w7.alloc (.cells (strs [⟨#[107]⟩ ++ keyB (i : Int)]).toArray 9)) := by go_grown
        have hT8 : IsT (w7.alloc (.cells (strs [⟨#[107]⟩ ++ keyB (i : Int)]).toArray 9)) _ _ := OL.alloc hT7 _
        obtain ⟨v', w9, hap, hT9, hgr, _, ao9, cap9, rfl⟩ := texts_join (lit_texts w7 [⟨#[107]⟩ ++ keyB (i : Int)] 1 rfl (by decide)) hT8 (by rw [evs_len]; simp; omega)
        have hB9 : Below w7.heap.size w7 w9 := hA.grown hgr hA.size (fun k hk => by have : w7.heap.size = k := Option.some.inj hk; omega)
        have hS := hS.below hB9
        have HAP := Lib.hid hap
        have HT9 := Lib.hid hT9
        clear hap hT8 hT7 hgr hA hB9 hT9
        go_wp2_with (refine wpList_append_run (v := .slice (some ⟨w7.heap.size, 0, none⟩) 1 1) (xv := .slice aow (j - 1) capw) rfl (.tmp 46) (.tmp 47) _ _ rfl (by rfl) (by rfl) HAP.out ?_)
        go_roundw
        case rel => exact ⟨j + 1, by omega, by go_num, hS, by subst hi; exact HT9.out⟩
        case measure => simp [intOf]; omega
    · obtain rfl : j = m := by omega
      obtain ⟨aow, capw, hov, _, hcw, _⟩ := hT.form
      rw [evs_len] at hov hcw
      subst hov
      obtain ⟨vr, vf, vg, h1, _⟩ := id hS.q
      have CG := Lib.hid (q_ghosts h1 (by have := (gS_gd (i := j)).2.1; omega))
      rw [gS_ghosts] at CG
      clear h1
      go_wp2_with fail
      refine CG.out.mono ?_
      rintro e w3 ⟨vgot, rfl, hG, _, hb⟩
      obtain ⟨aog, capg, hog, hgo, _⟩ := hG.form
      subst hog
      have hT3 : IsT w3 (.slice aow (j - 1) capw) (evs (j - 1)) := OL.below hT hb (fun g hg => OL.lt hT g hg)
      have hS3 := hS.below hb
      have HP := Lib.hid (hT3.pre (min (j - 1) 64) (by rw [evs_len]; omega))
      have HG := Lib.hid (And.intro hG hgo)
      clear CG hb hT hS hT3
      have hL : ((evs (j - 1)).take 64).length = min 64 (j - 1) := by rw [List.length_take, evs_len]
      have HL := Lib.hid hL
      have hL64 : ((evs (j - 1)).take 64).length ≤ 64 := by omega
      have HX := Lib.hid (fun x (hx : x ∈ (evs (j - 1)).take 64) => gS_has hm hx)
      have HEQ := Lib.hid (show (evs (j - 1)).take 64 = (evs (j - 1)).take (min (j - 1) 64) from by
        rcases Nat.lt_or_ge (j - 1) 64 with h | h
        · rw [Nat.min_eq_left (by omega), List.take_of_length_le (by rw [evs_len]; omega), List.take_of_length_le (by rw [evs_len]; omega)]
        · rw [Nat.min_eq_right h])
      clear hL
      generalize (evs (j - 1)).take 64 = got at *
      go_wp2_with fail
      go_loopw [54] (fun i wr => ∃ q : Nat, q ≤ got.length ∧ i = .int .i64 q ∧ St w w1.heap.size b (gS j) wr ∧ Below w3.heap.size w3 wr) (fun i _ => got.length - (intOf i).toNat)
      case atStart => exact ⟨0, Nat.zero_le _, rfl, hS3, Below.refl _ _⟩
      case round =>
        obtain ⟨q, hq, rfl, hS, hb⟩ := hrel
        by_cases hlt : q < got.length
        · obtain ⟨gg, offg, rfl, _⟩ := HG.out.2 (by omega)
          have hg4 : OL wr 9 1 (.slice (some ⟨gg, offg, none⟩) got.length capg) got.length (strs got) := OL.below HG.out.1 hb (fun g hg => OL.lt HG.out.1 g hg)
          have a0 := (hg4.cell q (by omega)).trans (strs_get got q hlt)
          obtain ⟨vr, vf, vg, h1, _⟩ := id hS.q
          have CH := Lib.hid (q_has h1 (got.getD q ByteArray.empty))
          rw [HX.out _ (by simp [List.getD, hlt])] at CH
          clear hg4 h1
          generalize got.getD q ByteArray.empty = x at *
          go_wp2_with fail
          refine CH.out.mono ?_
          rintro e w5 ⟨rfl, hb5⟩
          have hS5 := hS.below hb5
          have hB5 := hb.trans (hb5.mono hb.size)
          clear CH a0 hb5 hS hb
          go_wp2_with fail
          go_roundw
          case rel => exact ⟨q + 1, by omega, by go_num, hS5, hB5⟩
          case measure => simp [intOf]; omega
        · obtain rfl : q = got.length := by omega
          have hTP : IsT wr (.slice aow (min (j - 1) 64) capw) ((evs (j - 1)).take (min (j - 1) 64)) := OL.below HP.out hb (fun g hg => OL.lt HP.out g hg)
          have hG4 : IsT wr (.slice aog got.length capg) got := OL.below HG.out.1 hb (fun g hg => OL.lt HG.out.1 g hg)
          have CT := Lib.hid (b_texts (x := true) hG4 hTP ⟨fun _ => HEQ.out, fun _ => rfl⟩)
          clear hTP hG4 HP HEQ HX HG
          generalize j - 1 = c0 at *
          have pm : min (c0 : Int) 64 = ((min c0 64 : Nat) : Int) := by omega
          have p0 : (0 : Int) ≤ ((min c0 64 : Nat) : Int) := by omega
          have p1 : ((min c0 64 : Nat) : Int) ≤ (capw : Int) := by omega
          generalize min c0 64 = p at *
          go_wp2_with fail
          refine CT.out.mono ?_
          rintro e w5 ⟨rfl, hb5⟩
          have hS5 := hS.below hb5
          clear CT hS hb5
          go_wp2
          go_ret
          exact ⟨rfl, hS5.be⟩
end Go.Proofs.Ytonkaodbjohkkaa

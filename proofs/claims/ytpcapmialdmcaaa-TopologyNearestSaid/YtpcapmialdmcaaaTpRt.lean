/- topology: the document's Route. Conditions: the map can be read, its links are in order, the towns are at most 64, each once. -/
import Derived.Test.YtpcapmialdmcaaaTpRs
namespace Go.Proofs.Ytpcapmialdmcaaa
open Go.RowKit Go.Maps

/-- What the document's Route leaves. -/
def RouteDP (ts : List ByteArray) (L : List TL) (t : Int) (a b : ByteArray) (w : World) (e : Ending) (w' : World) : Prop :=
  ∃ v r code, e = .returned (.tuple #[v, .int .i64 r.2, .int .i64 code]) ∧ RT w' v r.1 ∧ RouteR ts L t a b code r ∧ Below w.heap.size w w'
section
variable {w w' : World} {tao lao : Option Addr} {tc lc : Nat} {ts : List ByteArray} {L : List TL} {a b : ByteArray}
set_option maxRecDepth 100000 in
set_option maxHeartbeats 6400000 in
theorem rroute_any (h : RefAt w (.slice tao ts.length tc) (.slice lao L.length lc) ts L) (hok : LOk (· ∈ ts) L) (hn : ts.Nodup) (h64 : ts.length ≤ 64) (t : Int) : Calls Try.prog 14 #[.agg #[.slice tao ts.length tc, .slice lao L.length lc], .string a, .string b, .int .i64 t] w (RouteDP ts L t a b w) := by
  have hb0 := (Below.refl w.heap.size w).alloc (Nat.le_refl _) (.cells #[.slice tao ts.length tc, .slice lao L.length lc] 31)
  have hq0 := heap_alloc_new w (.cells #[.slice tao ts.length tc, .slice lao L.length lc] 31)
  have HB0 := Lib.hid hb0
  have HQ0 := Lib.hid hq0
  have HK := Lib.hid (fun (wx : World) (hb : Below w.heap.size w wx) (s : ByteArray) => known_any (lao := lao) (ln := L.length) (lc := lc) (h.1.belowS hb) s)
  have x0 := (has_cell hq0 0).trans (show _ = some (Value.slice tao ts.length tc) from rfl)
  have x1 := (has_cell hq0 1).trans (show _ = some (Value.slice lao L.length lc) from rfl)
  clear hb0 hq0
  by_cases hab : a ∈ ts ∧ b ∈ ts
  · have KA := Lib.hid (fun wx hc => HK.out wx hc a)
    have KB := Lib.hid (fun wx hc => HK.out wx hc b)
    rw [inL_of hab.1] at KA
    rw [inL_of hab.2] at KB
    have CR := Lib.hid (fun (wx : World) (hb : Below w.heap.size w wx) => rroutes_any (a := a) (h.below hb) hok hn h64 hab.1 t)
    obtain ⟨tb, tf, rfl, hts⟩ := ts_cell h.1 (List.length_pos_of_mem hab.1)
    have HTS := Lib.hid hts
    have HAB := Lib.hid hab
    have HN := Lib.hid hn
    clear h hts hab HK hn hok
    go_enter Try.func14, Try.ntmps14
    go_wp2_with fail
    refine (KA.out _ HB0.out).mono ?_
    rintro e w1 ⟨rfl, hb1⟩
    have HB1 := Lib.hid (HB0.out.trans (hb1.mono HB0.out.size))
    have HQ1 := Lib.hid ((hb1.block _ (lt_of_block HQ0.out)).trans HQ0.out)
    clear hb1 x0 x1
    have x0 := (has_cell HQ1.out 0).trans (show _ = some (Value.slice (some ⟨tb, tf, none⟩) ts.length tc) from rfl)
    have x1 := (has_cell HQ1.out 1).trans (show _ = some (Value.slice lao L.length lc) from rfl)
    go_wp2_with fail
    refine (KB.out _ HB1.out).mono ?_
    rintro e w2 ⟨rfl, hb2⟩
    have HB2 := Lib.hid (HB1.out.trans (hb2.mono HB1.out.size))
    have HQ2 := Lib.hid ((hb2.block _ (lt_of_block HQ1.out)).trans HQ1.out)
    clear hb2 x0 x1 HB0 HQ0 HB1 HQ1
    have x0 := (has_cell HQ2.out 0).trans (show _ = some (Value.slice (some ⟨tb, tf, none⟩) ts.length tc) from rfl)
    have x1 := (has_cell HQ2.out 1).trans (show _ = some (Value.slice lao L.length lc) from rfl)
    go_wp2_with fail
    refine (CR.out _ HB2.out).mono ?_
    rintro e w3 ⟨br, bs, R, rfl, hrr, hss, hR, hb3⟩
    have HB3 := Lib.hid (HB2.out.trans (hb3.mono HB2.out.size))
    have HQ3 := Lib.hid ((hb3.block _ (lt_of_block HQ2.out)).trans HQ2.out)
    have HRR := Lib.hid hrr
    have HSS := Lib.hid hss
    have HR := Lib.hid hR
    clear hb3 x0 x1 HB2 HQ2 hrr hss hR CR KA KB
    have x0 := (has_cell HQ3.out 0).trans (show _ = some (Value.slice (some ⟨tb, tf, none⟩) ts.length tc) from rfl)
    go_wp2_with fail
    go_loopw [34] (fun iv wr => ∃ j : Nat, j ≤ ts.length ∧ iv = .int .i64 j ∧ (∀ q, q < j → ts.getD q ByteArray.empty = b → R b = none) ∧ wr = w3) (fun iv _ => ts.length - (intOf iv).toNat)
    case atStart => exact ⟨0, Nat.zero_le _, rfl, fun q hq => by omega, rfl⟩
    case round =>
      obtain ⟨j, hj, rfl, hF, rfl⟩ := hrel
      have HF := Lib.hid hF
      clear hF
      by_cases hlt : j < ts.length
      · have c0 := HTS.out wr HB3.out j hlt
        obtain ⟨hnone, hsome, _⟩ := HRR.out.at_ hlt
        have hsum := (HSS.out.at_ hlt).1
        have HS := Lib.hid (fun (h : ts.getD j ByteArray.empty = b → R b = none) (q : Nat) (hq : q < j + 1) => show ts.getD q ByteArray.empty = b → R b = none from by
          by_cases e : q = j
          · rw [e]; exact h
          · exact HF.out q (by omega))
        generalize ts.getD j ByteArray.empty = y at *
        cases hq : (y.toList == b.toList)
        · have HS2 := Lib.hid (HS.out fun e => absurd e (eqB_false.1 hq))
          clear hnone hsome hsum
          go_wp2_with fail
          go_roundw
          case rel => exact ⟨j + 1, by omega, by go_num, HS2.out, by first | rfl | trivial⟩
          case measure => simp [intOf]; omega
        · have hyb := eqB_iff.1 hq
          have HSN := Lib.hid (fun (hn : R b = none) => HS.out fun _ => hn)
          cases hRb : R b with
          | none =>
            have ci := hnone (by rw [hyb]; exact hRb)
            have HS2 := Lib.hid (HSN.out hRb)
            clear hnone hsome hsum hRb hyb
            go_wp2_with fail
            go_roundw
            case rel => exact ⟨j + 1, by omega, by go_num, (by first | exact HS2.out | exact fun _ _ _ => trivial), by first | rfl | trivial⟩
            case measure => simp [intOf]; omega
          | some r =>
            obtain ⟨ao, cap, ci, hI⟩ := hsome r (by rw [hyb]; exact hRb)
            have cs := hsum r (by rw [hyb]; exact hRb)
            have hBest := ((HR.out b).1 r).1 hRb
            have hlr := (hBest.1.last)
            have hl1 : 0 < (r.1.length : Int) := by
              obtain ⟨l, hl⟩ := hlr
              rw [hl]; simp
            have hl2 : 0 < r.1.length := by omega
            have HP : Hid (∀ n, RouteDP ts L t a b w (.returned (.tuple #[.slice ao r.1.length cap, .int .i64 r.2, .int .i64 0])) (wr.drewN n)) := Lib.hid fun n => ⟨_, r, 0, rfl, (IsT.rt hI).belowS (below_draw _ _ _), .inr ⟨HAB.out, .inl ⟨rfl, hBest⟩⟩, HB3.out.trans (below_draw _ _ _)⟩
            clear hnone hsome hsum hRb hyb hI hBest hlr
            generalize r.1.length = lr at *
            generalize r.2 = rs at *
            go_wp2_with fail
            go_quiet (fail)
            go_wp2
            go_ret3
            exact HP.out _
      · obtain rfl : j = ts.length := by omega
        have HP : Hid (RouteDP ts L t a b w (.returned (.tuple #[.slice none 0 0, .int .i64 0, .int .i64 3])) wr) := Lib.hid ⟨_, ([], 0), 3, rfl, rt_nil _, .inr ⟨HAB.out, .inr ⟨rfl, rfl, (HR.out b).2.1 (by
          obtain ⟨q, hq, he⟩ := List.getElem_of_mem HAB.out.2
          exact HF.out q hq (by simp [List.getD, hq, he]))⟩⟩, HB3.out⟩
        go_wp2_with fail
        go_ret3
        exact HP.out
  · have HP : Hid (∀ wx, Below w.heap.size w wx → RouteDP ts L t a b w (.returned (.tuple #[.slice none 0 0, .int .i64 0, .int .i64 8])) wx) := Lib.hid fun wx hb => ⟨_, ([], 0), 8, rfl, rt_nil _, .inl ⟨hab, rfl, rfl⟩, hb⟩
    have KA := Lib.hid (fun wx hc => HK.out wx hc a)
    have KB := Lib.hid (fun wx hc => HK.out wx hc b)
    have hTL : ts.length ≤ 9223372036854775807 := by omega
    clear h HK
    cases ha : inL a ts
    · rw [ha] at KA
      clear hab ha
      go_enter Try.func14, Try.ntmps14
      go_wp2_with fail
      refine (KA.out _ HB0.out).mono ?_
      rintro e w1 ⟨rfl, hb1⟩
      have HB1 := Lib.hid (HB0.out.trans (hb1.mono HB0.out.size))
      clear hb1 x0 x1
      go_wp2_with fail
      go_ret3
      exact HP.out _ HB1.out
    · have hb : inL b ts = false := by
        cases hb : inL b ts
        · rfl
        · exact absurd ⟨inL_iff.1 ha, inL_iff.1 hb⟩ hab
      rw [ha] at KA
      rw [hb] at KB
      clear hab ha hb
      go_enter Try.func14, Try.ntmps14
      go_wp2_with fail
      refine (KA.out _ HB0.out).mono ?_
      rintro e w1 ⟨rfl, hb1⟩
      have HB1 := Lib.hid (HB0.out.trans (hb1.mono HB0.out.size))
      have HQ1 := Lib.hid ((hb1.block _ (lt_of_block HQ0.out)).trans HQ0.out)
      clear hb1 x0 x1
      have x0 := (has_cell HQ1.out 0).trans (show _ = some (Value.slice tao ts.length tc) from rfl)
      have x1 := (has_cell HQ1.out 1).trans (show _ = some (Value.slice lao L.length lc) from rfl)
      go_wp2_with fail
      refine (KB.out _ HB1.out).mono ?_
      rintro e w2 ⟨rfl, hb2⟩
      have HB2 := Lib.hid (HB1.out.trans (hb2.mono HB1.out.size))
      clear hb2 x0 x1
      go_wp2_with fail
      go_ret3
      exact HP.out _ HB2.out
end
end Go.Proofs.Ytpcapmialdmcaaa

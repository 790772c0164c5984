/- network: Fate is accepted. Conditions: the list can be read. -/
import Derived.Test.YtkhiepjlfbjgdaaNwM
namespace Go.Proofs.Ytkhiepjlfbjgdaa
open Go.RowKit

section
variable {w : World} {P : Nat → Prop} {b : Nat} {s : Net}
noncomputable def Net.fate (s : Net) (x y : ByteArray) (i : Int) (l : List Int) : Net := s.setL x y ((s.get x y).setF i l)
set_option maxRecDepth 100000 in
set_option maxHeartbeats 1600000 in
theorem fate_ok {ao : Option Addr} {n c bk off : Nat} {X : Nat → Int} (h : NS w P b s) {x y : ByteArray} (hx : x.size ≤ maxLen) (hy : y.size ≤ maxLen) {i : Int} (hX : IsInts w ao n bk off X) (hXP : 0 < n → ¬ P bk) (hi : 0 ≤ i) (hi2 : i ≤ 9223372036854775807) (hn : n ≤ 4) (hb : firstBad n X = true)
    (hs : (s.get x y).fates i = none) (hs2 : (s.get x y).sent ≤ i) :
    Calls Try.prog 12 #[.pointer (some ⟨b, 0, none⟩), .string x, .string y, .int .i64 i, .slice ao n c] w (NPost P b .nilIface (s.fate x y i (lst n X)) w) := by
  have d : decide (i < 0) = false := by simp; omega
  have d2 : decide ((4 : Int) < (n : Int)) = false := by simp; omega
  have CD := Lib.hid (delays_any (c := c) w hX (by omega))
  rw [hb] at CD
  obtain ⟨q, hN, hA⟩ := h
  have CL := Lib.hid (line_any hN hx hy)
  have HA := Lib.hid hA
  have HX := Lib.hid hX
  have HXP := Lib.hid hXP
  clear hX hb hN hA hXP
  go_enter Try.func12, Try.ntmps12
  go_wp2_with fail
  refine CD.out.mono ?_
  rintro e w1 ⟨rfl, rfl⟩
  go_wp2_with fail
  refine CL.out.mono ?_
  rintro e w2 ⟨q', rfl, hN2, hA2, hO2⟩
  have hl := Net.setL_at s x y (s.get x y)
  have hL := hN2.l x y _ hl
  have c1 := has_cell hL.c 1
  have c2 := has_cell hL.c 2
  have hlk := hL.look (i := i) (by omega) w2 rfl
  rw [hs] at hlk
  simp only [Option.map_none, Option.getD_none, Option.isSome_none] at hlk
  have d3 : decide (i < (s.get x y).sent) = false := by simp; omega
  have CX : Hid (Cells w2 ao n (ints (lst n X))) := Lib.hid ⟨HX.out.cells.nil, HX.out.cells.len, fun a ha j u hu => by
    have := HX.out.cells.at_ a ha j u hu
    have hlt := World.block_lt_of_cell? w1 _ this
    have hab : (a.add j).block = bk := by
      have hj : j < n := by have := (List.getElem?_eq_some_iff.1 hu).1; rwa [ints_len, lst_len] at this
      have := HX.out.ao (by omega)
      rw [ha] at this
      obtain rfl := Option.some.inj this
      simp [Addr.add]; split <;> rfl
    rw [← this]
    exact World.cell?_of_block (hO2.block _ hlt (fun hal => by
      have hj : j < n := by have := (List.getElem?_eq_some_iff.1 hu).1; rwa [ints_len, lst_len] at this
      exact HXP.out (by omega) (hab ▸ HA.out _ hal))), HX.out.cells.one⟩
  have CN := Lib.hid (fun (w' : World) (hb : Below w2.heap.size w2 w') => clone_ints (c := c) (CX.out.belowS hb) (show n ≤ 1000000 by omega))
  have HN2 := Lib.hid (And.intro hN2 (And.intro hA2 hO2))
  have HL := Lib.hid (And.intro hl hL)
  have KK : Hid (∀ w' : World, Below w2.heap.size w2 w' → w'.cell? ⟨q'.G x y, 2, none⟩ = some (.map (some (q'.F x y)))) := Lib.hid (fun w' hb => has_cell (below_ats hb HL.out.2.c) 2)
  clear hN2 hA2 hO2 hl hL CD CL CX
  go_wp2_with fail
  clear hlk c1
  have z0 : Below w2.heap.size w2 w2 := Below.refl _ _
  have m0 := KK.out w2 z0
  clear c2
  go_region_held3 (fun w' => w'.cell? ⟨q'.G x y, 2, none⟩ = some (.map (some (q'.F x y)))) (go_keep)
    (first
      | (go_at_call 30; refine (CN.out _ (by first | exact z0 | exact z0.trans (below_drew _ _) | exact z0.trans (below_draw _ _ _))).mono ?_; rintro e w3 ⟨ao3, cap3, rfl, ho3, hf3, hb3⟩; have z3 : Below w2.heap.size w2 w3 := (by first | exact hb3 | exact (below_drew _ _).trans hb3 | exact (below_draw _ _ _).trans hb3); have m3 := KK.out w3 z3; obtain ⟨ff, hm, hff⟩ := HL.out.2.m; obtain ⟨w4, hst, hm4, hg4⟩ := (hm.belowS z3).store intKeyed Try.underlying90 (isK_int (a := i) Try.underlying3 (WalkArith.wf_i64 (by omega))) (.slice ao3 n cap3); have g3 := below_ats z3 HL.out.2.c; have m4 : w4.cell? ⟨q'.G x y, 2, none⟩ = some (.map (some (q'.F x y))) := has_cell ((hg4.block _ (lt_of_block g3) (fun e => hm.ne HL.out.2.c (Option.some.inj e).symm)).trans g3) 2))
  have hN3 := HN2.out.1.belowS z3
  have ho3' : OL w3 3 1 (.slice ao3 n cap3) (lst n X).length (ints (lst n X)) := by rw [lst_len]; exact ho3
  have hset := hN3.setFate HL.out.1 ho3' hff hm4 (fun k hk hne => hg4.block k hk (fun e => hne (Option.some.inj e)))
  rw [Net.setL_setL] at hset
  have HS := Lib.hid hset
  have HG := Lib.hid (And.intro hf3 (And.intro z3 hg4))
  have HFA := Lib.hid (HN2.out.2.1 _ (NAl.F x y (by rw [HL.out.1]; simp) rfl))
  clear hN3 ho3' hset hm hff hm4 hg4 ho3 hf3 z3 hb3 m0 m3 m4 g3 hst z0
  go_wp2
  go_ret
  have hz := HN2.out.2.2.size
  refine ⟨rfl, ⟨_, HS.out.1.same (fun _ _ => rfl), fun k hk => ?_⟩, ?_⟩
  · rcases HS.out.2 k hk with h1 | h1
    · exact (HN2.out.2.1 k h1).imp (HA.out k) id
    · exact .inr (Nat.le_trans hz (HG.out.1 k h1))
  · refine ((HN2.out.2.2.mono HA.out).trans (Only.of_below HG.out.2.1 (S := P) fun k h1 h2 => by omega) fun _ _ h => h).grown HG.out.2.2 (fun k hk => ?_)
    obtain rfl := Option.some.inj hk
    exact HFA.imp (HA.out _) id
end
end Go.Proofs.Ytkhiepjlfbjgdaa

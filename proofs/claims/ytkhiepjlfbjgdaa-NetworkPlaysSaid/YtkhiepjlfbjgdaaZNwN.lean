/- network: Fate. Conditions: each contract names its own. network: Fate is accepted. Conditions: the list can be read. -/
import Derived.Test.YtkhiepjlfbjgdaaZNwL
namespace Go.Proofs.Ytkhiepjlfbjgdaa
open Go.RowKit

open Classical in
noncomputable def NG.setV (q : NG) (x y : ByteArray) (i : Int) (v : Value) : NG := { q with V := fun x' y' => if x' = x ∧ y' = y then (fun j => if j = i then v else q.V x y j) else q.V x' y' }
def Line.setF (L : Line) (i : Int) (l : List Int) : Line := { L with fates := fun j => if j = i then some l else L.fates j }
theorem NetAt.setFate {w w' : World} {b : Nat} {q : NG} {s : Net} (h : NetAt w b q s) {x y : ByteArray} {L : Line} (hl : s.lines x y = some L) {i : Int} {v : Value} {l : List Int} (ho : OL w 3 1 v l.length (ints l))
    {ff : Value → Option Value} (hff : ∀ i : Int, ff (.int .i64 i) = (L.fates i).map fun _ => q.V x y i) (hm : MapF Try.prog 3 w' (q.F x y) (fput ff (.int .i64 i) v)) (hO : ∀ k, k < w.heap.size → k ≠ q.F x y → w'.heap[k]? = w.heap[k]?) :
    NetAt w' b (q.setV x y i v) (s.setL x y (L.setF i l)) ∧ ∀ k, NAl b (q.setV x y i v) (s.setL x y (L.setF i l)) k → NAl b q s k ∨ v.ownBlock = some k := by
  have hL := h.l x y L hl
  obtain ⟨f0, hm0, _⟩ := hL.m
  have cell : ∀ {k : Nat} {t : TypeId} {cs : Array Value} {fr : Nat × Nat}, w.heap[k]? = some (.cells cs t fr) → w'.heap[k]? = w.heap[k]? := fun hk => hO _ (lt_of_block hk) (fun e => hm0.ne (e ▸ hk) rfl)
  have own : ∀ {e : TypeId} {size n : Nat} {v : Value} {xs : List Value}, OL w e size v n xs → OL w' e size v n xs := fun ho => ho.heap fun k hk => by obtain ⟨cur, hc⟩ := ho.elem k hk; exact cell hc
  have vS : (q.setV x y i v).V x y = fun j => if j = i then v else q.V x y j := if_pos ⟨rfl, rfl⟩
  have vN : ∀ {x' y'}, ¬ (x' = x ∧ y' = y) → (q.setV x y i v).V x' y' = q.V x' y' := fun hn => if_neg hn
  have hne : ∀ {x' y'}, (s.setL x y (L.setF i l)).lines x' y' ≠ none → s.lines x' y' ≠ none := fun {x' y'} hn => by
    by_cases e : x' = x ∧ y' = y
    · rw [e.1, e.2, hl]; simp
    · rwa [Net.setL_ne e] at hn
  constructor
  · refine { c := (cell h.c).trans h.c, m := ?_, l := fun x' y' L1 hL1 => ?_, iG := fun x1 y1 x2 y2 h1 h2 => h.iG x1 y1 x2 y2 (hne h1) (hne h2), iF := fun x1 y1 x2 y2 h1 h2 => h.iF x1 y1 x2 y2 (hne h1) (hne h2), mF := fun x' y' hn => h.mF x' y' (hne hn), k := own h.k, r := own h.r, a := h.a, d := fun z hz => own (h.d z hz), i := h.i }
    · obtain ⟨f, hm1, hf'⟩ := h.m
      refine ⟨f, hm1.at (hO _ hm1.lt (fun e => h.mF x y (by rw [hl]; simp) e.symm)), fun x' y' => ?_⟩
      rw [hf']
      by_cases e : x' = x ∧ y' = y
      · rw [e.1, e.2, Net.setL_at, hl]; rfl
      · rw [Net.setL_ne e]; rfl
    · by_cases e : x' = x ∧ y' = y
      · rw [e.1, e.2, Net.setL_at] at hL1
        obtain rfl := Option.some.inj hL1
        rw [e.1, e.2, vS]
        refine ⟨(cell hL.c).trans hL.c, ⟨_, hm, fun j => ?_⟩, fun j l1 hj => ?_⟩
        · by_cases ej : j = i
          · subst ej; rw [fput_same]; simp [Line.setF]
          · rw [fput_other (fun hh => ej (by simpa using hh)), hff]; simp [Line.setF, ej]
        · by_cases ej : j = i
          · subst ej
            simp [Line.setF] at hj
            subst hj
            simpa using own ho
          · simp [Line.setF, ej] at hj
            simpa [ej] using own (hL.o j l1 hj)
      · rw [Net.setL_ne e] at hL1
        rw [vN e]
        have h1 := h.l x' y' L1 hL1
        obtain ⟨f1, hm1, hf1⟩ := h1.m
        exact ⟨(cell h1.c).trans h1.c, ⟨f1, hm1.at (hO _ hm1.lt (fun hh => e (h.iF x' y' x y (by rw [hL1]; simp) (by rw [hl]; simp) hh))), hf1⟩, fun j l1 hj => own (h1.o j l1 hj)⟩
  · intro k hk
    cases hk with
    | b e => exact .inl (.b e)
    | m e => exact .inl (.m e)
    | c e => exact .inl (.c e)
    | r e => exact .inl (.r e)
    | G x' y' hn e => exact .inl (.G x' y' (hne hn) e)
    | F x' y' hn e => exact .inl (.F x' y' (hne hn) e)
    | V x' y' L1 j hL1 hj e =>
      by_cases ee : x' = x ∧ y' = y
      · rw [ee.1, ee.2, Net.setL_at] at hL1
        obtain rfl := Option.some.inj hL1
        rw [ee.1, ee.2, vS] at e
        by_cases ej : j = i
        · subst ej; simp at e; exact .inr e
        · simp [ej] at e
          simp [Line.setF, ej] at hj
          exact .inl (.V x y L j hl hj e)
      · rw [Net.setL_ne ee] at hL1; rw [vN ee] at e; exact .inl (.V x' y' L1 j hL1 hj e)
    | d z hz e => exact .inl (.d z hz e)
/-- Are the numbers of a fate no fate? -/
theorem fate_neg (b : Nat) (x y : ByteArray) (i : Int) (ao : Option Addr) (n c : Nat) (w : World) (hi : i < 0) : Calls Try.prog 12 #[.pointer (some ⟨b, 0, none⟩), .string x, .string y, .int .i64 i, .slice ao n c] w fun e w' => e = .returned (.iface 48 (.int .i64 1)) ∧ w' = w := by
  have d : decide (i < 0) = true := by simp; omega
  go_enter Try.func12, Try.ntmps12
  go_wp2
  go_ret
  exact ⟨rfl, rfl⟩
theorem fate_many (b : Nat) (x y : ByteArray) (i : Int) (ao : Option Addr) (n c : Nat) (w : World) (hi : 0 ≤ i) (hn : 4 < n) : Calls Try.prog 12 #[.pointer (some ⟨b, 0, none⟩), .string x, .string y, .int .i64 i, .slice ao n c] w fun e w' => e = .returned (.iface 48 (.int .i64 1)) ∧ w' = w := by
  have d : decide (i < 0) = false := by simp; omega
  have d2 : decide ((4 : Int) < (n : Int)) = true := by simp; omega
  go_enter Try.func12, Try.ntmps12
  go_wp2
  go_ret
  exact ⟨rfl, rfl⟩
theorem fate_bad {ao : Option Addr} {n c bk off : Nat} {X : Nat → Int} (b : Nat) (x y : ByteArray) (i : Int) (w : World) (hX : IsInts w ao n bk off X) (hi : 0 ≤ i) (hn : n ≤ 4) (hb : firstBad n X = false) : Calls Try.prog 12 #[.pointer (some ⟨b, 0, none⟩), .string x, .string y, .int .i64 i, .slice ao n c] w fun e w' => e = .returned (.iface 48 (.int .i64 1)) ∧ w' = w := by
  have d : decide (i < 0) = false := by simp; omega
  have d2 : decide ((4 : Int) < (n : Int)) = false := by simp; omega
  have CD := Lib.hid (delays_any (c := c) w hX (by omega))
  rw [hb] at CD
  clear hX hb
  go_enter Try.func12, Try.ntmps12
  go_wp2_with fail
  refine CD.out.mono ?_
  rintro e w1 ⟨rfl, rfl⟩
  go_wp2
  go_ret
  exact ⟨rfl, rfl⟩
theorem zeroS (w : World) : (zeroValue 35).run Try.prog w = .ok (.slice none 0 0) w := by kernel_rfl
/-- What the look-up of a fate gives. -/
theorem LineAt.look {w : World} {g fm : Nat} {fv : Int → Value} {L : Line} (h : LineAt w g fm fv L) {i : Int} (hi : -9223372036854775808 ≤ i ∧ i ≤ 9223372036854775807) (w' : World) (hh : w'.heap = w.heap) :
    (Instr.lookup 90 (.map (some fm)) (.int .i64 i) true).run Try.prog w' = .ok (.tuple #[((L.fates i).map fun _ => fv i).getD (.slice none 0 0), .bool (L.fates i).isSome]) w' := by
  obtain ⟨ff, hm, hf⟩ := h.m
  have := (hm.at (w' := w') (by rw [hh])).look intKeyed Try.underlying90 (zeroS _) (isK_int Try.underlying3 (WalkArith.wf_i64 hi)) true
  rw [hf] at this
  simpa using this
section
variable {w : World} {P : Nat → Prop} {b : Nat} {s : Net}
noncomputable def Net.touch (s : Net) (x y : ByteArray) : Net := s.setL x y (s.get x y)
set_option maxHeartbeats 800000 in
theorem fate_there {ao : Option Addr} {n c bk off : Nat} {X : Nat → Int} (h : NS w P b s) {x y : ByteArray} (hx : x.size ≤ maxLen) (hy : y.size ≤ maxLen) {i : Int} (hX : IsInts w ao n bk off X) (hi : 0 ≤ i) (hi2 : i ≤ 9223372036854775807) (hn : n ≤ 4) (hb : firstBad n X = true)
    (hs : ((s.get x y).fates i).isSome = true ∨ i < (s.get x y).sent) :
    Calls Try.prog 12 #[.pointer (some ⟨b, 0, none⟩), .string x, .string y, .int .i64 i, .slice ao n c] w (NPost P b (.iface 48 (.int .i64 4)) (s.touch x y) w) := by
  have d : decide (i < 0) = false := by simp; omega
  have d2 : decide ((4 : Int) < (n : Int)) = false := by simp; omega
  have CD := Lib.hid (delays_any (c := c) w hX (by omega))
  rw [hb] at CD
  obtain ⟨q, hN, hA⟩ := h
  have CL := Lib.hid (line_any hN hx hy)
  have HA := Lib.hid hA
  clear hX hb hN hA
  go_enter Try.func12, Try.ntmps12
  go_wp2_with fail
  refine CD.out.mono ?_
  rintro e w1 ⟨rfl, rfl⟩
  go_wp2_with fail
  refine CL.out.mono ?_
  rintro e w2 ⟨q', rfl, hN2, hA2, hO2⟩
  have hl := Net.setL_at s x y (s.get x y)
  have hL := hN2.l x y _ hl
  have c1 := has_cell hL.c 1
  have c2 := has_cell hL.c 2
  have hlk := hL.look (i := i) (by omega) w2 rfl
  have HR := Lib.hid (show NPost P b (.iface 48 (.int .i64 4)) (s.touch x y) w1 (.returned (.iface 48 (.int .i64 4))) w2 from ⟨rfl, ⟨q', hN2, fun k hk => (hA2 k hk).imp (HA.out k) id⟩, hO2.mono HA.out⟩)
  clear hN2 hA2 hO2 hl hL CD CL
  generalize q'.G x y = g at c1 c2
  generalize q'.F x y = fm at c2 hlk
  generalize (s.get x y).sent = sn at c1 hs
  generalize (s.get x y).delay = dl at c1 c2
  cases hso : ((s.get x y).fates i)
  · rw [hso] at hlk hs
    have hs' : i < sn := by simpa using hs
    have d3 : decide (i < sn) = true := by simp; omega
    simp only [Option.map_none, Option.getD_none, Option.isSome_none] at hlk
    clear hs hso
    go_wp2
    go_ret
    exact HR.out
  · rw [hso] at hlk
    simp only [Option.map_some, Option.getD_some, Option.isSome_some] at hlk
    clear hs hso
    go_wp2
    go_ret
    exact HR.out
end
end Go.Proofs.Ytkhiepjlfbjgdaa

namespace Go.Proofs.Ytkhiepjlfbjgdaa
open Go.RowKit

section
variable {w : World} {P : Nat → Prop} {b : Nat} {s : Net}
noncomputable def Net.fate (s : Net) (x y : ByteArray) (i : Int) (l : List Int) : Net := s.setL x y ((s.get x y).setF i l)
set_option maxRecDepth 100000 in
set_option maxHeartbeats 1600000 in
theorem fate_ok {ao : Option Addr} {n c bk off : Nat} {X : Nat → Int} (h : NS w P b s) {x y : ByteArray} (hx : x.size ≤ maxLen) (hy : y.size ≤ maxLen) {i : Int} (hX : IsInts w ao n bk off X) (hXP : 0 < n → ¬ P bk) (hi : 0 ≤ i) (hi2 : i ≤ 9223372036854775807) (hn : n ≤ 4) (hb : firstBad n X = true)
    (hs : (s.get x y).fates i = none) (hs2 : (s.get x y).sent ≤ i) :
    Calls Try.prog 12 #[.pointer (some ⟨b, 0, none⟩), .string x, .string y, .int .i64 i, .slice ao n c] w (NPost P b .nilIface (s.fate x y i (lst n X)) w) := by
  have d : decide (i < 0) = false := by simp; omega
  have d2 : decide ((4 : Int) < (n : Int)) = false := by simp; omega
  have CD := Lib.hid (delays_any (c := c) w hX (by omega))
  rw [hb] at CD
  obtain ⟨q, hN, hA⟩ := h
  have CL := Lib.hid (line_any hN hx hy)
  have HA := Lib.hid hA
  have HX := Lib.hid hX
  have HXP := Lib.hid hXP
  clear hX hb hN hA hXP
  go_enter Try.func12, Try.ntmps12
  go_wp2_with fail
  refine CD.out.mono ?_
  rintro e w1 ⟨rfl, rfl⟩
  go_wp2_with fail
  refine CL.out.mono ?_
  rintro e w2 ⟨q', rfl, hN2, hA2, hO2⟩
  have hl := Net.setL_at s x y (s.get x y)
  have hL := hN2.l x y _ hl
  have c1 := has_cell hL.c 1
  have c2 := has_cell hL.c 2
  have hlk := hL.look (i := i) (by omega) w2 rfl
  rw [hs] at hlk
  simp only [Option.map_none, Option.getD_none, Option.isSome_none] at hlk
  have d3 : decide (i < (s.get x y).sent) = false := by simp; omega
  have CX : Hid (Cells w2 ao n (ints (lst n X))) := Lib.hid ⟨HX.out.cells.nil, HX.out.cells.len, fun a ha j u hu => by
    have := HX.out.cells.at_ a ha j u hu
    have hlt := World.block_lt_of_cell? w1 _ this
    have hab : (a.add j).block = bk := by
      have hj : j < n := by have := (List.getElem?_eq_some_iff.1 hu).1; rwa [ints_len, lst_len] at this
      have := HX.out.ao (by omega)
      rw [ha] at this
      obtain rfl := Option.some.inj this
      simp [Addr.add]; split <;> rfl
    rw [← this]
    exact World.cell?_of_block (hO2.block _ hlt (fun hal => by
      have hj : j < n := by have := (List.getElem?_eq_some_iff.1 hu).1; rwa [ints_len, lst_len] at this
      exact HXP.out (by omega) (hab ▸ HA.out _ hal))), HX.out.cells.one⟩
  have CN := Lib.hid (fun (w' : World) (hb : Below w2.heap.size w2 w') => clone_ints (c := c) (CX.out.belowS hb) (show n ≤ 1000000 by omega))
  have HN2 := Lib.hid (And.intro hN2 (And.intro hA2 hO2))
  have HL := Lib.hid (And.intro hl hL)
  have KK : Hid (∀ w' : World, Below w2.heap.size w2 w' → w'.cell? ⟨q'.G x y, 2, none⟩ = some (.map (some (q'.F x y)))) := Lib.hid (fun w' hb => has_cell (below_ats hb HL.out.2.c) 2)
  clear hN2 hA2 hO2 hl hL CD CL CX
  go_wp2_with fail
  clear hlk c1
  have z0 : Below w2.heap.size w2 w2 := Below.refl _ _
  have m0 := KK.out w2 z0
  clear c2
  go_region_held3 (fun w' => w'.cell? ⟨q'.G x y, 2, none⟩ = some (.map (some (q'.F x y)))) (go_keep)
    (first
      | (go_at_call 30; refine (CN.out _ (by first | exact z0 | exact z0.trans (below_drew _ _) | exact z0.trans (below_draw _ _ _))).mono ?_; rintro e w3 ⟨ao3, cap3, rfl, ho3, hf3, hb3⟩; have z3 : Below w2.heap.size w2 w3 := (by first | exact hb3 | exact (below_drew _ _).trans hb3 | exact (below_draw _ _ _).trans hb3); have m3 := KK.out w3 z3; obtain ⟨ff, hm, hff⟩ := HL.out.2.m; obtain ⟨w4, hst, hm4, hg4⟩ := (hm.belowS z3).store intKeyed Try.underlying90 (isK_int (a := i) Try.underlying3 (WalkArith.wf_i64 (by omega))) (.slice ao3 n cap3); have g3 := below_ats z3 HL.out.2.c; have m4 : w4.cell? ⟨q'.G x y, 2, none⟩ = some (.map (some (q'.F x y))) := has_cell ((hg4.block _ (lt_of_block g3) (fun e => hm.ne HL.out.2.c (Option.some.inj e).symm)).trans g3) 2))
  have hN3 := HN2.out.1.belowS z3
  have ho3' : OL w3 3 1 (.slice ao3 n cap3) (lst n X).length (ints (lst n X)) := by rw [lst_len]; exact ho3
  have hset := hN3.setFate HL.out.1 ho3' hff hm4 (fun k hk hne => hg4.block k hk (fun e => hne (Option.some.inj e)))
  rw [Net.setL_setL] at hset
  have HS := Lib.hid hset
  have HG := Lib.hid (And.intro hf3 (And.intro z3 hg4))
  have HFA := Lib.hid (HN2.out.2.1 _ (NAl.F x y (by rw [HL.out.1]; simp) rfl))
  clear hN3 ho3' hset hm hff hm4 hg4 ho3 hf3 z3 hb3 m0 m3 m4 g3 hst z0
  go_wp2
  go_ret
  have hz := HN2.out.2.2.size
  refine ⟨rfl, ⟨_, HS.out.1.same (fun _ _ => rfl), fun k hk => ?_⟩, ?_⟩
  · rcases HS.out.2 k hk with h1 | h1
    · exact (HN2.out.2.1 k h1).imp (HA.out k) id
    · exact .inr (Nat.le_trans hz (HG.out.1 k h1))
  · refine ((HN2.out.2.2.mono HA.out).trans (Only.of_below HG.out.2.1 (S := P) fun k h1 h2 => by omega) fun _ _ h => h).grown HG.out.2.2 (fun k hk => ?_)
    obtain rfl := Option.some.inj hk
    exact HFA.imp (HA.out _) id
end
end Go.Proofs.Ytkhiepjlfbjgdaa

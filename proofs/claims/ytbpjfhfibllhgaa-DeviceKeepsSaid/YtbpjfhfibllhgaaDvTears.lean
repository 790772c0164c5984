/- The statement DeviceTears: the walk. Conditions: the bytes can be read, the numbers are in their kinds. -/
import Derived.Test.YtbpjfhfibllhgaaDvOrders
namespace Go.Proofs.Ytbpjfhfibllhgaa
open Go.RowKit
open Go.Proofs.Ytbpjfhfibllhgaa.Dv

/-- Behind i Programs of one byte. -/
structure Te (i : Nat) (s : Dev) : Prop where
  o : Ord 5 i i 0 s
  d : s.durable = Dv.blank 1 5
  l : s.pending.length = i
  p : ∀ j, j < i → ∃ l, s.pending.getD j ⟨0, 0, none⟩ = ⟨0, j, some l⟩
section
variable {i : Nat} {s : Dev}
theorem Te.init : Te 0 (Dev.init 1 5) := ⟨Ord.init (by omega), rfl, rfl, fun j hj => by omega⟩
theorem Te.prog (h : Te i s) (g : Gd 1 5 s) (hi : i < 5) (l : List Int) : Te (i + 1) (s.prog 0 i l) :=
  ⟨h.o.prog g hi l, h.d, by show (s.pending ++ _).length = _; rw [List.length_append, h.l]; rfl, fun j hj => by
    show ∃ l', (s.pending ++ [(⟨0, i, some (fill l)⟩ : Deed)]).getD j ⟨0, 0, none⟩ = ⟨0, j, some l'⟩
    by_cases e : j = i
    · refine ⟨fill l, ?_⟩; rw [e, ← h.l]; simp [List.getD]
    · obtain ⟨l', hl'⟩ := h.p j (by omega)
      refine ⟨l', ?_⟩
      rw [← hl']
      simp [List.getD, List.getElem?_append_left (show j < s.pending.length by rw [h.l]; omega)]⟩
/-- Programs that get nothing leave the blocks. -/
theorem crash_zero (K : Nat → Int) : ∀ (os : List Deed) (st : List Blk × List Bool) (j : Nat), (∀ m, m < os.length → K (j + m) ≤ 0 ∧ ∃ b k l, os.getD m ⟨0, 0, none⟩ = ⟨b, k, some l⟩) → crashN K st j os = st
  | [], _, _, _ => rfl
  | o :: os, st, j, h => by
    obtain ⟨h0, b, k, l, ho⟩ := h 0 (by simp)
    have ho' : o = ⟨b, k, some l⟩ := by simpa [List.getD] using ho
    rw [crashN]
    have e : crash1 K st j o = st := by
      unfold crash1
      split
      · rfl
      · rw [ho']
        show (if 0 < K j then _ else st) = st
        rw [if_neg (by simp at h0; omega)]
    rw [e]
    exact crash_zero K os st (j + 1) (fun m hm => by
      have := h (m + 1) (by simp; omega)
      rw [show j + (m + 1) = j + 1 + m by omega] at this
      simpa [List.getD] using this)
/-- The pages behind the crash. -/
def tearPg (n : Nat) (x : List Int) : List Page := (List.range 5).map fun i => if i < n then some (fill []) else if i = n then some x else none
theorem mend_set (n : Nat) (hn : n < 4) (x : List Int) : mend ((List.replicate 5 (none : Page)).set n (some x)) = tearPg n x := by
  match n, hn with
  | 0, _ => simp [mend, tearPg, List.range, List.range.loop, List.replicate]
  | 1, _ => simp [mend, tearPg, List.range, List.range.loop, List.replicate]
  | 2, _ => simp [mend, tearPg, List.range, List.range.loop, List.replicate]
  | 3, _ => simp [mend, tearPg, List.range, List.range.loop, List.replicate]
theorem tear_crash {n : Nat} (h : Te n s) (hn : n < 4) (l : List Int) (K : Nat → Int) (hK : ∀ j, j < n → K j = 0) :
    ((s.prog 0 n l).crash K).blk 0 = if 0 < K n then ⟨tearPg n (fill ((fill l).take (min (K n) 512).toNat)), 0⟩ else ⟨List.replicate 5 none, 0⟩ := by
  have hp : (s.prog 0 n l).pending = s.pending ++ [⟨0, n, some (fill l)⟩] := rfl
  have hd : (s.prog 0 n l).durable = Dv.blank 1 5 := h.d
  unfold Dev.crash Dev.blk
  rw [hp, hd, crashN_snoc, h.l, Nat.zero_add, crash_zero K s.pending _ 0 (fun m hm => by
    rw [h.l] at hm
    obtain ⟨l', hl'⟩ := h.p m hm
    exact ⟨by rw [Nat.zero_add, hK m hm]; omega, 0, m, l', hl'⟩)]
  by_cases hk : 0 < K n
  · rw [if_pos hk]
    have e : crash1 K (Dv.blank 1 5, List.replicate (Dv.blank 1 5).length false) n ⟨0, n, some (fill l)⟩ = ([⟨(List.replicate 5 (none : Page)).set n (some (fill ((fill l).take (min (K n) 512).toNat))), 0⟩], [false]) := by
      unfold crash1
      rw [if_neg (by show ¬ (false = true); decide)]
      show (if 0 < K n then _ else _) = _
      rw [if_pos hk]; rfl
    rw [e]
    show mendB _ = _
    unfold mendB
    rw [mend_set n hn]
  · rw [if_neg hk]
    have e : crash1 K (Dv.blank 1 5, List.replicate (Dv.blank 1 5).length false) n ⟨0, n, some (fill l)⟩ = (Dv.blank 1 5, List.replicate (Dv.blank 1 5).length false) := by
      unfold crash1
      rw [if_neg (by show ¬ (false = true); decide)]
      show (if 0 < K n then _ else _) = _
      rw [if_neg hk]
    rw [e]
    rfl
theorem tear_next {n : Nat} (hn : n < 4) (x : List Int) : pgN ⟨tearPg n x, 0⟩ = n + 1 := by
  unfold pgN tearPg
  match n, hn with
  | 0, _ => rfl
  | 1, _ => rfl
  | 2, _ => rfl
  | 3, _ => rfl
theorem tear_get {n i : Nat} (hi : i < 5) (x : List Int) : (tearPg n x).getD i none = if i < n then some (fill []) else if i = n then some x else none := by
  unfold tearPg
  simp [List.getD, hi]
theorem fill_take {l : List Int} {M i : Nat} (hi : i < 512) : (fill (fill ((fill l).take M))).getD i 0 = if i < M then l.getD i 255 else 255 := by
  rw [fill_get _ _ hi]
  have e : (fill ((fill l).take M)).getD i 255 = (fill ((fill l).take M)).getD i 0 := by
    have := fill_len ((fill l).take M)
    simp [List.getD, show i < (fill ((fill l).take M)).length by omega]
  rw [e, fill_get _ _ hi]
  by_cases h : i < M
  · rw [if_pos h]
    have e2 : ((fill l).take M).getD i 255 = (fill l).getD i 0 := by
      have := fill_len l
      simp [List.getD, h, show i < (fill l).length by omega]
    rw [e2, fill_get _ _ hi]
  · rw [if_neg h]
    have : ((fill l).take M)[i]? = none := List.getElem?_eq_none (by rw [List.length_take]; omega)
    simp [List.getD, this]
end
def bl (n : Nat) (X : Nat → Int) : List Int := (List.range n).map X
theorem bl_len (n : Nat) (X : Nat → Int) : (bl n X).length = n := by simp [bl]
theorem bl_get {n : Nat} {X : Nat → Int} {i : Nat} (d : Int) : (bl n X).getD i d = if i < n then X i else d := by
  unfold bl
  by_cases h : i < n
  · simp [List.getD, h]
  · simp [List.getD, h]
theorem IsBytes.src {w w' : World} {ao : Option Addr} {n b off c : Nat} {X : Nat → Int} (h : IsBytes w ao n b off X) (hh : 0 < n → w'.heap[b]? = w.heap[b]?) : BySrc w' (.slice ao (bl n X).length c) (bl n X) :=
  ⟨⟨ao, c, rfl⟩, fun ao' n' c' hv h0 => by
    rw [bl_len] at h0
    simp only [Value.slice.injEq] at hv
    obtain ⟨rfl, _, _⟩ := hv
    rw [h.ao h0]
    refine ⟨_, rfl, fun j x hx => ?_⟩
    have hj : j < n := by have := (List.getElem?_eq_some_iff.1 hx).1; rw [bys_len, bl_len] at this; exact this
    rw [Addr.add_lit]
    show w'.cell? ⟨b, off + j, none⟩ = some x
    rw [World.cell?_of_block (w := w) (a := ⟨b, off + j, none⟩) (hh h0), h.c j hj, ← hx]
    simp [bys, bl, hj]⟩

theorem infoInt : (Try.prog.info? 3).map (fun i => (i.zero, i.size, i.bytes)) = some (some (.int .i64 0), 1, 8) := by kernel_rfl
/-- append of one int to a list of the call's own. -/
theorem app_int {w : World} {g off cap k : Nat} {L : List Int} (h : OL w 3 1 (.slice (some ⟨g, off, none⟩) k cap) k (ints L)) (hk : k ≤ 1000) (x : Int) :
    ∃ g' off' cap' w', (Builtin.append_ #[29, 29] 29 #[.slice (some ⟨g, off, none⟩) k cap, .slice (some ⟨w.heap.size, 0, none⟩) 1 1]).run Try.prog (w.alloc (.cells #[.int .i64 x] 3)) = .ok (.slice (some ⟨g', off', none⟩) (k + 1) cap') w' ∧
      OL w' 3 1 (.slice (some ⟨g', off', none⟩) (k + 1) cap') (k + 1) (ints (L ++ [x])) ∧ (g' = g ∨ g' = w.heap.size + 1) ∧ (w.alloc (.cells #[.int .i64 x] 3)).grownBy w' (some g) := by
  obtain ⟨i, hi, iz, is, ib⟩ := info_parts infoInt
  have hsrc : Src Try.prog 1 29 (.slice (some ⟨w.heap.size, 0, none⟩) 1 1) 1 [.int .i64 x] (w.alloc (.cells #[.int .i64 x] 3)) :=
    (OL.of_block (cs := [.int .i64 x]) (heap_alloc_new w _) rfl (by simp [maxLen])).src Try.underlying29 (fun u hu => by simp at hu; subst hu; rfl)
  obtain ⟨v', w', hap, ho, hgr, hown⟩ := (h.alloc (.cells #[.int .i64 x] 3)).append (P := Try.prog) 29 29 29 i _ 8 Try.underlying29 hi iz is ib rfl (by omega) hsrc (by unfold maxLen; omega) (by omega)
  obtain ⟨g', off', cap', rfl, _⟩ := ho.form (by omega)
  refine ⟨g', off', cap', w', hap, ?_, ?_, hgr⟩
  · have e : ints (L ++ [x]) = ints L ++ [.int .i64 x] := by simp [ints]
    rw [e]; exact ho
  · rcases hown with h1 | h1
    · exact .inl (by simpa [Value.ownBlock] using h1)
    · exact .inr (by simpa [Value.ownBlock] using h1)
/-- The values of a list of zeros and one number. -/
def zk (n : Nat) (x : Int) (j : Nat) : Int := if j < n then 0 else x
theorem ol_ints {w : World} {g off n cap : Nat} {L : List Int} (h : OL w 3 1 (.slice (some ⟨g, off, none⟩) n cap) n (ints L)) (hb : ∀ j, j < n → -9223372036854775808 ≤ L.getD j 0 ∧ L.getD j 0 ≤ 9223372036854775807) : IsInts w (some ⟨g, off, none⟩) n g off (fun j => L.getD j 0) :=
  ⟨fun _ => rfl, fun _ => h.lt g rfl, fun i hi => by
    have hl : L.length = n := by have := h.1; rw [ints_len] at this; omega
    rw [h.cell i (by omega), ints_get L i (by omega)], hb⟩
section
variable {w w' : World} {P Q : Nat → Prop} {b n p : Nat} {s : Dev}
theorem DS.bound (h : DS w P b n p s) : DS w (fun k => P k ∧ k < w.heap.size) b n p s := by
  obtain ⟨vd, ds, vn, ns, vp, ps, hD, gd, hA⟩ := h
  exact ⟨vd, ds, vn, ns, vp, ps, hD, gd, fun k hk => ⟨hA k hk, hD.al_lt k hk⟩⟩
/-- The device keeps through an append to a list apart from it. -/
theorem ds_grown {g : Nat} (h : DS w P b n p s) (hg : w.grownBy w' (some g)) (hgt : ∃ cur, w.heap[g]? = some (.cells cur 3 (0, 0))) (hP : ¬ P g) : DS w' P b n p s := by
  obtain ⟨vd, ds, vn, ns, vp, ps, hD, gd, hA⟩ := h
  obtain ⟨cur, hc⟩ := hgt
  exact ⟨vd, ds, vn, ns, vp, ps, hD.same (fun _ _ _ e => hg.block _ (lt_of_block e) (fun x => type_ne e hc (by decide) (Option.some.inj x))) (fun k hk => hg.block k (hD.al_lt k hk) (fun x => by
    have hk' := hA k hk
    rw [Option.some.inj x] at hk'
    exact hP hk')), gd, hA⟩
theorem t_prog {ao : Option Addr} {cap i : Nat} {l : List Int} (h : DS w P b 1 5 s) (ht : Te i s) (hi : i < 5) (hl : l.length ≤ 512) (hd : ∀ w', Stay P w w' → BySrc w' (.slice ao l.length cap) l) :
    Calls Try.prog 13 #[.pointer (some ⟨b, 0, none⟩), .int .i64 0, .int .i64 i, .slice ao l.length cap] w (DPost P b 1 5 .nilIface (s.prog 0 i l) w) := by
  have hh := d_prog 0 i h (by have := ht.l; omega) hd
  have hp := pow_free ht.o.o ht.o.pl
  have hn := ht.o.next h.gd
  have hpg : pageE 1 5 0 i = 0 := if_pos (by omega)
  have hE : progE 1 5 s 0 i l.length = 0 := by unfold progE; rw [if_neg (by rw [hpg]; decide), if_neg (by omega), if_neg (by rw [show (0 : Int).toNat = 0 from rfl, hn]; simp), if_neg (by rw [hp]; simp)]
  rw [hE, show progS 1 5 s 0 i l = s.prog 0 i l by unfold progS; rw [hE, if_neg (by decide), if_pos rfl, hp]; simp] at hh
  exact hh
theorem DPost.mono {v : Value} {s' : Dev} {e : Ending} (h : DPost P b n p v s' w e w') (hQ : ∀ k, P k ∨ w.heap.size ≤ k → Q k) (hPQ : ∀ k, P k → Q k) : e = .returned v ∧ DS w' Q b n p s' ∧ Stay Q w w' := ⟨h.1, h.2.1.mono hQ, h.2.2.mono hPQ⟩
end
/-- The blocks from lo on but one. -/
def But (lo g k : Nat) : Prop := lo ≤ k ∧ k ≠ g
set_option maxRecDepth 100000 in
set_option maxHeartbeats 1600000 in
theorem tears_walk {ao : Option Addr} {len c bk off : Nat} {X : Nat → Int} (keep x : Int) (w : World) (hk : -9223372036854775808 ≤ keep ∧ keep ≤ 9223372036854775807) (hx : 0 ≤ x ∧ x ≤ 255) (hX : IsBytes w ao len bk off X) (hl : len ≤ 9223372036854775807) :
    Calls Try.prog 3 #[.slice ao len c, .int .i64 keep, .int .u8 x] w (AwP w) := by
  have HX := Lib.hid hX
  clear hX
  by_cases h512 : 512 < len
  · go_enter Try.func3, Try.ntmps3
    go_wp2_with fail
    refine (awake_any _).mono ?_
    rintro e w1 ⟨rfl, hB1⟩
    go_wp2_with fail
    refine (awake_any _).mono ?_
    rintro e w2 ⟨rfl, hb2⟩
    have hB2 := hB1.trans (hb2.mono hB1.size)
    go_wp2
    go_ret
    exact ⟨rfl, hB2⟩
  · have hd : decide ((512 : Int) < (len : Int)) = false := by simp; omega
    obtain ⟨n, hn⟩ : ∃ n : Nat, x % 4 = (n : Int) := ⟨(x % 4).toNat, by omega⟩
    have hn4 : n < 4 := by omega
    have HN := Lib.hid hn
    clear hn
    have e1 := HN.out
    go_enter Try.func3, Try.ntmps3
    go_wp2_with fail
    refine (awake_any _).mono ?_
    rintro e w2 ⟨rfl, hB2⟩
    go_wp2_with fail
    refine (d_new w2 (n := 1) (p := 5) (by omega) (by omega) (by omega) (by omega)).mono ?_
    rintro e w3 ⟨b, rfl, hD, hb⟩
    rw [errV0]
    have hs2 := hB2.size
    have hB3 := hB2.trans (hb.mono hs2)
    have hs3 := hb.size
    have HD : Hid (DS (w3.alloc (.cells #[] 3)) (But w2.heap.size w3.heap.size) b 1 5 (Dev.init 1 5)) := Lib.hid ((hD.bound.belowS (by go_grown)).mono (fun k hk => ⟨hk.1, by have := hk.2; omega⟩))
    have HO : Hid (OL (w3.alloc (.cells #[] 3)) 3 1 (.slice (some ⟨w3.heap.size, 0, none⟩) 0 0) 0 (ints (List.replicate 0 0))) := Lib.hid (OL.empty 1)
    have hB4 := hB3.alloc hB3.size (.cells #[] 3)
    have hs4 : w3.heap.size < (w3.alloc (.cells #[] 3)).heap.size := by simp
    clear hD hb hB2
    go_wp2_with fail
    clear hB3 e1
    generalize w3.alloc (.cells #[] 3) = w4 at HD HO hB4 hs4 ⊢
    generalize w3.heap.size = g0 at HD HO hs3 hs4 ⊢
    go_loopw [10, 11] (fun lv i wr => ∃ (j g off cap : Nat) (s : Dev), j ≤ n ∧ i = .int .i64 j ∧ lv = .slice (some ⟨g, off, none⟩) j cap ∧ OL wr 3 1 (.slice (some ⟨g, off, none⟩) j cap) j (ints (List.replicate j 0)) ∧ w2.heap.size ≤ g ∧ DS wr (But w2.heap.size g) b 1 5 s ∧ Te j s ∧ Below w.heap.size w wr ∧ w2.heap.size ≤ wr.heap.size) (fun _ i _ => n - (intOf i).toNat)
    case atStart => exact ⟨0, g0, 0, 0, _, Nat.zero_le _, rfl, rfl, HO.out, hs3, HD.out, Te.init, hB4, by omega⟩
    case round =>
      clear HD HO hB4 hs3 hs4
      obtain ⟨j, g, off, cap, s, hj, rfl, rfl, hO, hg, hD, hT, hB, hs⟩ := hrel
      by_cases hlt : j < n
      · have hgt := hO.elem g rfl
        have C1 := Lib.hid (fun (u : Int) => t_prog (i := j) (cap := 1) (l := [u]) (ao := some ⟨wr.heap.size, 0, none⟩) (w := wr.alloc (.cells #[.int .u8 u] 5)) (hD.belowS (by go_grown)) hT (by omega) (by simp) (fun w' hs' => bysrc_own (((hs'.by_) _ _ _ (heap_alloc_new wr (.cells #[.int .u8 u] 5))).trans (heap_alloc_new wr _))))
        have HO := Lib.hid hO
        have HT := Lib.hid (And.intro hT hD.gd)
        have HG := Lib.hid hgt
        clear hO hD hT hgt
        go_wp2_with fail
        refine (C1.out _).mono ?_
        rintro e w5 ⟨rfl, hD5, hs5⟩
        have hglt := HO.out.lt g rfl
        have hsz := hs5.on.size
        rw [World.size_alloc] at hsz
        have hB5 : Below w.heap.size w w5 := (hB.alloc hB.size _).trans (((hs5.mono (Q := (w2.heap.size ≤ ·)) (fun k hk => hk.1)).below (by simp; omega)).mono hs2)
        have HD5 := Lib.hid (hD5.mono (Q := But w2.heap.size g) (fun k hk => hk.elim id (fun h => ⟨by simp at h; omega, by simp at h; omega⟩)))
        have hO5 := HO.out.heap (w' := w5) (fun k hk => by
          simp [Value.ownBlock] at hk; subst hk
          exact (hs5.on.block _ (by simp; omega) (fun h => h.2 rfl)).trans (Below.heap_alloc wr _ _ hglt))
        have hgt5 : ∃ cur, w5.heap[g]? = some (.cells cur 3 (0, 0)) := hO5.elem g rfl
        obtain ⟨g', off', cap', w6, hap, hO6, hg6, hgr⟩ := app_int hO5 (by omega) 0
        have hs55 := hB5.size
        have hsl5 : w2.heap.size ≤ w5.heap.size := by omega
        have hD6 := (ds_grown ((HD5.out.bound).belowS (w' := w5.alloc (.cells #[.int .i64 0] 3)) (by go_grown)) hgr (by obtain ⟨cur, hc⟩ := hgt5; exact ⟨cur, has_alloc hc _⟩) (fun h => h.1.2 rfl)).mono (Q := But w2.heap.size g') (fun k hk => ⟨hk.1.1, by rcases hg6 with h | h; rw [h]; exact hk.1.2; have := hk.2; omega⟩)
        have HD6 := Lib.hid hD6
        have HO6 : Hid (OL w6 3 1 (.slice (some ⟨g', off', none⟩) (j + 1) cap') (j + 1) (ints (List.replicate (j + 1) 0))) := Lib.hid (by rw [List.replicate_succ']; exact hO6)
        have hB6 : Below w.heap.size w w6 := (hB5.alloc hB5.size _).grown hgr (by simp; omega) (fun k hk => by have := Option.some.inj hk; omega)
        have hg6' : w2.heap.size ≤ g' := by rcases hg6 with h | h <;> omega
        have hs6 : w2.heap.size ≤ w6.heap.size := by have := hgr.size; simp at this; omega
        have HAP := Lib.hid hap
        clear C1 hD5 hs5 HD5 hO5 hgt5 hO6 hg6 hgr hD6 hap HO HG hB
        go_wp2_with (refine wpList_append_run (v := .slice (some ⟨g, off, none⟩) j cap) (xv := .slice (some ⟨w5.heap.size, 0, none⟩) 1 1) rfl (.tmp 49) (.tmp 50) _ _ rfl (by rfl) (by rfl) HAP.out ?_)
        go_roundw
        case rel => exact ⟨j + 1, g', off', cap', _, by omega, by go_num, rfl, HO6.out, hg6', HD6.out, HT.out.1.prog HT.out.2 (by omega) _, hB6, hs6⟩
        case measure => simp [intOf]; omega
      · obtain rfl : j = n := by omega
        have hlB : (bl len X).length = len := bl_len len X
        have CP := Lib.hid (t_prog (i := j) (cap := c) (l := bl len X) (ao := ao) hD hT (by omega) (by rw [hlB]; omega) (fun w' hs' => HX.out.src (fun h0 => (hB.trans (((hs'.mono (Q := (w2.heap.size ≤ ·)) (fun k hk => hk.1)).below hs).mono hs2)).block bk (HX.out.lt h0))))
        rw [hlB] at CP
        have HO := Lib.hid hO
        have HT := Lib.hid hT
        have hlI : (len : Int) ≤ 512 := by omega
        clear hO hT hD hlt hj
        go_wp2_with fail
        refine CP.out.mono ?_
        rintro e w5 ⟨rfl, hD5, hs5⟩
        have hglt := HO.out.lt g rfl
        have hsz := hs5.on.size
        have hB5 : Below w.heap.size w w5 := hB.trans (((hs5.mono (Q := (w2.heap.size ≤ ·)) (fun k hk => hk.1)).below hs).mono hs2)
        have HD5 := Lib.hid (hD5.mono (Q := But w2.heap.size g) (fun k hk => hk.elim id (fun h => ⟨by omega, by omega⟩)))
        have hO5 := HO.out.heap (w' := w5) (fun k hk => by
          simp [Value.ownBlock] at hk; subst hk
          exact hs5.on.block _ hglt (fun h => h.2 rfl))
        have hgt5 : ∃ cur, w5.heap[g]? = some (.cells cur 3 (0, 0)) := hO5.elem g rfl
        obtain ⟨g', off', cap', w6, hap, hO6, hg6, hgr⟩ := app_int hO5 (by omega) keep
        have hD6 := (ds_grown ((HD5.out.bound).belowS (w' := w5.alloc (.cells #[.int .i64 keep] 3)) (by go_grown)) hgr (by obtain ⟨cur, hc⟩ := hgt5; exact ⟨cur, has_alloc hc _⟩) (fun h => h.1.2 rfl)).mono (Q := (w2.heap.size ≤ ·)) (fun k hk => hk.1.1)
        have hKv : ∀ m, (List.replicate j 0 ++ [keep]).getD m 0 = if m < j then 0 else if m = j then keep else 0 := fun m => by
          by_cases h1 : m < j
          · rw [if_pos h1]; simp [List.getD, List.getElem?_append_left, h1]
          · rw [if_neg h1]
            by_cases h2 : m = j
            · subst h2; simp [List.getD]
            · rw [if_neg h2]; rw [List.getD, List.getElem?_eq_none (by simp; omega)]; rfl
        have hI := ol_ints hO6 (fun m _ => by rw [hKv]; split; omega; split; exact hk; omega)
        have hB6 : Below w.heap.size w w6 := (hB5.alloc hB5.size _).grown hgr (by have := hB5.size; simp; omega) (fun k hk => by have := Option.some.inj hk; omega)
        have hs6 : w2.heap.size ≤ w6.heap.size := by have := hgr.size; simp at this; omega
        have CC := Lib.hid (d_crash (ck := cap') hD6 hI (by omega))
        have HAP := Lib.hid hap
        have HTC := Lib.hid (tear_crash HT.out hn4 (bl len X) (kf (j + 1) (fun m => (List.replicate j 0 ++ [keep]).getD m 0)) (fun m hm => by unfold kf; rw [if_pos (by omega)]; show (List.replicate j 0 ++ [keep]).getD m 0 = 0; rw [hKv, if_pos hm]))
        have HKn : Hid (kf (j + 1) (fun m => (List.replicate j 0 ++ [keep]).getD m 0) j = keep) := Lib.hid (by unfold kf; rw [if_pos (by omega)]; show (List.replicate j 0 ++ [keep]).getD j 0 = keep; rw [hKv, if_neg (by omega), if_pos rfl])
        generalize (s.prog 0 j (bl len X)).crash (kf (j + 1) (fun m => (List.replicate j 0 ++ [keep]).getD m 0)) = S at CC HTC
        rw [HKn.out] at HTC
        clear CP hD5 hs5 HD5 hO5 hgt5 hO6 hg6 hgr hD6 hap HO hB hKv hI hB5 hsz HKn
        go_wp2_with (refine wpList_append_run (v := .slice (some ⟨g, off, none⟩) j cap) (xv := .slice (some ⟨w5.heap.size, 0, none⟩) 1 1) rfl (.tmp 58) (.tmp 60) _ _ rfl (by rfl) (by rfl) HAP.out ?_)
        refine CC.out.mono ?_
        rintro e w7 ⟨rfl, hD7, hs7⟩
        have hB7 : Below w.heap.size w w7 := hB6.trans ((hs7.below hs6).mono hs2)
        have HD7 := Lib.hid hD7
        have CN := Lib.hid (d_next 0 hD7)
        have hnx : ∀ v, pgN (S.blk 0) = v → nextI 1 S 0 = (v : Int) := fun v hv => by unfold nextI; rw [if_pos (by omega), show (0 : Int).toNat = 0 from rfl, hv]
        rw [show nextE 1 0 = 0 from rfl] at CN
        have HNX := Lib.hid hnx
        clear CC HAP hD7 hs7 hB6 hnx
        as_aux_lemma =>
          by_cases hkp : 0 < keep
          · obtain ⟨M, hM⟩ : ∃ M : Nat, (min keep 512).toNat = M := ⟨_, rfl⟩
            have hMi : ∀ i : Nat, i < 512 → (i < M ↔ (i : Int) < keep) := fun i hi => by omega
            have hblk : S.blk 0 = ⟨tearPg j (fill ((fill (bl len X)).take M)), 0⟩ := by rw [HTC.out, if_pos hkp, hM]
            rw [HNX.out (j + 1) (by rw [hblk]; exact tear_next hn4 _)] at CN
            have hpg : ∀ i, i < 5 → look ((S.blk 0).pages.getD i none) = look (if i < j then some (fill []) else if i = j then some (fill ((fill (bl len X)).take M)) else none) := fun i hi => by
              rw [hblk]; show look ((tearPg j _).getD i none) = _; rw [tear_get hi]
            have HMI := Lib.hid hMi
            have HPG := Lib.hid hpg
            clear hM hMi hblk hpg HTC HNX
            go_wp2_with fail
            refine CN.out.mono ?_
            rintro e w8 ⟨rfl, hb8⟩
            rw [errV0]
            have hB8 := hB7.trans (hb8.mono hB7.size)
            have hD8 := HD7.out.belowS hb8
            have CR := Lib.hid (d_read hD8 (i := 0) (k := j) (by omega) (by omega))
            rw [HPG.out j (by omega), if_neg (by omega), if_pos rfl] at CR
            have HD8 := Lib.hid hD8
            clear CN hD8 hb8 hB7 HD7
            go_wp2_with fail
            refine CR.out.mono ?_
            rintro e w9 ⟨g9, rfl, hg9, hlo9, hb9⟩
            rw [errV0]
            have hB9 := hB8.trans (hb9.mono hB8.size)
            have HD9 := Lib.hid (HD8.out.belowS hb9)
            have HC9 : Hid (∀ i, i < 512 → w9.cell? ⟨g9, i, none⟩ = some (.int .u8 (if (i : Int) < keep ∧ i < len then X i else 255))) := Lib.hid (fun i hi => by
              have hlen9 : (look (some (fill ((fill (bl len X)).take M)))).length = 512 := look_len _
              rw [bys_cell hg9 (i := i) (by omega)]
              show some (Value.int .u8 ((fill (fill ((fill (bl len X)).take M))).getD i 0)) = _
              rw [fill_take hi, bl_get]
              by_cases h1 : (i : Int) < keep
              · rw [if_pos ((HMI.out i hi).2 h1)]
                by_cases h2 : i < len
                · rw [if_pos h2, if_pos ⟨h1, h2⟩]
                · rw [if_neg h2, if_neg (fun h => h2 h.2)]
              · rw [if_neg (fun h => h1 ((HMI.out i hi).1 h)), if_neg (fun h => h1 h.1)])
            have hlo : w.heap.size ≤ w9.heap.size := hB9.size
            clear CR hg9 hb9 hB8 HD8 hlo9
            go_wp2_with fail
            go_loopw [16, 17] (fun i _ wr => ∃ i' : Nat, i' ≤ 512 ∧ i = .int .i64 i' ∧ wr = w9) (fun i _ _ => 512 - (intOf i).toNat)
            case atStart => exact ⟨0, by omega, rfl, rfl⟩
            case round =>
              obtain ⟨i', hi', rfl, rfl⟩ := hrel
              by_cases hlt9 : i' < 512
              · have c9 := HC9.out i' hlt9
                have hiI : (i' : Int) < 512 := by omega
                by_cases h1 : (i' : Int) < keep
                · by_cases h2 : i' < len
                  · obtain rfl := HX.out.ao (by omega)
                    have cx := (HX.out.below hB9 (Nat.le_refl _)).c i' h2
                    rw [if_pos ⟨h1, h2⟩] at c9
                    generalize X i' = xi at c9 cx
                    go_wp2
                    go_roundw
                    case rel => exact ⟨i' + 1, by omega, by go_num, by first | rfl | trivial⟩
                    case measure => simp [intOf]; omega
                  · rw [if_neg (fun h => h2 h.2)] at c9
                    go_wp2
                    go_roundw
                    case rel => exact ⟨i' + 1, by omega, by go_num, by first | rfl | trivial⟩
                    case measure => simp [intOf]; omega
                · rw [if_neg (fun h => h1 h.1)] at c9
                  go_wp2
                  go_roundw
                  case rel => exact ⟨i' + 1, by omega, by go_num, by first | rfl | trivial⟩
                  case measure => simp [intOf]; omega
              · obtain rfl : i' = 512 := by omega
                have CR := Lib.hid (d_read HD9.out (i := 0) (k := 0) (by omega) (by omega))
                rw [HPG.out 0 (by omega)] at CR
                by_cases hj0 : j = 0
                · have hd0 : ((j : Int) == 0) = true := by rw [beq_iff_eq]; omega
                  clear hj0
                  go_wp2_with fail
                  refine CR.out.mono ?_
                  rintro e w10 ⟨g10, rfl, _, _, hb10⟩
                  rw [errV0]
                  have hB10 := hB9.trans (hb10.mono hB9.size)
                  go_wp2
                  go_ret
                  exact ⟨rfl, hB10⟩
                · have hd0 : ((j : Int) == 0) = false := by rw [beq_eq_false_iff_ne]; omega
                  rw [if_pos (by omega)] at CR
                  clear hj0
                  go_wp2_with fail
                  refine CR.out.mono ?_
                  rintro e w10 ⟨g10, rfl, hg10, _, hb10⟩
                  rw [errV0]
                  have c10 := bys_cell hg10 (i := 0) (by rw [look_len]; omega)
                  rw [show (look (some (fill []))).getD 0 0 = 255 from by show (fill (fill [])).getD 0 0 = 255; rw [fill_get _ _ (by omega)]; rfl] at c10
                  have hB10 := hB9.trans (hb10.mono hB9.size)
                  clear CR hg10
                  go_wp2
                  go_ret
                  exact ⟨rfl, hB10⟩
          · have hblk : S.blk 0 = ⟨List.replicate 5 none, 0⟩ := by rw [HTC.out, if_neg hkp]
            rw [HNX.out 0 (by rw [hblk]; rfl)] at CN
            have hpg : look ((S.blk 0).pages.getD j none) = fill [] := by rw [hblk]; show look ((List.replicate 5 (none : Page)).getD j none) = _; rw [show (List.replicate 5 (none : Page)).getD j none = none by rw [List.getD, List.getElem?_replicate]; split <;> rfl]; rfl
            have HPG := Lib.hid hpg
            have hkn : keep ≤ 0 := by omega
            clear hblk hpg HTC HNX hkp
            go_wp2_with fail
            refine CN.out.mono ?_
            rintro e w8 ⟨rfl, hb8⟩
            rw [errV0]
            have hB8 := hB7.trans (hb8.mono hB7.size)
            have hD8 := HD7.out.belowS hb8
            have CR := Lib.hid (d_read hD8 (i := 0) (k := j) (by omega) (by omega))
            rw [HPG.out] at CR
            clear CN hD8 hb8 hB7 HD7
            go_wp2_with fail
            refine CR.out.mono ?_
            rintro e w9 ⟨g9, rfl, hg9, hlo9, hb9⟩
            rw [errV0]
            have c9 := bys_cell hg9 (i := 0) (by rw [fill_len]; omega)
            rw [show (fill []).getD 0 0 = 255 from by rw [fill_get _ _ (by omega)]; rfl] at c9
            have hB9 := hB8.trans (hb9.mono hB8.size)
            clear CR hg9
            go_wp2
            go_ret
            exact ⟨rfl, hB9⟩
end Go.Proofs.Ytbpjfhfibllhgaa

/- The statement FairAlone: the walk. Conditions: the two slices can be read, the number is a byte. -/
import Derived.Test.YtdcmkonmojiefaaFqShares
namespace Go.Proofs.Ytdcmkonmojiefaa
open Go.RowKit
open Go.Proofs.Ytdcmkonmojiefaa.Fq

def stCell (X : Nat → Nat → Int) (j : Nat) : Value := .int (stepK (j % 4)) (X (j / 4) (j % 4))
def stCells (X : Nat → Nat → Int) (n : Nat) : List Value := (List.range (n * 4)).map (stCell X)
theorem stCells_len (X : Nat → Nat → Int) (n : Nat) : (stCells X n).length = n * 4 := by simp [stCells]
theorem stCells_get {X : Nat → Nat → Int} {n j : Nat} (h : j < n * 4) : (stCells X n)[j]? = some (stCell X j) := by simp [stCells, h]
theorem IsSteps.src {w : World} {ao : Option Addr} {n b off : Nat} {X : Nat → Nat → Int} (h : IsSteps w ao n b off X) (c : Nat) : Src Try.prog 4 23 (.slice ao n c) n (stCells X n) w := by
  have h1 : ∀ u ∈ stCells X n, u.oneCell' = true := fun u hu => by
    obtain ⟨j, _, rfl⟩ := List.mem_map.1 hu
    rfl
  by_cases h0 : 0 < n
  · obtain rfl := h.ao h0
    refine Src.ofSlice (size := 4) w Try.underlying23 ⟨b, off, none⟩ n c _ (stCells_len X n) (fun j u hu => ?_) h1
    have hj : j < n * 4 := by have := (List.getElem?_eq_some_iff.1 hu).1; rwa [stCells_len] at this
    rw [stCells_get hj] at hu
    have := (h.c (j / 4) (by omega) (j % 4) (by omega)).1
    rw [Addr.add_lit]
    show w.cell? ⟨b, off + j, none⟩ = some u
    rw [show off + j / 4 * 4 + j % 4 = off + j by omega] at this
    rw [this]; exact hu
  · obtain rfl : n = 0 := by omega
    rcases ao with _ | a
    · exact Src.ofNil (size := 4) w Try.underlying23 c
    · exact Src.ofSlice (size := 4) w Try.underlying23 a 0 c _ (by simp [stCells]) (fun j u hu => by simp [stCells] at hu) (fun u hu => by simp [stCells] at hu)
theorem infoStep : (Try.prog.info? 31).map (fun i => (i.zero, i.size, i.bytes)) = some (some (.agg #[.int .u8 0, .int .i64 0, .int .i64 0, .int .i64 0]), 4, 32) := by kernel_rfl
/-- Steps that have been copied can be read. -/
theorem IsSteps.copied {w w' : World} {ao : Option Addr} {n b off : Nat} {X : Nat → Nat → Int} (h : IsSteps w ao n b off X) {g o cap : Nat} (hO : OL w' 31 4 (.slice (some ⟨g, o, none⟩) n cap) n (stCells X n)) : IsSteps w' (some ⟨g, o, none⟩) n g o X :=
  ⟨fun _ => rfl, fun _ => hO.lt g rfl, fun i hi j hj => by
    refine ⟨?_, (h.c i hi j hj).2⟩
    have := hO.cell (i * 4 + j) (by omega)
    rw [stCells_get (by omega)] at this
    rw [Nat.add_assoc, this]
    unfold stCell
    rw [show (i * 4 + j) % 4 = j by omega, show (i * 4 + j) / 4 = i by omega]⟩
theorem IsSteps.setT {w : World} {n g o : Nat} {X : Nat → Nat → Int} (h : IsSteps w (some ⟨g, o, none⟩) n g o X) {k : Nat} (hk : k < n) (T : Nat) (hT : (T : Int) ≤ 255) :
    IsSteps (w.setCell ⟨g, o + k * 4 + 1, none⟩ (.int .i64 T)) (some ⟨g, o, none⟩) n g o (fun i j => if i = k ∧ j = 1 then (T : Int) else X i j) := by
  refine ⟨fun _ => rfl, fun h0 => by rw [World.size_setCell]; exact h.lt h0, fun i hi j hj => ?_⟩
  obtain ⟨h1, h2⟩ := h.c i hi j hj
  show _ = some (Value.int (stepK j) (if i = k ∧ j = 1 then (T : Int) else X i j)) ∧ (Lit.int (stepK j) (if i = k ∧ j = 1 then (T : Int) else X i j)).wf = true
  by_cases e : i = k ∧ j = 1
  · rw [if_pos e]
    obtain ⟨rfl, rfl⟩ := e
    refine ⟨World.cell?_setCell_same _ _ _ h1, ?_⟩
    unfold Lit.wf
    simp only [Bool.and_eq_true, decide_eq_true_eq]
    exact ⟨by show (-9223372036854775808 : Int) ≤ _; omega, by show _ ≤ (9223372036854775807 : Int); omega⟩
  · rw [if_neg e]
    refine ⟨?_, h2⟩
    rw [World.cell?_setCell_other _ _ _ _ (fun hh => by
      have e1 : o + k * 4 + 1 = o + i * 4 + j := congrArg Addr.off hh
      omega)]
    exact h1
theorem share_all {X : Nat → Nat → Int} {n T : Nat} : ∀ k, k ≤ n → (∀ i, i < n → X i 1 = T) → share X k T = (List.range k).map fun (i : Nat) => ((i : Int), X i 3)
  | 0, _, _ => by simp [share]
  | k + 1, hk, h => by rw [share_succ, if_pos (h k (by omega)), share_all k (by omega) h, List.range_succ, List.map_append]; rfl
theorem share_none {X : Nat → Nat → Int} {n T t : Nat} (ht : t ≠ T) : ∀ k, k ≤ n → (∀ i, i < n → X i 1 = T) → share X k t = []
  | 0, _, _ => by simp [share]
  | k + 1, hk, h => by rw [share_succ, if_neg (by rw [h k (by omega)]; omega), share_none ht k (by omega) h]
/-- One tenant alone: k entries are gone. -/
structure Al (n T len k : Nat) (X : Nat → Nat → Int) (s : FQ) : Prop where
  m : s.m = n
  t : T < n
  gd : Gd s
  own : s.lst T = ((List.range len).map fun (i : Nat) => ((i : Int), X i 3)).drop k
  other : ∀ t, t < n → t ≠ T → s.lst t = []
theorem Fil.al {Q : Nat → Int} {n len T : Nat} {X : Nat → Nat → Int} {s : FQ} (h : Fil Q n X len s) (hT : T < n) (hX : ∀ i, i < len → X i 1 = T) : Al n T len 0 X s :=
  { m := h.m, t := hT, gd := h.gd, own := by rw [h.ls T hT, share_all len (Nat.le_refl _) hX]; rfl
    other := fun t ht hne => by rw [h.ls t ht, share_none hne len (Nat.le_refl _) hX] }
theorem Al.some {n T len k : Nat} {X : Nat → Nat → Int} {s : FQ} (h : Al n T len k X s) (hk : k < len) : s.lst T ≠ [] := by
  rw [h.own]; intro e; have := congrArg List.length e; simp at this; omega
theorem Al.next {n T len k : Nat} {X : Nat → Nat → Int} {s s1 : FQ} (h : Al n T len k X s) (hk : k < len) (hc : Chs s s1) {en : Ent} {r : List Ent} (hl : s1.lst s1.cur = en :: r) : Al n T len (k + 1) X s1.pop ∧ s1.cur = T ∧ en.1 = k := by
  obtain ⟨hm, hls, _⟩ := chs_lst hc h.gd
  obtain ⟨g1, hstop, _, _, hb⟩ := hc.gd h.gd
  have hcur : s1.cur < n := by have := g1.cur; rw [hm, h.m] at this; exact this
  have hT : s1.cur = T := Classical.byContradiction fun hne => by
    rw [hls, h.other _ hcur hne] at hl; cases hl
  have hown := h.own
  rw [List.drop_eq_getElem_cons (by simpa using hk)] at hown
  have hl' := hl
  rw [hT, hls, hown] at hl'
  obtain ⟨rfl, rfl⟩ := List.cons.inj hl'
  refine ⟨{ m := by rw [pop_m, hm, h.m], t := h.t, gd := g1.pop hstop hb, own := by rw [pop_lst g1 hl, if_pos hT.symm], other := fun t ht hne => by rw [pop_lst g1 hl, if_neg (by rw [hT]; exact hne), hls]; exact h.other t ht hne }, hT, by simp⟩
theorem df_nat {w : World} {B b : Nat} {s : FQ} {t : Nat} (h : QB w B b s) (ht : t < s.m) : Calls Try.prog 17 #[.pointer (some ⟨b, 0, none⟩), .int .i64 t] w fun e w' => e = .returned (.int .i64 (s.df t)) ∧ ∃ n, w' = w.drewN n := by
  have := q_deficit t w h
  rw [show dfI s (t : Int) = s.df t from if_pos (by omega)] at this
  exact this

set_option maxHeartbeats 1000000 in
set_option maxRecDepth 100000 in
theorem alone_walk {aoq ao : Option Addr} {nQ cq bq offq n c b off : Nat} {Q : Nat → Int} {X : Nat → Nat → Int} (ta : Int) (w : World) (hQ : IsInts w aoq nQ bq offq Q) (hX : IsSteps w ao n b off X) (hnq : nQ ≤ 9223372036854775807) (hn : n ≤ 9223372036854775807) (hta : 0 ≤ ta ∧ ta ≤ 255) :
    Calls Try.prog 5 #[.slice aoq nQ cq, .slice ao n c, .int .u8 ta] w fun e w' => e = .returned (.bool true) ∧ Below w.heap.size w w' := by
  have HQ := Lib.hid hQ
  have HX := Lib.hid hX
  clear hQ hX
  by_cases h0 : nQ = 0
  · subst h0
    go_enter Try.func5, Try.ntmps5
    go_wp2
    go_ret
    exact ⟨rfl, Below.refl _ _⟩
  · have hz : ((nQ : Int) == 0) = false := by rw [beq_eq_false_iff_ne]; omega
    by_cases h6 : 60 < n
    · clear h0
      go_enter Try.func5, Try.ntmps5
      go_wp2
      go_ret
      exact ⟨rfl, Below.refl _ _⟩
    · have hd : decide ((60 : Int) < (n : Int)) = false := by simp; omega
      obtain ⟨T, hT⟩ : ∃ T : Nat, (T : Int) = ta % nQ := ⟨(ta % nQ).toNat, by have := Int.emod_nonneg ta (b := (nQ : Int)) (by omega); omega⟩
      have lT : T < nQ := by have := Int.emod_lt_of_pos ta (b := (nQ : Int)) (by omega); omega
      have lT2 : (T : Int) ≤ 255 := by have := Int.mul_ediv_add_emod ta (nQ : Int); have := Int.mul_nonneg (show 0 ≤ (nQ : Int) by omega) (Int.ediv_nonneg hta.1 (show 0 ≤ (nQ : Int) by omega)); omega
      have E1 := Lib.hid (show ta % (nQ : Int) = (T : Int) from hT.symm)
      clear hT
      go_enter Try.func5, Try.ntmps5
      go_wp2_with fail
      refine (awake_any _).mono ?_
      rintro e w1 ⟨rfl, hb1⟩
      obtain ⟨i0, hi, iz, is, ib⟩ := info_parts infoStep
      have hnil : OL (w1.alloc (.cells #[] 31)) 31 4 (.slice (some ⟨w1.heap.size, 0, none⟩) 0 0) 0 [] :=
        OL.of_block (cs := []) (heap_alloc_new w1 _) rfl (by simp [maxLen])
      have hBa : Below w.heap.size w (w1.alloc (.cells #[] 31)) := hb1.alloc hb1.size _
      obtain ⟨v', w2, hap, ho, hg, hown⟩ := hnil.append (P := Try.prog) 23 23 23 i0 _ 32 Try.underlying23 hi iz is ib rfl (by omega)
        ((HX.out.below hBa (Nat.le_refl _)).src c) (by simp only [maxLen]; omega) (by omega)
      rw [Nat.zero_add, List.nil_append] at ho
      have hB2 : Below w.heap.size w w2 := hBa.grown hg hBa.size (fun k hk => by simp [Value.ownBlock] at hk; have := hb1.size; omega)
      have hlo := hb1.size
      obtain ⟨g, o, cap, rfl, hgl⟩ : ∃ g o cap, v' = .slice (some ⟨g, o, none⟩) n cap ∧ w.heap.size ≤ g := by
        rcases ho.forms with ⟨rfl, _⟩ | ⟨g, o, cap, rfl, _⟩
        · rcases hown with h | h <;> simp [Value.ownBlock] at h
        · refine ⟨g, o, cap, rfl, ?_⟩
          rcases hown with h | h
          · have : g = w1.heap.size := by simpa [Value.ownBlock] using h
            omega
          · have : g = w1.heap.size + 1 := by simpa [Value.ownBlock] using h
            omega
      have hY := HX.out.copied ho
      have hfz : ∀ j, w2.frozen? ⟨g, j, none⟩ = false := fun j => ho.free j
      have HAP := Lib.hid hap
      clear hap ho hg hown hnil hBa hi iz is ib hb1 h0
      go_wp2_with (refine wpList_append_run rfl (.tmp 35) (.tmp 36) _ _ rfl rfl rfl HAP.out ?_)
      clear HAP
      go_loopw [40] (fun i wr => ∃ (k : Nat) (Y : Nat → Nat → Int), k ≤ n ∧ i = .int .i64 k ∧ IsSteps wr (some ⟨g, o, none⟩) n g o Y ∧ (∀ i, i < k → Y i 1 = T) ∧ (∀ j, wr.frozen? ⟨g, j, none⟩ = false) ∧ Below w.heap.size w wr) (fun i _ => n - (intOf i).toNat)
      case atStart => exact ⟨0, X, Nat.zero_le _, rfl, hY, by omega, hfz, hB2⟩
      case round =>
        clear hY hfz hB2
        obtain ⟨k, Y, hk, rfl, hY, hT, hfz, hB⟩ := hrel
        by_cases hlt : k < n
        · obtain ⟨_, c1, _, _⟩ := hY.cells hlt
          have hS := Lib.hid (hY.setT hlt T lT2)
          have hBs := hB.setCell (p := ⟨g, o + k * 4 + 1, none⟩) hgl (.int .i64 T)
          have HT := Lib.hid hT
          have e1 := E1.out
          have hfs : ∀ j, (wr.setCell ⟨g, o + k * 4 + 1, none⟩ (.int .i64 T)).frozen? ⟨g, j, none⟩ = false := fun j => by simp [hfz j]
          have HFS := Lib.hid hfs
          clear hT hY hB hfs
          go_wp2
          clear e1
          go_roundw
          case rel =>
            refine ⟨k + 1, _, by omega, by go_num, hS.out, fun i hi => ?_, HFS.out, hBs⟩
            by_cases e : i = k
            · rw [if_pos ⟨e, rfl⟩]
            · rw [if_neg (fun h => e h.1)]; exact HT.out i (by omega)
          case measure => simp [intOf]; omega
        · obtain rfl : k = n := by omega
          have HY := Lib.hid hY
          have HT := Lib.hid hT
          clear hT hY hfz hlt
          have CL := Lib.hid (long_any (cq := cq) (c := cap) wr (HQ.out.below hB (Nat.le_refl _)) HY.out hnq hn)
          by_cases hlong : longB Q nQ k Y = true
          · rw [hlong] at CL
            clear hlong
            go_wp2_with fail
            refine CL.out.mono ?_
            rintro e w3 ⟨rfl, hb3⟩
            have hB3 := hB.trans (hb3.mono hB.size)
            go_wp2
            go_ret
            exact ⟨rfl, hB3⟩
          · replace hlong : longB Q nQ k Y = false := by simpa using hlong
            rw [hlong] at CL
            clear hlong
            go_wp2_with fail
            refine CL.out.mono ?_
            rintro e w3 ⟨rfl, hb3⟩
            have hB3 := hB.trans (hb3.mono hB.size)
            have hY3 := HY.out.below hb3 (Nat.le_refl _)
            have CF := Lib.hid (filled_any (cq := cq) (c := cap) w3 (HQ.out.below hB3 (Nat.le_refl _)) hY3 hnq (by omega))
            have HY3 := Lib.hid hY3
            clear CL HY hb3 hB hY3
            go_wp2_with fail
            refine CF.out.mono ?_
            rintro e w4 ⟨hb4, ⟨rfl, hng⟩ | ⟨bk, s, rfl, hg, hq, hf⟩⟩
            · have hB4 := hB3.trans (hb4.mono hB3.size)
              clear CF hng
              go_wp2
              go_ret
              exact ⟨rfl, hB4⟩
            · have HF := Lib.hid (hf.al lT HT.out)
              have HB3 := Lib.hid hB3
              have hbz := hB3.size
              clear CF hg hf hB3
              go_wp2_with fail
              go_loopw [66] (fun i wr => ∃ (j : Nat) (s : FQ), j ≤ k ∧ i = .int .i64 j ∧ Al nQ T k j Y s ∧ QB wr w3.heap.size bk s ∧ Below w3.heap.size w3 wr) (fun i _ => k - (intOf i).toNat)
              case atStart => exact ⟨0, s, Nat.zero_le _, rfl, HF.out, hq, hb4⟩
              case round =>
                clear HF hq hb4
                obtain ⟨j, s, hj, rfl, hA, hq, hb⟩ := hrel
                by_cases hlt : j < k
                · have CN := Lib.hid (q_next wr hq hb.size hA.gd (by rw [hA.m]; exact lT) (hA.some hlt))
                  have HA := Lib.hid hA
                  obtain ⟨_, c1, _, _⟩ := (HY3.out.below hb (Nat.le_refl _)).cells hlt
                  have hsz := hb.size
                  clear hA
                  go_wp2_with fail
                  refine CN.out.mono ?_
                  rintro e w6 ⟨s1, en, r, hc, hl, rfl, hq6, hb6⟩
                  obtain ⟨hA6, hcur, hen⟩ := HA.out.next hlt hc hl
                  replace hb6 := hb.trans hb6
                  obtain ⟨_, c1, _, _⟩ := (HY3.out.below hb6 (Nat.le_refl _)).cells hlt
                  have e2 := HT.out j hlt
                  rw [e2] at c1
                  have CD := Lib.hid (df_nat (w := w6) hq6 (t := T) (by rw [hA6.m]; exact lT))
                  have hd0 := hA6.gd.d0 T (by rw [hA6.m]; exact lT)
                  have HA6 := Lib.hid hA6
                  rw [hcur, hen]
                  generalize s1.pop.df T = dd at CD hd0
                  clear CN HA hA6 hcur hen hl hc e2 hq hb
                  go_wp2_with (go_at_call 17; refine CD.out.mono ?_; rintro e w7 ⟨rfl, m, rfl⟩)
                  go_roundw
                  case rel => exact ⟨j + 1, s1.pop, by omega, by go_num, HA6.out, hq6.below (below_draw _ _ _), hb6.trans (below_draw _ _ _)⟩
                  case measure => simp [intOf]; omega
                · obtain rfl : j = k := by omega
                  have hl0 : s.lst T = [] := by rw [hA.own]; simp
                  have CN := Lib.hid (len_nat hq (t := T) (by rw [hA.m]; exact lT))
                  rw [hl0] at CN
                  have e1 := E1.out
                  clear hl0 hA
                  go_wp2_with fail
                  refine CN.out.mono ?_
                  rintro e w6 ⟨rfl, m, rfl⟩
                  clear e1
                  go_wp2
                  go_ret
                  exact ⟨rfl, (HB3.out.trans (hb.mono HB3.out.size)).trans (below_draw _ _ _)⟩
end Go.Proofs.Ytdcmkonmojiefaa

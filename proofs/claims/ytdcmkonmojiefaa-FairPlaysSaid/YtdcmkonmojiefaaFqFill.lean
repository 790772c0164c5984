/- long and filled of the statements. Conditions: the two slices can be read. -/
import Derived.Test.YtdcmkonmojiefaaFqNil
namespace Go.Proofs.Ytdcmkonmojiefaa
open Go.RowKit
open Go.Proofs.Ytdcmkonmojiefaa.Fq

def stepK (j : Nat) : IntKind := if j = 0 then .u8 else .i64
theorem stepK_of {fs : Array Field} (he : Try.prog.underlying 31 = some (.struct fs)) : ∀ (j : Nat) (f : Field), fs[j]? = some f → Try.prog.underlying f.type = some (.int (stepK j)) := by
  rw [Try.underlying31] at he
  obtain rfl := TypeDesc.struct.inj (Option.some.inj he)
  intro j f hf
  match j, hf with
  | 0, hf => simp at hf; subst hf; exact Try.underlying5
  | 1, hf => simp at hf; subst hf; exact Try.underlying3
  | 2, hf => simp at hf; subst hf; exact Try.underlying3
  | 3, hf => simp at hf; subst hf; exact Try.underlying3
  | j + 4, hf => simp at hf
/-- The list of Steps can be read: its numbers are X i j. -/
structure IsSteps (w : World) (ao : Option Addr) (n b off : Nat) (X : Nat → Nat → Int) : Prop where
  ao : 0 < n → ao = some ⟨b, off, none⟩
  lt : 0 < n → b < w.heap.size
  c : ∀ i, i < n → ∀ j, j < 4 → w.cell? ⟨b, off + i * 4 + j, none⟩ = some (.int (stepK j) (X i j)) ∧ (Lit.int (stepK j) (X i j)).wf = true
theorem IsSteps.below {w w' : World} {ao : Option Addr} {n b off : Nat} {X : Nat → Nat → Int} (h : IsSteps w ao n b off X) {B : Nat} (hb : Below B w w') (hB : w.heap.size ≤ B) : IsSteps w' ao n b off X :=
  ⟨h.ao, fun h0 => by have := h.lt h0; have := hb.size; omega, fun i hi j hj => ⟨(hb.cell (p := ⟨b, off + i * 4 + j, none⟩) (by have := h.lt (by omega); simp; omega)).trans (h.c i hi j hj).1, (h.c i hi j hj).2⟩⟩
theorem IsSteps.cells {w : World} {ao : Option Addr} {n b off : Nat} {X : Nat → Nat → Int} (h : IsSteps w ao n b off X) {i : Nat} (hi : i < n) :
    w.cell? ⟨b, off + i * 4, none⟩ = some (.int .u8 (X i 0)) ∧ w.cell? ⟨b, off + i * 4 + 1, none⟩ = some (.int .i64 (X i 1)) ∧ w.cell? ⟨b, off + i * 4 + 2, none⟩ = some (.int .i64 (X i 2)) ∧ w.cell? ⟨b, off + i * 4 + 3, none⟩ = some (.int .i64 (X i 3)) :=
  ⟨(h.c i hi 0 (by omega)).1, (h.c i hi 1 (by omega)).1, (h.c i hi 2 (by omega)).1, (h.c i hi 3 (by omega)).1⟩
theorem IsSteps.bd {w : World} {ao : Option Addr} {n b off : Nat} {X : Nat → Nat → Int} (h : IsSteps w ao n b off X) {i : Nat} (hi : i < n) :
    (0 ≤ X i 0 ∧ X i 0 ≤ 255) ∧ (-9223372036854775808 ≤ X i 1 ∧ X i 1 ≤ 9223372036854775807) ∧ (-9223372036854775808 ≤ X i 2 ∧ X i 2 ≤ 9223372036854775807) ∧ (-9223372036854775808 ≤ X i 3 ∧ X i 3 ≤ 9223372036854775807) :=
  ⟨bounds_u8 (h.c i hi 0 (by omega)).2, bounds_i64 (h.c i hi 1 (by omega)).2, bounds_i64 (h.c i hi 2 (by omega)).2, bounds_i64 (h.c i hi 3 (by omega)).2⟩

/-- The least quantum, as 'long' counts it. -/
def leastN (Q : Nat → Int) : Nat → Int
  | 0 => 65536
  | k + 1 => min (leastN Q k) (max 1 (Q k))
theorem leastN_bd (Q : Nat → Int) : ∀ k, 1 ≤ leastN Q k ∧ leastN Q k ≤ 65536
  | 0 => by simp [leastN]
  | k + 1 => by have := leastN_bd Q k; simp only [leastN]; omega
def roundsN (len : Nat) (L : Int) (Z : Nat → Int) : Nat → Int
  | 0 => len
  | k + 1 => wrap64 (roundsN len L Z k + (max 0 (min (Z k) 1048576)).tdiv L)
def longB (Q : Nat → Int) (n len : Nat) (X : Nat → Nat → Int) : Bool := decide (3000 < roundsN len (leastN Q n) (fun i => X i 3) len)

set_option maxHeartbeats 1000000 in
theorem long_any {aoq ao : Option Addr} {nq cq bq offq n c b off : Nat} {Q : Nat → Int} {X : Nat → Nat → Int} (w : World) (hQ : IsInts w aoq nq bq offq Q) (hX : IsSteps w ao n b off X) (hnq : nq ≤ 9223372036854775807) (hn : n ≤ 9223372036854775807) :
    Calls Try.prog 10 #[.slice aoq nq cq, .slice ao n c] w fun e w' => e = .returned (.bool (longB Q nq n X)) ∧ Below w.heap.size w w' := by
  have HQ := Lib.hid hQ
  have HX := Lib.hid hX
  clear hQ hX
  go_enter Try.func10, Try.ntmps10
  go_wp2_with fail
  go_loopw [5, 13] (fun l i wr => ∃ (k : Nat), k ≤ nq ∧ i = .int .i64 k ∧ l = .int .i64 (leastN Q k) ∧ wr = w) (fun _ i _ => nq - (intOf i).toNat)
  case atStart => exact ⟨0, Nat.zero_le _, rfl, rfl, rfl⟩
  case round =>
    obtain ⟨k, hk, rfl, rfl, rfl⟩ := hrel
    by_cases hlt : k < nq
    · obtain rfl := HQ.out.ao (by omega)
      have hc := HQ.out.c k hlt
      have hb := HQ.out.bd k hlt
      have hl := leastN_bd Q k
      have HS := Lib.hid (show leastN Q (k + 1) = min (leastN Q k) (max 1 (Q k)) from rfl)
      go_wp2
      go_roundw
      case rel => exact ⟨k + 1, by omega, by go_num, by rw [HS.out], by first | rfl | trivial⟩
      case measure => simp [intOf]; omega
    · obtain rfl : k = nq := by omega
      have hl := leastN_bd Q k
      have HB := Lib.hid (show longB Q k n X = decide (3000 < roundsN n (leastN Q k) (fun i => X i 3) n) from rfl)
      generalize leastN Q k = L at hl HB
      go_wp2_with fail
      rename World => wo
      go_loopw [8, 26] (fun m i w' => ∃ (j : Nat), j ≤ n ∧ i = .int .i64 j ∧ m = .int .i64 (roundsN n L (fun i => X i 3) j) ∧ Below wo.heap.size wo w') (fun _ i _ => n - (intOf i).toNat)
      case atStart => exact ⟨0, Nat.zero_le _, rfl, rfl, Below.refl _ _⟩
      case round =>
        obtain ⟨j, hj, rfl, rfl, hB⟩ := hrel
        by_cases hlt : j < n
        · obtain rfl := HX.out.ao (by omega)
          obtain ⟨c0, c1, c2, c3⟩ := (HX.out.below hB (Nat.le_refl _)).cells hlt
          have hbd := (HX.out.bd hlt).2.2.2
          have HS := Lib.hid (show roundsN n L (fun i => X i 3) (j + 1) = wrap64 (roundsN n L (fun i => X i 3) j + (max 0 (min (X j 3) 1048576)).tdiv L) from rfl)
          generalize roundsN n L (fun i => X i 3) j = R at HS ⊢
          generalize X j 0 = x0 at c0
          generalize X j 1 = x1 at c1
          generalize X j 2 = x2 at c2
          generalize X j 3 = x3 at c3 hbd HS
          have hBa := hB.alloc hB.size (Obj.cells #[.int .u8 x0, .int .i64 x1, .int .i64 x2, .int .i64 x3] 31)
          go_wp2_with fail
          refine (Clip_any _ _ _ _).mono ?_
          rintro e w6 ⟨rfl, rfl⟩
          have q0 : 0 ≤ max 0 (min x3 1048576) := by omega
          have q1 : max 0 (min x3 1048576) ≤ 1048576 := by omega
          generalize max 0 (min x3 1048576) = q at q0 q1 HS ⊢
          have hdv : 0 ≤ q.tdiv L ∧ q.tdiv L ≤ 1048576 := by
            rw [Int.tdiv_eq_ediv_of_nonneg q0]
            exact ⟨Int.ediv_nonneg q0 (by omega), Int.le_trans (Int.ediv_le_self L q0) q1⟩
          go_wp2
          go_roundw
          case rel => exact ⟨j + 1, by omega, by go_num, by rw [HS.out], hBa⟩
          case measure => simp [intOf]; omega
        · obtain rfl : j = n := by omega
          go_wp2
          go_ret
          refine ⟨?_, hB⟩
          rw [HB.out]; rfl

/-- The queue behind k Puts. -/
noncomputable def fillS (Q : Nat → Int) (n : Nat) (X : Nat → Nat → Int) : Nat → FQ
  | 0 => FQ.init Q n
  | k + 1 => putS (fillS Q n X k) (X k 1) k (X k 3)
def share (X : Nat → Nat → Int) (k : Nat) (t : Nat) : List Ent := ((List.range k).filter fun i => decide (X i 1 = (t : Int))).map fun (i : Nat) => ((↑i : Int), X i 3)
def Good (Q : Nat → Int) (n len : Nat) (X : Nat → Nat → Int) : Prop := newOk Q n ∧ ∀ i, i < len → (0 ≤ X i 1 ∧ X i 1 < n) ∧ (1 ≤ X i 3 ∧ X i 3 ≤ 1048576)
section
variable {Q : Nat → Int} {n : Nat} {X : Nat → Nat → Int}
theorem share_mem {k t : Nat} {e : Ent} (h : e ∈ share X k t) : ∃ i : Nat, i < k ∧ X i 1 = t ∧ e = ((i : Int), X i 3) := by
  unfold share at h
  obtain ⟨i, hi, rfl⟩ := List.mem_map.1 h
  obtain ⟨h1, h2⟩ := List.mem_filter.1 hi
  exact ⟨i, List.mem_range.1 h1, by simpa using h2, rfl⟩
theorem share_succ (k t : Nat) : share X (k + 1) t = if X k 1 = (t : Int) then share X k t ++ [((k : Int), X k 3)] else share X k t := by
  unfold share
  rw [List.range_succ, List.filter_append, List.map_append]
  by_cases h : X k 1 = (t : Int) <;> simp [h]
theorem share_len (k t : Nat) : (share X k t).length ≤ k := by
  unfold share
  rw [List.length_map]
  exact Nat.le_trans (List.length_filter_le ..) (by simp)
/-- How many entries there are. -/
def total (s : FQ) : Nat := (s.lists.map List.length).sum
theorem sum_set {α : Type} : ∀ (l : List (List α)) (i : Nat) (x : List α), i < l.length → ((l.set i x).map List.length).sum + (l.getD i []).length = (l.map List.length).sum + x.length
  | [], _, _, h => by simp at h
  | a :: l, 0, x, _ => by simp; omega
  | a :: l, i + 1, x, h => by
    have := sum_set l i x (by simpa using h)
    simp at this ⊢; omega
theorem total_setL {s : FQ} {t : Nat} (h : t < s.m) (l : List Ent) : total (FQ.setL s t l) + (s.lst t).length = total s + l.length := sum_set s.lists t l h
theorem sum_zero : ∀ l : List Nat, (∀ x ∈ l, x = 0) → l.sum = 0
  | [], _ => rfl
  | a :: l, h => by
    have h1 := h a (by simp)
    have h2 := sum_zero l (fun x hx => h x (by simp [hx]))
    simp [h1, h2]
theorem total_pos {s : FQ} (h : 0 < total s) : ∃ t, t < s.m ∧ s.lst t ≠ [] := by
  apply Classical.byContradiction
  intro hn
  have : ∀ l ∈ s.lists.map List.length, l = 0 := fun l hl => by
    obtain ⟨x, hx, rfl⟩ := List.mem_map.1 hl
    obtain ⟨i, hi, rfl⟩ := List.getElem_of_mem hx
    apply Classical.byContradiction
    intro h0
    refine hn ⟨i, hi, fun e => h0 ?_⟩
    unfold FQ.lst at e
    simp [List.getD, hi] at e
    simp [e]
  have h0 : (s.lists.map List.length).sum = 0 := sum_zero _ this
  unfold total at h; omega
theorem total_zero {s : FQ} (h : total s = 0) : ∀ t, t < s.m → s.lst t = [] := fun t ht => by
  have := total_setL ht ([] : List Ent)
  simp at this
  exact List.eq_nil_of_length_eq_zero (by omega)
/-- What is known of a queue that has been filled. -/
structure Fil (Q : Nat → Int) (n : Nat) (X : Nat → Nat → Int) (k : Nat) (s : FQ) : Prop where
  m : s.m = n
  gd : Gd s
  ls : ∀ t, t < n → s.lst t = share X k t
  cur : s.cur = 0
  bg : s.begun = false
  df : ∀ t, s.df t = 0
  qn : s.quanta = qList Q n
  tot : total s = k
theorem Fil.put {k : Nat} {s : FQ} (h : Fil Q n X k s) (hk : k < 256) (h1 : 0 ≤ X k 1 ∧ X k 1 < n) (h2 : 1 ≤ X k 3 ∧ X k 3 ≤ 1048576) : putE s (X k 1) k (X k 3) = 0 ∧ Fil Q n X (k + 1) (putS s (X k 1) k (X k 3)) := by
  have hp : putE s (X k 1) k (X k 3) = 0 := putE_of (by rw [h.m]; exact h1) h2 (fun ⟨t, ht, e, he, hi⟩ => by
    rw [h.ls t (by rw [← h.m]; exact ht)] at he
    obtain ⟨i, hi2, _, rfl⟩ := share_mem he
    simp at hi; omega) (by rw [h.ls _ (by omega)]; exact Nat.lt_of_le_of_lt (share_len k _) hk)
  refine ⟨hp, ?_⟩
  have gd := h.gd.putS (X k 1) k (X k 3)
  rw [putS_ok hp] at gd ⊢
  refine { m := by rw [setL_m, h.m], gd := gd, ls := fun t ht => ?_, cur := h.cur, bg := h.bg, df := h.df, qn := h.qn, tot := by have := total_setL (s := s) (t := (X k 1).toNat) (by rw [h.m]; omega) (s.lst (X k 1).toNat ++ [((k : Int), X k 3)]); simp [h.tot] at this; omega }
  rw [share_succ]
  by_cases e : X k 1 = (t : Int)
  · have e' : (X k 1).toNat = t := by omega
    rw [if_pos e, e', setL_lst_self (by rw [h.m]; exact ht), h.ls t ht]
  · rw [if_neg e, setL_lst_ne (by omega), h.ls t ht]
theorem Fil.init (h : newOk Q n) : Fil Q n X 0 (FQ.init Q n) :=
  { m := init_m Q n, gd := Gd.init h, ls := fun t _ => by rw [init_lst]; rfl, cur := rfl, bg := rfl, df := init_df Q n, qn := rfl, tot := by simp [total, FQ.init] }
theorem Fil.short {k : Nat} {s : FQ} (h : Fil Q n X k s) (hk : k ≤ 1000000) : Short s := fun t ht => by
  rw [h.ls t (by rw [← h.m]; exact ht)]; exact Nat.le_trans (share_len k t) hk
theorem good_fil {len : Nat} (h : Good Q n len X) (hl : len ≤ 256) : ∀ k, k ≤ len → Fil Q n X k (fillS Q n X k)
  | 0, _ => Fil.init h.1
  | k + 1, hk => ((good_fil h hl k (by omega)).put (by omega) (h.2 k (by omega)).1 (h.2 k (by omega)).2).2
end
def FillP (Q : Nat → Int) (n len : Nat) (X : Nat → Nat → Int) (w : World) (e : Ending) (w' : World) : Prop :=
  Below w.heap.size w w' ∧ ((e = .returned (.tuple #[.pointer none, .bool false]) ∧ ¬ Good Q n len X) ∨
    ∃ b s, e = .returned (.tuple #[.pointer (some ⟨b, 0, none⟩), .bool true]) ∧ Good Q n len X ∧ QB w' w.heap.size b s ∧ Fil Q n X len s)
theorem new_not {ao : Option Addr} {n c b off : Nat} {Q : Nat → Int} (w : World) (h : IsInts w ao n b off Q) (hn : n ≤ 9223372036854775807) (hb : ¬ newOk Q n) : Calls Try.prog 19 #[.slice ao n c] w (NewBad w) := by
  by_cases h1 : n < 1 ∨ 16 < n
  · exact new_short w hn h1
  · have : ∃ i, i < n ∧ ¬ (1 ≤ Q i ∧ Q i ≤ 65536) := Classical.byContradiction fun hno => hb ⟨by omega, by omega, fun i hi => Classical.byContradiction fun h2 => hno ⟨i, hi, h2⟩⟩
    obtain ⟨i, hi, hq⟩ := this
    exact new_bad w h (by omega) (by omega) hi hq
set_option maxHeartbeats 1000000 in
theorem filled_any {aoq ao : Option Addr} {nq cq bq offq n c b off : Nat} {Q : Nat → Int} {X : Nat → Nat → Int} (w : World) (hQ : IsInts w aoq nq bq offq Q) (hX : IsSteps w ao n b off X) (hnq : nq ≤ 9223372036854775807) (hn : n ≤ 60) :
    Calls Try.prog 12 #[.slice aoq nq cq, .slice ao n c] w (FillP Q nq n X w) := by
  have HQ := Lib.hid hQ
  have HX := Lib.hid hX
  clear hQ hX
  by_cases hok : newOk Q nq
  · go_enter Try.func12, Try.ntmps12
    go_wp2_with fail
    refine (q_new w HQ.out hok).mono ?_
    rintro e w1 ⟨b0, rfl, hq, hb⟩
    have HOK := Lib.hid hok
    clear hok
    go_wp2_with fail
    go_loopw [19] (fun i wr => ∃ (k : Nat) (s : FQ), k ≤ n ∧ i = .int .i64 k ∧ Fil Q nq X k s ∧ QB wr w.heap.size b0 s ∧ Below w.heap.size w wr ∧ ∀ i, i < k → (0 ≤ X i 1 ∧ X i 1 < nq) ∧ (1 ≤ X i 3 ∧ X i 3 ≤ 1048576)) (fun i _ => n - (intOf i).toNat)
    case atStart => exact ⟨0, _, Nat.zero_le _, rfl, Fil.init HOK.out, hq, hb, by omega⟩
    case round =>
      obtain ⟨k, s, hk, rfl, hF, hq, hB, hG⟩ := hrel
      have HG := Lib.hid hG
      have HF := Lib.hid hF
      clear hG
      by_cases hlt : k < n
      · obtain rfl := HX.out.ao (by omega)
        obtain ⟨c0, c1, c2, c3⟩ := (HX.out.below hB (Nat.le_refl _)).cells hlt
        have PE := Lib.hid (fun h1 h2 => hF.put (X := X) (by omega) h1 h2)
        have PN := Lib.hid (fun (h : putE s (X k 1) k (X k 3) = 0) => putE_ok h)
        have hm := hF.m
        have hBa := hB.alloc hB.size (Obj.cells #[.int .u8 (X k 0), .int .i64 (X k 1), .int .i64 (X k 2), .int .i64 (X k 3)] 31)
        have hqa := hq.below (w' := wr.alloc (Obj.cells #[.int .u8 (X k 0), .int .i64 (X k 1), .int .i64 (X k 2), .int .i64 (X k 3)] 31)) (by go_grown)
        have CP := Lib.hid (q_put (X k 1) k (X k 3) _ hqa hBa.size (by rw [hm]; exact HOK.out.2.1) (hF.short (by omega)))
        clear hF hq hqa
        go_wp2_with fail
        refine CP.out.mono ?_
        rintro e w6 ⟨rfl, hq6, hb6⟩
        have hB6 := hBa.trans hb6
        clear CP c0 c1 c2 c3 hB hb6 hBa
        by_cases hp : putE s (X k 1) k (X k 3) = 0
        · have HP := Lib.hid (PN.out hp)
          rw [hp, show errV 0 = Value.nilIface from rfl]
          clear hp
          go_wp2
          go_roundw
          case rel =>
            obtain ⟨h1, h2, _, _⟩ := HP.out
            rw [hm] at h1
            refine ⟨k + 1, _, by omega, by go_num, (PE.out h1 h2).2, hq6, hB6, fun i hi => ?_⟩
            by_cases e : i = k
            · subst e; exact ⟨h1, h2⟩
            · exact HG.out i (by omega)
          case measure => simp [intOf]; omega
        · rw [show errV (putE s (X k 1) k (X k 3)) = _ from if_neg hp]
          have HN := Lib.hid (show ¬ Good Q nq n X from fun h => hp (PE.out (h.2 k hlt).1 (h.2 k hlt).2).1)
          clear hp PE PN
          go_wp2
          go_ret2
          exact ⟨hB6, .inl ⟨rfl, HN.out⟩⟩
      · obtain rfl : k = n := by omega
        go_wp2
        go_ret2
        exact ⟨hB, .inr ⟨b0, s, rfl, ⟨HOK.out, HG.out⟩, hq, HF.out⟩⟩
  · have HB := Lib.hid (new_not (c := cq) w HQ.out hnq hok)
    have HN := Lib.hid (show ¬ Good Q nq n X from fun h => hok h.1)
    go_enter Try.func12, Try.ntmps12
    go_wp2_with fail
    refine HB.out.mono ?_
    rintro e w' ⟨rfl, rfl⟩
    go_wp2
    go_ret2
    exact ⟨Below.refl _ _, .inl ⟨rfl, HN.out⟩⟩
end Go.Proofs.Ytdcmkonmojiefaa

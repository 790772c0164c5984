/- The statement FairCancels: the walk, and what is so of a queue from which entries are cancelled. Conditions: the two slices can be read, the number is one of 64 bits. -/
import Derived.Test.YtdcmkonmojiefaaFqPlay
namespace Go.Proofs.Ytdcmkonmojiefaa
open Go.RowKit
open Go.Proofs.Ytdcmkonmojiefaa.Fq

/-- The entries but those of ids below k that are gone. -/
structure Cn (n : Nat) (X : Nat → Nat → Int) (len : Nat) (g : Nat → Bool) (k left : Nat) (s : FQ) : Prop where
  m : s.m = n
  gd : Gd s
  sub : ∀ t, t < n → ∀ e ∈ s.lst t, ∃ i : Nat, i < len ∧ X i 1 = t ∧ e = ((i : Int), X i 3) ∧ ¬ (i < k ∧ g i = true)
  has : ∀ i, i < len → ¬ (i < k ∧ g i = true) → ((i : Int), X i 3) ∈ s.lst (X i 1).toNat
  asc : ∀ t, t < n → (s.lst t).Pairwise (fun a b => a.1 < b.1)
  tot : total s + k = left + len
section
variable {Q : Nat → Int} {n len k left : Nat} {X : Nat → Nat → Int} {g : Nat → Bool} {s s1 : FQ}
theorem len_total {t : Nat} (ht : t < s.m) : (s.lst t).length ≤ total s := by
  have := total_setL ht ([] : List Ent)
  simp at this; omega
theorem share_has {k i : Nat} (hi : i < k) (h0 : 0 ≤ X i 1) : ((i : Int), X i 3) ∈ share X k (X i 1).toNat := by
  unfold share
  refine List.mem_map.2 ⟨i, List.mem_filter.2 ⟨List.mem_range.2 hi, ?_⟩, rfl⟩
  simp; omega
theorem Fil.cn (h : Fil Q n X len s) (hg : ∀ i, i < len → 0 ≤ X i 1 ∧ X i 1 < n) : Cn n X len g 0 0 s :=
  { m := h.m, gd := h.gd, tot := by have := h.tot; omega
    sub := fun t ht e he => by rw [h.ls t ht] at he; obtain ⟨i, h1, h2, h3⟩ := share_mem he; exact ⟨i, h1, h2, h3, by omega⟩
    has := fun i hi _ => by rw [h.ls _ (by have := hg i hi; omega)]; exact share_has hi (hg i hi).1
    asc := fun t ht => by rw [h.ls t ht]; exact share_asc len t }
theorem Cn.skip (h : Cn n X len g k left s) (hg : g k = false) : Cn n X len g (k + 1) (left + 1) s :=
  { m := h.m, gd := h.gd, asc := h.asc, tot := by have := h.tot; omega
    sub := fun t ht e he => by
      obtain ⟨i, h1, h2, h3, h4⟩ := h.sub t ht e he
      refine ⟨i, h1, h2, h3, fun ⟨x, y⟩ => ?_⟩
      by_cases e : i = k
      · subst e; rw [hg] at y; cases y
      · exact h4 ⟨by omega, y⟩
    has := fun i hi hn => h.has i hi (fun ⟨x, y⟩ => hn ⟨by omega, y⟩) }
theorem Cn.there (h : Cn n X len g k left s) (hX : ∀ i, i < len → 0 ≤ X i 1 ∧ X i 1 < n) (hk : k < len) : hasId s k :=
  ⟨(X k 1).toNat, by rw [h.m]; have := hX k hk; omega, _, h.has k hk (by omega), rfl⟩
theorem Cn.short (h : Cn n X len g k left s) (hl : left + len ≤ 1000000) : Short s := fun t ht => Nat.le_trans (len_total ht) (by have := h.tot; omega)
theorem Cn.cancel (h : Cn n X len g k left s) (hg : g k = true) {t ix : Nat} (hf : FindR s k (some (t, ix))) :
    Cn n X len g (k + 1) left (FQ.setL s t ((s.lst t).eraseIdx ix)) ∧ ¬ hasId (FQ.setL s t ((s.lst t).eraseIdx ix)) k := by
  obtain ⟨ht, ⟨e, he, hek⟩, _, _⟩ := hf
  have htn : t < n := by rw [← h.m]; exact ht
  obtain ⟨hix, hex⟩ := List.getElem?_eq_some_iff.1 he
  have hsplit : s.lst t = (s.lst t).take ix ++ e :: (s.lst t).drop (ix + 1) := by rw [← hex, ← List.drop_eq_getElem_cons hix, List.take_append_drop]
  have herase : (s.lst t).eraseIdx ix = (s.lst t).take ix ++ (s.lst t).drop (ix + 1) := List.eraseIdx_eq_take_drop_succ _ _
  have hasc := h.asc t htn
  rw [hsplit] at hasc
  obtain ⟨a1, a2, a3⟩ := List.pairwise_append.1 hasc
  obtain ⟨b1, b2⟩ := List.pairwise_cons.1 a2
  have hne : ∀ x ∈ (s.lst t).eraseIdx ix, x.1 ≠ (k : Int) := fun x hx => by
    rw [herase] at hx
    rcases List.mem_append.1 hx with hx | hx
    · have := a3 x hx e (by simp); omega
    · have := b1 x hx; omega
  have hmem : ∀ x ∈ (s.lst t).eraseIdx ix, x ∈ s.lst t := fun x hx => List.mem_of_mem_eraseIdx hx
  have hkeep : ∀ x ∈ s.lst t, x.1 ≠ (k : Int) → x ∈ (s.lst t).eraseIdx ix := fun x hx hn => by
    rw [hsplit] at hx
    rw [herase]
    rcases List.mem_append.1 hx with hx | hx
    · exact List.mem_append.2 (.inl hx)
    · rcases List.mem_cons.1 hx with rfl | hx
      · exact absurd hek hn
      · exact List.mem_append.2 (.inr hx)
  have lst : ∀ t', (FQ.setL s t ((s.lst t).eraseIdx ix)).lst t' = if t' = t then (s.lst t).eraseIdx ix else s.lst t' := fun t' => by
    by_cases e1 : t' = t
    · subst e1; rw [if_pos rfl, setL_lst_self ht]
    · rw [if_neg e1, setL_lst_ne (fun x => e1 x.symm)]
  have inn : ∀ t', t' < n → ∀ x ∈ (FQ.setL s t ((s.lst t).eraseIdx ix)).lst t', x ∈ s.lst t' ∧ x.1 ≠ (k : Int) := fun t' ht' x hx => by
    rw [lst] at hx
    by_cases e1 : t' = t
    · subst e1; rw [if_pos rfl] at hx; exact ⟨hmem x hx, hne x hx⟩
    · rw [if_neg e1] at hx
      refine ⟨hx, fun hk => e1 ?_⟩
      obtain ⟨i, _, hi2, hi3, _⟩ := h.sub t' ht' x hx
      obtain ⟨j, _, hj2, hj3, _⟩ := h.sub t htn e (by rw [hsplit]; simp)
      have e3 : i = j := by
        have hi3' : x.1 = (i : Int) := by rw [hi3]
        have hj3' : e.1 = (j : Int) := by rw [hj3]
        omega
      subst e3
      omega
  refine ⟨{ m := by rw [setL_m, h.m], gd := h.gd.setL ht (fun x hx => h.gd.sz t ht x (hmem x hx)), sub := fun t' ht' x hx => ?_, has := fun i hi hn => ?_, asc := fun t' ht' => ?_, tot := ?_ }, ?_⟩
  · obtain ⟨h1, h2⟩ := inn t' ht' x hx
    obtain ⟨i, c1, c2, c3, c4⟩ := h.sub t' ht' x h1
    refine ⟨i, c1, c2, c3, fun ⟨y, z⟩ => ?_⟩
    by_cases e1 : i = k
    · subst e1; exact h2 (by rw [c3])
    · exact c4 ⟨by omega, z⟩
  · have hik : i ≠ k := fun e1 => hn ⟨by omega, by rw [e1]; exact hg⟩
    have := h.has i hi (fun ⟨x, y⟩ => hn ⟨by omega, y⟩)
    rw [lst]
    split
    · next e1 => rw [e1] at this; exact hkeep _ this (by show (i : Int) ≠ (k : Int); omega)
    · exact this
  · rw [lst]
    split
    · exact (h.asc t htn).sublist (List.eraseIdx_sublist _ _)
    · exact h.asc t' ht'
  · have := total_setL ht ((s.lst t).eraseIdx ix)
    rw [List.length_eraseIdx_of_lt hix] at this
    have := h.tot
    omega
  · rintro ⟨t', ht', x, hx, hxk⟩
    rw [setL_m, h.m] at ht'
    exact (inn t' ht' x hx).2 hxk
/-- One of the entries that are left is taken. -/
structure Lf (n : Nat) (X : Nat → Nat → Int) (len : Nat) (g : Nat → Bool) (left : Nat) (s : FQ) : Prop where
  m : s.m = n
  gd : Gd s
  sub : ∀ t, t < n → ∀ e ∈ s.lst t, ∃ i : Nat, i < len ∧ e.1 = (i : Int) ∧ g i = false
  tot : total s = left
theorem Cn.lf (h : Cn n X len g len left s) : Lf n X len g left s :=
  { m := h.m, gd := h.gd, tot := by have := h.tot; omega
    sub := fun t ht e he => by
      obtain ⟨i, h1, _, h3, h4⟩ := h.sub t ht e he
      exact ⟨i, h1, by rw [h3], by cases hg : g i; rfl; exact absurd ⟨h1, hg⟩ h4⟩ }
theorem Lf.next (h : Lf n X len g (left + 1) s) (hc : Chs s s1) {en : Ent} {r : List Ent} (hl : s1.lst s1.cur = en :: r) :
    Lf n X len g left s1.pop ∧ ∃ i : Nat, i < len ∧ en.1 = (i : Int) ∧ g i = false := by
  obtain ⟨hm, hls, ht⟩ := chs_lst hc h.gd
  obtain ⟨g1, hstop, _, _, hb⟩ := hc.gd h.gd
  have hcur : s1.cur < n := by have := g1.cur; rw [hm, h.m] at this; exact this
  have hlo : s.lst s1.cur = en :: r := by rw [← hls]; exact hl
  refine ⟨{ m := by rw [pop_m, hm, h.m], gd := g1.pop hstop hb, sub := fun t htn e he => ?_, tot := ?_ }, h.sub s1.cur hcur en (by rw [hlo]; simp)⟩
  · rw [pop_lst g1 hl] at he
    split at he
    · next e1 => subst e1; exact h.sub s1.cur hcur e (by rw [hlo]; simp [he])
    · rw [hls] at he; exact h.sub t htn e he
  · have := pop_total g1 hl
    have := h.tot
    omega
end
def gB (gone : Int) (i : Nat) : Bool := !(bits BinOp.and IntKind.u64 (gone / 2 ^ i) 1 == 0)
theorem gB_false {gone : Int} {i : Nat} (h : bits BinOp.and IntKind.u64 (gone / 2 ^ i) 1 = 0) : gB gone i = false := by simp [gB, h]
theorem gB_true {gone : Int} {i : Nat} (h : ¬ bits BinOp.and IntKind.u64 (gone / 2 ^ i) 1 = 0) : gB gone i = true := by simp [gB, h]
theorem gB_zero {gone : Int} {i : Nat} (h : gB gone i = false) : bits BinOp.and IntKind.u64 (gone / 2 ^ i) 1 = 0 := by simpa [gB] using h
def CanT (B bk n : Nat) (X : Nat → Nat → Int) (len : Nat) (g : Nat → Bool) (k left : Nat) (w : World) (e : Ending) (w' : World) : Prop :=
  e = .returned (.bool true) ∧ ∃ s', Cn n X len g (k + 1) left s' ∧ ¬ hasId s' k ∧ QB w' B bk s' ∧ Below B w w'
theorem can_first {B bk n k left len : Nat} {X : Nat → Nat → Int} {g : Nat → Bool} {s : FQ} (w : World) (h : QB w B bk s) (hw : B ≤ w.heap.size) (hP : Cn n X len g k left s) (hn : n ≤ 16) (hl : left + len ≤ 1000000) (hg : g k = true) (hX : ∀ i, i < len → 0 ≤ X i 1 ∧ X i 1 < n) (hk : k < len) :
    Calls Try.prog 18 #[.pointer (some ⟨bk, 0, none⟩), .int .i64 k] w (CanT B bk n X len g k left w) := by
  refine (q_cancel k w h hw (by rw [hP.m]; exact hn) (hP.short hl)).mono ?_
  rintro e w' (⟨he, hn, _⟩ | ⟨he, t, i, hf, hq, hb⟩)
  · exact absurd (hP.there hX hk) hn
  · obtain ⟨h1, h2⟩ := hP.cancel hg hf
    exact ⟨he, _, h1, h2, hq, hb⟩
def CanF (B bk : Nat) (s : FQ) (w : World) (e : Ending) (w' : World) : Prop := e = .returned (.bool false) ∧ QB w' B bk s ∧ Below B w w'
theorem can_again {B bk k : Nat} {s : FQ} (w : World) (h : QB w B bk s) (hw : B ≤ w.heap.size) (hm : s.m ≤ 16) (hs : Short s) (hno : ¬ hasId s k) :
    Calls Try.prog 18 #[.pointer (some ⟨bk, 0, none⟩), .int .i64 k] w (CanF B bk s w) := by
  refine (q_cancel k w h hw hm hs).mono ?_
  rintro e w' (⟨he, _, hq, hb⟩ | ⟨he, t, i, hf, _⟩)
  · exact ⟨he, hq, hb⟩
  · exact absurd (findR_has hf) hno
theorem Lf.some {n left len : Nat} {X : Nat → Nat → Int} {g : Nat → Bool} {s : FQ} (h : Lf n X len g (left + 1) s) : ∃ t, t < s.m ∧ s.lst t ≠ [] := total_pos (by have := h.tot; omega)
theorem Lf.none {n len : Nat} {X : Nat → Nat → Int} {g : Nat → Bool} {s : FQ} (h : Lf n X len g 0 s) : anyB s = false := anyB_false (total_zero h.tot)
def LfN (B bk n : Nat) (X : Nat → Nat → Int) (len : Nat) (g : Nat → Bool) (left : Nat) (w : World) (e : Ending) (w' : World) : Prop :=
  ∃ (t i : Nat) (s' : FQ), e = .returned (.tuple #[.int .i64 t, .int .i64 i, .nilIface]) ∧ i < len ∧ g i = false ∧ Lf n X len g left s' ∧ QB w' B bk s' ∧ Below B w w'
theorem lf_next {B bk n left len : Nat} {X : Nat → Nat → Int} {g : Nat → Bool} {s : FQ} (w : World) (h : QB w B bk s) (hw : B ≤ w.heap.size) (hL : Lf n X len g (left + 1) s) :
    Calls Try.prog 14 #[.pointer (some ⟨bk, 0, none⟩)] w (LfN B bk n X len g left w) := by
  obtain ⟨t0, h1, h2⟩ := hL.some
  refine (q_next w h hw hL.gd h1 h2).mono ?_
  rintro e w' ⟨s1, en, r, hc, hl, he, hq, hb⟩
  obtain ⟨hL', i, hi, hei, hg⟩ := hL.next hc hl
  rw [hei] at he
  exact ⟨_, i, _, he, hi, hg, hL', hq, hb⟩
set_option maxHeartbeats 1000000 in
set_option maxRecDepth 100000 in
theorem cancels_walk {aoq ao : Option Addr} {nq cq bq offq n c b off : Nat} {Q : Nat → Int} {X : Nat → Nat → Int} (gone : Int) (w : World) (hQ : IsInts w aoq nq bq offq Q) (hX : IsSteps w ao n b off X) (hnq : nq ≤ 9223372036854775807) (hn : n ≤ 9223372036854775807) :
    Calls Try.prog 6 #[.slice aoq nq cq, .slice ao n c, .int .u64 gone] w fun e w' => e = .returned (.bool true) ∧ Below w.heap.size w w' := by
  have HQ := Lib.hid hQ
  have HX := Lib.hid hX
  clear hQ hX
  have CL := Lib.hid (fun (w' : World) (hb : Below w.heap.size w w') => long_any (cq := cq) (c := c) w' (HQ.out.below hb (Nat.le_refl _)) (HX.out.below hb (Nat.le_refl _)) hnq hn)
  by_cases hlong : longB Q nq n X = true
  · rw [hlong] at CL
    clear hlong
    go_enter Try.func6, Try.ntmps6
    go_wp2_with fail
    refine (CL.out _ (Below.refl _ _)).mono ?_
    rintro e w1 ⟨rfl, hb⟩
    go_wp2_with fail
    refine (CL.out _ hb).mono ?_
    rintro e w2 ⟨rfl, hb2⟩
    have hB := hb.trans (hb2.mono hb.size)
    go_wp2
    go_ret
    exact ⟨rfl, hB⟩
  · replace hlong : longB Q nq n X = false := by simpa using hlong
    rw [hlong] at CL
    clear hlong
    by_cases hbig : 60 < n
    · go_enter Try.func6, Try.ntmps6
      go_wp2_with fail
      refine (CL.out _ (Below.refl _ _)).mono ?_
      rintro e w1 ⟨rfl, hb⟩
      go_wp2_with fail
      refine (CL.out _ hb).mono ?_
      rintro e w2 ⟨rfl, hb2⟩
      have hB := hb.trans (hb2.mono hb.size)
      go_wp2
      go_ret
      exact ⟨rfl, hB⟩
    · go_enter Try.func6, Try.ntmps6
      go_wp2_with fail
      refine (CL.out _ (Below.refl _ _)).mono ?_
      rintro e w1 ⟨rfl, hb⟩
      have hd : decide ((60 : Int) < (n : Int)) = false := by simp; omega
      go_wp2_with fail
      refine (awake_any _).mono ?_
      rintro e w2 ⟨rfl, hb2⟩
      have hB := hb.trans (hb2.mono hb.size)
      clear hb hb2
      have CF := Lib.hid (filled_any (cq := cq) (c := c) w2 (HQ.out.below hB (Nat.le_refl _)) (HX.out.below hB (Nat.le_refl _)) hnq (by omega))
      clear CL
      go_wp2_with fail
      refine CF.out.mono ?_
      rintro e w3 ⟨hb3, ⟨rfl, hng⟩ | ⟨bk, s, rfl, hg, hq, hf⟩⟩
      · have hB3 := hB.trans (hb3.mono hB.size)
        clear CF hng
        go_wp2
        go_ret
        exact ⟨rfl, hB3⟩
      · have hB3 := hB.trans (hb3.mono hB.size)
        replace hq := hq.mono hB.size
        have HG := Lib.hid hg
        have HP := Lib.hid hf
        have hn1 : 1 ≤ nq := hg.1.1
        have hn2 : nq ≤ 16 := hg.1.2.1
        clear hg hf
        have hlo := hB3.size
        go_wp2_with fail
        clear CF hb3 hB
        go_loopw [47, 9] (fun i lf wr => ∃ (k left : Nat) (s : FQ), k ≤ n ∧ left ≤ k ∧ i = .int .i64 k ∧ lf = .int .i64 left ∧ Cn nq X n (gB gone) k left s ∧ QB wr w.heap.size bk s ∧ Below w.heap.size w wr) (fun i _ _ => n - (intOf i).toNat)
        case atStart => exact ⟨0, 0, s, Nat.zero_le _, Nat.zero_le _, rfl, rfl, HP.out.cn (fun i hi => (HG.out.2 i hi).1), hq, hB3⟩
        case round =>
          clear HP hq hB3
          obtain ⟨k, left, s, hk, hlk, rfl, rfl, hP, hq, hB⟩ := hrel
          have HP := Lib.hid hP
          by_cases hlt : k < n
          · clear hP
            by_cases hz : bits BinOp.and IntKind.u64 (gone / 2 ^ k) 1 = 0
            · have HS := Lib.hid (HP.out.skip (gB_false hz))
              go_wp2
              go_roundw
              case rel => exact ⟨k + 1, left + 1, s, by omega, by omega, by go_num, by go_num, HS.out, hq, hB⟩
              case measure => simp [intOf]; omega
            · have C1 := Lib.hid (can_first wr hq hB.size HP.out hn2 (by omega) (gB_true hz) (fun i hi => (HG.out.2 i hi).1) hlt)
              have hz' : (bits BinOp.and IntKind.u64 (gone / 2 ^ k) 1 == 0) = false := by simpa using hz
              clear hq HP hz
              go_wp2_with fail
              refine C1.out.mono ?_
              rintro e w5 ⟨rfl, s', hP', hno, hq', hb'⟩
              replace hB := hB.trans (hb'.mono (Nat.le_refl _))
              have C2 := Lib.hid (can_again w5 hq' hB.size (by rw [hP'.m]; exact hn2) (hP'.short (by omega)) hno)
              have HP := Lib.hid hP'
              clear hP' hno hq' hb' C1
              go_wp2_with fail
              refine C2.out.mono ?_
              rintro e w6 ⟨rfl, hq', hb'⟩
              replace hB := hB.trans hb'
              clear hb' C2
              go_wp2
              go_roundw
              case rel => exact ⟨k + 1, left, s', by omega, by omega, by go_num, rfl, HP.out, hq', hB⟩
              case measure => simp [intOf]; omega
          · obtain rfl : k = n := by omega
            have HL := Lib.hid hP.lf
            clear hP HP
            go_wp2_with fail
            go_loopw [68] (fun i wr => ∃ (j r : Nat) (s : FQ), j + r = left ∧ i = .int .i64 j ∧ Lf nq X k (gB gone) r s ∧ QB wr w.heap.size bk s ∧ Below w.heap.size w wr) (fun i _ => left - (intOf i).toNat)
            case atStart => exact ⟨0, left, s, by omega, rfl, HL.out, hq, hB⟩
            case round =>
              clear HL hq hB
              obtain ⟨j, r, s, hjr, rfl, hL, hq, hB⟩ := hrel
              by_cases hlt : j < left
              · obtain ⟨r, rfl⟩ : ∃ r', r = r' + 1 := ⟨r - 1, by omega⟩
                have CN := Lib.hid (lf_next wr hq hB.size hL)
                clear hL hq
                go_wp2_with fail
                refine CN.out.mono ?_
                rintro e w5 ⟨t, i, s', rfl, hi, hg, hL', hq', hb'⟩
                have hz := gB_zero hg
                replace hB := hB.trans hb'
                have HL := Lib.hid hL'
                clear hL' hg hb' CN
                go_wp2
                go_roundw
                case rel => exact ⟨j + 1, r, s', by omega, by go_num, HL.out, hq', hB⟩
                case measure => simp [intOf]; omega
              · obtain rfl : j = left := by omega
                obtain rfl : r = 0 := by omega
                have CN := Lib.hid (q_next_none wr hq hL.gd hL.none)
                clear hL hq
                go_wp2_with fail
                refine CN.out.mono ?_
                rintro e w5 ⟨rfl, m, rfl⟩
                go_wp2_with (go_at_call 16; refine (is3 _).mono ?_; rintro e w1 ⟨rfl, rfl⟩)
                go_ret
                exact ⟨rfl, hB.trans (below_draw _ _ _)⟩
end Go.Proofs.Ytdcmkonmojiefaa

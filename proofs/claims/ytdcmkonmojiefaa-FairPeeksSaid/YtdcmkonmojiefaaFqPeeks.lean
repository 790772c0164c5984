/- The statement FairPeeks: the walk. Conditions: the two slices can be read, the number is one of 8 bits. -/
import Derived.Test.YtdcmkonmojiefaaFqPlay
namespace Go.Proofs.Ytdcmkonmojiefaa
open Go.RowKit
open Go.Proofs.Ytdcmkonmojiefaa.Fq

theorem list_eq_getD {α : Type} {a b : List α} {n : Nat} (d : α) (ha : a.length = n) (hb : b.length = n) (h : ∀ t, t < n → a.getD t d = b.getD t d) : a = b := by
  apply List.ext_getElem (by omega)
  intro i h1 h2
  have := h i (by omega)
  simpa [List.getD, h1, h2] using this
theorem Fil.det {Q : Nat → Int} {n k : Nat} {X : Nat → Nat → Int} {s s' : FQ} (h : Fil Q n X k s) (h' : Fil Q n X k s') : s = s' := by
  obtain ⟨q, d, l, c, b⟩ := s
  obtain ⟨q', d', l', c', b'⟩ := s'
  have e1 : q = q' := h.qn.trans h'.qn.symm
  have e2 : d = d' := list_eq_getD 0 (h.gd.ld.trans h.m) (h'.gd.ld.trans h'.m) (fun t _ => (h.df t).trans (h'.df t).symm)
  have e3 : l = l' := list_eq_getD [] h.m h'.m (fun t ht => (h.ls t ht).trans (h'.ls t ht).symm)
  have e4 : c = c' := h.cur.trans h'.cur.symm
  have e5 : b = b' := h.bg.trans h'.bg.symm
  subst e1; subst e2; subst e3; subst e4; subst e5; rfl
/-- What Peek and Next tell of a state. -/
def Pick (s : FQ) (t id : Int) : Prop := ∃ s1 en r, Chs s s1 ∧ s1.lst s1.cur = en :: r ∧ t = s1.cur ∧ id = en.1
theorem Pick.det {s : FQ} {t id t' id' : Int} (h : Pick s t id) (h' : Pick s t' id') : t = t' ∧ id = id' := by
  obtain ⟨s1, en, r, hc, hl, rfl, rfl⟩ := h
  obtain ⟨s2, en2, r2, hc2, hl2, rfl, rfl⟩ := h'
  obtain rfl := hc.det hc2
  rw [hl] at hl2
  simp at hl2
  exact ⟨rfl, by rw [hl2.1]⟩
def PeekP (s : FQ) (w : World) (e : Ending) (w' : World) : Prop := ∃ t id, e = .returned (.tuple #[.int .i64 t, .int .i64 id, .nilIface]) ∧ Pick s t id ∧ Below w.heap.size w w'
theorem peek_pick {lo hi b : Nat} {s : FQ} (w : World) (h : QI w lo hi b s) (g : Gd s) {t0 : Nat} (ht0 : t0 < s.m) (hne : s.lst t0 ≠ []) :
    Calls Try.prog 15 #[.pointer (some ⟨b, 0, none⟩)] w (PeekP s w) :=
  (q_peek w h.qb g ht0 hne).mono fun _ _ ⟨s1, en, r, hc, hl, he, hb⟩ => ⟨_, _, he, ⟨s1, en, r, hc, hl, rfl, rfl⟩, hb⟩
theorem i_deficit {w : World} {lo hi b : Nat} {s : FQ} (t : Int) (h : QI w lo hi b s) : Calls Try.prog 17 #[.pointer (some ⟨b, 0, none⟩), .int .i64 t] w fun e w' => e = .returned (.int .i64 (dfI s t)) ∧ ∃ n, w' = w.drewN n := q_deficit t w h.qb
theorem i_length {w : World} {lo hi b : Nat} {s : FQ} (t : Int) (h : QI w lo hi b s) : Calls Try.prog 13 #[.pointer (some ⟨b, 0, none⟩), .int .i64 t] w fun e w' => e = .returned (.int .i64 (lnI s t)) ∧ ∃ n, w' = w.drewN n := q_length t w h.qb
theorem QI.drewN {w : World} {lo hi b : Nat} {s : FQ} (h : QI w lo hi b s) (m : Nat) : QI (w.drewN m) lo hi b s := h.keep fun _ _ _ _ => rfl

set_option maxHeartbeats 2000000 in
set_option maxRecDepth 100000 in
theorem peeks_walk {aoq ao : Option Addr} {nq cq bq offq n c b off : Nat} {Q : Nat → Int} {X : Nat → Nat → Int} (tm : Int) (w : World) (hQ : IsInts w aoq nq bq offq Q) (hX : IsSteps w ao n b off X) (hnq : nq ≤ 9223372036854775807) (hn : n ≤ 9223372036854775807) (htm : 0 ≤ tm ∧ tm ≤ 255) :
    Calls Try.prog 7 #[.slice aoq nq cq, .slice ao n c, .int .u8 tm] w fun e w' => e = .returned (.bool true) ∧ Below w.heap.size w w' := by
  have HQ := Lib.hid hQ
  have HX := Lib.hid hX
  clear hQ hX
  have CL := Lib.hid (fun (w' : World) (hb : Below w.heap.size w w') => long_any (cq := cq) (c := c) w' (HQ.out.below hb (Nat.le_refl _)) (HX.out.below hb (Nat.le_refl _)) hnq hn)
  by_cases hlong : longB Q nq n X = true
  · rw [hlong] at CL
    clear hlong
    go_enter Try.func7, Try.ntmps7
    go_wp2_with fail
    refine (CL.out _ (Below.refl _ _)).mono ?_
    rintro e w1 ⟨rfl, hb⟩
    go_wp2_with fail
    refine (CL.out _ hb).mono ?_
    rintro e w2 ⟨rfl, hb2⟩
    have hB := hb.trans (hb2.mono hb.size)
    go_wp2
    go_ret
    exact ⟨rfl, hB⟩
  · replace hlong : longB Q nq n X = false := by simpa using hlong
    rw [hlong] at CL
    clear hlong
    by_cases hbig : 60 < n
    · go_enter Try.func7, Try.ntmps7
      go_wp2_with fail
      refine (CL.out _ (Below.refl _ _)).mono ?_
      rintro e w1 ⟨rfl, hb⟩
      go_wp2_with fail
      refine (CL.out _ hb).mono ?_
      rintro e w2 ⟨rfl, hb2⟩
      have hB := hb.trans (hb2.mono hb.size)
      go_wp2
      go_ret
      exact ⟨rfl, hB⟩
    · go_enter Try.func7, Try.ntmps7
      go_wp2_with fail
      refine (CL.out _ (Below.refl _ _)).mono ?_
      rintro e w1 ⟨rfl, hb⟩
      have hd : decide ((60 : Int) < (n : Int)) = false := by simp; omega
      go_wp2_with fail
      refine (awake_any _).mono ?_
      rintro e w2 ⟨rfl, hb2⟩
      have hB := hb.trans (hb2.mono hb.size)
      clear hb hb2 CL
      have CF := Lib.hid (fun (w' : World) (hB : Below w.heap.size w w') => filled_any (cq := cq) (c := c) w' (HQ.out.below hB (Nat.le_refl _)) (HX.out.below hB (Nat.le_refl _)) hnq (by omega))
      go_wp2_with fail
      refine (CF.out w2 hB).mono ?_
      rintro e w3 ⟨hb3, ⟨rfl, hng⟩ | ⟨bk, s, rfl, hg, hq, hf⟩⟩
      · have hB3 := hB.trans (hb3.mono hB.size)
        have HNG := Lib.hid hng
        clear hng
        go_wp2_with fail
        refine (CF.out w3 hB3).mono ?_
        rintro e w4 ⟨hb4, ⟨rfl, hng⟩ | ⟨bk, s, rfl, hg, _⟩⟩
        · have hB4 := hB3.trans (hb4.mono hB3.size)
          clear hng
          go_wp2
          go_ret
          exact ⟨rfl, hB4⟩
        · exact absurd hg HNG.out
      · have hB3 := hB.trans (hb3.mono hB.size)
        replace hq := (hq.mono hB.size).qi
        have hlo := hB3.size
        clear hb3 hB
        have HG := Lib.hid hg
        have HF := Lib.hid hf
        clear hg hf
        go_wp2_with fail
        refine (CF.out w3 hB3).mono ?_
        rintro e w4 ⟨hb4, ⟨rfl, hng⟩ | ⟨bk2, s2, rfl, hg2, hq2, hf2⟩⟩
        · exact absurd HG.out hng
        · obtain rfl := HF.out.det hf2
          have hB4 := hB3.trans (hb4.mono hB3.size)
          replace hq := hq.below hb4 (Nat.le_refl _)
          replace hq2 := hq2.qi
          have hlo2 := hb4.size
          have HP := Lib.hid hf2.pl
          have hn1 : 1 ≤ nq := hg2.1.1
          have hn2 : nq ≤ 16 := hg2.1.2.1
          clear hb4 hf2 HF CF hg2
          generalize w3.heap.size = hi1 at hq hq2 hlo hlo2
          generalize hh2 : w4.heap.size = hi2 at hq2 hlo2
          have lw : hi2 ≤ w4.heap.size := by omega
          clear hh2
          go_wp2_with fail
          go_loopw [64] (fun i wr => ∃ (j : Nat) (s : FQ), j ≤ n ∧ i = .int .i64 j ∧ Pl nq X n j s ∧ QI wr w.heap.size hi1 bk s ∧ QI wr hi1 hi2 bk2 s ∧ Below w.heap.size w wr ∧ hi2 ≤ wr.heap.size) (fun i _ => n - (intOf i).toNat)
          case atStart => exact ⟨0, s, Nat.zero_le _, rfl, HP.out, hq, hq2, hB4, lw⟩
          case round =>
            clear HP hq hq2 hB4 lw hB3
            obtain ⟨j, s, hj, rfl, hP, hq, hq2, hB, lw⟩ := hrel
            by_cases hlt : j < n
            · obtain ⟨t0, ht0, hne⟩ := hP.some hlt
              have HP := Lib.hid (And.intro hP (And.intro ht0 hne))
              clear hP ht0 hne
              have CP := Lib.hid (fun wx (h : QI wx w.heap.size hi1 bk s) => peek_pick wx h HP.out.1.gd HP.out.2.1 HP.out.2.2)
              go_wp2_with fail
              refine (CP.out _ hq).mono ?_
              rintro e w5 ⟨t, id, rfl, hpk, hb5⟩
              replace hq := hq.below hb5 (by omega)
              replace hq2 := hq2.below hb5 lw
              replace hB := hB.trans (hb5.mono hB.size)
              replace lw := Nat.le_trans lw hb5.size
              have HK := Lib.hid hpk
              clear hpk hb5
              go_wp2_with fail
              obtain ⟨cn, hcn, hcn4⟩ : ∃ cn : Nat, tm % 4 = cn ∧ cn < 4 := ⟨(tm % 4).toNat, by omega, by omega⟩
              rw [hcn]
              clear hcn
              go_loopw [75, 11, 12, 13] (fun i t' id' e' wr => ∃ (k : Nat), k ≤ cn ∧ i = .int .i64 k ∧ t' = .int .i64 t ∧ id' = .int .i64 id ∧ e' = .nilIface ∧ QI wr w.heap.size hi1 bk s ∧ QI wr hi1 hi2 bk2 s ∧ Below w.heap.size w wr ∧ hi2 ≤ wr.heap.size) (fun i _ _ _ _ => cn - (intOf i).toNat)
              case atStart => exact ⟨0, Nat.zero_le _, rfl, rfl, rfl, rfl, hq, hq2, hB, lw⟩
              case round =>
                clear hq hq2 hB lw
                obtain ⟨k, hk, rfl, rfl, rfl, rfl, hq, hq2, hB, lw⟩ := hrel
                by_cases hlt : k < cn
                · go_wp2_with fail
                  refine (CP.out _ hq).mono ?_
                  rintro e w6 ⟨t2, id2, rfl, hpk, hb5⟩
                  obtain ⟨rfl, rfl⟩ := HK.out.det hpk
                  replace hq := hq.below hb5 (by omega)
                  replace hq2 := hq2.below hb5 lw
                  replace hB := hB.trans (hb5.mono hB.size)
                  replace lw := Nat.le_trans lw hb5.size
                  clear hpk hb5
                  go_wp2
                  go_roundw
                  case rel => exact ⟨k + 1, by omega, by go_num, rfl, rfl, rfl, hq, hq2, hB, lw⟩
                  case measure => simp [intOf]; omega
                · obtain rfl : k = cn := by omega
                  go_wp2_with fail
                  go_loopw [86] (fun i wr => ∃ (k : Nat), k ≤ nq ∧ i = .int .i64 k ∧ QI wr w.heap.size hi1 bk s ∧ QI wr hi1 hi2 bk2 s ∧ Below w.heap.size w wr ∧ hi2 ≤ wr.heap.size) (fun i _ => nq - (intOf i).toNat)
                  case atStart => exact ⟨0, Nat.zero_le _, rfl, hq, hq2, hB, lw⟩
                  case round =>
                    clear hq hq2 hB lw
                    obtain ⟨k2, hk2, rfl, hq, hq2, hB, lw⟩ := hrel
                    by_cases hlt : k2 < nq
                    · have D1 := Lib.hid (fun wx (h : QI wx w.heap.size hi1 bk s) => i_deficit (k2 : Int) h)
                      have D2 := Lib.hid (fun wx (h : QI wx hi1 hi2 bk2 s) => i_deficit (k2 : Int) h)
                      have L1 := Lib.hid (fun wx (h : QI wx w.heap.size hi1 bk s) => i_length (k2 : Int) h)
                      have L2 := Lib.hid (fun wx (h : QI wx hi1 hi2 bk2 s) => i_length (k2 : Int) h)
                      generalize dfI s (k2 : Int) = dv at D1 D2
                      generalize lnI s (k2 : Int) = lv at L1 L2
                      go_wp2_with fail
                      refine (D1.out _ hq).mono ?_
                      rintro e w7 ⟨rfl, m1, rfl⟩
                      go_wp2_with fail
                      refine (D2.out _ (by exact hq2.drewN _)).mono ?_
                      rintro e w7 ⟨rfl, m2, rfl⟩
                      go_wp2_with fail
                      refine (L1.out _ (by exact hq.drewN _)).mono ?_
                      rintro e w7 ⟨rfl, m3, rfl⟩
                      go_wp2_with fail
                      refine (L2.out _ (by exact hq2.drewN _)).mono ?_
                      rintro e w7 ⟨rfl, m4, rfl⟩
                      go_wp2
                      go_roundw
                      case rel => exact ⟨k2 + 1, by omega, by go_num, hq.drewN _, hq2.drewN _, hB.trans (below_draw _ _ _), lw⟩
                      case measure => simp [intOf]; omega
                    · obtain rfl : k2 = nq := by omega
                      have CN := Lib.hid (i_next wr hq2 HP.out.1.gd HP.out.2.1 HP.out.2.2)
                      go_wp2_with fail
                      refine CN.out.mono ?_
                      rintro e w7 ⟨s1, en, r, hc, hl, rfl, hq7, ho7⟩
                      replace hq := hq.keep (w' := w7) (fun x hx _ h2 => Only.block ho7 x hx (by omega))
                      have lw7 : hi2 ≤ w7.heap.size := Nat.le_trans lw ho7.size
                      have hB7 := hB.trans ((ho7.below (by omega)).mono hlo)
                      have HC := Lib.hid (And.intro hc hl)
                      have CN := Lib.hid (i_next w7 hq HP.out.1.gd HP.out.2.1 HP.out.2.2)
                      obtain ⟨e1, e2⟩ := HK.out.det ⟨s1, en, r, hc, hl, rfl, rfl⟩
                      subst e1; subst e2
                      clear hc hl hq hq2 ho7 hB lw
                      go_wp2_with fail
                      refine CN.out.mono ?_
                      rintro e w8 ⟨s2, en2, r2, hc2, hl2, rfl, hq8, ho8⟩
                      obtain rfl := HC.out.1.det hc2
                      obtain ⟨rfl, rfl⟩ : en = en2 ∧ r = r2 := by have := HC.out.2.symm.trans hl2; simpa using this
                      have hP2 := (HP.out.1.next hc2 hl2).1
                      replace hq7 := hq7.keep (w' := w8) (fun x hx h1 _ => Only.block ho8 x hx (by omega))
                      have HX2 := Lib.hid (And.intro hP2 (And.intro hq8 (And.intro hq7 (And.intro (hB7.trans (ho8.below (by omega))) (Nat.le_trans lw7 ho8.size)))))
                      clear hP2 hq8 hq7 hB7 lw7 ho8 hc2 hl2 HC CN CP
                      generalize s1.cur = cu
                      generalize en.1 = ei
                      go_wp2
                      go_roundw
                      case rel => exact ⟨j + 1, _, by omega, by go_num, HX2.out.1, HX2.out.2.1, HX2.out.2.2.1, HX2.out.2.2.2.1, HX2.out.2.2.2.2⟩
                      case measure => simp [intOf]; omega
            · obtain rfl : j = n := by omega
              clear hP hq hq2
              go_wp2
              go_ret
              exact ⟨rfl, hB⟩
end Go.Proofs.Ytdcmkonmojiefaa

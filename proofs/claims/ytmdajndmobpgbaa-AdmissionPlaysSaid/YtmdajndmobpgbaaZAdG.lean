/- admission: When. Conditions: the admission lies in memory as 'AdAt' says, and is good. -/
import Derived.Test.YtmdajndmobpgbaaZAdF
namespace Go.Proofs.Ytmdajndmobpgbaa
open Go.RowKit
open Go.Proofs.Ytmdajndmobpgbaa.Fq
open Go.Proofs.Ytmdajndmobpgbaa.Bk

def WV : Option Int → Value → Value → Prop
  | none, bv, sv => bv = .int .i64 0 ∧ sv = .bool false
  | some x, bv, sv => bv = .int .i64 x ∧ sv = .bool true
section
variable {w w' w1 w2 : World} {b : Nat} {m : AM} {s : AS}
theorem AdAt.cb (h : AdAt w b m s) {t : Nat} (ht : t < s.m) {g off n cap : Nat} (hv : m.vb = .slice (some ⟨g, off, none⟩) n cap) (hn : n = s.m) : w.cell? ⟨g, off + t, none⟩ = some (.pointer (some ⟨m.bkb.getD t 0, 0, none⟩)) := by
  subst hn
  have hp := h.hp
  rw [hv] at hp
  rw [OL.cell hp t (by omega), List.getElem?_map, List.getElem?_eq_getElem (by rw [h.lb]; exact ht), List.getD_eq_getElem?_getD, List.getElem?_eq_getElem (by rw [h.lb]; exact ht)]
  rfl
theorem awhen_nil (now : Int) (w : World) : Calls Try.prog 19 #[.pointer none, .int .i64 now] w fun e w' => e = .returned (.tuple #[.int .i64 0, errV 3]) ∧ w' = w := by
  go_enter Try.func19, Try.ntmps19
  go_wp2
  go_ret2
  exact ⟨rfl, rfl⟩
theorem wBest_succ (s : AS) (now : Int) (k : Nat) : wBest s now (k + 1) = wStep s now k (wBest s now k) := rfl
set_option maxRecDepth 100000 in
set_option maxHeartbeats 1600000 in
theorem awhen_any (now : Int) (h : AdAt w b m s) (ok : AOk s) : Calls Try.prog 19 #[.pointer (some ⟨b, 0, none⟩), .int .i64 now] w fun e w' => e = .returned (whenV s now) ∧ ∃ n, w' = w.drewN n := by
  have hm16 : s.m ≤ 16 := by rw [← ok.lf]; exact ok.g.m2
  have hm1 : 1 ≤ s.m := by rw [← ok.lf]; exact ok.g.m1
  have H := Lib.hid h
  have OK := Lib.hid ok
  have c4 := h.cells.2.2.2.2.1
  obtain ⟨gb, ob, cb, hvb, _, _, _⟩ := OL.form h.hp hm1
  have c1 := h.cells.2.1
  rw [hvb] at c1
  have HVB := Lib.hid hvb
  clear h ok hvb
  go_enter Try.func19, Try.ntmps19
  go_wp2_with fail
  go_loopw [20, 6, 7] (fun iv bv sv wr => ∃ k n : Nat, k ≤ s.m ∧ iv = .int .i64 k ∧ WV (wBest s now k) bv sv ∧ wr = w.drewN n) (fun iv _ _ _ => s.m - (intOf iv).toNat)
  case atStart => exact ⟨0, 0, Nat.zero_le _, rfl, ⟨rfl, rfl⟩, rfl⟩
  case round =>
    obtain ⟨k, n, hk, rfl, hW, hw⟩ := hrel
    clear c1 c4
    have HR := Lib.hid (show AdAt wr b m s by rw [hw]; exact H.out.belowS (below_draw _ w n))
    have HW := Lib.hid hw
    have c4 := HR.out.cells.2.2.2.2.1
    have c1 := HR.out.cells.2.1
    rw [HVB.out] at c1
    clear hw
    by_cases hlt : k < s.m
    · have cq := HR.out.cq hlt
      obtain ⟨ao, cap, hv, _⟩ := (HR.out.hq k hlt).form
      rw [hv] at cq
      clear hv
      have HS := Lib.hid (wBest_succ s now k)
      have kI : (k : Int) < (s.m : Int) := by omega
      have kI0 : (0 : Int) ≤ (k : Int) := by omega
      by_cases hq : s.q k = []
      · have HB : Hid (wBest s now (k + 1) = wBest s now k) := Lib.hid (by rw [HS.out]; unfold wStep; rw [if_pos hq])
        rw [hq] at cq
        clear hq HS
        generalize wBest s now k = o at *
        rcases o with _ | x
        all_goals
          obtain ⟨rfl, rfl⟩ := hW
          go_wp2_with fail
          go_roundw
          case rel => exact ⟨k + 1, n, by omega, by go_num, by rw [HB.out]; exact ⟨rfl, rfl⟩, HW.out⟩
          case measure => simp [intOf]; omega
      · have hql : 0 < (s.q k).length := List.length_pos_iff.2 hq
        obtain ⟨en, r, hqe⟩ : ∃ en r, s.q k = en :: r := by
          cases hqq : s.q k with
          | nil => exact absurd hqq hq
          | cons a l => exact ⟨a, l, rfl⟩
        have hl6 := OK.out.len k hlt
        have hcb := HR.out.cb hlt HVB.out rfl
        have CP := Lib.hid (fun n => price_any (HR.out.belowS (below_draw _ wr n)) hlt hm16 hqe (by omega))
        have CW := Lib.hid (fun n => when_any (m.bkb.getD k 0) _ _ _ _ _ now (priceOf s k) (wr.drewN n) ((HR.out.belowS (below_draw _ wr n)).hk k hlt) (OK.out.bok k hlt))
        have HB : Hid (wBest s now (k + 1) = if whenE (s.shr k).b (s.shr k).t (s.shr k).k (s.bkt k).1 (s.bkt k).2 now (priceOf s k) = 0 then wPick (whenT (s.shr k).b (s.shr k).t (s.shr k).k (s.bkt k).1 (s.bkt k).2 now (priceOf s k)) (wBest s now k) else wBest s now k) := Lib.hid (by rw [HS.out]; unfold wStep; rw [if_neg hq])
        clear hq HS hqe
        have hl1 : (0 : Int) < ((s.q k).length : Int) := by omega
        have d0 : (((s.q k).length : Int) == 0) = false := by rw [beq_eq_false_iff_ne]; omega
        generalize (s.q k).length = nl at *
        generalize whenT (s.shr k).b (s.shr k).t (s.shr k).k (s.bkt k).1 (s.bkt k).2 now (priceOf s k) = T at *
        generalize whenE (s.shr k).b (s.shr k).t (s.shr k).k (s.bkt k).1 (s.bkt k).2 now (priceOf s k) = E at *
        generalize priceOf s k = p at *
        generalize m.bkb.getD k 0 = bb at *
        go_upto_region 8 with fail
        go_quiet ((first | (go_at_call 44; exact Calls.quiet_of (CP.out _)) | (go_at_call 48; exact Calls.quiet_of (CW.out _))))
        clear CP CW hcb cq
        generalize wBest s now k = o at *
        by_cases hE : E = 0
        · subst hE
          rw [if_pos rfl] at HB
          rw [errV0]
          rcases o with _ | x
          · obtain ⟨rfl, rfl⟩ := hW
            go_wp2_with fail
            go_roundw
            case rel => exact ⟨k + 1, _, by omega, by go_num, by rw [HB.out]; exact ⟨rfl, rfl⟩, by rw [HW.out, World.drewN_drewN]⟩
            case measure => simp [intOf]; omega
          · obtain ⟨rfl, rfl⟩ := hW
            by_cases hlt2 : T < x
            · have HB2 : Hid (wBest s now (k + 1) = some T) := Lib.hid (HB.out.trans (if_pos hlt2))
              have d2 : decide (T < x) = true := decide_eq_true hlt2
              clear HB
              go_wp2_with fail
              go_roundw
              case rel => exact ⟨k + 1, _, by omega, by go_num, by rw [HB2.out]; exact ⟨rfl, rfl⟩, by rw [HW.out, World.drewN_drewN]⟩
              case measure => simp [intOf]; omega
            · have HB2 : Hid (wBest s now (k + 1) = some x) := Lib.hid (HB.out.trans (if_neg hlt2))
              have d2 : decide (T < x) = false := decide_eq_false hlt2
              clear HB
              go_wp2_with fail
              go_roundw
              case rel => exact ⟨k + 1, _, by omega, by go_num, by rw [HB2.out]; exact ⟨rfl, rfl⟩, by rw [HW.out, World.drewN_drewN]⟩
              case measure => simp [intOf]; omega
        · rw [errV_pos hE]
          rw [if_neg hE] at HB
          clear hE
          rcases o with _ | x
          all_goals
            obtain ⟨rfl, rfl⟩ := hW
            go_wp2_with fail
            go_roundw
            case rel => exact ⟨k + 1, _, by omega, by go_num, by rw [HB.out]; exact ⟨rfl, rfl⟩, by rw [HW.out, World.drewN_drewN]⟩
            case measure => simp [intOf]; omega
    · obtain rfl : k = s.m := by omega
      have HV : Hid (whenV s now = whenVO (wBest s now s.m)) := Lib.hid rfl
      generalize wBest s now s.m = o at *
      rcases o with _ | x
      · obtain ⟨rfl, rfl⟩ := hW
        go_wp2
        go_ret2
        rw [HV.out]
        exact ⟨rfl, n, HW.out⟩
      · obtain ⟨rfl, rfl⟩ := hW
        go_wp2
        go_ret2
        rw [HV.out]
        exact ⟨rfl, n, HW.out⟩
end
end Go.Proofs.Ytmdajndmobpgbaa

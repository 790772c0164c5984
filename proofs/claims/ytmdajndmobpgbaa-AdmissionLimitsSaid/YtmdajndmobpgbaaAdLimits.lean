/- admission: the statement AdmissionLimits: the walk. Conditions: the arguments can be read; the script's bytes are within the reach. -/
import Derived.Test.YtmdajndmobpgbaaAdOrders
namespace Go.Proofs.Ytmdajndmobpgbaa
open Go.RowKit Go.Maps
open Go.Proofs.Ytmdajndmobpgbaa.Fq
open Go.Proofs.Ytmdajndmobpgbaa.Bk

theorem win_step {l : List Bg} {i k : Nat} (hik : i ≤ k) (hk : k < l.length) : (l.take (k + 1)).drop i = (l.take k).drop i ++ [bgAt l k] := by
  rw [List.take_succ_eq_append_getElem hk, List.drop_append_of_le_length (by rw [List.length_take]; omega), bgAt_get hk]
theorem sumB_le {t : Int} : ∀ {l : List Bg}, (∀ b ∈ l, 0 ≤ b.p ∧ b.p ≤ 1048576) → 0 ≤ sumB t l ∧ sumB t l ≤ 1048576 * (l.length : Int)
  | [], _ => by simp [sumB]
  | b :: l, h => by
    have h1 := h b (by simp)
    have h2 := sumB_le (t := t) (l := l) fun x hx => h x (by simp [hx])
    show 0 ≤ (if b.t = t then b.p else 0) + sumB t l ∧ (if b.t = t then b.p else 0) + sumB t l ≤ _
    rw [List.length_cons]
    split <;> (push_cast; omega)
/-- The prices of the i-th one's tenant from the i-th on, j of them seen. -/
def sumW (l : List Bg) (i j : Nat) : Int := sumB (bgAt l i).t ((l.take (i + j)).drop i)
theorem sumW_zero (l : List Bg) (i : Nat) : sumW l i 0 = 0 := by
  unfold sumW
  rw [Nat.add_zero, List.drop_eq_nil_of_le (by rw [List.length_take]; omega)]
  rfl
theorem sumW_succ {l : List Bg} {i j : Nat} (h : i + j < l.length) : sumW l i (j + 1) = sumW l i j + if (bgAt l (i + j)).t = (bgAt l i).t then (bgAt l (i + j)).p else 0 := by
  unfold sumW
  rw [← Nat.add_assoc, win_step (Nat.le_add_right i j) h, sumB_append, sumB_one]
theorem sumW_bd {X : Nat → Nat → Int} {ns : Nat} {l : List Bg} (h : GoodB X ns l) (i j : Nat) : 0 ≤ sumW l i j ∧ sumW l i j ≤ 1048576 * 128000 := by
  have h1 := sumB_le (t := (bgAt l i).t) (l := (l.take (i + j)).drop i) fun b hb => by
    have := h.ob b (List.mem_of_mem_take (List.mem_of_mem_drop hb))
    omega
  have h2 : ((l.take (i + j)).drop i).length ≤ 128000 := by
    rw [List.length_drop, List.length_take]
    have := h.ln
    omega
  unfold sumW
  omega
theorem mul_bd {x K lo hi : Int} (h0 : 0 ≤ K) (h1 : lo ≤ x) (h2 : x ≤ hi) : lo * K ≤ x * K ∧ x * K ≤ hi * K := ⟨Int.mul_le_mul_of_nonneg_right h1 h0, Int.mul_le_mul_of_nonneg_right h2 h0⟩
section
variable {ao aos : Option Addr} {n b0 off cap ns bs offs caps : Nat} {X Y : Nat → Nat → Int}
set_option maxRecDepth 100000 in
set_option maxHeartbeats 3200000 in
theorem limits_walk (slots : Int) (w : World) (hX : IsSh w aos ns bs offs X) (hY : IsSc w ao n b0 off Y) (hns : ns ≤ 9223372036854775807) (hn : n ≤ 4398046511104) :
    Calls Try.prog 6 #[setupV aos ns caps slots, .slice ao n cap] w (AwP w) := by
  have HX := Lib.hid hX
  have HY := Lib.hid hY
  clear hX hY
  have HS := Lib.hid (fun (w1 : World) (hb : Below (w.heap.size + 1) (w.alloc (Obj.cells #[.slice aos ns caps, .int .i64 slots] 48)) w1) => set_at w slots hb)
  have hz : (w.alloc (Obj.cells #[.slice aos ns caps, .int .i64 slots] 48)).heap.size = w.heap.size + 1 := by simp
  have HZ := Lib.hid hz
  have S0 := Lib.hid (HS.out (w.alloc (Obj.cells #[.slice aos ns caps, .int .i64 slots] 48)) (Below.refl _ _))
  obtain ⟨_, x0, x1⟩ := S0.out
  have LG := Lib.hid (fun (w1 : World) (h : SetAt w aos ns caps slots w.heap.size w1) => long_any (cap := cap) (caps := caps) slots w1 (HX.out.below h.be (Nat.le_refl _)) (HY.out.below h.be (Nat.le_refl _)) hns hn)
  unfold setupV at LG ⊢
  by_cases hl : longA X ns Y n = true
  · rw [hl] at LG
    go_enter Try.func6, Try.ntmps6
    go_wp2_with fail
    refine (LG.out _ S0.out).mono ?_
    rintro e w1 ⟨rfl, hb1⟩
    have hb1' := hb1.mono (Nat.le_of_eq HZ.out.symm)
    obtain ⟨_, y0, y1⟩ := HS.out w1 hb1'
    have HB1 := Lib.hid hb1'
    clear hb1 hb1' hz x0 x1
    go_wp2_with fail
    refine (LG.out _ (HS.out _ HB1.out)).mono ?_
    rintro e w2 ⟨rfl, hb2⟩
    have hb2' : Below (w.heap.size + 1) w1 w2 := hb2.mono (by rw [← HZ.out]; exact HB1.out.size)
    have HP : Hid (AwP w (.returned (.bool true)) w2) := Lib.hid ⟨rfl, (HS.out w2 (HB1.out.trans hb2')).be⟩
    clear hb2 hb2' y0 y1 LG HB1 HS
    go_wp2
    go_ret
    exact HP.out
  · have hl' : longA X ns Y n = false := by simpa using hl
    obtain ⟨hn5, hs2⟩ := longA_false hl'
    rw [hl'] at LG
    go_enter Try.func6, Try.ntmps6
    go_wp2_with fail
    refine (LG.out _ S0.out).mono ?_
    rintro e w1 ⟨rfl, hb1⟩
    have HB1 := Lib.hid (hb1.mono (Nat.le_of_eq HZ.out.symm))
    clear hb1 hz x0 x1 hl hl' LG
    go_wp2_with fail
    refine (awake_any w1).mono ?_
    rintro e w2 ⟨rfl, hb2⟩
    have HB2 := Lib.hid (HB1.out.trans (hb2.mono (by rw [← HZ.out]; exact HB1.out.size)))
    obtain ⟨be2, y0, y1⟩ := HS.out w2 HB2.out
    have RN := Lib.hid (run_any (caps := caps) (cap := cap) slots w2 (HX.out.below be2 (Nat.le_refl _)) (HY.out.below be2 (Nat.le_refl _)) hs2 hn5)
    unfold setupV at RN
    clear hb2 HB1 be2
    go_wp2_with fail
    refine RN.out.mono ?_
    rintro e w3 ⟨v, out, rfl, hG, hgood, hb3⟩
    obtain ⟨va, vc, rfl⟩ := OL.shape hG
    have HB3 : Hid (Below w.heap.size w w3) := Lib.hid (HS.out w3 (HB2.out.trans (hb3.mono (by rw [← HZ.out]; exact HB2.out.size)))).be
    have HG := Lib.hid hG
    have HGD := Lib.hid hgood
    have HS3 := Lib.hid (HS.out w3 (HB2.out.trans (hb3.mono (by rw [← HZ.out]; exact HB2.out.size))))
    have HX3 := Lib.hid (HX.out.below HS3.out.be (Nat.le_refl _))
    clear hb3 hG hgood RN HB2 HS HX HY HZ y0 y1
    go_wp2_with fail
    have hlen := HG.out
    go_loopw [33] (fun iv wr => ∃ (i : Nat), i ≤ out.length ∧ iv = .int .i64 i ∧ Below w3.heap.size w3 wr) (fun iv _ => out.length - (intOf iv).toNat)
    case atStart => exact ⟨0, Nat.zero_le _, rfl, Below.refl _ _⟩
    case round =>
      clear hlen
      obtain ⟨i, hi, rfl, hb⟩ := hrel
      by_cases hlt : i < out.length
      · obtain ⟨gv, offv, rfl⟩ : ∃ g off, va = some ⟨g, off, none⟩ := by
          obtain ⟨a, c', e, h2, _⟩ := HG.out.form
          cases e
          exact h2 (by omega)
        have hvc : out.length ≤ vc := by
          obtain ⟨a, c', e, _, h3, _⟩ := HG.out.form
          cases e
          exact h3
        have HGW := Lib.hid (fun (w' : World) (h : Below w3.heap.size w3 w') => HG.out.belowS h)
        obtain ⟨c0, c1, c2, c3⟩ := (HG.out.belowS hb).at_ hlt rfl
        obtain ⟨⟨tn, ht, htn⟩, p1, p2, a1, a2, l1, l2⟩ := HGD.out.ob _ (bgAt_mem hlt)
        obtain ⟨⟨B1, B2⟩, ⟨T1, T2⟩, K1, K2⟩ := HGD.out.sh (by intro e; rw [e] at hlt; simp at hlt) tn htn
        have HW := Lib.hid (HGD.out.win tn htn)
        have hXr := HX3.out.below hb (Nat.le_refl _)
        obtain rfl := hXr.ao (by omega)
        obtain ⟨t0, t1, t2, t3⟩ := hXr.cells htn
        obtain ⟨_, s0, _⟩ := HS3.out.on hb
        rw [ht] at c0
        have ll := HGD.out.ln
        have HWF := Lib.hid (fun j (h : i + j < out.length) (hj : (bgAt out (i + j)).t = (tn : Int)) => show (sumW out i (j + 1) - X tn 0) * X tn 2 ≤ ((bgAt out (i + j)).at_ - (bgAt out i).at_) * X tn 1 from by
          have := HW.out i (i + j) (Nat.le_add_right i j) h ht hj
          unfold sumW
          rw [ht]
          exact this)
        have hba : Below wr.heap.size wr (wr.alloc (.cells #[.int .i64 tn, .int .i64 (bgAt out i).p, .int .i64 (bgAt out i).at_, .int .i64 (bgAt out i).pl] 76)) := by go_grown
        have hbb : Below wr.heap.size wr ((wr.alloc (.cells #[.int .i64 tn, .int .i64 (bgAt out i).p, .int .i64 (bgAt out i).at_, .int .i64 (bgAt out i).pl] 76)).alloc (.cells #[.int .i64 (X tn 0), .int .i64 (X tn 1), .int .i64 (X tn 2), .int .i64 (X tn 3)] 77)) := by go_grown
        obtain ⟨_, r0, _⟩ := (HS3.out.on (hb.trans (hba.mono hb.size)))
        obtain ⟨q0, q1, q2, q3⟩ := (HX3.out.below (hb.trans (hba.mono hb.size)) (Nat.le_refl _)).cells htn
        generalize (bgAt out i).p = p at *
        generalize (bgAt out i).at_ = a at *
        generalize (bgAt out i).pl = pl at *
        generalize X tn 0 = B at *
        generalize X tn 1 = T at *
        generalize X tn 2 = K at *
        generalize X tn 3 = Q at *
        go_wp2_with fail
        have hz1 : (wr.alloc (.cells #[.int .i64 tn, .int .i64 p, .int .i64 a, .int .i64 pl] 76)).heap.size = wr.heap.size + 1 := by simp
        have hy := has_alloc (heap_alloc_new wr (.cells #[.int .i64 tn, .int .i64 p, .int .i64 a, .int .i64 pl] 76)) (.cells #[.int .i64 B, .int .i64 T, .int .i64 K, .int .i64 Q] 77)
        have hw := heap_alloc_new (wr.alloc (.cells #[.int .i64 tn, .int .i64 p, .int .i64 a, .int .i64 pl] 76)) (.cells #[.int .i64 B, .int .i64 T, .int .i64 K, .int .i64 Q] 77)
        rw [hz1] at hw
        have hb5 := Lib.hid (hb.trans (hbb.mono hb.size))
        have HSW := Lib.hid (sumW_zero out i)
        have HST := Lib.hid (fun j (h : i + j < out.length) => sumW_succ h)
        have HBD := Lib.hid (fun j => sumW_bd HGD.out i j)
        have HWN := Lib.hid (fun j (h : i + j < out.length) (hj : (bgAt out (i + j)).t = (tn : Int)) => show (sumW out i (j + 1) - B) * K ≤ ((bgAt out (i + j)).at_ - a) * T from by
          have := HWF.out j h hj
          exact this)
        have HOB := Lib.hid (fun j (h : i + j < out.length) => HGD.out.ob _ (bgAt_mem h))
        clear c0 c1 c2 c3 t0 t1 t2 t3 q0 q1 q2 q3 r0 s0 hba hbb hz1 hXr hb
        generalize (wr.alloc (.cells #[.int .i64 tn, .int .i64 p, .int .i64 a, .int .i64 pl] 76)).alloc (.cells #[.int .i64 B, .int .i64 T, .int .i64 K, .int .i64 Q] 77) = w5 at *
        generalize wr.heap.size = bb at *
        generalize sumW out i = sw at *
        have hln : out.length - i ≤ 128000 := by omega
        go_loopw [10, 48] (fun sv kv wq => ∃ j : Nat, j ≤ out.length - i ∧ kv = .int .i64 j ∧ sv = .int .i64 (sw j) ∧ Below w5.heap.size w5 wq) (fun _ kv _ => (out.length - i) - (intOf kv).toNat)
        case atStart => exact ⟨0, Nat.zero_le _, rfl, by rw [HSW.out], Below.refl _ _⟩
        case round =>
          obtain ⟨j, hj, rfl, rfl, hbq⟩ := hrel
          by_cases hjl : j < out.length - i
          · have hij : i + j < out.length := by omega
            obtain ⟨e0, e1, e2, e3⟩ := (HG.out.belowS (hb5.out.trans (hbq.mono hb5.out.size))).at_ hij rfl
            have h4 : (i + j) * 4 = i * 4 + j * 4 := Nat.add_mul i j 4
            rw [h4, ← Nat.add_assoc] at e0 e1 e2 e3
            obtain ⟨⟨un, hu, hun⟩, v1, v2, u1, u2, m1, m2⟩ := HOB.out j hij
            have HSS := Lib.hid (HST.out j hij)
            have HBB := Lib.hid (HWN.out j hij)
            have s1 := HBD.out j
            have s2 := HBD.out (j + 1)
            rw [hu] at e0
            rw [hu] at HSS
            rw [hu] at HBB
            generalize (bgAt out (i + j)).p = p' at *
            generalize (bgAt out (i + j)).at_ = a' at *
            generalize (bgAt out (i + j)).pl = pl' at *
            have hbz := Lib.hid (show Below wr.heap.size wr (wr.alloc (.cells #[.int .i64 un, .int .i64 p', .int .i64 a', .int .i64 pl'] 76)) from by go_grown)
            have HNX := Lib.hid (hbq.trans (hbz.out.mono hbq.size))
            have y0 := below_ats HNX.out hy
            have y1 := below_ats HNX.out hw
            have f0 := (has_cell y0 0).trans (show _ = some (Value.int .i64 (tn : Int)) from rfl)
            have f2 := (has_cell y0 2).trans (show _ = some (Value.int .i64 a) from rfl)
            have g0 := (has_cell y1 0).trans (show _ = some (Value.int .i64 B) from rfl)
            have g1 := (has_cell y1 1).trans (show _ = some (Value.int .i64 T) from rfl)
            have g2 := (has_cell y1 2).trans (show _ = some (Value.int .i64 K) from rfl)
            by_cases htu : un = tn
            · subst htu
              have HSS' : Hid (sw (j + 1) = sw j + p') := Lib.hid (by rw [HSS.out, ht, if_pos rfl])
              have hb1 := HBB.out rfl
              have s3 := HSS'.out
              have m1' := mul_bd (x := sw j + p' - B) (K := K) (lo := -1048576) (hi := 134217728000) (by omega) (by omega) (by omega)
              have m2' := mul_bd (x := a' - a) (K := T) (lo := -32767500) (hi := 32767500) (by omega) (by omega) (by omega)
              rw [s3] at hb1
              have x1 : IntKind.i64.wrap ((sw j + p' - B) * K) = (sw j + p' - B) * K := IntWalk.i64_in _ (by omega)
              have x2 : IntKind.i64.wrap ((a' - a) * T) = (a' - a) * T := IntWalk.i64_in _ (by omega)
              have d1 : decide ((a' - a) * T < (sw j + p' - B) * K) = false := decide_eq_false (by omega)
              rw [s3] at s2
              clear hb1 s3 m1' m2'
              go_wp2_with fail
              go_roundw
              case rel => exact ⟨j + 1, by omega, by go_num, by rw [HSS'.out], HNX.out⟩
              case measure => simp [intOf]; omega
            · have HSS' : Hid (sw (j + 1) = sw j) := Lib.hid (by rw [HSS.out, ht, if_neg (by omega), Int.add_zero])
              have d1 : ((un : Int) != (tn : Int)) = true := by rw [bne_iff_ne]; omega
              go_wp2_with fail
              go_roundw
              case rel => exact ⟨j + 1, by omega, by go_num, by rw [HSS'.out], HNX.out⟩
              case measure => simp [intOf]; omega
          · go_wp2_with fail
            go_roundw
            case rel => exact ⟨i + 1, by omega, by go_num, hb5.out.trans (hbq.mono hb5.out.size)⟩
            case measure => simp [intOf]; omega
      · have HP : Hid (AwP w (.returned (.bool true)) wr) := Lib.hid ⟨rfl, HB3.out.trans (hb.mono HB3.out.size)⟩
        clear hb
        obtain rfl : i = out.length := by omega
        go_wp2
        go_ret
        exact HP.out
end
end Go.Proofs.Ytmdajndmobpgbaa

/- do: an act executed by the device. Conditions: the act can be read, its bytes lie outside the device. -/
import Derived.Test.YtbpjfhfibllhgaaDqActs
namespace Go.Proofs.Ytbpjfhfibllhgaa
open Go.RowKit
open Go.Proofs.Ytbpjfhfibllhgaa.Dv
variable {Qp : Nat → Prop}

/-- The error's number of an act, and the device after it. -/
def doE (n p : Nat) (s : Dev) (a : ActV) : Int := if a.kind % 6 = 1 then eraseE n s a.block else if a.kind % 6 = 2 then syncE s else if a.kind % 6 = 3 then 0 else if a.kind % 6 = 4 then 0 else progE n p s a.block (actPage n s a) a.dn
def doS (n p : Nat) (s : Dev) (a : ActV) : Dev := if a.kind % 6 = 1 then eraseS n s a.block else if a.kind % 6 = 2 then syncS s else if a.kind % 6 = 3 then s.plan a.page else if a.kind % 6 = 4 then s.crash (kf a.kn a.kX) else progS n p s a.block (actPage n s a) (bl a.dn a.dX)
section
variable {w w1 w2 : World} {P Q : Nat → Prop} {b n p : Nat} {s s' : Dev}
theorem DPost.pre {v : Value} {e : Ending} (hb : Below w.heap.size w w1) (h : DPost Qp Q b n p v s' w1 e w2) (hQ : ∀ k, Q k → P k) : DPost Qp P b n p v s' w e w2 :=
  ⟨h.1, h.2.1.mono fun k hk => hk.imp (hQ k) (fun h => Nat.le_trans hb.size h), (Stay.of_below hb).trans' (h.2.2.mono hQ)⟩
set_option maxRecDepth 100000 in
set_option maxHeartbeats 1600000 in
theorem do_any (a : ActV) (h : DS Qp w P b n p s) (hpl : s.pending.length ≤ 1000000) (ha : a.ok w) (hP : 0 < a.dn → ¬ P a.db) (hQ : ∀ k, w.heap.size ≤ k → Qp k) :
    Calls Try.prog 26 #[.pointer (some ⟨b, 0, none⟩), a.val] w (DPost Qp P b n p (.int .i64 (doE n p s a)) (doS n p s a) w) := by
  have hb0 : Below w.heap.size w (w.alloc (.cells #[.int .u8 a.kind, .int .i64 a.block, .int .i64 a.page, .slice a.dao a.dn a.dc, .slice a.kao a.kn a.kc] 55)) := by go_grown
  have hh := (h.bound.belowS hb0)
  have hx := heap_alloc_new w (.cells #[.int .u8 a.kind, .int .i64 a.block, .int .i64 a.page, .slice a.dao a.dn a.dc, .slice a.kao a.kn a.kc] 55)
  have hlt : w.heap.size < (w.alloc (.cells #[.int .u8 a.kind, .int .i64 a.block, .int .i64 a.page, .slice a.dao a.dn a.dc, .slice a.kao a.kn a.kc] 55)).heap.size := by simp
  have k0 := ha.k0
  have HPre := Lib.hid (fun (v : Value) (s' : Dev) (e : Ending) (w2 : World) (h : DPost Qp (fun k => P k ∧ k < w.heap.size) b n p v s' (w.alloc (.cells #[.int .u8 a.kind, .int .i64 a.block, .int .i64 a.page, .slice a.dao a.dn a.dc, .slice a.kao a.kn a.kc] 55)) e w2) => (h.pre (P := P) hb0 (fun k hk => hk.1)))
  have HP := Lib.hid hP
  clear hP
  unfold ActV.val
  by_cases h1 : a.kind % 6 = 1
  · have HE := Lib.hid (show doE n p s a = eraseE n s a.block from if_pos h1)
    have HS := Lib.hid (show doS n p s a = eraseS n s a.block from if_pos h1)
    have CE := Lib.hid (d_erase a.block hh hpl)
    have d1 : (a.kind % 6 == 1) = true := by rw [beq_iff_eq]; exact h1
    skip
    rw [HE.out, HS.out]
    generalize eraseE n s a.block = x at CE ⊢
    generalize eraseS n s a.block = s' at CE ⊢
    clear hh h h1 HE HS
    go_enter Try.func26, Try.ntmps26
    go_wp2_with fail
    generalize w.alloc (.cells #[.int .u8 a.kind, .int .i64 a.block, .int .i64 a.page, .slice a.dao a.dn a.dc, .slice a.kao a.kn a.kc] 55) = w0 at CE hb0 hx hlt HPre ⊢
    refine CE.out.mono ?_
    rintro e w2 ⟨rfl, hR⟩
    have HR := Lib.hid hR
    clear hR CE
    go_wp2_with fail
    refine (num_any x w2).mono ?_
    rintro e w3 ⟨rfl, rfl⟩
    go_wp2
    go_ret
    exact HPre.out _ _ _ _ ⟨rfl, HR.out⟩
  · by_cases h2 : a.kind % 6 = 2
    · have HE := Lib.hid (show doE n p s a = syncE s from (if_neg h1).trans (if_pos h2))
      have HS := Lib.hid (show doS n p s a = syncS s from (if_neg h1).trans (if_pos h2))
      have CE := Lib.hid (d_sync hh)
      have d2 : (a.kind % 6 == 2) = true := by rw [beq_iff_eq]; exact h2
      have d1 : (a.kind % 6 == 1) = false := (by rw [beq_eq_false_iff_ne]; exact h1)
      rw [HE.out, HS.out]
      generalize syncE s = x at CE ⊢
      generalize syncS s = s' at CE ⊢
      clear hh h h1 h2 HE HS
      go_enter Try.func26, Try.ntmps26
      go_wp2_with fail
      generalize w.alloc (.cells #[.int .u8 a.kind, .int .i64 a.block, .int .i64 a.page, .slice a.dao a.dn a.dc, .slice a.kao a.kn a.kc] 55) = w0 at CE hb0 hx hlt HPre ⊢
      refine CE.out.mono ?_
      rintro e w2 ⟨rfl, hR⟩
      have HR := Lib.hid hR
      clear hR CE
      go_wp2_with fail
      refine (num_any x w2).mono ?_
      rintro e w3 ⟨rfl, rfl⟩
      go_wp2
      go_ret
      exact HPre.out _ _ _ _ ⟨rfl, HR.out⟩
    · by_cases h3 : a.kind % 6 = 3
      · have HE := Lib.hid (show doE n p s a = 0 from (if_neg h1).trans ((if_neg h2).trans (if_pos h3)))
        have HS := Lib.hid (show doS n p s a = s.plan a.page from (if_neg h1).trans ((if_neg h2).trans (if_pos h3)))
        have CE := Lib.hid (d_fail a.page ha.pb.2 hh)
        have d3 : (a.kind % 6 == 3) = true := by rw [beq_iff_eq]; exact h3
        have d1 : (a.kind % 6 == 1) = false := (by rw [beq_eq_false_iff_ne]; exact h1); have d2 : (a.kind % 6 == 2) = false := (by rw [beq_eq_false_iff_ne]; exact h2)
        rw [HE.out, HS.out]
        generalize s.plan a.page = s' at CE ⊢
        clear hh h h1 h2 h3 HE HS
        go_enter Try.func26, Try.ntmps26
        go_wp2_with fail
        generalize w.alloc (.cells #[.int .u8 a.kind, .int .i64 a.block, .int .i64 a.page, .slice a.dao a.dn a.dc, .slice a.kao a.kn a.kc] 55) = w0 at CE hb0 hx hlt HPre ⊢
        refine CE.out.mono ?_
        rintro e w2 ⟨rfl, hR⟩
        have HR := Lib.hid hR
        clear hR CE
        go_wp2
        go_ret
        exact HPre.out _ _ _ _ ⟨rfl, HR.out⟩
      · by_cases h4 : a.kind % 6 = 4
        · have HE := Lib.hid (show doE n p s a = 0 from (if_neg h1).trans ((if_neg h2).trans ((if_neg h3).trans (if_pos h4))))
          have HS := Lib.hid (show doS n p s a = s.crash (kf a.kn a.kX) from (if_neg h1).trans ((if_neg h2).trans ((if_neg h3).trans (if_pos h4))))
          have CE := Lib.hid (d_crash (ck := a.kc) hh (ha.k.below hb0 (Nat.le_refl _)) ha.kl (fun k hk => hQ k (Nat.le_trans hb0.size hk)))
          have d4 : (a.kind % 6 == 4) = true := by rw [beq_iff_eq]; exact h4
          have d1 : (a.kind % 6 == 1) = false := (by rw [beq_eq_false_iff_ne]; exact h1); have d2 : (a.kind % 6 == 2) = false := (by rw [beq_eq_false_iff_ne]; exact h2); have d3 : (a.kind % 6 == 3) = false := (by rw [beq_eq_false_iff_ne]; exact h3)
          rw [HE.out, HS.out]
          generalize s.crash (kf a.kn a.kX) = s' at CE ⊢
          clear hh h h1 h2 h3 h4 HE HS
          go_enter Try.func26, Try.ntmps26
          go_wp2_with fail
          generalize w.alloc (.cells #[.int .u8 a.kind, .int .i64 a.block, .int .i64 a.page, .slice a.dao a.dn a.dc, .slice a.kao a.kn a.kc] 55) = w0 at CE hb0 hx hlt HPre ⊢
          refine CE.out.mono ?_
          rintro e w2 ⟨rfl, hR⟩
          have HR := Lib.hid hR
          clear hR CE
          go_wp2
          go_ret
          exact HPre.out _ _ _ _ ⟨rfl, HR.out⟩
        · have HE := Lib.hid (show doE n p s a = progE n p s a.block (actPage n s a) a.dn from (if_neg h1).trans ((if_neg h2).trans ((if_neg h3).trans (if_neg h4))))
          have HS := Lib.hid (show doS n p s a = progS n p s a.block (actPage n s a) (bl a.dn a.dX) from (if_neg h1).trans ((if_neg h2).trans ((if_neg h3).trans (if_neg h4))))
          have d4 : (a.kind % 6 == 4) = false := (by rw [beq_eq_false_iff_ne]; exact h4)
          have d1 : (a.kind % 6 == 1) = false := (by rw [beq_eq_false_iff_ne]; exact h1); have d2 : (a.kind % 6 == 2) = false := (by rw [beq_eq_false_iff_ne]; exact h2); have d3 : (a.kind % 6 == 3) = false := (by rw [beq_eq_false_iff_ne]; exact h3)
          have hlB : (bl a.dn a.dX).length = a.dn := bl_len a.dn a.dX
          have CP : Hid (∀ w2, Below (w.alloc (.cells #[.int .u8 a.kind, .int .i64 a.block, .int .i64 a.page, .slice a.dao a.dn a.dc, .slice a.kao a.kn a.kc] 55)).heap.size (w.alloc (.cells #[.int .u8 a.kind, .int .i64 a.block, .int .i64 a.page, .slice a.dao a.dn a.dc, .slice a.kao a.kn a.kc] 55)) w2 → Calls Try.prog 13 #[.pointer (some ⟨b, 0, none⟩), .int .i64 a.block, .int .i64 (actPage n s a), .slice a.dao a.dn a.dc] w2 (DPost Qp (fun k => P k ∧ k < w.heap.size) b n p (errV (progE n p s a.block (actPage n s a) a.dn)) (progS n p s a.block (actPage n s a) (bl a.dn a.dX)) w2)) := Lib.hid (fun w2 hb2 => by
            have hq := d_prog (ao := a.dao) (cap := a.dc) (l := bl a.dn a.dX) a.block (actPage n s a) (hh.belowS hb2) hpl (fun w' hs => ha.d.src (fun h0 => by
              have hl := ha.d.lt h0
              rw [hs.on.block a.db (by have := hb2.size; omega) (fun h => HP.out h0 h.1), hb2.block _ (by omega)]
              exact hb0.block _ hl)) (fun k hk => hQ k (Nat.le_trans (hb0.trans (hb2.mono hb0.size)).size hk))
            rw [hlB] at hq
            exact hq)
          have CN := Lib.hid (fun (w1 : World) (h1 : Below (w.alloc (.cells #[.int .u8 a.kind, .int .i64 a.block, .int .i64 a.page, .slice a.dao a.dn a.dc, .slice a.kao a.kn a.kc] 55)).heap.size (w.alloc (.cells #[.int .u8 a.kind, .int .i64 a.block, .int .i64 a.page, .slice a.dao a.dn a.dc, .slice a.kao a.kn a.kc] 55)) w1) => next_act a (hh.belowS h1) k0)
          have KK : Hid (∀ w' : World, w'.heap[w.heap.size]? = some (.cells #[.int .u8 a.kind, .int .i64 a.block, .int .i64 a.page, .slice a.dao a.dn a.dc, .slice a.kao a.kn a.kc] 55) → w'.cell? ⟨w.heap.size, 0, none⟩ = some (.int .u8 a.kind) ∧ w'.cell? ⟨w.heap.size, 1, none⟩ = some (.int .i64 a.block) ∧ w'.cell? ⟨w.heap.size, 2, none⟩ = some (.int .i64 a.page) ∧ w'.cell? ⟨w.heap.size, 3, none⟩ = some (.slice a.dao a.dn a.dc) ∧ w'.cell? ⟨w.heap.size, 4, none⟩ = some (.slice a.kao a.kn a.kc)) := Lib.hid (fun w' h => ⟨has_cell h 0, has_cell h 1, has_cell h 2, has_cell h 3, has_cell h 4⟩)
          rw [HE.out, HS.out]
          generalize progE n p s a.block (actPage n s a) a.dn = x at CP ⊢
          generalize progS n p s a.block (actPage n s a) (bl a.dn a.dX) = s' at CP ⊢
          generalize actPage n s a = y at CP CN
          clear hh h h1 h2 h3 h4 HE HS hlB ha hpl
          go_enter Try.func26, Try.ntmps26
          go_wp2_with fail
          generalize w.alloc (.cells #[.int .u8 a.kind, .int .i64 a.block, .int .i64 a.page, .slice a.dao a.dn a.dc, .slice a.kao a.kn a.kc] 55) = w0 at CP CN hb0 hx hlt HPre ⊢
          have z0 : Below w0.heap.size w0 w0 := Below.refl _ _
          have HX := Lib.hid hx
          obtain ⟨l0, l1, l2, l3, l4⟩ := KK.out w0 hx
          clear hx
          go_region_held3 (fun w' => w'.cell? ⟨w.heap.size, 0, none⟩ = some (.int .u8 a.kind) ∧ w'.cell? ⟨w.heap.size, 1, none⟩ = some (.int .i64 a.block) ∧ w'.cell? ⟨w.heap.size, 2, none⟩ = some (.int .i64 a.page) ∧ w'.cell? ⟨w.heap.size, 3, none⟩ = some (.slice a.dao a.dn a.dc) ∧ w'.cell? ⟨w.heap.size, 4, none⟩ = some (.slice a.kao a.kn a.kc)) (go_keep)
            (first
              | (go_at_call 31; refine (CN.out _ (by first | exact z0 | exact z0.trans (below_drew _ _) | exact z0.trans (below_draw _ _ _))).mono ?_; rintro e w1 ⟨rfl, hb1⟩; have z1 : Below w0.heap.size w0 w1 := (by first | exact hb1 | exact (below_drew _ _).trans hb1 | exact (below_draw _ _ _).trans hb1); obtain ⟨l0, l1, l2, l3, l4⟩ := KK.out w1 ((z1.block _ hlt).trans HX.out))
              | (go_at_call 13; refine (CP.out _ (by first | exact z1 | exact z1.trans (below_drew _ _) | exact z1.trans (below_draw _ _ _))).mono ?_; rintro e w2 ⟨rfl, hD, hS⟩; have e2 : w2.heap[w.heap.size]? = w1.heap[w.heap.size]? := hS.on.block _ (show w.heap.size < w1.heap.size by have := z1.size; omega) (fun h => Nat.lt_irrefl _ h.2); obtain ⟨l0, l1, l2, l3, l4⟩ := KK.out w2 (e2.trans ((z1.block _ hlt).trans HX.out)))
              | (go_at_call 40; refine (num_any x _).mono ?_; rintro e w3 ⟨rfl, rfl⟩))
          have HD := Lib.hid hD
          have HS := Lib.hid hS
          have HZ := Lib.hid z1
          clear hD hS z1 l0 l1 l2 l3 l4 e2 hb1
          go_wp2
          go_ret
          refine HPre.out _ _ _ _ (DPost.pre ?_ ⟨rfl, HD.out, HS.out⟩ (fun _ h => h))
          first | exact HZ.out | exact HZ.out.trans (below_drew _ _) | exact HZ.out.trans (below_draw _ _ _)
end
end Go.Proofs.Ytbpjfhfibllhgaa

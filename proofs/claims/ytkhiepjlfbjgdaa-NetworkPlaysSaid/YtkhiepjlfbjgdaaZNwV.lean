/- network: Receive. Conditions: the deliveries are few. network: Send for any arguments; the statements' helpers awake, node, is. Conditions: each contract names its own. -/
import Derived.Test.YtkhiepjlfbjgdaaZNwT
import Derived.Lib.SlBytesConst
namespace Go.Proofs.Ytkhiepjlfbjgdaa
open Go.RowKit

theorem set4 {w : World} {g : Nat} {x0 x1 x2 x3 a b c d : Value} {t : TypeId} {fr : Nat × Nat} (h : w.heap[g]? = some (.cells #[x0, x1, x2, x3] t fr)) :
    ((((w.setCell ⟨g, 0, none⟩ a).setCell ⟨g, 1, none⟩ b).setCell ⟨g, 2, none⟩ c).setCell ⟨g, 3, none⟩ d).heap[g]? = some (.cells #[a, b, c, d] t fr) := by
  rw [setCell_heap_self (setCell_heap_self (setCell_heap_self (setCell_heap_self h)))]; rfl
theorem below_set4 {B : Nat} {w0 w : World} {g : Nat} {a b c d : Value} (h : Below B w0 w) (hg : B ≤ g) : Below B w0 ((((w.setCell ⟨g, 0, none⟩ a).setCell ⟨g, 1, none⟩ b).setCell ⟨g, 2, none⟩ c).setCell ⟨g, 3, none⟩ d) :=
  (((h.setCell hg _).setCell hg _).setCell hg _).setCell hg _
section
variable {w : World} {P : Nat → Prop} {b : Nat} {s : Net}
theorem recv_none (h : NS w P b s) (h0 : s.arr.length = 0) : Calls Try.prog 16 #[.pointer (some ⟨b, 0, none⟩)] w fun e w' => e = .returned (.tuple #[.agg #[.int .i64 0, .string ByteArray.empty, .string ByteArray.empty, .slice none 0 0], .iface 48 (.int .i64 3)]) ∧ Below w.heap.size w w' := by
  have hB : Below w.heap.size w (w.alloc (.cells #[.int .i64 0, .string ByteArray.empty, .string ByteArray.empty, .slice none 0 0] 43)) := by go_grown
  have CF := Lib.hid (first_any (h.belowS hB))
  unfold FirstP at CF
  rw [h0] at CF
  have hn := heap_alloc_new w (.cells #[.int .i64 0, .string ByteArray.empty, .string ByteArray.empty, .slice none 0 0] 43)
  have HN := Lib.hid hn
  clear h h0 hn
  go_enter Try.func16, Try.ntmps16
  go_wp2_with fail
  refine CF.out.mono ?_
  rintro e w1 ⟨rfl, hb⟩
  have hn1 := below_ats hb HN.out
  have hf1 : ∀ j, w1.frozen? ⟨w.heap.size, j, none⟩ = false := has_free hn1
  have z0 := has_cell hn1 0
  have z1 := has_cell hn1 1
  have z2 := has_cell hn1 2
  have z3 := has_cell hn1 3
  have HB := Lib.hid (hB.trans (hb.mono hB.size))
  have HN1 := Lib.hid hn1
  clear hn1 hb hB
  go_wp2
  (try simp only [Exit.inBlock, Exit.then])
  refine bodyPost_ret (results_row_tmp rfl rfl (set4 HN1.out) Try.underlying43 rfl (by kernel_rfl)) rfl ?_
  exact ⟨rfl, below_set4 HB.out (Nat.le_refl _)⟩
def Net.recv (s : Net) : Net := { s.pop (bestN s s.arr.length) with present := max s.present (s.at_ (bestN s s.arr.length)).t }
def RecvP (P : Nat → Prop) (b : Nat) (s : Net) (x : Arr) (w : World) (e : Ending) (w' : World) : Prop :=
  ∃ vo vc, e = .returned (.tuple #[.agg #[.int .i64 x.t, .string x.a, .string x.b, .slice vo x.data.length vc], .nilIface]) ∧ OL w' 5 1 (.slice vo x.data.length vc) x.data.length (bys x.data) ∧
    (∀ k, (Value.slice vo x.data.length vc).ownBlock = some k → P k) ∧ NS w' (fun k => grow P w k ∧ (Value.slice vo x.data.length vc).ownBlock ≠ some k) b s.recv ∧ Only P w w'
set_option maxRecDepth 100000 in
set_option maxHeartbeats 1600000 in
theorem recv_some (h : NS w P b s) (h0 : 0 < s.arr.length) (hl : s.arr.length ≤ 100000) : Calls Try.prog 16 #[.pointer (some ⟨b, 0, none⟩)] w (RecvP P b s (s.at_ (bestN s s.arr.length)) w) := by
  have hB : Below w.heap.size w (w.alloc (.cells #[.int .i64 0, .string ByteArray.empty, .string ByteArray.empty, .slice none 0 0] 43)) := by go_grown
  have CF := Lib.hid (first_any (h.belowS hB))
  unfold FirstP at CF
  rw [decide_eq_true h0] at CF
  have hbl := bestN_lt s s.arr.length h0
  obtain ⟨q, hN, hA⟩ := h
  obtain ⟨g, off, cap, hv, hcp, hcm, _⟩ := hN.r.form (by have := hN.alen; omega)
  unfold maxLen at hcm
  have HN := Lib.hid hN
  have HA := Lib.hid hA
  have HV := Lib.hid hv
  have HL := Lib.hid hN.alen
  have HW := Lib.hid (heap_alloc_new w (.cells #[.int .i64 0, .string ByteArray.empty, .string ByteArray.empty, .slice none 0 0] 43))
  have HB := Lib.hid hB
  have HR := Lib.hid (show s.recv = { s.pop (bestN s s.arr.length) with present := max s.present (s.at_ (bestN s s.arr.length)).t } from rfl)
  rw [HL.out] at hcp
  clear hN hA hv hB
  generalize bestN s s.arr.length = m at CF hbl HR ⊢
  obtain ⟨x, hx⟩ : ∃ x, x = s.at_ m := ⟨_, rfl⟩
  rw [← hx] at HR ⊢
  have HX := Lib.hid hx
  clear hx
  go_enter Try.func16, Try.ntmps16
  go_wp2_with fail
  refine CF.out.mono ?_
  rintro e w2 ⟨rfl, hb⟩
  have hW := (HN.out.belowS HB.out).belowS hb
  have c4 : w2.cell? ⟨b, 4, none⟩ = some (.slice (some ⟨g, off, none⟩) s.arr.length cap) := by rw [has_cell hW.c 4, ← HL.out, ← HV.out]; rfl
  obtain ⟨vo, vc, a0, a1, a2, a3, _, _, ho⟩ := hW.arrC HV.out hbl
  rw [← HX.out] at a0 a1 a2 a3 ho
  have HO := Lib.hid ho
  have hb3 : Below w2.heap.size w2 (w2.alloc (.cells #[.int .i64 x.t, .string x.a, .string x.b, .slice vo x.data.length vc] 43)) := by go_grown
  have c4' := (hb3.cell (p := ⟨b, 4, none⟩) (lt_of_block hW.c)).trans c4
  have HN3 := Lib.hid (hW.belowS hb3)
  have hv3 : q.va = .slice (some ⟨g, off, none⟩) q.A.length cap := by rw [HV.out]
  have CD := Lib.hid (delete_any (i := m) _ (show OL (w2.alloc (.cells #[.int .i64 x.t, .string x.a, .string x.b, .slice vo x.data.length vc] 43)) 98 6 (.slice (some ⟨g, off, none⟩) s.arr.length cap) s.arr.length (arrCells q.A) from by have := HN3.out.r; rw [hv3, HL.out] at this; exact this) HN3.out.one hbl)
  have HB2 := Lib.hid (HB.out.trans (hb.mono HB.out.size))
  have hmA : m < q.A.length := by rw [HL.out]; exact hbl
  have HVL : Hid (q.A[m].2 = .slice vo x.data.length vc) := Lib.hid (by
    have h1 := hW.r
    rw [HV.out] at h1
    have h2 := h1.cell (m * 6 + 3) (by omega)
    rw [(arrCells_get q.A m hmA).2.2.2.1, ← Nat.add_assoc, a3] at h2
    exact (Option.some.inj h2).symm)
  have HB3 := Lib.hid (hb.trans (hb3.mono hb.size))
  have HW3 := Lib.hid (below_ats (hb.trans (hb3.mono hb.size)) HW.out)
  have HZ := Lib.hid (heap_alloc_new w2 (.cells #[.int .i64 x.t, .string x.a, .string x.b, .slice vo x.data.length vc] 43))
  have HSZ := Lib.hid hb.size
  clear hW ho hb hb3 hv3
  have hmi : decide ((m : Int) < (s.arr.length : Int)) = true := by simp; omega
  go_wp2_with fail
  refine (CD.out _ rfl).mono ?_
  rintro e w4 ⟨rfl, ho4, hg4⟩
  have hv3 : q.va = .slice (some ⟨g, off, none⟩) q.A.length cap := by rw [HV.out]
  have hpop := HN3.out.popped hv3 (i := m) (by rw [HL.out]; omega) (w3 := w4) (by rw [HL.out]; exact ho4) hg4
  have hb4 := hpop.1.trans HN3.out.c
  have c4'' := has_cell hb4 4
  have f4 := has_free hb4 4
  go_wp2_with fail
  generalize hw5 : World.setCell _ _ _ = w5
  have hgt : ∀ k, k < (w2.alloc (.cells #[.int .i64 x.t, .string x.a, .string x.b, .slice vo x.data.length vc] 43)).heap.size → k ≠ b → k ≠ g → w5.heap[k]? = (w2.alloc (.cells #[.int .i64 x.t, .string x.a, .string x.b, .slice vo x.data.length vc] 43)).heap[k]? := fun k hk h1 h2 => by
    rw [← hw5]; exact (setCell_other h1).trans (hg4.block k hk (fun e => h2 (Option.some.inj e)))
  obtain ⟨cg, hcg⟩ := HN3.out.r.elem g (by rw [HV.out]; rfl)
  have hZ5 := (hgt _ (lt_of_block HZ.out) (type_ne HZ.out HN3.out.c (by decide)) (type_ne HZ.out hcg (by decide))).trans HZ.out
  have hR5 := (hgt _ (lt_of_block HW3.out) (type_ne HW3.out HN3.out.c (by decide)) (type_ne HW3.out hcg (by decide))).trans HW3.out
  have hN5 : NetAt w5 b { q with va := (.slice (some ⟨g, off, none⟩) (s.arr.length - 1) cap), A := q.A.eraseIdx m } (s.pop m) := by rw [← hw5]; have := hpop.2; rw [HL.out] at this; exact this
  have hO5 : OL w5 5 1 (.slice vo x.data.length vc) x.data.length (bys x.data) := by
    have ho3 := HO.out.alloc (.cells #[.int .i64 x.t, .string x.a, .string x.b, .slice vo x.data.length vc] 43)
    exact ho3.heap fun k hk => hgt k (ho3.lt k hk) (OL.ne_of ho3 hk HN3.out.c (by decide)) (OL.ne_of ho3 hk hcg (by decide))
  have hOn5 : Only P w w5 := by
    have h1 : Only P w (w2.alloc (.cells #[.int .i64 x.t, .string x.a, .string x.b, .slice vo x.data.length vc] 43)) := (Only.of_below HB2.out (S := P) fun k h1 h2 => by omega).alloc _
    rw [← hw5]
    exact (h1.grown hg4 (fun k hk => .inl (HA.out k (.r (by rw [HV.out]; exact hk))))).setCell (.inl (HA.out b (.b rfl))) _
  have b1 := (has_cell hN5.c 1).trans (show _ = some (Value.int .i64 s.present) from rfl)
  have fb1 := has_free hN5.c 1
  have z0 := has_cell hZ5 0
  have HN5 := Lib.hid (And.intro hN5 (And.intro hO5 hOn5))
  have HZ5 := Lib.hid (And.intro hZ5 (And.intro hR5 (And.intro (type_ne hZ5 hN5.c (by decide)) (type_ne hR5 hN5.c (by decide)))))
  clear hZ5 hR5 hN5 hO5 hOn5 hgt hcg hpop hb4 c4'' f4 ho4 hg4 hv3 c4' c4 a0 a1 a2 a3 CD CF hw5
  go_region
  generalize hw6 : World.drew _ = w6
  have hP6 : NetAt w6 b { q with va := (.slice (some ⟨g, off, none⟩) (s.arr.length - 1) cap), A := q.A.eraseIdx m } s.recv := by
    rw [← hw6, HR.out]
    exact (HN5.out.1.nums (w' := World.setCell _ ⟨b, 1, none⟩ _) (max s.present x.t) s.msgs s.lost (by rw [setCell_heap_self HN5.out.1.c]; rfl) (fun k hk hne => setCell_other hne)).same fun _ _ => rfl
  have hO6 : OL w6 5 1 (.slice vo x.data.length vc) x.data.length (bys x.data) := HN5.out.2.1.heap fun k hk => by rw [← hw6]; rw [drew_heap]; exact setCell_other (OL.ne_of HN5.out.2.1 hk HN5.out.1.c (by decide))
  have hOn6 : Only P w w6 := by rw [← hw6]; exact (HN5.out.2.2.setCell (p := ⟨b, 1, none⟩) (.inl (HA.out b (.b rfl))) _).drew
  have hZ6 : w6.heap[w2.heap.size]? = some (.cells #[.int .i64 x.t, .string x.a, .string x.b, .slice vo x.data.length vc] 43 (0, 0)) := by rw [← hw6, drew_heap]; exact (setCell_other HZ5.out.2.2.1).trans HZ5.out.1
  have hR6 : w6.heap[w.heap.size]? = some (.cells #[.int .i64 0, .string ByteArray.empty, .string ByteArray.empty, .slice none 0 0] 43 (0, 0)) := by rw [← hw6, drew_heap]; exact (setCell_other HZ5.out.2.2.2).trans HZ5.out.2.1
  have y0 := has_cell hZ6 0
  have y1 := has_cell hZ6 1
  have y2 := has_cell hZ6 2
  have y3 := has_cell hZ6 3
  have x0 := has_cell hR6 0
  have x1 := has_cell hR6 1
  have x2 := has_cell hR6 2
  have x3 := has_cell hR6 3
  have xf : ∀ j, w6.frozen? ⟨w.heap.size, j, none⟩ = false := has_free hR6
  have HR6 := Lib.hid hR6
  have HF := Lib.hid (And.intro hP6 (And.intro hO6 hOn6))
  have hal : ∀ k, NAl b { q with va := (.slice (some ⟨g, off, none⟩) (s.arr.length - 1) cap), A := q.A.eraseIdx m } s.recv k → NAl b q s k ∧ (Value.slice vo x.data.length vc).ownBlock ≠ some k := fun k hk => by
    have hv3 : q.va = .slice (some ⟨g, off, none⟩) q.A.length cap := by rw [HV.out]
    rw [HR.out, ← HL.out] at hk
    have h2 := HN.out.pop_al hv3 hmA (NAl.nums (s := s.pop m) hk)
    rw [HVL.out] at h2
    exact h2
  have HAL := Lib.hid hal
  have hnz : w.heap.size ≠ b := HZ5.out.2.2.2
  clear hP6 hO6 hOn6 hZ6 hR6 hal hw6 HZ5 HN5 b1 fb1 z0
  go_wp2
  (try simp only [Exit.inBlock, Exit.then])
  refine bodyPost_ret (results_row_tmp rfl rfl (set4 HR6.out) Try.underlying43 rfl (by kernel_rfl)) rfl ?_
  have nb : ∀ k, k ≠ w.heap.size → (((((w6.setCell ⟨w.heap.size, 0, none⟩ (.int .i64 x.t)).setCell ⟨w.heap.size, 1, none⟩ (.string x.a)).setCell ⟨w.heap.size, 2, none⟩ (.string x.b)).setCell ⟨w.heap.size, 3, none⟩ (.slice vo x.data.length vc)).heap[k]? = w6.heap[k]?) := fun k hk => (setCell_other hk).trans ((setCell_other hk).trans ((setCell_other hk).trans (setCell_other hk)))
  have hne : ∀ k, NAl b q s k → k ≠ w.heap.size := fun k hk => by have := HN.out.al_lt hk; omega
  refine ⟨vo, vc, rfl, HF.out.2.1.heap fun k hk => nb k (hne k (.d _ (List.getElem_mem hmA) (by rw [HVL.out]; exact hk))), ?_, ⟨_, HF.out.1.same fun k hk => nb k (hne k (HAL.out k hk).1), fun k hk => ⟨.inl (HA.out k (HAL.out k hk).1), (HAL.out k hk).2⟩⟩, ?_⟩
  · exact fun k hk => HA.out k (.d _ (List.getElem_mem hmA) (by rw [HVL.out]; exact hk))
  · exact (((HF.out.2.2.setCell (.inr (Nat.le_refl _)) _).setCell (.inr (Nat.le_refl _)) _).setCell (.inr (Nat.le_refl _)) _).setCell (.inr (Nat.le_refl _)) _
end
end Go.Proofs.Ytkhiepjlfbjgdaa

namespace Go.Proofs.Ytkhiepjlfbjgdaa
open Go.RowKit

noncomputable def sendS (s : Net) (t : Int) (x y : ByteArray) (data : List Int) : Net := if sendE s t = 0 then s.sent t x y data else s
section
variable {w : World} {P : Nat → Prop} {b : Nat} {s : Net}
theorem NPost.below {v : Value} {e : Ending} {w' : World} (h : NS w P b s) (he : e = .returned v) (hb : Below w.heap.size w w') : NPost P b v s w e w' :=
  ⟨he, (h.belowS hb).mono fun _ h => .inl h, Only.of_below hb fun k h1 h2 => by omega⟩
theorem n_send {ao : Option Addr} {n cp bk off cn : Nat} {X : Nat → Int} (h : NS w P b s) (g : NGd cn s) (hcn : cn ≤ 1000) (hPlt : ∀ k, P k → k < w.heap.size) {x y : ByteArray} (hx : x.size ≤ maxLen) (hy : y.size ≤ maxLen) (t : Int)
    (hX : IsBytes w ao n bk off X) (hXP : 0 < n → ¬ P bk) (hn : n ≤ 100000) :
    Calls Try.prog 17 #[.pointer (some ⟨b, 0, none⟩), .int .i64 t, .string x, .string y, .slice ao n cp] w (NPost P b (errV (sendE s t)) (sendS s t x y (lst n X)) w) := by
  by_cases h1 : t < 0
  · rw [show sendE s t = 1 from if_pos (.inl h1), show sendS s t x y (lst n X) = s from if_neg (by rw [show sendE s t = 1 from if_pos (.inl h1)]; decide)]
    exact (send_low b t x y _ w h1).mono fun _ _ he => .below h he.1 he.2
  · by_cases h2 : 1099511627776 < t
    · rw [show sendE s t = 1 from if_pos (.inr h2), show sendS s t x y (lst n X) = s from if_neg (by rw [show sendE s t = 1 from if_pos (.inr h2)]; decide)]
      exact (send_high b t x y _ w h2).mono fun _ _ he => .below h he.1 he.2
    · by_cases h3 : t < s.present
      · have e : sendE s t = 7 := by unfold sendE; rw [if_neg (by omega), if_pos h3]
        rw [e, show sendS s t x y (lst n X) = s from if_neg (by rw [e]; decide)]
        exact (send_late h t x y _ (by omega) (by omega) h3).mono fun _ _ he => .below h he.1 he.2
      · have e : sendE s t = 0 := by unfold sendE; rw [if_neg (by omega), if_neg h3]
        rw [e, show sendS s t x y (lst n X) = s.sent t x y (lst n X) from if_pos e]
        exact send_ok h g hcn hPlt hx hy (by omega) (by omega) (by omega) hX hXP hn
end
/-- The node's name. -/
def nodeS (k : Nat) : ByteArray := ([⟨#[97]⟩, ⟨#[98]⟩, ⟨#[99]⟩, ⟨#[100]⟩, ⟨#[]⟩, ⟨#[42]⟩] : List ByteArray).getD (k % 6) ⟨#[]⟩
theorem node_any (k : Nat) (hk : k ≤ 255) (w : World) : Calls Try.prog 13 #[.int .u8 k] w fun e w' => e = .returned (.string (nodeS k)) ∧ Below w.heap.size w w' := by
  have hB : Below w.heap.size w (w.alloc (.cells #[.string ⟨#[97]⟩, .string ⟨#[98]⟩, .string ⟨#[99]⟩, .string ⟨#[100]⟩, .string ⟨#[]⟩, .string ⟨#[42]⟩] 9)) := by go_grown
  have hr : k % 6 < 6 := Nat.mod_lt _ (by omega)
  have hc : (w.alloc (.cells #[.string ⟨#[97]⟩, .string ⟨#[98]⟩, .string ⟨#[99]⟩, .string ⟨#[100]⟩, .string ⟨#[]⟩, .string ⟨#[42]⟩] 9)).cell? ⟨w.heap.size, k % 6, none⟩ = some (.string (nodeS k)) := by
    rw [has_cell (heap_alloc_new w _)]
    unfold nodeS
    generalize k % 6 = r at hr
    match r, hr with
    | 0, _ => rfl
    | 1, _ => rfl
    | 2, _ => rfl
    | 3, _ => rfl
    | 4, _ => rfl
    | 5, _ => rfl
  obtain ⟨r, hm⟩ : ∃ r : Nat, (k : Int) % 6 = (r : Int) ∧ k % 6 = r := ⟨k % 6, by omega, rfl⟩
  rw [hm.2] at hc hr
  replace hm := hm.1
  generalize nodeS k = v at hc ⊢
  go_enter Try.func13, Try.ntmps13
  go_wp2
  go_ret
  exact ⟨rfl, hB⟩
theorem bys_bytes {w : World} {g : Nat} {l : List Int} {fr : Nat × Nat} (h : w.heap[g]? = some (.cells (bys l).toArray 5 fr)) (hl : ∀ x ∈ l, 0 ≤ x ∧ x ≤ 255) : IsBytes w (some ⟨g, 0, none⟩) l.length g 0 (fun i => l.getD i 0) where
  ao _ := rfl
  lt _ := lt_of_block h
  c i hi := by rw [has_cell h, Nat.zero_add, List.getElem?_toArray]; exact bys_get l i hi
  bd i hi := hl _ (by simp [List.getD, hi])
theorem nil_bytes (w : World) : IsBytes w none 0 0 0 (fun _ => 0) := ⟨by omega, by omega, by omega, by omega⟩
theorem nil_ints (w : World) : IsInts w none 0 0 0 (fun _ => 0) := ⟨by omega, by omega, by omega, by omega⟩
theorem lst_self (l : List Int) : lst l.length (fun i => l.getD i 0) = l := by
  apply List.ext_getElem
  · simp [lst]
  · intro i h1 h2
    simp [lst, List.getD, h2]
def AwP (w : World) (e : Ending) (w' : World) : Prop := e = .returned (.bool true) ∧ Below w.heap.size w w'
end Go.Proofs.Ytkhiepjlfbjgdaa

/- network: the statement's acts: how they are read, fits, send. Conditions: the acts can be read. -/
import Derived.Test.YtkhiepjlfbjgdaaZNwPi
namespace Go.Proofs.Ytkhiepjlfbjgdaa
open Go.RowKit

/-- An act: its numbers, its delays and where they lie, its data. -/
structure ActN where
  kind : Int
  from_ : Int
  to_ : Int
  n : Int
  m : Int
  dao : Option Addr
  dn : Nat
  dc : Nat
  db : Nat
  doff : Nat
  dX : Nat → Int
  data : ByteArray
def ActN.cells (a : ActN) : Array Value := #[.int .u8 a.kind, .int .u8 a.from_, .int .u8 a.to_, .int .i64 a.n, .int .i64 a.m, .slice a.dao a.dn a.dc, .string a.data]
structure ActN.ok (w : World) (a : ActN) : Prop where
  d : IsInts w a.dao a.dn a.db a.doff a.dX
  k0 : 0 ≤ a.kind ∧ a.kind ≤ 255
  k1 : 0 ≤ a.from_ ∧ a.from_ ≤ 255
  k2 : 0 ≤ a.to_ ∧ a.to_ ≤ 255
  nb : -9223372036854775808 ≤ a.n ∧ a.n ≤ 9223372036854775807
  mb : -9223372036854775808 ≤ a.m ∧ a.m ≤ 9223372036854775807
  dl : a.dn ≤ 9223372036854775807
  sl : a.data.size ≤ maxLen
/-- The list of acts can be read. -/
structure IsActs (w : World) (ao : Option Addr) (n b off : Nat) (A : Nat → ActN) : Prop where
  ao : 0 < n → ao = some ⟨b, off, none⟩
  lt : 0 < n → b < w.heap.size
  c : ∀ i, i < n → ∀ j, j < 7 → w.cell? ⟨b, off + i * 7 + j, none⟩ = (A i).cells[j]?
  k : ∀ i, i < n → (A i).ok w
section
variable {w w' : World}
theorem ActN.ok.bel {a : ActN} (h : a.ok w) (hb : Below w.heap.size w w') : a.ok w' := { h with d := h.d.below hb (Nat.le_refl _) }
theorem IsActs.bel {ao : Option Addr} {n b off : Nat} {A : Nat → ActN} (h : IsActs w ao n b off A) (hb : Below w.heap.size w w') : IsActs w' ao n b off A :=
  ⟨h.ao, fun h0 => Nat.lt_of_lt_of_le (h.lt h0) hb.size, fun i hi j hj => (hb.cell (p := ⟨b, off + i * 7 + j, none⟩) (h.lt (by omega))).trans (h.c i hi j hj), fun i hi => (h.k i hi).bel hb⟩
end
def fitsB (n : Nat) (A : Nat → ActN) : Bool := decide ((∀ i, i < n → (A i).dn ≤ 40 ∧ (A i).data.size ≤ 1000) ∧ n ≤ 60)
set_option maxHeartbeats 800000 in
theorem fits_any {ao : Option Addr} {n c b off : Nat} {A : Nat → ActN} (w : World) (h : IsActs w ao n b off A) (hn : n ≤ 9223372036854775807) :
    Calls Try.prog 23 #[.slice ao n c] w fun e w' => e = .returned (.bool (fitsB n A)) ∧ w' = w := by
  have H := Lib.hid h
  clear h
  go_enter Try.func23, Try.ntmps23
  go_wp2_with fail
  go_loopw [3] (fun i wr => ∃ k : Nat, k ≤ n ∧ i = .int .i64 k ∧ (∀ i, i < k → (A i).dn ≤ 40 ∧ (A i).data.size ≤ 1000) ∧ wr = w) (fun i _ => n - (intOf i).toNat)
  case atStart => exact ⟨0, Nat.zero_le _, rfl, by omega, rfl⟩
  case round =>
    obtain ⟨k, hk, rfl, hA, rfl⟩ := hrel
    have HA := Lib.hid hA
    clear hA
    by_cases hlt : k < n
    · obtain rfl := H.out.ao (by omega)
      have c5 : wr.cell? ⟨b, off + k * 7 + 5, none⟩ = some (.slice (A k).dao (A k).dn (A k).dc) := H.out.c k hlt 5 (by omega)
      have c6 : wr.cell? ⟨b, off + k * 7 + 6, none⟩ = some (.string (A k).data) := H.out.c k hlt 6 (by omega)
      have hs := (H.out.k k hlt).sl
      have hd0 := (H.out.k k hlt).dl
      unfold maxLen at hs
      by_cases hd : (A k).dn ≤ 40
      · by_cases hq : (A k).data.size ≤ 1000
        · have HK := Lib.hid (And.intro hd hq)
          have d1 : decide ((40 : Int) < ((A k).dn : Int)) = false := by simp; omega
          have d2 : decide ((1000 : Int) < ((A k).data.size : Int)) = false := by simp; omega
          clear hd hq
          go_wp2
          go_roundw
          case rel => exact ⟨k + 1, by omega, by go_num, fun i hi => by
            by_cases e : i = k
            · subst e; exact HK.out
            · exact HA.out i (by omega), by first | rfl | trivial⟩
          case measure => simp [intOf]; omega
        · have HR := Lib.hid (show fitsB n A = false from decide_eq_false (fun h => hq (h.1 k hlt).2))
          have d1 : decide ((40 : Int) < ((A k).dn : Int)) = false := by simp; omega
          have d2 : decide ((1000 : Int) < ((A k).data.size : Int)) = true := by simp; omega
          clear hd hq
          go_wp2
          go_ret
          rw [HR.out]
          exact ⟨rfl, rfl⟩
      · have HR := Lib.hid (show fitsB n A = false from decide_eq_false (fun h => hd (h.1 k hlt).1))
        have d1 : decide ((40 : Int) < ((A k).dn : Int)) = true := by simp; omega
        clear hd
        go_wp2
        go_ret
        rw [HR.out]
        exact ⟨rfl, rfl⟩
    · obtain rfl : k = n := by omega
      have HR := Lib.hid (show fitsB k A = decide ((k : Int) ≤ 60) from by
        unfold fitsB
        by_cases h : k ≤ 60
        · rw [decide_eq_true ⟨HA.out, h⟩, decide_eq_true (by omega)]
        · rw [decide_eq_false (fun x => h x.2), decide_eq_false (by omega)])
      go_wp2
      go_ret
      rw [HR.out]
      exact ⟨rfl, rfl⟩
/-- A row of bytes in front of a mark. -/
structure ByR (w : World) (g n S : Nat) : Prop where
  h : ∃ cs, w.heap[g]? = some (.cells cs 5 (S, S + 1)) ∧ cs.size = S ∧ ∀ i, i < n → ∃ x : Int, cs[i]? = some (.int .u8 x) ∧ 0 ≤ x ∧ x ≤ 255
  l : n ≤ S
theorem ByR.at_ {w : World} {g n S i : Nat} (h : ByR w g n S) (hi : i < n) : ∃ x : Int, w.cell? ⟨g, i, none⟩ = some (.int .u8 x) ∧ w.frozen? ⟨g, i, none⟩ = false ∧ 0 ≤ x ∧ x ≤ 255 := by
  obtain ⟨⟨cs, hc, hs, hx⟩, hl⟩ := h
  obtain ⟨x, h1, h2, h3⟩ := hx i hi
  exact ⟨x, (has_cell hc i).trans h1, by simp [World.frozen?, hc]; omega, h2, h3⟩
theorem ByR.set {w : World} {g n S i : Nat} (h : ByR w g n S) {x : Int} (h1 : 0 ≤ x) (h2 : x ≤ 255) : ByR (w.setCell ⟨g, i, none⟩ (.int .u8 x)) g n S := by
  obtain ⟨⟨cs, hc, hs, hx⟩, hl⟩ := h
  refine ⟨⟨_, setCell_heap_self hc, by simpa using hs, fun j hj => ?_⟩, hl⟩
  by_cases e : j = i
  · subst e
    exact ⟨x, by rw [Array.getElem?_setIfInBounds_self_of_lt (by omega)], h1, h2⟩
  · obtain ⟨y, h3, h4⟩ := hx j hj
    exact ⟨y, by rw [Array.getElem?_setIfInBounds_ne (fun h => e h.symm)]; exact h3, h4⟩
theorem byR_new {w : World} {g cap : Nat} (sd : ByteArray) (h : w.heap[g]? = some (.cells (bytesRow sd cap) 5 ((bytesRow sd cap).size, (bytesRow sd cap).size + 1))) : ByR w g sd.size (bytesRow sd cap).size := by
  have hb := bytes_new2 sd h
  refine ⟨⟨_, h, rfl, fun i hi => ⟨_, ?_, hb.bd i hi⟩⟩, ?_⟩
  · have := hb.c i hi
    rw [has_cell h, Nat.zero_add] at this
    exact this
  · unfold bytesRow
    simp
section
variable {w0 w w1 w' : World} {K J : Nat → Prop} {b c c' : Nat} {s s' : Net}
theorem CN.fresh (h : CN w0 K b c s w) (hb : Below w.heap.size w w') : CN w0 (fun k => K k ∨ (w.heap.size ≤ k ∧ k < w'.heap.size)) b c s w' := h.add hb fun _ hk => hk
set_option maxRecDepth 100000 in
set_option maxHeartbeats 6400000 in
theorem send_any {Kp : Nat → Prop} (h : CN w0 Kp b c s w) (hc : c ≤ 1000) (a : ActN) (ha : a.ok w) (hd : a.data.size ≤ 1000) :
    Calls Try.prog 39 #[.pointer (some ⟨b, 0, none⟩), .agg a.cells] w (CNP w0 Kp b (c + 1) (sendS s a.n (nodeS a.from_.toNat) (nodeS a.to_.toNat) (byts a.data)) (errV (sendE s a.n)) w) := by
  have HC := Lib.hid h
  have hk1 := ha.k1
  have hk2 := ha.k2
  have hnb := ha.nb
  clear h ha
  obtain ⟨k0, fr, tn, z, m, dao, dn, dc, db, doff, dX, sd⟩ := a
  dsimp only [ActN.cells] at *
  have hba := (Below.refl w.heap.size w).alloc (Nat.le_refl _) (.cells #[.int .u8 k0, .int .u8 fr, .int .u8 tn, .int .i64 z, .int .i64 m, .slice dao dn dc, .string sd] 73)
  have hqa := heap_alloc_new w (.cells #[.int .u8 k0, .int .u8 fr, .int .u8 tn, .int .i64 z, .int .i64 m, .slice dao dn dc, .string sd] 73)
  go_enter Try.func39, Try.ntmps39
  go_upto_region 1 with fail
  obtain ⟨ab, hab⟩ : ∃ ab, w.heap.size = ab := ⟨_, rfl⟩
  have HAB := Lib.hid hab
  have HBA := Lib.hid hba
  rw [hab] at hqa ⊢
  have HQA := Lib.hid hqa
  clear hab hba hqa
  generalize w.alloc (.cells #[.int .u8 k0, .int .u8 fr, .int .u8 tn, .int .i64 z, .int .i64 m, .slice dao dn dc, .string sd] 73) = w1 at *
  have c6 : w1.cell? ⟨ab, 6, none⟩ = some (.string sd) := has_cell HQA.out 6
  have cv : ∀ w, (convert 9 41 (.string sd)).run Try.prog w = .ok (.slice (some ⟨w.heap.size, 0, none⟩) sd.size (grownCap w sd.size 0 5)) (w.alloc (.cells (bytesRow sd (grownCap w sd.size 0 5)) 5 ((bytesRow sd (grownCap w sd.size 0 5)).size, (bytesRow sd (grownCap w sd.size 0 5)).size + 1))).drew := fun w => run_bytes_of_string w _ _ _ sd Try.underlying9 Try.underlying41 Try.underlying5
  generalize hcap : grownCap w1 sd.size 0 5 = cap at *
  have HR0 := byR_new sd (cap := cap) (heap_alloc_new w1 (.cells (bytesRow sd cap) 5 ((bytesRow sd cap).size, (bytesRow sd cap).size + 1)))
  have hX0 := bytes_new2 sd (cap := cap) (heap_alloc_new w1 (.cells (bytesRow sd cap) 5 ((bytesRow sd cap).size, (bytesRow sd cap).size + 1)))
  have hbi := ((Below.refl w1.heap.size w1).alloc (Nat.le_refl _) (.cells (bytesRow sd cap) 5 ((bytesRow sd cap).size, (bytesRow sd cap).size + 1))).trans (below_drew _ _)
  go_upto_region 2 with fail
  try simp only [hcap]
  obtain ⟨ib, hib⟩ : ∃ ib, w1.heap.size = ib := ⟨_, rfl⟩
  have HIB : Hid (w.heap.size ≤ ib) := Lib.hid (by have := HBA.out.size; omega)
  rw [hib] at HR0 hX0 ⊢
  generalize hw2 : (w1.alloc (.cells (bytesRow sd cap) 5 ((bytesRow sd cap).size, (bytesRow sd cap).size + 1))).drew = w2 at *
  have HR : Hid (ByR w2 ib sd.size (bytesRow sd cap).size) := Lib.hid (by rw [← hw2]; exact ⟨HR0.h, HR0.l⟩)
  have HX : Hid (IsBytes w2 (some ⟨ib, 0, none⟩) sd.size ib 0 fun j => (byts sd).getD j 0) := Lib.hid (by rw [← hw2]; exact ⟨hX0.ao, hX0.lt, hX0.c, hX0.bd⟩)
  have HB2 := Lib.hid (HBA.out.trans (hbi.mono HBA.out.size))
  have HQ2 := Lib.hid ((hbi.block _ (lt_of_block HQA.out)).trans HQA.out)
  have HC2 := Lib.hid (HC.out.fresh HB2.out)
  have HIK : Hid (ib < w2.heap.size) := Lib.hid (lt_of_block HR.out.h.choose_spec.1)
  clear hw2 HR0 hX0 hbi hib hcap cv c6
  generalize (bytesRow sd cap).size = S at *
  have HSF : Hid (∀ wx, Below w2.heap.size w2 wx → wx.cell? ⟨ab, 1, none⟩ = some (.int .u8 fr) ∧ wx.cell? ⟨ab, 2, none⟩ = some (.int .u8 tn) ∧ wx.cell? ⟨ab, 3, none⟩ = some (.int .i64 z)) := Lib.hid fun wx hb => by
    have h1 := (hb.block _ (lt_of_block HQ2.out)).trans HQ2.out
    exact ⟨has_cell h1 1, has_cell h1 2, has_cell h1 3⟩
  refine wp_region_held_drew (S := (fun wx : World => wx.cell? ⟨ab, 1, none⟩ = some (.int .u8 fr) ∧ wx.cell? ⟨ab, 2, none⟩ = some (.int .u8 tn) ∧ wx.cell? ⟨ab, 3, none⟩ = some (.int .i64 z))) (by kernel_rfl) ((HSF.out w2 (Below.refl _ _))) (fun hH => ?_)
  obtain ⟨w3, hw3⟩ : ∃ w3, w3 = w2.drew := ⟨_, rfl⟩
  have HB3 : Hid (Below w2.heap.size w2 w3) := Lib.hid (by rw [hw3]; exact below_drew _ _)
  rw [← hw3] at hH ⊢
  clear hw3
  refine wpAnyH_take (i := 0) (v := ?_) rfl (by kernel_rfl) (by kernel_rfl) (by kernel_rfl) (fun _ _ _ h => h) (Or.inl ⟨by rfl, ?_⟩) hH ?_
  rotate_left
  · intro w hSw
    go_simp
    with_reducible rfl
  try simp only [List.getElem_toArray, List.getElem_cons_zero, Act.put, List.setIfInBounds_toArray, List.set_cons_zero, List.set_cons_succ]
  refine wpAnyH_take (i := 1) (v := ?_) rfl (by kernel_rfl) (by kernel_rfl) (by kernel_rfl) (fun _ _ _ h => h) (Or.inl ⟨by rfl, ?_⟩) hH ?_
  rotate_left
  · intro w hSw
    go_simp
    with_reducible rfl
  try simp only [List.getElem_toArray, List.getElem_cons_succ, List.getElem_cons_zero, Act.put, List.setIfInBounds_toArray, List.set_cons_zero, List.set_cons_succ]
  refine wpAnyH_take (i := 2) (v := ?_) rfl (by kernel_rfl) (by kernel_rfl) (by kernel_rfl) (fun _ _ _ h => h) (Or.inl ⟨by rfl, ?_⟩) hH ?_
  rotate_left
  · intro w hSw
    go_simp
    with_reducible rfl
  try simp only [List.getElem_toArray, List.getElem_cons_succ, List.getElem_cons_zero, Act.put, List.setIfInBounds_toArray, List.set_cons_zero, List.set_cons_succ]
  refine wpAnyH_take (i := 3) (v := ?_) rfl (by kernel_rfl) (by kernel_rfl) (by kernel_rfl) (fun _ _ _ h => h) (Or.inl ⟨by rfl, ?_⟩) hH ?_
  rotate_left
  · intro w hSw
    go_simp
    with_reducible rfl
  try simp only [List.getElem_toArray, List.getElem_cons_succ, List.getElem_cons_zero, Act.put, List.setIfInBounds_toArray, List.set_cons_zero, List.set_cons_succ]
  refine wpAnyH_take (i := 4) (v := ?_) rfl (by kernel_rfl) (by kernel_rfl) (by kernel_rfl) (fun _ _ _ h => h) (Or.inl ⟨by rfl, ?_⟩) hH ?_
  rotate_left
  · intro w hSw
    go_simp
    with_reducible rfl
  try simp only [List.getElem_toArray, List.getElem_cons_succ, List.getElem_cons_zero, Act.put, List.setIfInBounds_toArray, List.set_cons_zero, List.set_cons_succ]
  refine wpAnyH_take (i := 6) (v := ?_) rfl (by kernel_rfl) (by kernel_rfl) (by kernel_rfl) (fun _ _ _ h => h) (Or.inl ⟨by rfl, ?_⟩) hH ?_
  rotate_left
  · intro w hSw
    go_simp
    with_reducible rfl
  try simp only [List.getElem_toArray, List.getElem_cons_succ, List.getElem_cons_zero, Act.put, List.setIfInBounds_toArray, List.set_cons_zero, List.set_cons_succ]
  refine wpAnyH_take (i := 7) (v := ?_) rfl (by kernel_rfl) (by kernel_rfl) (by kernel_rfl) (fun _ _ _ h => h) (Or.inl ⟨by rfl, ?_⟩) hH ?_
  rotate_left
  · intro w hSw
    go_simp
    with_reducible rfl
  try simp only [List.getElem_toArray, List.getElem_cons_succ, List.getElem_cons_zero, Act.put, List.setIfInBounds_toArray, List.set_cons_zero, List.set_cons_succ]
  refine wpAnyH_take (i := 9) (v := ?_) rfl (by kernel_rfl) (by kernel_rfl) (by kernel_rfl) (fun _ _ _ h => h) (Or.inl ⟨by rfl, ?_⟩) hH ?_
  rotate_left
  · intro w hSw
    go_simp
    with_reducible rfl
  try simp only [List.getElem_toArray, List.getElem_cons_succ, List.getElem_cons_zero, Act.put, List.setIfInBounds_toArray, List.set_cons_zero, List.set_cons_succ]
  refine wpAnyH_ready (rs := [5]) (by kernel_rfl) (by simp) ?_
  refine AllReadyH.cons rfl (fun K hK => ?_) AllReadyH.nil
  go_simp
  refine (node_i fr hk1.1 hk1.2 w3).mono ?_
  rintro e w4 ⟨rfl, hb4⟩
  have HB4 := Lib.hid (HB3.out.trans (hb4.mono HB3.out.size))
  clear hb4 HB3
  go_simp
  refine hK.out _ _ (HSF.out _ HB4.out) (fun hH4 => ?_)
  clear hK
  refine wpAnyH_ready (rs := [8]) (by kernel_rfl) (by simp) ?_
  refine AllReadyH.cons rfl (fun K hK => ?_) AllReadyH.nil
  go_simp
  refine (node_i tn hk2.1 hk2.2 w4).mono ?_
  rintro e w5 ⟨rfl, hb5⟩
  have HB5 := Lib.hid (HB4.out.trans (hb5.mono HB4.out.size))
  clear hb5 HB4
  go_simp
  refine hK.out _ _ (HSF.out _ HB5.out) (fun hH5 => ?_)
  clear hK
  have hX5 := HX.out.below HB5.out (Nat.le_refl _)
  have hcs := cn_sendE (cp := cap) (HC2.out.bel HB5.out) hc (nodeS_len fr.toNat) (nodeS_len tn.toNat) z hX5 (fun _ => .inl (.inr ⟨HIB.out, HIK.out⟩)) (by omega)
  rw [lst_byts] at hcs
  refine wpAnyH_ready (rs := [10]) (by kernel_rfl) (by simp) ?_
  refine AllReadyH.cons rfl (fun K hK => ?_) AllReadyH.nil
  go_simp
  refine hcs.mono ?_
  rintro e w6 ⟨rfl, hC6, hs6⟩
  have HC6 := Lib.hid hC6
  have HS6 := Lib.hid hs6
  have hin : ∀ k, w.heap.size ≤ k → k < w2.heap.size → w6.heap[k]? = w2.heap[k]? := fun k h1 h2 => (hs6 k (.inr ⟨h1, h2⟩)).trans (HB5.out.block k h2)
  have HSM : Hid (Same Kp w w6) := Lib.hid fun k hk => (hs6 k (.inl hk)).trans ((HB5.out.block k (Nat.lt_of_lt_of_le (HC.out.lt k hk) HB2.out.size)).trans (HB2.out.block k (HC.out.lt k hk)))
  have HR6 : Hid (ByR w6 ib sd.size S) := Lib.hid (by
    obtain ⟨⟨cs, h1, h2⟩, h3⟩ := HR.out
    exact ⟨⟨cs, (hin ib HIB.out HIK.out).trans h1, h2⟩, h3⟩)
  have HQ6 := Lib.hid ((hin ab (by have := HAB.out; omega) (lt_of_block HQ2.out)).trans HQ2.out)
  clear hcs hC6 hs6 hin hX5
  go_simp
  refine hK.out _ _ (by exact ⟨has_cell HQ6.out 1, has_cell HQ6.out 2, has_cell HQ6.out 3⟩) (fun hH6 => ?_)
  clear hK
  refine wpAnyH_take (i := 11) (v := ?_) rfl (by kernel_rfl) (by kernel_rfl) (by kernel_rfl) (fun _ _ _ h => h) (Or.inl ⟨by rfl, ?_⟩) hH6 ?_
  rotate_left
  · intro w hSw
    go_simp
    with_reducible rfl
  try simp only [List.getElem_toArray, List.getElem_cons_succ, List.getElem_cons_zero, Act.put, List.setIfInBounds_toArray, List.set_cons_zero, List.set_cons_succ]
  refine wpAnyH_done (by kernel_rfl) ?_ _
  clear hH hH4 hH5 hH6
  generalize errV (sendE s z) = ev at *
  generalize sendS s z (nodeS fr.toNat) (nodeS tn.toNat) (byts sd) = s' at *
  go_wp2_with fail
  go_loopw [7] (fun iv wr => ∃ j : Nat, j ≤ sd.size ∧ iv = .int .i64 j ∧ CN w0 (fun k => Kp k ∨ (w.heap.size ≤ k ∧ k < w2.heap.size)) b (c + 1) s' wr ∧ Same Kp w wr ∧ ByR wr ib sd.size S) (fun iv _ => sd.size - (intOf iv).toNat)
  case atStart => exact ⟨0, Nat.zero_le _, rfl, HC6.out, HSM.out, HR6.out⟩
  case round =>
    obtain ⟨j, hj, rfl, hC, hs, hr⟩ := hrel
    have HC7 := Lib.hid hC
    have HS7 := Lib.hid hs
    have HR7 := Lib.hid hr
    clear hC hs hr
    by_cases hlt : j < sd.size
    · obtain ⟨x, hx, hf, hx0, hx1⟩ := HR7.out.at_ hlt
      have dj : decide ((j : Int) < (sd.size : Int)) = true := decide_eq_true (by omega)
      obtain ⟨y, hy⟩ : ∃ y, IntKind.u8.wrap (x + 1) = y := ⟨_, rfl⟩
      have hyb : 0 ≤ y ∧ y ≤ 255 := by
        rw [← hy]
        simp [IntKind.wrap, IntKind.bits, IntKind.signed]
        omega
      have HN := Lib.hid (HR7.out.set (i := j) hyb.1 hyb.2)
      have HCN := Lib.hid (HC7.out.grown (w' := wr.setCell ⟨ib, j, none⟩ (.int .u8 y)) (r := some ib) ⟨rfl, rfl, rfl, by simp, fun k hk hr => Below.heap_setCell _ _ _ _ fun e => hr (by rw [e])⟩ (fun g hg => by
        obtain rfl := Option.some.inj hg
        exact ⟨.inr ⟨HIB.out, HIK.out⟩, Nat.le_trans HC.out.be.size HIB.out⟩))
      have HSN : Hid (Same Kp w (wr.setCell ⟨ib, j, none⟩ (.int .u8 y))) := Lib.hid fun k hk => (Below.heap_setCell _ _ _ _ (fun e => by dsimp only at e; have := HC.out.lt k hk; have := HIB.out; omega)).trans (HS7.out k hk)
      go_wp2_with fail
      go_roundw
      case rel => exact ⟨j + 1, by omega, by go_num, HCN.out, HSN.out, HN.out⟩
      case measure => simp [intOf]; omega
    · obtain rfl : j = sd.size := by omega
      have dj : decide ((sd.size : Int) < (sd.size : Int)) = false := decide_eq_false (by omega)
      go_wp2_with fail
      go_ret
      exact ⟨rfl, HC7.out.less fun k hk => .inl hk, HS7.out⟩
end
end Go.Proofs.Ytkhiepjlfbjgdaa

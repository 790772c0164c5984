/- queue: the document's lists: find, without, Sum. Conditions: the lists can be read and are short. -/
import Derived.Test.YtonkaodbjohkkaaQuPp
import Derived.Test.YtonkaodbjohkkaaQuO
import Derived.Test.YtonkaodbjohkkaaHeld
import Derived.Test.YtonkaodbjohkkaaRk
namespace Go.Proofs.Ytonkaodbjohkkaa
open Go.RowKit

theorem infoDE : (Try.prog.info? 69).map (fun i => (i.zero, i.size, i.bytes)) = some (some (.agg #[.string ByteArray.empty, .int .i64 0]), 2, 24) := by kernel_rfl
/-- The document's list at v. -/
def IsE (w : World) (v : Value) (l : List It) : Prop := OL w 69 2 v l.length (itCells l)
section
variable {w w' : World} {v : Value} {l : List It}
theorem IsE.at_ {g off cap : Nat} (h : IsE w (.slice (some ⟨g, off, none⟩) l.length cap) l) {i : Nat} (hi : i < l.length) : w.cell? ⟨g, off + i * 2, none⟩ = some (.string (l.getD i dIt).1) ∧ w.cell? ⟨g, off + i * 2 + 1, none⟩ = some (.int .i64 (l.getD i dIt).2) := by
  obtain ⟨e0, e1⟩ := itCells_get l i hi
  have c0 := OL.cell h (i * 2) (by omega)
  have c1 := OL.cell h (i * 2 + 1) (by omega)
  rw [← Nat.add_assoc] at c1
  have e : l.getD i dIt = l[i] := by simp [List.getD, hi]
  rw [e]
  exact ⟨c0.trans e0, c1.trans e1⟩
set_option maxRecDepth 100000 in
set_option maxHeartbeats 800000 in
theorem dfind_any (h : IsE w v l) (k : ByteArray) : Calls Try.prog 34 #[v, .string k] w fun e w' => e = .returned (.int .i64 (idxI l k)) ∧ ∃ n, w' = w.drewN n := by
  obtain ⟨ao, cap, rfl, hcp, hcm, hao⟩ := OL.shape h
  have HO := Lib.hid h
  have HA := Lib.hid hao
  have hmax : l.length ≤ 9223372036854775807 := by omega
  clear h hao hcp
  go_enter Try.func34, Try.ntmps34
  go_wp2_with fail
  go_loopw [8] (fun i wr => ∃ j : Nat, j ≤ l.length ∧ i = .int .i64 j ∧ (∀ q, q < j → eqB (l.getD q dIt).1 k = false) ∧ ∃ n, wr = w.drewN n) (fun i _ => l.length - (intOf i).toNat)
  case atStart => exact ⟨0, Nat.zero_le _, rfl, fun q hq => by omega, 0, rfl⟩
  case round =>
    obtain ⟨j, hk, rfl, hno, n, rfl⟩ := hrel
    have HNO := Lib.hid hno
    clear hno
    by_cases hlt : j < l.length
    · obtain ⟨g, off, rfl⟩ := HA.out (by omega)
      obtain ⟨a0, a1⟩ := IsE.at_ (OL.bel HO.out (below_draw _ w n)) hlt
      have HEQ : Hid ((l.getD j dIt).1 = (l.getD j dIt).1) := Lib.hid rfl
      cases hq : eqB (l.getD j dIt).1 k
      · have HQ := Lib.hid hq
        unfold eqB at hq
        generalize hx : (l.getD j dIt).1 = x at *
        go_wp2
        go_roundw
        case rel => exact ⟨j + 1, by omega, by go_num, fun q h => by
          rcases Nat.lt_succ_iff_lt_or_eq.1 h with h | h
          · exact HNO.out q h
          · rw [h, hx]; exact HQ.out, ⟨_, rfl⟩⟩
        case measure => simp [intOf]; omega
      · have HR := Lib.hid (idxN_some hlt hq HNO.out)
        unfold eqB at hq
        generalize (l.getD j dIt).1 = x at *
        go_wp2
        go_ret
        exact ⟨by unfold idxI; rw [HR.out]; rfl, ⟨_, rfl⟩⟩
    · obtain rfl : j = l.length := by omega
      have HR := Lib.hid (idxN_none HNO.out)
      go_wp2
      go_ret
      exact ⟨by unfold idxI; rw [HR.out]; rfl, ⟨_, rfl⟩⟩
set_option maxRecDepth 100000 in
set_option maxHeartbeats 800000 in
theorem dsum_any (h : IsE w v l) (h0 : ∀ x ∈ l, 0 ≤ x.2) (hs : sumI l ≤ 4611686018427387904) : Calls Try.prog 36 #[v] w fun e w' => e = .returned (.int .i64 (sumI l)) ∧ ∃ n, w' = w.drewN n := by
  obtain ⟨ao, cap, rfl, hcp, hcm, hao⟩ := OL.shape h
  have HO := Lib.hid h
  have HA := Lib.hid hao
  have H0 := Lib.hid h0
  have HS := Lib.hid (fun j => sumI_take h0 j)
  have hmax : l.length ≤ 9223372036854775807 := by omega
  clear h hao hcp h0
  go_enter Try.func36, Try.ntmps36
  go_wp2_with fail
  go_loopw [3, 7] (fun s i wr => ∃ j : Nat, j ≤ l.length ∧ i = .int .i64 j ∧ s = .int .i64 (sumI (l.take j)) ∧ ∃ n, wr = w.drewN n) (fun _ i _ => l.length - (intOf i).toNat)
  case atStart => exact ⟨0, Nat.zero_le _, rfl, by rw [List.take_zero]; rfl, 0, rfl⟩
  case round =>
    obtain ⟨j, hk, rfl, rfl, n, rfl⟩ := hrel
    by_cases hlt : j < l.length
    · obtain ⟨g, off, rfl⟩ := HA.out (by omega)
      obtain ⟨a0, a1⟩ := IsE.at_ (OL.bel HO.out (below_draw _ w n)) hlt
      have hx := H0.out (l.getD j dIt) (by simp [List.getD, hlt])
      obtain ⟨s0, s1⟩ := HS.out j
      obtain ⟨s2, s3⟩ := HS.out (j + 1)
      have HN := Lib.hid (show sumI (l.take (j + 1)) = sumI (l.take j) + (l.getD j dIt).2 from by rw [take_snoc hlt, sumI_append, sumI_cons, sumI_nil, Int.add_zero])
      rw [HN.out] at s2 s3
      generalize l.getD j dIt = c at a0 a1 HN hx s2 s3
      generalize sumI (l.take j) = sj at *
      go_wp2
      go_roundw
      case rel => exact ⟨j + 1, by omega, by go_num, by rw [HN.out], ⟨_, rfl⟩⟩
      case measure => simp [intOf]; omega
    · obtain rfl : j = l.length := by omega
      have HR := Lib.hid (show l.take l.length = l from List.take_length)
      go_wp2
      go_ret
      exact ⟨by rw [HR.out]; rfl, ⟨_, rfl⟩⟩
/-- Cutting at the end: v[:k]. -/
theorem OL.head {w : World} {e : TypeId} {size : Nat} {g off n cap : Nat} {xs : List Value} (h : OL w e size (.slice (some ⟨g, off, none⟩) n cap) n xs) (k : Nat) (hk : k ≤ n) : OL w e size (.slice (some ⟨g, off, none⟩) k cap) k (xs.take (k * size)) := by
  have hlen := h.1
  have hle : k * size ≤ n * size := Nat.mul_le_mul_right _ hk
  rcases h.2 with ⟨h', _⟩ | ⟨g', off', cap', cur, h', hg, hnc, hcm, hsz, ht⟩
  · simp at h'
  · simp only [Value.slice.injEq, Option.some.injEq, Addr.mk.injEq, and_true, true_and] at h'
    obtain ⟨⟨rfl, rfl⟩, rfl⟩ := h'
    refine ⟨by rw [List.length_take, hlen]; omega, .inr ⟨g, off, cap, cur, rfl, hg, by omega, hcm, hsz, ?_⟩⟩
    rw [← ht, List.take_take, Nat.min_eq_left hle]
/-- What a call leaves that returns a new list of the document. -/
def NewE (l : List It) (w : World) (en : Ending) (w' : World) : Prop := ∃ ao cap, en = .returned (.slice ao l.length cap) ∧ IsE w' (.slice ao l.length cap) l ∧ (∀ k, (Value.slice ao l.length cap).ownBlock = some k → w.heap.size ≤ k) ∧ Below w.heap.size w w'
/-- What is appended. -/
theorem IsE.src (h : IsE w v l) : Src Try.prog 2 39 v l.length (itCells l) w := OL.src h Try.underlying39 (itCells_one l)
set_option maxRecDepth 100000 in
set_option maxHeartbeats 1600000 in
theorem dwithout_any (h : IsE w v l) {i : Nat} (hi : i < l.length) (hl : l.length ≤ 100000) : Calls Try.prog 35 #[v, .int .i64 i] w (NewE (l.eraseIdx i) w) := by
  obtain ⟨ao, cap, rfl, hcp, hcm, hao⟩ := OL.shape h
  obtain ⟨g, off, rfl⟩ := hao (by omega)
  obtain ⟨m, hm⟩ : ∃ m, m = i + 1 := ⟨_, rfl⟩
  obtain ⟨vt, hvt, ht⟩ : ∃ vt, vt = (Value.slice (if cap = m then some ⟨g, off, none⟩ else some ⟨g, off + m * 2, none⟩) (l.length - m) (cap - m)) ∧ IsE w vt (l.drop m) := ⟨_, rfl, by
    unfold IsE
    rw [List.length_drop, itCells_drop]
    exact OL.tail h m (by omega)⟩
  have hh : IsE w (.slice (some ⟨g, off, none⟩) i cap) (l.take i) := by
    unfold IsE
    rw [List.length_take, Nat.min_eq_left (by omega), itCells_take]
    exact OL.head h i (by omega)
  have HH := Lib.hid (fun wx (hb : Below w.heap.size w wx) => OL.bel hh hb)
  have HT := Lib.hid (fun wx (hb : Below w.heap.size w wx) => OL.bel ht hb)
  have HE : Hid (itCells (l.take i) ++ itCells (l.drop m) = itCells (l.eraseIdx i)) := Lib.hid (by rw [hm, ← itCells_append, List.eraseIdx_eq_take_drop_succ])
  have HL : Hid ((l.eraseIdx i).length = i + (l.length - m)) := Lib.hid (by rw [List.length_eraseIdx_of_lt hi]; omega)
  have HTL : Hid ((l.take i).length = i) := Lib.hid (by rw [List.length_take]; omega)
  have HDL : Hid ((l.drop m).length = l.length - m) := Lib.hid (by rw [List.length_drop])
  have hic : i ≤ cap := by omega
  have hil : i ≤ l.length := by omega
  have hml : m ≤ l.length := by omega
  have hwr : IntKind.i64.wrap ((i : Int) + 1) = (m : Int) := by rw [IntWalk.i64_in _ (by omega)]; omega
  clear h ht hh hao hm
  subst hvt
  go_enter Try.func35, Try.ntmps35
  go_upto_region 1 with fail
  refine wp_region_held_drew (S := (fun _ : World => True)) (by kernel_rfl) (trivial) (fun hH => ?_)
  obtain ⟨w1, hw1⟩ : ∃ w1, w1 = w.drew := ⟨_, rfl⟩
  have HB1 : Hid (Below w.heap.size w w1) := Lib.hid (by rw [hw1]; exact below_drew _ _)
  rw [← hw1]
  clear hw1
  refine wpAnyH_take (i := 1) (v := ?_) rfl (by kernel_rfl) (by kernel_rfl) (by kernel_rfl) (fun _ _ _ h => h) (Or.inl ⟨by rfl, ?_⟩) hH ?_
  rotate_left
  · intro w hSw
    go_simp
    with_reducible rfl
  try simp only [List.getElem_toArray, List.getElem_cons_succ, List.getElem_cons_zero, Act.put, List.setIfInBounds_toArray, List.set_cons_zero, List.set_cons_succ]
  refine wpAnyH_take (i := 2) (v := ?_) rfl (by kernel_rfl) (by kernel_rfl) (by kernel_rfl) (fun _ _ _ h => h) (Or.inl ⟨by rfl, ?_⟩) hH ?_
  rotate_left
  · intro w hSw
    go_simp
    with_reducible rfl
  try simp only [List.getElem_toArray, List.getElem_cons_succ, List.getElem_cons_zero, Act.put, List.setIfInBounds_toArray, List.set_cons_zero, List.set_cons_succ]
  refine wpAnyH_take (i := 3) (v := ?_) rfl (by kernel_rfl) (by kernel_rfl) (by kernel_rfl) (fun _ _ _ h => h) (Or.inl ⟨by rfl, ?_⟩) hH ?_
  rotate_left
  · intro w hSw
    go_simp
    with_reducible rfl
  try simp only [List.getElem_toArray, List.getElem_cons_succ, List.getElem_cons_zero, Act.put, List.setIfInBounds_toArray, List.set_cons_zero, List.set_cons_succ]
  refine wpAnyH_take (i := 5) (v := ?_) rfl (by kernel_rfl) (by kernel_rfl) (by kernel_rfl) (fun _ _ _ h => h) (Or.inl ⟨by rfl, ?_⟩) hH ?_
  rotate_left
  · intro w hSw
    go_simp
    with_reducible rfl
  try simp only [List.getElem_toArray, List.getElem_cons_succ, List.getElem_cons_zero, Act.put, List.setIfInBounds_toArray, List.set_cons_zero, List.set_cons_succ]
  refine wpAnyH_take (i := 6) (v := ?_) rfl (by kernel_rfl) (by kernel_rfl) (by kernel_rfl) (fun _ _ _ h => h) (Or.inl ⟨by rfl, ?_⟩) hH ?_
  rotate_left
  · intro w hSw
    go_simp
    with_reducible rfl
  try simp only [List.getElem_toArray, List.getElem_cons_succ, List.getElem_cons_zero, Act.put, List.setIfInBounds_toArray, List.set_cons_zero, List.set_cons_succ]
  refine wpAnyH_take (i := 7) (v := ?_) rfl (by kernel_rfl) (by kernel_rfl) (by kernel_rfl) (fun _ _ _ h => h) (Or.inl ⟨by rfl, ?_⟩) hH ?_
  rotate_left
  · intro w hSw
    go_simp
    with_reducible rfl
  try simp only [List.getElem_toArray, List.getElem_cons_succ, List.getElem_cons_zero, Act.put, List.setIfInBounds_toArray, List.set_cons_zero, List.set_cons_succ]
  refine wpAnyH_take (i := 8) (v := ?_) rfl (by kernel_rfl) (by kernel_rfl) (by kernel_rfl) (fun _ _ _ h => h) (Or.inl ⟨by rfl, ?_⟩) hH ?_
  rotate_left
  · intro w hSw
    go_simp
    with_reducible rfl
  try simp only [List.getElem_toArray, List.getElem_cons_succ, List.getElem_cons_zero, Act.put, List.setIfInBounds_toArray, List.set_cons_zero, List.set_cons_succ]
  refine wpAnyH_ready (rs := [0]) (by kernel_rfl) (by simp) ?_
  refine AllReadyH.cons rfl (fun K hK => ?_) AllReadyH.nil
  go_simp
  have hbA := (Below.refl w1.heap.size w1).alloc (Nat.le_refl _) (.cells #[] 69)
  have hqA := heap_alloc_new w1 (.cells #[] 69)
  refine hK.out _ _ trivial (fun hH2 => ?_)
  clear hK K
  obtain ⟨q, hq⟩ : ∃ q, w1.heap.size = q := ⟨_, rfl⟩
  rw [hq] at hqA ⊢
  generalize w1.alloc (.cells #[] 69) = wA at *
  refine wpAnyH_ready (rs := [4]) (by kernel_rfl) (by simp) ?_
  refine AllReadyH.cons rfl (fun K hK => ?_) AllReadyH.nil
  obtain ⟨ao2, cp2, w2, hap, ho2, how2, hb2⟩ := app_fresh 39 _ _ Try.underlying39 infoDE rfl (by omega) hqA (IsE.src (HH.out wA (HB1.out.trans (hbA.mono HB1.out.size)))) (by unfold maxLen; rw [HTL.out]; omega) (by rw [HTL.out]; omega)
  rw [HTL.out] at hap ho2 how2
  refine wp_append_run (v := .slice (some ⟨q, 0, none⟩) 0 0) (xv := .slice (some ⟨g, off, none⟩) i cap) (.tmp 5) (.tmp 8) 39 39 rfl (by rfl) (by rfl) hap ?_
  refine hK.out _ _ trivial (fun hH3 => ?_)
  clear hK K hap
  have hb2' := hbA.trans (hb2.mono hbA.size)
  have how : ∀ k, (Value.slice ao2 i cp2).ownBlock = some k → w1.heap.size ≤ k := fun k hk => by
    have := hbA.size
    rcases how2 with h | h <;> (rw [hk] at h; have := Option.some.inj h; omega)
  refine wpAnyH_ready (rs := [9]) (by kernel_rfl) (by simp) ?_
  refine AllReadyH.cons rfl (fun K hK => ?_) AllReadyH.nil
  obtain ⟨ti, hi', iz, is, ib⟩ := info_parts infoDE
  obtain ⟨v', w3, hap, ho3, hg3, how3⟩ := ho2.append (P := Try.prog) 39 39 39 ti _ _ Try.underlying39 hi' iz is ib rfl (by omega) (IsE.src (HT.out w2 (HB1.out.trans (hb2'.mono HB1.out.size)))) (by unfold maxLen; rw [HDL.out]; omega) (by rw [HDL.out]; omega)
  rw [HDL.out] at ho3
  rw [HE.out] at ho3
  have hb3 : Below w1.heap.size w1 w3 := hb2'.grown hg3 hb2'.size how
  have how' : ∀ k, v'.ownBlock = some k → w.heap.size ≤ k := fun k hk => by
    have h1 := HB1.out.size
    have h2 := hb2'.size
    rcases how3 with h | h
    · have := how k (by rw [← h]; exact hk); omega
    · rw [hk] at h; have := Option.some.inj h; omega
  rw [← HL.out] at ho3
  obtain ⟨ao4, cp4, rfl, _, _, _⟩ := OL.shape ho3
  refine wp_append_run (v := .slice ao2 i cp2) (xv := .slice (if cap = m then some ⟨g, off, none⟩ else some ⟨g, off + m * 2, none⟩) (l.length - m) (cap - m)) (.tmp 9) (.tmp 13) 39 39 rfl (by rfl) (by rfl) hap ?_
  refine hK.out _ _ trivial (fun hH4 => ?_)
  have HP : Hid (NewE (l.eraseIdx i) w (.returned (.slice ao4 (l.eraseIdx i).length cp4)) w3) := Lib.hid ⟨_, _, rfl, ho3, how', HB1.out.trans (hb3.mono HB1.out.size)⟩
  clear hK K hap
  refine wpAnyH_take (i := 10) (v := ?_) rfl (by kernel_rfl) (by kernel_rfl) (by kernel_rfl) (fun _ _ _ h => h) (Or.inl ⟨by rfl, ?_⟩) hH4 ?_
  rotate_left
  · intro w hSw
    go_simp
    with_reducible rfl
  try simp only [List.getElem_toArray, List.getElem_cons_succ, List.getElem_cons_zero, Act.put, List.setIfInBounds_toArray, List.set_cons_zero, List.set_cons_succ]
  refine wpAnyH_done (by kernel_rfl) ?_ _
  go_wp2_with fail
  all_goals
    go_ret
    exact HP.out
end
end Go.Proofs.Ytonkaodbjohkkaa

/- The document's New. Conditions: the slice can be read. -/
import Derived.Test.YtmdajndmobpgbaaZGrA
namespace Go.Proofs.Ytmdajndmobpgbaa
open Go.RowKit
open Go.Proofs.Ytmdajndmobpgbaa.Fq

/-- A queue's five cells are stored. -/
theorem set5 {w : World} {rb : Nat} {t : TypeId} {a0 a1 a2 a3 a4 : Value} (h : w.heap[rb]? = some (.cells #[a0, a1, a2, a3, a4] t (0, 0))) (x0 x1 x2 x3 x4 : Value) :
    (((((w.setCell ⟨rb, 0, none⟩ x0).setCell ⟨rb, 1, none⟩ x1).setCell ⟨rb, 2, none⟩ x2).setCell ⟨rb, 3, none⟩ x3).setCell ⟨rb, 4, none⟩ x4).heap[rb]? = some (.cells #[x0, x1, x2, x3, x4] t (0, 0)) ∧
    (∀ k, k ≠ rb → (((((w.setCell ⟨rb, 0, none⟩ x0).setCell ⟨rb, 1, none⟩ x1).setCell ⟨rb, 2, none⟩ x2).setCell ⟨rb, 3, none⟩ x3).setCell ⟨rb, 4, none⟩ x4).heap[k]? = w.heap[k]?) ∧
    ∀ B w0, B ≤ rb → Below B w0 w → Below B w0 (((((w.setCell ⟨rb, 0, none⟩ x0).setCell ⟨rb, 1, none⟩ x1).setCell ⟨rb, 2, none⟩ x2).setCell ⟨rb, 3, none⟩ x3).setCell ⟨rb, 4, none⟩ x4) := by
  refine ⟨?_, fun k hk => ?_, fun B w0 hB hb => ?_⟩
  · exact setCell_heap_self (o := 4) (u := x4) (setCell_heap_self (o := 3) (u := x3) (setCell_heap_self (o := 2) (u := x2) (setCell_heap_self (o := 1) (u := x1) (setCell_heap_self (o := 0) (u := x0) h))))
  · rw [Below.heap_setCell _ _ _ _ hk, Below.heap_setCell _ _ _ _ hk, Below.heap_setCell _ _ _ _ hk, Below.heap_setCell _ _ _ _ hk, Below.heap_setCell _ _ _ _ hk]
  · exact ((((hb.setCell hB _).setCell hB _).setCell hB _).setCell hB _).setCell hB _
section
variable {w w' : World} {vq vd vl v : Value} {s : FQ} {Q : Nat → Int} {n : Nat}
theorem IsInts.src {ao : Option Addr} {c b off : Nat} (h : IsInts w ao n b off Q) : Src Try.prog 1 37 (.slice ao n c) n (ints (qList Q n)) w := by
  rcases Nat.eq_zero_or_pos n with h0 | h0
  · subst h0
    cases ao with
    | none => exact Src.ofNil (size := 1) w Try.underlying37 c
    | some a => exact Src.ofSlice (size := 1) w Try.underlying37 a 0 c [] rfl (fun j u hu => by simp at hu) (fun u hu => by simp at hu)
  · obtain rfl := h.ao h0
    refine Src.ofSlice (size := 1) w Try.underlying37 ⟨b, off, none⟩ n c _ (by simp [ints, qList]) (fun j u hu => ?_) (ints_one _)
    have hj : j < n := by
      have := (List.getElem?_eq_some_iff.1 hu).1
      simpa [ints, qList] using this
    rw [Addr.add_lit, h.c j hj]
    rw [← hu, ints_get _ _ (by simpa [qList] using hj)]
    simp [qList, List.getD, hj]
theorem rq_made {wx : World} {g5 g8 cp : Nat} {ao : Option Addr} (hn : n ≤ 16) (F2 : OL wx 3 1 (.slice ao n cp) n (ints (qList Q n))) (F5 : wx.heap[g5]? = some (.cells (madeCells #[.int .i64 0] n) 3 (0, 0))) (F8 : wx.heap[g8]? = some (.cells (madeCells #[.slice none 0 0] n) 127 (0, 0))) :
    RQL wx (.slice ao n cp) (.slice (some ⟨g5, 0, none⟩) n n) (.slice (some ⟨g8, 0, none⟩) n n) (List.replicate n nilS) (FQ.init Q n) := by
  have hm : (FQ.init Q n).m = n := init_m Q n
  rw [madeCells_list] at F5 F8
  refine ⟨by rw [hm]; exact F2, ?_, ?_, by rw [hm]; simp, ?_, fun t ht => ?_, by rw [hm]; exact qList_len Q n, by rw [hm]; show (List.replicate n 0).length = n; simp⟩
  · rw [hm]
    have : ints (FQ.init Q n).defs = List.replicate n (.int .i64 0) := by show ints (List.replicate n 0) = _; simp [ints]
    rw [this]
    exact OL.of_block (cs := List.replicate n (.int .i64 0)) F5 (by simp) (by unfold maxLen; omega)
  · rw [hm]
    exact OL.of_block (cs := List.replicate n nilS) F8 (by simp) (by unfold maxLen; omega)
  · intro u hu
    obtain ⟨_, rfl⟩ := List.mem_replicate.1 hu
    rfl
  · have e : (FQ.init Q n).lst t = [] := init_lst Q n t
    have e2 : (List.replicate n nilS).getD t nilS = nilS := by by_cases h : t < n <;> simp [List.getD, h]
    rw [e, e2]
    exact OL.nil _ _ _
def RNewOk (Q : Nat → Int) (n : Nat) (w : World) (e : Ending) (w' : World) : Prop := ∃ vq vd vl lv, e = .returned (.tuple #[rqV vq vd vl (FQ.init Q n), .int .i64 0]) ∧ RQK (fun k => w.heap.size ≤ k) w' vq vd vl lv (FQ.init Q n) ∧ Below w.heap.size w w'
def RNewBad (w : World) (e : Ending) (w' : World) : Prop := e = .returned (.tuple #[.agg #[.slice none 0 0, .slice none 0 0, .slice none 0 0, .int .i64 0, .bool false], .int .i64 1]) ∧ Below w.heap.size w w'
set_option maxRecDepth 100000 in
set_option maxHeartbeats 9600000 in
theorem rnew_ok {ao : Option Addr} {c b off : Nat} (h : IsInts w ao n b off Q) (hn : newOk Q n) : Calls Try.prog 51 #[.slice ao n c] w (RNewOk Q n w) := by
  obtain ⟨h1, h16, hQ⟩ := hn
  obtain rfl := h.ao h1
  have hb0 := (Below.refl w.heap.size w).alloc (Nat.le_refl _) (.cells #[.slice none 0 0, .slice none 0 0, .slice none 0 0, .int .i64 0, .bool false] 55)
  have hq0 := heap_alloc_new w (.cells #[.slice none 0 0, .slice none 0 0, .slice none 0 0, .int .i64 0, .bool false] 55)
  have HH := Lib.hid (fun wx (hb : Below w.heap.size w wx) => h.below hb (Nat.le_refl _))
  have HQ := Lib.hid hQ
  have HB0 := Lib.hid hb0
  have HQ0 := Lib.hid hq0
  have hm1 := fun w => run_make_row' (P := Try.prog) 37 3 (.int .i64 0) 8 Try.underlying37 (by kernel_rfl) rfl .i64 .i64 n (by omega) (by omega) w
  have hm2 := fun w => run_make_row' (P := Try.prog) 53 127 (.slice none 0 0) 24 Try.underlying53 (by kernel_rfl) rfl .i64 .i64 n (by omega) (by omega) w
  clear h hQ hb0 hq0
  go_enter Try.func51, Try.ntmps51
  go_wp2_with fail
  obtain ⟨rb, hrb⟩ : ∃ rb, w.heap.size = rb := ⟨_, rfl⟩
  have HLR : Hid (w.heap.size ≤ rb) := Lib.hid (by omega)
  rw [hrb] at HQ0 ⊢
  clear hrb
  generalize w.alloc (.cells #[.slice none 0 0, .slice none 0 0, .slice none 0 0, .int .i64 0, .bool false] 55) = wa at *
  go_loopw [17] (fun iv wr => ∃ j : Nat, j ≤ n ∧ iv = .int .i64 j ∧ wr = wa) (fun iv _ => n - (intOf iv).toNat)
  case atStart => exact ⟨0, Nat.zero_le _, rfl, rfl⟩
  case round =>
    obtain ⟨j, hj, rfl, rfl⟩ := hrel
    have HHX := Lib.hid (HH.out _ HB0.out)
    by_cases hlt : j < n
    · have c0 := HHX.out.c j hlt
      obtain ⟨b1, b2⟩ := HQ.out j hlt
      generalize Q j = x at *
      go_wp2_with fail
      go_roundw
      case rel => exact ⟨j + 1, by omega, by go_num, by first | rfl | trivial⟩
      case measure => simp [intOf]; omega
    · obtain rfl : j = n := by omega
      go_upto_region 9 with fail
      clear hlt
      refine wp_region_held_drew (S := (fun _ : World => True)) (by kernel_rfl) (trivial) (fun hH => ?_)
      obtain ⟨w1, hw1⟩ : ∃ w1, w1 = wr.drew := ⟨_, rfl⟩
      have HB1 : Hid (Below w.heap.size w w1) := Lib.hid (by rw [hw1]; exact HB0.out.trans (below_drew _ _))
      have HRB : Hid (w1.heap[rb]? = some (.cells #[.slice none 0 0, .slice none 0 0, .slice none 0 0, .int .i64 0, .bool false] 55 (0, 0))) := Lib.hid (by rw [hw1]; exact HQ0.out)
      rw [← hw1]
      have HSRC := Lib.hid (fun wx (hb : Below w.heap.size w wx) => (HH.out wx hb).src (c := c))
      clear hw1 HB0 HQ0 HHX HH
      have HBX := Lib.hid (Below.refl w1.heap.size w1)
      refine wpAnyH_take (i := 1) (v := ?_) rfl (by kernel_rfl) (by kernel_rfl) (by kernel_rfl) (fun _ _ _ h => h) (Or.inl ⟨by rfl, ?_⟩) hH ?_
      rotate_left
      · intro w hSw
        go_simp
        with_reducible rfl
      try simp only [List.getElem_toArray, List.getElem_cons_succ, List.getElem_cons_zero, Act.put, List.setIfInBounds_toArray, List.set_cons_zero, List.set_cons_succ]
      refine wpAnyH_take (i := 3) (v := ?_) rfl (by kernel_rfl) (by kernel_rfl) (by kernel_rfl) (fun _ _ _ h => h) (Or.inl ⟨by rfl, ?_⟩) hH ?_
      rotate_left
      · intro w hSw
        go_simp
        with_reducible rfl
      try simp only [List.getElem_toArray, List.getElem_cons_succ, List.getElem_cons_zero, Act.put, List.setIfInBounds_toArray, List.set_cons_zero, List.set_cons_succ]
      refine wpAnyH_take (i := 4) (v := ?_) rfl (by kernel_rfl) (by kernel_rfl) (by kernel_rfl) (fun _ _ _ h => h) (Or.inl ⟨by rfl, ?_⟩) hH ?_
      rotate_left
      · intro w hSw
        go_simp
        with_reducible rfl
      try simp only [List.getElem_toArray, List.getElem_cons_succ, List.getElem_cons_zero, Act.put, List.setIfInBounds_toArray, List.set_cons_zero, List.set_cons_succ]
      refine wpAnyH_take (i := 6) (v := ?_) rfl (by kernel_rfl) (by kernel_rfl) (by kernel_rfl) (fun _ _ _ h => h) (Or.inl ⟨by rfl, ?_⟩) hH ?_
      rotate_left
      · intro w hSw
        go_simp
        with_reducible rfl
      try simp only [List.getElem_toArray, List.getElem_cons_succ, List.getElem_cons_zero, Act.put, List.setIfInBounds_toArray, List.set_cons_zero, List.set_cons_succ]
      refine wpAnyH_take (i := 7) (v := ?_) rfl (by kernel_rfl) (by kernel_rfl) (by kernel_rfl) (fun _ _ _ h => h) (Or.inl ⟨by rfl, ?_⟩) hH ?_
      rotate_left
      · intro w hSw
        go_simp
        with_reducible rfl
      try simp only [List.getElem_toArray, List.getElem_cons_succ, List.getElem_cons_zero, Act.put, List.setIfInBounds_toArray, List.set_cons_zero, List.set_cons_succ]
      refine wpAnyH_ready (rs := [0, 5, 8]) (by kernel_rfl) (by simp) ?_
      refine AllReadyH.cons rfl (fun K hK => ?_) (AllReadyH.cons rfl (fun K hK => ?_) (AllReadyH.cons rfl (fun K hK => ?_) (AllReadyH.nil)))
      · skip
        go_simp
        have hbX := (Below.refl w1.heap.size w1).alloc (Nat.le_refl _) (.cells #[] 3)
        have hqX := heap_alloc_new w1 (.cells #[] 3)
        obtain ⟨gb0, hgX⟩ : ∃ g, w1.heap.size = g := ⟨_, rfl⟩
        have HGE0 : Hid (w1.heap.size ≤ gb0) := Lib.hid (by have := HBX.out.size; omega)
        rw [hgX] at hqX ⊢
        clear hgX
        generalize w1.alloc (.cells #[] 3) = wo0 at *
        have HRB := Lib.hid ((hbX.block _ (lt_of_block HRB.out)).trans HRB.out)
        have F0 := Lib.hid (hqX)
        have HBX := Lib.hid (HBX.out.trans (hbX.mono HBX.out.size))
        refine hK.out _ _ (trivial) (fun hHwo0 => ?_)
        clear hK K hbX hqX
        refine wpAnyH_ready (rs := [2, 5, 8]) (by kernel_rfl) (by simp) ?_
        refine AllReadyH.cons rfl (fun K hK => ?_) (AllReadyH.cons rfl (fun K hK => ?_) (AllReadyH.cons rfl (fun K hK => ?_) (AllReadyH.nil)))
        · skip
          obtain ⟨ao2, cp2, wo1, hap, ho, how, hbX⟩ := app_fresh 37 _ _ Try.underlying37 infoIn rfl (by omega) F0.out (HSRC.out wo0 (HB1.out.trans (HBX.out.mono HB1.out.size))) (by unfold maxLen; omega) (by omega)
          refine wp_append_run (v := .slice (some ⟨gb0, 0, none⟩) 0 0) (xv := .slice (some ⟨b, off, none⟩) j c) (.tmp 29) (.tmp 30) 37 37 rfl (by rfl) (by rfl) hap ?_
          have HRB := Lib.hid ((hbX.block _ (lt_of_block HRB.out)).trans HRB.out)
          have F0 := Lib.hid ((hbX.block _ (lt_of_block F0.out)).trans F0.out)
          have F2 := Lib.hid (ho)
          have FW2 := Lib.hid (fun k (hk : (Value.slice ao2 j cp2).ownBlock = some k) => show w1.heap.size ≤ k from by rcases how with h | h <;> (rw [hk] at h; have := Option.some.inj h; have := HGE0.out; have := HBX.out.size; omega))
          have HBX := Lib.hid (HBX.out.trans (hbX.mono HBX.out.size))
          refine hK.out _ _ (trivial) (fun hHwo1 => ?_)
          clear hK K hbX hap ho
          refine wpAnyH_ready (rs := [5, 8]) (by kernel_rfl) (by simp) ?_
          refine AllReadyH.cons rfl (fun K hK => ?_) (AllReadyH.cons rfl (fun K hK => ?_) (AllReadyH.nil))
          · skip
            go_simp
            have hbX := (Below.refl wo1.heap.size wo1).alloc (Nat.le_refl _) (.cells (madeCells #[.int .i64 0] j) 3)
            have hqX := heap_alloc_new wo1 (.cells (madeCells #[.int .i64 0] j) 3)
            obtain ⟨gb5, hgX⟩ : ∃ g, wo1.heap.size = g := ⟨_, rfl⟩
            have HGE5 : Hid (w1.heap.size ≤ gb5) := Lib.hid (by have := HBX.out.size; omega)
            rw [hgX] at hqX ⊢
            clear hgX
            generalize wo1.alloc (.cells (madeCells #[.int .i64 0] j) 3) = wo2 at *
            have HRB := Lib.hid ((hbX.block _ (lt_of_block HRB.out)).trans HRB.out)
            have F0 := Lib.hid ((hbX.block _ (lt_of_block F0.out)).trans F0.out)
            have F2 := Lib.hid (OL.bel F2.out hbX)
            have FW2 := Lib.hid (FW2.out)
            have F5 := Lib.hid (hqX)
            have HBX := Lib.hid (HBX.out.trans (hbX.mono HBX.out.size))
            refine hK.out _ _ (trivial) (fun hHwo2 => ?_)
            clear hK K hbX hqX
            refine wpAnyH_ready (rs := [8]) (by kernel_rfl) (by simp) ?_
            refine AllReadyH.cons rfl (fun K hK => ?_) (AllReadyH.nil)
            go_simp
            have hbX := (Below.refl wo2.heap.size wo2).alloc (Nat.le_refl _) (.cells (madeCells #[.slice none 0 0] j) 127)
            have hqX := heap_alloc_new wo2 (.cells (madeCells #[.slice none 0 0] j) 127)
            obtain ⟨gb8, hgX⟩ : ∃ g, wo2.heap.size = g := ⟨_, rfl⟩
            have HGE8 : Hid (w1.heap.size ≤ gb8) := Lib.hid (by have := HBX.out.size; omega)
            rw [hgX] at hqX ⊢
            clear hgX
            generalize wo2.alloc (.cells (madeCells #[.slice none 0 0] j) 127) = wo3 at *
            have HRB := Lib.hid ((hbX.block _ (lt_of_block HRB.out)).trans HRB.out)
            have F0 := Lib.hid ((hbX.block _ (lt_of_block F0.out)).trans F0.out)
            have F2 := Lib.hid (OL.bel F2.out hbX)
            have FW2 := Lib.hid (FW2.out)
            have F5 := Lib.hid ((hbX.block _ (lt_of_block F5.out)).trans F5.out)
            have F8 := Lib.hid (hqX)
            have HBX := Lib.hid (HBX.out.trans (hbX.mono HBX.out.size))
            refine hK.out _ _ (trivial) (fun hHwo3 => ?_)
            clear hK K hbX hqX
            refine wpAnyH_take (i := 9) (v := ?_) rfl (by kernel_rfl) (by kernel_rfl) (by kernel_rfl) (fun _ _ _ h => h) (Or.inl ⟨by rfl, ?_⟩) hHwo3 ?_
            rotate_left
            · intro w hSw
              go_simp
              with_reducible rfl
            try simp only [List.getElem_toArray, List.getElem_cons_succ, List.getElem_cons_zero, Act.put, List.setIfInBounds_toArray, List.set_cons_zero, List.set_cons_succ]
            refine wpAnyH_ready (rs := [10]) (by kernel_rfl) (by simp) ?_
            refine AllReadyH.cons rfl (fun K hK => ?_) (AllReadyH.nil)
            have p0 := (has_cell HRB.out 0).trans (show _ = some (Value.slice none 0 0) from rfl)
            have p1 := (has_cell HRB.out 1).trans (show _ = some (Value.slice none 0 0) from rfl)
            have p2 := (has_cell HRB.out 2).trans (show _ = some (Value.slice none 0 0) from rfl)
            have p3 := (has_cell HRB.out 3).trans (show _ = some (Value.int .i64 0) from rfl)
            have p4 := (has_cell HRB.out 4).trans (show _ = some (Value.bool false) from rfl)
            have f0 := has_free HRB.out 0
            have f1 := has_free HRB.out 1
            have f2 := has_free HRB.out 2
            have f3 := has_free HRB.out 3
            have f4 := has_free HRB.out 4
            go_simp
            clear p0 p1 p2 p3 p4 f0 f1 f2 f3 f4
            refine hK.out _ _ trivial (fun hHwo4 => ?_)
            clear hK K
            refine wpAnyH_take (i := 11) (v := ?_) rfl (by kernel_rfl) (by kernel_rfl) (by kernel_rfl) (fun _ _ _ h => h) (Or.inl ⟨by rfl, ?_⟩) hHwo4 ?_
            rotate_left
            · intro w hSw
              go_simp
              with_reducible rfl
            try simp only [List.getElem_toArray, List.getElem_cons_succ, List.getElem_cons_zero, Act.put, List.setIfInBounds_toArray, List.set_cons_zero, List.set_cons_succ]
            refine wpAnyH_done (by kernel_rfl) ?_ _
            clear hHwo4
            have H5 := set5 HRB.out (.slice ao2 j cp2) (.slice (some ⟨gb5, 0, none⟩) j j) (.slice (some ⟨gb8, 0, none⟩) j j) (.int .i64 0) (.bool false)
            have HRQ := (rq_made h16 F2.out F5.out F8.out).heap (fun b cs t ht hc => H5.2.1 b (type_ne hc HRB.out ht))
            have HW := Lib.hid H5.1
            have HZ := HB1.out.size
            have K5 : ∀ g, (Value.slice (some ⟨gb5, 0, none⟩) j j).ownBlock = some g → w.heap.size ≤ g := by
              intro g hg
              have : gb5 = g := Option.some.inj hg
              have := HGE5.out
              omega
            have K8 : ∀ g, (Value.slice (some ⟨gb8, 0, none⟩) j j).ownBlock = some g → w.heap.size ≤ g := by
              intro g hg
              have : gb8 = g := Option.some.inj hg
              have := HGE8.out
              omega
            have K2 : ∀ g, (Value.slice ao2 j cp2).ownBlock = some g → w.heap.size ≤ g := by
              intro g hg
              have := FW2.out g hg
              omega
            have KE : ∀ t g, ((List.replicate j nilS).getD t nilS).ownBlock = some g → w.heap.size ≤ g := by
              intro t g hg
              have e2 : (List.replicate j nilS).getD t nilS = nilS := by by_cases h : t < j <;> simp [List.getD, h]
              rw [e2] at hg
              simp [nilS, Value.ownBlock] at hg
            have HKK : RQK (fun k => w.heap.size ≤ k) _ _ _ _ _ _ := ⟨HRQ, K2, K5, K8, KE⟩
            clear K5 K8 K2 KE
            have HP : Hid (RNewOk Q j w (.returned (.tuple #[.agg #[.slice ao2 j cp2, .slice (some ⟨gb5, 0, none⟩) j j, .slice (some ⟨gb8, 0, none⟩) j j, .int .i64 0, .bool false], .int .i64 0])) _) := Lib.hid ⟨_, _, _, _, rfl, HKK, H5.2.2 _ _ HLR.out (HB1.out.trans (HBX.out.mono HB1.out.size))⟩
            clear H5 HRQ HKK HZ
            go_wp2_with fail
            try simp only [Exit.inBlock, Exit.then]
            refine bodyPost_ret (results_cell2 rfl _ _ rb 55 _ (0, 0) _ rfl HW.out Try.underlying55 rfl (by kernel_rfl)) rfl ?_
            exact HP.out
          · skip
            go_simp
            have hbX := (Below.refl wo1.heap.size wo1).alloc (Nat.le_refl _) (.cells (madeCells #[.slice none 0 0] j) 127)
            have hqX := heap_alloc_new wo1 (.cells (madeCells #[.slice none 0 0] j) 127)
            obtain ⟨gb8, hgX⟩ : ∃ g, wo1.heap.size = g := ⟨_, rfl⟩
            have HGE8 : Hid (w1.heap.size ≤ gb8) := Lib.hid (by have := HBX.out.size; omega)
            rw [hgX] at hqX ⊢
            clear hgX
            generalize wo1.alloc (.cells (madeCells #[.slice none 0 0] j) 127) = wo2 at *
            have HRB := Lib.hid ((hbX.block _ (lt_of_block HRB.out)).trans HRB.out)
            have F0 := Lib.hid ((hbX.block _ (lt_of_block F0.out)).trans F0.out)
            have F2 := Lib.hid (OL.bel F2.out hbX)
            have FW2 := Lib.hid (FW2.out)
            have F8 := Lib.hid (hqX)
            have HBX := Lib.hid (HBX.out.trans (hbX.mono HBX.out.size))
            refine hK.out _ _ (trivial) (fun hHwo2 => ?_)
            clear hK K hbX hqX
            refine wpAnyH_ready (rs := [5]) (by kernel_rfl) (by simp) ?_
            refine AllReadyH.cons rfl (fun K hK => ?_) (AllReadyH.nil)
            go_simp
            have hbX := (Below.refl wo2.heap.size wo2).alloc (Nat.le_refl _) (.cells (madeCells #[.int .i64 0] j) 3)
            have hqX := heap_alloc_new wo2 (.cells (madeCells #[.int .i64 0] j) 3)
            obtain ⟨gb5, hgX⟩ : ∃ g, wo2.heap.size = g := ⟨_, rfl⟩
            have HGE5 : Hid (w1.heap.size ≤ gb5) := Lib.hid (by have := HBX.out.size; omega)
            rw [hgX] at hqX ⊢
            clear hgX
            generalize wo2.alloc (.cells (madeCells #[.int .i64 0] j) 3) = wo3 at *
            have HRB := Lib.hid ((hbX.block _ (lt_of_block HRB.out)).trans HRB.out)
            have F0 := Lib.hid ((hbX.block _ (lt_of_block F0.out)).trans F0.out)
            have F2 := Lib.hid (OL.bel F2.out hbX)
            have FW2 := Lib.hid (FW2.out)
            have F8 := Lib.hid ((hbX.block _ (lt_of_block F8.out)).trans F8.out)
            have F5 := Lib.hid (hqX)
            have HBX := Lib.hid (HBX.out.trans (hbX.mono HBX.out.size))
            refine hK.out _ _ (trivial) (fun hHwo3 => ?_)
            clear hK K hbX hqX
            refine wpAnyH_take (i := 9) (v := ?_) rfl (by kernel_rfl) (by kernel_rfl) (by kernel_rfl) (fun _ _ _ h => h) (Or.inl ⟨by rfl, ?_⟩) hHwo3 ?_
            rotate_left
            · intro w hSw
              go_simp
              with_reducible rfl
            try simp only [List.getElem_toArray, List.getElem_cons_succ, List.getElem_cons_zero, Act.put, List.setIfInBounds_toArray, List.set_cons_zero, List.set_cons_succ]
            refine wpAnyH_ready (rs := [10]) (by kernel_rfl) (by simp) ?_
            refine AllReadyH.cons rfl (fun K hK => ?_) (AllReadyH.nil)
            have p0 := (has_cell HRB.out 0).trans (show _ = some (Value.slice none 0 0) from rfl)
            have p1 := (has_cell HRB.out 1).trans (show _ = some (Value.slice none 0 0) from rfl)
            have p2 := (has_cell HRB.out 2).trans (show _ = some (Value.slice none 0 0) from rfl)
            have p3 := (has_cell HRB.out 3).trans (show _ = some (Value.int .i64 0) from rfl)
            have p4 := (has_cell HRB.out 4).trans (show _ = some (Value.bool false) from rfl)
            have f0 := has_free HRB.out 0
            have f1 := has_free HRB.out 1
            have f2 := has_free HRB.out 2
            have f3 := has_free HRB.out 3
            have f4 := has_free HRB.out 4
            go_simp
            clear p0 p1 p2 p3 p4 f0 f1 f2 f3 f4
            refine hK.out _ _ trivial (fun hHwo4 => ?_)
            clear hK K
            refine wpAnyH_take (i := 11) (v := ?_) rfl (by kernel_rfl) (by kernel_rfl) (by kernel_rfl) (fun _ _ _ h => h) (Or.inl ⟨by rfl, ?_⟩) hHwo4 ?_
            rotate_left
            · intro w hSw
              go_simp
              with_reducible rfl
            try simp only [List.getElem_toArray, List.getElem_cons_succ, List.getElem_cons_zero, Act.put, List.setIfInBounds_toArray, List.set_cons_zero, List.set_cons_succ]
            refine wpAnyH_done (by kernel_rfl) ?_ _
            clear hHwo4
            have H5 := set5 HRB.out (.slice ao2 j cp2) (.slice (some ⟨gb5, 0, none⟩) j j) (.slice (some ⟨gb8, 0, none⟩) j j) (.int .i64 0) (.bool false)
            have HRQ := (rq_made h16 F2.out F5.out F8.out).heap (fun b cs t ht hc => H5.2.1 b (type_ne hc HRB.out ht))
            have HW := Lib.hid H5.1
            have HZ := HB1.out.size
            have K5 : ∀ g, (Value.slice (some ⟨gb5, 0, none⟩) j j).ownBlock = some g → w.heap.size ≤ g := by
              intro g hg
              have : gb5 = g := Option.some.inj hg
              have := HGE5.out
              omega
            have K8 : ∀ g, (Value.slice (some ⟨gb8, 0, none⟩) j j).ownBlock = some g → w.heap.size ≤ g := by
              intro g hg
              have : gb8 = g := Option.some.inj hg
              have := HGE8.out
              omega
            have K2 : ∀ g, (Value.slice ao2 j cp2).ownBlock = some g → w.heap.size ≤ g := by
              intro g hg
              have := FW2.out g hg
              omega
            have KE : ∀ t g, ((List.replicate j nilS).getD t nilS).ownBlock = some g → w.heap.size ≤ g := by
              intro t g hg
              have e2 : (List.replicate j nilS).getD t nilS = nilS := by by_cases h : t < j <;> simp [List.getD, h]
              rw [e2] at hg
              simp [nilS, Value.ownBlock] at hg
            have HKK : RQK (fun k => w.heap.size ≤ k) _ _ _ _ _ _ := ⟨HRQ, K2, K5, K8, KE⟩
            clear K5 K8 K2 KE
            have HP : Hid (RNewOk Q j w (.returned (.tuple #[.agg #[.slice ao2 j cp2, .slice (some ⟨gb5, 0, none⟩) j j, .slice (some ⟨gb8, 0, none⟩) j j, .int .i64 0, .bool false], .int .i64 0])) _) := Lib.hid ⟨_, _, _, _, rfl, HKK, H5.2.2 _ _ HLR.out (HB1.out.trans (HBX.out.mono HB1.out.size))⟩
            clear H5 HRQ HKK HZ
            go_wp2_with fail
            try simp only [Exit.inBlock, Exit.then]
            refine bodyPost_ret (results_cell2 rfl _ _ rb 55 _ (0, 0) _ rfl HW.out Try.underlying55 rfl (by kernel_rfl)) rfl ?_
            exact HP.out
        · skip
          go_simp
          have hbX := (Below.refl wo0.heap.size wo0).alloc (Nat.le_refl _) (.cells (madeCells #[.int .i64 0] j) 3)
          have hqX := heap_alloc_new wo0 (.cells (madeCells #[.int .i64 0] j) 3)
          obtain ⟨gb5, hgX⟩ : ∃ g, wo0.heap.size = g := ⟨_, rfl⟩
          have HGE5 : Hid (w1.heap.size ≤ gb5) := Lib.hid (by have := HBX.out.size; omega)
          rw [hgX] at hqX ⊢
          clear hgX
          generalize wo0.alloc (.cells (madeCells #[.int .i64 0] j) 3) = wo1 at *
          have HRB := Lib.hid ((hbX.block _ (lt_of_block HRB.out)).trans HRB.out)
          have F0 := Lib.hid ((hbX.block _ (lt_of_block F0.out)).trans F0.out)
          have F5 := Lib.hid (hqX)
          have HBX := Lib.hid (HBX.out.trans (hbX.mono HBX.out.size))
          refine hK.out _ _ (trivial) (fun hHwo1 => ?_)
          clear hK K hbX hqX
          refine wpAnyH_ready (rs := [2, 8]) (by kernel_rfl) (by simp) ?_
          refine AllReadyH.cons rfl (fun K hK => ?_) (AllReadyH.cons rfl (fun K hK => ?_) (AllReadyH.nil))
          · skip
            obtain ⟨ao2, cp2, wo2, hap, ho, how, hbX⟩ := app_fresh 37 _ _ Try.underlying37 infoIn rfl (by omega) F0.out (HSRC.out wo1 (HB1.out.trans (HBX.out.mono HB1.out.size))) (by unfold maxLen; omega) (by omega)
            refine wp_append_run (v := .slice (some ⟨gb0, 0, none⟩) 0 0) (xv := .slice (some ⟨b, off, none⟩) j c) (.tmp 29) (.tmp 30) 37 37 rfl (by rfl) (by rfl) hap ?_
            have HRB := Lib.hid ((hbX.block _ (lt_of_block HRB.out)).trans HRB.out)
            have F0 := Lib.hid ((hbX.block _ (lt_of_block F0.out)).trans F0.out)
            have F5 := Lib.hid ((hbX.block _ (lt_of_block F5.out)).trans F5.out)
            have F2 := Lib.hid (ho)
            have FW2 := Lib.hid (fun k (hk : (Value.slice ao2 j cp2).ownBlock = some k) => show w1.heap.size ≤ k from by rcases how with h | h <;> (rw [hk] at h; have := Option.some.inj h; have := HGE0.out; have := HBX.out.size; omega))
            have HBX := Lib.hid (HBX.out.trans (hbX.mono HBX.out.size))
            refine hK.out _ _ (trivial) (fun hHwo2 => ?_)
            clear hK K hbX hap ho
            refine wpAnyH_ready (rs := [8]) (by kernel_rfl) (by simp) ?_
            refine AllReadyH.cons rfl (fun K hK => ?_) (AllReadyH.nil)
            go_simp
            have hbX := (Below.refl wo2.heap.size wo2).alloc (Nat.le_refl _) (.cells (madeCells #[.slice none 0 0] j) 127)
            have hqX := heap_alloc_new wo2 (.cells (madeCells #[.slice none 0 0] j) 127)
            obtain ⟨gb8, hgX⟩ : ∃ g, wo2.heap.size = g := ⟨_, rfl⟩
            have HGE8 : Hid (w1.heap.size ≤ gb8) := Lib.hid (by have := HBX.out.size; omega)
            rw [hgX] at hqX ⊢
            clear hgX
            generalize wo2.alloc (.cells (madeCells #[.slice none 0 0] j) 127) = wo3 at *
            have HRB := Lib.hid ((hbX.block _ (lt_of_block HRB.out)).trans HRB.out)
            have F0 := Lib.hid ((hbX.block _ (lt_of_block F0.out)).trans F0.out)
            have F2 := Lib.hid (OL.bel F2.out hbX)
            have FW2 := Lib.hid (FW2.out)
            have F5 := Lib.hid ((hbX.block _ (lt_of_block F5.out)).trans F5.out)
            have F8 := Lib.hid (hqX)
            have HBX := Lib.hid (HBX.out.trans (hbX.mono HBX.out.size))
            refine hK.out _ _ (trivial) (fun hHwo3 => ?_)
            clear hK K hbX hqX
            refine wpAnyH_take (i := 9) (v := ?_) rfl (by kernel_rfl) (by kernel_rfl) (by kernel_rfl) (fun _ _ _ h => h) (Or.inl ⟨by rfl, ?_⟩) hHwo3 ?_
            rotate_left
            · intro w hSw
              go_simp
              with_reducible rfl
            try simp only [List.getElem_toArray, List.getElem_cons_succ, List.getElem_cons_zero, Act.put, List.setIfInBounds_toArray, List.set_cons_zero, List.set_cons_succ]
            refine wpAnyH_ready (rs := [10]) (by kernel_rfl) (by simp) ?_
            refine AllReadyH.cons rfl (fun K hK => ?_) (AllReadyH.nil)
            have p0 := (has_cell HRB.out 0).trans (show _ = some (Value.slice none 0 0) from rfl)
            have p1 := (has_cell HRB.out 1).trans (show _ = some (Value.slice none 0 0) from rfl)
            have p2 := (has_cell HRB.out 2).trans (show _ = some (Value.slice none 0 0) from rfl)
            have p3 := (has_cell HRB.out 3).trans (show _ = some (Value.int .i64 0) from rfl)
            have p4 := (has_cell HRB.out 4).trans (show _ = some (Value.bool false) from rfl)
            have f0 := has_free HRB.out 0
            have f1 := has_free HRB.out 1
            have f2 := has_free HRB.out 2
            have f3 := has_free HRB.out 3
            have f4 := has_free HRB.out 4
            go_simp
            clear p0 p1 p2 p3 p4 f0 f1 f2 f3 f4
            refine hK.out _ _ trivial (fun hHwo4 => ?_)
            clear hK K
            refine wpAnyH_take (i := 11) (v := ?_) rfl (by kernel_rfl) (by kernel_rfl) (by kernel_rfl) (fun _ _ _ h => h) (Or.inl ⟨by rfl, ?_⟩) hHwo4 ?_
            rotate_left
            · intro w hSw
              go_simp
              with_reducible rfl
            try simp only [List.getElem_toArray, List.getElem_cons_succ, List.getElem_cons_zero, Act.put, List.setIfInBounds_toArray, List.set_cons_zero, List.set_cons_succ]
            refine wpAnyH_done (by kernel_rfl) ?_ _
            clear hHwo4
            have H5 := set5 HRB.out (.slice ao2 j cp2) (.slice (some ⟨gb5, 0, none⟩) j j) (.slice (some ⟨gb8, 0, none⟩) j j) (.int .i64 0) (.bool false)
            have HRQ := (rq_made h16 F2.out F5.out F8.out).heap (fun b cs t ht hc => H5.2.1 b (type_ne hc HRB.out ht))
            have HW := Lib.hid H5.1
            have HZ := HB1.out.size
            have K5 : ∀ g, (Value.slice (some ⟨gb5, 0, none⟩) j j).ownBlock = some g → w.heap.size ≤ g := by
              intro g hg
              have : gb5 = g := Option.some.inj hg
              have := HGE5.out
              omega
            have K8 : ∀ g, (Value.slice (some ⟨gb8, 0, none⟩) j j).ownBlock = some g → w.heap.size ≤ g := by
              intro g hg
              have : gb8 = g := Option.some.inj hg
              have := HGE8.out
              omega
            have K2 : ∀ g, (Value.slice ao2 j cp2).ownBlock = some g → w.heap.size ≤ g := by
              intro g hg
              have := FW2.out g hg
              omega
            have KE : ∀ t g, ((List.replicate j nilS).getD t nilS).ownBlock = some g → w.heap.size ≤ g := by
              intro t g hg
              have e2 : (List.replicate j nilS).getD t nilS = nilS := by by_cases h : t < j <;> simp [List.getD, h]
              rw [e2] at hg
              simp [nilS, Value.ownBlock] at hg
            have HKK : RQK (fun k => w.heap.size ≤ k) _ _ _ _ _ _ := ⟨HRQ, K2, K5, K8, KE⟩
            clear K5 K8 K2 KE
            have HP : Hid (RNewOk Q j w (.returned (.tuple #[.agg #[.slice ao2 j cp2, .slice (some ⟨gb5, 0, none⟩) j j, .slice (some ⟨gb8, 0, none⟩) j j, .int .i64 0, .bool false], .int .i64 0])) _) := Lib.hid ⟨_, _, _, _, rfl, HKK, H5.2.2 _ _ HLR.out (HB1.out.trans (HBX.out.mono HB1.out.size))⟩
            clear H5 HRQ HKK HZ
            go_wp2_with fail
            try simp only [Exit.inBlock, Exit.then]
            refine bodyPost_ret (results_cell2 rfl _ _ rb 55 _ (0, 0) _ rfl HW.out Try.underlying55 rfl (by kernel_rfl)) rfl ?_
            exact HP.out
          · skip
            go_simp
            have hbX := (Below.refl wo1.heap.size wo1).alloc (Nat.le_refl _) (.cells (madeCells #[.slice none 0 0] j) 127)
            have hqX := heap_alloc_new wo1 (.cells (madeCells #[.slice none 0 0] j) 127)
            obtain ⟨gb8, hgX⟩ : ∃ g, wo1.heap.size = g := ⟨_, rfl⟩
            have HGE8 : Hid (w1.heap.size ≤ gb8) := Lib.hid (by have := HBX.out.size; omega)
            rw [hgX] at hqX ⊢
            clear hgX
            generalize wo1.alloc (.cells (madeCells #[.slice none 0 0] j) 127) = wo2 at *
            have HRB := Lib.hid ((hbX.block _ (lt_of_block HRB.out)).trans HRB.out)
            have F0 := Lib.hid ((hbX.block _ (lt_of_block F0.out)).trans F0.out)
            have F5 := Lib.hid ((hbX.block _ (lt_of_block F5.out)).trans F5.out)
            have F8 := Lib.hid (hqX)
            have HBX := Lib.hid (HBX.out.trans (hbX.mono HBX.out.size))
            refine hK.out _ _ (trivial) (fun hHwo2 => ?_)
            clear hK K hbX hqX
            refine wpAnyH_ready (rs := [2]) (by kernel_rfl) (by simp) ?_
            refine AllReadyH.cons rfl (fun K hK => ?_) (AllReadyH.nil)
            obtain ⟨ao2, cp2, wo3, hap, ho, how, hbX⟩ := app_fresh 37 _ _ Try.underlying37 infoIn rfl (by omega) F0.out (HSRC.out wo2 (HB1.out.trans (HBX.out.mono HB1.out.size))) (by unfold maxLen; omega) (by omega)
            refine wp_append_run (v := .slice (some ⟨gb0, 0, none⟩) 0 0) (xv := .slice (some ⟨b, off, none⟩) j c) (.tmp 29) (.tmp 30) 37 37 rfl (by rfl) (by rfl) hap ?_
            have HRB := Lib.hid ((hbX.block _ (lt_of_block HRB.out)).trans HRB.out)
            have F0 := Lib.hid ((hbX.block _ (lt_of_block F0.out)).trans F0.out)
            have F5 := Lib.hid ((hbX.block _ (lt_of_block F5.out)).trans F5.out)
            have F8 := Lib.hid ((hbX.block _ (lt_of_block F8.out)).trans F8.out)
            have F2 := Lib.hid (ho)
            have FW2 := Lib.hid (fun k (hk : (Value.slice ao2 j cp2).ownBlock = some k) => show w1.heap.size ≤ k from by rcases how with h | h <;> (rw [hk] at h; have := Option.some.inj h; have := HGE0.out; have := HBX.out.size; omega))
            have HBX := Lib.hid (HBX.out.trans (hbX.mono HBX.out.size))
            refine hK.out _ _ (trivial) (fun hHwo3 => ?_)
            clear hK K hbX hap ho
            refine wpAnyH_take (i := 9) (v := ?_) rfl (by kernel_rfl) (by kernel_rfl) (by kernel_rfl) (fun _ _ _ h => h) (Or.inl ⟨by rfl, ?_⟩) hHwo3 ?_
            rotate_left
            · intro w hSw
              go_simp
              with_reducible rfl
            try simp only [List.getElem_toArray, List.getElem_cons_succ, List.getElem_cons_zero, Act.put, List.setIfInBounds_toArray, List.set_cons_zero, List.set_cons_succ]
            refine wpAnyH_ready (rs := [10]) (by kernel_rfl) (by simp) ?_
            refine AllReadyH.cons rfl (fun K hK => ?_) (AllReadyH.nil)
            have p0 := (has_cell HRB.out 0).trans (show _ = some (Value.slice none 0 0) from rfl)
            have p1 := (has_cell HRB.out 1).trans (show _ = some (Value.slice none 0 0) from rfl)
            have p2 := (has_cell HRB.out 2).trans (show _ = some (Value.slice none 0 0) from rfl)
            have p3 := (has_cell HRB.out 3).trans (show _ = some (Value.int .i64 0) from rfl)
            have p4 := (has_cell HRB.out 4).trans (show _ = some (Value.bool false) from rfl)
            have f0 := has_free HRB.out 0
            have f1 := has_free HRB.out 1
            have f2 := has_free HRB.out 2
            have f3 := has_free HRB.out 3
            have f4 := has_free HRB.out 4
            go_simp
            clear p0 p1 p2 p3 p4 f0 f1 f2 f3 f4
            refine hK.out _ _ trivial (fun hHwo4 => ?_)
            clear hK K
            refine wpAnyH_take (i := 11) (v := ?_) rfl (by kernel_rfl) (by kernel_rfl) (by kernel_rfl) (fun _ _ _ h => h) (Or.inl ⟨by rfl, ?_⟩) hHwo4 ?_
            rotate_left
            · intro w hSw
              go_simp
              with_reducible rfl
            try simp only [List.getElem_toArray, List.getElem_cons_succ, List.getElem_cons_zero, Act.put, List.setIfInBounds_toArray, List.set_cons_zero, List.set_cons_succ]
            refine wpAnyH_done (by kernel_rfl) ?_ _
            clear hHwo4
            have H5 := set5 HRB.out (.slice ao2 j cp2) (.slice (some ⟨gb5, 0, none⟩) j j) (.slice (some ⟨gb8, 0, none⟩) j j) (.int .i64 0) (.bool false)
            have HRQ := (rq_made h16 F2.out F5.out F8.out).heap (fun b cs t ht hc => H5.2.1 b (type_ne hc HRB.out ht))
            have HW := Lib.hid H5.1
            have HZ := HB1.out.size
            have K5 : ∀ g, (Value.slice (some ⟨gb5, 0, none⟩) j j).ownBlock = some g → w.heap.size ≤ g := by
              intro g hg
              have : gb5 = g := Option.some.inj hg
              have := HGE5.out
              omega
            have K8 : ∀ g, (Value.slice (some ⟨gb8, 0, none⟩) j j).ownBlock = some g → w.heap.size ≤ g := by
              intro g hg
              have : gb8 = g := Option.some.inj hg
              have := HGE8.out
              omega
            have K2 : ∀ g, (Value.slice ao2 j cp2).ownBlock = some g → w.heap.size ≤ g := by
              intro g hg
              have := FW2.out g hg
              omega
            have KE : ∀ t g, ((List.replicate j nilS).getD t nilS).ownBlock = some g → w.heap.size ≤ g := by
              intro t g hg
              have e2 : (List.replicate j nilS).getD t nilS = nilS := by by_cases h : t < j <;> simp [List.getD, h]
              rw [e2] at hg
              simp [nilS, Value.ownBlock] at hg
            have HKK : RQK (fun k => w.heap.size ≤ k) _ _ _ _ _ _ := ⟨HRQ, K2, K5, K8, KE⟩
            clear K5 K8 K2 KE
            have HP : Hid (RNewOk Q j w (.returned (.tuple #[.agg #[.slice ao2 j cp2, .slice (some ⟨gb5, 0, none⟩) j j, .slice (some ⟨gb8, 0, none⟩) j j, .int .i64 0, .bool false], .int .i64 0])) _) := Lib.hid ⟨_, _, _, _, rfl, HKK, H5.2.2 _ _ HLR.out (HB1.out.trans (HBX.out.mono HB1.out.size))⟩
            clear H5 HRQ HKK HZ
            go_wp2_with fail
            try simp only [Exit.inBlock, Exit.then]
            refine bodyPost_ret (results_cell2 rfl _ _ rb 55 _ (0, 0) _ rfl HW.out Try.underlying55 rfl (by kernel_rfl)) rfl ?_
            exact HP.out
        · skip
          go_simp
          have hbX := (Below.refl wo0.heap.size wo0).alloc (Nat.le_refl _) (.cells (madeCells #[.slice none 0 0] j) 127)
          have hqX := heap_alloc_new wo0 (.cells (madeCells #[.slice none 0 0] j) 127)
          obtain ⟨gb8, hgX⟩ : ∃ g, wo0.heap.size = g := ⟨_, rfl⟩
          have HGE8 : Hid (w1.heap.size ≤ gb8) := Lib.hid (by have := HBX.out.size; omega)
          rw [hgX] at hqX ⊢
          clear hgX
          generalize wo0.alloc (.cells (madeCells #[.slice none 0 0] j) 127) = wo1 at *
          have HRB := Lib.hid ((hbX.block _ (lt_of_block HRB.out)).trans HRB.out)
          have F0 := Lib.hid ((hbX.block _ (lt_of_block F0.out)).trans F0.out)
          have F8 := Lib.hid (hqX)
          have HBX := Lib.hid (HBX.out.trans (hbX.mono HBX.out.size))
          refine hK.out _ _ (trivial) (fun hHwo1 => ?_)
          clear hK K hbX hqX
          refine wpAnyH_ready (rs := [2, 5]) (by kernel_rfl) (by simp) ?_
          refine AllReadyH.cons rfl (fun K hK => ?_) (AllReadyH.cons rfl (fun K hK => ?_) (AllReadyH.nil))
          · skip
            obtain ⟨ao2, cp2, wo2, hap, ho, how, hbX⟩ := app_fresh 37 _ _ Try.underlying37 infoIn rfl (by omega) F0.out (HSRC.out wo1 (HB1.out.trans (HBX.out.mono HB1.out.size))) (by unfold maxLen; omega) (by omega)
            refine wp_append_run (v := .slice (some ⟨gb0, 0, none⟩) 0 0) (xv := .slice (some ⟨b, off, none⟩) j c) (.tmp 29) (.tmp 30) 37 37 rfl (by rfl) (by rfl) hap ?_
            have HRB := Lib.hid ((hbX.block _ (lt_of_block HRB.out)).trans HRB.out)
            have F0 := Lib.hid ((hbX.block _ (lt_of_block F0.out)).trans F0.out)
            have F8 := Lib.hid ((hbX.block _ (lt_of_block F8.out)).trans F8.out)
            have F2 := Lib.hid (ho)
            have FW2 := Lib.hid (fun k (hk : (Value.slice ao2 j cp2).ownBlock = some k) => show w1.heap.size ≤ k from by rcases how with h | h <;> (rw [hk] at h; have := Option.some.inj h; have := HGE0.out; have := HBX.out.size; omega))
            have HBX := Lib.hid (HBX.out.trans (hbX.mono HBX.out.size))
            refine hK.out _ _ (trivial) (fun hHwo2 => ?_)
            clear hK K hbX hap ho
            refine wpAnyH_ready (rs := [5]) (by kernel_rfl) (by simp) ?_
            refine AllReadyH.cons rfl (fun K hK => ?_) (AllReadyH.nil)
            go_simp
            have hbX := (Below.refl wo2.heap.size wo2).alloc (Nat.le_refl _) (.cells (madeCells #[.int .i64 0] j) 3)
            have hqX := heap_alloc_new wo2 (.cells (madeCells #[.int .i64 0] j) 3)
            obtain ⟨gb5, hgX⟩ : ∃ g, wo2.heap.size = g := ⟨_, rfl⟩
            have HGE5 : Hid (w1.heap.size ≤ gb5) := Lib.hid (by have := HBX.out.size; omega)
            rw [hgX] at hqX ⊢
            clear hgX
            generalize wo2.alloc (.cells (madeCells #[.int .i64 0] j) 3) = wo3 at *
            have HRB := Lib.hid ((hbX.block _ (lt_of_block HRB.out)).trans HRB.out)
            have F0 := Lib.hid ((hbX.block _ (lt_of_block F0.out)).trans F0.out)
            have F2 := Lib.hid (OL.bel F2.out hbX)
            have FW2 := Lib.hid (FW2.out)
            have F8 := Lib.hid ((hbX.block _ (lt_of_block F8.out)).trans F8.out)
            have F5 := Lib.hid (hqX)
            have HBX := Lib.hid (HBX.out.trans (hbX.mono HBX.out.size))
            refine hK.out _ _ (trivial) (fun hHwo3 => ?_)
            clear hK K hbX hqX
            refine wpAnyH_take (i := 9) (v := ?_) rfl (by kernel_rfl) (by kernel_rfl) (by kernel_rfl) (fun _ _ _ h => h) (Or.inl ⟨by rfl, ?_⟩) hHwo3 ?_
            rotate_left
            · intro w hSw
              go_simp
              with_reducible rfl
            try simp only [List.getElem_toArray, List.getElem_cons_succ, List.getElem_cons_zero, Act.put, List.setIfInBounds_toArray, List.set_cons_zero, List.set_cons_succ]
            refine wpAnyH_ready (rs := [10]) (by kernel_rfl) (by simp) ?_
            refine AllReadyH.cons rfl (fun K hK => ?_) (AllReadyH.nil)
            have p0 := (has_cell HRB.out 0).trans (show _ = some (Value.slice none 0 0) from rfl)
            have p1 := (has_cell HRB.out 1).trans (show _ = some (Value.slice none 0 0) from rfl)
            have p2 := (has_cell HRB.out 2).trans (show _ = some (Value.slice none 0 0) from rfl)
            have p3 := (has_cell HRB.out 3).trans (show _ = some (Value.int .i64 0) from rfl)
            have p4 := (has_cell HRB.out 4).trans (show _ = some (Value.bool false) from rfl)
            have f0 := has_free HRB.out 0
            have f1 := has_free HRB.out 1
            have f2 := has_free HRB.out 2
            have f3 := has_free HRB.out 3
            have f4 := has_free HRB.out 4
            go_simp
            clear p0 p1 p2 p3 p4 f0 f1 f2 f3 f4
            refine hK.out _ _ trivial (fun hHwo4 => ?_)
            clear hK K
            refine wpAnyH_take (i := 11) (v := ?_) rfl (by kernel_rfl) (by kernel_rfl) (by kernel_rfl) (fun _ _ _ h => h) (Or.inl ⟨by rfl, ?_⟩) hHwo4 ?_
            rotate_left
            · intro w hSw
              go_simp
              with_reducible rfl
            try simp only [List.getElem_toArray, List.getElem_cons_succ, List.getElem_cons_zero, Act.put, List.setIfInBounds_toArray, List.set_cons_zero, List.set_cons_succ]
            refine wpAnyH_done (by kernel_rfl) ?_ _
            clear hHwo4
            have H5 := set5 HRB.out (.slice ao2 j cp2) (.slice (some ⟨gb5, 0, none⟩) j j) (.slice (some ⟨gb8, 0, none⟩) j j) (.int .i64 0) (.bool false)
            have HRQ := (rq_made h16 F2.out F5.out F8.out).heap (fun b cs t ht hc => H5.2.1 b (type_ne hc HRB.out ht))
            have HW := Lib.hid H5.1
            have HZ := HB1.out.size
            have K5 : ∀ g, (Value.slice (some ⟨gb5, 0, none⟩) j j).ownBlock = some g → w.heap.size ≤ g := by
              intro g hg
              have : gb5 = g := Option.some.inj hg
              have := HGE5.out
              omega
            have K8 : ∀ g, (Value.slice (some ⟨gb8, 0, none⟩) j j).ownBlock = some g → w.heap.size ≤ g := by
              intro g hg
              have : gb8 = g := Option.some.inj hg
              have := HGE8.out
              omega
            have K2 : ∀ g, (Value.slice ao2 j cp2).ownBlock = some g → w.heap.size ≤ g := by
              intro g hg
              have := FW2.out g hg
              omega
            have KE : ∀ t g, ((List.replicate j nilS).getD t nilS).ownBlock = some g → w.heap.size ≤ g := by
              intro t g hg
              have e2 : (List.replicate j nilS).getD t nilS = nilS := by by_cases h : t < j <;> simp [List.getD, h]
              rw [e2] at hg
              simp [nilS, Value.ownBlock] at hg
            have HKK : RQK (fun k => w.heap.size ≤ k) _ _ _ _ _ _ := ⟨HRQ, K2, K5, K8, KE⟩
            clear K5 K8 K2 KE
            have HP : Hid (RNewOk Q j w (.returned (.tuple #[.agg #[.slice ao2 j cp2, .slice (some ⟨gb5, 0, none⟩) j j, .slice (some ⟨gb8, 0, none⟩) j j, .int .i64 0, .bool false], .int .i64 0])) _) := Lib.hid ⟨_, _, _, _, rfl, HKK, H5.2.2 _ _ HLR.out (HB1.out.trans (HBX.out.mono HB1.out.size))⟩
            clear H5 HRQ HKK HZ
            go_wp2_with fail
            try simp only [Exit.inBlock, Exit.then]
            refine bodyPost_ret (results_cell2 rfl _ _ rb 55 _ (0, 0) _ rfl HW.out Try.underlying55 rfl (by kernel_rfl)) rfl ?_
            exact HP.out
          · skip
            go_simp
            have hbX := (Below.refl wo1.heap.size wo1).alloc (Nat.le_refl _) (.cells (madeCells #[.int .i64 0] j) 3)
            have hqX := heap_alloc_new wo1 (.cells (madeCells #[.int .i64 0] j) 3)
            obtain ⟨gb5, hgX⟩ : ∃ g, wo1.heap.size = g := ⟨_, rfl⟩
            have HGE5 : Hid (w1.heap.size ≤ gb5) := Lib.hid (by have := HBX.out.size; omega)
            rw [hgX] at hqX ⊢
            clear hgX
            generalize wo1.alloc (.cells (madeCells #[.int .i64 0] j) 3) = wo2 at *
            have HRB := Lib.hid ((hbX.block _ (lt_of_block HRB.out)).trans HRB.out)
            have F0 := Lib.hid ((hbX.block _ (lt_of_block F0.out)).trans F0.out)
            have F8 := Lib.hid ((hbX.block _ (lt_of_block F8.out)).trans F8.out)
            have F5 := Lib.hid (hqX)
            have HBX := Lib.hid (HBX.out.trans (hbX.mono HBX.out.size))
            refine hK.out _ _ (trivial) (fun hHwo2 => ?_)
            clear hK K hbX hqX
            refine wpAnyH_ready (rs := [2]) (by kernel_rfl) (by simp) ?_
            refine AllReadyH.cons rfl (fun K hK => ?_) (AllReadyH.nil)
            obtain ⟨ao2, cp2, wo3, hap, ho, how, hbX⟩ := app_fresh 37 _ _ Try.underlying37 infoIn rfl (by omega) F0.out (HSRC.out wo2 (HB1.out.trans (HBX.out.mono HB1.out.size))) (by unfold maxLen; omega) (by omega)
            refine wp_append_run (v := .slice (some ⟨gb0, 0, none⟩) 0 0) (xv := .slice (some ⟨b, off, none⟩) j c) (.tmp 29) (.tmp 30) 37 37 rfl (by rfl) (by rfl) hap ?_
            have HRB := Lib.hid ((hbX.block _ (lt_of_block HRB.out)).trans HRB.out)
            have F0 := Lib.hid ((hbX.block _ (lt_of_block F0.out)).trans F0.out)
            have F5 := Lib.hid ((hbX.block _ (lt_of_block F5.out)).trans F5.out)
            have F8 := Lib.hid ((hbX.block _ (lt_of_block F8.out)).trans F8.out)
            have F2 := Lib.hid (ho)
            have FW2 := Lib.hid (fun k (hk : (Value.slice ao2 j cp2).ownBlock = some k) => show w1.heap.size ≤ k from by rcases how with h | h <;> (rw [hk] at h; have := Option.some.inj h; have := HGE0.out; have := HBX.out.size; omega))
            have HBX := Lib.hid (HBX.out.trans (hbX.mono HBX.out.size))
            refine hK.out _ _ (trivial) (fun hHwo3 => ?_)
            clear hK K hbX hap ho
            refine wpAnyH_take (i := 9) (v := ?_) rfl (by kernel_rfl) (by kernel_rfl) (by kernel_rfl) (fun _ _ _ h => h) (Or.inl ⟨by rfl, ?_⟩) hHwo3 ?_
            rotate_left
            · intro w hSw
              go_simp
              with_reducible rfl
            try simp only [List.getElem_toArray, List.getElem_cons_succ, List.getElem_cons_zero, Act.put, List.setIfInBounds_toArray, List.set_cons_zero, List.set_cons_succ]
            refine wpAnyH_ready (rs := [10]) (by kernel_rfl) (by simp) ?_
            refine AllReadyH.cons rfl (fun K hK => ?_) (AllReadyH.nil)
            have p0 := (has_cell HRB.out 0).trans (show _ = some (Value.slice none 0 0) from rfl)
            have p1 := (has_cell HRB.out 1).trans (show _ = some (Value.slice none 0 0) from rfl)
            have p2 := (has_cell HRB.out 2).trans (show _ = some (Value.slice none 0 0) from rfl)
            have p3 := (has_cell HRB.out 3).trans (show _ = some (Value.int .i64 0) from rfl)
            have p4 := (has_cell HRB.out 4).trans (show _ = some (Value.bool false) from rfl)
            have f0 := has_free HRB.out 0
            have f1 := has_free HRB.out 1
            have f2 := has_free HRB.out 2
            have f3 := has_free HRB.out 3
            have f4 := has_free HRB.out 4
            go_simp
            clear p0 p1 p2 p3 p4 f0 f1 f2 f3 f4
            refine hK.out _ _ trivial (fun hHwo4 => ?_)
            clear hK K
            refine wpAnyH_take (i := 11) (v := ?_) rfl (by kernel_rfl) (by kernel_rfl) (by kernel_rfl) (fun _ _ _ h => h) (Or.inl ⟨by rfl, ?_⟩) hHwo4 ?_
            rotate_left
            · intro w hSw
              go_simp
              with_reducible rfl
            try simp only [List.getElem_toArray, List.getElem_cons_succ, List.getElem_cons_zero, Act.put, List.setIfInBounds_toArray, List.set_cons_zero, List.set_cons_succ]
            refine wpAnyH_done (by kernel_rfl) ?_ _
            clear hHwo4
            have H5 := set5 HRB.out (.slice ao2 j cp2) (.slice (some ⟨gb5, 0, none⟩) j j) (.slice (some ⟨gb8, 0, none⟩) j j) (.int .i64 0) (.bool false)
            have HRQ := (rq_made h16 F2.out F5.out F8.out).heap (fun b cs t ht hc => H5.2.1 b (type_ne hc HRB.out ht))
            have HW := Lib.hid H5.1
            have HZ := HB1.out.size
            have K5 : ∀ g, (Value.slice (some ⟨gb5, 0, none⟩) j j).ownBlock = some g → w.heap.size ≤ g := by
              intro g hg
              have : gb5 = g := Option.some.inj hg
              have := HGE5.out
              omega
            have K8 : ∀ g, (Value.slice (some ⟨gb8, 0, none⟩) j j).ownBlock = some g → w.heap.size ≤ g := by
              intro g hg
              have : gb8 = g := Option.some.inj hg
              have := HGE8.out
              omega
            have K2 : ∀ g, (Value.slice ao2 j cp2).ownBlock = some g → w.heap.size ≤ g := by
              intro g hg
              have := FW2.out g hg
              omega
            have KE : ∀ t g, ((List.replicate j nilS).getD t nilS).ownBlock = some g → w.heap.size ≤ g := by
              intro t g hg
              have e2 : (List.replicate j nilS).getD t nilS = nilS := by by_cases h : t < j <;> simp [List.getD, h]
              rw [e2] at hg
              simp [nilS, Value.ownBlock] at hg
            have HKK : RQK (fun k => w.heap.size ≤ k) _ _ _ _ _ _ := ⟨HRQ, K2, K5, K8, KE⟩
            clear K5 K8 K2 KE
            have HP : Hid (RNewOk Q j w (.returned (.tuple #[.agg #[.slice ao2 j cp2, .slice (some ⟨gb5, 0, none⟩) j j, .slice (some ⟨gb8, 0, none⟩) j j, .int .i64 0, .bool false], .int .i64 0])) _) := Lib.hid ⟨_, _, _, _, rfl, HKK, H5.2.2 _ _ HLR.out (HB1.out.trans (HBX.out.mono HB1.out.size))⟩
            clear H5 HRQ HKK HZ
            go_wp2_with fail
            try simp only [Exit.inBlock, Exit.then]
            refine bodyPost_ret (results_cell2 rfl _ _ rb 55 _ (0, 0) _ rfl HW.out Try.underlying55 rfl (by kernel_rfl)) rfl ?_
            exact HP.out
      · skip
        go_simp
        have hbX := (Below.refl w1.heap.size w1).alloc (Nat.le_refl _) (.cells (madeCells #[.int .i64 0] j) 3)
        have hqX := heap_alloc_new w1 (.cells (madeCells #[.int .i64 0] j) 3)
        obtain ⟨gb5, hgX⟩ : ∃ g, w1.heap.size = g := ⟨_, rfl⟩
        have HGE5 : Hid (w1.heap.size ≤ gb5) := Lib.hid (by have := HBX.out.size; omega)
        rw [hgX] at hqX ⊢
        clear hgX
        generalize w1.alloc (.cells (madeCells #[.int .i64 0] j) 3) = wo0 at *
        have HRB := Lib.hid ((hbX.block _ (lt_of_block HRB.out)).trans HRB.out)
        have F5 := Lib.hid (hqX)
        have HBX := Lib.hid (HBX.out.trans (hbX.mono HBX.out.size))
        refine hK.out _ _ (trivial) (fun hHwo0 => ?_)
        clear hK K hbX hqX
        refine wpAnyH_ready (rs := [0, 8]) (by kernel_rfl) (by simp) ?_
        refine AllReadyH.cons rfl (fun K hK => ?_) (AllReadyH.cons rfl (fun K hK => ?_) (AllReadyH.nil))
        · skip
          go_simp
          have hbX := (Below.refl wo0.heap.size wo0).alloc (Nat.le_refl _) (.cells #[] 3)
          have hqX := heap_alloc_new wo0 (.cells #[] 3)
          obtain ⟨gb0, hgX⟩ : ∃ g, wo0.heap.size = g := ⟨_, rfl⟩
          have HGE0 : Hid (w1.heap.size ≤ gb0) := Lib.hid (by have := HBX.out.size; omega)
          rw [hgX] at hqX ⊢
          clear hgX
          generalize wo0.alloc (.cells #[] 3) = wo1 at *
          have HRB := Lib.hid ((hbX.block _ (lt_of_block HRB.out)).trans HRB.out)
          have F5 := Lib.hid ((hbX.block _ (lt_of_block F5.out)).trans F5.out)
          have F0 := Lib.hid (hqX)
          have HBX := Lib.hid (HBX.out.trans (hbX.mono HBX.out.size))
          refine hK.out _ _ (trivial) (fun hHwo1 => ?_)
          clear hK K hbX hqX
          refine wpAnyH_ready (rs := [2, 8]) (by kernel_rfl) (by simp) ?_
          refine AllReadyH.cons rfl (fun K hK => ?_) (AllReadyH.cons rfl (fun K hK => ?_) (AllReadyH.nil))
          · skip
            obtain ⟨ao2, cp2, wo2, hap, ho, how, hbX⟩ := app_fresh 37 _ _ Try.underlying37 infoIn rfl (by omega) F0.out (HSRC.out wo1 (HB1.out.trans (HBX.out.mono HB1.out.size))) (by unfold maxLen; omega) (by omega)
            refine wp_append_run (v := .slice (some ⟨gb0, 0, none⟩) 0 0) (xv := .slice (some ⟨b, off, none⟩) j c) (.tmp 29) (.tmp 30) 37 37 rfl (by rfl) (by rfl) hap ?_
            have HRB := Lib.hid ((hbX.block _ (lt_of_block HRB.out)).trans HRB.out)
            have F0 := Lib.hid ((hbX.block _ (lt_of_block F0.out)).trans F0.out)
            have F5 := Lib.hid ((hbX.block _ (lt_of_block F5.out)).trans F5.out)
            have F2 := Lib.hid (ho)
            have FW2 := Lib.hid (fun k (hk : (Value.slice ao2 j cp2).ownBlock = some k) => show w1.heap.size ≤ k from by rcases how with h | h <;> (rw [hk] at h; have := Option.some.inj h; have := HGE0.out; have := HBX.out.size; omega))
            have HBX := Lib.hid (HBX.out.trans (hbX.mono HBX.out.size))
            refine hK.out _ _ (trivial) (fun hHwo2 => ?_)
            clear hK K hbX hap ho
            refine wpAnyH_ready (rs := [8]) (by kernel_rfl) (by simp) ?_
            refine AllReadyH.cons rfl (fun K hK => ?_) (AllReadyH.nil)
            go_simp
            have hbX := (Below.refl wo2.heap.size wo2).alloc (Nat.le_refl _) (.cells (madeCells #[.slice none 0 0] j) 127)
            have hqX := heap_alloc_new wo2 (.cells (madeCells #[.slice none 0 0] j) 127)
            obtain ⟨gb8, hgX⟩ : ∃ g, wo2.heap.size = g := ⟨_, rfl⟩
            have HGE8 : Hid (w1.heap.size ≤ gb8) := Lib.hid (by have := HBX.out.size; omega)
            rw [hgX] at hqX ⊢
            clear hgX
            generalize wo2.alloc (.cells (madeCells #[.slice none 0 0] j) 127) = wo3 at *
            have HRB := Lib.hid ((hbX.block _ (lt_of_block HRB.out)).trans HRB.out)
            have F0 := Lib.hid ((hbX.block _ (lt_of_block F0.out)).trans F0.out)
            have F2 := Lib.hid (OL.bel F2.out hbX)
            have FW2 := Lib.hid (FW2.out)
            have F5 := Lib.hid ((hbX.block _ (lt_of_block F5.out)).trans F5.out)
            have F8 := Lib.hid (hqX)
            have HBX := Lib.hid (HBX.out.trans (hbX.mono HBX.out.size))
            refine hK.out _ _ (trivial) (fun hHwo3 => ?_)
            clear hK K hbX hqX
            refine wpAnyH_take (i := 9) (v := ?_) rfl (by kernel_rfl) (by kernel_rfl) (by kernel_rfl) (fun _ _ _ h => h) (Or.inl ⟨by rfl, ?_⟩) hHwo3 ?_
            rotate_left
            · intro w hSw
              go_simp
              with_reducible rfl
            try simp only [List.getElem_toArray, List.getElem_cons_succ, List.getElem_cons_zero, Act.put, List.setIfInBounds_toArray, List.set_cons_zero, List.set_cons_succ]
            refine wpAnyH_ready (rs := [10]) (by kernel_rfl) (by simp) ?_
            refine AllReadyH.cons rfl (fun K hK => ?_) (AllReadyH.nil)
            have p0 := (has_cell HRB.out 0).trans (show _ = some (Value.slice none 0 0) from rfl)
            have p1 := (has_cell HRB.out 1).trans (show _ = some (Value.slice none 0 0) from rfl)
            have p2 := (has_cell HRB.out 2).trans (show _ = some (Value.slice none 0 0) from rfl)
            have p3 := (has_cell HRB.out 3).trans (show _ = some (Value.int .i64 0) from rfl)
            have p4 := (has_cell HRB.out 4).trans (show _ = some (Value.bool false) from rfl)
            have f0 := has_free HRB.out 0
            have f1 := has_free HRB.out 1
            have f2 := has_free HRB.out 2
            have f3 := has_free HRB.out 3
            have f4 := has_free HRB.out 4
            go_simp
            clear p0 p1 p2 p3 p4 f0 f1 f2 f3 f4
            refine hK.out _ _ trivial (fun hHwo4 => ?_)
            clear hK K
            refine wpAnyH_take (i := 11) (v := ?_) rfl (by kernel_rfl) (by kernel_rfl) (by kernel_rfl) (fun _ _ _ h => h) (Or.inl ⟨by rfl, ?_⟩) hHwo4 ?_
            rotate_left
            · intro w hSw
              go_simp
              with_reducible rfl
            try simp only [List.getElem_toArray, List.getElem_cons_succ, List.getElem_cons_zero, Act.put, List.setIfInBounds_toArray, List.set_cons_zero, List.set_cons_succ]
            refine wpAnyH_done (by kernel_rfl) ?_ _
            clear hHwo4
            have H5 := set5 HRB.out (.slice ao2 j cp2) (.slice (some ⟨gb5, 0, none⟩) j j) (.slice (some ⟨gb8, 0, none⟩) j j) (.int .i64 0) (.bool false)
            have HRQ := (rq_made h16 F2.out F5.out F8.out).heap (fun b cs t ht hc => H5.2.1 b (type_ne hc HRB.out ht))
            have HW := Lib.hid H5.1
            have HZ := HB1.out.size
            have K5 : ∀ g, (Value.slice (some ⟨gb5, 0, none⟩) j j).ownBlock = some g → w.heap.size ≤ g := by
              intro g hg
              have : gb5 = g := Option.some.inj hg
              have := HGE5.out
              omega
            have K8 : ∀ g, (Value.slice (some ⟨gb8, 0, none⟩) j j).ownBlock = some g → w.heap.size ≤ g := by
              intro g hg
              have : gb8 = g := Option.some.inj hg
              have := HGE8.out
              omega
            have K2 : ∀ g, (Value.slice ao2 j cp2).ownBlock = some g → w.heap.size ≤ g := by
              intro g hg
              have := FW2.out g hg
              omega
            have KE : ∀ t g, ((List.replicate j nilS).getD t nilS).ownBlock = some g → w.heap.size ≤ g := by
              intro t g hg
              have e2 : (List.replicate j nilS).getD t nilS = nilS := by by_cases h : t < j <;> simp [List.getD, h]
              rw [e2] at hg
              simp [nilS, Value.ownBlock] at hg
            have HKK : RQK (fun k => w.heap.size ≤ k) _ _ _ _ _ _ := ⟨HRQ, K2, K5, K8, KE⟩
            clear K5 K8 K2 KE
            have HP : Hid (RNewOk Q j w (.returned (.tuple #[.agg #[.slice ao2 j cp2, .slice (some ⟨gb5, 0, none⟩) j j, .slice (some ⟨gb8, 0, none⟩) j j, .int .i64 0, .bool false], .int .i64 0])) _) := Lib.hid ⟨_, _, _, _, rfl, HKK, H5.2.2 _ _ HLR.out (HB1.out.trans (HBX.out.mono HB1.out.size))⟩
            clear H5 HRQ HKK HZ
            go_wp2_with fail
            try simp only [Exit.inBlock, Exit.then]
            refine bodyPost_ret (results_cell2 rfl _ _ rb 55 _ (0, 0) _ rfl HW.out Try.underlying55 rfl (by kernel_rfl)) rfl ?_
            exact HP.out
          · skip
            go_simp
            have hbX := (Below.refl wo1.heap.size wo1).alloc (Nat.le_refl _) (.cells (madeCells #[.slice none 0 0] j) 127)
            have hqX := heap_alloc_new wo1 (.cells (madeCells #[.slice none 0 0] j) 127)
            obtain ⟨gb8, hgX⟩ : ∃ g, wo1.heap.size = g := ⟨_, rfl⟩
            have HGE8 : Hid (w1.heap.size ≤ gb8) := Lib.hid (by have := HBX.out.size; omega)
            rw [hgX] at hqX ⊢
            clear hgX
            generalize wo1.alloc (.cells (madeCells #[.slice none 0 0] j) 127) = wo2 at *
            have HRB := Lib.hid ((hbX.block _ (lt_of_block HRB.out)).trans HRB.out)
            have F0 := Lib.hid ((hbX.block _ (lt_of_block F0.out)).trans F0.out)
            have F5 := Lib.hid ((hbX.block _ (lt_of_block F5.out)).trans F5.out)
            have F8 := Lib.hid (hqX)
            have HBX := Lib.hid (HBX.out.trans (hbX.mono HBX.out.size))
            refine hK.out _ _ (trivial) (fun hHwo2 => ?_)
            clear hK K hbX hqX
            refine wpAnyH_ready (rs := [2]) (by kernel_rfl) (by simp) ?_
            refine AllReadyH.cons rfl (fun K hK => ?_) (AllReadyH.nil)
            obtain ⟨ao2, cp2, wo3, hap, ho, how, hbX⟩ := app_fresh 37 _ _ Try.underlying37 infoIn rfl (by omega) F0.out (HSRC.out wo2 (HB1.out.trans (HBX.out.mono HB1.out.size))) (by unfold maxLen; omega) (by omega)
            refine wp_append_run (v := .slice (some ⟨gb0, 0, none⟩) 0 0) (xv := .slice (some ⟨b, off, none⟩) j c) (.tmp 29) (.tmp 30) 37 37 rfl (by rfl) (by rfl) hap ?_
            have HRB := Lib.hid ((hbX.block _ (lt_of_block HRB.out)).trans HRB.out)
            have F0 := Lib.hid ((hbX.block _ (lt_of_block F0.out)).trans F0.out)
            have F5 := Lib.hid ((hbX.block _ (lt_of_block F5.out)).trans F5.out)
            have F8 := Lib.hid ((hbX.block _ (lt_of_block F8.out)).trans F8.out)
            have F2 := Lib.hid (ho)
            have FW2 := Lib.hid (fun k (hk : (Value.slice ao2 j cp2).ownBlock = some k) => show w1.heap.size ≤ k from by rcases how with h | h <;> (rw [hk] at h; have := Option.some.inj h; have := HGE0.out; have := HBX.out.size; omega))
            have HBX := Lib.hid (HBX.out.trans (hbX.mono HBX.out.size))
            refine hK.out _ _ (trivial) (fun hHwo3 => ?_)
            clear hK K hbX hap ho
            refine wpAnyH_take (i := 9) (v := ?_) rfl (by kernel_rfl) (by kernel_rfl) (by kernel_rfl) (fun _ _ _ h => h) (Or.inl ⟨by rfl, ?_⟩) hHwo3 ?_
            rotate_left
            · intro w hSw
              go_simp
              with_reducible rfl
            try simp only [List.getElem_toArray, List.getElem_cons_succ, List.getElem_cons_zero, Act.put, List.setIfInBounds_toArray, List.set_cons_zero, List.set_cons_succ]
            refine wpAnyH_ready (rs := [10]) (by kernel_rfl) (by simp) ?_
            refine AllReadyH.cons rfl (fun K hK => ?_) (AllReadyH.nil)
            have p0 := (has_cell HRB.out 0).trans (show _ = some (Value.slice none 0 0) from rfl)
            have p1 := (has_cell HRB.out 1).trans (show _ = some (Value.slice none 0 0) from rfl)
            have p2 := (has_cell HRB.out 2).trans (show _ = some (Value.slice none 0 0) from rfl)
            have p3 := (has_cell HRB.out 3).trans (show _ = some (Value.int .i64 0) from rfl)
            have p4 := (has_cell HRB.out 4).trans (show _ = some (Value.bool false) from rfl)
            have f0 := has_free HRB.out 0
            have f1 := has_free HRB.out 1
            have f2 := has_free HRB.out 2
            have f3 := has_free HRB.out 3
            have f4 := has_free HRB.out 4
            go_simp
            clear p0 p1 p2 p3 p4 f0 f1 f2 f3 f4
            refine hK.out _ _ trivial (fun hHwo4 => ?_)
            clear hK K
            refine wpAnyH_take (i := 11) (v := ?_) rfl (by kernel_rfl) (by kernel_rfl) (by kernel_rfl) (fun _ _ _ h => h) (Or.inl ⟨by rfl, ?_⟩) hHwo4 ?_
            rotate_left
            · intro w hSw
              go_simp
              with_reducible rfl
            try simp only [List.getElem_toArray, List.getElem_cons_succ, List.getElem_cons_zero, Act.put, List.setIfInBounds_toArray, List.set_cons_zero, List.set_cons_succ]
            refine wpAnyH_done (by kernel_rfl) ?_ _
            clear hHwo4
            have H5 := set5 HRB.out (.slice ao2 j cp2) (.slice (some ⟨gb5, 0, none⟩) j j) (.slice (some ⟨gb8, 0, none⟩) j j) (.int .i64 0) (.bool false)
            have HRQ := (rq_made h16 F2.out F5.out F8.out).heap (fun b cs t ht hc => H5.2.1 b (type_ne hc HRB.out ht))
            have HW := Lib.hid H5.1
            have HZ := HB1.out.size
            have K5 : ∀ g, (Value.slice (some ⟨gb5, 0, none⟩) j j).ownBlock = some g → w.heap.size ≤ g := by
              intro g hg
              have : gb5 = g := Option.some.inj hg
              have := HGE5.out
              omega
            have K8 : ∀ g, (Value.slice (some ⟨gb8, 0, none⟩) j j).ownBlock = some g → w.heap.size ≤ g := by
              intro g hg
              have : gb8 = g := Option.some.inj hg
              have := HGE8.out
              omega
            have K2 : ∀ g, (Value.slice ao2 j cp2).ownBlock = some g → w.heap.size ≤ g := by
              intro g hg
              have := FW2.out g hg
              omega
            have KE : ∀ t g, ((List.replicate j nilS).getD t nilS).ownBlock = some g → w.heap.size ≤ g := by
              intro t g hg
              have e2 : (List.replicate j nilS).getD t nilS = nilS := by by_cases h : t < j <;> simp [List.getD, h]
              rw [e2] at hg
              simp [nilS, Value.ownBlock] at hg
            have HKK : RQK (fun k => w.heap.size ≤ k) _ _ _ _ _ _ := ⟨HRQ, K2, K5, K8, KE⟩
            clear K5 K8 K2 KE
            have HP : Hid (RNewOk Q j w (.returned (.tuple #[.agg #[.slice ao2 j cp2, .slice (some ⟨gb5, 0, none⟩) j j, .slice (some ⟨gb8, 0, none⟩) j j, .int .i64 0, .bool false], .int .i64 0])) _) := Lib.hid ⟨_, _, _, _, rfl, HKK, H5.2.2 _ _ HLR.out (HB1.out.trans (HBX.out.mono HB1.out.size))⟩
            clear H5 HRQ HKK HZ
            go_wp2_with fail
            try simp only [Exit.inBlock, Exit.then]
            refine bodyPost_ret (results_cell2 rfl _ _ rb 55 _ (0, 0) _ rfl HW.out Try.underlying55 rfl (by kernel_rfl)) rfl ?_
            exact HP.out
        · skip
          go_simp
          have hbX := (Below.refl wo0.heap.size wo0).alloc (Nat.le_refl _) (.cells (madeCells #[.slice none 0 0] j) 127)
          have hqX := heap_alloc_new wo0 (.cells (madeCells #[.slice none 0 0] j) 127)
          obtain ⟨gb8, hgX⟩ : ∃ g, wo0.heap.size = g := ⟨_, rfl⟩
          have HGE8 : Hid (w1.heap.size ≤ gb8) := Lib.hid (by have := HBX.out.size; omega)
          rw [hgX] at hqX ⊢
          clear hgX
          generalize wo0.alloc (.cells (madeCells #[.slice none 0 0] j) 127) = wo1 at *
          have HRB := Lib.hid ((hbX.block _ (lt_of_block HRB.out)).trans HRB.out)
          have F5 := Lib.hid ((hbX.block _ (lt_of_block F5.out)).trans F5.out)
          have F8 := Lib.hid (hqX)
          have HBX := Lib.hid (HBX.out.trans (hbX.mono HBX.out.size))
          refine hK.out _ _ (trivial) (fun hHwo1 => ?_)
          clear hK K hbX hqX
          refine wpAnyH_ready (rs := [0]) (by kernel_rfl) (by simp) ?_
          refine AllReadyH.cons rfl (fun K hK => ?_) (AllReadyH.nil)
          go_simp
          have hbX := (Below.refl wo1.heap.size wo1).alloc (Nat.le_refl _) (.cells #[] 3)
          have hqX := heap_alloc_new wo1 (.cells #[] 3)
          obtain ⟨gb0, hgX⟩ : ∃ g, wo1.heap.size = g := ⟨_, rfl⟩
          have HGE0 : Hid (w1.heap.size ≤ gb0) := Lib.hid (by have := HBX.out.size; omega)
          rw [hgX] at hqX ⊢
          clear hgX
          generalize wo1.alloc (.cells #[] 3) = wo2 at *
          have HRB := Lib.hid ((hbX.block _ (lt_of_block HRB.out)).trans HRB.out)
          have F5 := Lib.hid ((hbX.block _ (lt_of_block F5.out)).trans F5.out)
          have F8 := Lib.hid ((hbX.block _ (lt_of_block F8.out)).trans F8.out)
          have F0 := Lib.hid (hqX)
          have HBX := Lib.hid (HBX.out.trans (hbX.mono HBX.out.size))
          refine hK.out _ _ (trivial) (fun hHwo2 => ?_)
          clear hK K hbX hqX
          refine wpAnyH_ready (rs := [2]) (by kernel_rfl) (by simp) ?_
          refine AllReadyH.cons rfl (fun K hK => ?_) (AllReadyH.nil)
          obtain ⟨ao2, cp2, wo3, hap, ho, how, hbX⟩ := app_fresh 37 _ _ Try.underlying37 infoIn rfl (by omega) F0.out (HSRC.out wo2 (HB1.out.trans (HBX.out.mono HB1.out.size))) (by unfold maxLen; omega) (by omega)
          refine wp_append_run (v := .slice (some ⟨gb0, 0, none⟩) 0 0) (xv := .slice (some ⟨b, off, none⟩) j c) (.tmp 29) (.tmp 30) 37 37 rfl (by rfl) (by rfl) hap ?_
          have HRB := Lib.hid ((hbX.block _ (lt_of_block HRB.out)).trans HRB.out)
          have F0 := Lib.hid ((hbX.block _ (lt_of_block F0.out)).trans F0.out)
          have F5 := Lib.hid ((hbX.block _ (lt_of_block F5.out)).trans F5.out)
          have F8 := Lib.hid ((hbX.block _ (lt_of_block F8.out)).trans F8.out)
          have F2 := Lib.hid (ho)
          have FW2 := Lib.hid (fun k (hk : (Value.slice ao2 j cp2).ownBlock = some k) => show w1.heap.size ≤ k from by rcases how with h | h <;> (rw [hk] at h; have := Option.some.inj h; have := HGE0.out; have := HBX.out.size; omega))
          have HBX := Lib.hid (HBX.out.trans (hbX.mono HBX.out.size))
          refine hK.out _ _ (trivial) (fun hHwo3 => ?_)
          clear hK K hbX hap ho
          refine wpAnyH_take (i := 9) (v := ?_) rfl (by kernel_rfl) (by kernel_rfl) (by kernel_rfl) (fun _ _ _ h => h) (Or.inl ⟨by rfl, ?_⟩) hHwo3 ?_
          rotate_left
          · intro w hSw
            go_simp
            with_reducible rfl
          try simp only [List.getElem_toArray, List.getElem_cons_succ, List.getElem_cons_zero, Act.put, List.setIfInBounds_toArray, List.set_cons_zero, List.set_cons_succ]
          refine wpAnyH_ready (rs := [10]) (by kernel_rfl) (by simp) ?_
          refine AllReadyH.cons rfl (fun K hK => ?_) (AllReadyH.nil)
          have p0 := (has_cell HRB.out 0).trans (show _ = some (Value.slice none 0 0) from rfl)
          have p1 := (has_cell HRB.out 1).trans (show _ = some (Value.slice none 0 0) from rfl)
          have p2 := (has_cell HRB.out 2).trans (show _ = some (Value.slice none 0 0) from rfl)
          have p3 := (has_cell HRB.out 3).trans (show _ = some (Value.int .i64 0) from rfl)
          have p4 := (has_cell HRB.out 4).trans (show _ = some (Value.bool false) from rfl)
          have f0 := has_free HRB.out 0
          have f1 := has_free HRB.out 1
          have f2 := has_free HRB.out 2
          have f3 := has_free HRB.out 3
          have f4 := has_free HRB.out 4
          go_simp
          clear p0 p1 p2 p3 p4 f0 f1 f2 f3 f4
          refine hK.out _ _ trivial (fun hHwo4 => ?_)
          clear hK K
          refine wpAnyH_take (i := 11) (v := ?_) rfl (by kernel_rfl) (by kernel_rfl) (by kernel_rfl) (fun _ _ _ h => h) (Or.inl ⟨by rfl, ?_⟩) hHwo4 ?_
          rotate_left
          · intro w hSw
            go_simp
            with_reducible rfl
          try simp only [List.getElem_toArray, List.getElem_cons_succ, List.getElem_cons_zero, Act.put, List.setIfInBounds_toArray, List.set_cons_zero, List.set_cons_succ]
          refine wpAnyH_done (by kernel_rfl) ?_ _
          clear hHwo4
          have H5 := set5 HRB.out (.slice ao2 j cp2) (.slice (some ⟨gb5, 0, none⟩) j j) (.slice (some ⟨gb8, 0, none⟩) j j) (.int .i64 0) (.bool false)
          have HRQ := (rq_made h16 F2.out F5.out F8.out).heap (fun b cs t ht hc => H5.2.1 b (type_ne hc HRB.out ht))
          have HW := Lib.hid H5.1
          have HZ := HB1.out.size
          have K5 : ∀ g, (Value.slice (some ⟨gb5, 0, none⟩) j j).ownBlock = some g → w.heap.size ≤ g := by
            intro g hg
            have : gb5 = g := Option.some.inj hg
            have := HGE5.out
            omega
          have K8 : ∀ g, (Value.slice (some ⟨gb8, 0, none⟩) j j).ownBlock = some g → w.heap.size ≤ g := by
            intro g hg
            have : gb8 = g := Option.some.inj hg
            have := HGE8.out
            omega
          have K2 : ∀ g, (Value.slice ao2 j cp2).ownBlock = some g → w.heap.size ≤ g := by
            intro g hg
            have := FW2.out g hg
            omega
          have KE : ∀ t g, ((List.replicate j nilS).getD t nilS).ownBlock = some g → w.heap.size ≤ g := by
            intro t g hg
            have e2 : (List.replicate j nilS).getD t nilS = nilS := by by_cases h : t < j <;> simp [List.getD, h]
            rw [e2] at hg
            simp [nilS, Value.ownBlock] at hg
          have HKK : RQK (fun k => w.heap.size ≤ k) _ _ _ _ _ _ := ⟨HRQ, K2, K5, K8, KE⟩
          clear K5 K8 K2 KE
          have HP : Hid (RNewOk Q j w (.returned (.tuple #[.agg #[.slice ao2 j cp2, .slice (some ⟨gb5, 0, none⟩) j j, .slice (some ⟨gb8, 0, none⟩) j j, .int .i64 0, .bool false], .int .i64 0])) _) := Lib.hid ⟨_, _, _, _, rfl, HKK, H5.2.2 _ _ HLR.out (HB1.out.trans (HBX.out.mono HB1.out.size))⟩
          clear H5 HRQ HKK HZ
          go_wp2_with fail
          try simp only [Exit.inBlock, Exit.then]
          refine bodyPost_ret (results_cell2 rfl _ _ rb 55 _ (0, 0) _ rfl HW.out Try.underlying55 rfl (by kernel_rfl)) rfl ?_
          exact HP.out
      · skip
        go_simp
        have hbX := (Below.refl w1.heap.size w1).alloc (Nat.le_refl _) (.cells (madeCells #[.slice none 0 0] j) 127)
        have hqX := heap_alloc_new w1 (.cells (madeCells #[.slice none 0 0] j) 127)
        obtain ⟨gb8, hgX⟩ : ∃ g, w1.heap.size = g := ⟨_, rfl⟩
        have HGE8 : Hid (w1.heap.size ≤ gb8) := Lib.hid (by have := HBX.out.size; omega)
        rw [hgX] at hqX ⊢
        clear hgX
        generalize w1.alloc (.cells (madeCells #[.slice none 0 0] j) 127) = wo0 at *
        have HRB := Lib.hid ((hbX.block _ (lt_of_block HRB.out)).trans HRB.out)
        have F8 := Lib.hid (hqX)
        have HBX := Lib.hid (HBX.out.trans (hbX.mono HBX.out.size))
        refine hK.out _ _ (trivial) (fun hHwo0 => ?_)
        clear hK K hbX hqX
        refine wpAnyH_ready (rs := [0, 5]) (by kernel_rfl) (by simp) ?_
        refine AllReadyH.cons rfl (fun K hK => ?_) (AllReadyH.cons rfl (fun K hK => ?_) (AllReadyH.nil))
        · skip
          go_simp
          have hbX := (Below.refl wo0.heap.size wo0).alloc (Nat.le_refl _) (.cells #[] 3)
          have hqX := heap_alloc_new wo0 (.cells #[] 3)
          obtain ⟨gb0, hgX⟩ : ∃ g, wo0.heap.size = g := ⟨_, rfl⟩
          have HGE0 : Hid (w1.heap.size ≤ gb0) := Lib.hid (by have := HBX.out.size; omega)
          rw [hgX] at hqX ⊢
          clear hgX
          generalize wo0.alloc (.cells #[] 3) = wo1 at *
          have HRB := Lib.hid ((hbX.block _ (lt_of_block HRB.out)).trans HRB.out)
          have F8 := Lib.hid ((hbX.block _ (lt_of_block F8.out)).trans F8.out)
          have F0 := Lib.hid (hqX)
          have HBX := Lib.hid (HBX.out.trans (hbX.mono HBX.out.size))
          refine hK.out _ _ (trivial) (fun hHwo1 => ?_)
          clear hK K hbX hqX
          refine wpAnyH_ready (rs := [2, 5]) (by kernel_rfl) (by simp) ?_
          refine AllReadyH.cons rfl (fun K hK => ?_) (AllReadyH.cons rfl (fun K hK => ?_) (AllReadyH.nil))
          · skip
            obtain ⟨ao2, cp2, wo2, hap, ho, how, hbX⟩ := app_fresh 37 _ _ Try.underlying37 infoIn rfl (by omega) F0.out (HSRC.out wo1 (HB1.out.trans (HBX.out.mono HB1.out.size))) (by unfold maxLen; omega) (by omega)
            refine wp_append_run (v := .slice (some ⟨gb0, 0, none⟩) 0 0) (xv := .slice (some ⟨b, off, none⟩) j c) (.tmp 29) (.tmp 30) 37 37 rfl (by rfl) (by rfl) hap ?_
            have HRB := Lib.hid ((hbX.block _ (lt_of_block HRB.out)).trans HRB.out)
            have F0 := Lib.hid ((hbX.block _ (lt_of_block F0.out)).trans F0.out)
            have F8 := Lib.hid ((hbX.block _ (lt_of_block F8.out)).trans F8.out)
            have F2 := Lib.hid (ho)
            have FW2 := Lib.hid (fun k (hk : (Value.slice ao2 j cp2).ownBlock = some k) => show w1.heap.size ≤ k from by rcases how with h | h <;> (rw [hk] at h; have := Option.some.inj h; have := HGE0.out; have := HBX.out.size; omega))
            have HBX := Lib.hid (HBX.out.trans (hbX.mono HBX.out.size))
            refine hK.out _ _ (trivial) (fun hHwo2 => ?_)
            clear hK K hbX hap ho
            refine wpAnyH_ready (rs := [5]) (by kernel_rfl) (by simp) ?_
            refine AllReadyH.cons rfl (fun K hK => ?_) (AllReadyH.nil)
            go_simp
            have hbX := (Below.refl wo2.heap.size wo2).alloc (Nat.le_refl _) (.cells (madeCells #[.int .i64 0] j) 3)
            have hqX := heap_alloc_new wo2 (.cells (madeCells #[.int .i64 0] j) 3)
            obtain ⟨gb5, hgX⟩ : ∃ g, wo2.heap.size = g := ⟨_, rfl⟩
            have HGE5 : Hid (w1.heap.size ≤ gb5) := Lib.hid (by have := HBX.out.size; omega)
            rw [hgX] at hqX ⊢
            clear hgX
            generalize wo2.alloc (.cells (madeCells #[.int .i64 0] j) 3) = wo3 at *
            have HRB := Lib.hid ((hbX.block _ (lt_of_block HRB.out)).trans HRB.out)
            have F0 := Lib.hid ((hbX.block _ (lt_of_block F0.out)).trans F0.out)
            have F2 := Lib.hid (OL.bel F2.out hbX)
            have FW2 := Lib.hid (FW2.out)
            have F8 := Lib.hid ((hbX.block _ (lt_of_block F8.out)).trans F8.out)
            have F5 := Lib.hid (hqX)
            have HBX := Lib.hid (HBX.out.trans (hbX.mono HBX.out.size))
            refine hK.out _ _ (trivial) (fun hHwo3 => ?_)
            clear hK K hbX hqX
            refine wpAnyH_take (i := 9) (v := ?_) rfl (by kernel_rfl) (by kernel_rfl) (by kernel_rfl) (fun _ _ _ h => h) (Or.inl ⟨by rfl, ?_⟩) hHwo3 ?_
            rotate_left
            · intro w hSw
              go_simp
              with_reducible rfl
            try simp only [List.getElem_toArray, List.getElem_cons_succ, List.getElem_cons_zero, Act.put, List.setIfInBounds_toArray, List.set_cons_zero, List.set_cons_succ]
            refine wpAnyH_ready (rs := [10]) (by kernel_rfl) (by simp) ?_
            refine AllReadyH.cons rfl (fun K hK => ?_) (AllReadyH.nil)
            have p0 := (has_cell HRB.out 0).trans (show _ = some (Value.slice none 0 0) from rfl)
            have p1 := (has_cell HRB.out 1).trans (show _ = some (Value.slice none 0 0) from rfl)
            have p2 := (has_cell HRB.out 2).trans (show _ = some (Value.slice none 0 0) from rfl)
            have p3 := (has_cell HRB.out 3).trans (show _ = some (Value.int .i64 0) from rfl)
            have p4 := (has_cell HRB.out 4).trans (show _ = some (Value.bool false) from rfl)
            have f0 := has_free HRB.out 0
            have f1 := has_free HRB.out 1
            have f2 := has_free HRB.out 2
            have f3 := has_free HRB.out 3
            have f4 := has_free HRB.out 4
            go_simp
            clear p0 p1 p2 p3 p4 f0 f1 f2 f3 f4
            refine hK.out _ _ trivial (fun hHwo4 => ?_)
            clear hK K
            refine wpAnyH_take (i := 11) (v := ?_) rfl (by kernel_rfl) (by kernel_rfl) (by kernel_rfl) (fun _ _ _ h => h) (Or.inl ⟨by rfl, ?_⟩) hHwo4 ?_
            rotate_left
            · intro w hSw
              go_simp
              with_reducible rfl
            try simp only [List.getElem_toArray, List.getElem_cons_succ, List.getElem_cons_zero, Act.put, List.setIfInBounds_toArray, List.set_cons_zero, List.set_cons_succ]
            refine wpAnyH_done (by kernel_rfl) ?_ _
            clear hHwo4
            have H5 := set5 HRB.out (.slice ao2 j cp2) (.slice (some ⟨gb5, 0, none⟩) j j) (.slice (some ⟨gb8, 0, none⟩) j j) (.int .i64 0) (.bool false)
            have HRQ := (rq_made h16 F2.out F5.out F8.out).heap (fun b cs t ht hc => H5.2.1 b (type_ne hc HRB.out ht))
            have HW := Lib.hid H5.1
            have HZ := HB1.out.size
            have K5 : ∀ g, (Value.slice (some ⟨gb5, 0, none⟩) j j).ownBlock = some g → w.heap.size ≤ g := by
              intro g hg
              have : gb5 = g := Option.some.inj hg
              have := HGE5.out
              omega
            have K8 : ∀ g, (Value.slice (some ⟨gb8, 0, none⟩) j j).ownBlock = some g → w.heap.size ≤ g := by
              intro g hg
              have : gb8 = g := Option.some.inj hg
              have := HGE8.out
              omega
            have K2 : ∀ g, (Value.slice ao2 j cp2).ownBlock = some g → w.heap.size ≤ g := by
              intro g hg
              have := FW2.out g hg
              omega
            have KE : ∀ t g, ((List.replicate j nilS).getD t nilS).ownBlock = some g → w.heap.size ≤ g := by
              intro t g hg
              have e2 : (List.replicate j nilS).getD t nilS = nilS := by by_cases h : t < j <;> simp [List.getD, h]
              rw [e2] at hg
              simp [nilS, Value.ownBlock] at hg
            have HKK : RQK (fun k => w.heap.size ≤ k) _ _ _ _ _ _ := ⟨HRQ, K2, K5, K8, KE⟩
            clear K5 K8 K2 KE
            have HP : Hid (RNewOk Q j w (.returned (.tuple #[.agg #[.slice ao2 j cp2, .slice (some ⟨gb5, 0, none⟩) j j, .slice (some ⟨gb8, 0, none⟩) j j, .int .i64 0, .bool false], .int .i64 0])) _) := Lib.hid ⟨_, _, _, _, rfl, HKK, H5.2.2 _ _ HLR.out (HB1.out.trans (HBX.out.mono HB1.out.size))⟩
            clear H5 HRQ HKK HZ
            go_wp2_with fail
            try simp only [Exit.inBlock, Exit.then]
            refine bodyPost_ret (results_cell2 rfl _ _ rb 55 _ (0, 0) _ rfl HW.out Try.underlying55 rfl (by kernel_rfl)) rfl ?_
            exact HP.out
          · skip
            go_simp
            have hbX := (Below.refl wo1.heap.size wo1).alloc (Nat.le_refl _) (.cells (madeCells #[.int .i64 0] j) 3)
            have hqX := heap_alloc_new wo1 (.cells (madeCells #[.int .i64 0] j) 3)
            obtain ⟨gb5, hgX⟩ : ∃ g, wo1.heap.size = g := ⟨_, rfl⟩
            have HGE5 : Hid (w1.heap.size ≤ gb5) := Lib.hid (by have := HBX.out.size; omega)
            rw [hgX] at hqX ⊢
            clear hgX
            generalize wo1.alloc (.cells (madeCells #[.int .i64 0] j) 3) = wo2 at *
            have HRB := Lib.hid ((hbX.block _ (lt_of_block HRB.out)).trans HRB.out)
            have F0 := Lib.hid ((hbX.block _ (lt_of_block F0.out)).trans F0.out)
            have F8 := Lib.hid ((hbX.block _ (lt_of_block F8.out)).trans F8.out)
            have F5 := Lib.hid (hqX)
            have HBX := Lib.hid (HBX.out.trans (hbX.mono HBX.out.size))
            refine hK.out _ _ (trivial) (fun hHwo2 => ?_)
            clear hK K hbX hqX
            refine wpAnyH_ready (rs := [2]) (by kernel_rfl) (by simp) ?_
            refine AllReadyH.cons rfl (fun K hK => ?_) (AllReadyH.nil)
            obtain ⟨ao2, cp2, wo3, hap, ho, how, hbX⟩ := app_fresh 37 _ _ Try.underlying37 infoIn rfl (by omega) F0.out (HSRC.out wo2 (HB1.out.trans (HBX.out.mono HB1.out.size))) (by unfold maxLen; omega) (by omega)
            refine wp_append_run (v := .slice (some ⟨gb0, 0, none⟩) 0 0) (xv := .slice (some ⟨b, off, none⟩) j c) (.tmp 29) (.tmp 30) 37 37 rfl (by rfl) (by rfl) hap ?_
            have HRB := Lib.hid ((hbX.block _ (lt_of_block HRB.out)).trans HRB.out)
            have F0 := Lib.hid ((hbX.block _ (lt_of_block F0.out)).trans F0.out)
            have F5 := Lib.hid ((hbX.block _ (lt_of_block F5.out)).trans F5.out)
            have F8 := Lib.hid ((hbX.block _ (lt_of_block F8.out)).trans F8.out)
            have F2 := Lib.hid (ho)
            have FW2 := Lib.hid (fun k (hk : (Value.slice ao2 j cp2).ownBlock = some k) => show w1.heap.size ≤ k from by rcases how with h | h <;> (rw [hk] at h; have := Option.some.inj h; have := HGE0.out; have := HBX.out.size; omega))
            have HBX := Lib.hid (HBX.out.trans (hbX.mono HBX.out.size))
            refine hK.out _ _ (trivial) (fun hHwo3 => ?_)
            clear hK K hbX hap ho
            refine wpAnyH_take (i := 9) (v := ?_) rfl (by kernel_rfl) (by kernel_rfl) (by kernel_rfl) (fun _ _ _ h => h) (Or.inl ⟨by rfl, ?_⟩) hHwo3 ?_
            rotate_left
            · intro w hSw
              go_simp
              with_reducible rfl
            try simp only [List.getElem_toArray, List.getElem_cons_succ, List.getElem_cons_zero, Act.put, List.setIfInBounds_toArray, List.set_cons_zero, List.set_cons_succ]
            refine wpAnyH_ready (rs := [10]) (by kernel_rfl) (by simp) ?_
            refine AllReadyH.cons rfl (fun K hK => ?_) (AllReadyH.nil)
            have p0 := (has_cell HRB.out 0).trans (show _ = some (Value.slice none 0 0) from rfl)
            have p1 := (has_cell HRB.out 1).trans (show _ = some (Value.slice none 0 0) from rfl)
            have p2 := (has_cell HRB.out 2).trans (show _ = some (Value.slice none 0 0) from rfl)
            have p3 := (has_cell HRB.out 3).trans (show _ = some (Value.int .i64 0) from rfl)
            have p4 := (has_cell HRB.out 4).trans (show _ = some (Value.bool false) from rfl)
            have f0 := has_free HRB.out 0
            have f1 := has_free HRB.out 1
            have f2 := has_free HRB.out 2
            have f3 := has_free HRB.out 3
            have f4 := has_free HRB.out 4
            go_simp
            clear p0 p1 p2 p3 p4 f0 f1 f2 f3 f4
            refine hK.out _ _ trivial (fun hHwo4 => ?_)
            clear hK K
            refine wpAnyH_take (i := 11) (v := ?_) rfl (by kernel_rfl) (by kernel_rfl) (by kernel_rfl) (fun _ _ _ h => h) (Or.inl ⟨by rfl, ?_⟩) hHwo4 ?_
            rotate_left
            · intro w hSw
              go_simp
              with_reducible rfl
            try simp only [List.getElem_toArray, List.getElem_cons_succ, List.getElem_cons_zero, Act.put, List.setIfInBounds_toArray, List.set_cons_zero, List.set_cons_succ]
            refine wpAnyH_done (by kernel_rfl) ?_ _
            clear hHwo4
            have H5 := set5 HRB.out (.slice ao2 j cp2) (.slice (some ⟨gb5, 0, none⟩) j j) (.slice (some ⟨gb8, 0, none⟩) j j) (.int .i64 0) (.bool false)
            have HRQ := (rq_made h16 F2.out F5.out F8.out).heap (fun b cs t ht hc => H5.2.1 b (type_ne hc HRB.out ht))
            have HW := Lib.hid H5.1
            have HZ := HB1.out.size
            have K5 : ∀ g, (Value.slice (some ⟨gb5, 0, none⟩) j j).ownBlock = some g → w.heap.size ≤ g := by
              intro g hg
              have : gb5 = g := Option.some.inj hg
              have := HGE5.out
              omega
            have K8 : ∀ g, (Value.slice (some ⟨gb8, 0, none⟩) j j).ownBlock = some g → w.heap.size ≤ g := by
              intro g hg
              have : gb8 = g := Option.some.inj hg
              have := HGE8.out
              omega
            have K2 : ∀ g, (Value.slice ao2 j cp2).ownBlock = some g → w.heap.size ≤ g := by
              intro g hg
              have := FW2.out g hg
              omega
            have KE : ∀ t g, ((List.replicate j nilS).getD t nilS).ownBlock = some g → w.heap.size ≤ g := by
              intro t g hg
              have e2 : (List.replicate j nilS).getD t nilS = nilS := by by_cases h : t < j <;> simp [List.getD, h]
              rw [e2] at hg
              simp [nilS, Value.ownBlock] at hg
            have HKK : RQK (fun k => w.heap.size ≤ k) _ _ _ _ _ _ := ⟨HRQ, K2, K5, K8, KE⟩
            clear K5 K8 K2 KE
            have HP : Hid (RNewOk Q j w (.returned (.tuple #[.agg #[.slice ao2 j cp2, .slice (some ⟨gb5, 0, none⟩) j j, .slice (some ⟨gb8, 0, none⟩) j j, .int .i64 0, .bool false], .int .i64 0])) _) := Lib.hid ⟨_, _, _, _, rfl, HKK, H5.2.2 _ _ HLR.out (HB1.out.trans (HBX.out.mono HB1.out.size))⟩
            clear H5 HRQ HKK HZ
            go_wp2_with fail
            try simp only [Exit.inBlock, Exit.then]
            refine bodyPost_ret (results_cell2 rfl _ _ rb 55 _ (0, 0) _ rfl HW.out Try.underlying55 rfl (by kernel_rfl)) rfl ?_
            exact HP.out
        · skip
          go_simp
          have hbX := (Below.refl wo0.heap.size wo0).alloc (Nat.le_refl _) (.cells (madeCells #[.int .i64 0] j) 3)
          have hqX := heap_alloc_new wo0 (.cells (madeCells #[.int .i64 0] j) 3)
          obtain ⟨gb5, hgX⟩ : ∃ g, wo0.heap.size = g := ⟨_, rfl⟩
          have HGE5 : Hid (w1.heap.size ≤ gb5) := Lib.hid (by have := HBX.out.size; omega)
          rw [hgX] at hqX ⊢
          clear hgX
          generalize wo0.alloc (.cells (madeCells #[.int .i64 0] j) 3) = wo1 at *
          have HRB := Lib.hid ((hbX.block _ (lt_of_block HRB.out)).trans HRB.out)
          have F8 := Lib.hid ((hbX.block _ (lt_of_block F8.out)).trans F8.out)
          have F5 := Lib.hid (hqX)
          have HBX := Lib.hid (HBX.out.trans (hbX.mono HBX.out.size))
          refine hK.out _ _ (trivial) (fun hHwo1 => ?_)
          clear hK K hbX hqX
          refine wpAnyH_ready (rs := [0]) (by kernel_rfl) (by simp) ?_
          refine AllReadyH.cons rfl (fun K hK => ?_) (AllReadyH.nil)
          go_simp
          have hbX := (Below.refl wo1.heap.size wo1).alloc (Nat.le_refl _) (.cells #[] 3)
          have hqX := heap_alloc_new wo1 (.cells #[] 3)
          obtain ⟨gb0, hgX⟩ : ∃ g, wo1.heap.size = g := ⟨_, rfl⟩
          have HGE0 : Hid (w1.heap.size ≤ gb0) := Lib.hid (by have := HBX.out.size; omega)
          rw [hgX] at hqX ⊢
          clear hgX
          generalize wo1.alloc (.cells #[] 3) = wo2 at *
          have HRB := Lib.hid ((hbX.block _ (lt_of_block HRB.out)).trans HRB.out)
          have F5 := Lib.hid ((hbX.block _ (lt_of_block F5.out)).trans F5.out)
          have F8 := Lib.hid ((hbX.block _ (lt_of_block F8.out)).trans F8.out)
          have F0 := Lib.hid (hqX)
          have HBX := Lib.hid (HBX.out.trans (hbX.mono HBX.out.size))
          refine hK.out _ _ (trivial) (fun hHwo2 => ?_)
          clear hK K hbX hqX
          refine wpAnyH_ready (rs := [2]) (by kernel_rfl) (by simp) ?_
          refine AllReadyH.cons rfl (fun K hK => ?_) (AllReadyH.nil)
          obtain ⟨ao2, cp2, wo3, hap, ho, how, hbX⟩ := app_fresh 37 _ _ Try.underlying37 infoIn rfl (by omega) F0.out (HSRC.out wo2 (HB1.out.trans (HBX.out.mono HB1.out.size))) (by unfold maxLen; omega) (by omega)
          refine wp_append_run (v := .slice (some ⟨gb0, 0, none⟩) 0 0) (xv := .slice (some ⟨b, off, none⟩) j c) (.tmp 29) (.tmp 30) 37 37 rfl (by rfl) (by rfl) hap ?_
          have HRB := Lib.hid ((hbX.block _ (lt_of_block HRB.out)).trans HRB.out)
          have F0 := Lib.hid ((hbX.block _ (lt_of_block F0.out)).trans F0.out)
          have F5 := Lib.hid ((hbX.block _ (lt_of_block F5.out)).trans F5.out)
          have F8 := Lib.hid ((hbX.block _ (lt_of_block F8.out)).trans F8.out)
          have F2 := Lib.hid (ho)
          have FW2 := Lib.hid (fun k (hk : (Value.slice ao2 j cp2).ownBlock = some k) => show w1.heap.size ≤ k from by rcases how with h | h <;> (rw [hk] at h; have := Option.some.inj h; have := HGE0.out; have := HBX.out.size; omega))
          have HBX := Lib.hid (HBX.out.trans (hbX.mono HBX.out.size))
          refine hK.out _ _ (trivial) (fun hHwo3 => ?_)
          clear hK K hbX hap ho
          refine wpAnyH_take (i := 9) (v := ?_) rfl (by kernel_rfl) (by kernel_rfl) (by kernel_rfl) (fun _ _ _ h => h) (Or.inl ⟨by rfl, ?_⟩) hHwo3 ?_
          rotate_left
          · intro w hSw
            go_simp
            with_reducible rfl
          try simp only [List.getElem_toArray, List.getElem_cons_succ, List.getElem_cons_zero, Act.put, List.setIfInBounds_toArray, List.set_cons_zero, List.set_cons_succ]
          refine wpAnyH_ready (rs := [10]) (by kernel_rfl) (by simp) ?_
          refine AllReadyH.cons rfl (fun K hK => ?_) (AllReadyH.nil)
          have p0 := (has_cell HRB.out 0).trans (show _ = some (Value.slice none 0 0) from rfl)
          have p1 := (has_cell HRB.out 1).trans (show _ = some (Value.slice none 0 0) from rfl)
          have p2 := (has_cell HRB.out 2).trans (show _ = some (Value.slice none 0 0) from rfl)
          have p3 := (has_cell HRB.out 3).trans (show _ = some (Value.int .i64 0) from rfl)
          have p4 := (has_cell HRB.out 4).trans (show _ = some (Value.bool false) from rfl)
          have f0 := has_free HRB.out 0
          have f1 := has_free HRB.out 1
          have f2 := has_free HRB.out 2
          have f3 := has_free HRB.out 3
          have f4 := has_free HRB.out 4
          go_simp
          clear p0 p1 p2 p3 p4 f0 f1 f2 f3 f4
          refine hK.out _ _ trivial (fun hHwo4 => ?_)
          clear hK K
          refine wpAnyH_take (i := 11) (v := ?_) rfl (by kernel_rfl) (by kernel_rfl) (by kernel_rfl) (fun _ _ _ h => h) (Or.inl ⟨by rfl, ?_⟩) hHwo4 ?_
          rotate_left
          · intro w hSw
            go_simp
            with_reducible rfl
          try simp only [List.getElem_toArray, List.getElem_cons_succ, List.getElem_cons_zero, Act.put, List.setIfInBounds_toArray, List.set_cons_zero, List.set_cons_succ]
          refine wpAnyH_done (by kernel_rfl) ?_ _
          clear hHwo4
          have H5 := set5 HRB.out (.slice ao2 j cp2) (.slice (some ⟨gb5, 0, none⟩) j j) (.slice (some ⟨gb8, 0, none⟩) j j) (.int .i64 0) (.bool false)
          have HRQ := (rq_made h16 F2.out F5.out F8.out).heap (fun b cs t ht hc => H5.2.1 b (type_ne hc HRB.out ht))
          have HW := Lib.hid H5.1
          have HZ := HB1.out.size
          have K5 : ∀ g, (Value.slice (some ⟨gb5, 0, none⟩) j j).ownBlock = some g → w.heap.size ≤ g := by
            intro g hg
            have : gb5 = g := Option.some.inj hg
            have := HGE5.out
            omega
          have K8 : ∀ g, (Value.slice (some ⟨gb8, 0, none⟩) j j).ownBlock = some g → w.heap.size ≤ g := by
            intro g hg
            have : gb8 = g := Option.some.inj hg
            have := HGE8.out
            omega
          have K2 : ∀ g, (Value.slice ao2 j cp2).ownBlock = some g → w.heap.size ≤ g := by
            intro g hg
            have := FW2.out g hg
            omega
          have KE : ∀ t g, ((List.replicate j nilS).getD t nilS).ownBlock = some g → w.heap.size ≤ g := by
            intro t g hg
            have e2 : (List.replicate j nilS).getD t nilS = nilS := by by_cases h : t < j <;> simp [List.getD, h]
            rw [e2] at hg
            simp [nilS, Value.ownBlock] at hg
          have HKK : RQK (fun k => w.heap.size ≤ k) _ _ _ _ _ _ := ⟨HRQ, K2, K5, K8, KE⟩
          clear K5 K8 K2 KE
          have HP : Hid (RNewOk Q j w (.returned (.tuple #[.agg #[.slice ao2 j cp2, .slice (some ⟨gb5, 0, none⟩) j j, .slice (some ⟨gb8, 0, none⟩) j j, .int .i64 0, .bool false], .int .i64 0])) _) := Lib.hid ⟨_, _, _, _, rfl, HKK, H5.2.2 _ _ HLR.out (HB1.out.trans (HBX.out.mono HB1.out.size))⟩
          clear H5 HRQ HKK HZ
          go_wp2_with fail
          try simp only [Exit.inBlock, Exit.then]
          refine bodyPost_ret (results_cell2 rfl _ _ rb 55 _ (0, 0) _ rfl HW.out Try.underlying55 rfl (by kernel_rfl)) rfl ?_
          exact HP.out
end
end Go.Proofs.Ytmdajndmobpgbaa

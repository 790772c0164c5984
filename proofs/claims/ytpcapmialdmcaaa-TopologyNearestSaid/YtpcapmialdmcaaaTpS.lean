/- topology: the document's New. Conditions: the texts can be read, each is no longer than can be. -/
import Derived.Test.YtpcapmialdmcaaaTpR
namespace Go.Proofs.Ytpcapmialdmcaaa
open Go.RowKit Go.Maps

theorem results_cell2 {P : Program} {fn : Func} {p u : Tmp} {ty : TypeId} (h : fn.results = #[.cell p ty, .tmp u]) (tmps : Array Value) (w : World) (g : Nat) (t : TypeId) (cs : Array Value) (fr : Nat × Nat) (d : TypeDesc)
    (hp : tmps.getD p undef = .pointer (some ⟨g, 0, none⟩)) (hg : w.heap[g]? = some (.cells cs t fr))
    (hu : P.underlying ty = some d) (hd : (match d with | .struct _ | .array _ _ => true | _ => false) = true) (hi : (P.info? ty).map (·.size) = some cs.size) :
    (results fn tmps).run P w = .ok (.tuple #[.agg cs, tmps.getD u undef]) w := by
  rw [results_cell_tmp h, hp]
  simp [asAddr, run_loadVar_row w g t ty cs fr d hg hu hd hi, Result.andThen]
section
variable {w w' : World} {v : Value} {l : List ByteArray}
theorem RT.src (h : RT w v l) : Src Try.prog 1 28 v l.length (strs l) w := by
  obtain ⟨ao, cap, rfl, hn, hc⟩ := h
  cases ao with
  | none =>
    have h0 : l.length = 0 := by
      rcases Nat.eq_zero_or_pos l.length with h | h
      · exact h
      · obtain ⟨b, off, e, _⟩ := hc h; cases e
    obtain rfl : l = [] := List.eq_nil_of_length_eq_zero h0
    exact Src.ofNil (size := 1) w Try.underlying28 cap
  | some a =>
    rcases Nat.eq_zero_or_pos l.length with h | h
    · obtain rfl : l = [] := List.eq_nil_of_length_eq_zero h
      exact Src.ofSlice (size := 1) w Try.underlying28 a 0 cap [] rfl (fun j u hu => by simp at hu) (fun u hu => by simp at hu)
    · obtain ⟨b, off, e, _, h3⟩ := hc h
      obtain rfl := Option.some.inj e
      refine Src.ofSlice (size := 1) w Try.underlying28 ⟨b, off, none⟩ l.length cap (strs l) (by rw [strs_len, Nat.mul_one]) (fun j u hu => ?_) (strs_one l)
      have hj : j < l.length := by have := (List.getElem?_eq_some_iff.1 hu).1; rwa [strs_len] at this
      rw [Addr.add_lit, h3 j hj, ← strs_get l j hj]
      exact hu
theorem RT.take {ao : Option Addr} {cap : Nat} (h : RT w (.slice ao l.length cap) l) {j : Nat} (hj : j ≤ l.length) : RT w (.slice ao j cap) (l.take j) := by
  obtain ⟨ao', cap', e, hn, hc⟩ := h
  simp only [Value.slice.injEq] at e
  refine ⟨ao, cap, by rw [List.length_take, Nat.min_eq_left hj], by rw [List.length_take]; omega, fun h0 => ?_⟩
  rw [List.length_take] at h0
  obtain ⟨b, off, e2, h3, h4⟩ := hc (by omega)
  refine ⟨b, off, by rw [e.1, e2], h3, fun i hi => ?_⟩
  rw [List.length_take] at hi
  rw [h4 i (by omega)]
  congr 2
  simp [List.getD, List.getElem?_take_of_lt (show i < j by omega)]
/-- What New leaves. -/
def RNewP (l : List ByteArray) (w : World) (e : Ending) (w' : World) : Prop := ∃ tao tn tc, e = .returned (.tuple #[.agg #[.slice tao tn tc, .slice none 0 0], .int .i64 (newE l)]) ∧ (newE l = 0 → RT w' (.slice tao tn tc) l ∧ ∀ k, (Value.slice tao tn tc).ownBlock = some k → w.heap.size ≤ k) ∧ Below w.heap.size w w'
set_option maxRecDepth 100000 in
set_option maxHeartbeats 9600000 in
theorem rnew_any {ao : Option Addr} {cap : Nat} (h : RT w (.slice ao l.length cap) l) (hcap : l.length ≤ cap) (hz : ∀ x ∈ l, x.size ≤ 9223372036854775807) : Calls Try.prog 27 #[.slice ao l.length cap] w (RNewP l w) := by
  have hal : Below w.heap.size w (w.alloc (.cells #[.slice none 0 0, .slice none 0 0] 31)) := (Below.refl _ _).alloc (Nat.le_refl _) _
  have hqq := heap_alloc_new w (.cells #[.slice none 0 0, .slice none 0 0] 31)
  have hn : l.length ≤ 9223372036854775807 := by obtain ⟨_, _, _, hn, _⟩ := h; exact hn
  by_cases hbig : 64 < l.length
  · have HP : Hid (RNewP l w (.returned (.tuple #[.agg #[.slice none 0 0, .slice none 0 0], .int .i64 5])) (w.alloc (.cells #[.slice none 0 0, .slice none 0 0] 31))) := Lib.hid ⟨none, 0, 0, by rw [newE_big hbig], fun h => by rw [newE_big hbig] at h; omega, hal⟩
    clear h hz
    go_enter Try.func27, Try.ntmps27
    go_wp2
    try simp only [Exit.inBlock, Exit.then]
    refine bodyPost_ret (results_cell2 rfl _ _ w.heap.size 31 _ (0, 0) _ rfl hqq Try.underlying31 rfl (by kernel_rfl)) rfl ?_
    exact HP.out
  · have hl : l.length ≤ 64 := by omega
    have H := Lib.hid h
    have HZ := Lib.hid (fun j (hj : j < l.length) => hz _ (getD_mem hj))
    clear h hz hbig
    go_enter Try.func27, Try.ntmps27
    go_wp2_with fail
    have HQQ := Lib.hid hqq
    obtain ⟨rb, hrb⟩ : ∃ rb, w.heap.size = rb := ⟨_, rfl⟩
    have hrb0 : w.heap.size ≤ rb := by omega
    rw [hrb] at HQQ ⊢
    generalize w.alloc (.cells #[.slice none 0 0, .slice none 0 0] 31) = wb at *
    clear hrb hqq
    go_loopw [11] (fun iv wr => ∃ j : Nat, j ≤ l.length ∧ iv = .int .i64 j ∧ ((∀ x ∈ l.take j, TownP x) ∧ (l.take j).Nodup) ∧ wr.heap[rb]? = some (.cells #[.slice none 0 0, .slice none 0 0] 31 (0, 0)) ∧ Below w.heap.size w wr) (fun iv _ => l.length - (intOf iv).toNat)
    case atStart => exact ⟨0, Nat.zero_le _, rfl, ⟨by simp, by simp⟩, HQQ.out, hal⟩
    case round =>
      clear hal HQQ
      obtain ⟨j, hj, rfl, hok, hrow, hb⟩ := hrel
      have HOK := Lib.hid hok
      have HROW := Lib.hid hrow
      have HB := Lib.hid hb
      clear hok hrow hb
      by_cases hlt : j < l.length
      · obtain ⟨ao', cap', e, _, hcc⟩ := H.out.below HB.out (Nat.le_refl _)
        obtain ⟨rfl, _, rfl⟩ : ao = ao' ∧ True ∧ cap = cap' := by simpa using e
        obtain ⟨b, off, rfl, _, hc⟩ := hcc (by omega)
        have c0 := hc j hlt
        have CT := Lib.hid (rtown_any (l.getD j ByteArray.empty) (HZ.out j hlt))
        have HRT := Lib.hid ((H.out.take hj).below HB.out (Nat.le_refl _))
        have CK := Lib.hid (fun (wx : World) (hbx : Below wr.heap.size wr wx) => known_any (lao := none) (ln := 0) (lc := 0) (HRT.out.belowS hbx) (l.getD j ByteArray.empty))
        have HBD := Lib.hid (fun hc => newE_bad hl (not_okN hlt hc))
        have HT := Lib.hid (take_get hlt)
        clear hc hcc e
        generalize l.getD j ByteArray.empty = s at *
        have hjI : (j : Int) ≤ (l.length : Int) := by omega
        have hjc : j ≤ cap := by omega
        go_wp2_with fail
        have hH0 : wr.drew.cell? ⟨b, off + j, none⟩ = some (.string s) := c0
        cases ht : townB s
        · rw [ht] at CT
          refine wp_region_held_drew (S := (fun w' : World => w'.cell? ⟨b, off + j, none⟩ = some (.string s))) (by kernel_rfl) (hH0) (fun hH => ?_)
          refine wpAnyH_take (i := 0) (v := ?_) rfl (by kernel_rfl) (by kernel_rfl) (by kernel_rfl) (fun _ _ _ h => h) (Or.inl ⟨by rfl, ?_⟩) hH ?_
          rotate_left
          · intro w hSw
            go_simp
            with_reducible rfl
          try simp only [List.getElem_toArray, List.getElem_cons_zero, Act.put, List.setIfInBounds_toArray, List.set_cons_zero, List.set_cons_succ]
          refine wpAnyH_take (i := 1) (v := ?_) rfl (by kernel_rfl) (by kernel_rfl) (by kernel_rfl) (fun _ _ _ h => h) (Or.inl ⟨by rfl, ?_⟩) hH ?_
          rotate_left
          · intro w hSw
            go_simp
            with_reducible rfl
          try simp only [List.getElem_toArray, List.getElem_cons_succ, List.getElem_cons_zero, Act.put, List.setIfInBounds_toArray, List.set_cons_zero, List.set_cons_succ]
          refine wpAnyH_take (i := 2) (v := ?_) rfl (by kernel_rfl) (by kernel_rfl) (by kernel_rfl) (fun _ _ _ h => h) (Or.inl ⟨by rfl, ?_⟩) hH ?_
          rotate_left
          · intro w hSw
            go_simp
            with_reducible rfl
          try simp only [List.getElem_toArray, List.getElem_cons_succ, List.getElem_cons_zero, Act.put, List.setIfInBounds_toArray, List.set_cons_zero, List.set_cons_succ]
          refine wpAnyH_take (i := 3) (v := ?_) rfl (by kernel_rfl) (by kernel_rfl) (by kernel_rfl) (fun _ _ _ h => h) (Or.inl ⟨by rfl, ?_⟩) hH ?_
          rotate_left
          · intro w hSw
            go_simp
            with_reducible rfl
          try simp only [List.getElem_toArray, List.getElem_cons_succ, List.getElem_cons_zero, Act.put, List.setIfInBounds_toArray, List.set_cons_zero, List.set_cons_succ]
          refine wpAnyH_ready (rs := [4]) (by kernel_rfl) (by simp) ?_
          refine AllReadyH.cons rfl (fun K hK => ?_) AllReadyH.nil
          go_simp
          refine (CT.out _).mono ?_
          rintro e w2 ⟨rfl, hw⟩
          obtain rfl : wr.drew = w2 := hw.symm
          go_simp
          refine hK.out _ _ hH0 (fun hH3 => ?_)
          clear hK K
          refine wpAnyH_take (i := 5) (v := ?_) rfl (by kernel_rfl) (by kernel_rfl) (by kernel_rfl) (fun _ _ _ h => h) (Or.inl ⟨by rfl, ?_⟩) hH3 ?_
          rotate_left
          · intro w hSw
            go_simp
            with_reducible rfl
          try simp only [List.getElem_toArray, List.getElem_cons_succ, List.getElem_cons_zero, Act.put, List.setIfInBounds_toArray, List.set_cons_zero, List.set_cons_succ]
          refine wpAnyH_take (i := 6) (v := ?_) rfl (by kernel_rfl) (by kernel_rfl) (by kernel_rfl) (fun _ _ _ h => h) (Or.inl ⟨by rfl, ?_⟩) hH3 ?_
          rotate_left
          · intro w hSw
            go_simp
            with_reducible rfl
          try simp only [List.getElem_toArray, List.getElem_cons_succ, List.getElem_cons_zero, Act.put, List.setIfInBounds_toArray, List.set_cons_zero, List.set_cons_succ]
          refine wpAnyH_take (i := 7) (v := undef) rfl (by kernel_rfl) (by kernel_rfl) (by kernel_rfl) (fun _ _ _ h => h) (Or.inr ⟨by rfl, rfl⟩) hH3 ?_
          try simp only [List.getElem_toArray, List.getElem_cons_succ, List.getElem_cons_zero, Act.put, List.setIfInBounds_toArray, List.set_cons_zero, List.set_cons_succ]
          refine wpAnyH_take (i := 8) (v := undef) rfl (by kernel_rfl) (by kernel_rfl) (by kernel_rfl) (fun _ _ _ h => h) (Or.inr ⟨by rfl, rfl⟩) hH3 ?_
          try simp only [List.getElem_toArray, List.getElem_cons_succ, List.getElem_cons_zero, Act.put, List.setIfInBounds_toArray, List.set_cons_zero, List.set_cons_succ]
          refine wpAnyH_take (i := 9) (v := undef) rfl (by kernel_rfl) (by kernel_rfl) (by kernel_rfl) (fun _ _ _ h => h) (Or.inr ⟨by rfl, rfl⟩) hH3 ?_
          try simp only [List.getElem_toArray, List.getElem_cons_succ, List.getElem_cons_zero, Act.put, List.setIfInBounds_toArray, List.set_cons_zero, List.set_cons_succ]
          refine wpAnyH_take (i := 10) (v := undef) rfl (by kernel_rfl) (by kernel_rfl) (by kernel_rfl) (fun _ _ _ h => h) (Or.inr ⟨by rfl, rfl⟩) hH3 ?_
          try simp only [List.getElem_toArray, List.getElem_cons_succ, List.getElem_cons_zero, Act.put, List.setIfInBounds_toArray, List.set_cons_zero, List.set_cons_succ]
          refine wpAnyH_take (i := 11) (v := undef) rfl (by kernel_rfl) (by kernel_rfl) (by kernel_rfl) (fun _ _ _ h => h) (Or.inr ⟨by rfl, rfl⟩) hH3 ?_
          try simp only [List.getElem_toArray, List.getElem_cons_succ, List.getElem_cons_zero, Act.put, List.setIfInBounds_toArray, List.set_cons_zero, List.set_cons_succ]
          refine wpAnyH_take (i := 12) (v := undef) rfl (by kernel_rfl) (by kernel_rfl) (by kernel_rfl) (fun _ _ _ h => h) (Or.inr ⟨by rfl, rfl⟩) hH3 ?_
          try simp only [List.getElem_toArray, List.getElem_cons_succ, List.getElem_cons_zero, Act.put, List.setIfInBounds_toArray, List.set_cons_zero, List.set_cons_succ]
          refine wpAnyH_take (i := 13) (v := undef) rfl (by kernel_rfl) (by kernel_rfl) (by kernel_rfl) (fun _ _ _ h => h) (Or.inr ⟨by rfl, rfl⟩) hH3 ?_
          try simp only [List.getElem_toArray, List.getElem_cons_succ, List.getElem_cons_zero, Act.put, List.setIfInBounds_toArray, List.set_cons_zero, List.set_cons_succ]
          refine wpAnyH_take (i := 14) (v := undef) rfl (by kernel_rfl) (by kernel_rfl) (by kernel_rfl) (fun _ _ _ h => h) (Or.inr ⟨by rfl, rfl⟩) hH3 ?_
          try simp only [List.getElem_toArray, List.getElem_cons_succ, List.getElem_cons_zero, Act.put, List.setIfInBounds_toArray, List.set_cons_zero, List.set_cons_succ]
          refine wpAnyH_take (i := 15) (v := undef) rfl (by kernel_rfl) (by kernel_rfl) (by kernel_rfl) (fun _ _ _ h => h) (Or.inr ⟨by rfl, rfl⟩) hH3 ?_
          try simp only [List.getElem_toArray, List.getElem_cons_succ, List.getElem_cons_zero, Act.put, List.setIfInBounds_toArray, List.set_cons_zero, List.set_cons_succ]
          refine wpAnyH_take (i := 16) (v := ?_) rfl (by kernel_rfl) (by kernel_rfl) (by kernel_rfl) (fun _ _ _ h => h) (Or.inl ⟨by rfl, ?_⟩) hH3 ?_
          rotate_left
          · intro w hSw
            go_simp
            with_reducible rfl
          try simp only [List.getElem_toArray, List.getElem_cons_succ, List.getElem_cons_zero, Act.put, List.setIfInBounds_toArray, List.set_cons_zero, List.set_cons_succ]
          refine wpAnyH_done (by kernel_rfl) ?_ _
          have hr1 : wr.drew.heap[rb]? = some (.cells #[.slice none 0 0, .slice none 0 0] 31 (0, 0)) := HROW.out
          have p0 := (has_cell hr1 0).trans (show _ = some (Value.slice none 0 0) from rfl)
          have p1 := (has_cell hr1 1).trans (show _ = some (Value.slice none 0 0) from rfl)
          have f0 := has_free hr1 0
          have f1 := has_free hr1 1
          have HRW := Lib.hid hr1
          have HP : Hid (∀ wz, Below w.heap.size w wz → RNewP l w (.returned (.tuple #[.agg #[.slice none 0 0, .slice none 0 0], .int .i64 8])) wz) := Lib.hid fun wz hbz => ⟨none, 0, 0, by rw [HBD.out (.inl ht)], fun h => by rw [HBD.out (.inl ht)] at h; omega, hbz⟩
          have HBX := Lib.hid (HB.out.trans (below_drew _ wr))
          clear hr1 ht CT CK HBD hH0 hH hH3
          generalize wr.drew = wd at *
          go_wp2_with fail
          try simp only [Exit.inBlock, Exit.then]
          have hz1 := setCell_heap_self (o := 1) (u := Value.slice none 0 0) (setCell_heap_self (o := 0) (u := Value.slice none 0 0) HRW.out)
          refine bodyPost_ret (results_cell2 rfl _ _ rb 31 _ (0, 0) _ rfl hz1 Try.underlying31 rfl (by kernel_rfl)) rfl ?_
          exact HP.out _ ((HBX.out.setCell hrb0 _).setCell hrb0 _)
        · rw [ht] at CT
          cases hh : inL s (l.take j)
          all_goals
            rw [hh] at CK
            refine wp_region_held_drew (S := (fun w' : World => w'.cell? ⟨b, off + j, none⟩ = some (.string s))) (by kernel_rfl) (hH0) (fun hH => ?_)
            refine wpAnyH_take (i := 0) (v := ?_) rfl (by kernel_rfl) (by kernel_rfl) (by kernel_rfl) (fun _ _ _ h => h) (Or.inl ⟨by rfl, ?_⟩) hH ?_
            rotate_left
            · intro w hSw
              go_simp
              with_reducible rfl
            try simp only [List.getElem_toArray, List.getElem_cons_zero, Act.put, List.setIfInBounds_toArray, List.set_cons_zero, List.set_cons_succ]
            refine wpAnyH_take (i := 1) (v := ?_) rfl (by kernel_rfl) (by kernel_rfl) (by kernel_rfl) (fun _ _ _ h => h) (Or.inl ⟨by rfl, ?_⟩) hH ?_
            rotate_left
            · intro w hSw
              go_simp
              with_reducible rfl
            try simp only [List.getElem_toArray, List.getElem_cons_succ, List.getElem_cons_zero, Act.put, List.setIfInBounds_toArray, List.set_cons_zero, List.set_cons_succ]
            refine wpAnyH_take (i := 2) (v := ?_) rfl (by kernel_rfl) (by kernel_rfl) (by kernel_rfl) (fun _ _ _ h => h) (Or.inl ⟨by rfl, ?_⟩) hH ?_
            rotate_left
            · intro w hSw
              go_simp
              with_reducible rfl
            try simp only [List.getElem_toArray, List.getElem_cons_succ, List.getElem_cons_zero, Act.put, List.setIfInBounds_toArray, List.set_cons_zero, List.set_cons_succ]
            refine wpAnyH_take (i := 3) (v := ?_) rfl (by kernel_rfl) (by kernel_rfl) (by kernel_rfl) (fun _ _ _ h => h) (Or.inl ⟨by rfl, ?_⟩) hH ?_
            rotate_left
            · intro w hSw
              go_simp
              with_reducible rfl
            try simp only [List.getElem_toArray, List.getElem_cons_succ, List.getElem_cons_zero, Act.put, List.setIfInBounds_toArray, List.set_cons_zero, List.set_cons_succ]
            refine wpAnyH_ready (rs := [4]) (by kernel_rfl) (by simp) ?_
            refine AllReadyH.cons rfl (fun K hK => ?_) AllReadyH.nil
            go_simp
            refine (CT.out _).mono ?_
            rintro e w2 ⟨rfl, hw⟩
            obtain rfl : wr.drew = w2 := hw.symm
            go_simp
            refine hK.out _ _ hH0 (fun hH3 => ?_)
            clear hK K
            refine wpAnyH_take (i := 5) (v := ?_) rfl (by kernel_rfl) (by kernel_rfl) (by kernel_rfl) (fun _ _ _ h => h) (Or.inl ⟨by rfl, ?_⟩) hH3 ?_
            rotate_left
            · intro w hSw
              go_simp
              with_reducible rfl
            try simp only [List.getElem_toArray, List.getElem_cons_succ, List.getElem_cons_zero, Act.put, List.setIfInBounds_toArray, List.set_cons_zero, List.set_cons_succ]
            refine wpAnyH_take (i := 6) (v := ?_) rfl (by kernel_rfl) (by kernel_rfl) (by kernel_rfl) (fun _ _ _ h => h) (Or.inl ⟨by rfl, ?_⟩) hH3 ?_
            rotate_left
            · intro w hSw
              go_simp
              with_reducible rfl
            try simp only [List.getElem_toArray, List.getElem_cons_succ, List.getElem_cons_zero, Act.put, List.setIfInBounds_toArray, List.set_cons_zero, List.set_cons_succ]
            refine wpAnyH_take (i := 7) (v := ?_) rfl (by kernel_rfl) (by kernel_rfl) (by kernel_rfl) (fun _ _ _ h => h) (Or.inl ⟨by rfl, ?_⟩) hH3 ?_
            rotate_left
            · intro w hSw
              go_simp
              with_reducible rfl
            try simp only [List.getElem_toArray, List.getElem_cons_succ, List.getElem_cons_zero, Act.put, List.setIfInBounds_toArray, List.set_cons_zero, List.set_cons_succ]
            refine wpAnyH_take (i := 8) (v := ?_) rfl (by kernel_rfl) (by kernel_rfl) (by kernel_rfl) (fun _ _ _ h => h) (Or.inl ⟨by rfl, ?_⟩) hH3 ?_
            rotate_left
            · intro w hSw
              go_simp
              with_reducible rfl
            try simp only [List.getElem_toArray, List.getElem_cons_succ, List.getElem_cons_zero, Act.put, List.setIfInBounds_toArray, List.set_cons_zero, List.set_cons_succ]
            refine wpAnyH_take (i := 9) (v := ?_) rfl (by kernel_rfl) (by kernel_rfl) (by kernel_rfl) (fun _ _ _ h => h) (Or.inl ⟨by rfl, ?_⟩) hH3 ?_
            rotate_left
            · intro w hSw
              go_simp
              with_reducible rfl
            try simp only [List.getElem_toArray, List.getElem_cons_succ, List.getElem_cons_zero, Act.put, List.setIfInBounds_toArray, List.set_cons_zero, List.set_cons_succ]
            refine wpAnyH_take (i := 10) (v := ?_) rfl (by kernel_rfl) (by kernel_rfl) (by kernel_rfl) (fun _ _ _ h => h) (Or.inl ⟨by rfl, ?_⟩) hH3 ?_
            rotate_left
            · intro w hSw
              go_simp
              with_reducible rfl
            try simp only [List.getElem_toArray, List.getElem_cons_succ, List.getElem_cons_zero, Act.put, List.setIfInBounds_toArray, List.set_cons_zero, List.set_cons_succ]
            refine wpAnyH_take (i := 11) (v := ?_) rfl (by kernel_rfl) (by kernel_rfl) (by kernel_rfl) (fun _ _ _ h => h) (Or.inl ⟨by rfl, ?_⟩) hH3 ?_
            rotate_left
            · intro w hSw
              go_simp
              with_reducible rfl
            try simp only [List.getElem_toArray, List.getElem_cons_succ, List.getElem_cons_zero, Act.put, List.setIfInBounds_toArray, List.set_cons_zero, List.set_cons_succ]
            refine wpAnyH_take (i := 12) (v := ?_) rfl (by kernel_rfl) (by kernel_rfl) (by kernel_rfl) (fun _ _ _ h => h) (Or.inl ⟨by rfl, ?_⟩) hH3 ?_
            rotate_left
            · intro w hSw
              go_simp
              with_reducible rfl
            try simp only [List.getElem_toArray, List.getElem_cons_succ, List.getElem_cons_zero, Act.put, List.setIfInBounds_toArray, List.set_cons_zero, List.set_cons_succ]
            refine wpAnyH_take (i := 13) (v := ?_) rfl (by kernel_rfl) (by kernel_rfl) (by kernel_rfl) (fun _ _ _ h => h) (Or.inl ⟨by rfl, ?_⟩) hH3 ?_
            rotate_left
            · intro w hSw
              go_simp
              with_reducible rfl
            try simp only [List.getElem_toArray, List.getElem_cons_succ, List.getElem_cons_zero, Act.put, List.setIfInBounds_toArray, List.set_cons_zero, List.set_cons_succ]
            refine wpAnyH_take (i := 14) (v := ?_) rfl (by kernel_rfl) (by kernel_rfl) (by kernel_rfl) (fun _ _ _ h => h) (Or.inl ⟨by rfl, ?_⟩) hH3 ?_
            rotate_left
            · intro w hSw
              go_simp
              with_reducible rfl
            try simp only [List.getElem_toArray, List.getElem_cons_succ, List.getElem_cons_zero, Act.put, List.setIfInBounds_toArray, List.set_cons_zero, List.set_cons_succ]
            refine wpAnyH_ready (rs := [15]) (by kernel_rfl) (by simp) ?_
            refine AllReadyH.cons rfl (fun K hK => ?_) AllReadyH.nil
            go_simp
            refine (CK.out _ (below_drew _ wr)).mono ?_
            rintro e w3 ⟨rfl, hb3⟩
            have HB3 := Lib.hid (HB.out.trans (((below_drew wr.heap.size wr).trans hb3).mono HB.out.size))
            have HR3 := Lib.hid (below_ats ((below_drew wr.heap.size wr).trans hb3) HROW.out)
            have hH4 : w3.cell? ⟨b, off + j, none⟩ = some (.string s) := (hb3.cell (p := ⟨b, off + j, none⟩) (World.block_lt_of_cell? _ _ hH0)).trans hH0
            go_simp
            refine hK.out _ _ hH4 (fun hH5 => ?_)
            clear hK K hb3
            refine wpAnyH_take (i := 16) (v := ?_) rfl (by kernel_rfl) (by kernel_rfl) (by kernel_rfl) (fun _ _ _ h => h) (Or.inl ⟨by rfl, ?_⟩) hH5 ?_
            rotate_left
            · intro w hSw
              go_simp
              with_reducible rfl
            try simp only [List.getElem_toArray, List.getElem_cons_succ, List.getElem_cons_zero, Act.put, List.setIfInBounds_toArray, List.set_cons_zero, List.set_cons_succ]
            refine wpAnyH_done (by kernel_rfl) ?_ _
            clear CT CK hH0 hH hH3 hH4 hH5
            skip
          · have HNX : Hid ((∀ x ∈ l.take (j + 1), TownP x) ∧ (l.take (j + 1)).Nodup) := Lib.hid (by
              rw [HT.out]
              refine ⟨fun x hx => ?_, List.nodup_append.2 ⟨HOK.out.2, by simp, fun x hx y hy e => ?_⟩⟩
              · rcases List.mem_append.1 hx with hx | hx
                · exact HOK.out.1 x hx
                · rw [List.mem_singleton] at hx; rw [hx]; exact townB_iff.1 ht
              · have hy' : y = s := by simpa using hy
                rw [← e] at hy'
                rw [hy'] at hx
                rw [inL_of hx] at hh
                cases hh)
            clear ht hh HBD HT
            go_wp2_with fail
            go_roundw
            case rel => exact ⟨j + 1, by omega, by go_num, HNX.out, HR3.out, HB3.out⟩
            case measure => simp [intOf]; omega
          · have p0 := (has_cell HR3.out 0).trans (show _ = some (Value.slice none 0 0) from rfl)
            have p1 := (has_cell HR3.out 1).trans (show _ = some (Value.slice none 0 0) from rfl)
            have f0 := has_free HR3.out 0
            have f1 := has_free HR3.out 1
            have HP : Hid (∀ wz, Below w.heap.size w wz → RNewP l w (.returned (.tuple #[.agg #[.slice none 0 0, .slice none 0 0], .int .i64 8])) wz) := Lib.hid fun wz hbz => ⟨none, 0, 0, by rw [HBD.out (.inr hh)], fun h => by rw [HBD.out (.inr hh)] at h; omega, hbz⟩
            clear ht hh HBD HT
            go_wp2_with fail
            try simp only [Exit.inBlock, Exit.then]
            have hz1 := setCell_heap_self (o := 1) (u := Value.slice none 0 0) (setCell_heap_self (o := 0) (u := Value.slice none 0 0) HR3.out)
            refine bodyPost_ret (results_cell2 rfl _ _ rb 31 _ (0, 0) _ rfl hz1 Try.underlying31 rfl (by kernel_rfl)) rfl ?_
            exact HP.out _ ((HB3.out.setCell hrb0 _).setCell hrb0 _)
      · obtain rfl : j = l.length := by omega
        have hs := ((H.out.below HB.out (Nat.le_refl _)).belowS ((Below.refl wr.heap.size wr).alloc (Nat.le_refl _) (.cells #[] 9))).src
        obtain ⟨g', off', cap', w4, hap, ho, hg, hB4⟩ := fresh_append (P := Try.prog) 28 _ _ Try.underlying28 infoStr rfl (by omega) hs (by unfold maxLen; omega) (by omega)
        have hok := HOK.out
        rw [List.take_length] at hok
        have hr4 := below_ats hB4 HROW.out
        have p0 := (has_cell hr4 0).trans (show _ = some (Value.slice none 0 0) from rfl)
        have p1 := (has_cell hr4 1).trans (show _ = some (Value.slice none 0 0) from rfl)
        have f0 := has_free hr4 0
        have f1 := has_free hr4 1
        have HRW := Lib.hid hr4
        have HB4 := Lib.hid (HB.out.trans (hB4.mono HB.out.size))
        have HP : Hid (RNewP l w (.returned (.tuple #[.agg #[.slice (some ⟨g', off', none⟩) l.length cap', .slice none 0 0], .int .i64 0])) ((w4.setCell ⟨rb, 0, none⟩ (.slice (some ⟨g', off', none⟩) l.length cap')).setCell ⟨rb, 1, none⟩ (.slice none 0 0))) := Lib.hid ⟨_, _, _, by rw [newE_ok ⟨hl, hok.1, hok.2⟩], fun _ => by
          have hI : IsT ((w4.setCell ⟨rb, 0, none⟩ (.slice (some ⟨g', off', none⟩) l.length cap')).setCell ⟨rb, 1, none⟩ (.slice none 0 0)) (.slice (some ⟨g', off', none⟩) l.length cap') l := OL.heap ho fun k hk => by
            have hne : k ≠ rb := by
              obtain ⟨cur, hc⟩ := OL.elem ho k hk
              exact type_ne hc hr4 (by decide)
            rw [Below.heap_setCell _ _ _ _ hne, Below.heap_setCell _ _ _ _ hne]
          exact ⟨hI.rt, fun k hk => by have e : g' = k := Option.some.inj hk; have h5 := HB.out.size; omega⟩, (HB4.out.setCell hrb0 _).setCell hrb0 _⟩
        have HAP := Lib.hid hap
        clear hap ho hg hB4 hs hok hr4
        go_wp2_with (refine wpList_append_run (v := .slice (some ⟨wr.heap.size, 0, none⟩) 0 0) (xv := .slice ao l.length cap) rfl (.tmp 33) (.tmp 34) _ _ rfl (by rfl) (by rfl) HAP.out ?_)
        try simp only [Exit.inBlock, Exit.then]
        have hz1 := setCell_heap_self (o := 1) (u := Value.slice none 0 0) (setCell_heap_self (o := 0) (u := Value.slice (some ⟨g', off', none⟩) l.length cap') HRW.out)
        refine bodyPost_ret (results_cell2 rfl _ _ rb 31 _ (0, 0) _ rfl hz1 Try.underlying31 rfl (by kernel_rfl)) rfl ?_
        exact HP.out
end
end Go.Proofs.Ytpcapmialdmcaaa

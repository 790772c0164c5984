/- admission: Cancel, When. Conditions: the admission lies in memory as 'AdAt' says, and is good. -/
import Derived.Test.YtmdajndmobpgbaaZAdE
namespace Go.Proofs.Ytmdajndmobpgbaa
open Go.RowKit
open Go.Proofs.Ytmdajndmobpgbaa.Fq
open Go.Proofs.Ytmdajndmobpgbaa.Bk

section
variable {w w' w1 w2 : World} {b : Nat} {m : AM} {s s' s2 : AS}
theorem grown_of_below {r : Option Nat} (h : Below w.heap.size w w1) : w.grownBy w1 r := ⟨h.os, h.tape, h.output, h.size, fun k hk _ => h.block k hk⟩
/-- The state behind a Cancel of request i of tenant t. -/
def canS (s : AS) (t i : Nat) : AS := (s.setQ t ((s.q t).eraseIdx i)).setF (FQ.setL s.f t ((s.q t).eraseIdx i))
theorem AFind.det {id : Int} {t i t' i' : Nat} (h : AFind s id (some (t, i))) (h' : AFind s id (some (t', i'))) : t = t' ∧ i = i' := by
  obtain ⟨h1, ⟨e, he, hi⟩, h2, h3⟩ := h
  obtain ⟨h1', ⟨e', he', hi'⟩, h2', h3'⟩ := h'
  have ht : t = t' := by
    rcases Nat.lt_trichotomy t t' with h | h | h
    · exact absurd hi (h3' t h e (List.mem_of_getElem? he))
    · exact h
    · exact absurd hi' (h3 t' h e' (List.mem_of_getElem? he'))
  subst ht
  refine ⟨rfl, ?_⟩
  rcases Nat.lt_trichotomy i i' with h | h | h
  · exact absurd hi (h2' i h e he)
  · exact h
  · exact absurd hi' (h2 i' h e' he')
theorem find_afind (ok : AOk s) {id : Int} {t i : Nat} (h : FindR s.f id (some (t, i))) : AFind s id (some (t, i)) := by
  obtain ⟨h1, h2, h3, h4⟩ := h
  rw [ok.lf] at h1
  have e : ∀ t', t' < s.m → s.f.lst t' = s.q t' := fun t' ht => ok.fe t' ht (by simp)
  rw [e t h1] at h2 h3
  exact ⟨h1, h2, h3, fun t' ht => by rw [← e t' (by omega)]; exact h4 t' ht⟩
def CanP (b : Nat) (m : AM) (s : AS) (id : Int) (w : World) (e : Ending) (w' : World) : Prop :=
  (e = .returned (.bool false) ∧ ¬ s.has id ∧ AUp b m w s w') ∨ (e = .returned (.bool true) ∧ ∃ t i, AFind s id (some (t, i)) ∧ AUp b m w (canS s t i) w')
theorem acancel_nil (id : Int) (w : World) : Calls Try.prog 15 #[.pointer none, .int .i64 id] w fun e w' => e = .returned (.bool false) ∧ w' = w := by
  go_enter Try.func15, Try.ntmps15
  go_wp2
  go_ret
  exact ⟨rfl, rfl⟩
set_option maxRecDepth 100000 in
set_option maxHeartbeats 1600000 in
theorem a_cancel (id : Int) (h : AdAt w b m s) (ok : AOk s) : Calls Try.prog 15 #[.pointer (some ⟨b, 0, none⟩), .int .i64 id] w (CanP b m s id w) := by
  have hm16 : s.m ≤ 16 := by rw [← ok.lf]; exact ok.g.m2
  have CF := Lib.hid (afind_any id h hm16 (fun t ht => by have := ok.len t ht; omega))
  have H := Lib.hid h
  have OK := Lib.hid ok
  clear h ok
  go_enter Try.func15, Try.ntmps15
  go_wp2_with fail
  refine CF.out.mono ?_
  rintro e w1 ⟨r, rfl, hfd, hb⟩
  clear CF
  rcases r with _ | ⟨t, i⟩
  · unfold afindV
    have HP : Hid (CanP b m s id w (.returned (.bool false)) w1) := Lib.hid (.inl ⟨rfl, afind_not hfd, H.out.up.below hb⟩)
    clear hfd hb
    go_wp2
    go_ret
    exact HP.out
  · unfold afindV
    have ht := hfd.1
    have hi : i < (s.q t).length := by
      obtain ⟨e, he, _⟩ := hfd.2.1
      exact (List.getElem?_eq_some_iff.1 he).1
    have hln := OK.out.len t ht
    have h1 := H.out.belowS hb
    have h1d := h1.belowS (below_drew _ w1)
    obtain ⟨ao, cap, hv, _⟩ := (h1.hq t ht).form
    have HS : Hid (w1.cell? ⟨b, 4, none⟩ = some (.slice (some ⟨m.bl, 0, none⟩) s.m s.m) ∧ w1.cell? ⟨m.bl, t, none⟩ = some (.slice ao (s.q t).length cap)) := Lib.hid ⟨h1.cells.2.2.2.2.1, by rw [← hv]; exact h1.cq ht⟩
    have CC := Lib.hid (aq_clone (h1d.hq t ht) (by omega))
    rw [hv] at CC
    have H1 := Lib.hid h1d
    have HB := Lib.hid (hb.trans ((below_drew w1.heap.size w1).mono hb.size))
    have HF := Lib.hid hfd
    have hlb : b < w1.heap.size := lt_of_block h1.hb
    have hll : m.bl < w1.heap.size := lt_of_block h1.hl
    have HN : Hid (∀ n, (s.q t).length = n → n = (s.q t).length) := Lib.hid (fun n h => h.symm)
    clear hfd hb h1 h1d hv
    obtain ⟨n, hn⟩ : ∃ n, (s.q t).length = n := ⟨_, rfl⟩
    have HN2 := Lib.hid hn
    rw [hn] at HS hi hln CC
    clear hn HN
    have tI : (t : Int) < (s.m : Int) := by omega
    have tI0 : (0 : Int) ≤ (t : Int) := by omega
    have iw : IntKind.i64.wrap ((i : Int) + 1) = (i : Int) + 1 := IntWalk.i64_in _ (by omega)
    go_upto_region 6 with fail
    have hH := HS.out
    refine AnyZ.start 18 (fun w' : World => w'.cell? ⟨b, 4, none⟩ = some (.slice (some ⟨m.bl, 0, none⟩) s.m s.m) ∧ w'.cell? ⟨m.bl, t, none⟩ = some (.slice ao n cap)) (by kernel_rfl) ?_
    refine AnyZ.take (i := 0) (v := ?_) rfl (by kernel_rfl) (fun _ _ _ h => h) (by rfl) hH ?_ ?_
    rotate_left
    · intro w hSw
      go_simp
      with_reducible rfl
    try simp only [List.getElem_toArray, List.getElem_cons_zero, Act.put, List.setIfInBounds_toArray, List.set_cons_zero, List.set_cons_succ]
    refine AnyZ.take (i := 1) (v := ?_) rfl (by kernel_rfl) (fun _ _ _ h => h) (by rfl) hH ?_ ?_
    rotate_left
    · intro w hSw
      go_simp
      with_reducible rfl
    try simp only [List.getElem_toArray, List.getElem_cons_succ, List.getElem_cons_zero, Act.put, List.setIfInBounds_toArray, List.set_cons_zero, List.set_cons_succ]
    refine AnyZ.take (i := 2) (v := ?_) rfl (by kernel_rfl) (fun _ _ _ h => h) (by rfl) hH ?_ ?_
    rotate_left
    · intro w hSw
      go_simp
      with_reducible rfl
    try simp only [List.getElem_toArray, List.getElem_cons_succ, List.getElem_cons_zero, Act.put, List.setIfInBounds_toArray, List.set_cons_zero, List.set_cons_succ]
    refine AnyZ.take (i := 3) (v := ?_) rfl (by kernel_rfl) (fun _ _ _ h => h) (by rfl) hH ?_ ?_
    rotate_left
    · intro w hSw
      go_simp
      with_reducible rfl
    try simp only [List.getElem_toArray, List.getElem_cons_succ, List.getElem_cons_zero, Act.put, List.setIfInBounds_toArray, List.set_cons_zero, List.set_cons_succ]
    refine AnyZ.take (i := 4) (v := ?_) rfl (by kernel_rfl) (fun _ _ _ h => h) (by rfl) hH ?_ ?_
    rotate_left
    · intro w hSw
      go_simp
      with_reducible rfl
    try simp only [List.getElem_toArray, List.getElem_cons_succ, List.getElem_cons_zero, Act.put, List.setIfInBounds_toArray, List.set_cons_zero, List.set_cons_succ]
    refine AnyZ.take (i := 5) (v := ?_) rfl (by kernel_rfl) (fun _ _ _ h => h) (by rfl) hH ?_ ?_
    rotate_left
    · intro w hSw
      go_simp
      with_reducible rfl
    try simp only [List.getElem_toArray, List.getElem_cons_succ, List.getElem_cons_zero, Act.put, List.setIfInBounds_toArray, List.set_cons_zero, List.set_cons_succ]
    refine AnyZ.take (i := 6) (v := ?_) rfl (by kernel_rfl) (fun _ _ _ h => h) (by rfl) hH ?_ ?_
    rotate_left
    · intro w hSw
      go_simp
      with_reducible rfl
    try simp only [List.getElem_toArray, List.getElem_cons_succ, List.getElem_cons_zero, Act.put, List.setIfInBounds_toArray, List.set_cons_zero, List.set_cons_succ]
    refine AnyZ.take (i := 7) (v := ?_) rfl (by kernel_rfl) (fun _ _ _ h => h) (by rfl) hH ?_ ?_
    rotate_left
    · intro w hSw
      go_simp
      with_reducible rfl
    try simp only [List.getElem_toArray, List.getElem_cons_succ, List.getElem_cons_zero, Act.put, List.setIfInBounds_toArray, List.set_cons_zero, List.set_cons_succ]
    refine AnyZ.take (i := 8) (v := ?_) rfl (by kernel_rfl) (fun _ _ _ h => h) (by rfl) hH ?_ ?_
    rotate_left
    · intro w hSw
      go_simp
      with_reducible rfl
    try simp only [List.getElem_toArray, List.getElem_cons_succ, List.getElem_cons_zero, Act.put, List.setIfInBounds_toArray, List.set_cons_zero, List.set_cons_succ]
    refine AnyZ.take (i := 9) (v := ?_) rfl (by kernel_rfl) (fun _ _ _ h => h) (by rfl) hH ?_ ?_
    rotate_left
    · intro w hSw
      go_simp
      with_reducible rfl
    try simp only [List.getElem_toArray, List.getElem_cons_succ, List.getElem_cons_zero, Act.put, List.setIfInBounds_toArray, List.set_cons_zero, List.set_cons_succ]
    refine AnyZ.take (i := 10) (v := ?_) rfl (by kernel_rfl) (fun _ _ _ h => h) (by rfl) hH ?_ ?_
    rotate_left
    · intro w hSw
      go_simp
      with_reducible rfl
    try simp only [List.getElem_toArray, List.getElem_cons_succ, List.getElem_cons_zero, Act.put, List.setIfInBounds_toArray, List.set_cons_zero, List.set_cons_succ]
    refine AnyZ.take (i := 11) (v := ?_) rfl (by kernel_rfl) (fun _ _ _ h => h) (by rfl) hH ?_ ?_
    rotate_left
    · intro w hSw
      go_simp
      with_reducible rfl
    try simp only [List.getElem_toArray, List.getElem_cons_succ, List.getElem_cons_zero, Act.put, List.setIfInBounds_toArray, List.set_cons_zero, List.set_cons_succ]
    refine AnyZ.take (i := 13) (v := ?_) rfl (by kernel_rfl) (fun _ _ _ h => h) (by rfl) hH ?_ ?_
    rotate_left
    · intro w hSw
      go_simp
      with_reducible rfl
    try simp only [List.getElem_toArray, List.getElem_cons_succ, List.getElem_cons_zero, Act.put, List.setIfInBounds_toArray, List.set_cons_zero, List.set_cons_succ]
    refine AnyZ.take (i := 14) (v := ?_) rfl (by kernel_rfl) (fun _ _ _ h => h) (by rfl) hH ?_ ?_
    rotate_left
    · intro w hSw
      go_simp
      with_reducible rfl
    try simp only [List.getElem_toArray, List.getElem_cons_succ, List.getElem_cons_zero, Act.put, List.setIfInBounds_toArray, List.set_cons_zero, List.set_cons_succ]
    refine AnyZ.take (i := 15) (v := ?_) rfl (by kernel_rfl) (fun _ _ _ h => h) (by rfl) hH ?_ ?_
    rotate_left
    · intro w hSw
      go_simp
      with_reducible rfl
    try simp only [List.getElem_toArray, List.getElem_cons_succ, List.getElem_cons_zero, Act.put, List.setIfInBounds_toArray, List.set_cons_zero, List.set_cons_succ]
    refine AnyZ.one (i := 12) rfl (by kernel_rfl) rfl (fun K hK => ?_)
    go_simp
    refine CC.out.mono ?_
    rintro e w2 ⟨v2, rfl, hq2, hown2, hb2⟩
    go_simp
    have hH2 : w2.cell? ⟨b, 4, none⟩ = some (.slice (some ⟨m.bl, 0, none⟩) s.m s.m) ∧ w2.cell? ⟨m.bl, t, none⟩ = some (.slice ao n cap) := ⟨(hb2.cell (p := ⟨b, 4, none⟩) hlb).trans HS.out.1, (hb2.cell (p := ⟨m.bl, t, none⟩) hll).trans HS.out.2⟩
    refine hK.out _ _ (.inr hH2) ?_
    clear hK K
    obtain ⟨g2, o2, c2, hv2, _, _, _⟩ := OL.form hq2 (by have := HN2.out; omega)
    subst hv2
    have hq3 : OL w2 100 2 (.slice (some ⟨g2, o2, none⟩) n c2) n (entCells (s.q t)) := by rw [← HN2.out]; exact hq2
    have CD := Lib.hid (aq_delete w2 hq3 (entCells_one _) hi ((i : Int) + 1) rfl)
    have hg2 : w1.heap.size ≤ g2 := hown2 g2 rfl
    rw [HN2.out]
    have HB2 := Lib.hid hb2
    clear hq2 hown2 hb2 hq3 CC
    refine AnyZ.one (i := 16) rfl (by kernel_rfl) rfl (fun K hK => ?_)
    go_simp
    refine CD.out.mono ?_
    rintro e w3 ⟨rfl, hq3, hg3⟩
    go_simp
    have hb3 : Below w1.drew.heap.size w1.drew w3 := HB2.out.grown hg3 HB2.out.size (fun k hk => by obtain rfl := Option.some.inj hk; exact hg2)
    have hH3 : w3.cell? ⟨b, 4, none⟩ = some (.slice (some ⟨m.bl, 0, none⟩) s.m s.m) ∧ w3.cell? ⟨m.bl, t, none⟩ = some (.slice ao n cap) := ⟨(hb3.cell (p := ⟨b, 4, none⟩) hlb).trans HS.out.1, (hb3.cell (p := ⟨m.bl, t, none⟩) hll).trans HS.out.2⟩
    have h3 := H1.out.belowS hb3
    have hfz := has_free h3.hl t
    have hi3 : IsQ w3 (.slice (some ⟨g2, o2, none⟩) (n - 1) c2) ((s.q t).eraseIdx i) := by
      have hl : ((s.q t).eraseIdx i).length = n - 1 := by rw [List.length_eraseIdx_of_lt (by rw [HN2.out]; exact hi), HN2.out]
      show OL _ _ 2 _ ((s.q t).eraseIdx i).length _
      rw [hl, entCells_erase]
      exact hq3
    have hown3 : ∀ g, (Value.slice (some ⟨g2, o2, none⟩) (n - 1) c2).ownBlock = some g → (qv m.vals t).ownBlock = some g ∨ w1.drew.heap.size ≤ g := fun g hg => .inr (by obtain rfl := Option.some.inj hg; exact hg2)
    have hrow := H1.out.row ht (grown_of_below hb3) hi3 hown3
    have hstp := H1.out.row_step ht (grown_of_below hb3) hown3
    have HR := Lib.hid (And.intro hrow hstp)
    clear hq3 hg3 hb3 h3 hi3 hown3 hrow hstp CD
    refine hK.out _ _ (.inr hH3) ?_
    clear hK K
    refine AnyZ.take (i := 17) (v := ?_) rfl (by kernel_rfl) (fun _ _ _ h => h) (by rfl) hH3 ?_ ?_
    rotate_left
    · intro w hSw
      go_simp
      with_reducible rfl
    try simp only [List.getElem_toArray, List.getElem_cons_succ, List.getElem_cons_zero, Act.put, List.setIfInBounds_toArray, List.set_cons_zero, List.set_cons_succ]
    refine AnyZ.one (i := 18) rfl (by kernel_rfl) rfl (fun K hK => ?_)
    go_simp
    refine hK.out _ _ (.inl rfl) ?_
    clear hK K
    refine AnyZ.done (by kernel_rfl) ?_ _
    obtain ⟨hrow, hstp⟩ := HR.out
    have hS4 := Lib.hid ((AStep.of_below HB.out).trans hstp)
    have c3 := hrow.cells.2.2.2.1
    have CX := Lib.hid (cancel_any id _ hrow.hf (by rw [show ((s.setQ t ((s.q t).eraseIdx i)).f).m = s.f.m from rfl, OK.out.lf]; exact hm16) (fun t' ht' => by
      have ht' : t' < s.f.m := ht'
      rw [OK.out.lf] at ht'
      have e : (s.setQ t ((s.q t).eraseIdx i)).f.lst t' = s.q t' := OK.out.fe t' ht' (by simp)
      rw [e]
      have := OK.out.len t' ht'
      omega))
    have HRW := Lib.hid hrow
    clear hrow hstp HR hH hH2 hH3 hfz
    generalize w3.setCell ⟨m.bl, t, none⟩ (.slice (some ⟨g2, o2, none⟩) (n - 1) c2) = w4 at *
    have c3' : w4.cell? ⟨b, 3, none⟩ = some (.pointer (some ⟨m.bf, 0, none⟩)) := c3
    clear c3
    go_wp2_with fail
    refine CX.out.mono ?_
    rintro e w5 (⟨rfl, hno, hb5⟩ | ⟨rfl, t', i', hf', hu⟩)
    · exact absurd ((fq_has OK.out id).2 (afind_has HF.out)) hno
    · obtain ⟨rfl, rfl⟩ := (find_afind OK.out hf').det HF.out
      have e0 : (s.setQ t' ((s.q t').eraseIdx i')).f.lst t' = s.q t' := OK.out.fe t' ht (by simp)
      rw [e0] at hu
      obtain ⟨fv, h5, hs5⟩ := HRW.out.upd (setL_m _ _ _) hu
      have HP : Hid (CanP b m s id w (.returned (.bool true)) w5) := Lib.hid (.inr ⟨rfl, t', i', HF.out, _, h5, hS4.out.trans hs5⟩)
      clear hu h5 hs5 e0 hf'
      go_wp2
      go_ret
      exact HP.out
end
def wPick (T : Int) : Option Int → Option Int
  | none => some T
  | some x => if T < x then some T else some x
/-- When: the best of the first k tenants. -/
def wStep (s : AS) (now : Int) (t : Nat) (acc : Option Int) : Option Int :=
  if s.q t = [] then acc else if whenE (s.shr t).b (s.shr t).t (s.shr t).k (s.bkt t).1 (s.bkt t).2 now (priceOf s t) = 0 then wPick (whenT (s.shr t).b (s.shr t).t (s.shr t).k (s.bkt t).1 (s.bkt t).2 now (priceOf s t)) acc else acc
def wBest (s : AS) (now : Int) : Nat → Option Int
  | 0 => none
  | k + 1 => wStep s now k (wBest s now k)
def whenVO : Option Int → Value
  | none => .tuple #[.int .i64 0, errV 3]
  | some x => .tuple #[.int .i64 x, errV 0]
def whenV (s : AS) (now : Int) : Value := whenVO (wBest s now s.m)
end Go.Proofs.Ytmdajndmobpgbaa

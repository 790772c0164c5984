/- admission: append of one element; Submit. Conditions: the admission lies in memory as 'AdAt' says, and is good. -/
import Derived.Test.YtmdajndmobpgbaaZAdC
import Derived.Test.YtmdajndmobpgbaaZHeld
namespace Go.Proofs.Ytmdajndmobpgbaa
open Go.RowKit
open Go.Proofs.Ytmdajndmobpgbaa.Fq
open Go.Proofs.Ytmdajndmobpgbaa.Bk

/-- append(v, x) of one element that lies in a new block. -/
theorem one_append {w : World} {e : TypeId} {size : Nat} {v : Value} {n : Nat} {xs : List Value} (h : OL w e size v n xs) (t : TypeId) (z : Value) (bytes : Nat) (ht : Try.prog.underlying t = some (.slice e)) (hinfo : (Try.prog.info? e).map (fun i => (i.zero, i.size, i.bytes)) = some (some z, size, bytes))
    (hzs : z.cells.size = size) (hsz : 0 < size) (cs : List Value) (hcs : cs.length = size) (h1 : ∀ u ∈ cs, u.oneCell' = true) (hn : n ≤ 1000000) (hby : bytes ≤ 64) :
    ∃ ao cap w', (Builtin.append_ #[t, t] t #[v, .slice (some ⟨w.heap.size, 0, none⟩) 1 1]).run Try.prog (w.alloc (.cells cs.toArray e)) = .ok (.slice ao (n + 1) cap) w' ∧ OL w' e size (.slice ao (n + 1) cap) (n + 1) (xs ++ cs) ∧ w.grownBy w' v.ownBlock ∧
      (∀ g, (Value.slice ao (n + 1) cap).ownBlock = some g → v.ownBlock = some g ∨ w.heap.size ≤ g) := by
  obtain ⟨ti, hi, iz, is, ib⟩ := info_parts hinfo
  have hb0 : (w.alloc (.cells cs.toArray e)).heap[w.heap.size]? = some (.cells cs.toArray e (0, 0)) := heap_alloc_new w _
  have hsrc : Src Try.prog size t (.slice (some ⟨w.heap.size, 0, none⟩) 1 1) 1 cs (w.alloc (.cells cs.toArray e)) :=
    Src.ofSlice (size := size) _ ht ⟨w.heap.size, 0, none⟩ 1 1 _ (by omega) (fun j u hu => by
      rw [Addr.add_lit]
      show (w.alloc _).cell? ⟨w.heap.size, 0 + j, none⟩ = _
      rw [has_cell hb0, Nat.zero_add, List.getElem?_toArray]
      exact hu) h1
  have hB : (n + 1) * bytes ≤ 140737488355328 := by
    have := Nat.mul_le_mul (show n + 1 ≤ 1000001 by omega) hby
    omega
  obtain ⟨v', w2, hap, ho2, hg2, hown⟩ := (OL.alloc h (.cells cs.toArray e)).append (P := Try.prog) t t t ti _ bytes ht hi iz is ib hzs hsz hsrc (by unfold maxLen; omega) hB
  obtain ⟨g', off', cap', rfl, _, _, _⟩ := ho2.form (by omega)
  refine ⟨_, cap', w2, hap, ho2, grownBy_trans (grownBy_alloc (grownBy_refl w _) _) hg2, fun g hg => ?_⟩
  rcases hown with e | e
  · exact .inl (e ▸ hg)
  · rw [e] at hg
    exact .inr (by have := Option.some.inj hg; simp at this; omega)
theorem req_append {w : World} {v : Value} {l : List Ent} (h : IsQ w v l) (hl : l.length ≤ 1000000) (x : Ent) :
    ∃ ao cap w', (Builtin.append_ #[98, 98] 98 #[v, .slice (some ⟨w.heap.size, 0, none⟩) 1 1]).run Try.prog (w.alloc (.cells #[.int .i64 x.1, .int .i64 x.2] 100)) = .ok (.slice ao (l.length + 1) cap) w' ∧ IsQ w' (.slice ao (l.length + 1) cap) (l ++ [x]) ∧ w.grownBy w' v.ownBlock ∧
      (∀ g, (Value.slice ao (l.length + 1) cap).ownBlock = some g → v.ownBlock = some g ∨ w.heap.size ≤ g) := by
  obtain ⟨ao, cap, w', h1, h2, h3, h4⟩ := one_append h 98 _ 16 Try.underlying98 infoR rfl (by omega) (entCells [x]) (by simp [entCells]) (entCells_one _) hl (by omega)
  refine ⟨ao, cap, w', h1, ?_, h3, h4⟩
  show OL w' _ 2 _ (l ++ [x]).length (entCells (l ++ [x]))
  rw [entCells_append, List.length_append]
  exact h2
theorem int_append {w : World} {v : Value} {l : List Int} (h : IsI w v l) (hl : l.length ≤ 1000000) (x : Int) :
    ∃ ao cap w', (Builtin.append_ #[37, 37] 37 #[v, .slice (some ⟨w.heap.size, 0, none⟩) 1 1]).run Try.prog (w.alloc (.cells #[.int .i64 x] 3)) = .ok (.slice ao (l.length + 1) cap) w' ∧ IsI w' (.slice ao (l.length + 1) cap) (l ++ [x]) ∧ w.grownBy w' v.ownBlock ∧
      (∀ g, (Value.slice ao (l.length + 1) cap).ownBlock = some g → v.ownBlock = some g ∨ w.heap.size ≤ g) := by
  obtain ⟨ao, cap, w', h1, h2, h3, h4⟩ := one_append h 37 _ 8 Try.underlying37 infoI rfl (by omega) (ints [x]) rfl (ints_oneA _) hl (by omega)
  refine ⟨ao, cap, w', h1, ?_, h3, h4⟩
  show OL w' _ 1 _ (l ++ [x]).length (ints (l ++ [x]))
  rw [List.length_append]
  unfold ints at h2 ⊢
  rw [List.map_append]
  exact h2
section
variable {w w' w1 w2 : World} {b : Nat} {m : AM} {s s' s2 : AS}
open Classical in
/-- What Submit answers. -/
noncomputable def subE (s : AS) (t id c : Int) : Int := if ¬ (0 ≤ t ∧ t < s.m) then 8 else if c < 1 ∨ 1048576 < c then 1 else if s.has id ∨ id ∈ s.run then 4 else if 256 ≤ (s.q t.toNat).length then 10 else 0
noncomputable def subS (s : AS) (t id c : Int) : AS := if subE s t id c = 0 then (s.setF (FQ.setL s.f t.toNat (s.q t.toNat ++ [(id, c)]))).setQ t.toNat (s.q t.toNat ++ [(id, c)]) else s
theorem afind_has {id : Int} {t i : Nat} (h : AFind s id (some (t, i))) : s.has id := by
  obtain ⟨ht, ⟨e, he, hi⟩, _⟩ := h
  exact ⟨t, ht, e, List.mem_of_getElem? he, hi⟩
theorem afind_not {id : Int} (h : AFind s id none) : ¬ s.has id := fun ⟨t, ht, e, he, hi⟩ => h t ht e he hi
theorem fq_has (ok : AOk s) (id : Int) : hasId s.f id ↔ s.has id := by
  constructor
  · rintro ⟨t, ht, e, he, hi⟩
    rw [ok.lf] at ht
    exact ⟨t, ht, e, by rw [← ok.fe t ht (by simp)]; exact he, hi⟩
  · rintro ⟨t, ht, e, he, hi⟩
    exact ⟨t, by rw [ok.lf]; exact ht, e, by rw [ok.fe t ht (by simp)]; exact he, hi⟩
def SubP (b : Nat) (m : AM) (s : AS) (t id c : Int) (w : World) (e : Ending) (w' : World) : Prop := e = .returned (errV (subE s t id c)) ∧ AUp b m w (subS s t id c) w'
theorem sub_bad {t id c k : Int} (h : AdAt w b m s) (hk : k ≠ 0) (he : subE s t id c = k) (hb : Below w.heap.size w w') : SubP b m s t id c w (.returned (.iface 33 (.int .i64 k))) w' := by
  refine ⟨by rw [he, errV_pos hk], ?_⟩
  unfold subS
  rw [if_neg (by rw [he]; exact hk)]
  exact h.up.below hb
set_option maxRecDepth 100000 in
set_option maxHeartbeats 1600000 in
theorem submit_ok (now : Int) (tn : Nat) (id c : Int) (h : AdAt w b m s) (ok : AOk s) (ht : tn < s.m) (hc1 : 1 ≤ c) (hc2 : c ≤ 1048576) (hh : ¬ s.has id) (hr : id ∉ s.run) (hf : (s.q tn).length < 256) :
    Calls Try.prog 12 #[.pointer (some ⟨b, 0, none⟩), .int .i64 now, .int .i64 tn, .int .i64 id, .int .i64 c] w (SubP b m s tn id c w) := by
  have hm16 : s.m ≤ 16 := by rw [← ok.lf]; exact ok.g.m2
  have hE : subE s tn id c = 0 := by
    unfold subE
    rw [if_neg (by omega), if_neg (by omega), if_neg (by rintro (h | h); exact hh h; exact hr h), Int.toNat_natCast, if_neg (by omega)]
  have HP : Hid (∀ w', AUp b m w ((s.setF (FQ.setL s.f tn (s.q tn ++ [(id, c)]))).setQ tn (s.q tn ++ [(id, c)])) w' → SubP b m s tn id c w (.returned .nilIface) w') := Lib.hid (fun w' hu => ⟨by rw [hE]; rfl, by unfold subS; rw [if_pos hE, Int.toNat_natCast]; exact hu⟩)
  have CF := Lib.hid (afind_any id h hm16 (fun t ht => by have := ok.len t ht; omega))
  have CR : Hid (∀ w1, Below w.heap.size w w1 → Calls Try.prog 35 #[m.vr, .int .i64 id] w1 fun e w' => e = .returned (.bool false) ∧ w' = w1) := Lib.hid (fun w1 hb => by
    have := ai_contains (h.belowS hb).hr id (by have := ok.rl; have := ok.s1; omega)
    rw [decide_eq_false hr] at this
    exact this)
  have CP : Hid (∀ w1, Below w.heap.size w w1 → Calls Try.prog 36 #[.pointer (some ⟨m.bf, 0, none⟩), .int .i64 tn, .int .i64 id, .int .i64 c] w1 (PutOk m.bf m.fbq m.fcq m.fbd m.fcd m.fxt m.fbl m.fvals (FQ.setL s.f tn (s.q tn ++ [(id, c)])) w1)) := Lib.hid (fun w1 hb => by
    have := put_ok tn id c w1 (h.belowS hb).hf (by rw [ok.lf]; exact hm16) (fun t ht => by rw [ok.lf] at ht; rw [ok.fe t ht (by simp)]; have := ok.len t ht; omega) (by rw [ok.lf]; exact ht) hc1 hc2 (fun hx => hh ((fq_has ok id).1 hx)) (by rw [ok.fe tn ht (by simp)]; exact hf)
    rw [ok.fe tn ht (by simp)] at this
    exact this)
  have HH := Lib.hid hh
  have H := Lib.hid h
  obtain ⟨_, _, _, _, c4, _⟩ := h.cells
  have tI : (tn : Int) < (s.m : Int) := by omega
  have tI0 : (0 : Int) ≤ (tn : Int) := by omega
  have HL := Lib.hid hf
  obtain ⟨rao, rcap, hvr, _⟩ := h.hr.form
  have HVR := Lib.hid hvr
  clear h hh hr hE hf hvr ok
  go_enter Try.func12, Try.ntmps12
  go_wp2_with fail
  refine CF.out.mono ?_
  rintro e w1 ⟨r, rfl, hfd, hb⟩
  rcases r with _ | ⟨t', i'⟩
  · unfold afindV
    have h1 := H.out.belowS hb
    have c5 := h1.cells.2.2.2.2.2
    have c3 := h1.cells.2.2.2.1
    have CR2 := Lib.hid (CR.out w1 hb)
    rw [HVR.out] at c5 CR2
    have HB := Lib.hid hb
    clear hfd hb h1 CF c4 CR
    go_wp2_with fail
    refine CR2.out.mono ?_
    rintro e w1' ⟨rfl, hw⟩
    obtain rfl : w1 = w1' := hw.symm
    clear CR2
    go_wp2_with fail
    refine (CP.out w1 HB.out).mono ?_
    rintro e w2 ⟨rfl, hu⟩
    have h1 := H.out.belowS HB.out
    obtain ⟨fv, h2, hs2⟩ := h1.upd (setL_m _ _ _) hu
    have h2d := h2.belowS (below_drew _ w2)
    have cr : w2.cell? ⟨m.bl, tn, none⟩ = some (qv m.vals tn) := h2.cq ht
    have c4 : w2.cell? ⟨b, 4, none⟩ = some (.slice (some ⟨m.bl, 0, none⟩) s.m s.m) := h2.cells.2.2.2.2.1
    obtain ⟨ao, cap, hv, _⟩ := (h2d.hq tn ht).form
    have hv : qv m.vals tn = .slice ao (s.q tn).length cap := hv
    obtain ⟨ao', cap', w3, hap, hQ3, hg3, hown3⟩ : ∃ ao' cap' w3, (Builtin.append_ #[98, 98] 98 #[qv m.vals tn, .slice (some ⟨w2.drew.heap.size, 0, none⟩) 1 1]).run Try.prog (w2.drew.alloc (.cells #[.int .i64 id, .int .i64 c] 100)) = .ok (.slice ao' ((s.q tn).length + 1) cap') w3 ∧ IsQ w3 (.slice ao' ((s.q tn).length + 1) cap') (s.q tn ++ [(id, c)]) ∧ w2.drew.grownBy w3 (qv m.vals tn).ownBlock ∧ (∀ g, (Value.slice ao' ((s.q tn).length + 1) cap').ownBlock = some g → (qv m.vals tn).ownBlock = some g ∨ w2.drew.heap.size ≤ g) := req_append (w := w2.drew) (h2d.hq tn ht) (by show (s.q tn).length ≤ _; have := HL.out; omega) (id, c)
    have U := Lib.hid (HP.out (w3.setCell ⟨m.bl, tn, none⟩ (.slice ao' ((s.q tn).length + 1) cap')) ⟨_, h2d.row ht hg3 hQ3 hown3, (AStep.of_below HB.out).trans ((hs2.below (below_drew _ w2)).trans (h2d.row_step ht hg3 hown3))⟩)
    have hS3 : w3.cell? ⟨b, 4, none⟩ = some (.slice (some ⟨m.bl, 0, none⟩) s.m s.m) ∧ w3.cell? ⟨m.bl, tn, none⟩ = some (qv m.vals tn) ∧ w3.frozen? ⟨m.bl, tn, none⟩ = false := by
      have e1 := hg3.block b (lt_of_block h2d.hb) (fun e => by obtain ⟨cs, hc⟩ := h2d.typ.2.2.2.1 tn b e.symm; exact type_ne h2d.hb hc (by decide) rfl)
      have e2 := hg3.block m.bl (lt_of_block h2d.hl) (fun e => by obtain ⟨cs, hc⟩ := h2d.typ.2.2.2.1 tn m.bl e.symm; exact type_ne h2d.hl hc (by decide) rfl)
      exact ⟨has_cell (e1.trans h2d.hb) 4, (World.cell?_of_block (a := ⟨m.bl, tn, none⟩) e2).trans (h2d.cq ht), has_free (e2.trans h2d.hl) tn⟩
    rw [hv] at cr hap hS3
    have HS2 : Hid (w2.cell? ⟨b, 4, none⟩ = some (.slice (some ⟨m.bl, 0, none⟩) s.m s.m) ∧ w2.cell? ⟨m.bl, tn, none⟩ = some (.slice ao (s.q tn).length cap)) := Lib.hid ⟨c4, cr⟩
    have HS3 := Lib.hid hS3
    have HBL := Lib.hid (And.intro (lt_of_block h2d.hb) (lt_of_block h2d.hl))
    have HAP : Hid ((Builtin.append_ #[98, 98] 98 #[.slice ao (s.q tn).length cap, .slice (some ⟨w2.heap.size, 0, none⟩) 1 1]).run Try.prog (w2.drew.alloc (.cells #[.int .i64 id, .int .i64 c] 100)) = .ok (.slice ao' ((s.q tn).length + 1) cap') w3) := Lib.hid hap
    clear h1 hu h2 hs2 h2d hv hQ3 hg3 hown3 hS3 hap HP CP HL
    generalize (s.q tn).length = nl at *
    obtain ⟨mm, hmm⟩ : ∃ mm, s.m = mm := ⟨_, rfl⟩
    rw [hmm] at HS2 HS3 tI ht c4
    go_wp2_with fail
    have hH := HS2.out
    clear c4 cr
    refine AnyZ.start 18 (fun w' : World => w'.cell? ⟨b, 4, none⟩ = some (.slice (some ⟨m.bl, 0, none⟩) mm mm) ∧ w'.cell? ⟨m.bl, tn, none⟩ = some (.slice ao nl cap)) (by kernel_rfl) ?_
    refine AnyZ.take (i := 0) (v := ?_) rfl (by kernel_rfl) (fun _ _ _ h => h) (by rfl) hH ?_ ?_
    rotate_left
    · intro w hSw
      go_simp
      with_reducible rfl
    try simp only [List.getElem_toArray, List.getElem_cons_zero, Act.put, List.setIfInBounds_toArray, List.set_cons_zero, List.set_cons_succ]
    refine AnyZ.take (i := 1) (v := ?_) rfl (by kernel_rfl) (fun _ _ _ h => h) (by rfl) hH ?_ ?_
    rotate_left
    · intro w hSw
      go_simp
      with_reducible rfl
    try simp only [List.getElem_toArray, List.getElem_cons_succ, List.getElem_cons_zero, Act.put, List.setIfInBounds_toArray, List.set_cons_zero, List.set_cons_succ]
    refine AnyZ.take (i := 2) (v := ?_) rfl (by kernel_rfl) (fun _ _ _ h => h) (by rfl) hH ?_ ?_
    rotate_left
    · intro w hSw
      go_simp
      with_reducible rfl
    try simp only [List.getElem_toArray, List.getElem_cons_succ, List.getElem_cons_zero, Act.put, List.setIfInBounds_toArray, List.set_cons_zero, List.set_cons_succ]
    refine AnyZ.take (i := 3) (v := ?_) rfl (by kernel_rfl) (fun _ _ _ h => h) (by rfl) hH ?_ ?_
    rotate_left
    · intro w hSw
      go_simp
      with_reducible rfl
    try simp only [List.getElem_toArray, List.getElem_cons_succ, List.getElem_cons_zero, Act.put, List.setIfInBounds_toArray, List.set_cons_zero, List.set_cons_succ]
    refine AnyZ.take (i := 4) (v := ?_) rfl (by kernel_rfl) (fun _ _ _ h => h) (by rfl) hH ?_ ?_
    rotate_left
    · intro w hSw
      go_simp
      with_reducible rfl
    try simp only [List.getElem_toArray, List.getElem_cons_succ, List.getElem_cons_zero, Act.put, List.setIfInBounds_toArray, List.set_cons_zero, List.set_cons_succ]
    refine AnyZ.take (i := 5) (v := ?_) rfl (by kernel_rfl) (fun _ _ _ h => h) (by rfl) hH ?_ ?_
    rotate_left
    · intro w hSw
      go_simp
      with_reducible rfl
    try simp only [List.getElem_toArray, List.getElem_cons_succ, List.getElem_cons_zero, Act.put, List.setIfInBounds_toArray, List.set_cons_zero, List.set_cons_succ]
    refine AnyZ.take (i := 6) (v := ?_) rfl (by kernel_rfl) (fun _ _ _ h => h) (by rfl) hH ?_ ?_
    rotate_left
    · intro w hSw
      go_simp
      with_reducible rfl
    try simp only [List.getElem_toArray, List.getElem_cons_succ, List.getElem_cons_zero, Act.put, List.setIfInBounds_toArray, List.set_cons_zero, List.set_cons_succ]
    refine AnyZ.take (i := 7) (v := ?_) rfl (by kernel_rfl) (fun _ _ _ h => h) (by rfl) hH ?_ ?_
    rotate_left
    · intro w hSw
      go_simp
      with_reducible rfl
    try simp only [List.getElem_toArray, List.getElem_cons_succ, List.getElem_cons_zero, Act.put, List.setIfInBounds_toArray, List.set_cons_zero, List.set_cons_succ]
    refine AnyZ.take (i := 8) (v := ?_) rfl (by kernel_rfl) (fun _ _ _ h => h) (by rfl) hH ?_ ?_
    rotate_left
    · intro w hSw
      go_simp
      with_reducible rfl
    try simp only [List.getElem_toArray, List.getElem_cons_succ, List.getElem_cons_zero, Act.put, List.setIfInBounds_toArray, List.set_cons_zero, List.set_cons_succ]
    refine AnyZ.take (i := 9) (v := ?_) rfl (by kernel_rfl) (fun _ _ _ h => h) (by rfl) hH ?_ ?_
    rotate_left
    · intro w hSw
      go_simp
      with_reducible rfl
    try simp only [List.getElem_toArray, List.getElem_cons_succ, List.getElem_cons_zero, Act.put, List.setIfInBounds_toArray, List.set_cons_zero, List.set_cons_succ]
    refine AnyZ.take (i := 10) (v := ?_) rfl (by kernel_rfl) (fun _ _ _ h => h) (by rfl) hH ?_ ?_
    rotate_left
    · intro w hSw
      go_simp
      with_reducible rfl
    try simp only [List.getElem_toArray, List.getElem_cons_succ, List.getElem_cons_zero, Act.put, List.setIfInBounds_toArray, List.set_cons_zero, List.set_cons_succ]
    refine AnyZ.take (i := 11) (v := ?_) rfl (by kernel_rfl) (fun _ _ _ h => h) (by rfl) hH ?_ ?_
    rotate_left
    · intro w hSw
      go_simp
      with_reducible rfl
    try simp only [List.getElem_toArray, List.getElem_cons_succ, List.getElem_cons_zero, Act.put, List.setIfInBounds_toArray, List.set_cons_zero, List.set_cons_succ]
    refine AnyZ.take (i := 12) (v := ?_) rfl (by kernel_rfl) (fun _ _ _ h => h) (by rfl) hH ?_ ?_
    rotate_left
    · intro w hSw
      go_simp
      with_reducible rfl
    try simp only [List.getElem_toArray, List.getElem_cons_succ, List.getElem_cons_zero, Act.put, List.setIfInBounds_toArray, List.set_cons_zero, List.set_cons_succ]
    refine AnyZ.take (i := 13) (v := ?_) rfl (by kernel_rfl) (fun _ _ _ h => h) (by rfl) hH ?_ ?_
    rotate_left
    · intro w hSw
      go_simp
      with_reducible rfl
    try simp only [List.getElem_toArray, List.getElem_cons_succ, List.getElem_cons_zero, Act.put, List.setIfInBounds_toArray, List.set_cons_zero, List.set_cons_succ]
    refine AnyZ.take (i := 14) (v := ?_) rfl (by kernel_rfl) (fun _ _ _ h => h) (by rfl) hH ?_ ?_
    rotate_left
    · intro w hSw
      go_simp
      with_reducible rfl
    try simp only [List.getElem_toArray, List.getElem_cons_succ, List.getElem_cons_zero, Act.put, List.setIfInBounds_toArray, List.set_cons_zero, List.set_cons_succ]
    refine AnyZ.one (i := 15) rfl (by kernel_rfl) rfl (fun K hK => ?_)
    go_simp
    have hH2 : (w2.drew.alloc (.cells #[.int .i64 id, .int .i64 c] 100)).cell? ⟨b, 4, none⟩ = some (.slice (some ⟨m.bl, 0, none⟩) mm mm) ∧ (w2.drew.alloc (.cells #[.int .i64 id, .int .i64 c] 100)).cell? ⟨m.bl, tn, none⟩ = some (.slice ao nl cap) := ⟨(World.cell?_of_block (a := ⟨b, 4, none⟩) (Below.heap_alloc _ _ _ HBL.out.1)).trans hH.1, (World.cell?_of_block (a := ⟨m.bl, tn, none⟩) (Below.heap_alloc _ _ _ HBL.out.2)).trans hH.2⟩
    refine hK.out _ _ (.inr hH2) ?_
    clear hK K
    refine AnyZ.one (i := 16) rfl (by kernel_rfl) rfl (fun K hK => ?_)
    refine wp_append_run (v := .slice ao nl cap) (xv := .slice (some ⟨w2.heap.size, 0, none⟩) 1 1) (.tmp 78) (.tmp 82) 98 98 rfl (by rfl) (by rfl) HAP.out ?_
    have hH3 := And.intro HS3.out.1 HS3.out.2.1
    have hfz := HS3.out.2.2
    refine hK.out _ _ (.inr hH3) ?_
    clear hK K
    refine AnyZ.take (i := 17) (v := ?_) rfl (by kernel_rfl) (fun _ _ _ h => h) (by rfl) hH3 ?_ ?_
    rotate_left
    · intro w hSw
      go_simp
      with_reducible rfl
    try simp only [List.getElem_toArray, List.getElem_cons_succ, List.getElem_cons_zero, Act.put, List.setIfInBounds_toArray, List.set_cons_zero, List.set_cons_succ]
    refine AnyZ.one (i := 18) rfl (by kernel_rfl) rfl (fun K hK => ?_)
    go_simp
    refine hK.out _ _ (.inl rfl) ?_
    clear hK K
    refine AnyZ.done (by kernel_rfl) ?_ _
    go_wp2_with fail
    go_ret
    exact U.out
  · exact absurd (afind_has hfd) HH.out
end
end Go.Proofs.Ytmdajndmobpgbaa

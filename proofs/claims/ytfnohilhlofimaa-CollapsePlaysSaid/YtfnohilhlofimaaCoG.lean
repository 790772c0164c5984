/- collapse: Leave. Conditions: the table's ids and lists fit one another, keys are short, ids are ints, lists are short. -/
import Derived.Test.YtfnohilhlofimaaCoE
namespace Go.Proofs.Ytfnohilhlofimaa
open Go.RowKit

section
variable {w w1 w2 w' wr : World} {b : Nat} {s s' : Tb} {a : TA} {P : Nat → Prop} {k : ByteArray} {n x y : Int} {r : List Int}
theorem t_leave_none (h : TIs w P b s) (hn : IsK Try.prog 3 (.int .i64 n)) (h0 : s.I n = none) : Calls Try.prog 23 #[.pointer (some ⟨b, 0, none⟩), .int .i64 n] w (TPost P b (.tuple #[.int .i64 0, .bool false, errV 3]) s w) := by
  have HU := Lib.hid h.up
  obtain ⟨a, h, _⟩ := h
  have c1 := has_cell h.c 1
  have hlk := h.lookI hn
  rw [h0] at hlk
  clear h h0 hn
  go_enter Try.func23, Try.ntmps23
  go_wp2
  go_ret3
  exact ⟨rfl, HU.out⟩
theorem t_leave_lead (h : TIs w P b s) (hn : IsK Try.prog 3 (.int .i64 n)) (h0 : s.I n = some k) (hk : k.size ≤ maxLen) (hl : s.L k = n :: r) (hb : ∀ x ∈ s.L k, IsK Try.prog 3 (.int .i64 x)) :
    Calls Try.prog 23 #[.pointer (some ⟨b, 0, none⟩), .int .i64 n] w (TPost P b (.tuple #[.int .i64 (failN s k), .bool (failOk s k), errV (failE s k)]) (FailS s k) w) := by
  have HF := Lib.hid (t_fail h hk hb)
  obtain ⟨a, h, _⟩ := h
  have c0 := has_cell h.c 0
  have c1 := has_cell h.c 1
  have hlk := h.lookI hn
  have hlk0 := h.lookK (kStr hk)
  rw [h0] at hlk
  have ho := h.slOL k
  obtain ⟨ao, cp, hsl, hao, hle, hcm⟩ := h.slForm k
  obtain ⟨g, off, rfl⟩ := hao (by rw [hl]; simp)
  rw [hsl] at hlk0 ho
  have a0 := (show IsI w (.slice (some ⟨g, off, none⟩) (s.L k).length cp) (s.L k) from ho).at_ rfl (q := 0) (by rw [hl]; simp)
  rw [Nat.add_zero, hl] at a0
  have a0 : w.cell? ⟨g, off, none⟩ = some (.int .i64 n) := a0
  have hN : 1 ≤ (s.L k).length := by rw [hl]; simp
  generalize (s.L k).length = N at *
  have d0 : (0 : Int) < N := by omega
  have d1 : 0 < N := by omega
  have d2 : (n == n) = true := by simp
  clear ho hsl hl hb hk h h0 hn hao
  generalize hFN : failN s k = fn at *
  generalize hFO : failOk s k = fo at *
  generalize hFE : errV (failE s k) = fe at *
  generalize hFS : FailS s k = fs at *
  clear hFN hFO hFE hFS
  go_enter Try.func23, Try.ntmps23
  go_wp2_with fail
  refine HF.out.mono ?_
  rintro e wx ⟨rfl, hu⟩
  have HU := Lib.hid hu
  clear hu
  go_wp2
  go_ret3
  exact ⟨rfl, HU.out⟩
set_option maxRecDepth 100000 in
set_option maxHeartbeats 1600000 in
theorem t_leave_wait {i : Nat} (h : TIs w P b s) (hn : IsK Try.prog 3 (.int .i64 n)) (h0 : s.I n = some k) (hk : k.size ≤ maxLen) (hi : i < (s.L k).length) (hi0 : i ≠ 0) (hv : (s.L k).getD i 0 = n) (hf : ∀ j, j < i → (s.L k).getD j 0 ≠ n) (hlen : (s.L k).length ≤ 1000000) :
    Calls Try.prog 23 #[.pointer (some ⟨b, 0, none⟩), .int .i64 n] w (TPost P b (.tuple #[.int .i64 0, .bool false, errV 0]) { s with I := upd s.I n none, L := upd s.L k ((s.L k).take i ++ (s.L k).drop (i + 1)) } w) := by
  obtain ⟨a, h⟩ := TS.start h
  have hkk := kStr hk
  have c0 := has_cell h.t.c 0
  have c1 := has_cell h.t.c 1
  have hlk := h.t.lookI hn
  have hlk0 := h.t.lookK hkk
  rw [h0] at hlk
  have ho := h.t.slOL k
  have hd := h.drew
  have hod := hd.t.slOL k
  have hc0 := has_cell hd.t.c 0
  obtain ⟨ao, cp, hsl, hao, hle, hcm⟩ := h.t.slForm k
  obtain ⟨g, off, rfl⟩ := hao (by omega)
  rw [hsl] at hlk0 ho hod
  have HX := Lib.hid (index_any ho hi hv hf hlen)
  have hne : s.L k ≠ [] := fun e => by rw [e] at hi; simp at hi
  have hown : (a.vs k).ownBlock = some g := by
    have : sl a s k = a.vs k := if_neg hne
    rw [← this, hsl]; rfl
  have HD := Lib.hid (delete_any w.drew hod (ints_one _) hi (i + 1) rfl)
  have HE : Hid (∀ e wD, DelPost g off cp (s.L k).length i (ints (s.L k)) w.drew e wD → e = .returned (.slice (some ⟨g, off, none⟩) ((s.L k).length - 1) cp) ∧ wD.cell? ⟨b, 0, none⟩ = some (.map (some a.kb)) ∧ ∃ w3 w4, (Instr.mapUpdate 74 (.map (some a.kb)) (.string k) (.slice (some ⟨g, off, none⟩) ((s.L k).length - 1) cp)).run Try.prog wD = .ok () w3 ∧ w3.cell? ⟨b, 1, none⟩ = some (.map (some a.ib)) ∧
      (Builtin.delete_ #[75, 3] 0 #[.map (some a.ib), .int .i64 n]).run Try.prog w3 = .ok (.tuple #[]) w4 ∧ TUp P b { s with I := upd s.I n none, L := upd s.L k ((s.L k).take i ++ (s.L k).drop (i + 1)) } w w4) := Lib.hid fun e wD hD => by
    obtain ⟨rfl, hoD, hgD⟩ := hD
    have hl' : ((s.L k).take i ++ (s.L k).drop (i + 1)).length = (s.L k).length - 1 := by simp; omega
    have ho2 : IsI wD (.slice (some ⟨g, off, none⟩) ((s.L k).length - 1) cp) ((s.L k).take i ++ (s.L k).drop (i + 1)) := by
      show OL wD _ 1 _ ((s.L k).take i ++ (s.L k).drop (i + 1)).length (ints ((s.L k).take i ++ (s.L k).drop (i + 1)))
      rw [hl']
      have : ints ((s.L k).take i ++ (s.L k).drop (i + 1)) = (ints (s.L k)).take (i * 1) ++ (ints (s.L k)).drop ((i + 1) * 1) := by simp [ints]
      rw [this]
      exact hoD
    obtain ⟨w3, h1, h2⟩ := hd.putK (k := k) (v := .slice (some ⟨g, off, none⟩) ((s.L k).length - 1) cp) (l := (s.L k).take i ++ (s.L k).drop (i + 1)) hkk (fun e => by
      have h1 := (List.append_eq_nil_iff.1 e).1
      have h2 := congrArg List.length h1
      rw [List.length_take, List.length_nil] at h2
      omega) hgD (fun g' hg' => .inl ⟨hne, by rw [hown]; exact hg'⟩) (fun g' hg' => .inl ⟨hne, by rw [hown]; exact hg'⟩) ho2
    obtain ⟨w4, h3, h4, _⟩ := h2.delI hn 0
    refine ⟨rfl, (World.cell?_of_block (hgD.block b (hd.t.lt .b) fun e => ?_)).trans hc0, w3, w4, h1, has_cell h2.t.c 1, h3, _, h4⟩
    obtain ⟨cur, hcu⟩ := OL.elem hod g rfl
    exact type_ne hd.t.c hcu (by decide) (Option.some.inj e)
  have hL : Hid (IsI w (.slice (some ⟨g, off, none⟩) (s.L k).length cp) (s.L k)) := Lib.hid ho
  have a0 := hL.out.at_ rfl (q := 0) (show 0 < (s.L k).length by omega)
  rw [Nat.add_zero] at a0
  have d2 : ((s.L k).getD 0 0 == n) = false := by have := hf 0 (by omega); simp; exact this
  clear hf hv ho hod h hd hsl hL hkk hk h0 hn hown hao
  generalize (s.L k).getD 0 0 = x0 at *
  generalize (s.L k).length = N at *
  have d0 : (0 : Int) < N := by omega
  have d1 : 0 < N := by omega
  have hw : IntKind.i64.wrap ((i : Int) + 1) = (i : Int) + 1 := IntWalk.i64_in _ (by omega)
  have HW := Lib.hid hw
  clear hw hne
  go_enter Try.func23, Try.ntmps23
  go_wp2_with fail
  refine HX.out.mono ?_
  rintro e wx ⟨rfl, hwx⟩
  obtain rfl : w = wx := hwx.symm
  go_wp2_with fail
  clear hlk hlk0 c0 c1 a0
  have hw := HW.out
  refine AnyZ.start 10 (fun w' : World => w'.cell? ⟨b, 0, none⟩ = some (.map (some a.kb))) (by kernel_rfl) ?_
  refine AnyZ.takeP [3, 2, 1] (i := 0) (v := ?_) rfl (by kernel_rfl) (fun _ _ _ h => h) (by rfl) hc0 ?_ ?_
  rotate_left
  · intro w hSw
    go_simp
    with_reducible rfl
  simp only [List.getElem_toArray, List.getElem_cons_zero, Act.put, List.setIfInBounds_toArray, List.set_cons_zero, List.set_cons_succ]
  refine AnyZ.takeP [3, 2] (i := 1) (v := ?_) rfl (by kernel_rfl) (fun _ _ _ h => h) (by rfl) hc0 ?_ ?_
  rotate_left
  · intro w hSw
    go_simp
    with_reducible rfl
  simp only [List.getElem_toArray, List.getElem_cons_succ, List.getElem_cons_zero, Act.put, List.setIfInBounds_toArray, List.set_cons_zero, List.set_cons_succ]
  refine AnyZ.takeP [3] (i := 2) (v := ?_) rfl (by kernel_rfl) (fun _ _ _ h => h) (by rfl) hc0 ?_ ?_
  rotate_left
  · intro w hSw
    go_simp
    with_reducible rfl
  simp only [List.getElem_toArray, List.getElem_cons_succ, List.getElem_cons_zero, Act.put, List.setIfInBounds_toArray, List.set_cons_zero, List.set_cons_succ]
  refine AnyZ.takeP [] (i := 3) (v := ?_) rfl (by kernel_rfl) (fun _ _ _ h => h) (by rfl) hc0 ?_ ?_
  rotate_left
  · intro w hSw
    go_simp
    with_reducible rfl
  simp only [List.getElem_toArray, List.getElem_cons_succ, List.getElem_cons_zero, Act.put, List.setIfInBounds_toArray, List.set_cons_zero, List.set_cons_succ]
  refine AnyZ.takeP [] (i := 4) (v := ?_) rfl (by kernel_rfl) (fun _ _ _ h => h) (by rfl) hc0 ?_ ?_
  rotate_left
  · intro w hSw
    go_simp
    with_reducible rfl
  simp only [List.getElem_toArray, List.getElem_cons_succ, List.getElem_cons_zero, Act.put, List.setIfInBounds_toArray, List.set_cons_zero, List.set_cons_succ]
  refine AnyZ.takeP [9] (i := 5) (v := ?_) rfl (by kernel_rfl) (fun _ _ _ h => h) (by rfl) hc0 ?_ ?_
  rotate_left
  · intro w hSw
    go_simp
    with_reducible rfl
  simp only [List.getElem_toArray, List.getElem_cons_succ, List.getElem_cons_zero, Act.put, List.setIfInBounds_toArray, List.set_cons_zero, List.set_cons_succ]
  refine AnyZ.takeP [9] (i := 6) (v := ?_) rfl (by kernel_rfl) (fun _ _ _ h => h) (by rfl) hc0 ?_ ?_
  rotate_left
  · intro w hSw
    go_simp
    with_reducible rfl
  simp only [List.getElem_toArray, List.getElem_cons_succ, List.getElem_cons_zero, Act.put, List.setIfInBounds_toArray, List.set_cons_zero, List.set_cons_succ]
  refine AnyZ.takeP [9, 8] (i := 7) (v := ?_) rfl (by kernel_rfl) (fun _ _ _ h => h) (by rfl) hc0 ?_ ?_
  rotate_left
  · intro w hSw
    go_simp
    with_reducible rfl
  simp only [List.getElem_toArray, List.getElem_cons_succ, List.getElem_cons_zero, Act.put, List.setIfInBounds_toArray, List.set_cons_zero, List.set_cons_succ]
  refine AnyZ.takeP [9] (i := 8) (v := ?_) rfl (by kernel_rfl) (fun _ _ _ h => h) (by rfl) hc0 ?_ ?_
  rotate_left
  · intro w hSw
    go_simp
    with_reducible rfl
  simp only [List.getElem_toArray, List.getElem_cons_succ, List.getElem_cons_zero, Act.put, List.setIfInBounds_toArray, List.set_cons_zero, List.set_cons_succ]
  refine AnyZ.one (i := 9) rfl (by kernel_rfl) rfl (fun K hK => ?_)
  go_simp
  refine HD.out.mono ?_
  rintro e wD hD
  obtain ⟨rfl, hcD, w3, w4, hup, hc1, hdl, hU⟩ := HE.out _ _ hD
  have HU := Lib.hid hU
  clear hD hU
  go_simp
  refine hK.out _ _ (.inr hcD) ?_
  clear hK K
  refine AnyZ.one (i := 10) rfl (by kernel_rfl) rfl (fun K hK => ?_)
  go_simp
  refine hK.out _ _ (.inl rfl) ?_
  clear hK K hup
  refine AnyZ.done (by kernel_rfl) ?_ _
  go_wp2
  go_ret3
  exact ⟨rfl, HU.out⟩
end
end Go.Proofs.Ytfnohilhlofimaa

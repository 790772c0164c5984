/- collapse: Ask. Conditions: the key is short, the lists are short. -/
import Derived.Test.YtfnohilhlofimaaCoC
namespace Go.Proofs.Ytfnohilhlofimaa
open Go.RowKit

noncomputable def AskS (s : Tb) (k : ByteArray) (n now : Int) : Tb := if (s.I n).isSome = true ∨ markB s k now = true then s else { s with I := upd s.I n (some k), L := upd s.L k (s.L k ++ [n]) }
def askN (s : Tb) (k : ByteArray) (n now : Int) : Int := if (s.I n).isSome = true then 0 else if markB s k now = true then 3 else if s.L k = [] then 1 else 2
def askE (s : Tb) (n : Int) : Int := if (s.I n).isSome = true then 4 else 0
section
variable {w w1 w2 w' : World} {b : Nat} {s s' : Tb} {a : TA} {P : Nat → Prop} {k : ByteArray} {n : Int}
theorem look_k (hm : MapF Try.prog 9 w a.kb (kF s.L a.vs)) (hk : IsK Try.prog 9 (.string k)) : (Instr.lookup 74 (.map (some a.kb)) (.string k) false).run Try.prog w = .ok (sl a s k) w := by
  have := hm.look strKeyed Try.underlying74 (zeroL w) hk false
  rw [this]
  show Result.ok ((if s.L k = [] then none else some (a.vs k) : Option Value).getD _) w = _
  unfold sl
  by_cases e : s.L k = []
  · rw [if_pos e, if_pos e]; rfl
  · rw [if_neg e, if_neg e]; rfl
/-- What an append to a key's list makes, the list put back behind it. -/
theorem TS.app (h : TS P w b a s w1) (hk : IsK Try.prog 9 (.string k)) (hl : (s.L k).length ≤ 1000000) {x : Value} (hx : Src Try.prog 1 38 x 1 [.int .i64 n] w1) :
    ∃ vn wm w2, (Builtin.append_ #[38, 38] 38 #[sl a s k, x]).run Try.prog w1 = .ok vn wm ∧
      (Instr.mapUpdate 74 (.map (some a.kb)) (.string k) vn).run Try.prog wm = .ok () w2 ∧ TS P w b { a with vs := upd a.vs k vn } { s with L := upd s.L k (s.L k ++ [n]) } w2 ∧ wm.cell? ⟨b, 0, none⟩ = w1.cell? ⟨b, 0, none⟩ ∧
      (Instr.lookup 74 (.map (some a.kb)) (.string k) false).run Try.prog wm = .ok (sl a s k) wm := by
  obtain ⟨ti, hi, iz, is, ib⟩ := info_parts infoI
  have hs := h.t.slOL k
  obtain ⟨vn, wm, hap, ho, hgr, hown⟩ := hs.append (P := Try.prog) 38 38 38 ti _ 8 Try.underlying38 hi iz is ib rfl (by omega) hx (by unfold maxLen; omega) (by omega)
  have hr : ∀ g, (sl a s k).ownBlock = some g → (s.L k ≠ [] ∧ (a.vs k).ownBlock = some g) ∨ w1.heap.size ≤ g := fun g hg => .inl (sl_own hg)
  have ho2 : IsI wm vn (s.L k ++ [n]) := by
    show OL wm _ 1 vn (s.L k ++ [n]).length (ints (s.L k ++ [n]))
    rw [List.length_append]
    simpa [ints] using ho
  obtain ⟨w2, h1, h2⟩ := h.putK (v := vn) (l := s.L k ++ [n]) hk (by simp) hgr hr (fun g hg => by
    rcases hown with e | e
    · rw [e] at hg; exact hr g hg
    · rw [e] at hg; exact .inr (Nat.le_of_eq (Option.some.inj hg))) ho2
  have hne : ∀ j, TAl b a s j → (sl a s k).ownBlock ≠ some j → wm.heap[j]? = w1.heap[j]? := fun j hj hn => hgr.block j (h.t.lt hj) (fun e => hn e.symm)
  refine ⟨vn, wm, w2, hap, h1, h2, World.cell?_of_block (a := ⟨b, 0, none⟩) (hne b .b fun e => ?_), look_k (h.t.k.at (hne _ .k (h.t.k.neOL hs))) hk⟩
  obtain ⟨cur, hc⟩ := OL.elem hs b e
  exact type_ne h.t.c hc (by decide) rfl
theorem t_ask_there (h : TIs w P b s) (hn : IsK Try.prog 3 (.int .i64 n)) (hi : (s.I n).isSome = true) (k : ByteArray) (now : Int) : Calls Try.prog 13 #[.pointer (some ⟨b, 0, none⟩), .string k, .int .i64 n, .int .i64 now] w fun e w' => e = .returned (.tuple #[.int .i64 0, errV 4]) ∧ w' = w := by
  obtain ⟨a, h, _⟩ := h
  have c1 := has_cell h.c 1
  have hlk := h.lookI hn
  rw [hi] at hlk
  clear h hi
  go_enter Try.func13, Try.ntmps13
  go_wp2
  go_ret2
  exact ⟨rfl, rfl⟩
theorem t_ask_pass (h : TIs w P b s) (hk : k.size ≤ maxLen) (hn : IsK Try.prog 3 (.int .i64 n)) (hi : (s.I n).isSome = false) {now : Int} (hm : markB s k now = true) : Calls Try.prog 13 #[.pointer (some ⟨b, 0, none⟩), .string k, .int .i64 n, .int .i64 now] w fun e w' => e = .returned (.tuple #[.int .i64 3, errV 0]) ∧ w' = w := by
  obtain ⟨a, h, _⟩ := h
  have c1 := has_cell h.c 1
  have hlk := h.lookI hn
  rw [hi] at hlk
  have CM := Lib.hid (t_marked h hk now)
  rw [hm] at CM
  clear h hi hm
  go_enter Try.func13, Try.ntmps13
  go_wp2_with fail
  refine CM.out.mono ?_
  rintro e w' ⟨rfl, rfl⟩
  go_wp2
  go_ret2
  exact ⟨rfl, rfl⟩
set_option maxRecDepth 100000 in
set_option maxHeartbeats 1600000 in
theorem t_ask_new (h : TIs w P b s) (hk : k.size ≤ maxLen) (hn : IsK Try.prog 3 (.int .i64 n)) (hl : (s.L k).length ≤ 1000000) (hi : (s.I n).isSome = false) {now : Int} (hm : markB s k now = false) :
    Calls Try.prog 13 #[.pointer (some ⟨b, 0, none⟩), .string k, .int .i64 n, .int .i64 now] w (TPost P b (.tuple #[.int .i64 (askN s k n now), errV 0]) { s with I := upd s.I n (some k), L := upd s.L k (s.L k ++ [n]) } w) := by
  have haN : askN s k n now = if s.L k = [] then 1 else 2 := by unfold askN; rw [if_neg (by rw [hi]; decide), if_neg (by rw [hm]; decide)]
  generalize askN s k n now = z at *
  have HZ := Lib.hid haN
  obtain ⟨a, h⟩ := TS.start h
  have c0 := has_cell h.t.c 0
  have c1 := has_cell h.t.c 1
  have hlk := h.t.lookI hn
  rw [hi] at hlk
  have CM := Lib.hid (t_marked h.t hk now)
  rw [hm] at CM
  have hkk := kStr hk
  obtain ⟨w2, hst, h2⟩ := h.putI hn k
  have H2 := Lib.hid h2
  have d0 := (has_cell h2.t.c 0).trans (show _ = some (Value.map (some a.kb)) from rfl)
  obtain ⟨ao, cp, hsl, _⟩ := h2.t.slForm k
  have e1 : w2.drew.heap = w2.heap := rfl
  have hlk2 := (h2.drew.t.lookK hkk)
  have h3 := h2.drew.belowS ((Below.refl _ _).alloc (Nat.le_refl _) (.cells #[.int .i64 n] 3))
  obtain ⟨vn, wm, w3, hap, hup, h4, hc4, hl4⟩ := h3.app (n := n) hkk hl (OL.src (OL.of_block (cs := ints [n]) (heap_alloc_new w2.drew (.cells #[.int .i64 n] 3)) rfl (by simp [maxLen])) Try.underlying38 (ints_one [n]))
  rw [hsl] at hap hlk2 hl4
  have d3 := (has_cell h3.t.c 0).trans (show _ = some (Value.map (some a.kb)) from rfl)
  have hlk3 := h3.t.lookK hkk
  rw [hsl] at hlk3
  rw [d3] at hc4
  have HAP := Lib.hid hap
  have H4 := Lib.hid h4
  have hlk4 := h4.t.lookK hkk
  have hf4 := h4.t.slForm k
  have d4 := (has_cell h4.t.c 0).trans (show _ = some (Value.map (some a.kb)) from rfl)
  have HUP := Lib.hid hup
  have HA : Hid (∀ ao' cp', (.slice ao' ((upd s.L k (s.L k ++ [n])) k).length cp' : Value) = .slice ao' ((s.L k).length + 1) cp') := Lib.hid fun ao' cp' => by rw [upd_same, List.length_append]; rfl
  have HS : Hid ((fun w' : World => w'.cell? ⟨b, 0, none⟩ = some (.map (some a.kb)) ∧ (Instr.lookup 74 (.map (some a.kb)) (.string k) false).run Try.prog w' = .ok (.slice ao (s.L k).length cp) w') w2.drew ∧ (fun w' : World => w'.cell? ⟨b, 0, none⟩ = some (.map (some a.kb)) ∧ (Instr.lookup 74 (.map (some a.kb)) (.string k) false).run Try.prog w' = .ok (.slice ao (s.L k).length cp) w') (w2.drew.alloc (.cells #[.int .i64 n] 3)) ∧ (fun w' : World => w'.cell? ⟨b, 0, none⟩ = some (.map (some a.kb)) ∧ (Instr.lookup 74 (.map (some a.kb)) (.string k) false).run Try.prog w' = .ok (.slice ao (s.L k).length cp) w') wm) := Lib.hid ⟨⟨d0, hlk2⟩, ⟨d3, hlk3⟩, ⟨hc4, hl4⟩⟩
  obtain ⟨ao4, cp4, hs4, _⟩ := hf4
  rw [hs4, show (Tb.L { s with I := upd s.I n (some k), L := upd s.L k (s.L k ++ [n]) } k).length = (s.L k).length + 1 by show (upd s.L k (s.L k ++ [n]) k).length = _; rw [upd_same, List.length_append]; rfl] at hlk4
  clear h hm h2 h3 hap h4 hc4 hl4 d3 hlk3 hlk2 hup hs4 e1 hsl HA hi hl hkk hn hk
  have HL4 := Lib.hid hlk4
  have D4 := Lib.hid d4
  have D0 := Lib.hid d0
  have HST := Lib.hid hst
  have C1 := Lib.hid ((has_cell H2.out.t.c 1).trans (show _ = some (Value.map (some a.ib)) from rfl))
  clear hlk4 d4 d0 hst haN
  go_enter Try.func13, Try.ntmps13
  go_wp2_with fail
  refine CM.out.mono ?_
  rintro e wx ⟨rfl, hwx⟩
  obtain rfl : w = wx := hwx.symm
  have hst := HST.out
  have c1 := C1.out
  clear HST C1 CM hlk
  go_wp2_with fail
  clear hst
  obtain ⟨hH0, hH1, hH2⟩ := HS.out
  refine AnyZ.start 14 (fun w' => w'.cell? ⟨b, 0, none⟩ = some (.map (some a.kb)) ∧ (Instr.lookup 74 (.map (some a.kb)) (.string k) false).run Try.prog w' = .ok (.slice ao (s.L k).length cp) w') (by kernel_rfl) ?_
  refine AnyZ.take (i := 0) (v := ?_) rfl (by kernel_rfl) (fun _ _ _ h => h) (by rfl) hH0 ?_ ?_
  rotate_left
  · intro w hSw
    go_simp
    with_reducible rfl
  simp only [List.getElem_toArray, List.getElem_cons_zero, Act.put, List.setIfInBounds_toArray, List.set_cons_zero, List.set_cons_succ]
  refine AnyZ.take (i := 1) (v := ?_) rfl (by kernel_rfl) (fun _ _ _ h => h) (by rfl) hH0 ?_ ?_
  rotate_left
  · intro w hSw
    go_simp
    with_reducible rfl
  simp only [List.getElem_toArray, List.getElem_cons_succ, List.getElem_cons_zero, Act.put, List.setIfInBounds_toArray, List.set_cons_zero, List.set_cons_succ]
  refine AnyZ.take (i := 2) (v := ?_) rfl (by kernel_rfl) (fun _ _ _ h => h) (by rfl) hH0 ?_ ?_
  rotate_left
  · intro w hSw
    go_simp
    with_reducible rfl
  simp only [List.getElem_toArray, List.getElem_cons_succ, List.getElem_cons_zero, Act.put, List.setIfInBounds_toArray, List.set_cons_zero, List.set_cons_succ]
  refine AnyZ.take (i := 3) (v := ?_) rfl (by kernel_rfl) (fun _ _ _ h => h) (by rfl) hH0 ?_ ?_
  rotate_left
  · intro w hSw
    go_simp
    with_reducible rfl
  simp only [List.getElem_toArray, List.getElem_cons_succ, List.getElem_cons_zero, Act.put, List.setIfInBounds_toArray, List.set_cons_zero, List.set_cons_succ]
  refine AnyZ.take (i := 4) (v := ?_) rfl (by kernel_rfl) (fun _ _ _ h => h) (by rfl) hH0 ?_ ?_
  rotate_left
  · intro w hSw
    go_simp
    with_reducible rfl
  simp only [List.getElem_toArray, List.getElem_cons_succ, List.getElem_cons_zero, Act.put, List.setIfInBounds_toArray, List.set_cons_zero, List.set_cons_succ]
  refine AnyZ.take (i := 5) (v := ?_) rfl (by kernel_rfl) (fun _ _ _ h => h) (by rfl) hH0 ?_ ?_
  rotate_left
  · intro w hSw
    go_simp
    with_reducible rfl
  simp only [List.getElem_toArray, List.getElem_cons_succ, List.getElem_cons_zero, Act.put, List.setIfInBounds_toArray, List.set_cons_zero, List.set_cons_succ]
  refine AnyZ.take (i := 6) (v := ?_) rfl (by kernel_rfl) (fun _ _ _ h => h) (by rfl) hH0 ?_ ?_
  rotate_left
  · intro w hSw
    go_simp
    with_reducible rfl
  simp only [List.getElem_toArray, List.getElem_cons_succ, List.getElem_cons_zero, Act.put, List.setIfInBounds_toArray, List.set_cons_zero, List.set_cons_succ]
  refine AnyZ.take (i := 7) (v := ?_) rfl (by kernel_rfl) (fun _ _ _ h => h) (by rfl) hH0 ?_ ?_
  rotate_left
  · intro w hSw
    go_simp
    with_reducible rfl
  simp only [List.getElem_toArray, List.getElem_cons_succ, List.getElem_cons_zero, Act.put, List.setIfInBounds_toArray, List.set_cons_zero, List.set_cons_succ]
  refine AnyZ.take (i := 8) (v := ?_) rfl (by kernel_rfl) (fun _ _ _ h => h) (by rfl) hH0 ?_ ?_
  rotate_left
  · intro w hSw
    go_simp
    with_reducible rfl
  simp only [List.getElem_toArray, List.getElem_cons_succ, List.getElem_cons_zero, Act.put, List.setIfInBounds_toArray, List.set_cons_zero, List.set_cons_succ]
  refine AnyZ.take (i := 9) (v := ?_) rfl (by kernel_rfl) (fun _ _ _ h => h) (by rfl) hH0 ?_ ?_
  rotate_left
  · intro w hSw
    go_simp
    with_reducible rfl
  simp only [List.getElem_toArray, List.getElem_cons_succ, List.getElem_cons_zero, Act.put, List.setIfInBounds_toArray, List.set_cons_zero, List.set_cons_succ]
  refine AnyZ.take (i := 10) (v := ?_) rfl (by kernel_rfl) (fun _ _ _ h => h) (by rfl) hH0 ?_ ?_
  rotate_left
  · intro w hSw
    go_simp
    with_reducible rfl
  simp only [List.getElem_toArray, List.getElem_cons_succ, List.getElem_cons_zero, Act.put, List.setIfInBounds_toArray, List.set_cons_zero, List.set_cons_succ]
  refine AnyZ.take (i := 11) (v := ?_) rfl (by kernel_rfl) (fun _ _ _ h => h) (by rfl) hH0 ?_ ?_
  rotate_left
  · intro w hSw
    go_simp
    with_reducible rfl
  simp only [List.getElem_toArray, List.getElem_cons_succ, List.getElem_cons_zero, Act.put, List.setIfInBounds_toArray, List.set_cons_zero, List.set_cons_succ]
  refine AnyZ.one (i := 12) rfl (by kernel_rfl) rfl (fun K hK => ?_)
  go_simp
  refine hK.out _ _ (.inr hH1) ?_
  clear hK K hH0
  refine AnyZ.one (i := 13) rfl (by kernel_rfl) rfl (fun K hK => ?_)
  refine wp_append_run (v := .slice ao (s.L k).length cp) (xv := .slice (some ⟨w2.drew.heap.size, 0, none⟩) 1 1) (.tmp 46) (.tmp 48) 38 38 rfl (by rfl) (by rfl) HAP.out ?_
  refine hK.out _ _ (.inr hH2) ?_
  clear hK K hH1
  have hup := HUP.out
  refine AnyZ.one (i := 14) rfl (by kernel_rfl) rfl (fun K hK => ?_)
  go_simp
  refine hK.out _ _ (.inl rfl) ?_
  clear hK K hH2 hup
  refine AnyZ.done (by kernel_rfl) ?_ _
  have d4 := D4.out
  have hlk4 := (show (Instr.lookup 74 (.map (some a.kb)) (.string k) false).run Try.prog w3 = .ok (.slice ao4 ((s.L k).length + 1) cp4) w3 from HL4.out)
  have hz := HZ.out
  have h10 : s.L k = [] ↔ (s.L k).length = 0 := List.length_eq_zero_iff.symm
  clear HZ HL4 D4 HUP HAP HS
  have HE : Hid (∀ zz, zz = z → TPost P b (.tuple #[.int .i64 z, errV 0]) { s with I := upd s.I n (some k), L := upd s.L k (s.L k ++ [n]) } w (.returned (.tuple #[.int .i64 zz, .nilIface])) w3) := Lib.hid fun zz e => ⟨by rw [e]; rfl, _, H4.out⟩
  by_cases h0 : s.L k = []
  · rw [if_pos h0] at hz
    have e0 := h10.1 h0
    rw [e0] at hlk4
    have HZ := Lib.hid hz
    clear h0 h10 e0 hz H2 H4
    go_wp2_with fail
    go_ret2
    exact HE.out _ HZ.out.symm
  · rw [if_neg h0] at hz
    have e0 : 1 < (s.L k).length + 1 := by have := mt h10.2 h0; omega
    have HZ := Lib.hid hz
    clear h0 h10 hz H2 H4
    generalize (s.L k).length + 1 = m at *
    have d1 : decide ((1 : Int) < (m : Int)) = true := by simp; omega
    go_wp2_with fail
    go_ret2
    exact HE.out _ HZ.out.symm
end
end Go.Proofs.Ytfnohilhlofimaa

/- topology: the walk of New. Conditions: the texts can be read, each is no longer than can be. -/
import Derived.Test.YtpcapmialdmcaaaTpG
namespace Go.Proofs.Ytpcapmialdmcaaa
open Go.RowKit Go.Maps

/-- A list that New takes. -/
def okN (l : List ByteArray) : Prop := l.length ≤ 64 ∧ (∀ x ∈ l, TownP x) ∧ l.Nodup
section
open Classical
noncomputable def newE (l : List ByteArray) : Int := if 64 < l.length then 5 else if okN l then 0 else 8
end
theorem newE_big {l : List ByteArray} (h : 64 < l.length) : newE l = 5 := if_pos h
theorem newE_ok {l : List ByteArray} (h : okN l) : newE l = 0 := by unfold newE; rw [if_neg (by have := h.1; omega), if_pos h]
theorem newE_bad {l : List ByteArray} (h1 : l.length ≤ 64) (h : ¬ okN l) : newE l = 8 := by unfold newE; rw [if_neg (by omega), if_neg h]
theorem take_get {l : List ByteArray} {j : Nat} (h : j < l.length) : l.take (j + 1) = l.take j ++ [l.getD j ByteArray.empty] := by
  rw [List.take_succ_eq_append_getElem h]; simp [List.getD, h]
theorem townB_iff {s : ByteArray} : townB s = true ↔ TownP s := by unfold townB; simp
theorem not_okN {l : List ByteArray} {j : Nat} (h : j < l.length) (hc : townB (l.getD j ByteArray.empty) = false ∨ inL (l.getD j ByteArray.empty) (l.take j) = true) : ¬ okN l := fun ⟨_, h1, h2⟩ => by
  rcases hc with hc | hc
  · rw [townB_iff.2 (h1 _ (getD_mem h))] at hc; cases hc
  · have h3 := h2.sublist (List.take_sublist (j + 1) l)
    rw [take_get h, List.nodup_append] at h3
    exact h3.2.2 _ (inL_iff.1 hc) _ (by simp) rfl
section
variable {w w' w3 : World} {m : Nat} {ts l : List ByteArray} {g : MG}
theorem nil_fp {m : Nat} {g : MG} {k : Nat} (h : Fm m g [] k) : k = m ∨ g.tv.ownBlock = some k ∨ k = g.lb := by
  rcases h with h | h | h | ⟨i, hi, _⟩
  · exact .inl h
  · exact .inr (.inl h)
  · exact .inr (.inr h)
  · simp at hi
/-- A further town. -/
theorem MapAt.push (h : MapAt w m ts [] g) {v : Value} {s : ByteArray} (hg : w.grownBy w3 g.tv.ownBlock) (hv : IsT w3 v (ts ++ [s])) (hown : ∀ k, v.ownBlock = some k → g.tv.ownBlock = some k ∨ w.heap.size ≤ k) (hs : TownP s) (hn : s ∉ ts) (hl : ts.length < 64) :
    MapAt (w3.setCell ⟨m, 0, none⟩ v) m (ts ++ [s]) [] { g with tv := v } ∧ w3.cell? ⟨m, 0, none⟩ = some g.tv ∧ w3.frozen? ⟨m, 0, none⟩ = false := by
  have hm3 : w3.heap[m]? = some (.cells #[g.tv, .map (some g.lb)] 90 (0, 0)) := (hg.block m (lt_of_block h.row) fun e => by
    obtain ⟨cur, hc⟩ := OL.elem h.tw m e.symm
    exact type_ne h.row hc (by decide) rfl).trans h.row
  refine ⟨{ row := ?_, tw := ?_, mp := ?_, pr := fun i hi => by simp at hi, cu := fun i hi => by simp at hi, pi := fun i j hi => by simp at hi, si := fun i j hi => by simp at hi, ok := LOk.nil, nd := ?_, tl := ?_, tz := ?_ }, (has_cell hm3 0).trans rfl, has_free hm3 0⟩
  · rw [setCell_heap_self hm3]; rfl
  · refine OL.heap hv fun k hk => Below.heap_setCell _ _ _ _ fun e => ?_
    obtain ⟨cur, hc⟩ := OL.elem hv k hk
    have e' : k = m := e
    rw [e'] at hc
    exact type_ne hc hm3 (by decide) rfl
  · show MapF _ _ _ g.lb (linkF [] g.P)
    have hb := h.mp
    refine h.mp.at ((Below.heap_setCell _ _ _ _ (fun e => h.mp.ne h.row e)).trans (hg.block g.lb h.mp.lt fun e => ?_))
    obtain ⟨cur, hc⟩ := OL.elem h.tw _ e.symm
    exact h.mp.ne hc rfl
  · exact List.nodup_append.2 ⟨h.nd, by simp, fun x hx y hy e => by
      have : y = s := by simpa using hy
      subst this
      subst e
      exact hn hx⟩
  · rw [List.length_append, List.length_singleton]; omega
  · intro x hx
    rcases List.mem_append.1 hx with hx | hx
    · exact h.tz x hx
    · rw [List.mem_singleton] at hx; subst hx; exact hs
/-- The towns in order. -/
theorem MapAt.sorted (h : MapAt w m ts [] g) {ts' : List ByteArray} (hp : ts'.Perm ts) (hv : IsT w' g.tv ts') (hg : w.grownBy w' g.tv.ownBlock) : MapAt w' m ts' [] g where
  row := (hg.block m (lt_of_block h.row) fun e => by
    obtain ⟨cur, hc⟩ := OL.elem h.tw m e.symm
    exact type_ne h.row hc (by decide) rfl).trans h.row
  tw := hv
  mp := h.mp.at (hg.block g.lb h.mp.lt fun e => by
    obtain ⟨cur, hc⟩ := OL.elem h.tw _ e.symm
    exact h.mp.ne hc rfl)
  pr := fun i hi => by simp at hi
  cu := fun i hi => by simp at hi
  pi := fun i j hi => by simp at hi
  si := fun i j hi => by simp at hi
  ok := LOk.nil
  nd := hp.nodup_iff.2 h.nd
  tl := by rw [hp.length_eq]; exact h.tl
  tz := fun x hx => h.tz x (hp.mem_iff.1 hx)
/-- What New leaves. -/
def NewP (l : List ByteArray) (w : World) (e : Ending) (w' : World) : Prop := Below w.heap.size w w' ∧
  if newE l = 0 then ∃ m ts g, e = .returned (.tuple #[ptrV m, .nilIface]) ∧ ts.Perm l ∧ MapAt w' m ts [] g ∧ ∀ k, Fm m g [] k → w.heap.size ≤ k
  else e = .returned (.tuple #[.pointer none, errV (newE l)])
/-- New under way. -/
structure NewW (w : World) (l : List ByteArray) (m : Nat) (j : Nat) (g : MG) (wr : World) : Prop where
  h : MapAt wr m (l.take j) [] g
  fp : ∀ k, Fm m g [] k → w.heap.size ≤ k
  be : Below w.heap.size w wr
theorem NewW.start (w : World) (l : List ByteArray) : NewW w l (w.heap.size + 1) 0 ⟨.slice none 0 0, w.heap.size, fun _ => 0, fun _ => undef⟩ ((w.alloc (.map #[] 0)).alloc (.cells #[.slice none 0 0, .map (some w.heap.size)] 90)) where
  h := {
    row := heap_at (by simp)
    tw := OL.nil _ _ _
    mp := by
      rw [linkF_nil]
      exact (MapF.new _ _ w).belowS ((Below.refl _ _).alloc (Nat.le_refl _) _)
    pr := fun i hi => by simp at hi
    cu := fun i hi => by simp at hi
    pi := fun i j hi => by simp at hi
    si := fun i j hi => by simp at hi
    ok := LOk.nil
    nd := by simp
    tl := by simp
    tz := by simp }
  fp := fun k hk => by
    rcases nil_fp hk with e | e | e
    · omega
    · simp [Value.ownBlock] at e
    · exact Nat.le_of_eq e.symm
  be := ((Below.refl _ _).alloc (Nat.le_refl _) _).alloc (by simp) _
set_option maxRecDepth 100000 in
set_option maxHeartbeats 3200000 in
theorem new_any {v : Value} (h : RT w v l) (hz : ∀ x ∈ l, x.size ≤ 9223372036854775807) : Calls Try.prog 18 #[v] w (NewP l w) := by
  obtain ⟨ao, cap, rfl, hn, hc⟩ := h
  by_cases hbig : 64 < l.length
  · have HP : Hid (NewP l w (.returned (.tuple #[.pointer none, .iface 54 (.int .i64 5)])) w) := Lib.hid ⟨Below.refl _ _, by rw [newE_big hbig, if_neg (by omega)]; rfl⟩
    clear hc hz
    go_enter Try.func18, Try.ntmps18
    go_wp2
    go_ret2
    exact HP.out
  · have hl : l.length ≤ 64 := by omega
    have H : Hid (RT w (.slice ao l.length cap) l) := Lib.hid ⟨ao, cap, rfl, hn, hc⟩
    have HZ := Lib.hid (fun j (hj : j < l.length) => hz _ (getD_mem hj))
    have hmm := @run_makeMap Try.prog
    have hW := NewW.start w l
    clear hc hz hbig
    go_enter Try.func18, Try.ntmps18
    go_wp2_with fail
    clear hmm
    generalize (w.alloc (.map #[] 0)).alloc (.cells #[.slice none 0 0, .map (some w.heap.size)] 90) = w1 at hW ⊢
    go_loopw [16] (fun iv wr => ∃ (j : Nat) (g : MG), j ≤ l.length ∧ iv = .int .i64 j ∧ NewW w l (w.heap.size + 1) j g wr) (fun iv _ => l.length - (intOf iv).toNat)
    case atStart => exact ⟨0, _, Nat.zero_le _, rfl, hW⟩
    case round =>
      clear hW
      obtain ⟨j, g, hj, rfl, hR⟩ := hrel
      have HR := Lib.hid hR
      clear hR
      by_cases hlt : j < l.length
      · obtain ⟨ao', cap', e, _, hcc⟩ := H.out.below HR.out.be (Nat.le_refl _)
        obtain ⟨rfl, _, rfl⟩ : ao = ao' ∧ True ∧ cap = cap' := by simpa using e
        obtain ⟨b, off, rfl, _, hc⟩ := hcc (by omega)
        have c0 := hc j hlt
        have CT := Lib.hid (town_any (l.getD j ByteArray.empty) (HZ.out j hlt) wr)
        have CH := Lib.hid (has_any HR.out.h (l.getD j ByteArray.empty))
        have HB := Lib.hid (fun hc => newE_bad hl (not_okN hlt hc))
        have HT := Lib.hid (take_get hlt)
        unfold ptrV at CH
        clear hc hcc e
        generalize l.getD j ByteArray.empty = s at *
        cases ht : townB s
        · have HP : Hid (NewP l w (.returned (.tuple #[.pointer none, .iface 54 (.int .i64 8)])) wr) := Lib.hid ⟨HR.out.be, by rw [HB.out (.inl ht), if_neg (by omega)]; rfl⟩
          rw [ht] at CT
          clear HB ht
          go_wp2_with fail
          refine CT.out.mono ?_
          rintro e w2 ⟨rfl, hw⟩
          obtain rfl : wr = w2 := hw.symm
          go_wp2
          go_ret2
          exact HP.out
        · cases hh : inL s (l.take j)
          · have htv := HR.out.h.tw
            obtain ⟨tao, tcp, hte, _⟩ := htv.form
            obtain ⟨v', w3, hap, hT3, hg3, hown3, vao, vcp, hve⟩ := texts_append htv (by rw [List.length_take]; omega) s
            have hown : ∀ k, v'.ownBlock = some k → g.tv.ownBlock = some k ∨ wr.heap.size ≤ k := fun k hk => by
              rcases hown3 with e | e
              · rw [e] at hk; exact .inl hk
              · rw [e] at hk; exact .inr (by have := Option.some.inj hk; omega)
            have hpush := HR.out.h.push (tp_trans (tp_alloc wr _ _) hg3) hT3 hown (townB_iff.1 ht) (fun hm => by rw [inL_of hm] at hh; cases hh) (by rw [List.length_take]; omega)
            obtain ⟨hM, c3, f3⟩ := hpush
            have HN : Hid (NewW w l (w.heap.size + 1) (j + 1) { g with tv := v' } (w3.setCell ⟨w.heap.size + 1, 0, none⟩ v')) := Lib.hid {
              h := by rw [HT.out]; exact hM
              fp := fun k hk => by
                rcases nil_fp hk with e | e | e
                · exact HR.out.fp k (.inl e)
                · exact (hown k e).elim (fun e => HR.out.fp k (.inr (.inl e))) fun e => Nat.le_trans HR.out.be.size e
                · exact HR.out.fp k (.inr (.inr (.inl e)))
              be := ((HR.out.be.alloc HR.out.be.size _).grown hg3 (HR.out.be.alloc HR.out.be.size _).size fun k hk => HR.out.fp k (.inr (.inl hk))).setCell (HR.out.fp _ (.inl rfl)) _ }
            have c1 : wr.cell? ⟨w.heap.size + 1, 0, none⟩ = some g.tv := HR.out.h.c0
            have hlj : (l.take j).length = j := by rw [List.length_take]; omega
            subst hve
            rw [hte] at c1 c3 hap
            rw [hlj] at c1 c3 hap HN
            have HAP := Lib.hid hap
            rw [ht] at CT
            rw [hh] at CH
            have c1a : (wr.alloc (.cells #[.string s] 9)).cell? ⟨w.heap.size + 1, 0, none⟩ = some (.slice tao j tcp) := (((Below.refl wr.heap.size wr).alloc (Nat.le_refl _) (.cells #[.string s] 9)).cell (p := ⟨w.heap.size + 1, 0, none⟩) (World.block_lt_of_cell? _ _ c1)).trans c1
            clear hap hT3 hg3 hown3 hown hM HB htv hte hlj HR HT hh ht
            go_wp2_with fail
            refine CT.out.mono ?_
            rintro e w2 ⟨rfl, hw⟩
            obtain rfl : wr = w2 := hw.symm
            go_wp2_with fail
            refine CH.out.mono ?_
            rintro e w2 ⟨rfl, hw⟩
            obtain rfl : wr = w2 := hw.symm
            clear CT CH
            go_wp2_with (refine wpList_append_run (v := .slice tao j tcp) (xv := .slice (some ⟨wr.heap.size, 0, none⟩) 1 1) rfl (.tmp 33) (.tmp 35) _ _ rfl (by rfl) (by rfl) HAP.out ?_)
            go_roundw
            case rel => exact ⟨j + 1, _, by omega, by go_num, HN.out⟩
            case measure => simp [intOf]; omega
          · have HP : Hid (NewP l w (.returned (.tuple #[.pointer none, .iface 54 (.int .i64 8)])) wr) := Lib.hid ⟨HR.out.be, by rw [HB.out (.inr hh), if_neg (by omega)]; rfl⟩
            rw [ht] at CT
            rw [hh] at CH
            clear HB ht hh
            go_wp2_with fail
            refine CT.out.mono ?_
            rintro e w2 ⟨rfl, hw⟩
            obtain rfl : wr = w2 := hw.symm
            go_wp2_with fail
            refine CH.out.mono ?_
            rintro e w2 ⟨rfl, hw⟩
            obtain rfl : wr = w2 := hw.symm
            go_wp2
            go_ret2
            exact HP.out
      · obtain rfl : j = l.length := by omega
        have c1 : wr.cell? ⟨w.heap.size + 1, 0, none⟩ = some g.tv := HR.out.h.c0
        have hM := HR.out.h
        rw [List.take_length] at hM
        have CS := Lib.hid (sort_any hM.tw (by omega))
        have HM := Lib.hid hM
        clear hM
        go_wp2_with fail
        refine CS.out.mono ?_
        rintro e w2 ⟨rfl, ts, hp, hT, hg⟩
        have HP : Hid (NewP l w (.returned (.tuple #[.pointer (some ⟨w.heap.size + 1, 0, none⟩), .nilIface])) w2) := Lib.hid ⟨HR.out.be.grown hg HR.out.be.size fun k hk => HR.out.fp k (.inr (.inl hk)), by
          rw [if_pos (newE_ok ⟨hl, HM.out.tz, HM.out.nd⟩)]
          exact ⟨w.heap.size + 1, ts, g, rfl, hp, HM.out.sorted hp hT hg, HR.out.fp⟩⟩
        clear hp hT hg CS HM HR c1
        go_wp2
        go_ret2
        exact HP.out
end
end Go.Proofs.Ytpcapmialdmcaaa

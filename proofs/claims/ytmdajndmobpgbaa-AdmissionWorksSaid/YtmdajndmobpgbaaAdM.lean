/- admission: the base's Ints; what Start does where one request waits, or none; awake. Conditions: each its own. -/
import Derived.Test.YtmdajndmobpgbaaAdL
namespace Go.Proofs.Ytmdajndmobpgbaa
open Go.RowKit
open Go.Proofs.Ytmdajndmobpgbaa.Fq
open Go.Proofs.Ytmdajndmobpgbaa.Bk

theorem list_ext_getD {α : Type} {d : α} {a b : List α} (hl : a.length = b.length) (h : ∀ i, i < a.length → a.getD i d = b.getD i d) : a = b := by
  apply List.ext_getElem hl
  intro i h1 h2
  have := h i h1
  simpa [List.getD, h1, h2] using this
section
variable {w w' : World}
set_option maxRecDepth 100000 in
set_option maxHeartbeats 800000 in
theorem ints_any {va vb : Value} {a b : List Int} (ha : IsI w va a) (hb : IsI w vb b) : Calls Try.prog 16 #[va, vb] w fun e w' => ∃ x, e = .returned (.bool x) ∧ (x = true ↔ a = b) ∧ Below w.heap.size w w' := by
  obtain ⟨aoa, capa, rfl, hao, _⟩ := ha.form
  obtain ⟨aob, capb, rfl, hbo, _⟩ := hb.form
  have HA := Lib.hid (And.intro ha hao)
  have HB := Lib.hid (And.intro hb hbo)
  clear ha hb hao hbo
  go_enter Try.func16, Try.ntmps16
  by_cases hl : a.length = b.length
  · have hli : (a.length : Int) = (b.length : Int) := by omega
    have HB : Hid (OL w 3 1 (.slice aob a.length capb) a.length (ints b) ∧ _) := Lib.hid (And.intro (by have h := HB.out.1; unfold IsI at h; rw [← hl] at h; exact h) HB.out.2)
    rw [← hl] at HB
    go_wp2_with fail
    go_loopw [13] (fun i wr => ∃ j : Nat, j ≤ a.length ∧ i = .int .i64 j ∧ (∀ i, i < j → a.getD i 0 = b.getD i 0) ∧ Below w.heap.size w wr) (fun i _ => a.length - (intOf i).toNat)
    case atStart => exact ⟨0, Nat.zero_le _, rfl, fun i hi => by omega, Below.refl _ _⟩
    case round =>
      obtain ⟨j, hk, rfl, hF, hB⟩ := hrel
      have HF := Lib.hid hF
      clear hF
      by_cases hlt : j < a.length
      · obtain ⟨ga, offa, rfl, _⟩ := HA.out.2 (by omega)
        obtain ⟨gb, offb, rfl, _⟩ := HB.out.2 (by omega)
        have hoa : OL wr 3 1 (.slice (some ⟨ga, offa, none⟩) a.length capa) a.length (ints a) := OL.below HA.out.1 hB (fun g hg => OL.lt HA.out.1 g hg)
        have hob : OL wr 3 1 (.slice (some ⟨gb, offb, none⟩) a.length capb) a.length (ints b) := OL.below HB.out.1 hB (fun g hg => OL.lt HB.out.1 g hg)
        have a0 := (hoa.cell j (by omega)).trans (ints_get a j hlt)
        have b0 := (hob.cell j (by omega)).trans (ints_get b j (by omega))
        have HN := Lib.hid (fun (h : a.getD j 0 = b.getD j 0) (i : Nat) (hi : i < j + 1) => show a.getD i 0 = b.getD i 0 from by
          by_cases e : i = j
          · rw [e]; exact h
          · exact HF.out i (by omega))
        have HO := Lib.hid (fun (h : a.getD j 0 ≠ b.getD j 0) (e : a = b) => h (by rw [e]))
        clear hoa hob
        generalize a.getD j 0 = x at a0 HN HO
        generalize b.getD j 0 = y at b0 HN HO
        by_cases hc : ¬ x = y
        · have HO2 := Lib.hid (HO.out hc)
          have d0 : (x == y) = false := by rw [beq_eq_false_iff_ne]; exact hc
          go_wp2_with fail
          go_quiet (fail)
          go_wp2
          go_ret
          exact ⟨false, rfl, ⟨fun h => (by cases h), fun h => absurd h HO2.out⟩, ⟨hB.os, hB.tape, hB.output, hB.size, hB.block⟩⟩
        · have hc := Classical.not_not.1 hc
          have HN2 := Lib.hid (HN.out hc)
          have d0 : (x == y) = true := by rw [beq_iff_eq]; exact hc
          clear hc
          go_wp2_with fail
          go_quiet (fail)
          go_wp2
          go_roundw
          case rel => exact ⟨j + 1, by omega, by go_num, HN2.out, ⟨hB.os, hB.tape, hB.output, hB.size, hB.block⟩⟩
          case measure => simp [intOf]; omega
      · obtain rfl : j = a.length := by omega
        go_wp2
        go_ret
        exact ⟨true, rfl, ⟨fun _ => list_ext_getD hl HF.out, fun _ => rfl⟩, hB⟩
  · have hli : (a.length : Int) ≠ (b.length : Int) := by omega
    go_wp2
    go_ret
    exact ⟨false, rfl, ⟨fun h => (by cases h), fun h => absurd (congrArg List.length h) hl⟩, Below.refl _ _⟩
theorem ints_same {va vb : Value} {a : List Int} (ha : IsI w va a) (hb : IsI w vb a) : Calls Try.prog 16 #[va, vb] w fun e w' => e = .returned (.bool true) ∧ Below w.heap.size w w' :=
  (ints_any ha hb).mono fun _ _ ⟨x, he, hx, hb⟩ => ⟨by rw [he, hx.2 rfl], hb⟩
end
section
variable {s s1 : AS} {now : Int} {o : List Int} {a : List Nat}
theorem anyB_q (ok : AOk s) : anyB s.f = true ↔ ∃ t, t < s.m ∧ s.q t ≠ [] := by
  constructor
  · intro h
    obtain ⟨t, ht, hne⟩ := anyB_ex h
    rw [ok.lf] at ht
    exact ⟨t, ht, by rw [← ok.fe t ht (by simp)]; exact hne⟩
  · rintro ⟨t, ht, hne⟩
    exact anyB_true (by rw [ok.lf]; exact ht) (by rw [ok.fe t ht (by simp)]; exact hne)
/-- Nothing waits. -/
theorem SLoop.idle {o' : List Int} {a' : List Nat} (h : SLoop now s o a s1 o' a') (hz : ∀ t, t < s.f.m → s.f.lst t = []) (g : Gd s.f) : s1 = s ∧ o' = o ∧ a' = a := by
  cases h with
  | full _ _ _ _ => exact ⟨rfl, rfl, rfl⟩
  | none _ _ _ _ _ => exact ⟨rfl, rfl, rfl⟩
  | fail _ _ _ f1 en r _ _ _ _ hc hl _ _ =>
    obtain ⟨g1, _, hls, _, _⟩ := hc.gd g
    have := hz f1.cur (by have := g1.cur; unfold FQ.m at this ⊢; rw [hls] at this; exact this)
    unfold FQ.lst at this hl
    rw [hls, this] at hl; cases hl
  | ok _ _ _ f1 en r _ _ _ _ hc hl _ _ =>
    obtain ⟨g1, _, hls, _, _⟩ := hc.gd g
    have := hz f1.cur (by have := g1.cur; unfold FQ.m at this ⊢; rw [hls] at this; exact this)
    unfold FQ.lst at this hl
    rw [hls, this] at hl; cases hl
theorem SLoop.idle0 (h : SLoop now s [] [] s1 o a) (ok : AOk s) (hz : ∀ t, t < s.m → s.q t = []) : s1 = s ∧ o = [] := by
  obtain ⟨h1, h2, _⟩ := h.idle (fun t ht => by rw [ok.lf] at ht; rw [ok.fe t ht (by simp)]; exact hz t ht) ok.g
  exact ⟨h1, h2⟩
theorem pop_lst' {f1 : FQ} {en : Ent} {r : List Ent} (hc : f1.cur < f1.m) (hl : f1.lst f1.cur = en :: r) (t : Nat) : f1.pop.lst t = if t = f1.cur then r else f1.lst t := by
  rw [pop_eq hl]
  by_cases e : t = f1.cur
  · subst e
    rw [if_pos rfl]
    exact Fq.getD_set_self (show f1.cur < f1.lists.length from hc)
  · rw [if_neg e]
    exact Fq.getD_set_ne (fun h => e h.symm)
/-- One request waits, and its tokens are there. -/
theorem SLoop.single (h : SLoop now s [] [] s1 o a) (ok : AOk s) (hr : (s.run.length : Int) < s.slots) {t : Nat} {en : Ent} (ht : t < s.m) (hq : s.q t = [en]) (hz : ∀ t', t' < s.m → t' ≠ t → s.q t' = []) (htk : s.takes t now = true) :
    ∃ f1, Chs s.f f1 ∧ f1.cur = t ∧ f1.lst f1.cur = [en] ∧ s1 = s.began f1 now en.1 ∧ o = [en.1] := by
  have key : ∀ {f1 : FQ} {en' : Ent} {r : List Ent}, Chs s.f f1 → f1.lst f1.cur = en' :: r → f1.cur = t ∧ en' = en ∧ r = [] := fun {f1 en' r} hc hl => by
    obtain ⟨h1, _, h3, _⟩ := ok.cur hc hl
    have e : f1.cur = t := Classical.byContradiction fun hne => by rw [hz _ h1 hne] at h3; cases h3
    rw [e, hq] at h3
    simp only [List.cons.injEq] at h3
    exact ⟨e, h3.1.symm, h3.2.symm⟩
  cases h with
  | full _ _ _ hn => exact absurd hr hn
  | none _ _ _ _ hn =>
    have := (anyB_q ok).2 ⟨t, ht, by rw [hq]; simp⟩
    rw [this] at hn; cases hn
  | fail _ _ _ f1 en' r _ _ _ _ hc hl hf _ =>
    obtain ⟨e, _, _⟩ := key hc hl
    rw [e, htk] at hf; cases hf
  | ok _ _ _ f1 en' r _ _ _ _ hc hl _ h2 =>
    obtain ⟨e, rfl, rfl⟩ := key hc hl
    obtain ⟨g1, hst, hls, _, hbg⟩ := hc.gd ok.g
    have hmf : f1.m = s.f.m := by unfold FQ.m; rw [hls]
    have hcf : f1.cur < f1.m := g1.cur
    have hz2 : ∀ t', t' < f1.pop.m → f1.pop.lst t' = [] := fun t' ht' => by
      rw [pop_lst' hcf hl]
      by_cases e1 : t' = f1.cur
      · rw [if_pos e1]
      · rw [if_neg e1]
        rw [pop_m, hmf, ok.lf] at ht'
        have : f1.lst t' = s.f.lst t' := by unfold FQ.lst; rw [hls]
        rw [this, ok.fe t' ht' (by simp)]
        exact hz t' ht' (by rw [← e]; exact e1)
    obtain ⟨h3, h4, _⟩ := h2.idle hz2 (g1.pop hst hbg)
    exact ⟨f1, hc, e, hl, h3, h4⟩
/-- The state behind it. -/
theorem began_st {f1 : FQ} {t : Nat} {en : Ent} (ok : AOk s) (hc : Chs s.f f1) (e : f1.cur = t) (ht : t < s.m) (hq : s.q t = [en]) (hz : ∀ t', t' < s.m → t' ≠ t → s.q t' = []) :
    (s.began f1 now en.1).back.run = s.run ++ [en.1] ∧ (∀ t', t' < s.m → (s.began f1 now en.1).back.q t' = []) ∧ (s.began f1 now en.1).back.bk = (s.took t now).bk ∧ (s.began f1 now en.1).back.sh = s.sh ∧ (s.began f1 now en.1).back.slots = s.slots := by
  refine ⟨rfl, fun t' ht' => ?_, by subst e; rfl, rfl, rfl⟩
  have hql : f1.cur < s.ql.length := by rw [ok.lq, e]; exact ht
  show (s.ql.set f1.cur (s.q f1.cur).tail).getD t' [] = []
  by_cases e1 : f1.cur = t'
  · subst e1
    rw [getD_set_self hql, e, hq]
    rfl
  · rw [getD_set_ne e1]
    exact hz t' ht' (by rw [← e]; exact Ne.symm e1)
end
end Go.Proofs.Ytmdajndmobpgbaa

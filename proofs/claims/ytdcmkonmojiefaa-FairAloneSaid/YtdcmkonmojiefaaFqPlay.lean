/- What is so of a filled queue from which entries are taken one by one. No program here. -/
import Derived.Test.YtdcmkonmojiefaaFqFill
namespace Go.Proofs.Ytdcmkonmojiefaa
open Go.RowKit
open Go.Proofs.Ytdcmkonmojiefaa.Fq

/-- The lists hold entries of the share, in the order of their ids; k entries are gone. -/
structure Pl (n : Nat) (X : Nat → Nat → Int) (len k : Nat) (s : FQ) : Prop where
  m : s.m = n
  gd : Gd s
  sub : ∀ t, t < n → ∀ e ∈ s.lst t, ∃ i : Nat, i < len ∧ X i 1 = t ∧ e = ((i : Int), X i 3)
  asc : ∀ t, t < n → (s.lst t).Pairwise (fun a b => a.1 < b.1)
  tot : total s + k = len
section
variable {Q : Nat → Int} {n len k : Nat} {X : Nat → Nat → Int} {s s1 : FQ}
theorem share_asc : ∀ (k t : Nat), (share X k t).Pairwise (fun a b => a.1 < b.1)
  | 0, t => by simp [share]
  | k + 1, t => by
    rw [share_succ]
    split
    · refine List.pairwise_append.2 ⟨share_asc k t, by simp, fun a ha b hb => ?_⟩
      obtain ⟨i, hi, _, rfl⟩ := share_mem ha
      simp at hb; subst hb
      show (i : Int) < (k : Int); omega
    · exact share_asc k t
theorem Fil.pl (h : Fil Q n X len s) : Pl n X len 0 s :=
  { m := h.m, gd := h.gd, tot := h.tot
    sub := fun t ht e he => by rw [h.ls t ht] at he; exact share_mem he
    asc := fun t ht => by rw [h.ls t ht]; exact share_asc len t }
theorem Pl.some (h : Pl n X len k s) (hk : k < len) : ∃ t, t < s.m ∧ s.lst t ≠ [] := total_pos (by have := h.tot; omega)
theorem Pl.none (h : Pl n X len len s) : anyB s = false := anyB_false (total_zero (by have := h.tot; omega))
theorem chs_lst (h : Chs s s1) (g : Gd s) : s1.m = s.m ∧ (∀ t, s1.lst t = s.lst t) ∧ total s1 = total s := by
  have e := (h.gd g).2.2.1
  exact ⟨by unfold FQ.m; rw [e], fun t => by unfold FQ.lst; rw [e], by unfold total; rw [e]⟩
theorem pop_lists {e : Ent} {r : List Ent} (h : s.lst s.cur = e :: r) : s.pop.lists = (FQ.setL s s.cur r).lists := by rw [pop_eq h]; rfl
theorem pop_lst {e : Ent} {r : List Ent} (g : Gd s) (h : s.lst s.cur = e :: r) (t : Nat) : s.pop.lst t = if t = s.cur then r else s.lst t := by
  have e1 : s.pop.lst t = (FQ.setL s s.cur r).lst t := by unfold FQ.lst; rw [pop_lists h]
  rw [e1]
  by_cases ht : t = s.cur
  · subst ht; rw [if_pos rfl, setL_lst_self g.cur]
  · rw [if_neg ht, setL_lst_ne (fun x => ht x.symm)]
theorem pop_total {e : Ent} {r : List Ent} (g : Gd s) (h : s.lst s.cur = e :: r) : total s.pop + 1 = total s := by
  have e1 : total s.pop = total (FQ.setL s s.cur r) := by unfold total; rw [pop_lists h]
  have := total_setL g.cur r
  rw [h] at this
  simp at this
  rw [e1]; omega
/-- One entry is taken. -/
theorem Pl.next (h : Pl n X len k s) (hc : Chs s s1) {en : Ent} {r : List Ent} (hl : s1.lst s1.cur = en :: r) :
    Pl n X len (k + 1) s1.pop ∧ s1.cur < n ∧ ∃ i : Nat, i < len ∧ X i 1 = s1.cur ∧ en = ((i : Int), X i 3) ∧ s.lst s1.cur = en :: r ∧ (∀ t, t < n → ∀ e ∈ s1.pop.lst t, (t = s1.cur → en.1 < e.1) ∧ e ∈ s.lst t) := by
  obtain ⟨hm, hls, ht⟩ := chs_lst hc h.gd
  obtain ⟨g1, hstop, _, _, hb⟩ := hc.gd h.gd
  have hcur : s1.cur < n := by have := g1.cur; rw [hm, h.m] at this; exact this
  have hlo : s.lst s1.cur = en :: r := by rw [← hls]; exact hl
  have hp := pop_lst g1 hl
  have mem : ∀ t, t < n → ∀ e ∈ s1.pop.lst t, (t = s1.cur → en.1 < e.1) ∧ e ∈ s.lst t := fun t htn e he => by
    rw [hp] at he
    by_cases et : t = s1.cur
    · subst et
      rw [if_pos rfl] at he
      have ha := h.asc s1.cur hcur
      rw [hlo] at ha ⊢
      exact ⟨fun _ => (List.pairwise_cons.1 ha).1 e he, by simp [he]⟩
    · rw [if_neg et, hls] at he
      exact ⟨fun x => absurd x et, he⟩
  obtain ⟨i, hi, hx, rfl⟩ := h.sub s1.cur hcur en (by rw [hlo]; simp)
  refine ⟨{ m := by rw [pop_m, hm, h.m], gd := g1.pop hstop hb, sub := fun t htn e he => h.sub t htn e (mem t htn e he).2, asc := fun t htn => ?_, tot := ?_ }, hcur, i, hi, hx, rfl, hlo, mem⟩
  · rw [hp]
    by_cases et : t = s1.cur
    · subst et
      rw [if_pos rfl]
      have ha := h.asc s1.cur hcur
      rw [hlo] at ha
      exact (List.pairwise_cons.1 ha).2
    · rw [if_neg et, hls]; exact h.asc t htn
  · have := pop_total g1 hl
    have := h.tot
    omega
end

/-- The queue s lies at block b, all of it in blocks from lo to hi. -/
def QI (w : World) (lo hi b : Nat) (s : FQ) : Prop := ∃ bq cq bd cd xt bl vals, FqAt w b bq cq bd cd xt bl vals s ∧ ∀ k, Fp b bq bd bl vals k → lo ≤ k ∧ k < hi
def OnI (lo hi : Nat) (w w' : World) : Prop := Only (fun k => lo ≤ k ∧ k < hi) w w'
section
variable {w w' : World} {lo hi b : Nat} {s : FQ}
theorem QB.qi (h : QB w lo b s) : QI w lo w.heap.size b s := by
  obtain ⟨bq, cq, bd, cd, xt, bl, vals, hA, hB⟩ := h
  exact ⟨bq, cq, bd, cd, xt, bl, vals, hA, fun k hk => ⟨hB k hk, hA.fp_lt k hk⟩⟩
theorem QI.qb (h : QI w lo hi b s) : QB w lo b s := by
  obtain ⟨bq, cq, bd, cd, xt, bl, vals, hA, hB⟩ := h
  exact ⟨bq, cq, bd, cd, xt, bl, vals, hA, fun k hk => (hB k hk).1⟩
theorem QI.keep (h : QI w lo hi b s) (hh : ∀ k, k < w.heap.size → lo ≤ k → k < hi → w'.heap[k]? = w.heap[k]?) : QI w' lo hi b s := by
  obtain ⟨bq, cq, bd, cd, xt, bl, vals, hA, hB⟩ := h
  exact ⟨bq, cq, bd, cd, xt, bl, vals, hA.same (fun k hk => hh k (hA.fp_lt k hk) (hB k hk).1 (hB k hk).2), hB⟩
theorem QI.below {B : Nat} (h : QI w lo hi b s) (hb : Below B w w') (hB : hi ≤ B) : QI w' lo hi b s := h.keep fun k _ _ h2 => hb.block k (by omega)
theorem QI.lt (h : QI w lo hi b s) : lo ≤ b ∧ b < hi ∧ b < w.heap.size := by
  obtain ⟨bq, cq, bd, cd, xt, bl, vals, hA, hB⟩ := h
  exact ⟨(hB b (.inl rfl)).1, (hB b (.inl rfl)).2, has_lt hA.hb⟩
theorem OnI.below (h : OnI lo hi w w') (hw : lo ≤ w.heap.size) : Below lo w w' := Only.below h hw (fun _ hk => hk.1)
theorem OnI.at {k : Nat} {o : Obj} (h : OnI lo hi w w') (hk : w.heap[k]? = some o) (hn : k < lo ∨ hi ≤ k) : w'.heap[k]? = some o := (Only.block h k (lt_of_block hk) (by omega)).trans hk
theorem i_next (w : World) (h : QI w lo hi b s) (g : Gd s) {t0 : Nat} (ht0 : t0 < s.m) (hne : s.lst t0 ≠ []) :
    Calls Try.prog 14 #[.pointer (some ⟨b, 0, none⟩)] w fun e w' => ∃ s1 en r, Chs s s1 ∧ s1.lst s1.cur = en :: r ∧ e = .returned (.tuple #[.int .i64 s1.cur, .int .i64 en.1, .nilIface]) ∧ QI w' lo hi b s1.pop ∧ OnI lo hi w w' := by
  obtain ⟨bq, cq, bd, cd, xt, bl, vals, hA, hB⟩ := h
  refine (next_some w hA g ht0 hne).mono ?_
  rintro e w' ⟨s1, en, r, v', hc, hl, he, hA', hv, ho⟩
  have hcur : s1.cur < vals.length := by
    have := (hc.gd g).1.cur
    have e : s1.m = s.m := by unfold FQ.m; rw [(hc.gd g).2.2.1]
    rw [hA.lv]; omega
  refine ⟨s1, en, r, hc, hl, he, ⟨bq, cq, bd, cd, xt, bl, _, hA', fun k hk => hB k ?_⟩, ho.mono (fun k hk => hB k (by rcases hk with h | h | h; exact .inl h; exact .inr (.inr (.inl h)); exact .inr (.inr (.inr (.inl h)))))⟩
  rcases hk with h | h | h | h | ⟨t, h⟩
  · exact .inl h
  · exact .inr (.inl h)
  · exact .inr (.inr (.inl h))
  · exact .inr (.inr (.inr (.inl h)))
  · by_cases e : s1.cur = t
    · subst e; rw [qv_set_self hcur] at h; exact .inr (.inr (.inr (.inr ⟨s1.cur, hv k h⟩)))
    · rw [qv_set_ne e] at h; exact .inr (.inr (.inr (.inr ⟨t, h⟩)))
end
/-- A row of integers, known whole. -/
def IsRow (w : World) (b : Nat) (l : List Int) : Prop := w.heap[b]? = some (.cells (ints l).toArray 3 (0, 0))
theorem IsRow.cell {w : World} {b : Nat} {l : List Int} (h : IsRow w b l) {i : Nat} (hi : i < l.length) : w.cell? ⟨b, i, none⟩ = some (.int .i64 (l.getD i 0)) := by
  rw [has_cell h i, List.getElem?_toArray]; exact ints_get l i hi
theorem IsRow.set {w : World} {b : Nat} {l : List Int} (h : IsRow w b l) (i : Nat) (x : Int) : IsRow (w.setCell ⟨b, i, none⟩ (.int .i64 x)) b (l.set i x) := by
  have := setCell_heap_self (o := i) (u := Value.int .i64 x) h
  unfold IsRow
  rw [ints_set, ← List.setIfInBounds_toArray]; exact this
theorem IsRow.made {w : World} {b n : Nat} (h : w.heap[b]? = some (.cells (madeCells #[.int .i64 0] n) 3 (0, 0))) : IsRow w b (List.replicate n 0) := by
  unfold IsRow
  rw [h, show madeCells #[Value.int .i64 0] n = (List.replicate n (Value.int .i64 0)).toArray by rw [← toList_madeCells_one _ n]]
  simp [ints]
end Go.Proofs.Ytdcmkonmojiefaa

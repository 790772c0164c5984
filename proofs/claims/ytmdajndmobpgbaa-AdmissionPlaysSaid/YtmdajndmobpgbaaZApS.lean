/- fair: plain: ids are there once; what a play keeps; both queues beside one another. Conditions: none. Plain: the document's admission beside the program's. No program here. The document's Start: what lies in memory within it, and how writes change it. No code is walked here. Conditions: each its own. -/
import Derived.Test.YtmdajndmobpgbaaZGrE2
import Derived.Test.YtmdajndmobpgbaaZGrF
import Derived.Test.YtmdajndmobpgbaaZGrB2
import Derived.Test.YtmdajndmobpgbaaZAdMath
import Derived.Test.YtmdajndmobpgbaaZGrE
import Derived.Test.YtmdajndmobpgbaaZApK
namespace Go.Proofs.Ytmdajndmobpgbaa
open Go.RowKit
open Go.Proofs.Ytmdajndmobpgbaa.Fq

/-- No id is there twice. -/
def UId (s : FQ) : Prop := ∀ (t t' i i' : Nat) (e e' : Ent), (s.lst t)[i]? = some e → (s.lst t')[i']? = some e' → e.1 = e'.1 → t = t' ∧ i = i'
section
variable {s : FQ} {id : Int}
theorem lists_get {k : Nat} (h : k < s.m) : s.lists[k]? = some (s.lst k) := by
  have h' : k < s.lists.length := h
  simp [FQ.lst, List.getD, h']
theorem lst_eq {s s' : FQ} (h : s'.lists = s.lists) (k : Nat) : s'.lst k = s.lst k := congrArg (fun l => l.getD k []) h
theorem lst_out {t : Nat} (h : s.m ≤ t) : s.lst t = [] := by
  unfold FQ.lst
  simp [List.getD, List.getElem?_eq_none (show s.lists.length ≤ t from h)]
theorem lst_lt {t i : Nat} {e : Ent} (h : (s.lst t)[i]? = some e) : t < s.m := by
  rcases Nat.lt_or_ge t s.m with h1 | h1
  · exact h1
  · rw [lst_out h1] at h; simp at h
theorem noId_erase : ∀ {l : List Ent} {i : Nat} {e : Ent}, l[i]? = some e → e.1 = id → (∀ j e', l[j]? = some e' → e'.1 = id → j = i) → noId id l = l.eraseIdx i
  | [], i, e, h, _, _ => by simp at h
  | x :: l, 0, e, h, h1, h2 => by
    have hx : x = e := by simpa using h
    subst hx
    have hn : ∀ y ∈ l, ¬ y.1 = id := fun y hy hy2 => by
      obtain ⟨k, hk, hk2⟩ := List.getElem_of_mem hy
      have := h2 (k + 1) y (by simp [List.getElem?_eq_getElem hk, hk2]) hy2
      omega
    unfold noId
    simp only [List.filter_cons, h1, beq_self_eq_true, Bool.not_true, Bool.false_eq_true, if_false, List.eraseIdx_cons_zero]
    exact List.filter_eq_self.2 fun y hy => by simpa using hn y hy
  | x :: l, i + 1, e, h, h1, h2 => by
    have hx : ¬ x.1 = id := fun hx => by have := h2 0 x (by simp) hx; omega
    have ih := noId_erase (l := l) (i := i) (e := e) (by simpa using h) h1 (fun j e' hj he => by have := h2 (j + 1) e' (by simpa using hj) he; omega)
    unfold noId at ih ⊢
    rw [List.eraseIdx_cons_succ, List.filter_cons, if_pos (by simpa using hx), ih]
theorem noId_none {l : List Ent} (h : ∀ e ∈ l, e.1 ≠ id) : noId id l = l := List.filter_eq_self.2 fun e he => by simpa using h e he
theorem canT_lst {k : Nat} : ∀ {t : Nat}, t ≤ s.m → k < t → (canT s id t).lst k = noId id (s.lst k)
  | 0, _, h => by omega
  | t + 1, ht, h => by
    show (FQ.setL (canT s id t) t _).lst k = _
    by_cases e : t = k
    · subst e
      rw [setL_lst_self (by rw [canT_m]; omega)]
    · rw [setL_lst_ne e]
      exact canT_lst (by omega) (by omega)
theorem canT_eq (hu : UId s) {t i : Nat} (hf : FindR s id (some (t, i))) : canT s id s.m = FQ.setL s t ((s.lst t).eraseIdx i) := by
  obtain ⟨ht, ⟨e, he, hi⟩, _⟩ := hf
  have hlists : (canT s id s.m).lists = (FQ.setL s t ((s.lst t).eraseIdx i)).lists := by
    apply List.ext_getElem?
    intro k
    rcases Nat.lt_or_ge k s.m with hk | hk
    · have h1 := lists_get (s := canT s id s.m) (k := k) (by rw [canT_m]; exact hk)
      have h2 := lists_get (s := FQ.setL s t ((s.lst t).eraseIdx i)) (k := k) (by rw [setL_m]; exact hk)
      rw [h1, h2, canT_lst (Nat.le_refl _) hk]
      by_cases e1 : t = k
      · subst e1
        rw [setL_lst_self ht, noId_erase he hi (fun j e' hj he' => (hu t t j i e' e hj he (by rw [he', hi])).2)]
      · rw [setL_lst_ne e1, noId_none]
        intro x hx hx2
        obtain ⟨j, hj, hj2⟩ := List.getElem_of_mem hx
        have h3 : (s.lst k)[j]? = some x := by rw [List.getElem?_eq_getElem hj, hj2]
        exact e1 (hu t k i j e x he h3 (by rw [hi, hx2])).1
    · have h1 : (canT s id s.m).lists.length = s.m := canT_m s.m
      have h2 : (FQ.setL s t ((s.lst t).eraseIdx i)).lists.length = s.m := setL_m s t _
      rw [List.getElem?_eq_none (by omega), List.getElem?_eq_none (by omega)]
  obtain ⟨h1, h2, h3, h4⟩ := canT_cur (s := s) (id := id) s.m
  cases hc : canT s id s.m
  rw [hc] at hlists h1 h2 h3 h4
  simp only at hlists h1 h2 h3 h4
  subst h1 h2 h3 h4 hlists
  rfl
/-- What a play keeps. -/
structure Inv (s : FQ) : Prop where
  g : Gd s
  z : ∀ t, (s.lst t).length ≤ 256
  u : UId s
theorem Inv.short (h : Inv s) : Short s := fun t _ => Nat.le_trans (h.z t) (by omega)
theorem Inv.init {Q : Nat → Int} {n : Nat} (h : newOk Q n) : Inv (FQ.init Q n) := ⟨Gd.init h, fun t => by rw [init_lst]; simp, fun t t' i i' e e' h1 => by rw [init_lst] at h1; simp at h1⟩
theorem Inv.put (h : Inv s) (t id z : Int) : Inv (putS s t id z) := by
  by_cases hp : putE s t id z = 0
  · obtain ⟨h1, h2, h3, h4⟩ := putE_ok hp
    refine ⟨h.g.putS t id z, ?_, ?_⟩
    · rw [putS_ok hp]
      intro k
      by_cases e : t.toNat = k
      · subst e
        rw [setL_lst_self (by omega), List.length_append]
        simp; omega
      · rw [setL_lst_ne e]; exact h.z k
    · rw [putS_ok hp]
      have key : ∀ (k i : Nat) (e : Ent), ((FQ.setL s t.toNat (s.lst t.toNat ++ [(id, z)])).lst k)[i]? = some e → (s.lst k)[i]? = some e ∨ (k = t.toNat ∧ i = (s.lst t.toNat).length ∧ e = (id, z)) := fun k i e he => by
        by_cases e1 : t.toNat = k
        · subst e1
          rw [setL_lst_self (by omega)] at he
          rcases Nat.lt_trichotomy i (s.lst t.toNat).length with hi | hi | hi
          · rw [List.getElem?_append_left hi] at he; exact .inl he
          · subst hi; simp at he; exact .inr ⟨rfl, rfl, he.symm⟩
          · rw [List.getElem?_eq_none (by simp; omega)] at he; cases he
        · rw [setL_lst_ne e1] at he; exact .inl he
      have hno : ∀ (k i : Nat) (e : Ent), (s.lst k)[i]? = some e → e.1 ≠ id := fun k i e he hi => h3 ⟨k, lst_lt he, e, List.mem_of_getElem? he, hi⟩
      intro k k' i i' e e' h5 h6 h7
      rcases key k i e h5 with a | ⟨a1, a2, a3⟩ <;> rcases key k' i' e' h6 with b | ⟨b1, b2, b3⟩
      · exact h.u k k' i i' e e' a b h7
      · subst b3; exact absurd h7 (hno k i e a)
      · subst a3; exact absurd h7.symm (hno k' i' e' b)
      · exact ⟨a1.trans b1.symm, a2.trans b2.symm⟩
  · rw [putS_bad hp]; exact h
theorem eraseIdx_get {l : List Ent} {i j : Nat} {e : Ent} (h : (l.eraseIdx i)[j]? = some e) : ∃ k, l[k]? = some e ∧ k = if j < i then j else j + 1 := by
  rw [List.getElem?_eraseIdx] at h
  by_cases hj : j < i
  · rw [if_pos hj] at h; exact ⟨j, h, by rw [if_pos hj]⟩
  · rw [if_neg hj] at h; exact ⟨j + 1, h, by rw [if_neg hj]⟩
/-- An entry goes. -/
theorem Inv.erase (h : Inv s) {t i : Nat} {s' : FQ} (ht : t < s.m) (g : Gd s') (hl : s'.lists = (FQ.setL s t ((s.lst t).eraseIdx i)).lists) : Inv s' := by
  have hlst : ∀ k, s'.lst k = (FQ.setL s t ((s.lst t).eraseIdx i)).lst k := fun k => lst_eq hl k
  have key : ∀ (k j : Nat) (e : Ent), (s'.lst k)[j]? = some e → ∃ j', (s.lst k)[j']? = some e ∧ j' = if k = t then (if j < i then j else j + 1) else j := fun k j e he => by
    rw [hlst] at he
    by_cases e1 : t = k
    · subst e1
      rw [setL_lst_self ht] at he
      obtain ⟨q, h1, h2⟩ := eraseIdx_get he
      exact ⟨q, h1, by rw [if_pos rfl]; exact h2⟩
    · rw [setL_lst_ne e1] at he
      exact ⟨j, he, by rw [if_neg (fun x => e1 x.symm)]⟩
  refine ⟨g, fun k => ?_, fun k k' j j' e e' h1 h2 h3 => ?_⟩
  · rw [hlst]
    by_cases e1 : t = k
    · subst e1
      rw [setL_lst_self ht]
      have := List.length_eraseIdx_le (s.lst t) i
      have := h.z t
      omega
    · rw [setL_lst_ne e1]; exact h.z k
  · obtain ⟨q, a1, a2⟩ := key k j e h1
    obtain ⟨q', b1, b2⟩ := key k' j' e' h2
    obtain ⟨rfl, hq⟩ := h.u k k' q q' e e' a1 b1 h3
    refine ⟨rfl, ?_⟩
    rw [a2, b2] at hq
    split at hq <;> (try split at hq) <;> (try split at hq) <;> omega
theorem Inv.pop (h : Inv s) {s1 : FQ} (hc : Chs s s1) {e : Ent} {r : List Ent} (hl : s1.lst s1.cur = e :: r) : Inv s1.pop := by
  obtain ⟨g1, hst, hls, _, hb⟩ := hc.gd h.g
  have h1 : Inv s1 := ⟨g1, fun t => by rw [lst_eq hls]; exact h.z t, fun t t' i i' a b => by rw [lst_eq hls, lst_eq hls]; exact h.u t t' i i' a b⟩
  refine h1.erase (t := s1.cur) (i := 0) g1.cur (g1.pop hst hb) ?_
  rw [pop_eq hl, hl]
  rfl
theorem Inv.cancel (h : Inv s) {t i : Nat} (ht : t < s.m) : Inv (FQ.setL s t ((s.lst t).eraseIdx i)) := by
  refine h.erase ht (h.g.setL ht fun e he => h.g.sz t ht e (List.mem_of_mem_eraseIdx he)) rfl
theorem putS_m (t id z : Int) : (putS s t id z).m = s.m := by
  by_cases hp : putE s t id z = 0
  · rw [putS_ok hp]; exact setL_m _ _ _
  · rw [putS_bad hp]
theorem chs_ne {s1 : FQ} (h : Chs s s1) (g : Gd s) {e : Ent} {r : List Ent} (hl : s1.lst s1.cur = e :: r) : s.lst s1.cur ≠ [] ∧ s1.cur < s.m ∧ s1.m = s.m := by
  obtain ⟨g1, _, hls, _, _⟩ := h.gd g
  have e1 : s.lst s1.cur = s1.lst s1.cur := (lst_eq hls _).symm
  have e2 : s1.m = s.m := by unfold FQ.m; rw [hls]
  exact ⟨by rw [e1, hl]; simp, by rw [← e2]; exact g1.cur, e2⟩
end
/-- The document's queue in its box dc. -/
structure DocS (w : World) (K : Nat → Prop) (dc : Nat) (s : FQ) (wx : World) : Prop where
  ex : ∃ vq vd vl lv, wx.heap[dc]? = some (.cells #[vq, vd, vl, .int .i64 s.cur, .bool s.begun] 55 (0, 0)) ∧ RQK K wx vq vd vl lv s
  kd : K dc
  ld : w.heap.size ≤ dc
section
variable {w wx wy : World} {K : Nat → Prop} {b dc : Nat} {s s' : FQ} {vq vd vl : Value} {lv : List Value}
theorem DocS.same (h : DocS w K dc s wx) (hs : SameK K wx wy) : DocS w K dc s wy := by
  obtain ⟨vq, vd, vl, lv, h1, h2⟩ := h.ex
  exact ⟨⟨vq, vd, vl, lv, (hs.1 dc h.kd).trans h1, h2.same hs⟩, h.kd, h.ld⟩
theorem DocS.bel (h : DocS w K dc s wx) (hb : Below wx.heap.size wx wy) : DocS w K dc s wy := by
  obtain ⟨vq, vd, vl, lv, h1, h2⟩ := h.ex
  exact ⟨⟨vq, vd, vl, lv, (hb.block dc (lt_of_block h1)).trans h1, h2.bel hb⟩, h.kd, h.ld⟩
/-- The result of a call of the document is stored in the box. -/
theorem DocS.ret (h : DocS w K dc s wx) {sP : FQ} (hq : QK w K b sP wx) (hr : RQK (fun k => K k ∨ wx.heap.size ≤ k) wy vq vd vl lv s') (hb : Below wx.heap.size wx wy) :
    DocS w (fun k => K k ∨ (wx.heap.size ≤ k ∧ k < wy.heap.size)) dc s' (((((wy.setCell ⟨dc, 0, none⟩ vq).setCell ⟨dc, 1, none⟩ vd).setCell ⟨dc, 2, none⟩ vl).setCell ⟨dc, 3, none⟩ (.int .i64 s'.cur)).setCell ⟨dc, 4, none⟩ (.bool s'.begun)) ∧
    QK w (fun k => K k ∨ (wx.heap.size ≤ k ∧ k < wy.heap.size)) b sP (((((wy.setCell ⟨dc, 0, none⟩ vq).setCell ⟨dc, 1, none⟩ vd).setCell ⟨dc, 2, none⟩ vl).setCell ⟨dc, 3, none⟩ (.int .i64 s'.cur)).setCell ⟨dc, 4, none⟩ (.bool s'.begun)) := by
  obtain ⟨vq0, vd0, vl0, lv0, h1, _⟩ := h.ex
  have hrow := (hb.block dc (lt_of_block h1)).trans h1
  obtain ⟨h5, h6, h7⟩ := set5 hrow vq vd vl (.int .i64 s'.cur) (.bool s'.begun)
  have hr2 := hr.to (J := fun k => K k ∨ (wx.heap.size ≤ k ∧ k < wy.heap.size)) (fun k hk hx => hx.imp (fun x => x) (fun x => ⟨x, hk⟩))
  refine ⟨⟨⟨vq, vd, vl, lv, h5, ⟨hr2.a.heap (fun b cs t ht hc => h6 b (type_ne hc hrow ht)), hr2.kq, hr2.kd, hr2.kl, hr2.ke⟩⟩, .inl h.kd, h.ld⟩, ?_⟩
  obtain ⟨bq, cq, bd, cd, xt, bl, vals, k1, k2, k3, k4⟩ := hq.add hb
  refine ⟨bq, cq, bd, cd, xt, bl, vals, k1.same fun k hk => h6 k fun e => (k2 k hk).2 (by rw [e]; exact .inl h.kd), k2, h7 _ _ h.ld k3, fun k hk => by
    have := k4 k hk
    simp only [World.size_setCell]
    exact this⟩
end
end Go.Proofs.Ytmdajndmobpgbaa

namespace Go.Proofs.Ytmdajndmobpgbaa
open Go.RowKit
open Go.Proofs.Ytmdajndmobpgbaa.Fq
open Go.Proofs.Ytmdajndmobpgbaa.Bk

def dbOf (s : AS) (t : Nat) : DB := ⟨(s.shr t).b, (s.shr t).t, (s.shr t).k, (s.bkt t).1, (s.bkt t).2⟩
/-- The document's admission that is the program's. -/
def docOf (s : AS) : DA := ⟨s.slots, (List.range s.m).map (dbOf s), s.f, sortI s.run⟩
section
variable {s s' : AS} {a : List Nat} {f1 : FQ} {en : Ent} {r : List Ent} {now : Int} {t : Nat}
theorem docOf_len (s : AS) : (docOf s).bks.length = s.m := by show ((List.range s.m).map _).length = _; simp
theorem docOf_get (ht : t < s.m) : (docOf s).bks.getD t nilDB = dbOf s t := by
  show ((List.range s.m).map (dbOf s)).getD t nilDB = _
  simp [List.getD, ht]
theorem bks_ext {l : List DB} (hl : l.length = s.m) (h : ∀ t, t < s.m → l[t]? = some (dbOf s t)) : l = (docOf s).bks := by
  apply List.ext_getElem?
  intro i
  rcases Nat.lt_or_ge i s.m with hi | hi
  · rw [h i hi]
    show _ = ((List.range s.m).map (dbOf s))[i]?
    simp [hi]
  · rw [List.getElem?_eq_none (by omega), List.getElem?_eq_none (by rw [docOf_len]; exact hi)]
theorem docOf_at (ht : t < s.m) : (docOf s).bks[t]? = some (dbOf s t) := by
  show ((List.range s.m).map (dbOf s))[t]? = _
  simp [ht]
theorem docOf_took (h : LOk s a) (ht : t < s.m) (now : Int) : (docOf (s.took t now)).bks = (docOf s).bks.set t ⟨(s.shr t).b, (s.shr t).t, (s.shr t).k, takeP (s.shr t).b (s.shr t).t (s.shr t).k (s.bkt t).1 (s.bkt t).2 now (priceOf s t), takeL (s.bkt t).2 now (priceOf s t)⟩ := by
  symm
  refine bks_ext (s := s.took t now) (by rw [List.length_set, docOf_len]; rfl) fun i hi => ?_
  have hi : i < s.m := hi
  by_cases e : t = i
  · subst e
    rw [List.getElem?_set_self (by rw [docOf_len]; exact ht)]
    unfold dbOf
    rw [show (s.took t now).bkt t = _ from AS.bkt_self (by rw [h.lk]; exact ht) _]
    rfl
  · rw [List.getElem?_set_ne e, docOf_at hi]
    unfold dbOf
    rw [show (s.took t now).bkt i = s.bkt i from AS.bkt_ne e _]
    rfl
theorem price_of (hq : s.q t = en :: r) : priceOf s t = min en.2 (s.shr t).b := by unfold priceOf; rw [hq]
theorem LOk.price1 (h : LOk s a) (ht : t < s.m) (hq : s.q t = en :: r) : 1 ≤ priceOf s t := by
  rw [price_of hq]
  have h1 := (h.sz t ht en (by rw [hq]; simp)).1
  have h2 := (h.bok t ht).b1
  omega
/-- A Start's round, in the document. -/
theorem docOf_failed (s : AS) (t : Nat) (now : Int) : docOf (s.failed t now) = ⟨s.slots, (docOf (s.took t now)).bks, FQ.setL s.f t [], sortI s.run⟩ := rfl
theorem docOf_began (h : LOk s a) (hc : Chs s.f f1) (hl : f1.lst f1.cur = en :: r) (now : Int) : docOf (s.began f1 now en.1) = ⟨s.slots, (docOf (s.took f1.cur now)).bks, f1.pop, insA (sortI s.run) en.1⟩ := by
  obtain ⟨h1, h2, h3, h4⟩ := h.cur hc hl
  have hn : en.1 ∉ s.run := h.u3 f1.cur h1 en (by rw [h3]; simp)
  rw [sortI_ins h.u4 hn]
  rfl
theorem docOf_back (s : AS) : docOf s.back = ⟨s.slots, (docOf s).bks, { s.f with lists := s.ql }, sortI s.run⟩ := rfl
theorem docOf_fin (h : AOk s) (id : Int) (hm : id ∈ s.run) : docOf (finS s id) = ⟨s.slots, (docOf s).bks, s.f, delA (sortI s.run) id⟩ := by
  unfold finS
  rw [if_pos hm, sortI_del h.u4 hm]
  rfl
theorem docOf_plB (h : LOk s a) (id : Int) : plB (docOf s).run id = true ↔ id ∈ s.run := by
  rw [show (docOf s).run = sortI s.run from rfl, plB_iff id (sortI_asc h.u4), sortI_mem]
theorem docOf_run (s : AS) : (docOf s).run.length = s.run.length := sortI_len s.run
/-- Submit. -/
theorem putE_sub (h : AOk s) (t id c : Int) : (subE s t id c = if (putE s.f t id c = 0 ∨ putE s.f t id c = 10) ∧ id ∈ s.run then 4 else putE s.f t id c) := by
  unfold subE putE
  by_cases h1 : 0 ≤ t ∧ t < s.m
  · have h1' : 0 ≤ t ∧ t < s.f.m := by rw [h.lf]; exact h1
    rw [if_neg (Classical.not_not.2 h1), if_neg (Classical.not_not.2 h1')]
    by_cases h2 : c < 1 ∨ 1048576 < c
    · rw [if_pos h2, if_pos h2, if_neg (by omega)]
    · rw [if_neg h2, if_neg h2]
      have e : (s.f.lst t.toNat) = s.q t.toNat := h.fe _ (by omega) (by simp)
      by_cases h3 : s.has id
      · rw [if_pos (.inl h3), if_pos ((fq_has h id).2 h3), if_neg (by omega)]
      · rw [if_neg (show ¬ hasId s.f id from fun hx => h3 ((fq_has h id).1 hx)), e]
        by_cases h4 : id ∈ s.run
        · have h6 : (if 256 ≤ (s.q t.toNat).length then (10 : Int) else 0) = 0 ∨ (if 256 ≤ (s.q t.toNat).length then (10 : Int) else 0) = 10 := by
            by_cases h5 : 256 ≤ (s.q t.toNat).length
            · rw [if_pos h5]; exact .inr rfl
            · rw [if_neg h5]; exact .inl rfl
          rw [if_pos (.inr h4), if_pos ⟨h6, h4⟩]
        · rw [if_neg (by rintro (h | h); exact h3 h; exact h4 h), if_neg (show ¬ (_ ∧ id ∈ s.run) from fun hx => h4 hx.2)]
  · have h1' : ¬ (0 ≤ t ∧ t < s.f.m) := by rw [h.lf]; exact h1
    rw [if_pos h1, if_pos h1', if_neg (by omega)]
theorem docOf_sub0 (h : AOk s) {t id c : Int} (he : subE s t id c = 0) : docOf (subS s t id c) = ⟨s.slots, (docOf s).bks, putS s.f t id c, sortI s.run⟩ := by
  have h0 := putE_sub h t id c
  rw [he] at h0
  have hp : putE s.f t id c = 0 := by
    split at h0
    · omega
    · omega
  obtain ⟨h1, _⟩ := putE_ok hp
  have e : (s.f.lst t.toNat) = s.q t.toNat := h.fe _ (by have := h.lf; omega) (by simp)
  unfold subS
  rw [if_pos he, putS_ok hp, e]
  rfl
theorem subS_bad {t id c : Int} (he : subE s t id c ≠ 0) : subS s t id c = s := by unfold subS; rw [if_neg he]
/-- Cancel. -/
theorem LOk.uid (h : AOk s) : UId s.f := by
  intro t t' i i' e e' he he' hee
  have ht : t < s.m := by rw [← h.lf]; exact lst_lt he
  have ht' : t' < s.m := by rw [← h.lf]; exact lst_lt he'
  rw [h.fe t ht (by simp)] at he
  rw [h.fe t' ht' (by simp)] at he'
  by_cases e1 : t = t'
  · subst e1
    refine ⟨rfl, ?_⟩
    have hn := h.u1 t ht
    obtain ⟨hi, g1⟩ := List.getElem?_eq_some_iff.1 he
    obtain ⟨hi', g2⟩ := List.getElem?_eq_some_iff.1 he'
    exact (List.getElem_inj (h₀ := by simpa using hi) (h₁ := by simpa using hi') hn).1 (by rw [List.getElem_map, List.getElem_map, g1, g2]; exact hee)
  · exact absurd hee (h.u2 t t' ht ht' e1 e (List.mem_of_getElem? he) e' (List.mem_of_getElem? he'))
theorem afind_fq (h : AOk s) {id : Int} {t i : Nat} (hf : AFind s id (some (t, i))) : FindR s.f id (some (t, i)) := by
  obtain ⟨h1, ⟨e, h2, h3⟩, h4, h5⟩ := hf
  have q : ∀ k, k < s.m → s.f.lst k = s.q k := fun k hk => h.fe k hk (by simp)
  exact ⟨by rw [h.lf]; exact h1, ⟨e, by rw [q t h1]; exact h2, h3⟩, fun j hj e' he' => h4 j hj e' (by rw [← q t h1]; exact he'), fun t' ht' e' he' => h5 t' ht' e' (by rw [← q t' (by omega)]; exact he')⟩
theorem docOf_can (h : AOk s) {id : Int} {t i : Nat} (hf : AFind s id (some (t, i))) : docOf (canS s t i) = ⟨s.slots, (docOf s).bks, canT s.f id s.f.m, sortI s.run⟩ := by
  rw [canT_eq h.uid (afind_fq h hf)]
  have q : s.f.lst t = s.q t := h.fe t hf.1 (by simp)
  rw [q]
  rfl
/-- Start's inner cancels. -/
theorem canT_drop (h : LOk s a) {c j : Nat} (hc : c < s.m) (hj : j < (s.q c).length) : canT (FQ.setL s.f c ((s.q c).drop j)) (s.q c)[j].1 s.m = FQ.setL s.f c ((s.q c).drop (j + 1)) := by
  have hcf : c < s.f.m := by rw [h.lf]; exact hc
  have hls := setL_lst_self hcf ((s.q c).drop j)
  have hd : (s.q c).drop j = (s.q c)[j] :: (s.q c).drop (j + 1) := List.drop_eq_getElem_cons hj
  have hm : (FQ.setL s.f c ((s.q c).drop j)).m = s.m := (setL_m _ _ _).trans h.lf
  have hnd := h.u1 c hc
  have hlists : (canT (FQ.setL s.f c ((s.q c).drop j)) (s.q c)[j].1 s.m).lists = (FQ.setL s.f c ((s.q c).drop (j + 1))).lists := by
    apply List.ext_getElem?
    intro k
    rcases Nat.lt_or_ge k s.m with hk | hk
    · have h1 := lists_get (s := canT (FQ.setL s.f c ((s.q c).drop j)) (s.q c)[j].1 s.m) (k := k) (by rw [canT_m, hm]; exact hk)
      have h2 := lists_get (s := FQ.setL s.f c ((s.q c).drop (j + 1))) (k := k) (by rw [setL_m, h.lf]; exact hk)
      rw [h1, h2, canT_lst (by rw [hm]; exact Nat.le_refl _) hk]
      by_cases e1 : c = k
      · subst e1
        rw [hls, setL_lst_self hcf, hd]
        unfold noId
        rw [List.filter_cons, if_neg (by simp)]
        congr 1
        refine List.filter_eq_self.2 fun y hy => ?_
        simp only [Bool.not_eq_true', beq_eq_false_iff_ne, ne_eq]
        intro e
        obtain ⟨i, hi, rfl⟩ := List.getElem_of_mem hy
        rw [List.length_drop] at hi
        rw [List.getElem_drop] at e
        have := List.pairwise_iff_getElem.1 hnd j (j + 1 + i) (by rw [List.length_map]; exact hj) (by rw [List.length_map]; omega) (by omega)
        rw [List.getElem_map, List.getElem_map] at this
        exact this e.symm
      · rw [setL_lst_ne e1, setL_lst_ne e1, noId_none]
        intro x hx
        exact fun e => h.u2 k c hk hc (Ne.symm e1) x (h.sub hk x hx) (s.q c)[j] (List.getElem_mem _) e
    · have h1 : (canT (FQ.setL s.f c ((s.q c).drop j)) (s.q c)[j].1 s.m).lists.length = s.m := (canT_m s.m).trans hm
      have h2 : (FQ.setL s.f c ((s.q c).drop (j + 1))).lists.length = s.m := (setL_m s.f c _).trans h.lf
      rw [List.getElem?_eq_none (by omega), List.getElem?_eq_none (by omega)]
  obtain ⟨h1, h2, h3, h4⟩ := canT_cur (s := FQ.setL s.f c ((s.q c).drop j)) (id := (s.q c)[j].1) s.m
  cases hcc : canT (FQ.setL s.f c ((s.q c).drop j)) (s.q c)[j].1 s.m
  rw [hcc] at hlists h1 h2 h3 h4
  simp only at hlists h1 h2 h3 h4
  subst h1 h2 h3 h4 hlists
  rfl
end
/-- What stands aside. -/
def asd (s : AS) (a : List Nat) (t : Nat) : List Ent := if t ∈ a then s.q t else []
theorem asd_failed (s : AS) (a : List Nat) (c : Nat) (now : Int) (t : Nat) : asd (s.failed c now) (a ++ [c]) t = if t = c then s.q c else asd s a t := by
  unfold asd
  by_cases e : t = c
  · subst e
    rw [if_pos rfl, if_pos (by simp)]
    rfl
  · rw [if_neg e]
    by_cases h : t ∈ a
    · rw [if_pos h, if_pos (by simp [h])]; rfl
    · rw [if_neg h, if_neg (by simp [h, e])]
theorem asd_began {s : AS} {a : List Nat} {f1 : FQ} {en : Ent} (h : f1.cur ∉ a) (now : Int) (t : Nat) : asd (s.began f1 now en.1) a t = asd s a t := by
  unfold asd
  by_cases h1 : t ∈ a
  · rw [if_pos h1, if_pos h1]
    exact (began_ne (s := s) (f1 := f1) (en := en) (fun e => h (e ▸ h1)) now).1
  · rw [if_neg h1, if_neg h1]
/-- Behind the first loop: the first k tenants are put back. -/
def putB (s : AS) (a : List Nat) : Nat → FQ
  | 0 => s.f
  | k + 1 => if k ∈ a then FQ.setL (putB s a k) k (s.q k) else putB s a k
theorem putB_ok {s : AS} {a : List Nat} (h : LOk s a) : ∀ k, k ≤ s.m → LOk (s.setF (putB s a k)) (a.filter fun t => decide (k ≤ t)) ∧ putB s a k = { s.f with lists := (putB s a k).lists }
  | 0, _ => by
    refine ⟨?_, rfl⟩
    have : (a.filter fun t => decide (0 ≤ t)) = a := List.filter_eq_self.2 fun x _ => by simp
    rw [this]
    exact h
  | k + 1, hk => by
    obtain ⟨ih, ih2⟩ := putB_ok h k (by omega)
    have hn := ih.an
    unfold putB
    by_cases hm : k ∈ a
    · rw [if_pos hm]
      refine ⟨?_, by rw [show FQ.setL (putB s a k) k (s.q k) = { putB s a k with lists := (putB s a k).lists.set k (s.q k) } from rfl]; rw [ih2]⟩
      have hmk : k ∈ a.filter fun t => decide (k ≤ t) := List.mem_filter.2 ⟨hm, by simp⟩
      have hp : LOk (s.setF (putB s a k)) (k :: (a.filter fun t => decide (k + 1 ≤ t))) := by
        have hset : ∀ x, x ∈ (k :: (a.filter fun t => decide (k + 1 ≤ t))) ↔ x ∈ a.filter fun t => decide (k ≤ t) := fun x => by
          simp only [List.mem_cons, List.mem_filter, decide_eq_true_eq]
          constructor
          · rintro (rfl | ⟨h1, h2⟩)
            · exact ⟨hm, by omega⟩
            · exact ⟨h1, by omega⟩
          · rintro ⟨h1, h2⟩
            by_cases e : x = k
            · exact .inl e
            · exact .inr ⟨h1, by omega⟩
        exact { ih with
          an := List.nodup_cons.2 ⟨by simp [List.mem_filter], (h.an.sublist List.filter_sublist)⟩
          am := fun x hx => ih.am x ((hset x).1 hx)
          fe := fun x hx hnx => ih.fe x hx fun hm => hnx ((hset x).2 hm) }
      exact hp.put
    · rw [if_neg hm]
      refine ⟨?_, ih2⟩
      have : (a.filter fun t => decide (k + 1 ≤ t)) = a.filter fun t => decide (k ≤ t) := List.filter_congr fun x hx => by
        have : x ≠ k := fun e => hm (e ▸ hx)
        simp only [decide_eq_decide]
        omega
      rw [this]
      exact ih
theorem putB_back {s : AS} {a : List Nat} (h : LOk s a) : s.setF (putB s a s.m) = s.back := by
  obtain ⟨h1, h2⟩ := putB_ok h s.m (Nat.le_refl _)
  have e : (a.filter fun t => decide (s.m ≤ t)) = [] := List.filter_eq_nil_iff.2 fun x hx => by have := (h.am x hx).1; simp; omega
  rw [e] at h1
  exact back_of h1 h2
/-- Entry j of tenant k is put back. -/
theorem putB_step {s : AS} {a : List Nat} (h : LOk s a) {k j : Nat} (hk : k < s.m) (hm : k ∈ a) (hj : j < (s.q k).length) :
    putS (FQ.setL (putB s a k) k ((s.q k).take j)) k (s.q k)[j].1 (s.q k)[j].2 = FQ.setL (putB s a k) k ((s.q k).take (j + 1)) ∧ (FQ.setL (putB s a k) k ((s.q k).take j)).m = s.m ∧ Short (FQ.setL (putB s a k) k ((s.q k).take j)) := by
  obtain ⟨ih, _⟩ := putB_ok h k (by omega)
  obtain ⟨c1, c2, c3, c4, c5⟩ := put_cond ih hk hj
  refine ⟨?_, c3, c2⟩
  have hs := h.sz k hk (s.q k)[j] (List.getElem_mem _)
  have hl := h.len k hk
  have hE : putE (FQ.setL (putB s a k) k ((s.q k).take j)) k (s.q k)[j].1 (s.q k)[j].2 = 0 := by
    unfold putE
    rw [if_neg (by rw [c3]; omega), if_neg (by omega), if_neg c1, Int.toNat_natCast, c4, if_neg (by rw [List.length_take]; omega)]
  rw [putS_ok hE, Int.toNat_natCast]
  exact c5
theorem putB_zero {s : AS} {a : List Nat} (h : LOk s a) {k : Nat} (hk : k < s.m) (hm : k ∈ a) : putB s a k = FQ.setL (putB s a k) k ((s.q k).take 0) := by
  obtain ⟨ih, _⟩ := putB_ok h k (by omega)
  have he := (ih.am k (List.mem_filter.2 ⟨hm, by simp⟩)).2
  have he : (putB s a k).lst k = [] := he
  have hlf : (putB s a k).m = s.m := ih.lf
  have hkl : k < (putB s a k).lists.length := by have : (putB s a k).lists.length = s.m := hlf; omega
  show _ = { putB s a k with lists := (putB s a k).lists.set k [] }
  have : (putB s a k).lists.set k [] = (putB s a k).lists := by
    unfold FQ.lst at he
    rw [List.getD_eq_getElem?_getD, List.getElem?_eq_getElem hkl] at he
    have he : (putB s a k).lists[k] = [] := he
    rw [← he]
    exact List.set_getElem_self hkl
  rw [this]
theorem putB_m {s : AS} {a : List Nat} (h : LOk s a) {k : Nat} (hk : k ≤ s.m) : (putB s a k).m = s.m ∧ Short (putB s a k) := by
  obtain ⟨ih, _⟩ := putB_ok h k hk
  have hlf : (putB s a k).m = s.m := ih.lf
  exact ⟨hlf, fun t ht => by rw [hlf] at ht; have := ih.flen (s := s.setF (putB s a k)) ht; have : ((putB s a k).lst t).length ≤ 256 := this; omega⟩
/-- Tenant k is put back, its first j entries. -/
def putF (s : AS) (a : List Nat) (k j : Nat) : FQ := if k ∈ a then FQ.setL (putB s a k) k ((s.q k).take j) else putB s a k
theorem putF_zero {s : AS} {a : List Nat} (h : LOk s a) {k : Nat} (hk : k < s.m) : putF s a k 0 = putB s a k := by
  unfold putF
  by_cases hm : k ∈ a
  · rw [if_pos hm]; exact (putB_zero h hk hm).symm
  · rw [if_neg hm]
theorem putF_end (s : AS) (a : List Nat) (k : Nat) : putF s a k (asd s a k).length = putB s a (k + 1) := by
  unfold putF asd
  show _ = if k ∈ a then FQ.setL (putB s a k) k (s.q k) else putB s a k
  by_cases hm : k ∈ a
  · rw [if_pos hm, if_pos hm, if_pos hm, List.take_length]
  · rw [if_neg hm, if_neg hm]
theorem putF_m {s : AS} {a : List Nat} (h : LOk s a) {k j : Nat} (hk : k < s.m) : (putF s a k j).m = s.m ∧ Short (putF s a k j) := by
  obtain ⟨h1, h2⟩ := putB_m h (Nat.le_of_lt hk)
  unfold putF
  by_cases hm : k ∈ a
  · rw [if_pos hm]
    refine ⟨(setL_m _ _ _).trans h1, fun t ht => ?_⟩
    rw [setL_m] at ht
    by_cases e : k = t
    · subst e
      rw [setL_lst_self ht, List.length_take]
      have := h.len k hk
      omega
    · rw [setL_lst_ne e]; exact h2 t ht
  · rw [if_neg hm]; exact ⟨h1, h2⟩
theorem asd_len {s : AS} {a : List Nat} (h : LOk s a) {k : Nat} (hk : k < s.m) : (asd s a k).length ≤ 256 := by
  unfold asd
  split
  · exact h.len k hk
  · simp
theorem putF_step {s : AS} {a : List Nat} (h : LOk s a) {k j : Nat} (hk : k < s.m) {e : Ent} (he : (asd s a k)[j]? = some e) : putS (putF s a k j) k e.1 e.2 = putF s a k (j + 1) := by
  unfold putF
  by_cases hm : k ∈ a
  · rw [if_pos hm, if_pos hm]
    unfold asd at he
    rw [if_pos hm] at he
    obtain ⟨hj, rfl⟩ := List.getElem?_eq_some_iff.1 he
    exact (putB_step h hk hm hj).1
  · unfold asd at he
    rw [if_neg hm] at he
    simp at he
theorem docOf_putB {s : AS} {a : List Nat} (h : LOk s a) : { docOf s with f := putB s a s.m } = docOf s.back := by
  rw [← putB_back h]
  rfl
end Go.Proofs.Ytmdajndmobpgbaa

namespace Go.Proofs.Ytmdajndmobpgbaa
open Go.RowKit
open Go.Proofs.Ytmdajndmobpgbaa.Fq
open Go.Proofs.Ytmdajndmobpgbaa.Bk

def StJ (K : Nat → Prop) (w : World) (g : Nat) (vo : Value) (k : Nat) : Prop := (K k ∨ w.heap.size ≤ k) ∧ k ≠ g ∧ vo.ownBlock ≠ some k
/-- Within Start: the admission in its box bx, the zero result in rx, what stands aside in block g, what started in vo. -/
structure StD (w : World) (K : Nat → Prop) (bx rx gg m : Nat) (q : DQ) (lv lva : List Value) (dd : DA) (A : Nat → List Ent) (o : List Int) (vo : Value) (wx : World) : Prop where
  bo : BA w bx rx (daC q dd) zDA wx
  d : DAt (StJ K w gg vo) wx q lv dd
  g : wx.heap[gg]? = some (.cells lva.toArray 127 (0, 0))
  lg : w.heap.size ≤ gg
  len : lva.length = m
  one : ∀ u ∈ lva, u.oneCell' = true
  e : ∀ t, t < m → OL wx 129 2 (lva.getD t nilS) (A t).length (entCells (A t))
  v : IsI wx vo o
  kv : ∀ k, vo.ownBlock = some k → w.heap.size ≤ k
section
variable {w wx wy : World} {K : Nat → Prop} {bx rx g m : Nat} {q : DQ} {lv lva : List Value} {d : DA} {A : Nat → List Ent} {o : List Int} {vo : Value}
theorem DAt.keep {J : Nat → Prop} (h : DAt J wx q lv d) (hh : ∀ k, k < wx.heap.size → J k → wy.heap[k]? = wx.heap[k]?) (hs : wx.heap.size ≤ wy.heap.size) : DAt J wy q lv d :=
  ((h.to (J := fun k => J k ∧ k < wx.heap.size) (fun _ hk hx => ⟨hx, hk⟩)).same ⟨fun k hk => hh k hk.2 hk.1, hs⟩).to fun _ _ hk => hk.1
theorem RQK.other {J : Nat → Prop} {vq vd vl : Value} {f : FQ} (h : RQK J wx vq vd vl lv f) (hh : ∀ (k : Nat) (cur : Array Value) (t : TypeId), t ≠ tDA → wx.heap[k]? = some (.cells cur t (0, 0)) → wy.heap[k]? = wx.heap[k]?) : RQK J wy vq vd vl lv f := by
  have key : ∀ {e : TypeId} {size n : Nat} {u : Value} {xs : List Value}, e ≠ tDA → OL wx e size u n xs → OL wy e size u n xs := fun {e size n u xs} he ho => OL.heap ho fun g hg => by
    obtain ⟨cur, hc⟩ := OL.elem ho g hg
    exact hh g _ _ he hc
  exact ⟨⟨key (by decide) h.a.q, key (by decide) h.a.d, key (by decide) h.a.l, h.a.lvl, h.a.one, fun t ht => key (by decide) (h.a.e t ht), h.a.lq, h.a.ld⟩, h.kq, h.kd, h.kl, h.ke⟩
theorem RQK.cellB {J : Nat → Prop} {vq vd vl : Value} {f : FQ} {cs : Array Value} (h : RQK J wx vq vd vl lv f) (hb : wx.heap[bx]? = some (.cells cs tDA (0, 0))) (i : Nat) (u : Value) : RQK J (wx.setCell ⟨bx, i, none⟩ u) vq vd vl lv f := h.other fun k cur t ht hk => Below.heap_setCell _ _ _ _ (type_ne hk hb ht)
theorem StD.gN (h : StD w K bx rx g m q lv lva d A o vo wx) : g ≠ bx ∧ g ≠ rx ∧ (∀ k, vo.ownBlock = some k → k ≠ g ∧ k ≠ bx ∧ k ≠ rx) := by
  refine ⟨type_ne h.g h.bo.o (by decide), type_ne h.g h.bo.r (by decide), fun k hk => ?_⟩
  obtain ⟨cur, hc⟩ := OL.elem h.v k hk
  exact ⟨type_ne hc h.g (by decide), type_ne hc h.bo.o (by decide), type_ne hc h.bo.r (by decide)⟩
theorem StD.bel (h : StD w K bx rx g m q lv lva d A o vo wx) (hb : Below wx.heap.size wx wy) : StD w K bx rx g m q lv lva d A o vo wy :=
  ⟨h.bo.bel hb, h.d.bel hb, (hb.block g (lt_of_block h.g)).trans h.g, h.lg, h.len, h.one, fun t ht => (h.e t ht).bel hb, OL.bel h.v hb, h.kv⟩
/-- A write into the admission's box. -/
theorem StD.box {ds : Array Value} {q' : DQ} {lv' : List Value} {d' : DA} (h : StD w K bx rx g m q lv lva d A o vo wx) (ho : wy.heap[bx]? = some (.cells ds tDA (0, 0))) (hd : ds = daC q' d')
    (hh : ∀ k, k ≠ bx → wy.heap[k]? = wx.heap[k]?) (hb : Below w.heap.size w wy) (hD : DAt (StJ K w g vo) wy q' lv' d') : StD w K bx rx g m q' lv' lva d' A o vo wy := by
  have key : ∀ {e : TypeId} {size n : Nat} {u : Value} {xs : List Value}, e ≠ tDA → OL wx e size u n xs → OL wy e size u n xs := fun {e size n u xs} he ho => OL.heap ho fun g hg => by
    obtain ⟨cur, hc⟩ := OL.elem ho g hg
    exact hh g (type_ne hc h.bo.o he)
  subst hd
  exact ⟨⟨ho, (hh rx h.bo.ne.symm).trans h.bo.r, h.bo.ne, h.bo.lb, h.bo.lr, hb⟩, hD, (hh g h.gN.1).trans h.g, h.lg, h.len, h.one, fun t ht => key (by decide) (h.e t ht), key (by decide) h.v, h.kv⟩
/-- The buckets are replaced. -/
theorem StD.bks {l : List DB} {v : Value} (h : StD w K bx rx g m q lv lva d A o vo wx) (hr : RowsAt 114 5 dbC wx v l) (hk : ∀ k, v.ownBlock = some k → w.heap.size ≤ k) :
    StD w K bx rx g m ⟨v, q.q, q.d, q.l, q.r⟩ lv lva { d with bks := l } A o vo (wx.setCell ⟨bx, 1, none⟩ v) := by
  have hx := setCell_heap_self (o := 1) (u := v) h.bo.o
  refine h.box hx rfl (fun k hk => Below.heap_setCell _ _ _ _ hk) (h.bo.b.setCell (p := ⟨bx, 1, none⟩) h.bo.lb _) ?_
  have h1 := h.d.cellB h.bo.o 1 v
  have h2 : RowsAt 114 5 dbC (wx.setCell ⟨bx, 1, none⟩ v) v l := OL.heap hr fun g hg => by
    obtain ⟨cur, hc⟩ := OL.elem hr g hg
    exact Below.heap_setCell _ _ _ _ (type_ne hc h.bo.o (by decide))
  refine ⟨h2, h1.f, h1.r, fun k hk2 => ⟨.inr (hk k hk2), ?_, ?_⟩, h1.kr⟩
  · obtain ⟨cur, hc⟩ := OL.elem hr k hk2
    exact type_ne hc h.g (by decide)
  · intro e
    obtain ⟨cur, hc⟩ := OL.elem hr k hk2
    obtain ⟨cur', hc'⟩ := OL.elem h.v k e
    exact type_ne hc hc' (by decide) rfl
/-- The queue is replaced. -/
theorem StD.queue {f : FQ} {vq vd vl : Value} {lv' : List Value} (h : StD w K bx rx g m q lv lva d A o vo wx) (hr : RQK (StJ K w g vo) wx vq vd vl lv' f) :
    StD w K bx rx g m ⟨q.b, vq, vd, vl, q.r⟩ lv' lva { d with f := f } A o vo (((((wx.setCell ⟨bx, 2, none⟩ vq).setCell ⟨bx, 3, none⟩ vd).setCell ⟨bx, 4, none⟩ vl).setCell ⟨bx, 5, none⟩ (.int .i64 f.cur)).setCell ⟨bx, 6, none⟩ (.bool f.begun)) := by
  refine h.box (setQ8 h.bo.o vq vd vl (.int .i64 f.cur) (.bool f.begun)) rfl (fun k hk => ?_) (h.bo.setQ vq vd vl (.int .i64 f.cur) (.bool f.begun)).b ?_
  · rw [Below.heap_setCell _ _ _ _ hk, Below.heap_setCell _ _ _ _ hk, Below.heap_setCell _ _ _ _ hk, Below.heap_setCell _ _ _ _ hk, Below.heap_setCell _ _ _ _ hk]
  · have h1 : DAt (StJ K w g vo) wx ⟨q.b, vq, vd, vl, q.r⟩ lv' { d with f := f } := ⟨h.d.b, hr, h.d.r, h.d.kb, h.d.kr⟩
    exact h1.setQ h.bo.o vq vd vl (.int .i64 f.cur) (.bool f.begun)
/-- What runs is replaced. -/
theorem StD.runs {r : List Int} {v : Value} (h : StD w K bx rx g m q lv lva d A o vo wx) (hr : OL wx 3 1 v r.length (ints r)) (hk : ∀ k, v.ownBlock = some k → w.heap.size ≤ k ∧ vo.ownBlock ≠ some k) :
    StD w K bx rx g m ⟨q.b, q.q, q.d, q.l, v⟩ lv lva { d with run := r } A o vo (wx.setCell ⟨bx, 7, none⟩ v) := by
  have hx := setCell_heap_self (o := 7) (u := v) h.bo.o
  refine h.box hx rfl (fun k hk => Below.heap_setCell _ _ _ _ hk) (h.bo.b.setCell (p := ⟨bx, 7, none⟩) h.bo.lb _) ?_
  have h1 := h.d.cellB h.bo.o 7 v
  have h2 : OL (wx.setCell ⟨bx, 7, none⟩ v) 3 1 v r.length (ints r) := OL.heap hr fun g hg => by
    obtain ⟨cur, hc⟩ := OL.elem hr g hg
    exact Below.heap_setCell _ _ _ _ (type_ne hc h.bo.o (by decide))
  refine ⟨h1.b, h1.f, h2, h1.kb, fun k hk2 => ⟨.inr (hk k hk2).1, ?_, (hk k hk2).2⟩⟩
  obtain ⟨cur, hc⟩ := OL.elem hr k hk2
  exact type_ne hc h.g (by decide)
/-- What started grows. -/
theorem StD.out {o' : List Int} {v' : Value} (h : StD w K bx rx g m q lv lva d A o vo wx) (hg : wx.grownBy wy vo.ownBlock) (hv : IsI wy v' o') (hk : ∀ k, v'.ownBlock = some k → vo.ownBlock = some k ∨ wx.heap.size ≤ k) :
    StD w K bx rx g m q lv lva d A o' v' wy := by
  have hh : ∀ k, k < wx.heap.size → vo.ownBlock ≠ some k → wy.heap[k]? = wx.heap[k]? := fun k hk hn => hg.block k hk fun e => hn e.symm
  have hty : ∀ (b : Nat) (cs : Array Value) (t : TypeId), t ≠ 3 → wx.heap[b]? = some (Obj.cells cs t (0, 0)) → wy.heap[b]? = wx.heap[b]? := fun b cs t ht hc => hh b (lt_of_block hc) fun e => by
    obtain ⟨cur, hc'⟩ := OL.elem h.v b e
    exact type_ne hc hc' ht rfl
  have hbw : Below w.heap.size w wy := h.bo.b.grown hg h.bo.b.size h.kv
  have hkv' : ∀ k, v'.ownBlock = some k → w.heap.size ≤ k := fun k hk2 => (hk k hk2).elim (h.kv k) fun hx => Nat.le_trans h.bo.b.size hx
  refine ⟨⟨(hty bx _ _ (by decide) h.bo.o).trans h.bo.o, (hty rx _ _ (by decide) h.bo.r).trans h.bo.r, h.bo.ne, h.bo.lb, h.bo.lr, hbw⟩, ?_, (hty g _ _ (by decide) h.g).trans h.g, h.lg, h.len, h.one, fun t ht => OL.heap (h.e t ht) fun k hk2 => by
    obtain ⟨cur, hc⟩ := OL.elem (h.e t ht) k hk2
    exact hty k _ _ (by decide) hc, hv, hkv'⟩
  have h1 : DAt (fun k => StJ K w g vo k ∧ k < wx.heap.size) wy q lv d := (h.d.to (J := fun k => StJ K w g vo k ∧ k < wx.heap.size) (fun _ hk hx => ⟨hx, hk⟩)).same ⟨fun k hk => hh k hk.2 hk.1.2.2, hg.size⟩
  exact h1.to fun k _ hk2 => ⟨hk2.1.1, hk2.1.2.1, fun e => (hk k e).elim hk2.1.2.2 fun hx => by have := hk2.2; omega⟩
/-- A list is set aside. -/
theorem StD.asd {t : Nat} {u : Value} {l : List Ent} (h : StD w K bx rx g m q lv lva d A o vo wx) (hu : OL wx 129 2 u l.length (entCells l)) (hu1 : u.oneCell' = true) (ht : t < m) :
    StD w K bx rx g m q lv (lva.set t u) d (fun k => if k = t then l else A k) o vo (wx.setCell ⟨g, t, none⟩ u) := by
  have hh : ∀ k, k ≠ g → (wx.setCell ⟨g, t, none⟩ u).heap[k]? = wx.heap[k]? := fun k hk => Below.heap_setCell _ _ _ _ hk
  have hty : ∀ {e : TypeId} {size n : Nat} {u : Value} {xs : List Value}, e ≠ 127 → OL wx e size u n xs → OL (wx.setCell ⟨g, t, none⟩ _) e size u n xs := fun {e size n u xs} he ho => OL.heap ho fun k hg => by
    obtain ⟨cur, hc⟩ := OL.elem ho k hg
    exact hh k (type_ne hc h.g he)
  obtain ⟨n1, n2, n3⟩ := h.gN
  refine ⟨⟨(hh bx (Ne.symm n1)).trans h.bo.o, (hh rx (Ne.symm n2)).trans h.bo.r, h.bo.ne, h.bo.lb, h.bo.lr, h.bo.b.setCell (p := ⟨g, t, none⟩) h.lg _⟩, h.d.keep (fun k _ hk => hh k hk.2.1) (by simp), ?_, h.lg, by rw [List.length_set]; exact h.len, fun x hx => ?_, fun k hk => ?_, hty (by decide) h.v, h.kv⟩
  · have := setCell_heap_self (o := t) (u := u) h.g
    rw [this]
    congr 2
    simp
  · rcases List.mem_or_eq_of_mem_set hx with hx | hx
    · exact h.one x hx
    · rw [hx]; exact hu1
  · by_cases e : k = t
    · subst e
      rw [show (lva.set k u).getD k nilS = u by simp [List.getD, h.len, ht], if_pos rfl]
      exact hty (by decide) hu
    · rw [show (lva.set t u).getD k nilS = lva.getD k nilS by simp [List.getD, List.getElem?_set_ne (Ne.symm e)], if_neg e]
      exact hty (by decide) (h.e k hk)
/-- Start's begin. -/
theorem StD.start (h : DAt K w q lv d) (hm : m ≤ 16) : StD w K w.heap.size (w.heap.size + 1) (w.heap.size + 2) m q lv (List.replicate m nilS) d (fun _ => []) [] (.slice none 0 0)
    (((w.alloc (.cells (daC q d) tDA)).alloc (.cells zDA tDA)).alloc (.cells (madeCells #[.slice none 0 0] m) 127)) := by
  have hb0 := BA.start w (daC q d) zDA
  have hz : ((w.alloc (.cells (daC q d) tDA)).alloc (.cells zDA tDA)).heap.size = w.heap.size + 2 := by simp
  have hba := (Below.refl ((w.alloc (.cells (daC q d) tDA)).alloc (.cells zDA tDA)).heap.size ((w.alloc (.cells (daC q d) tDA)).alloc (.cells zDA tDA))).alloc (Nat.le_refl _) (.cells (madeCells #[.slice none 0 0] m) 127)
  have hqa := heap_alloc_new ((w.alloc (.cells (daC q d) tDA)).alloc (.cells zDA tDA)) (.cells (madeCells #[.slice none 0 0] m) 127)
  rw [hz] at hqa
  have hb1 := hb0.bel hba
  rw [madeCells_list] at hqa
  refine ⟨hb1, ((h.to (J := fun k => K k ∧ k < w.heap.size) fun k hk hx => ⟨hx, hk⟩).bel hb1.b).to fun k _ hk => ?_, by rw [madeCells_list]; exact hqa, by omega, by simp, fun u hu => ?_, fun t ht => ?_, OL.nil _ _ _, fun k hk => by simp [Value.ownBlock] at hk⟩
  · exact ⟨.inl hk.1, by have := hk.2; omega, by simp [Value.ownBlock]⟩
  · obtain ⟨_, rfl⟩ := List.mem_replicate.1 hu
    rfl
  · rw [show (List.replicate m nilS).getD t nilS = nilS by simp [List.getD, ht]]
    exact OL.nil _ _ _
/-- Start's end. -/
theorem StD.fin (h : StD w K bx rx g m q lv lva d A o vo wx) (ds : Array Value) : IsI (wx.setRow rx ds) vo o ∧ DAt (fun j => K j ∨ w.heap.size ≤ j) (wx.setRow rx ds) q lv d ∧ Below w.heap.size w (wx.setRow rx ds) :=
  ⟨OL.heap h.v fun k hk => by
    obtain ⟨cur, hc⟩ := OL.elem h.v k hk
    exact setRow_other _ _ _ _ (type_ne hc h.bo.r (by decide)), (h.d.to (J := fun j => K j ∨ w.heap.size ≤ j) fun _ _ hk => hk.1).rowB h.bo.r ds, h.bo.fin ds⟩
end
end Go.Proofs.Ytmdajndmobpgbaa

/- fair: plain: ids are there once; what a play keeps; both queues beside one another. Conditions: none. -/
import Derived.Test.YtdcmkonmojiefaaFrE2
import Derived.Test.YtdcmkonmojiefaaFrF
import Derived.Test.YtdcmkonmojiefaaFrB2
namespace Go.Proofs.Ytdcmkonmojiefaa
open Go.RowKit
open Go.Proofs.Ytdcmkonmojiefaa.Fq

/-- No id is there twice. -/
def UId (s : FQ) : Prop := ∀ (t t' i i' : Nat) (e e' : Ent), (s.lst t)[i]? = some e → (s.lst t')[i']? = some e' → e.1 = e'.1 → t = t' ∧ i = i'
section
variable {s : FQ} {id : Int}
theorem lists_get {k : Nat} (h : k < s.m) : s.lists[k]? = some (s.lst k) := by
  have h' : k < s.lists.length := h
  simp [FQ.lst, List.getD, h']
theorem lst_eq {s s' : FQ} (h : s'.lists = s.lists) (k : Nat) : s'.lst k = s.lst k := congrArg (fun l => l.getD k []) h
theorem lst_out {t : Nat} (h : s.m ≤ t) : s.lst t = [] := by
  unfold FQ.lst
  simp [List.getD, List.getElem?_eq_none (show s.lists.length ≤ t from h)]
theorem lst_lt {t i : Nat} {e : Ent} (h : (s.lst t)[i]? = some e) : t < s.m := by
  rcases Nat.lt_or_ge t s.m with h1 | h1
  · exact h1
  · rw [lst_out h1] at h; simp at h
theorem noId_erase : ∀ {l : List Ent} {i : Nat} {e : Ent}, l[i]? = some e → e.1 = id → (∀ j e', l[j]? = some e' → e'.1 = id → j = i) → noId id l = l.eraseIdx i
  | [], i, e, h, _, _ => by simp at h
  | x :: l, 0, e, h, h1, h2 => by
    have hx : x = e := by simpa using h
    subst hx
    have hn : ∀ y ∈ l, ¬ y.1 = id := fun y hy hy2 => by
      obtain ⟨k, hk, hk2⟩ := List.getElem_of_mem hy
      have := h2 (k + 1) y (by simp [List.getElem?_eq_getElem hk, hk2]) hy2
      omega
    unfold noId
    simp only [List.filter_cons, h1, beq_self_eq_true, Bool.not_true, Bool.false_eq_true, if_false, List.eraseIdx_cons_zero]
    exact List.filter_eq_self.2 fun y hy => by simpa using hn y hy
  | x :: l, i + 1, e, h, h1, h2 => by
    have hx : ¬ x.1 = id := fun hx => by have := h2 0 x (by simp) hx; omega
    have ih := noId_erase (l := l) (i := i) (e := e) (by simpa using h) h1 (fun j e' hj he => by have := h2 (j + 1) e' (by simpa using hj) he; omega)
    unfold noId at ih ⊢
    rw [List.eraseIdx_cons_succ, List.filter_cons, if_pos (by simpa using hx), ih]
theorem noId_none {l : List Ent} (h : ∀ e ∈ l, e.1 ≠ id) : noId id l = l := List.filter_eq_self.2 fun e he => by simpa using h e he
theorem canT_lst {k : Nat} : ∀ {t : Nat}, t ≤ s.m → k < t → (canT s id t).lst k = noId id (s.lst k)
  | 0, _, h => by omega
  | t + 1, ht, h => by
    show (FQ.setL (canT s id t) t _).lst k = _
    by_cases e : t = k
    · subst e
      rw [setL_lst_self (by rw [canT_m]; omega)]
    · rw [setL_lst_ne e]
      exact canT_lst (by omega) (by omega)
theorem canT_eq (hu : UId s) {t i : Nat} (hf : FindR s id (some (t, i))) : canT s id s.m = FQ.setL s t ((s.lst t).eraseIdx i) := by
  obtain ⟨ht, ⟨e, he, hi⟩, _⟩ := hf
  have hlists : (canT s id s.m).lists = (FQ.setL s t ((s.lst t).eraseIdx i)).lists := by
    apply List.ext_getElem?
    intro k
    rcases Nat.lt_or_ge k s.m with hk | hk
    · have h1 := lists_get (s := canT s id s.m) (k := k) (by rw [canT_m]; exact hk)
      have h2 := lists_get (s := FQ.setL s t ((s.lst t).eraseIdx i)) (k := k) (by rw [setL_m]; exact hk)
      rw [h1, h2, canT_lst (Nat.le_refl _) hk]
      by_cases e1 : t = k
      · subst e1
        rw [setL_lst_self ht, noId_erase he hi (fun j e' hj he' => (hu t t j i e' e hj he (by rw [he', hi])).2)]
      · rw [setL_lst_ne e1, noId_none]
        intro x hx hx2
        obtain ⟨j, hj, hj2⟩ := List.getElem_of_mem hx
        have h3 : (s.lst k)[j]? = some x := by rw [List.getElem?_eq_getElem hj, hj2]
        exact e1 (hu t k i j e x he h3 (by rw [hi, hx2])).1
    · have h1 : (canT s id s.m).lists.length = s.m := canT_m s.m
      have h2 : (FQ.setL s t ((s.lst t).eraseIdx i)).lists.length = s.m := setL_m s t _
      rw [List.getElem?_eq_none (by omega), List.getElem?_eq_none (by omega)]
  obtain ⟨h1, h2, h3, h4⟩ := canT_cur (s := s) (id := id) s.m
  cases hc : canT s id s.m
  rw [hc] at hlists h1 h2 h3 h4
  simp only at hlists h1 h2 h3 h4
  subst h1 h2 h3 h4 hlists
  rfl
/-- What a play keeps. -/
structure Inv (s : FQ) : Prop where
  g : Gd s
  z : ∀ t, (s.lst t).length ≤ 256
  u : UId s
theorem Inv.short (h : Inv s) : Short s := fun t _ => Nat.le_trans (h.z t) (by omega)
theorem Inv.init {Q : Nat → Int} {n : Nat} (h : newOk Q n) : Inv (FQ.init Q n) := ⟨Gd.init h, fun t => by rw [init_lst]; simp, fun t t' i i' e e' h1 => by rw [init_lst] at h1; simp at h1⟩
theorem Inv.put (h : Inv s) (t id z : Int) : Inv (putS s t id z) := by
  by_cases hp : putE s t id z = 0
  · obtain ⟨h1, h2, h3, h4⟩ := putE_ok hp
    refine ⟨h.g.putS t id z, ?_, ?_⟩
    · rw [putS_ok hp]
      intro k
      by_cases e : t.toNat = k
      · subst e
        rw [setL_lst_self (by omega), List.length_append]
        simp; omega
      · rw [setL_lst_ne e]; exact h.z k
    · rw [putS_ok hp]
      have key : ∀ (k i : Nat) (e : Ent), ((FQ.setL s t.toNat (s.lst t.toNat ++ [(id, z)])).lst k)[i]? = some e → (s.lst k)[i]? = some e ∨ (k = t.toNat ∧ i = (s.lst t.toNat).length ∧ e = (id, z)) := fun k i e he => by
        by_cases e1 : t.toNat = k
        · subst e1
          rw [setL_lst_self (by omega)] at he
          rcases Nat.lt_trichotomy i (s.lst t.toNat).length with hi | hi | hi
          · rw [List.getElem?_append_left hi] at he; exact .inl he
          · subst hi; simp at he; exact .inr ⟨rfl, rfl, he.symm⟩
          · rw [List.getElem?_eq_none (by simp; omega)] at he; cases he
        · rw [setL_lst_ne e1] at he; exact .inl he
      have hno : ∀ (k i : Nat) (e : Ent), (s.lst k)[i]? = some e → e.1 ≠ id := fun k i e he hi => h3 ⟨k, lst_lt he, e, List.mem_of_getElem? he, hi⟩
      intro k k' i i' e e' h5 h6 h7
      rcases key k i e h5 with a | ⟨a1, a2, a3⟩ <;> rcases key k' i' e' h6 with b | ⟨b1, b2, b3⟩
      · exact h.u k k' i i' e e' a b h7
      · subst b3; exact absurd h7 (hno k i e a)
      · subst a3; exact absurd h7.symm (hno k' i' e' b)
      · exact ⟨a1.trans b1.symm, a2.trans b2.symm⟩
  · rw [putS_bad hp]; exact h
theorem eraseIdx_get {l : List Ent} {i j : Nat} {e : Ent} (h : (l.eraseIdx i)[j]? = some e) : ∃ k, l[k]? = some e ∧ k = if j < i then j else j + 1 := by
  rw [List.getElem?_eraseIdx] at h
  by_cases hj : j < i
  · rw [if_pos hj] at h; exact ⟨j, h, by rw [if_pos hj]⟩
  · rw [if_neg hj] at h; exact ⟨j + 1, h, by rw [if_neg hj]⟩
/-- An entry goes. -/
theorem Inv.erase (h : Inv s) {t i : Nat} {s' : FQ} (ht : t < s.m) (g : Gd s') (hl : s'.lists = (FQ.setL s t ((s.lst t).eraseIdx i)).lists) : Inv s' := by
  have hlst : ∀ k, s'.lst k = (FQ.setL s t ((s.lst t).eraseIdx i)).lst k := fun k => lst_eq hl k
  have key : ∀ (k j : Nat) (e : Ent), (s'.lst k)[j]? = some e → ∃ j', (s.lst k)[j']? = some e ∧ j' = if k = t then (if j < i then j else j + 1) else j := fun k j e he => by
    rw [hlst] at he
    by_cases e1 : t = k
    · subst e1
      rw [setL_lst_self ht] at he
      obtain ⟨q, h1, h2⟩ := eraseIdx_get he
      exact ⟨q, h1, by rw [if_pos rfl]; exact h2⟩
    · rw [setL_lst_ne e1] at he
      exact ⟨j, he, by rw [if_neg (fun x => e1 x.symm)]⟩
  refine ⟨g, fun k => ?_, fun k k' j j' e e' h1 h2 h3 => ?_⟩
  · rw [hlst]
    by_cases e1 : t = k
    · subst e1
      rw [setL_lst_self ht]
      have := List.length_eraseIdx_le (s.lst t) i
      have := h.z t
      omega
    · rw [setL_lst_ne e1]; exact h.z k
  · obtain ⟨q, a1, a2⟩ := key k j e h1
    obtain ⟨q', b1, b2⟩ := key k' j' e' h2
    obtain ⟨rfl, hq⟩ := h.u k k' q q' e e' a1 b1 h3
    refine ⟨rfl, ?_⟩
    rw [a2, b2] at hq
    split at hq <;> (try split at hq) <;> (try split at hq) <;> omega
theorem Inv.pop (h : Inv s) {s1 : FQ} (hc : Chs s s1) {e : Ent} {r : List Ent} (hl : s1.lst s1.cur = e :: r) : Inv s1.pop := by
  obtain ⟨g1, hst, hls, _, hb⟩ := hc.gd h.g
  have h1 : Inv s1 := ⟨g1, fun t => by rw [lst_eq hls]; exact h.z t, fun t t' i i' a b => by rw [lst_eq hls, lst_eq hls]; exact h.u t t' i i' a b⟩
  refine h1.erase (t := s1.cur) (i := 0) g1.cur (g1.pop hst hb) ?_
  rw [pop_eq hl, hl]
  rfl
theorem Inv.cancel (h : Inv s) {t i : Nat} (ht : t < s.m) : Inv (FQ.setL s t ((s.lst t).eraseIdx i)) := by
  refine h.erase ht (h.g.setL ht fun e he => h.g.sz t ht e (List.mem_of_mem_eraseIdx he)) rfl
theorem putS_m (t id z : Int) : (putS s t id z).m = s.m := by
  by_cases hp : putE s t id z = 0
  · rw [putS_ok hp]; exact setL_m _ _ _
  · rw [putS_bad hp]
theorem chs_ne {s1 : FQ} (h : Chs s s1) (g : Gd s) {e : Ent} {r : List Ent} (hl : s1.lst s1.cur = e :: r) : s.lst s1.cur ≠ [] ∧ s1.cur < s.m ∧ s1.m = s.m := by
  obtain ⟨g1, _, hls, _, _⟩ := h.gd g
  have e1 : s.lst s1.cur = s1.lst s1.cur := (lst_eq hls _).symm
  have e2 : s1.m = s.m := by unfold FQ.m; rw [hls]
  exact ⟨by rw [e1, hl]; simp, by rw [← e2]; exact g1.cur, e2⟩
end
/-- The document's queue in its box dc. -/
structure DocS (w : World) (K : Nat → Prop) (dc : Nat) (s : FQ) (wx : World) : Prop where
  ex : ∃ vq vd vl lv, wx.heap[dc]? = some (.cells #[vq, vd, vl, .int .i64 s.cur, .bool s.begun] 48 (0, 0)) ∧ RQK K wx vq vd vl lv s
  kd : K dc
  ld : w.heap.size ≤ dc
section
variable {w wx wy : World} {K : Nat → Prop} {b dc : Nat} {s s' : FQ} {vq vd vl : Value} {lv : List Value}
theorem DocS.same (h : DocS w K dc s wx) (hs : SameK K wx wy) : DocS w K dc s wy := by
  obtain ⟨vq, vd, vl, lv, h1, h2⟩ := h.ex
  exact ⟨⟨vq, vd, vl, lv, (hs.1 dc h.kd).trans h1, h2.same hs⟩, h.kd, h.ld⟩
theorem DocS.bel (h : DocS w K dc s wx) (hb : Below wx.heap.size wx wy) : DocS w K dc s wy := by
  obtain ⟨vq, vd, vl, lv, h1, h2⟩ := h.ex
  exact ⟨⟨vq, vd, vl, lv, (hb.block dc (lt_of_block h1)).trans h1, h2.bel hb⟩, h.kd, h.ld⟩
/-- The result of a call of the document is stored in the box. -/
theorem DocS.ret (h : DocS w K dc s wx) {sP : FQ} (hq : QK w K b sP wx) (hr : RQK (fun k => K k ∨ wx.heap.size ≤ k) wy vq vd vl lv s') (hb : Below wx.heap.size wx wy) :
    DocS w (fun k => K k ∨ (wx.heap.size ≤ k ∧ k < wy.heap.size)) dc s' (((((wy.setCell ⟨dc, 0, none⟩ vq).setCell ⟨dc, 1, none⟩ vd).setCell ⟨dc, 2, none⟩ vl).setCell ⟨dc, 3, none⟩ (.int .i64 s'.cur)).setCell ⟨dc, 4, none⟩ (.bool s'.begun)) ∧
    QK w (fun k => K k ∨ (wx.heap.size ≤ k ∧ k < wy.heap.size)) b sP (((((wy.setCell ⟨dc, 0, none⟩ vq).setCell ⟨dc, 1, none⟩ vd).setCell ⟨dc, 2, none⟩ vl).setCell ⟨dc, 3, none⟩ (.int .i64 s'.cur)).setCell ⟨dc, 4, none⟩ (.bool s'.begun)) := by
  obtain ⟨vq0, vd0, vl0, lv0, h1, _⟩ := h.ex
  have hrow := (hb.block dc (lt_of_block h1)).trans h1
  obtain ⟨h5, h6, h7⟩ := set5 hrow vq vd vl (.int .i64 s'.cur) (.bool s'.begun)
  have hr2 := hr.to (J := fun k => K k ∨ (wx.heap.size ≤ k ∧ k < wy.heap.size)) (fun k hk hx => hx.imp (fun x => x) (fun x => ⟨x, hk⟩))
  refine ⟨⟨⟨vq, vd, vl, lv, h5, ⟨hr2.a.heap (fun b cs t ht hc => h6 b (type_ne hc hrow ht)), hr2.kq, hr2.kd, hr2.kl, hr2.ke⟩⟩, .inl h.kd, h.ld⟩, ?_⟩
  obtain ⟨bq, cq, bd, cd, xt, bl, vals, k1, k2, k3, k4⟩ := hq.add hb
  refine ⟨bq, cq, bd, cd, xt, bl, vals, k1.same fun k hk => h6 k fun e => (k2 k hk).2 (by rw [e]; exact .inl h.kd), k2, h7 _ _ h.ld k3, fun k hk => by
    have := k4 k hk
    simp only [World.size_setCell]
    exact this⟩
end
end Go.Proofs.Ytdcmkonmojiefaa

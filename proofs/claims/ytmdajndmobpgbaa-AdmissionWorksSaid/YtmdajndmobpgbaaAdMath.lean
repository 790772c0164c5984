/- Plain model of an admission: its invariant, and what its calls do. Conditions: each its own. -/
import Derived.Test.YtmdajndmobpgbaaAdB
namespace Go.Proofs.Ytmdajndmobpgbaa
open Go.RowKit
open Go.Proofs.Ytmdajndmobpgbaa.Fq
open Go.Proofs.Ytmdajndmobpgbaa.Bk

def AS.has (s : AS) (id : Int) : Prop := ∃ t, t < s.m ∧ ∃ e ∈ s.q t, e.1 = id
/-- What is always so, inside a Start too: a are the tenants that are set aside. -/
structure LOk (s : AS) (a : List Nat) : Prop where
  lq : s.ql.length = s.m
  lk : s.bk.length = s.m
  lf : s.f.m = s.m
  s1 : 1 ≤ s.slots ∧ s.slots ≤ 256
  g : Gd s.f
  qn : ∀ t, t < s.m → s.f.qn t = (s.shr t).q
  bok : ∀ t, t < s.m → BkOk (s.shr t).b (s.shr t).t (s.shr t).k (s.bkt t).1 (s.bkt t).2
  len : ∀ t, t < s.m → (s.q t).length ≤ 256
  sz : ∀ t, t < s.m → ∀ e ∈ s.q t, 1 ≤ e.2 ∧ e.2 ≤ 1048576
  u1 : ∀ t, t < s.m → ((s.q t).map Prod.fst).Nodup
  u2 : ∀ t t', t < s.m → t' < s.m → t ≠ t' → ∀ e ∈ s.q t, ∀ e' ∈ s.q t', e.1 ≠ e'.1
  u3 : ∀ t, t < s.m → ∀ e ∈ s.q t, e.1 ∉ s.run
  u4 : s.run.Nodup
  rl : (s.run.length : Int) ≤ s.slots
  an : a.Nodup
  am : ∀ t ∈ a, t < s.m ∧ s.f.lst t = []
  fe : ∀ t, t < s.m → t ∉ a → s.f.lst t = s.q t
abbrev AOk (s : AS) : Prop := LOk s []
def priceOf (s : AS) (t : Nat) : Int := match s.q t with
  | [] => 0
  | e :: _ => min e.2 (s.shr t).b
def AS.took (s : AS) (t : Nat) (now : Int) : AS := s.setB t (takeP (s.shr t).b (s.shr t).t (s.shr t).k (s.bkt t).1 (s.bkt t).2 now (priceOf s t), takeL (s.bkt t).2 now (priceOf s t))
def AS.takes (s : AS) (t : Nat) (now : Int) : Bool := takeOk (s.shr t).b (s.shr t).t (s.shr t).k (s.bkt t).1 (s.bkt t).2 now (priceOf s t)
/-- A round of Start that fails, and one that starts a request. -/
def AS.failed (s : AS) (t : Nat) (now : Int) : AS := (s.took t now).setF (FQ.setL s.f t [])
def AS.began (s : AS) (f1 : FQ) (now : Int) (id : Int) : AS := (((s.took f1.cur now).setF f1.pop).setQ f1.cur (s.q f1.cur).tail).setR (s.run ++ [id])
inductive SLoop (now : Int) : AS → List Int → List Nat → AS → List Int → List Nat → Prop where
  | full (s : AS) (o : List Int) (a : List Nat) : ¬ (s.run.length : Int) < s.slots → SLoop now s o a s o a
  | none (s : AS) (o : List Int) (a : List Nat) : (s.run.length : Int) < s.slots → anyB s.f = false → SLoop now s o a s o a
  | fail (s : AS) (o : List Int) (a : List Nat) (f1 : FQ) (en : Ent) (r : List Ent) (s' : AS) (o' : List Int) (a' : List Nat) : (s.run.length : Int) < s.slots → Chs s.f f1 → f1.lst f1.cur = en :: r → s.takes f1.cur now = false →
      SLoop now (s.failed f1.cur now) o (a ++ [f1.cur]) s' o' a' → SLoop now s o a s' o' a'
  | ok (s : AS) (o : List Int) (a : List Nat) (f1 : FQ) (en : Ent) (r : List Ent) (s' : AS) (o' : List Int) (a' : List Nat) : (s.run.length : Int) < s.slots → Chs s.f f1 → f1.lst f1.cur = en :: r → s.takes f1.cur now = true →
      SLoop now (s.began f1 now en.1) (o ++ [en.1]) a s' o' a' → SLoop now s o a s' o' a'
section
variable {s s' : AS} {a : List Nat} {f1 : FQ} {en : Ent} {r : List Ent} {now : Int}
theorem took_m (t : Nat) (now : Int) : (s.took t now).m = s.m := rfl
theorem LOk.cur (h : LOk s a) (hc : Chs s.f f1) (hl : f1.lst f1.cur = en :: r) : f1.cur < s.m ∧ f1.cur ∉ a ∧ s.q f1.cur = en :: r ∧ s.f.lst f1.cur = en :: r := by
  obtain ⟨g1, _, hls, _, _⟩ := hc.gd h.g
  have hcm := g1.cur
  have e1 : f1.m = s.f.m := by unfold FQ.m; rw [hls]
  rw [e1, h.lf] at hcm
  have e2 : s.f.lst f1.cur = en :: r := by rw [← hl]; unfold FQ.lst; rw [hls]
  have hna : f1.cur ∉ a := fun hm => by
    have := (h.am _ hm).2
    rw [e2] at this; cases this
  exact ⟨hcm, hna, by rw [← h.fe _ hcm hna]; exact e2, e2⟩
theorem LOk.took (h : LOk s a) (t : Nat) (now : Int) (ht : t < s.m) : LOk (s.took t now) a :=
  { h with
    lk := by show (s.bk.set t _).length = _; rw [List.length_set]; exact h.lk
    bok := fun t' ht' => by
      have e0 : (s.took t now).shr t' = s.shr t' := rfl
      rw [e0]
      by_cases e : t = t'
      · subst e
        rw [show (s.took t now).bkt t = _ from AS.bkt_self (by rw [h.lk]; exact ht) _]
        exact (h.bok t ht).take now _
      · rw [show (s.took t now).bkt t' = s.bkt t' from AS.bkt_ne e _]
        exact h.bok t' ht' }
theorem LOk.failed (h : LOk s a) (hc : Chs s.f f1) (hl : f1.lst f1.cur = en :: r) (now : Int) : LOk (s.failed f1.cur now) (a ++ [f1.cur]) := by
  obtain ⟨h1, h2, h3, h4⟩ := h.cur hc hl
  have hk := h.took f1.cur now h1
  have hf : f1.cur < s.f.m := by rw [h.lf]; exact h1
  exact { hk with
    lf := (setL_m s.f f1.cur []).trans h.lf
    g := h.g.setL hf (fun e he => by cases he)
    qn := fun t ht => h.qn t ht
    an := List.nodup_append.2 ⟨h.an, by simp, fun x hx y hy => by
      rw [List.mem_singleton] at hy; subst hy
      exact fun e => h2 (e ▸ hx)⟩
    am := fun t ht => by
      rcases List.mem_append.1 ht with ht | ht
      · have hne : f1.cur ≠ t := fun e => h2 (e ▸ ht)
        exact ⟨(h.am t ht).1, (setL_lst_ne hne []).trans (h.am t ht).2⟩
      · obtain rfl := List.mem_singleton.1 ht
        exact ⟨h1, setL_lst_self hf []⟩
    fe := fun t ht hn => by
      have hne : f1.cur ≠ t := fun e => hn (by rw [e]; simp)
      exact (setL_lst_ne hne []).trans (h.fe t ht fun hm => hn (List.mem_append_left _ hm)) }
theorem LOk.began (h : LOk s a) (hc : Chs s.f f1) (hl : f1.lst f1.cur = en :: r) (hr : (s.run.length : Int) < s.slots) (now : Int) : LOk (s.began f1 now en.1) a := by
  obtain ⟨h1, h2, h3, h4⟩ := h.cur hc hl
  have hk := h.took f1.cur now h1
  have hql : f1.cur < s.ql.length := by rw [h.lq]; exact h1
  obtain ⟨g1, hst, hls, hqu, hbg⟩ := hc.gd h.g
  have hmf : f1.m = s.f.m := by unfold FQ.m; rw [hls]
  have htl : (s.q f1.cur).tail = r := by rw [h3]; rfl
  have qs : (s.began f1 now en.1).q f1.cur = r := by
    have := AS.q_self (s := (s.took f1.cur now).setF f1.pop) hql (s.q f1.cur).tail
    exact this.trans htl
  have qn : ∀ {t : Nat}, f1.cur ≠ t → (s.began f1 now en.1).q t = s.q t := fun hne => AS.q_ne (s := (s.took f1.cur now).setF f1.pop) hne _
  have sub : ∀ t, ∀ e ∈ (s.began f1 now en.1).q t, e ∈ s.q t := fun t e he => by
    by_cases e1 : f1.cur = t
    · subst e1; rw [qs] at he; rw [h3]; exact List.mem_cons_of_mem _ he
    · rw [qn e1] at he; exact he
  have pl : ∀ t, t < s.m → f1.pop.lst t = if f1.cur = t then r else s.f.lst t := fun t ht => by
    rw [pop_eq hl]
    by_cases e1 : f1.cur = t
    · subst e1
      rw [if_pos rfl]
      exact lst_set_self (show f1.cur < f1.m by rw [hmf, h.lf]; exact ht)
    · rw [if_neg e1]
      show (f1.lists.set f1.cur r).getD t [] = _
      rw [Fq.getD_set_ne e1, hls]
      rfl
  have pq : f1.pop.quanta = s.f.quanta := by rw [pop_eq hl]; exact hqu
  exact { hk with
    lq := by show (s.ql.set f1.cur _).length = _; rw [List.length_set]; exact h.lq
    lf := (pop_m f1).trans (hmf.trans h.lf)
    g := g1.pop hst hbg
    qn := fun t ht => by
      rw [show (s.began f1 now en.1).f.qn t = s.f.qn t by show f1.pop.quanta.getD t 0 = _; rw [pq]; rfl]
      exact h.qn t ht
    len := fun t ht => by
      by_cases e1 : f1.cur = t
      · subst e1
        have := h.len f1.cur ht
        rw [h3] at this
        rw [qs]
        simp at this
        omega
      · rw [qn e1]; exact h.len t ht
    sz := fun t ht e he => h.sz t ht e (sub t e he)
    u1 := fun t ht => by
      by_cases e1 : f1.cur = t
      · subst e1
        have := h.u1 f1.cur ht
        rw [h3] at this
        rw [qs]
        exact (List.nodup_cons.1 this).2
      · rw [qn e1]; exact h.u1 t ht
    u2 := fun t t' ht ht' hne e he e' he' => h.u2 t t' ht ht' hne e (sub t e he) e' (sub t' e' he')
    u3 := fun t ht e he hm => by
      rcases List.mem_append.1 hm with hm | hm
      · exact h.u3 t ht e (sub t e he) hm
      · rw [List.mem_singleton] at hm
        by_cases e1 : f1.cur = t
        · subst e1
          rw [qs] at he
          have := h.u1 f1.cur ht
          rw [h3] at this
          exact (List.nodup_cons.1 this).1 (by rw [← hm]; exact List.mem_map_of_mem he)
        · exact h.u2 t f1.cur ht h1 (Ne.symm e1) e (sub t e he) en (by rw [h3]; simp) hm
    u4 := List.nodup_append.2 ⟨h.u4, by simp, fun x hx y hy => by
      rw [List.mem_singleton] at hy; subst hy
      exact fun e => h.u3 f1.cur h1 en (by rw [h3]; simp) (e ▸ hx)⟩
    rl := by show ((s.run ++ [en.1]).length : Int) ≤ s.slots; simp; omega
    am := fun t ht => by
      have hne : ¬ f1.cur = t := fun e => h2 (e ▸ ht)
      refine ⟨(h.am t ht).1, ?_⟩
      have := pl t (h.am t ht).1
      rw [if_neg hne] at this
      exact this.trans (h.am t ht).2
    fe := fun t ht hn => by
      have := pl t ht
      by_cases e1 : f1.cur = t
      · subst e1
        rw [if_pos rfl] at this
        exact this.trans qs.symm
      · rw [if_neg e1] at this
        rw [qn e1]
        exact this.trans (h.fe t ht hn) }
theorem SLoop.ok' {o o' : List Int} {a' : List Nat} (h : SLoop now s o a s' o' a') : LOk s a → LOk s' a' := by
  induction h with
  | full s o a _ => exact id
  | none s o a _ _ => exact id
  | fail s o a f1 en r s' o' a' _ hc hl _ _ ih => exact fun h => ih (h.failed hc hl now)
  | ok s o a f1 en r s' o' a' hr hc hl _ _ ih => exact fun h => ih (h.began hc hl hr now)
/-- Start's end: who was set aside is put back. -/
def AS.back (s : AS) : AS := s.setF { s.f with lists := s.ql }
theorem LOk.back (h : LOk s a) : AOk s.back := by
  have hl : ∀ t, s.back.f.lst t = s.q t := fun t => rfl
  have hm : s.back.f.m = s.f.m := h.lq.trans h.lf.symm
  exact { h with
    lf := h.lq
    g := { h.g with
      m1 := by rw [hm]; exact h.g.m1
      m2 := by rw [hm]; exact h.g.m2
      lq := by rw [hm]; exact h.g.lq
      ld := by rw [hm]; exact h.g.ld
      cur := by rw [hm]; exact h.g.cur
      q1 := fun t ht => h.g.q1 t (by rw [hm] at ht; exact ht)
      sz := fun t ht e he => h.sz t (by rw [hm, h.lf] at ht; exact ht) e he
      d0 := fun t ht => h.g.d0 t (by rw [hm] at ht; exact ht)
      d1 := fun t ht hc => h.g.d1 t (by rw [hm] at ht; exact ht) hc }
    an := List.nodup_nil
    am := fun t ht => by cases ht
    fe := fun t _ _ => hl t }
end
end Go.Proofs.Ytmdajndmobpgbaa

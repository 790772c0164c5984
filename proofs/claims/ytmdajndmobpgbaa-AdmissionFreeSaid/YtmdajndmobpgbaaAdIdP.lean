/- admission: the plain law of AdmissionIds. Conditions: each its own. -/
import Derived.Test.YtmdajndmobpgbaaAdNil
namespace Go.Proofs.Ytmdajndmobpgbaa
open Go.RowKit
open Go.Proofs.Ytmdajndmobpgbaa.Fq
open Go.Proofs.Ytmdajndmobpgbaa.Bk

def idS : List Shr := [⟨1000, 0, 1, 1⟩, ⟨1000, 0, 1, 300⟩]
theorem id_ok : adOk idS 2 := by
  refine ⟨by omega, fun s hs => ?_, by simp [idS], fun s hs => ?_⟩
  · simp [idS] at hs
    rcases hs with rfl | rfl <;> exact ⟨by simp, by simp, by simp⟩
  · simp [idS] at hs
    rcases hs with rfl | rfl <;> simp
structure IdSt (s : AS) (l0 l1 : List Ent) (run : List Int) (r : Int) : Prop where
  ok : AOk s
  sh : s.sh = idS
  sl : s.slots = 2
  q0 : s.q 0 = l0
  q1 : s.q 1 = l1
  rn : s.run = run
  bk : ∀ t, t < 2 → r ≤ (s.bkt t).1
section
variable {s s1 : AS} {l0 l1 : List Ent} {run : List Int} {r id c now : Int} {o : List Int} {a : List Nat}
theorem IdSt.m (h : IdSt s l0 l1 run r) : s.m = 2 := by unfold AS.m; rw [h.sh]; rfl
theorem IdSt.start : IdSt (AS.init idS 2) [] [] [] 1000 :=
  ⟨init_ok id_ok, rfl, rfl, init_q _ _ _, init_q _ _ _, rfl, fun t ht => by
    match t, ht with
    | 0, _ => decide
    | 1, _ => decide⟩
theorem IdSt.has (h : IdSt s l0 l1 run r) (id : Int) : s.has id ↔ (∃ e ∈ l0, e.1 = id) ∨ ∃ e ∈ l1, e.1 = id := by
  unfold AS.has
  rw [h.m]
  constructor
  · rintro ⟨t, ht, e, he, hi⟩
    match t, ht with
    | 0, _ => rw [h.q0] at he; exact .inl ⟨e, he, hi⟩
    | 1, _ => rw [h.q1] at he; exact .inr ⟨e, he, hi⟩
  · rintro (⟨e, he, hi⟩ | ⟨e, he, hi⟩)
    · exact ⟨0, by omega, e, by rw [h.q0]; exact he, hi⟩
    · exact ⟨1, by omega, e, by rw [h.q1]; exact he, hi⟩
theorem IdSt.sub0 (h : IdSt s [] [] [] r) (hc1 : 1 ≤ c) (hc2 : c ≤ 1048576) : subE s 0 id c = 0 ∧ IdSt (subS s 0 id c) [(id, c)] [] [] r := by
  have hE : subE s ((0 : Nat) : Int) id c = 0 := subE_ok (by rw [h.m]; omega) hc1 hc2 (by rw [h.has]; simp) (by rw [h.rn]; simp) (by rw [h.q0]; simp)
  obtain ⟨p1, p2, p3, p4, p5, p6⟩ := subS_q h.ok hE (by rw [h.m]; omega)
  exact ⟨hE, h.ok.subS _ _ _, p5.trans h.sh, p6.trans h.sl, by rw [show (0 : Int) = ((0 : Nat) : Int) from rfl, p1, h.q0]; rfl, by rw [show (0 : Int) = ((0 : Nat) : Int) from rfl, p2 1 (by omega), h.q1], p3.trans h.rn, fun t ht => by unfold AS.bkt; rw [show (0 : Int) = ((0 : Nat) : Int) from rfl, p4]; exact h.bk t ht⟩
theorem IdSt.sub1 (h : IdSt s [] [] [] r) (hc1 : 1 ≤ c) (hc2 : c ≤ 1048576) : subE s 1 id c = 0 ∧ IdSt (subS s 1 id c) [] [(id, c)] [] r := by
  have hE : subE s ((1 : Nat) : Int) id c = 0 := subE_ok (by rw [h.m]; omega) hc1 hc2 (by rw [h.has]; simp) (by rw [h.rn]; simp) (by rw [h.q1]; simp)
  obtain ⟨p1, p2, p3, p4, p5, p6⟩ := subS_q h.ok hE (by rw [h.m]; omega)
  exact ⟨hE, h.ok.subS _ _ _, p5.trans h.sh, p6.trans h.sl, by rw [show (1 : Int) = ((1 : Nat) : Int) from rfl, p2 0 (by omega), h.q0], by rw [show (1 : Int) = ((1 : Nat) : Int) from rfl, p1, h.q1]; rfl, p3.trans h.rn, fun t ht => by unfold AS.bkt; rw [show (1 : Int) = ((1 : Nat) : Int) from rfl, p4]; exact h.bk t ht⟩
/-- An id that is there is refused. -/
theorem IdSt.sub4 (h : IdSt s l0 l1 run r) {t : Int} (ht : 0 ≤ t ∧ t < 2) (hc1 : 1 ≤ c) (hc2 : c ≤ 1048576) (hh : (∃ e ∈ l0, e.1 = id) ∨ (∃ e ∈ l1, e.1 = id) ∨ id ∈ run) : subE s t id c = 4 ∧ subS s t id c = s := by
  have hE : subE s t id c = 4 := by
    unfold subE
    rw [if_neg (by rw [h.m]; omega), if_neg (by omega), if_pos (by
      rw [h.has, h.rn]
      rcases hh with h1 | h1 | h1
      · exact .inl (.inl h1)
      · exact .inl (.inr h1)
      · exact .inr h1)]
  exact ⟨hE, by unfold subS; rw [if_neg (by rw [hE]; decide)]⟩
theorem IdSt.fin3 (h : IdSt s l0 l1 run r) (hn : id ∉ run) : finE s id = 3 ∧ finS s id = s := by
  have hn : id ∉ s.run := by rw [h.rn]; exact hn
  exact ⟨by unfold finE; rw [if_neg hn], by unfold finS; rw [if_neg hn]⟩
theorem IdSt.fin0 (h : IdSt s l0 l1 [id] r) : finE s id = 0 ∧ IdSt (finS s id) l0 l1 [] r := by
  have hn : id ∈ s.run := by rw [h.rn]; simp
  refine ⟨by unfold finE; rw [if_pos hn], ?_⟩
  have hk := h.ok.finS id
  unfold finS at hk ⊢
  rw [if_pos hn] at hk ⊢
  exact ⟨hk, h.sh, h.sl, h.q0, h.q1, by show s.run.erase id = []; rw [h.rn]; simp, h.bk⟩
theorem IdSt.can (h : IdSt s [(id, c)] [] [] r) {t i : Nat} (hf : AFind s id (some (t, i))) : IdSt (canS s t i) [] [] [] r := by
  have hk := h.ok.canS (i := i) hf.1
  obtain ⟨ht, ⟨e, he, hi⟩, hb, _⟩ := hf
  rw [h.m] at ht
  have e0 : t = 0 := by
    match t, ht with
    | 0, _ => rfl
    | 1, _ => rw [h.q1] at he; simp at he
  subst e0
  have e1 : i = 0 := by
    rw [h.q0] at he
    rcases i with _ | i
    · rfl
    · simp at he
  subst e1
  refine ⟨hk, h.sh, h.sl, ?_, ?_, h.rn, h.bk⟩
  · show (s.ql.set 0 ((s.q 0).eraseIdx 0)).getD 0 [] = []
    rw [getD_set_self (by rw [h.ok.lq, h.m]; omega), h.q0]
    rfl
  · show (s.ql.set 0 ((s.q 0).eraseIdx 0)).getD 1 [] = []
    rw [getD_set_ne (by omega)]
    exact h.q1
/-- Start, where one request waits. -/
theorem IdSt.st (h : IdSt s l0 l1 [] r) {t : Nat} (ht : t < 2) (hq : s.q t = [(id, c)]) (hz : ∀ t', t' < s.m → t' ≠ t → s.q t' = []) (hc1 : 1 ≤ c) (hc2 : c ≤ 1000) (hcr : c ≤ r) (hl : SLoop now s [] [] s1 o a) : o = [id] ∧ IdSt s1.back [] [] [id] (r - c) := by
  have htm : t < s.m := by rw [h.m]; exact ht
  have hbr := h.bk t ht
  have hshr : (s.shr t).b = 1000 ∧ (s.shr t).t = 0 ∧ (s.shr t).k = 1 := by
    unfold AS.shr
    rw [h.sh]
    match t, ht with
    | 0, _ => exact ⟨rfl, rfl, rfl⟩
    | 1, _ => exact ⟨rfl, rfl, rfl⟩
  obtain ⟨s1', s2, s3⟩ := hshr
  have hp : priceOf s t = c := by unfold priceOf; rw [hq, s1']; show min c 1000 = c; omega
  have hat : ∀ L, atP 1000 0 1 (s.bkt t).1 L now = (s.bkt t).1 := fun L => by unfold atP; rw [if_pos rfl]
  have htk : s.takes t now = true := by
    unfold AS.takes takeOk
    rw [s1', s2, s3, hp, hat]
    simp
    omega
  obtain ⟨f1, hch, e, hln, rfl, rfl⟩ := hl.single h.ok (by rw [h.rn, h.sl]; decide) htm hq hz htk
  obtain ⟨p1, p2, p3, p4, p5⟩ := began_st (now := now) h.ok hch e htm hq hz
  have hko := (h.ok.began hch hln (by rw [h.rn, h.sl]; decide) now).back
  refine ⟨rfl, hko, p4.trans h.sh, p5.trans h.sl, p2 0 (by omega), p2 1 (by rw [h.m]; omega), by rw [p1, h.rn]; rfl, fun t' ht' => ?_⟩
  have hb : (s.began f1 now id).back.bkt t' = (s.took t now).bkt t' := by unfold AS.bkt; rw [p3]
  rw [hb]
  by_cases e1 : t = t'
  · subst e1
    rw [show (s.took t now).bkt t = _ from AS.bkt_self (by rw [h.ok.lk]; exact htm) _]
    show r - c ≤ takeP _ _ _ _ _ _ _
    unfold takeP
    rw [s1', s2, s3, hp, hat, if_neg (by omega), if_pos ⟨hc2, by omega⟩]
    omega
  · rw [show (s.took t now).bkt t' = s.bkt t' from AS.bkt_ne e1 _]
    have := h.bk t' ht'
    omega
theorem IdSt.st0 (h : IdSt s [(id, c)] [] [] r) (hc1 : 1 ≤ c) (hc2 : c ≤ 1000) (hcr : c ≤ r) (hl : SLoop now s [] [] s1 o a) : o = [id] ∧ IdSt s1.back [] [] [id] (r - c) :=
  h.st (t := 0) (by omega) h.q0 (fun t' ht' hne => by
    rw [h.m] at ht'
    obtain rfl : t' = 1 := by omega
    exact h.q1) hc1 hc2 hcr hl
theorem IdSt.st1 (h : IdSt s [] [(id, c)] [] r) (hc1 : 1 ≤ c) (hc2 : c ≤ 1000) (hcr : c ≤ r) (hl : SLoop now s [] [] s1 o a) : o = [id] ∧ IdSt s1.back [] [] [id] (r - c) :=
  h.st (t := 1) (by omega) h.q1 (fun t' ht' hne => by
    rw [h.m] at ht'
    obtain rfl : t' = 0 := by omega
    exact h.q0) hc1 hc2 hcr hl
theorem IdSt.idle (h : IdSt s [] [] run r) (hl : SLoop now s [] [] s1 o a) : o = [] ∧ IdSt s1.back [] [] run r := by
  obtain ⟨rfl, rfl⟩ := hl.idle0 h.ok (fun t ht => by
    rw [h.m] at ht
    match t, ht with
    | 0, _ => exact h.q0
    | 1, _ => exact h.q1)
  exact ⟨rfl, (LOk.back h.ok), h.sh, h.sl, h.q0, h.q1, h.rn, h.bk⟩
end
end Go.Proofs.Ytmdajndmobpgbaa

/- admission: the plain law of AdmissionFree. Conditions: each its own. -/
import Derived.Test.YtmdajndmobpgbaaAdIdP
namespace Go.Proofs.Ytmdajndmobpgbaa
open Go.RowKit
open Go.Proofs.Ytmdajndmobpgbaa.Fq
open Go.Proofs.Ytmdajndmobpgbaa.Bk

def frS (q0 q1 : Int) : List Shr := [⟨1, 0, 1, 1 + q0⟩, ⟨1048576, 0, 1, 1 + q1⟩]
theorem fr_ok {q0 q1 : Int} (h0 : 0 ≤ q0 ∧ q0 ≤ 255) (h1 : 0 ≤ q1 ∧ q1 ≤ 255) : adOk (frS q0 q1) 256 := by
  refine ⟨by omega, fun s hs => ?_, by simp [frS], fun s hs => ?_⟩
  · simp [frS] at hs
    rcases hs with rfl | rfl <;> exact ⟨by simp, by simp, by simp⟩
  · simp [frS] at hs
    rcases hs with rfl | rfl <;> (show 1 ≤ 1 + _ ∧ 1 + _ ≤ _; omega)
def l0 (F : Nat → Int) (n : Nat) : List Ent := (List.range n).map fun (i : Nat) => ((i : Int), 1 + F i)
def l1 (C : Nat → Int) (n : Nat) : List Ent := (List.range n).map fun (i : Nat) => (1000 + (i : Int), 1 + C i)
theorem l0_len (F : Nat → Int) (n : Nat) : (l0 F n).length = n := by simp [l0]
theorem l1_len (C : Nat → Int) (n : Nat) : (l1 C n).length = n := by simp [l1]
theorem l0_snoc (F : Nat → Int) (n : Nat) : l0 F (n + 1) = l0 F n ++ [((n : Int), 1 + F n)] := by simp [l0, List.range_succ]
theorem l1_snoc (C : Nat → Int) (n : Nat) : l1 C (n + 1) = l1 C n ++ [(1000 + (n : Int), 1 + C n)] := by simp [l1, List.range_succ]
theorem l0_drop (F : Nat → Int) {n j : Nat} (h : j < n) : (l0 F n).drop j = ((j : Int), 1 + F j) :: (l0 F n).drop (j + 1) := by
  rw [List.drop_eq_getElem_cons (by rw [l0_len]; exact h)]
  simp [l0]
theorem l1_drop (C : Nat → Int) {n j : Nat} (h : j < n) : (l1 C n).drop j = (1000 + (j : Int), 1 + C j) :: (l1 C n).drop (j + 1) := by
  rw [List.drop_eq_getElem_cons (by rw [l1_len]; exact h)]
  simp [l1]
/-- While the requests are submitted. -/
structure FrQ (q0 q1 : Int) (F C : Nat → Int) (i0 i1 : Nat) (s : AS) : Prop where
  ok : AOk s
  sh : s.sh = frS q0 q1
  sl : s.slots = 256
  a0 : s.q 0 = l0 F i0
  a1 : s.q 1 = l1 C i1
  rn : s.run = []
  b0 : (s.bkt 0).1 = 1
  b1 : (s.bkt 1).1 = 1048576
section
variable {q0 q1 : Int} {F C : Nat → Int} {i0 i1 n0 n1 j p : Nat} {s s1 : AS} {now : Int} {o o' : List Int} {a a' : List Nat}
theorem FrQ.start (h0 : 0 ≤ q0 ∧ q0 ≤ 255) (h1 : 0 ≤ q1 ∧ q1 ≤ 255) : FrQ q0 q1 F C 0 0 (AS.init (frS q0 q1) 256) :=
  ⟨init_ok (fr_ok h0 h1), rfl, rfl, init_q _ _ _, init_q _ _ _, rfl, by rw [init_bkt _ _ (show 0 < 2 by omega)]; rfl, by rw [init_bkt _ _ (show 1 < 2 by omega)]; rfl⟩
theorem fr_m (h : s.sh = frS q0 q1) : s.m = 2 := by unfold AS.m; rw [h]; rfl
theorem FrQ.has (h : FrQ q0 q1 F C i0 i1 s) {id : Int} (hh : s.has id) : (∃ i, i < i0 ∧ (i : Int) = id) ∨ ∃ i, i < i1 ∧ 1000 + (i : Int) = id := by
  obtain ⟨t, ht, e, he, hi⟩ := hh
  rw [fr_m h.sh] at ht
  match t, ht with
  | 0, _ =>
    rw [h.a0] at he
    obtain ⟨i, hi2, rfl⟩ := List.mem_map.1 he
    exact .inl ⟨i, List.mem_range.1 hi2, hi⟩
  | 1, _ =>
    rw [h.a1] at he
    obtain ⟨i, hi2, rfl⟩ := List.mem_map.1 he
    exact .inr ⟨i, List.mem_range.1 hi2, hi⟩
theorem FrQ.sub0 (h : FrQ q0 q1 F C i0 0 s) (hi : i0 < 31) (hF : 0 ≤ F i0 ∧ F i0 ≤ 255) : subE s 0 i0 (1 + F i0) = 0 ∧ FrQ q0 q1 F C (i0 + 1) 0 (subS s 0 i0 (1 + F i0)) := by
  have hm := fr_m h.sh
  have hE : subE s ((0 : Nat) : Int) i0 (1 + F i0) = 0 := subE_ok (by rw [hm]; omega) (by omega) (by omega) (fun hh => by
    rcases h.has hh with ⟨i, h1, h2⟩ | ⟨i, h1, h2⟩ <;> omega) (by rw [h.rn]; simp) (by rw [h.a0, l0_len]; omega)
  obtain ⟨p1, p2, p3, p4, p5, p6⟩ := subS_q h.ok hE (by rw [hm]; omega)
  rw [show ((0 : Nat) : Int) = 0 from rfl] at hE p1 p2 p3 p4 p5 p6
  exact ⟨hE, h.ok.subS _ _ _, p5.trans h.sh, p6.trans h.sl, by rw [p1, h.a0, l0_snoc], by rw [p2 1 (by omega), h.a1], p3.trans h.rn, by unfold AS.bkt; rw [p4]; exact h.b0, by unfold AS.bkt; rw [p4]; exact h.b1⟩
theorem FrQ.sub1 (h : FrQ q0 q1 F C i0 i1 s) (hi0 : i0 < 31) (hi : i1 < 31) (hC : 0 ≤ C i1 ∧ C i1 ≤ 255) : subE s 1 (1000 + (i1 : Int)) (1 + C i1) = 0 ∧ FrQ q0 q1 F C i0 (i1 + 1) (subS s 1 (1000 + (i1 : Int)) (1 + C i1)) := by
  have hm := fr_m h.sh
  have hE : subE s ((1 : Nat) : Int) (1000 + (i1 : Int)) (1 + C i1) = 0 := subE_ok (by rw [hm]; omega) (by omega) (by omega) (fun hh => by
    rcases h.has hh with ⟨i, h1, h2⟩ | ⟨i, h1, h2⟩ <;> omega) (by rw [h.rn]; simp) (by rw [h.a1, l1_len]; omega)
  obtain ⟨p1, p2, p3, p4, p5, p6⟩ := subS_q h.ok hE (by rw [hm]; omega)
  rw [show ((1 : Nat) : Int) = 1 from rfl] at hE p1 p2 p3 p4 p5 p6
  exact ⟨hE, h.ok.subS _ _ _, p5.trans h.sh, p6.trans h.sl, by rw [p2 0 (by omega), h.a0], by rw [p1, h.a1, l1_snoc], p3.trans h.rn, by unfold AS.bkt; rw [p4]; exact h.b0, by unfold AS.bkt; rw [p4]; exact h.b1⟩
def cntK (l : List Int) : Nat := (l.filter fun x => decide (1000 ≤ x)).length
/-- The rich tenant's requests in order, beside them request 0 alone. -/
def OrdO (o : List Int) : Prop := ∀ x, x < o.length → o.getD x 0 = 0 ∨ o.getD x 0 = 1000 + (cntK (o.take x) : Int)
theorem OrdO.snoc {v : Int} (h : OrdO o) (hv : v = 0 ∨ v = 1000 + (cntK o : Int)) : OrdO (o ++ [v]) := by
  intro x hx
  rw [List.length_append] at hx
  by_cases e : x < o.length
  · have e1 : (o ++ [v]).getD x 0 = o.getD x 0 := by simp [List.getD, List.getElem?_append_left e]
    rw [e1, List.take_append_of_le_length (by omega)]
    exact h x e
  · obtain rfl : x = o.length := by simp at hx; omega
    have e1 : (o ++ [v]).getD o.length 0 = v := by simp [List.getD]
    rw [e1, List.take_left]
    exact hv
/-- While the first Start runs. -/
structure FrR (q0 q1 : Int) (F C : Nat → Int) (n0 n1 j p : Nat) (s : AS) (o : List Int) (a : List Nat) : Prop where
  ok : LOk s a
  sh : s.sh = frS q0 q1
  sl : s.slots = 256
  a0 : s.q 0 = (l0 F n0).drop p
  a1 : s.q 1 = (l1 C n1).drop j
  b0 : (s.bkt 0).1 = 1 - (p : Int)
  b1 : 1048576 - 256 * (j : Int) ≤ (s.bkt 1).1
  rl : s.run.length = j + p
  p1 : p ≤ 1
  pn : p ≤ n0
  jn : j ≤ n1
  aa : 0 ∈ a → p = 1 ∧ p < n0
  ol : o.length = j + p
  ck : cntK o = j
  oo : OrdO o
  na : 1 ∉ a
theorem FrQ.run (h : FrQ q0 q1 F C n0 n1 s) : FrR q0 q1 F C n0 n1 0 0 s [] [] :=
  ⟨h.ok, h.sh, h.sl, h.a0, h.a1, h.b0, by rw [h.b1]; omega, by rw [h.rn]; rfl, by omega, by omega, by omega, (fun h => by cases h), rfl, rfl, (fun x hx => by simp at hx), (fun h => by cases h)⟩
theorem fr_shr (h : s.sh = frS q0 q1) : s.shr 0 = ⟨1, 0, 1, 1 + q0⟩ ∧ s.shr 1 = ⟨1048576, 0, 1, 1 + q1⟩ := by
  unfold AS.shr
  rw [h]
  exact ⟨rfl, rfl⟩
theorem atP_0 (B K P L now : Int) : atP B 0 K P L now = P := by unfold atP; rw [if_pos rfl]
theorem takes0 (h : s.sh = frS q0 q1) {c : Int} {r : List Ent} {id : Int} (hq : s.q 0 = (id, c) :: r) (hc : 1 ≤ c) : priceOf s 0 = 1 ∧ s.takes 0 now = decide (1 ≤ (s.bkt 0).1) := by
  obtain ⟨h1, _⟩ := fr_shr h
  have hp : priceOf s 0 = 1 := by unfold priceOf; rw [hq, h1]; show min c 1 = 1; omega
  refine ⟨hp, ?_⟩
  unfold AS.takes takeOk
  rw [h1, hp]
  simp [atP_0]
theorem takes1 (h : s.sh = frS q0 q1) {c : Int} {r : List Ent} {id : Int} (hq : s.q 1 = (id, c) :: r) (hc : 1 ≤ c) (hc2 : c ≤ 256) : priceOf s 1 = c ∧ s.takes 1 now = decide (c ≤ (s.bkt 1).1) := by
  obtain ⟨_, h1⟩ := fr_shr h
  have hp : priceOf s 1 = c := by unfold priceOf; rw [hq, h1]; show min c 1048576 = c; omega
  refine ⟨hp, ?_⟩
  unfold AS.takes takeOk
  rw [h1, hp]
  simp only [atP_0]
  rw [decide_eq_false (show ¬ c < 1 by omega), decide_eq_true (show c ≤ 1048576 by omega)]
  simp
theorem took_bk {t t' : Nat} (ok : LOk s a) (ht : t < s.m) : ((s.took t now).bkt t).1 = takeP (s.shr t).b (s.shr t).t (s.shr t).k (s.bkt t).1 (s.bkt t).2 now (priceOf s t) ∧ (t ≠ t' → (s.took t now).bkt t' = s.bkt t') :=
  ⟨by rw [show (s.took t now).bkt t = _ from AS.bkt_self (by rw [ok.lk]; exact ht) _], fun hne => AS.bkt_ne hne _⟩
theorem began_q {f1 : FQ} {id : Int} (ok : LOk s a) (hc : f1.cur < s.m) : (s.began f1 now id).q f1.cur = (s.q f1.cur).tail ∧ ∀ t, f1.cur ≠ t → (s.began f1 now id).q t = s.q t :=
  ⟨AS.q_self (s := (s.took f1.cur now).setF f1.pop) (by show f1.cur < s.ql.length; rw [ok.lq]; exact hc) _, fun t hne => AS.q_ne (s := (s.took f1.cur now).setF f1.pop) hne _⟩
theorem FrR.loop (hn1 : n1 ≤ 30) (hF : ∀ i, i < n0 → 0 ≤ F i ∧ F i ≤ 255) (hC : ∀ i, i < n1 → 0 ≤ C i ∧ C i ≤ 255) (h : SLoop now s o a s1 o' a') : ∀ {j p : Nat}, FrR q0 q1 F C n0 n1 j p s o a → FrR q0 q1 F C n0 n1 n1 (min 1 n0) s1 o' a' := by
  induction h with
  | full s o a hn =>
    intro j p hR
    exfalso
    apply hn
    rw [hR.rl, hR.sl]
    have := hR.p1; have := hR.jn
    omega
  | none s o a _ hn =>
    intro j p hR
    have hm := fr_m hR.sh
    have hz : ∀ t, t < 2 → s.f.lst t = [] := fun t ht => by
      apply Classical.byContradiction
      intro hne
      have := anyB_true (s := s.f) (t := t) (by rw [hR.ok.lf, hm]; exact ht) hne
      rw [this] at hn; cases hn
    have h1a : 1 ∉ a := hR.na
    have hj : j = n1 := by
      have := hR.ok.fe 1 (by rw [hm]; omega) h1a
      rw [hz 1 (by omega), hR.a1] at this
      have := congrArg List.length this
      rw [List.length_drop, l1_len] at this
      simp at this
      have := hR.jn
      omega
    have hp : p = min 1 n0 := by
      have := hR.p1; have := hR.pn
      by_cases h0 : 0 ∈ a
      · have := hR.aa h0; omega
      · have := hR.ok.fe 0 (by rw [hm]; omega) h0
        rw [hz 0 (by omega), hR.a0] at this
        have := congrArg List.length this
        rw [List.length_drop, l0_len] at this
        simp at this
        omega
    rw [hj, hp] at hR
    exact hR
  | fail s o a f1 en r s' o' a' _ hc hl hf _ ih =>
    intro j p hR
    obtain ⟨h1, h2, h3, _⟩ := hR.ok.cur hc hl
    have hm := fr_m hR.sh
    rw [hm] at h1
    have hkk := hR.ok.failed hc hl now
    by_cases e : f1.cur = 0
    · rw [e] at h3 hf hkk ih
      have hpn : p < n0 := by
        rw [hR.a0] at h3
        have := congrArg List.length h3
        rw [List.length_drop, l0_len] at this
        simp at this
        omega
      have hd := h3
      rw [hR.a0, l0_drop F hpn] at hd
      have h3' : s.q 0 = ((p : Int), 1 + F p) :: (l0 F n0).drop (p + 1) := by rw [hR.a0, l0_drop F hpn]
      obtain ⟨hpr, htk⟩ := takes0 (now := now) hR.sh h3' (by have := hF p hpn; omega)
      rw [htk, hR.b0] at hf
      have hp1 : p = 1 := by have := hR.p1; simp at hf; omega
      obtain ⟨tb1, tb2⟩ := took_bk (t := 0) (t' := 1) (now := now) hR.ok (by rw [hm]; omega)
      refine ih ⟨hkk, hR.sh, hR.sl, hR.a0, hR.a1, ?_, ?_, hR.rl, hR.p1, hR.pn, hR.jn, fun _ => ⟨hp1, hpn⟩, hR.ol, hR.ck, hR.oo, fun h1 => ?_⟩
      · show ((s.took 0 now).bkt 0).1 = _
        rw [tb1]
        unfold takeP
        obtain ⟨s0, _⟩ := fr_shr hR.sh
        rw [s0, hpr, hR.b0]
        simp only [atP_0]
        rw [if_neg (by omega), if_neg (by rintro ⟨_, h5⟩; omega)]
      · show _ ≤ ((s.took 0 now).bkt 1).1
        rw [tb2 (by omega)]
        exact hR.b1
      · rcases List.mem_append.1 h1 with h1 | h1
        · exact hR.na h1
        · simp at h1
    · exfalso
      have e1 : f1.cur = 1 := by omega
      rw [e1] at h3 hf
      have hjn : j < n1 := by
        rw [hR.a1] at h3
        have := congrArg List.length h3
        rw [List.length_drop, l1_len] at this
        simp at this
        omega
      have h3' : s.q 1 = (1000 + (j : Int), 1 + C j) :: (l1 C n1).drop (j + 1) := by rw [hR.a1, l1_drop C hjn]
      have hcj := hC j hjn
      obtain ⟨_, htk⟩ := takes1 (now := now) hR.sh h3' (by omega) (by omega)
      rw [htk] at hf
      have := hR.b1
      simp at hf
      omega
  | ok s o a f1 en r s' o' a' hru hc hl hf _ ih =>
    intro j p hR
    obtain ⟨h1, h2, h3, _⟩ := hR.ok.cur hc hl
    have hm := fr_m hR.sh
    have hcm := h1
    rw [hm] at h1
    have hkk := hR.ok.began hc hl hru now
    obtain ⟨bq1, bq2⟩ := began_q (now := now) (id := en.1) hR.ok hcm
    by_cases e : f1.cur = 0
    · have hpn : p < n0 := by
        rw [e, hR.a0] at h3
        have := congrArg List.length h3
        rw [List.length_drop, l0_len] at this
        simp at this
        omega
      have h3' : s.q 0 = ((p : Int), 1 + F p) :: (l0 F n0).drop (p + 1) := by rw [hR.a0, l0_drop F hpn]
      obtain ⟨hpr, htk⟩ := takes0 (now := now) hR.sh h3' (by have := hF p hpn; omega)
      rw [e, htk, hR.b0] at hf
      have hp0 : p = 0 := by simp at hf; omega
      have hen : en = ((p : Int), 1 + F p) := by
        rw [e, h3'] at h3
        simp only [List.cons.injEq] at h3
        exact h3.1.symm
      obtain ⟨tb1, tb2⟩ := took_bk (t := 0) (t' := 1) (now := now) hR.ok (by rw [hm]; omega)
      rw [e] at bq1 bq2
      refine ih (j := j) (p := p + 1) ⟨hkk, hR.sh, hR.sl, ?_, ?_, ?_, ?_, ?_, by omega, by omega, hR.jn, fun h0 => ?_, ?_, ?_, hR.oo.snoc (.inl ?_), hR.na⟩
      · rw [bq1, h3']; rfl
      · rw [bq2 1 (by omega)]; exact hR.a1
      · show ((s.took f1.cur now).bkt 0).1 = _
        rw [e, tb1]
        unfold takeP
        obtain ⟨s0, _⟩ := fr_shr hR.sh
        rw [s0, hpr, hR.b0]
        simp only [atP_0]
        rw [if_neg (by omega), if_pos ⟨by omega, by omega⟩]
        omega
      · show _ ≤ ((s.took f1.cur now).bkt 1).1
        rw [e, tb2 (by omega)]
        exact hR.b1
      · show (s.run ++ [en.1]).length = _
        rw [List.length_append, hR.rl]; simp; omega
      · exact absurd (e ▸ h0 : f1.cur ∈ a) h2
      · rw [List.length_append, hR.ol]; simp; omega
      · unfold cntK
        rw [List.filter_append, List.length_append]
        have := hR.ck
        unfold cntK at this
        rw [this, hen]
        simp [hp0]
      · rw [hen, hp0]; rfl
    · have e1 : f1.cur = 1 := by omega
      have hjn : j < n1 := by
        rw [e1, hR.a1] at h3
        have := congrArg List.length h3
        rw [List.length_drop, l1_len] at this
        simp at this
        omega
      have h3' : s.q 1 = (1000 + (j : Int), 1 + C j) :: (l1 C n1).drop (j + 1) := by rw [hR.a1, l1_drop C hjn]
      have hcj := hC j hjn
      obtain ⟨hpr, _⟩ := takes1 (now := now) hR.sh h3' (by omega) (by omega)
      have hen : en = (1000 + (j : Int), 1 + C j) := by
        rw [e1, h3'] at h3
        simp only [List.cons.injEq] at h3
        exact h3.1.symm
      obtain ⟨tb1, tb2⟩ := took_bk (t := 1) (t' := 0) (now := now) hR.ok (by rw [hm]; omega)
      rw [e1] at bq1 bq2
      have hb1 := hR.b1
      refine ih (j := j + 1) (p := p) ⟨hkk, hR.sh, hR.sl, ?_, ?_, ?_, ?_, ?_, hR.p1, hR.pn, by omega, hR.aa, ?_, ?_, hR.oo.snoc (.inr ?_), hR.na⟩
      · rw [bq2 0 (by omega)]; exact hR.a0
      · rw [bq1, h3']; rfl
      · show ((s.took f1.cur now).bkt 0).1 = _
        rw [e1, tb2 (by omega)]
        exact hR.b0
      · show _ ≤ ((s.took f1.cur now).bkt 1).1
        rw [e1, tb1]
        unfold takeP
        obtain ⟨_, s0⟩ := fr_shr hR.sh
        rw [s0, hpr]
        simp only [atP_0]
        rw [if_neg (by omega), if_pos ⟨by omega, by omega⟩]
        omega
      · show (s.run ++ [en.1]).length = _
        rw [List.length_append, hR.rl]; simp; omega
      · rw [List.length_append, hR.ol]; simp; omega
      · unfold cntK
        rw [List.filter_append, List.length_append]
        have := hR.ck
        unfold cntK at this
        rw [this, hen]
        simp [show (1000 : Int) ≤ 1000 + (j : Int) by omega]
      · rw [hen, hR.ck]
/-- Nobody else can start. -/
structure FrZ (q0 q1 : Int) (s : AS) (run : List Int) : Prop where
  sh : s.sh = frS q0 q1
  a1 : s.q 1 = []
  z0 : ∀ id c r, s.q 0 = (id, c) :: r → 1 ≤ c ∧ (s.bkt 0).1 = 0
  rn : s.run = run
theorem FrR.stuck (h : FrR q0 q1 F C n0 n1 n1 (min 1 n0) s o a) (hF : ∀ i, i < n0 → 0 ≤ F i ∧ F i ≤ 255) : FrZ q0 q1 s.back s.run ∧ AOk s.back := by
  refine ⟨⟨h.sh, ?_, fun id c r hq => ?_, rfl⟩, h.ok.back⟩
  · show s.q 1 = []
    rw [h.a1, List.drop_eq_nil_of_le (by rw [l1_len]; omega)]
  · have hq : s.q 0 = (id, c) :: r := hq
    have hpn : min 1 n0 < n0 := by
      rw [h.a0] at hq
      have := congrArg List.length hq
      rw [List.length_drop, l0_len] at this
      simp at this
      omega
    rw [h.a0, l0_drop F hpn] at hq
    simp only [List.cons.injEq, Prod.mk.injEq] at hq
    have hb : (s.bkt 0).1 = 1 - ((min 1 n0 : Nat) : Int) := h.b0
    have := hF _ hpn
    exact ⟨by omega, by show (s.bkt 0).1 = 0; omega⟩
theorem FrZ.loop {run : List Int} (h : SLoop now s o a s1 o' a') : LOk s a → FrZ q0 q1 s run → o' = o ∧ s1.run = run ∧ LOk s1 a' := by
  induction h with
  | full s o a _ => exact fun hk hz => ⟨rfl, hz.rn, hk⟩
  | none s o a _ _ => exact fun hk hz => ⟨rfl, hz.rn, hk⟩
  | fail s o a f1 en r s' o' a' _ hc hl hf _ ih =>
    intro hk hz
    obtain ⟨h1, h2, h3, _⟩ := hk.cur hc hl
    have hm := fr_m hz.sh
    rw [hm] at h1
    have e : f1.cur = 0 := by
      have : f1.cur ≠ 1 := fun e => by rw [e, hz.a1] at h3; cases h3
      omega
    rw [e] at h3
    obtain ⟨hc1, hb⟩ := hz.z0 en.1 en.2 r h3
    obtain ⟨hpr, _⟩ := takes0 (now := now) hz.sh h3 hc1
    obtain ⟨tb1, _⟩ := took_bk (t := 0) (t' := 1) (now := now) hk (by rw [hm]; omega)
    have hkk := hk.failed hc hl now
    refine ih hkk ⟨hz.sh, hz.a1, fun id c r' hq => ⟨(hz.z0 id c r' hq).1, ?_⟩, hz.rn⟩
    show ((s.took f1.cur now).bkt 0).1 = 0
    rw [e, tb1]
    unfold takeP
    obtain ⟨s0, _⟩ := fr_shr hz.sh
    rw [s0, hpr, hb]
    simp only [atP_0]
    rw [if_neg (by omega), if_neg (by rintro ⟨_, h5⟩; omega)]
  | ok s o a f1 en r s' o' a' _ hc hl hf _ _ =>
    intro hk hz
    exfalso
    obtain ⟨h1, h2, h3, _⟩ := hk.cur hc hl
    rw [fr_m hz.sh] at h1
    have e : f1.cur = 0 := by
      have : f1.cur ≠ 1 := fun e => by rw [e, hz.a1] at h3; cases h3
      omega
    rw [e] at h3 hf
    obtain ⟨hc1, hb⟩ := hz.z0 en.1 en.2 r h3
    obtain ⟨_, htk⟩ := takes0 (now := now) hz.sh h3 hc1
    rw [htk, hb] at hf
    simp at hf
theorem FrZ.when {run : List Int} (hz : FrZ q0 q1 s run) (now : Int) : whenV s now = .tuple #[.int .i64 0, errV 3] := by
  unfold whenV
  rw [fr_m hz.sh]
  have h1 : wBest s now 1 = none := by
    show wStep s now 0 none = none
    unfold wStep
    cases hq : s.q 0 with
    | nil => rw [if_pos rfl]
    | cons en r =>
      obtain ⟨hc1, hb⟩ := hz.z0 en.1 en.2 r hq
      obtain ⟨hpr, _⟩ := takes0 (now := now) hz.sh hq hc1
      obtain ⟨s0, _⟩ := fr_shr hz.sh
      rw [if_neg (by simp), if_neg]
      rw [s0, hpr, hb]
      unfold whenE
      simp [atP_0]
  have h2 : wBest s now 2 = none := by
    show wStep s now 1 (wBest s now 1) = none
    unfold wStep
    rw [if_pos hz.a1]
    exact h1
  rw [h2]
  rfl
end
end Go.Proofs.Ytmdajndmobpgbaa

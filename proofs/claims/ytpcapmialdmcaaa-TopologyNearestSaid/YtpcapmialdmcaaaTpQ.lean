/- topology: plain: the document's way to the best routes; links and what is done with them. No program here. -/
import Derived.Test.YtpcapmialdmcaaaTpP
namespace Go.Proofs.Ytpcapmialdmcaaa
open Go.RowKit

section
variable {E : ByteArray → ByteArray → Option Int} {V : ByteArray → Prop} {a : ByteArray}
/-- A route that goes on from another one. -/
inductive Ext (E : ByteArray → ByteArray → Option Int) (V : ByteArray → Prop) (v : ByteArray) (p : Rt) : ByteArray → Rt → Prop
  | refl : Ext E V v p v p
  | snoc {i : ByteArray} {r : Rt} {k : ByteArray} {l : Int} : Ext E V v p i r → E i k = some l → V k → Ext E V v p k (gone r k l)
theorem Ext.pth {v s : ByteArray} {p r : Rt} (h : Ext E V v p s r) (hp : Pth E V a v p) : Pth E V a s r := by
  induction h with
  | refl => exact hp
  | snoc _ he hv ih => exact .snoc ih he hv
theorem Ext.lee (N : Net_ E) {v s : ByteArray} {p r : Rt} (h : Ext E V v p s r) : lee p r := by
  induction h with
  | refl => exact lee.refl _
  | @snoc i r k l _ he hv ih => exact ih.trans (lee.of_btr (btr_ext r k (N.bd _ _ _ he).1))
theorem Pth.pre {s k : ByteArray} {r : Rt} (h : Pth E V a s r) (hk : k ∈ r.1) : ∃ p, Pth E V a k p ∧ Ext E V k p s r := by
  induction h with
  | one h =>
    have : k = a := by simpa using hk
    subst this
    exact ⟨_, .one h, .refl⟩
  | @snoc i r k' l hp he hv ih =>
    have : k ∈ r.1 ∨ k = k' := by
      have h1 : k ∈ r.1 ++ [k'] := hk
      simpa using h1
    rcases this with h1 | rfl
    · obtain ⟨p, h2, h3⟩ := ih h1
      exact ⟨p, h2, .snoc h3 he hv⟩
    · exact ⟨_, .snoc hp he hv, .refl⟩
theorem snoc_inj {α : Type} {x y : List α} {a b : α} (h : x ++ [a] = y ++ [b]) : x = y ∧ a = b := by
  have := List.append_inj' h rfl
  exact ⟨this.1, by simpa using this.2⟩
/-- The document's way: R the routes so far. -/
structure BF (E : ByteArray → ByteArray → Option Int) (V : ByteArray → Prop) (a : ByteArray) (R : ByteArray → Option Rt) : Prop where
  p : ∀ s r, R s = some r → Pth E V a s r ∧ r.1.Nodup
  st : ∃ r, R a = some r ∧ lee r ([a], 0)
  pre : ∀ s r, R s = some r → ∀ v p, Pth E V a v p → Ext E V v p s r → ∃ q, R v = some q ∧ lee q p
variable {R : ByteArray → Option Rt}
theorem BF.start (h : V a) : BF E V a (setO (fun _ => none) a (some ([a], 0))) where
  p := fun s r hs => by
    by_cases e : s = a
    · subst e
      rw [setO_self] at hs
      obtain rfl := Option.some.inj hs
      exact ⟨.one h, by simp⟩
    · rw [setO_ne e] at hs; cases hs
  st := ⟨_, setO_self _ _ _, lee.refl _⟩
  pre := fun s r hs v p hp he => by
    by_cases e : s = a
    · subst e
      rw [setO_self] at hs
      obtain rfl := Option.some.inj hs
      generalize hr : (([s], 0) : Rt) = r0 at he
      cases he with
      | refl => subst hr; exact ⟨_, setO_self _ _ _, lee.refl _⟩
      | @snoc i r k l he' _ _ =>
        have h1 := he'.pth hp
        obtain ⟨q, h2⟩ := h1.last
        have h3 := congrArg (fun x : Rt => x.1.length) hr
        have h4 : (gone r s l).1.length = q.length + 2 := by unfold gone; rw [h2]; simp
        simp only [h4] at h3
        simp at h3
    · rw [setO_ne e] at hs; cases hs
theorem BF.step (N : Net_ E) (h : BF E V a R) {i k : ByteArray} {r : Rt} {l : Int} (hi : R i = some r) (he : E i k = some l) (hv : V k) (hb : ∀ r', R k = some r' → btr (gone r k l) r' = true) : BF E V a (setO R k (some (gone r k l))) ∧ (gone r k l).1.Nodup ∧ Pth E V a k (gone r k l) := by
  obtain ⟨hp, hnd⟩ := h.p i r hi
  have hkn : k ∉ r.1 := fun hk => by
    obtain ⟨p, h1, h2⟩ := hp.pre hk
    obtain ⟨q, h3, h4⟩ := h.pre i r hi k p h1 h2
    have h5 := (h4.trans (h2.lee N)).trans (lee.of_btr (btr_ext r k (N.bd _ _ _ he).1))
    have h6 := hb q h3
    unfold lee at h5
    rw [h6] at h5; cases h5
  have hnd2 : (gone r k l).1.Nodup := List.nodup_append.2 ⟨hnd, by simp, fun x hx y hy => by
    have : y = k := by simpa using hy
    subst this
    intro e
    subst e
    exact hkn hx⟩
  refine ⟨⟨fun s r' hs => ?_, ?_, fun s r' hs v p hp' he' => ?_⟩, hnd2, .snoc hp he hv⟩
  · by_cases e : s = k
    · subst e
      rw [setO_self] at hs
      obtain rfl := Option.some.inj hs
      exact ⟨.snoc hp he hv, hnd2⟩
    · rw [setO_ne e] at hs; exact h.p s r' hs
  · obtain ⟨r0, h1, h2⟩ := h.st
    by_cases e : a = k
    · subst e
      exact ⟨_, setO_self _ _ _, (lee.of_btr (hb r0 h1)).trans h2⟩
    · exact ⟨r0, by rw [setO_ne e]; exact h1, h2⟩
  · have key : (∃ q, R v = some q ∧ lee q p) → ∃ q, setO R k (some (gone r k l)) v = some q ∧ lee q p := by
      rintro ⟨q, h1, h2⟩
      by_cases e : v = k
      · subst e
        exact ⟨_, setO_self _ _ _, (lee.of_btr (hb q h1)).trans h2⟩
      · exact ⟨q, by rw [setO_ne e]; exact h1, h2⟩
    by_cases e : s = k
    · subst e
      rw [setO_self] at hs
      have hs' := Option.some.inj hs
      clear hs
      generalize hr : gone r s l = r0 at hs' he'
      subst hs'
      cases he' with
      | refl => exact ⟨_, setO_self _ _ _, lee.refl _⟩
      | @snoc i' r2 k' l' he2 he3 hv2 =>
        have e1 : r.1 ++ [s] = r2.1 ++ [s] := congrArg Prod.fst hr
        have e2 : r.2 + l = r2.2 + l' := congrArg Prod.snd hr
        obtain ⟨e3, _⟩ := snoc_inj e1
        obtain ⟨x1, hx1⟩ := hp.last
        obtain ⟨x2, hx2⟩ := (he2.pth hp').last
        rw [hx1, hx2] at e3
        obtain ⟨e4, rfl⟩ := snoc_inj e3
        rw [he] at he3
        obtain rfl := Option.some.inj he3
        have : r2 = r := Prod.ext (by rw [hx1, hx2, e4]) (by omega)
        subst this
        exact key (h.pre i r2 hi v p hp' he2)
    · rw [setO_ne e] at hs
      exact key (h.pre s r' hs v p hp' he')
/-- Nothing changes any more. -/
theorem BF.final (h : BF E V a R) (hf : ∀ i k r l, V i → V k → R i = some r → E i k = some l → ∃ q, R k = some q ∧ lee q (gone r k l)) (s : ByteArray) : (∀ r, R s = some r ↔ Best E V a s r) ∧ (R s = none ↔ ∀ r, ¬ Pth E V a s r) := by
  have key : ∀ {v p}, Pth E V a v p → ∃ q, R v = some q ∧ lee q p := fun {v p} hp => by
    induction hp with
    | one _ => exact h.st
    | @snoc i r k l hp he hv ih =>
      obtain ⟨q, h1, h2⟩ := ih
      obtain ⟨q2, h3, h4⟩ := hf i k q l hp.in hv h1 he
      exact ⟨q2, h3, h4.trans (lee_gone h2 k l)⟩
  refine ⟨fun r => ⟨fun hr => ⟨(h.p s r hr).1, fun r' hp => ?_⟩, fun hb => ?_⟩, fun hn r hp => ?_, fun hn => ?_⟩
  · obtain ⟨q, h1, h2⟩ := key hp
    rw [hr] at h1
    obtain rfl := Option.some.inj h1
    exact h2
  · obtain ⟨q, h1, h2⟩ := key hb.1
    rw [h1]
    exact congrArg some (h2.antisymm (hb.2 q (h.p s q h1).1))
  · obtain ⟨q, h1, _⟩ := key hp
    rw [hn] at h1; cases h1
  · cases h1 : R s with
    | none => rfl
    | some r => exact absurd (h.p s r h1).1 (hn r)
/-- All short lists of towns, the sums of lists, how many routes are better. -/
def allL (ts : List ByteArray) : Nat → List (List ByteArray)
  | 0 => [[]]
  | n + 1 => allL ts n ++ (allL ts n).flatMap fun l => ts.map fun x => l ++ [x]
theorem allL_mem {ts : List ByteArray} : ∀ {n : Nat} {l : List ByteArray}, l.length ≤ n → (∀ x ∈ l, x ∈ ts) → l ∈ allL ts n
  | 0, l, h, _ => by
    have : l = [] := List.eq_nil_of_length_eq_zero (by omega)
    subst this; simp [allL]
  | n + 1, l, h, hx => by
    rw [allL, List.mem_append]
    by_cases h1 : l.length ≤ n
    · exact .inl (allL_mem h1 hx)
    · right
      have hne : l ≠ [] := fun e => by subst e; simp at h1
      rw [List.mem_flatMap]
      refine ⟨l.dropLast, allL_mem (by rw [List.length_dropLast]; omega) fun x h2 => hx x ((List.dropLast_sublist l).mem h2), ?_⟩
      rw [List.mem_map]
      exact ⟨l.getLast hne, hx _ (List.getLast_mem hne), List.dropLast_concat_getLast hne⟩
def cst (E : ByteArray → ByteArray → Option Int) : List ByteArray → Int
  | [] => 0
  | [_] => 0
  | x :: y :: l => (E x y).getD 0 + cst E (y :: l)
theorem cst_snoc (i k : ByteArray) : ∀ l, cst E (l ++ [i] ++ [k]) = cst E (l ++ [i]) + (E i k).getD 0
  | [] => by simp [cst]
  | [x] => by simp [cst]
  | x :: y :: l => by
    have := cst_snoc i k (y :: l)
    simp only [List.cons_append, cst] at this ⊢
    rw [this]
    omega
theorem Pth.cst {s : ByteArray} {r : Rt} (h : Pth E V a s r) : r.2 = cst E r.1 := by
  induction h with
  | one _ => rfl
  | @snoc i r k l hp he _ ih =>
    obtain ⟨q, hq⟩ := hp.last
    have e1 : (gone r k l).1 = q ++ [i] ++ [k] := by show r.1 ++ [k] = _; rw [hq]
    rw [e1, cst_snoc, he, ← hq, ← ih]
    rfl
theorem Pth.all {s : ByteArray} {r : Rt} (h : Pth E V a s r) : ∀ x ∈ r.1, V x := by
  induction h with
  | one h => intro x hx; have : x = a := by simpa using hx
             subst this; exact h
  | @snoc i r k l hp he hv ih =>
    intro x hx
    have h1 : x ∈ r.1 ++ [k] := hx
    rcases List.mem_append.1 h1 with h1 | h1
    · exact ih x h1
    · have : x = k := by simpa using h1
      subst this; exact hv
theorem nodup_le {α : Type} [DecidableEq α] : ∀ {l ts : List α}, l.Nodup → (∀ x ∈ l, x ∈ ts) → l.length ≤ ts.length
  | [], _, _, _ => Nat.zero_le _
  | x :: l, ts, hn, hs => by
    obtain ⟨h1, h2⟩ := List.nodup_cons.1 hn
    have := nodup_le (ts := ts.erase x) h2 fun y hy => (List.mem_erase_of_ne (fun e : y = x => h1 (by rw [← e]; exact hy))).2 (hs y (by simp [hy]))
    rw [List.length_erase_of_mem (hs x (by simp))] at this
    have h3 := List.length_pos_of_mem (hs x (by simp))
    rw [List.length_cons]
    omega
def cands (E : ByteArray → ByteArray → Option Int) (ts : List ByteArray) : List Rt := (allL ts ts.length).map fun l => (l, cst E l)
theorem cands_mem {ts : List ByteArray} {s : ByteArray} {r : Rt} (h : Pth E (· ∈ ts) a s r) (hn : r.1.Nodup) : r ∈ cands E ts :=
  List.mem_map.2 ⟨r.1, allL_mem (nodup_le hn h.all) h.all, Prod.ext rfl h.cst.symm⟩
def rank (C : List Rt) : Option Rt → Nat
  | none => C.length + 1
  | some r => C.countP fun c => btr c r
theorem countP_lt {α : Type} {p q : α → Bool} : ∀ {C : List α}, (∀ x, p x = true → q x = true) → (∃ x ∈ C, q x = true ∧ p x = false) → C.countP p < C.countP q
  | [], _, h => by obtain ⟨x, hx, _⟩ := h; cases hx
  | c :: C, hpq, ⟨x, hx, h1, h2⟩ => by
    have hle : C.countP p ≤ C.countP q := List.countP_mono_left fun x _ => hpq x
    rw [List.countP_cons, List.countP_cons]
    rcases List.mem_cons.1 hx with rfl | hx
    · rw [h1, h2]; simp; omega
    · have := countP_lt hpq ⟨x, hx, h1, h2⟩
      have h3 := hpq c
      cases hp : p c
      · simp; omega
      · rw [h3 hp]; simp; omega
theorem rank_lt {C : List Rt} {o : Option Rt} {x : Rt} (hx : x ∈ C) (hb : ∀ r, o = some r → btr x r = true) : rank C (some x) < rank C o := by
  cases o with
  | none => exact Nat.lt_succ_of_le List.countP_le_length
  | some r => exact countP_lt (fun c hc => btr_trans hc (hb r rfl)) ⟨x, hx, hb r rfl, btr_irrefl x⟩
noncomputable def muR (C : List Rt) (ts : List ByteArray) (R : ByteArray → Option Rt) : Nat := (ts.map fun s => rank C (R s)).sum
theorem sum_le {α : Type} {f g : α → Nat} : ∀ {ts : List α}, (∀ s ∈ ts, f s ≤ g s) → (ts.map f).sum ≤ (ts.map g).sum
  | [], _ => by simp
  | x :: ts, h => by
    have h1 := h x (by simp)
    have h2 := sum_le (ts := ts) (f := f) (g := g) fun s hs => h s (by simp [hs])
    simp; omega
theorem sum_lt {α : Type} {f g : α → Nat} : ∀ {ts : List α}, (∀ s ∈ ts, f s ≤ g s) → (∃ s ∈ ts, f s < g s) → (ts.map f).sum < (ts.map g).sum
  | [], _, h => by obtain ⟨x, hx, _⟩ := h; cases hx
  | x :: ts, h, ⟨s, hs, hlt⟩ => by
    have h1 := h x (by simp)
    have h2 := sum_le (ts := ts) (f := f) (g := g) fun s hs => h s (by simp [hs])
    rcases List.mem_cons.1 hs with rfl | hs
    · simp; omega
    · have := sum_lt (ts := ts) (f := f) (g := g) (fun s hs => h s (by simp [hs])) ⟨s, hs, hlt⟩
      simp; omega
theorem muR_lt {C : List Rt} {ts : List ByteArray} {k : ByteArray} {x : Rt} (hk : k ∈ ts) (hx : x ∈ C) (hb : ∀ r, R k = some r → btr x r = true) : muR C ts (setO R k (some x)) < muR C ts R := by
  refine sum_lt (fun s _ => ?_) ⟨k, hk, ?_⟩
  · by_cases e : s = k
    · subst e; rw [setO_self]; exact Nat.le_of_lt (rank_lt hx hb)
    · rw [setO_ne e]; exact Nat.le_refl _
  · rw [setO_self]; exact rank_lt hx hb
end
/-- A link: its towns in order, its latency, its interruptions. -/
structure TL where
  a : ByteArray
  b : ByteArray
  lat : Int
  cuts : List (Int × Int)
def tl0 : TL := ⟨ByteArray.empty, ByteArray.empty, 0, []⟩
theorem minS_eq (x y : ByteArray) : Lib.minS x y = if ltS y x = true then y else x := by
  unfold Lib.minS
  by_cases h : ltS y x = true
  · rw [if_pos h, if_neg]
    rintro (h1 | h1)
    · have := ltS_asymm (ltS_iff.2 h1)
      rw [h] at this; cases this
    · have : x = y := ByteArray.ext (Array.toList_inj.1 h1)
      subst this
      rw [ltS_irrefl] at h; cases h
  · rw [if_neg h, if_pos]
    cases h2 : ltS x y
    · exact .inr (by rw [ltS_tri h2 (by simpa using h)])
    · exact .inl (ltS_iff.1 h2)
theorem maxS_eq (x y : ByteArray) : Lib.maxS x y = if ltS x y = true then y else x := by
  unfold Lib.maxS
  by_cases h : ltS x y = true
  · rw [if_pos h, if_pos (ltS_iff.1 h)]
  · rw [if_neg h, if_neg (fun h1 => h (ltS_iff.2 h1))]
theorem minS_comm (x y : ByteArray) : Lib.minS x y = Lib.minS y x := by
  rw [minS_eq, minS_eq]
  by_cases h : ltS y x = true
  · rw [if_pos h, if_neg (by rw [ltS_asymm h]; simp)]
  · rw [if_neg h]
    by_cases h2 : ltS x y = true
    · rw [if_pos h2]
    · rw [if_neg h2]
      exact ltS_tri (by simpa using h2) (by simpa using h)
theorem maxS_comm (x y : ByteArray) : Lib.maxS x y = Lib.maxS y x := by
  rw [maxS_eq, maxS_eq]
  by_cases h : ltS x y = true
  · rw [if_pos h, if_neg (by rw [ltS_asymm h]; simp)]
  · rw [if_neg h]
    by_cases h2 : ltS y x = true
    · rw [if_pos h2]
    · rw [if_neg h2]
      exact ltS_tri (by simpa using h) (by simpa using h2)
theorem min_lt_max {x y : ByteArray} (h : x ≠ y) : ltS (Lib.minS x y) (Lib.maxS x y) = true := by
  rw [minS_eq, maxS_eq]
  by_cases h1 : ltS y x = true
  · rw [if_pos h1, if_neg (by rw [ltS_asymm h1]; simp)]; exact h1
  · rw [if_neg h1]
    by_cases h2 : ltS x y = true
    · rw [if_pos h2]; exact h2
    · exact absurd (ltS_tri (by simpa using h2) (by simpa using h1)) h
theorem minS_or (x y : ByteArray) : Lib.minS x y = x ∨ Lib.minS x y = y := by rw [minS_eq]; split <;> simp
theorem maxS_or (x y : ByteArray) : Lib.maxS x y = x ∨ Lib.maxS x y = y := by rw [maxS_eq]; split <;> simp
theorem minmax_self (x : ByteArray) : Lib.minS x x = x ∧ Lib.maxS x x = x := ⟨(minS_or x x).elim id id, (maxS_or x x).elim id id⟩
def isL (a b : ByteArray) (l : TL) : Bool := (l.a.toList == (Lib.minS a b).toList) && (l.b.toList == (Lib.maxS a b).toList)
theorem isL_iff {a b : ByteArray} {l : TL} : isL a b l = true ↔ l.a = Lib.minS a b ∧ l.b = Lib.maxS a b := by
  unfold isL
  rw [Bool.and_eq_true, eqB_iff, eqB_iff]
theorem isL_comm (a b : ByteArray) : isL a b = isL b a := by
  funext l
  unfold isL
  rw [minS_comm, maxS_comm]
/-- The index of a link. -/
def fnd (L : List TL) (a b : ByteArray) : Option Nat := L.findIdx? (isL a b)
theorem fnd_comm (L : List TL) (a b : ByteArray) : fnd L a b = fnd L b a := by unfold fnd; rw [isL_comm]
def lk (L : List TL) (i : Nat) : TL := L.getD i tl0
theorem lk_get {L : List TL} {i : Nat} (h : i < L.length) : lk L i = L[i] := by simp [lk, List.getD, h]
theorem fnd_some {L : List TL} {a b : ByteArray} {i : Nat} (h : fnd L a b = some i) : i < L.length ∧ (lk L i).a = Lib.minS a b ∧ (lk L i).b = Lib.maxS a b ∧ ∀ j, j < i → isL a b (lk L j) = false := by
  unfold fnd at h
  rw [List.findIdx?_eq_some_iff_getElem] at h
  obtain ⟨h1, h2, h3⟩ := h
  rw [isL_iff] at h2
  refine ⟨h1, by rw [lk_get h1]; exact h2.1, by rw [lk_get h1]; exact h2.2, fun j hj => ?_⟩
  rw [lk_get (by omega)]
  simpa using h3 j hj
theorem fnd_none {L : List TL} {a b : ByteArray} (h : fnd L a b = none) : ∀ l ∈ L, isL a b l = false := by
  unfold fnd at h
  rw [List.findIdx?_eq_none_iff] at h
  exact fun l hl => by simpa using h l hl
def clipT (t : Int) : Int := max 0 (min t 1099511627776)
def upL (l : TL) (t : Int) : Bool := l.cuts.all fun c => !(decide (c.1 ≤ t) && decide (t < c.2))
def upT (L : List TL) (a b : ByteArray) (t : Int) : Bool := match fnd L a b with
  | none => false
  | some i => upL (lk L i) (clipT t)
/-- The links that work at a time. -/
def lat (L : List TL) (t : Int) (a b : ByteArray) : Option Int := match fnd L a b with
  | none => none
  | some i => if upL (lk L i) (clipT t) = true then some (lk L i).lat else none
theorem lat_up {L : List TL} {a b : ByteArray} {t : Int} : (lat L t a b).isSome = upT L a b t := by
  unfold lat upT
  cases fnd L a b with
  | none => rfl
  | some i =>
    show (if upL (lk L i) (clipT t) = true then some (lk L i).lat else none).isSome = upL (lk L i) (clipT t)
    cases upL (lk L i) (clipT t) <;> rfl
theorem upT_some {L : List TL} {a b : ByteArray} {t : Int} (h : upT L a b t = true) : ∃ i, fnd L a b = some i ∧ lat L t a b = some (lk L i).lat := by
  unfold upT at h
  unfold lat
  cases hf : fnd L a b with
  | none => rw [hf] at h; cases h
  | some i =>
    rw [hf] at h
    have h' : upL (lk L i) (clipT t) = true := h
    exact ⟨i, rfl, if_pos h'⟩
theorem upT_none {L : List TL} {a b : ByteArray} {t : Int} (h : upT L a b t = false) : lat L t a b = none := by
  have := lat_up (L := L) (a := a) (b := b) (t := t)
  rw [h] at this
  cases hl : lat L t a b with
  | none => rfl
  | some x => rw [hl] at this; cases this
/-- Links among towns. -/
structure LOk (V : ByteArray → Prop) (L : List TL) : Prop where
  lt : ∀ l ∈ L, ltS l.a l.b = true
  v : ∀ l ∈ L, V l.a ∧ V l.b
  bd : ∀ l ∈ L, 1 ≤ l.lat ∧ l.lat ≤ 17179869184
  ne : L.Pairwise fun x y => ¬ (x.a = y.a ∧ x.b = y.b)
  ct : ∀ l ∈ L, ∀ c ∈ l.cuts, (0 ≤ c.1 ∧ c.1 ≤ 1099511627776) ∧ (0 ≤ c.2 ∧ c.2 ≤ 1099511627776)
section
variable {V : ByteArray → Prop} {L : List TL}
theorem LOk.nil : LOk V [] := ⟨by simp, by simp, by simp, List.Pairwise.nil, by simp⟩
theorem lk_mem {i : Nat} (h : i < L.length) : lk L i ∈ L := by rw [lk_get h]; exact List.getElem_mem h
theorem LOk.net (h : LOk V L) (t : Int) : Net_ (lat L t) where
  bd := fun i k l hl => by
    unfold lat at hl
    cases hf : fnd L i k with
    | none => rw [hf] at hl; cases hl
    | some j =>
      rw [hf] at hl
      have h1 : (if upL (lk L j) (clipT t) = true then some (lk L j).lat else none) = some l := hl
      split at h1
      · obtain rfl := Option.some.inj h1
        exact h.bd _ (lk_mem (fnd_some hf).1)
      · cases h1
  sym := fun i k => by unfold lat; rw [fnd_comm]
  ne := fun i => by
    unfold lat
    cases hf : fnd L i i with
    | none => rfl
    | some j =>
      obtain ⟨h1, h2, h3, _⟩ := fnd_some hf
      have := h.lt _ (lk_mem h1)
      rw [h2, h3, (minmax_self i).1, (minmax_self i).2, ltS_irrefl] at this
      cases this
open Classical in
/-- Link. -/
noncomputable def connS (ts : List ByteArray) (L : List TL) (a b : ByteArray) (l : Int) : List TL × Int :=
  if ¬ (a ∈ ts ∧ b ∈ ts ∧ a ≠ b) then (L, 8) else if l < 1 ∨ 17179869184 < l then (L, 1) else
    match fnd L a b with
    | none => (L ++ [⟨Lib.minS a b, Lib.maxS a b, l, []⟩], 0)
    | some i => (L.set i { lk L i with lat := l }, 0)
theorem connS_congr {ts ts' : List ByteArray} (h : ∀ x, x ∈ ts ↔ x ∈ ts') (L : List TL) (a b : ByteArray) (l : Int) : connS ts L a b l = connS ts' L a b l := by
  unfold connS
  rw [h a, h b]
/-- Down. -/
def downS (L : List TL) (a b : ByteArray) (f t : Int) : List TL × Int := match fnd L a b with
  | none => (L, 3)
  | some i => if t < f then (L, 7) else (L.set i { lk L i with cuts := (lk L i).cuts ++ [(clipT f, clipT t)] }, 0)
theorem pairwise_set {R : TL → TL → Prop} (hs : ∀ x y, R x y → R y x) {L : List TL} {i : Nat} {x : TL} (h : L.Pairwise R) (hi : i < L.length) (hx : ∀ y, R (lk L i) y → R x y) : (L.set i x).Pairwise R := by
  rw [List.pairwise_iff_getElem] at h ⊢
  intro p q hp hq hpq
  rw [List.length_set] at hp hq
  rw [List.getElem_set, List.getElem_set]
  rw [lk_get hi] at hx
  by_cases e1 : i = p
  · subst e1
    rw [if_pos rfl, if_neg (by omega)]
    exact hx _ (h i q hp hq hpq)
  · rw [if_neg e1]
    by_cases e2 : i = q
    · subst e2
      rw [if_pos rfl]
      exact hs _ _ (hx _ (hs _ _ (h p i hp hq hpq)))
    · rw [if_neg e2]
      exact h p q hp hq hpq
theorem LOk.conn (h : LOk V L) {ts : List ByteArray} (hV : ∀ x, x ∈ ts → V x) (a b : ByteArray) (l : Int) : LOk V (connS ts L a b l).1 := by
  unfold connS
  by_cases h1 : a ∈ ts ∧ b ∈ ts ∧ a ≠ b
  · rw [if_neg (Classical.not_not.2 h1)]
    obtain ⟨ha, hb, hab⟩ := h1
    by_cases h2 : l < 1 ∨ 17179869184 < l
    · rw [if_pos h2]; exact h
    · rw [if_neg h2]
      have hv : V (Lib.minS a b) ∧ V (Lib.maxS a b) := ⟨(minS_or a b).elim (fun e => by rw [e]; exact hV a ha) (fun e => by rw [e]; exact hV b hb), (maxS_or a b).elim (fun e => by rw [e]; exact hV a ha) (fun e => by rw [e]; exact hV b hb)⟩
      cases hf : fnd L a b with
      | none =>
        have hn := fnd_none hf
        refine ⟨fun x hx => ?_, fun x hx => ?_, fun x hx => ?_, List.pairwise_append.2 ⟨h.ne, List.pairwise_singleton _ _, fun x hx y hy e => ?_⟩, fun x hx => ?_⟩
        · rcases List.mem_append.1 hx with hx | hx
          · exact h.lt x hx
          · rw [List.mem_singleton] at hx; subst hx; exact min_lt_max hab
        · rcases List.mem_append.1 hx with hx | hx
          · exact h.v x hx
          · rw [List.mem_singleton] at hx; subst hx; exact hv
        · rcases List.mem_append.1 hx with hx | hx
          · exact h.bd x hx
          · rw [List.mem_singleton] at hx; subst hx; show 1 ≤ l ∧ l ≤ _; omega
        · rw [List.mem_singleton] at hy
          subst hy
          have := hn x hx
          rw [isL_iff.2 e] at this; cases this
        · rcases List.mem_append.1 hx with hx | hx
          · exact h.ct x hx
          · rw [List.mem_singleton] at hx; subst hx; intro c hc; cases hc
      | some i =>
        obtain ⟨hi, e1, e2, _⟩ := fnd_some hf
        have hm := lk_mem hi
        refine ⟨fun x hx => ?_, fun x hx => ?_, fun x hx => ?_, pairwise_set (fun x y hxy e => hxy ⟨e.1.symm, e.2.symm⟩) h.ne hi (fun y hy => hy), fun x hx => ?_⟩
        · rcases List.mem_or_eq_of_mem_set hx with hx | rfl
          · exact h.lt x hx
          · exact h.lt (lk L i) hm
        · rcases List.mem_or_eq_of_mem_set hx with hx | rfl
          · exact h.v x hx
          · exact h.v (lk L i) hm
        · rcases List.mem_or_eq_of_mem_set hx with hx | rfl
          · exact h.bd x hx
          · show 1 ≤ l ∧ l ≤ _; omega
        · rcases List.mem_or_eq_of_mem_set hx with hx | rfl
          · exact h.ct x hx
          · exact h.ct (lk L i) hm
  · rw [if_pos h1]; exact h
theorem clipT_bd (t : Int) : 0 ≤ clipT t ∧ clipT t ≤ 1099511627776 := by unfold clipT; omega
theorem LOk.down (h : LOk V L) (a b : ByteArray) (f t : Int) : LOk V (downS L a b f t).1 := by
  unfold downS
  cases hf : fnd L a b with
  | none => exact h
  | some i =>
    show LOk V (if t < f then (L, (7 : Int)) else _).1
    by_cases h2 : t < f
    · rw [if_pos h2]; exact h
    · rw [if_neg h2]
      obtain ⟨hi, e1, e2, _⟩ := fnd_some hf
      have hm := lk_mem hi
      refine ⟨fun x hx => ?_, fun x hx => ?_, fun x hx => ?_, pairwise_set (fun x y hxy e => hxy ⟨e.1.symm, e.2.symm⟩) h.ne hi (fun y hy => hy), fun x hx => ?_⟩
      · rcases List.mem_or_eq_of_mem_set hx with hx | rfl
        · exact h.lt x hx
        · exact h.lt (lk L i) hm
      · rcases List.mem_or_eq_of_mem_set hx with hx | rfl
        · exact h.v x hx
        · exact h.v (lk L i) hm
      · rcases List.mem_or_eq_of_mem_set hx with hx | rfl
        · exact h.bd x hx
        · exact h.bd (lk L i) hm
      · rcases List.mem_or_eq_of_mem_set hx with hx | rfl
        · exact h.ct x hx
        · intro c hc
          rcases List.mem_append.1 hc with hc | hc
          · exact h.ct (lk L i) hm c hc
          · rw [List.mem_singleton] at hc
            subst hc
            exact ⟨clipT_bd f, clipT_bd t⟩
end
end Go.Proofs.Ytpcapmialdmcaaa

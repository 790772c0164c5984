/- topology: plain: texts in order, routes by their sum, their length, their towns; the best route over links that work. No program here. -/
import Derived.Test.YtpcapmialdmcaaaKit
import Derived.Lib.MinMaxS
namespace Go.Proofs.Ytpcapmialdmcaaa
open Go.RowKit

theorem eqB_iff {a b : ByteArray} : (a.toList == b.toList) = true ↔ a = b := by
  rw [beq_iff_eq]
  constructor
  · intro h
    rw [ByteArray.toList_eq, ByteArray.toList_eq] at h
    exact ByteArray.ext (Array.toList_inj.1 h)
  · intro h
    rw [h]
theorem eqB_false {a b : ByteArray} : (a.toList == b.toList) = false ↔ a ≠ b := by
  rw [← Bool.not_eq_true, eqB_iff]
/-- Go's '<' on texts. -/
def ltS (a b : ByteArray) : Bool := Op.bytesLess a.toList b.toList
theorem ltS_iff {a b : ByteArray} : ltS a b = true ↔ a.data.toList < b.data.toList := by
  unfold ltS
  rw [bytesLess_eq, decide_eq_true_eq, Lib.toList_data, Lib.toList_data]
theorem ltS_irrefl (a : ByteArray) : ltS a a = false := by
  rw [← Bool.not_eq_true, ltS_iff]
  exact List.lt_irrefl _
theorem ltS_trans {a b c : ByteArray} (h1 : ltS a b = true) (h2 : ltS b c = true) : ltS a c = true := by
  rw [ltS_iff] at *
  exact List.lt_trans h1 h2
theorem ltS_tri {a b : ByteArray} (h1 : ltS a b = false) (h2 : ltS b a = false) : a = b := by
  rw [← Bool.not_eq_true, ltS_iff] at h1 h2
  exact ByteArray.ext (Array.toList_inj.1 (List.le_antisymm (List.not_lt.1 h2) (List.not_lt.1 h1)))
theorem ltS_asymm {a b : ByteArray} (h : ltS a b = true) : ltS b a = false := by
  cases h2 : ltS b a
  · rfl
  · have := ltS_trans h h2
    rw [ltS_irrefl] at this
    cases this
/-- Lists of texts, in order. -/
def lexLt : List ByteArray → List ByteArray → Bool
  | _, [] => false
  | [], _ :: _ => true
  | a :: x, b :: y => ltS a b || ((a.toList == b.toList) && lexLt x y)
theorem lexLt_irrefl : ∀ x, lexLt x x = false
  | [] => rfl
  | a :: x => by simp [lexLt, ltS_irrefl, lexLt_irrefl x]
theorem lexLt_cons {a b : ByteArray} {x y : List ByteArray} : lexLt (a :: x) (b :: y) = true ↔ ltS a b = true ∨ (a = b ∧ lexLt x y = true) := by
  simp only [lexLt, Bool.or_eq_true, Bool.and_eq_true, eqB_iff]
theorem lexLt_trans : ∀ {x y z : List ByteArray}, lexLt x y = true → lexLt y z = true → lexLt x z = true
  | x, [], _, h, _ => by rw [show lexLt x [] = false by cases x <;> rfl] at h; cases h
  | [], _ :: _, [], _, h => by cases h
  | [], _ :: _, _ :: _, _, _ => rfl
  | _ :: _, _ :: _, [], _, h => by cases h
  | a :: x, b :: y, c :: z, h1, h2 => by
    rw [lexLt_cons] at *
    rcases h1 with h1 | ⟨rfl, h1⟩ <;> rcases h2 with h2 | ⟨rfl, h2⟩
    · exact .inl (ltS_trans h1 h2)
    · exact .inl h1
    · exact .inl h2
    · exact .inr ⟨rfl, lexLt_trans h1 h2⟩
theorem lexLt_tri : ∀ {x y : List ByteArray}, lexLt x y = false → lexLt y x = false → x = y
  | [], [], _, _ => rfl
  | [], _ :: _, h, _ => by cases h
  | _ :: _, [], _, h => by cases h
  | a :: x, b :: y, h1, h2 => by
    have e : a = b := by
      apply ltS_tri
      · cases h : ltS a b
        · rfl
        · rw [lexLt_cons.2 (.inl h)] at h1; cases h1
      · cases h : ltS b a
        · rfl
        · rw [lexLt_cons.2 (.inl h)] at h2; cases h2
    subst e
    rw [lexLt_tri (x := x) (y := y)]
    · cases h : lexLt x y
      · rfl
      · rw [lexLt_cons.2 (.inr ⟨rfl, h⟩)] at h1; cases h1
    · cases h : lexLt y x
      · rfl
      · rw [lexLt_cons.2 (.inr ⟨rfl, h⟩)] at h2; cases h2
theorem lexLt_snoc : ∀ {x y : List ByteArray} (k : ByteArray), x.length = y.length → lexLt x y = true → lexLt (x ++ [k]) (y ++ [k]) = true
  | [], [], _, _, h => by cases h
  | [], _ :: _, _, h, _ => by cases h
  | _ :: _, [], _, h, _ => by cases h
  | a :: x, b :: y, k, hl, h => by
    rw [List.cons_append, List.cons_append, lexLt_cons]
    rw [lexLt_cons] at h
    rcases h with h | ⟨h1, h2⟩
    · exact .inl h
    · exact .inr ⟨h1, lexLt_snoc k (by simpa using hl) h2⟩
/-- A route: its towns, its sum. -/
abbrev Rt := List ByteArray × Int
def btr (a b : Rt) : Bool := if a.2 ≠ b.2 then decide (a.2 < b.2) else if a.1.length ≠ b.1.length then decide (a.1.length < b.1.length) else lexLt a.1 b.1
theorem btr_iff {a b : Rt} : btr a b = true ↔ a.2 < b.2 ∨ (a.2 = b.2 ∧ (a.1.length < b.1.length ∨ (a.1.length = b.1.length ∧ lexLt a.1 b.1 = true))) := by
  unfold btr
  by_cases h : a.2 = b.2
  · rw [if_neg (by simpa using h)]
    by_cases h2 : a.1.length = b.1.length
    · rw [if_neg (by simpa using h2)]
      constructor
      · exact fun x => .inr ⟨h, .inr ⟨h2, x⟩⟩
      · rintro (x | ⟨_, x | ⟨_, x⟩⟩)
        · omega
        · omega
        · exact x
    · rw [if_pos h2, decide_eq_true_eq]
      constructor
      · exact fun x => .inr ⟨h, .inl x⟩
      · rintro (x | ⟨_, x | ⟨x, _⟩⟩)
        · omega
        · exact x
        · omega
  · rw [if_pos h, decide_eq_true_eq]
    constructor
    · exact fun x => .inl x
    · rintro (x | ⟨x, _⟩)
      · exact x
      · omega
theorem btr_irrefl (a : Rt) : btr a a = false := by
  rw [← Bool.not_eq_true, btr_iff]
  rintro (h | ⟨_, h | ⟨_, h⟩⟩)
  · omega
  · omega
  · rw [lexLt_irrefl] at h; cases h
theorem btr_trans {a b c : Rt} (h1 : btr a b = true) (h2 : btr b c = true) : btr a c = true := by
  rw [btr_iff] at *
  rcases h1 with h1 | ⟨e1, h1⟩ <;> rcases h2 with h2 | ⟨e2, h2⟩
  · exact .inl (by omega)
  · exact .inl (by omega)
  · exact .inl (by omega)
  · refine .inr ⟨by omega, ?_⟩
    rcases h1 with h1 | ⟨l1, h1⟩ <;> rcases h2 with h2 | ⟨l2, h2⟩
    · exact .inl (by omega)
    · exact .inl (by omega)
    · exact .inl (by omega)
    · exact .inr ⟨by omega, lexLt_trans h1 h2⟩
theorem btr_tri {a b : Rt} (h1 : btr a b = false) (h2 : btr b a = false) : a = b := by
  rw [← Bool.not_eq_true, btr_iff] at h1 h2
  have e1 : a.2 = b.2 := by
    rcases Int.lt_trichotomy a.2 b.2 with h | h | h
    · exact absurd (.inl h) h1
    · exact h
    · exact absurd (.inl h) h2
  have e2 : a.1.length = b.1.length := by
    rcases Nat.lt_trichotomy a.1.length b.1.length with h | h | h
    · exact absurd (.inr ⟨e1, .inl h⟩) h1
    · exact h
    · exact absurd (.inr ⟨e1.symm, .inl h⟩) h2
  refine Prod.ext (lexLt_tri ?_ ?_) e1
  · cases h : lexLt a.1 b.1
    · rfl
    · exact absurd (.inr ⟨e1, .inr ⟨e2, h⟩⟩) h1
  · cases h : lexLt b.1 a.1
    · rfl
    · exact absurd (.inr ⟨e1.symm, .inr ⟨e2.symm, h⟩⟩) h2
/-- b is no better than a. -/
def lee (a b : Rt) : Prop := btr b a = false
theorem lee.refl (a : Rt) : lee a a := btr_irrefl a
theorem lee.trans {a b c : Rt} (h1 : lee a b) (h2 : lee b c) : lee a c := by
  unfold lee at *
  cases h : btr c a
  · rfl
  · cases h3 : btr a b
    · have := btr_tri h3 h1
      subst this
      rw [h] at h2; cases h2
    · rw [btr_trans h h3] at h2; cases h2
theorem lee.of_btr {a b : Rt} (h : btr a b = true) : lee a b := by
  unfold lee
  cases h2 : btr b a
  · rfl
  · have := btr_trans h h2
    rw [btr_irrefl] at this; cases this
theorem lee.antisymm {a b : Rt} (h1 : lee a b) (h2 : lee b a) : a = b := btr_tri h2 h1
theorem lee.lt {a b c : Rt} (h1 : lee a b) (h2 : btr b c = true) : btr a c = true := by
  cases h : btr a c
  · have h3 : lee c a := h
    have h4 : lee c b := h3.trans h1
    unfold lee at h4
    rw [h2] at h4; cases h4
  · rfl
/-- A route goes on to a town. -/
def gone (r : Rt) (k : ByteArray) (l : Int) : Rt := (r.1 ++ [k], r.2 + l)
theorem btr_gone {a b : Rt} (h : btr a b = true) (k : ByteArray) (l : Int) : btr (gone a k l) (gone b k l) = true := by
  rw [btr_iff] at *
  unfold gone
  simp only [List.length_append, List.length_singleton]
  rcases h with h | ⟨e, h | ⟨e2, h⟩⟩
  · exact .inl (by omega)
  · exact .inr ⟨by omega, .inl (by omega)⟩
  · exact .inr ⟨by omega, .inr ⟨by omega, lexLt_snoc k e2 h⟩⟩
theorem lee_gone {a b : Rt} (h : lee a b) (k : ByteArray) (l : Int) : lee (gone a k l) (gone b k l) := by
  cases h2 : btr a b
  · have := btr_tri h2 h
    subst this
    exact lee.refl _
  · exact lee.of_btr (btr_gone h2 k l)
theorem btr_ext (a : Rt) (k : ByteArray) {l : Int} (h : 1 ≤ l) : btr a (gone a k l) = true := btr_iff.2 (.inl (by show a.2 < a.2 + l; omega))
/-- The links that work, with their latencies. -/
structure Net_ (E : ByteArray → ByteArray → Option Int) : Prop where
  bd : ∀ i k l, E i k = some l → 1 ≤ l ∧ l ≤ 17179869184
  sym : ∀ i k, E i k = E k i
  ne : ∀ i, E i i = none
section
variable {E : ByteArray → ByteArray → Option Int} {V : ByteArray → Prop} {a : ByteArray}
/-- The routes from a. -/
inductive Pth (E : ByteArray → ByteArray → Option Int) (V : ByteArray → Prop) (a : ByteArray) : ByteArray → Rt → Prop
  | one : V a → Pth E V a a ([a], 0)
  | snoc {i : ByteArray} {r : Rt} {k : ByteArray} {l : Int} : Pth E V a i r → E i k = some l → V k → Pth E V a k (gone r k l)
def Best (E : ByteArray → ByteArray → Option Int) (V : ByteArray → Prop) (a b : ByteArray) (r : Rt) : Prop := Pth E V a b r ∧ ∀ r', Pth E V a b r' → lee r r'
theorem Best.unique {b : ByteArray} {r r' : Rt} (h : Best E V a b r) (h' : Best E V a b r') : r = r' := (h.2 _ h'.1).antisymm (h'.2 _ h.1)
theorem Pth.len (N : Net_ E) {b : ByteArray} {r : Rt} (h : Pth E V a b r) : 1 ≤ r.1.length ∧ 0 ≤ r.2 ∧ r.2 + 17179869184 ≤ 17179869184 * (r.1.length : Int) := by
  induction h with
  | one _ => simp
  | @snoc i r k l hp he hv ih =>
    have := N.bd _ _ _ he
    have e1 : (gone r k l).1.length = r.1.length + 1 := by simp [gone]
    have e2 : (gone r k l).2 = r.2 + l := rfl
    rw [e1, e2]
    obtain ⟨h1, h2, h3⟩ := ih
    refine ⟨by omega, by omega, ?_⟩
    rw [Int.natCast_add, Int.mul_add]
    omega
theorem Pth.in {b : ByteArray} {r : Rt} (h : Pth E V a b r) : V b := by cases h <;> assumption
theorem Pth.from {b : ByteArray} {r : Rt} (h : Pth E V a b r) : V a := by
  induction h with
  | one h => exact h
  | snoc _ _ _ ih => exact ih
theorem Pth.last {b : ByteArray} {r : Rt} (h : Pth E V a b r) : ∃ l, r.1 = l ++ [b] := by
  cases h with
  | one _ => exact ⟨[], rfl⟩
  | snoc _ _ _ => exact ⟨_, rfl⟩
theorem Pth.mono {V' : ByteArray → Prop} {b : ByteArray} {r : Rt} (h : Pth E V a b r) (hV : ∀ x, V x → V' x) : Pth E V' a b r := by
  induction h with
  | one h => exact .one (hV _ h)
  | snoc _ he hv ih => exact .snoc ih he (hV _ hv)
/-- The program's way: done D, open O. -/
structure Dij (E : ByteArray → ByteArray → Option Int) (V : ByteArray → Prop) (a : ByteArray) (D O : ByteArray → Option Rt) (c : Nat) (P : ByteArray → ByteArray → Prop) : Prop where
  va : V a
  d : ∀ s r, D s = some r → Best E V a s r ∧ r.1.length ≤ c
  o : ∀ s r, O s = some r → Pth E V a s r ∧ D s = none ∧ r.1.length ≤ c + 1
  e : ∀ i r k l, D i = some r → E i k = some l → V k → D k = none → P i k → ∃ r', O k = some r' ∧ lee r' (gone r k l)
  s : D a = none → O a = some ([a], 0)
def allP : ByteArray → ByteArray → Prop := fun _ _ => True
variable {D O : ByteArray → Option Rt} {c : Nat} {P : ByteArray → ByteArray → Prop}
theorem Dij.start (h : V a) : Dij E V a (fun _ => none) (fun s => if s = a then some ([a], 0) else none) 0 allP where
  va := h
  d := fun s r h => by cases h
  o := fun s r hs => by
    by_cases e : s = a
    · subst e
      simp at hs
      subst hs
      exact ⟨.one h, rfl, by simp⟩
    · simp [e] at hs
  e := fun i r k l h => by cases h
  s := fun _ => by simp
theorem Dij.reach (N : Net_ E) (h : Dij E V a D O c allP) {v : ByteArray} {p : Rt} (hp : Pth E V a v p) : D v ≠ none ∨ ∃ k rk, O k = some rk ∧ lee rk p := by
  induction hp with
  | one _ =>
    cases hd : D a with
    | none => exact .inr ⟨a, _, h.s hd, lee.refl _⟩
    | some r => exact .inl (by simp)
  | @snoc i r k l hp he hv ih =>
    rcases ih with hi | ⟨q, rq, hq, hle⟩
    · cases hd : D i with
      | none => exact absurd hd hi
      | some r0 =>
        cases hk : D k with
        | some _ => exact .inl (by simp)
        | none =>
          obtain ⟨r', h1, h2⟩ := h.e i r0 k l hd he hv hk trivial
          exact .inr ⟨k, r', h1, h2.trans (lee_gone (((h.d i r0 hd).1).2 r hp) k l)⟩
    · exact .inr ⟨q, rq, hq, hle.trans (lee.of_btr (btr_ext r k (N.bd _ _ _ he).1))⟩
theorem Dij.best (N : Net_ E) (h : Dij E V a D O c allP) {s : ByteArray} {r : Rt} (ho : O s = some r) (hm : ∀ k rk, O k = some rk → lee r rk) : Best E V a s r := by
  refine ⟨(h.o s r ho).1, fun r' hp => ?_⟩
  rcases h.reach N hp with hd | ⟨k, rk, h1, h2⟩
  · exact absurd (h.o s r ho).2.1 hd
  · exact (hm k rk h1).trans h2
theorem Dij.final (N : Net_ E) (h : Dij E V a D O c allP) (hO : ∀ k, O k = none) (s : ByteArray) : (∀ r, D s = some r ↔ Best E V a s r) ∧ (D s = none ↔ ∀ r, ¬ Pth E V a s r) := by
  have key : ∀ p, Pth E V a s p → ∃ r, D s = some r := fun p hp => by
    rcases h.reach N hp with hd | ⟨k, rk, h1, _⟩
    · cases h2 : D s with
      | none => exact absurd h2 hd
      | some r => exact ⟨r, rfl⟩
    · rw [hO] at h1; cases h1
  refine ⟨fun r => ⟨fun hd => (h.d s r hd).1, fun hb => ?_⟩, fun hd r hp => ?_, fun hn => ?_⟩
  · obtain ⟨r', h1⟩ := key r hb.1
    rw [h1, (h.d s r' h1).1.unique hb]
  · obtain ⟨r', h1⟩ := key r hp
    rw [hd] at h1; cases h1
  · cases h1 : D s with
    | none => rfl
    | some r => exact absurd (h.d s r h1).1.1 (hn r)
open Classical in
noncomputable def setO (f : ByteArray → Option Rt) (s : ByteArray) (r : Option Rt) : ByteArray → Option Rt := fun x => if x = s then r else f x
theorem setO_self (f : ByteArray → Option Rt) (s : ByteArray) (r : Option Rt) : setO f s r s = r := if_pos rfl
theorem setO_ne {f : ByteArray → Option Rt} {s x : ByteArray} {r : Option Rt} (h : x ≠ s) : setO f s r x = f x := if_neg h
/-- The next town is done. -/
theorem Dij.take (N : Net_ E) (h : Dij E V a D O c allP) {s : ByteArray} {r : Rt} (ho : O s = some r) (hm : ∀ k rk, O k = some rk → lee r rk) : Dij E V a (setO D s (some r)) (setO O s none) (c + 1) (fun i _ => i ≠ s) where
  va := h.va
  d := fun x rx hx => by
    by_cases e : x = s
    · subst e
      rw [setO_self] at hx
      obtain rfl := Option.some.inj hx
      exact ⟨h.best N ho hm, (h.o x r ho).2.2⟩
    · rw [setO_ne e] at hx
      exact ⟨(h.d x rx hx).1, by have := (h.d x rx hx).2; omega⟩
  o := fun x rx hx => by
    by_cases e : x = s
    · subst e; rw [setO_self] at hx; cases hx
    · rw [setO_ne e] at hx
      obtain ⟨h1, h2, h3⟩ := h.o x rx hx
      exact ⟨h1, by rw [setO_ne e]; exact h2, by omega⟩
  e := fun i ri k l hd he hv hk hi => by
    rw [setO_ne hi] at hd
    by_cases e : k = s
    · subst e; rw [setO_self] at hk; cases hk
    · rw [setO_ne e] at hk ⊢
      exact h.e i ri k l hd he hv hk trivial
  s := fun hd => by
    by_cases e : a = s
    · subst e; rw [setO_self] at hd; cases hd
    · rw [setO_ne e] at hd ⊢
      exact h.s hd
/-- One town more has been looked at from s: it is done, or has no link, or its open route is no worse. -/
theorem Dij.seen (h : Dij E V a D O c P) {s k : ByteArray} (hk : D k ≠ none ∨ E s k = none ∨ ∃ r l r', D s = some r ∧ E s k = some l ∧ O k = some r' ∧ lee r' (gone r k l)) : Dij E V a D O c (fun i x => P i x ∨ (i = s ∧ x = k)) :=
  { h with
    e := fun i ri x l hd he hv hx hp => by
      rcases hp with hp | ⟨rfl, rfl⟩
      · exact h.e i ri x l hd he hv hx hp
      · rcases hk with hk | hk | ⟨r, l', r', h1, h2, h3, h4⟩
        · exact absurd hx hk
        · rw [hk] at he; cases he
        · rw [h1] at hd
          rw [h2] at he
          obtain rfl := Option.some.inj hd
          obtain rfl := Option.some.inj he
          exact ⟨r', h3, h4⟩ }
/-- A better route is open. -/
theorem Dij.open (N : Net_ E) (h : Dij E V a D O c P) {s k : ByteArray} {r : Rt} {l : Int} (hs : D s = some r) (he : E s k = some l) (hv : V k) (hk : D k = none) (hb : ∀ r', O k = some r' → btr (gone r k l) r' = true) : Dij E V a D (setO O k (some (gone r k l))) c (fun i x => P i x ∨ (i = s ∧ x = k)) where
  va := h.va
  d := h.d
  o := fun x rx hx => by
    by_cases e : x = k
    · subst e
      rw [setO_self] at hx
      obtain rfl := Option.some.inj hx
      refine ⟨.snoc (h.d s r hs).1.1 he hv, hk, ?_⟩
      have := (h.d s r hs).2
      unfold gone
      simp only [List.length_append, List.length_singleton]
      omega
    · rw [setO_ne e] at hx
      exact h.o x rx hx
  e := fun i ri x l' hd he' hv' hx hp => by
    by_cases e : x = k
    · subst e
      rw [setO_self]
      refine ⟨_, rfl, ?_⟩
      rcases hp with hp | ⟨rfl, _⟩
      · obtain ⟨r', h1, h2⟩ := h.e i ri x l' hd he' hv' hx hp
        exact (lee.of_btr (hb r' h1)).trans h2
      · rw [hs] at hd
        rw [he] at he'
        obtain rfl := Option.some.inj hd
        obtain rfl := Option.some.inj he'
        exact lee.refl _
    · rw [setO_ne e]
      rcases hp with hp | ⟨_, rfl⟩
      · exact h.e i ri x l' hd he' hv' hx hp
      · exact absurd rfl e
  s := fun hd => by
    by_cases e : a = k
    · subst e
      have := hb _ (h.s hd)
      rw [btr_iff] at this
      have hl := (h.d s r hs).1.1.len N
      have hlb := N.bd _ _ _ he
      rcases this with h1 | ⟨h1, _⟩
      · exfalso; have : r.2 + l < 0 := h1; omega
      · exfalso; have : r.2 + l = 0 := h1; omega
    · rw [setO_ne e]
      exact h.s hd
theorem Dij.weaken {P' : ByteArray → ByteArray → Prop} (h : Dij E V a D O c P) (hP : ∀ i k, V k → P' i k → P i k) : Dij E V a D O c P' :=
  { h with e := fun i r k l hd he hv hk hp => h.e i r k l hd he hv hk (hP i k hv hp) }
end
end Go.Proofs.Ytpcapmialdmcaaa

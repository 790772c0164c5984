/- Plain model of deficit round robin: the queue's state, how the round moves till an entry is chosen, and that it ends. No program here. The queue of package fair in memory, and what its small methods compute: known, Length, Deficit, find, and the library functions that they call. Conditions: the queue lies in memory as 'FqAt' says. -/
import Derived.Test.YtmdajndmobpgbaaZErr
namespace Go.Proofs.Ytmdajndmobpgbaa.Fq

abbrev Ent := Int × Int

structure FQ where
  quanta : List Int
  defs : List Int
  lists : List (List Ent)
  cur : Nat
  begun : Bool

def FQ.m (s : FQ) : Nat := s.lists.length
def FQ.lst (s : FQ) (t : Nat) : List Ent := s.lists.getD t []
def FQ.df (s : FQ) (t : Nat) : Int := s.defs.getD t 0
def FQ.qn (s : FQ) (t : Nat) : Int := s.quanta.getD t 0

/-- What is always so. -/
structure Gd (s : FQ) : Prop where
  m1 : 1 ≤ s.m
  m2 : s.m ≤ 16
  lq : s.quanta.length = s.m
  ld : s.defs.length = s.m
  cur : s.cur < s.m
  q1 : ∀ t, t < s.m → 1 ≤ s.qn t ∧ s.qn t ≤ 65536
  sz : ∀ t, t < s.m → ∀ e ∈ s.lst t, 1 ≤ e.2 ∧ e.2 ≤ 1048576
  d0 : ∀ t, t < s.m → 0 ≤ s.df t
  d1 : ∀ t, t < s.m → (t ≠ s.cur ∨ s.begun = false) → s.df t ≤ 1048576
  d2 : s.df s.cur ≤ 1114112

def FQ.setD (s : FQ) (x : Int) : FQ := { s with defs := s.defs.set s.cur x }
/-- The visit of the tenant at which the round is. -/
def FQ.visit (s : FQ) : FQ :=
  if s.lst s.cur = [] then s.setD 0 else if s.begun = true then s else { s.setD (s.df s.cur + s.qn s.cur) with begun := true }
def FQ.go (s : FQ) : FQ := { s with cur := (s.cur + 1) % s.m, begun := false }
/-- Is the first entry of the tenant chosen? -/
def FQ.stop (s : FQ) : Prop := ∃ e r, s.lst s.cur = e :: r ∧ e.2 ≤ s.df s.cur

inductive Chs : FQ → FQ → Prop where
  | stop (s : FQ) : s.visit.stop → Chs s s.visit
  | go (s s' : FQ) : ¬ s.visit.stop → Chs s.visit.go s' → Chs s s'

theorem Chs.det {s a b : FQ} (h : Chs s a) : Chs s b → a = b := by
  induction h with
  | stop s hs =>
    intro hb
    cases hb with
    | stop _ _ => rfl
    | go _ _ hn _ => exact absurd hs hn
  | go s s' hn _ ih =>
    intro hb
    cases hb with
    | stop _ hs => exact absurd hs hn
    | go _ _ _ h2 => exact ih h2

section
variable {s : FQ}
theorem getD_set_self {α : Type} {l : List α} {i : Nat} {x d : α} (h : i < l.length) : (l.set i x).getD i d = x := by simp [List.getD, h]
theorem getD_set_ne {α : Type} {l : List α} {i j : Nat} {x d : α} (h : i ≠ j) : (l.set i x).getD j d = l.getD j d := by simp [List.getD, List.getElem?_set_ne h]
theorem setD_lists (x : Int) : (s.setD x).lists = s.lists := rfl
theorem setD_m (x : Int) : (s.setD x).m = s.m := rfl
theorem setD_lst (x : Int) (t : Nat) : (s.setD x).lst t = s.lst t := rfl
theorem setD_df_self (g : Gd s) (x : Int) : (s.setD x).df s.cur = x := getD_set_self (by rw [g.ld]; exact g.cur)
theorem setD_df_ne (x : Int) {t : Nat} (h : t ≠ s.cur) : (s.setD x).df t = s.df t := getD_set_ne (fun e => h e.symm)
theorem visit_lists : s.visit.lists = s.lists := by unfold FQ.visit; split; rfl; split <;> rfl
theorem visit_m : s.visit.m = s.m := by unfold FQ.m; rw [visit_lists]
theorem visit_lst (t : Nat) : s.visit.lst t = s.lst t := by unfold FQ.lst; rw [visit_lists]
theorem visit_cur : s.visit.cur = s.cur := by unfold FQ.visit; split; rfl; split <;> rfl
theorem visit_quanta : s.visit.quanta = s.quanta := by unfold FQ.visit; split; rfl; split <;> rfl
theorem visit_df_ne {t : Nat} (h : t ≠ s.cur) : s.visit.df t = s.df t := by
  unfold FQ.visit
  split
  · exact setD_df_ne _ h
  · split
    · rfl
    · exact setD_df_ne _ h
theorem Gd.setD (g : Gd s) {x : Int} (h0 : 0 ≤ x) (h1 : x ≤ 1048576) : Gd (s.setD x) where
  m1 := g.m1
  m2 := g.m2
  lq := g.lq
  ld := by show (s.defs.set s.cur x).length = _; rw [List.length_set]; exact g.ld
  cur := g.cur
  q1 := g.q1
  sz := g.sz
  d0 := fun t ht => by
    by_cases h : t = s.cur
    · subst h; rw [setD_df_self g]; exact h0
    · rw [setD_df_ne x h]; exact g.d0 t ht
  d1 := fun t ht hc => by
    by_cases h : t = s.cur
    · subst h; rw [setD_df_self g]; exact h1
    · rw [setD_df_ne x h]; exact g.d1 t ht (Or.inl h)
  d2 := by show (s.setD x).df s.cur ≤ _; rw [setD_df_self g]; omega
theorem Gd.visit (g : Gd s) : Gd s.visit := by
  unfold FQ.visit
  split
  · exact g.setD (by omega) (by omega)
  · split
    · exact g
    · next hb =>
      have hb' : s.begun = false := by simpa using hb
      have h0 := g.d0 s.cur g.cur
      have h1 := g.d1 s.cur g.cur (Or.inr hb')
      have h2 := g.q1 s.cur g.cur
      exact {
        m1 := g.m1, m2 := g.m2, lq := g.lq
        ld := by show (s.defs.set s.cur _).length = _; rw [List.length_set]; exact g.ld
        cur := g.cur, q1 := g.q1, sz := g.sz
        d0 := fun t ht => by
          show 0 ≤ (s.setD _).df t
          by_cases h : t = s.cur
          · subst h; rw [setD_df_self g]; omega
          · rw [setD_df_ne _ h]; exact g.d0 t ht
        d1 := fun t ht hc => by
          show (s.setD _).df t ≤ _
          rcases hc with h | h
          · have h : t ≠ s.cur := h
            rw [setD_df_ne _ h]; exact g.d1 t ht (Or.inl h)
          · cases h
        d2 := by show (s.setD _).df s.cur ≤ _; rw [setD_df_self g]; omega }
/-- Behind a visit that did not choose, every deficit is small. -/
theorem visit_small (g : Gd s) (hn : ¬ s.visit.stop) : ∀ t, t < s.m → s.visit.df t ≤ 1048576 := fun t ht => by
  by_cases h : t = s.cur
  · subst h
    cases hl : s.lst s.cur with
    | nil =>
      have : s.visit = s.setD 0 := by unfold FQ.visit; rw [if_pos hl]
      rw [this, setD_df_self g]; omega
    | cons e r =>
      have h1 := (g.sz s.cur g.cur e (by rw [hl]; simp)).2
      have h2 : ¬ e.2 ≤ s.visit.df s.cur := fun h => hn ⟨e, r, by rw [visit_lst, visit_cur]; exact hl, by rw [visit_cur]; exact h⟩
      omega
  · rw [visit_df_ne h]; exact g.d1 t ht (Or.inl h)
theorem Gd.go (g : Gd s) (hs : ∀ t, t < s.m → s.df t ≤ 1048576) : Gd s.go :=
  { m1 := g.m1, m2 := g.m2, lq := g.lq, ld := g.ld, cur := Nat.mod_lt _ g.m1, q1 := g.q1, sz := g.sz, d0 := g.d0
    d1 := fun t ht _ => hs t ht
    d2 := by have := hs ((s.cur + 1) % s.m) (Nat.mod_lt _ g.m1); exact Int.le_trans this (by omega) }

/-- How far the round is from choosing at tenant t at the latest. -/
def mu (t : Nat) (s : FQ) : Nat :=
  ((match s.lst t with | [] => 0 | e :: _ => (e.2 - s.df t).toNat) + (if s.begun = true ∧ s.cur = t then 1 else 0)) * s.m + (t + s.m - s.cur) % s.m
theorem mod_step {t c m : Nat} (ht : t < m) (hc : c < m) (hne : c ≠ t) : (t + m - (c + 1) % m) % m + 1 = (t + m - c) % m := by
  by_cases h1 : c + 1 = m
  · have e1 : (c + 1) % m = 0 := by rw [h1]; exact Nat.mod_self m
    have e2 : t + m - c = t + 1 := by omega
    have e3 : (t + m - 0) % m = t := by rw [Nat.sub_zero, Nat.add_mod_right, Nat.mod_eq_of_lt ht]
    rw [e1, e2, e3, Nat.mod_eq_of_lt (by omega)]
  · have e1 : (c + 1) % m = c + 1 := Nat.mod_eq_of_lt (by omega)
    rw [e1]
    by_cases h2 : c < t
    · have e2 : t + m - c = (t - c) + m := by omega
      have e3 : t + m - (c + 1) = (t - c - 1) + m := by omega
      rw [e2, e3, Nat.add_mod_right, Nat.add_mod_right, Nat.mod_eq_of_lt (by omega), Nat.mod_eq_of_lt (by omega)]
      omega
    · rw [Nat.mod_eq_of_lt (by omega), Nat.mod_eq_of_lt (by omega)]
      omega
theorem mod_self {t m : Nat} (ht : t < m) : (t + m - (t + 1) % m) % m + 1 ≤ m := Nat.mod_lt _ (by omega)
theorem mu_go (g : Gd s) {t : Nat} (ht : t < s.m) (hne : s.lst t ≠ []) (hn : ¬ s.visit.stop) : mu t s.visit.go < mu t s := by
  have hm : s.visit.go.m = s.m := visit_m
  have hlst : s.visit.go.lst t = s.lst t := visit_lst t
  have hcur : s.visit.go.cur = (s.cur + 1) % s.m := by show (s.visit.cur + 1) % s.visit.m = _; rw [visit_cur, visit_m]
  have hbg : s.visit.go.begun = false := rfl
  have hdf : s.visit.go.df t = s.visit.df t := rfl
  unfold mu
  rw [hm, hlst, hcur, hdf]
  rw [if_neg (fun h : s.visit.go.begun = true ∧ _ => by rw [hbg] at h; exact absurd h.1 (by simp))]
  cases hl : s.lst t with
  | nil => exact absurd hl hne
  | cons e r =>
    simp only
    by_cases hc : s.cur = t
    · have hd : (e.2 - s.visit.df t).toNat + 1 ≤ (e.2 - s.df t).toNat + (if s.begun = true ∧ s.cur = t then 1 else 0) := by
        have h2 : ¬ e.2 ≤ s.visit.df t := fun h => hn ⟨e, r, by rw [visit_lst, visit_cur, hc]; exact hl, by rw [visit_cur, hc]; exact h⟩
        have hle : s.lst s.cur ≠ [] := by rw [hc, hl]; simp
        by_cases hb : s.begun = true
        · rw [if_pos ⟨hb, hc⟩]
          have : s.visit = s := by unfold FQ.visit; rw [if_neg hle, if_pos hb]
          rw [this]; omega
        · rw [if_neg (fun h => hb h.1)]
          have : s.visit.df t = s.df t + s.qn t := by
            unfold FQ.visit; rw [if_neg hle, if_neg hb]
            show (s.setD _).df t = _
            rw [← hc, setD_df_self g]
          rw [this] at h2 ⊢
          have := (g.q1 t ht).1
          omega
      have h1 := Nat.mul_le_mul_right s.m hd
      have h2 := mod_self ht
      rw [Nat.add_mul] at h1
      rw [hc] at *
      rw [Nat.add_zero]
      have e5 : 1 * s.m = s.m := Nat.one_mul _
      omega
    · rw [if_neg (fun h => hc h.2), visit_df_ne (fun h => hc h.symm)]
      have h3 := mod_step ht g.cur hc
      omega
/-- The round ends: an entry is chosen. -/
theorem Chs.ends (g : Gd s) {t : Nat} (ht : t < s.m) (hne : s.lst t ≠ []) : ∃ s', Chs s s' := by
  have main : ∀ (k : Nat) (s : FQ), Gd s → t < s.m → s.lst t ≠ [] → mu t s < k → ∃ s', Chs s s' := by
    intro k
    induction k with
    | zero => intro s _ _ _ h; omega
    | succ k ih =>
      intro s g ht hne hk
      by_cases hs : s.visit.stop
      · exact ⟨_, .stop s hs⟩
      · have hlt := mu_go g ht hne hs
        obtain ⟨s', h⟩ := ih s.visit.go (g.visit.go (by rw [visit_m]; exact visit_small g hs)) (by show t < s.visit.m; rw [visit_m]; exact ht) (by show s.visit.lst t ≠ []; rw [visit_lst]; exact hne) (by omega)
        exact ⟨s', .go s s' hs h⟩
  exact main _ s g ht hne (Nat.lt_succ_self _)
theorem Chs.gd {s' : FQ} (h : Chs s s') : Gd s → Gd s' ∧ s'.stop ∧ s'.lists = s.lists ∧ s'.quanta = s.quanta ∧ s'.begun = true := by
  induction h with
  | stop s hs =>
    intro g
    refine ⟨g.visit, hs, visit_lists, visit_quanta, ?_⟩
    obtain ⟨e, r, hl, _⟩ := hs
    rw [visit_lst, visit_cur] at hl
    unfold FQ.visit
    rw [if_neg (by rw [hl]; simp)]
    by_cases hb : s.begun = true
    · rw [if_pos hb]; exact hb
    · rw [if_neg hb]
  | go s s' hn _ ih =>
    intro g
    have h1 := ih (g.visit.go (by rw [visit_m]; exact visit_small g hn))
    exact ⟨h1.1, h1.2.1, h1.2.2.1.trans visit_lists, h1.2.2.2.1.trans visit_quanta, h1.2.2.2.2⟩
end

/-- Taking the chosen entry. -/
def FQ.pop (s : FQ) : FQ :=
  match s.lst s.cur with
  | [] => s
  | e :: r => { s with lists := s.lists.set s.cur r, defs := s.defs.set s.cur (s.df s.cur - e.2) }
theorem lst_set_self {l : List (List Ent)} {i : Nat} {x : List Ent} (h : i < l.length) : (l.set i x).getD i [] = x := getD_set_self h
theorem pop_eq {s : FQ} {e : Ent} {r : List Ent} (h : s.lst s.cur = e :: r) : s.pop = { s with lists := s.lists.set s.cur r, defs := s.defs.set s.cur (s.df s.cur - e.2) } := by
  unfold FQ.pop; rw [h]
theorem pop_m (s : FQ) : s.pop.m = s.m := by
  unfold FQ.pop; split
  · rfl
  · show (s.lists.set _ _).length = _; rw [List.length_set]; rfl
theorem Gd.pop {s : FQ} (g : Gd s) (hs : s.stop) (hb : s.begun = true) : Gd s.pop := by
  obtain ⟨e, r, hl, hle⟩ := hs
  have hc : s.cur < s.lists.length := g.cur
  rw [pop_eq hl]
  have hm : (({ s with lists := s.lists.set s.cur r, defs := s.defs.set s.cur (s.df s.cur - e.2) } : FQ)).m = s.m := by show (s.lists.set _ _).length = _; rw [List.length_set]; rfl
  have hsz := g.sz s.cur g.cur e (by rw [hl]; simp)
  have h2 := g.d2
  have hdf : ∀ t, (({ s with lists := s.lists.set s.cur r, defs := s.defs.set s.cur (s.df s.cur - e.2) } : FQ)).df t = if t = s.cur then s.df s.cur - e.2 else s.df t := fun t => by
    show (s.defs.set s.cur _).getD t 0 = _
    by_cases h : t = s.cur
    · subst h; rw [if_pos rfl, getD_set_self (by rw [g.ld]; exact g.cur)]
    · rw [if_neg h, getD_set_ne (fun e => h e.symm)]; rfl
  constructor
  · rw [hm]; exact g.m1
  · rw [hm]; exact g.m2
  · rw [hm]; exact g.lq
  · rw [hm]; show (s.defs.set _ _).length = _; rw [List.length_set]; exact g.ld
  · rw [hm]; exact g.cur
  · intro t ht; rw [hm] at ht; exact g.q1 t ht
  · intro t ht x hx
    rw [hm] at ht
    by_cases h : t = s.cur
    · subst h
      have : x ∈ r := by
        have e1 : (({ s with lists := s.lists.set s.cur r, defs := s.defs.set s.cur (s.df s.cur - e.2) } : FQ)).lst s.cur = r := lst_set_self hc
        rw [e1] at hx; exact hx
      exact g.sz s.cur ht x (by rw [hl]; simp [this])
    · have e1 : (({ s with lists := s.lists.set s.cur r, defs := s.defs.set s.cur (s.df s.cur - e.2) } : FQ)).lst t = s.lst t := getD_set_ne (fun e => h e.symm)
      rw [e1] at hx; exact g.sz t ht x hx
  · intro t ht
    rw [hm] at ht; rw [hdf]
    split
    · omega
    · exact g.d0 t ht
  · intro t ht hc'
    rw [hm] at ht; rw [hdf]
    split
    · next h =>
      rcases hc' with h' | h'
      · exact absurd h h'
      · have h' : s.begun = false := h'
        rw [hb] at h'; cases h'
    · next h => exact g.d1 t ht (Or.inl h)
  · show (({ s with lists := s.lists.set s.cur r, defs := s.defs.set s.cur (s.df s.cur - e.2) } : FQ)).df s.cur ≤ _
    rw [hdf, if_pos rfl]; omega
end Go.Proofs.Ytmdajndmobpgbaa.Fq

namespace Go.Proofs.Ytmdajndmobpgbaa
open Go.RowKit
open Go.Proofs.Ytmdajndmobpgbaa.Fq

def entCells : List Ent → List Value
  | [] => []
  | e :: r => .int .i64 e.1 :: .int .i64 e.2 :: entCells r
theorem entCells_len : ∀ l : List Ent, (entCells l).length = l.length * 2
  | [] => rfl
  | e :: r => by simp [entCells, entCells_len r]; omega
theorem entCells_get : ∀ (l : List Ent) (i : Nat) (h : i < l.length), (entCells l)[i * 2]? = some (.int .i64 l[i].1) ∧ (entCells l)[i * 2 + 1]? = some (.int .i64 l[i].2)
  | e :: r, 0, _ => by simp [entCells]
  | e :: r, i + 1, h => by
    have := entCells_get r i (by simpa using h)
    simp only [entCells, Nat.add_mul, List.getElem?_cons_succ, List.getElem_cons_succ]
    exact ⟨by simpa using this.1, by simpa using this.2⟩
theorem entCells_append : ∀ (l r : List Ent), entCells (l ++ r) = entCells l ++ entCells r
  | [], r => rfl
  | e :: l, r => by simp [entCells, entCells_append l r]
theorem entCells_drop : ∀ (l : List Ent) (i : Nat), entCells (l.drop i) = (entCells l).drop (i * 2)
  | l, 0 => by simp
  | [], i + 1 => by simp [entCells]
  | e :: l, i + 1 => by
    rw [Nat.add_mul, List.drop_succ_cons, entCells_drop l i]
    simp [entCells]

def nilS : Value := .slice none 0 0
/-- The value of the queue of a tenant. -/
def qv (vals : List Value) (t : Nat) : Value := vals.getD t nilS

/-- The queue s lies at block b; its quanta, deficits and queues at bq, bd, bl; the queues' values are vals. -/
structure FqAt (w : World) (b bq cq bd cd : Nat) (xt : List Value) (bl : Nat) (vals : List Value) (s : FQ) : Prop where
  hb : w.heap[b]? = some (.cells #[.slice (some ⟨bq, 0, none⟩) s.m cq, .slice (some ⟨bd, 0, none⟩) s.m cd, .slice (some ⟨bl, 0, none⟩) s.m s.m, .int .i64 s.cur, .bool s.begun] 140 (0, 0))
  hq : OL w 3 1 (.slice (some ⟨bq, 0, none⟩) s.m cq) s.m (ints s.quanta)
  hd : w.heap[bd]? = some (.cells (ints s.defs ++ xt).toArray 3 (0, 0))
  hl : w.heap[bl]? = some (.cells vals.toArray 145 (0, 0))
  hls : ∀ t, t < s.m → OL w 147 2 (qv vals t) (s.lst t).length (entCells (s.lst t))
  lq : s.quanta.length = s.m
  ld : s.defs.length = s.m
  lv : vals.length = s.m
  ne : bq ≠ bd
  ap : ∀ t t' g, t ≠ t' → (qv vals t).ownBlock = some g → (qv vals t').ownBlock ≠ some g
/-- The blocks that a queue takes up. -/
def Fp (b bq bd bl : Nat) (vals : List Value) (k : Nat) : Prop := k = b ∨ k = bq ∨ k = bd ∨ k = bl ∨ ∃ t, (qv vals t).ownBlock = some k

theorem qv_lt {vals : List Value} {t g : Nat} (h : (qv vals t).ownBlock = some g) : t < vals.length := by
  rcases Nat.lt_or_ge t vals.length with h' | h'
  · exact h'
  · unfold qv at h; simp [List.getD, List.getElem?_eq_none h', nilS, Value.ownBlock] at h
section
variable {w w' : World} {b bq cq bd cd bl : Nat} {xt : List Value} {vals : List Value} {s : FQ}
theorem FqAt.fp_lt (h : FqAt w b bq cq bd cd xt bl vals s) : ∀ k, Fp b bq bd bl vals k → k < w.heap.size := by
  rintro k (rfl | rfl | rfl | rfl | ⟨t, ht⟩)
  · exact has_lt h.hb
  · exact h.hq.lt _ rfl
  · exact has_lt h.hd
  · exact has_lt h.hl
  · exact (h.hls t (by rw [← h.lv]; exact qv_lt ht)).lt k ht
/-- Where none of its blocks has changed it lies as before. -/
theorem FqAt.same (h : FqAt w b bq cq bd cd xt bl vals s) (hh : ∀ k, Fp b bq bd bl vals k → w'.heap[k]? = w.heap[k]?) : FqAt w' b bq cq bd cd xt bl vals s :=
  { h with
    hb := (hh b (.inl rfl)).trans h.hb
    hq := h.hq.heap fun g hg => by simp [Value.ownBlock] at hg; subst hg; exact hh _ (.inr (.inl rfl))
    hd := (hh bd (.inr (.inr (.inl rfl)))).trans h.hd
    hl := (hh bl (.inr (.inr (.inr (.inl rfl))))).trans h.hl
    hls := fun t ht => (h.hls t ht).heap fun g hg => hh g (.inr (.inr (.inr (.inr ⟨t, hg⟩)))) }
theorem FqAt.below {B : Nat} (h : FqAt w b bq cq bd cd xt bl vals s) (hb : Below B w w') (hB : ∀ k, Fp b bq bd bl vals k → k < B) : FqAt w' b bq cq bd cd xt bl vals s :=
  h.same fun k hk => hb.block k (hB k hk)
theorem FqAt.belowS (h : FqAt w b bq cq bd cd xt bl vals s) (hb : Below w.heap.size w w') : FqAt w' b bq cq bd cd xt bl vals s := h.below hb h.fp_lt
theorem FqAt.c0 (h : FqAt w b bq cq bd cd xt bl vals s) : w.cell? ⟨b, 0, none⟩ = some (.slice (some ⟨bq, 0, none⟩) s.m cq) := has_cell h.hb 0
theorem FqAt.c1 (h : FqAt w b bq cq bd cd xt bl vals s) : w.cell? ⟨b, 1, none⟩ = some (.slice (some ⟨bd, 0, none⟩) s.m cd) := has_cell h.hb 1
theorem FqAt.c2 (h : FqAt w b bq cq bd cd xt bl vals s) : w.cell? ⟨b, 2, none⟩ = some (.slice (some ⟨bl, 0, none⟩) s.m s.m) := has_cell h.hb 2
theorem FqAt.c3 (h : FqAt w b bq cq bd cd xt bl vals s) : w.cell? ⟨b, 3, none⟩ = some (.int .i64 s.cur) := has_cell h.hb 3
theorem FqAt.c4 (h : FqAt w b bq cq bd cd xt bl vals s) : w.cell? ⟨b, 4, none⟩ = some (.bool s.begun) := has_cell h.hb 4
theorem FqAt.cQ (h : FqAt w b bq cq bd cd xt bl vals s) {t : Nat} (ht : t < s.m) : w.cell? ⟨bq, t, none⟩ = some (.int .i64 (s.qn t)) := by
  have := h.hq.cell t (by omega)
  rw [ints_get _ _ (by rw [h.lq]; exact ht), Nat.zero_add] at this
  exact this
theorem FqAt.cD (h : FqAt w b bq cq bd cd xt bl vals s) {t : Nat} (ht : t < s.m) : w.cell? ⟨bd, t, none⟩ = some (.int .i64 (s.df t)) := by
  rw [has_cell h.hd t]
  have := ints_get s.defs t (by rw [h.ld]; exact ht)
  show (ints s.defs ++ xt).toArray[t]? = _
  rw [List.getElem?_toArray, List.getElem?_append_left (by rw [ints_len, h.ld]; exact ht), this]; rfl
theorem FqAt.cL (h : FqAt w b bq cq bd cd xt bl vals s) {t : Nat} (ht : t < s.m) : w.cell? ⟨bl, t, none⟩ = some (qv vals t) := by
  rw [has_cell h.hl t]
  simp [qv, List.getD, h.lv, ht]
end

set_option maxHeartbeats 400000 in
theorem known_nil (t : Int) (w : World) : Calls Try.prog 63 #[.pointer none, .int .i64 t] w fun e w' => e = .returned (.bool false) ∧ w' = w := by
  go_enter Try.func63, Try.ntmps63
  go_wp2
  go_ret
  exact ⟨rfl, rfl⟩
def knB (s : FQ) (t : Int) : Bool := decide (0 ≤ t ∧ t < s.m)
theorem knB_true {s : FQ} {t : Int} (h0 : 0 ≤ t) (h1 : t < s.m) : knB s t = true := decide_eq_true ⟨h0, h1⟩
theorem knB_false {s : FQ} {t : Int} (h : ¬ (0 ≤ t ∧ t < s.m)) : knB s t = false := decide_eq_false h
set_option maxHeartbeats 400000 in
theorem known_any {b bq cq bd cd bl : Nat} {xt : List Value} {vals : List Value} {s : FQ} (t : Int) (w : World) (h : FqAt w b bq cq bd cd xt bl vals s) :
    Calls Try.prog 63 #[.pointer (some ⟨b, 0, none⟩), .int .i64 t] w fun e w' => e = .returned (.bool (knB s t)) ∧ w' = w := by
  have c2 := h.c2
  by_cases h0 : 0 ≤ t
  · by_cases h1 : t < s.m
    · have H := Lib.hid (knB_true h0 h1)
      go_enter Try.func63, Try.ntmps63
      go_wp2
      go_ret
      rw [H.out]; exact ⟨rfl, rfl⟩
    · have H := Lib.hid (knB_false (s := s) (t := t) (fun h => h1 h.2))
      go_enter Try.func63, Try.ntmps63
      go_wp2
      go_ret
      rw [H.out]; exact ⟨rfl, rfl⟩
  · have H := Lib.hid (knB_false (s := s) (t := t) (fun h => h0 h.1))
    go_enter Try.func63, Try.ntmps63
    go_wp2
    go_ret
    rw [H.out]; exact ⟨rfl, rfl⟩

def dfI (s : FQ) (t : Int) : Int := if 0 ≤ t ∧ t < s.m then s.df t.toNat else 0
def lnI (s : FQ) (t : Int) : Int := if 0 ≤ t ∧ t < s.m then (s.lst t.toNat).length else 0
end Go.Proofs.Ytmdajndmobpgbaa

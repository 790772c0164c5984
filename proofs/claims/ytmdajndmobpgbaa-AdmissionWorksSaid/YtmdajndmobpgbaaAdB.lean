/- The admission of package admission in memory, and how writes change it. Conditions: each lemma names its own. -/
import Derived.Test.YtmdajndmobpgbaaAdA
namespace Go.Proofs.Ytmdajndmobpgbaa
open Go.RowKit
open Go.Proofs.Ytmdajndmobpgbaa.Fq
open Go.Proofs.Ytmdajndmobpgbaa.Bk

def ptrV (b : Nat) : Value := .pointer (some ⟨b, 0, none⟩)
/-- Where an admission lies. -/
structure AM where
  vs : Value
  vb : Value
  bkb : List Nat
  bf : Nat
  bl : Nat
  vals : List Value
  vr : Value
  fbq : Nat
  fcq : Nat
  fbd : Nat
  fcd : Nat
  fxt : List Value
  fbl : Nat
  fvals : List Value
/-- The state of an admission. -/
structure AS where
  sh : List Shr
  bk : List (Int × Int)
  slots : Int
  f : FQ
  ql : List (List Ent)
  run : List Int
def AS.m (s : AS) : Nat := s.sh.length
def AS.shr (s : AS) (t : Nat) : Shr := s.sh.getD t ⟨0, 0, 0, 0⟩
def AS.bkt (s : AS) (t : Nat) : Int × Int := s.bk.getD t (0, 0)
def AS.q (s : AS) (t : Nat) : List Ent := s.ql.getD t []
def AM.Fp (m : AM) (k : Nat) : Prop := Go.Proofs.Ytmdajndmobpgbaa.Fp m.bf m.fbq m.fbd m.fbl m.fvals k
structure AdAt (w : World) (b : Nat) (m : AM) (s : AS) : Prop where
  hb : w.heap[b]? = some (.cells #[m.vs, m.vb, .int .i64 s.slots, ptrV m.bf, .slice (some ⟨m.bl, 0, none⟩) s.m s.m, m.vr] 89 (0, 0))
  hs : IsS w m.vs s.sh
  hp : OL w 90 1 m.vb s.m (m.bkb.map ptrV)
  hk : ∀ t, t < s.m → IsBk w (m.bkb.getD t 0) (s.shr t).b (s.shr t).t (s.shr t).k (s.bkt t).1 (s.bkt t).2
  hl : w.heap[m.bl]? = some (.cells m.vals.toArray 98 (0, 0))
  hq : ∀ t, t < s.m → IsQ w (qv m.vals t) (s.q t)
  hr : IsI w m.vr s.run
  hf : FqAt w m.bf m.fbq m.fcq m.fbd m.fcd m.fxt m.fbl m.fvals s.f
  lq : s.ql.length = s.m
  lk : s.bk.length = s.m
  lb : m.bkb.length = s.m
  lv : m.vals.length = s.m
  lf : s.f.m = s.m
  ap : ∀ t t' g, t ≠ t' → (qv m.vals t).ownBlock = some g → (qv m.vals t').ownBlock ≠ some g
  kd : m.bkb.Nodup
  rf : ∀ g, m.vr.ownBlock = some g → ¬ m.Fp g
/-- The blocks that an admission takes up. -/
def Fa (b : Nat) (m : AM) (k : Nat) : Prop := k = b ∨ m.vs.ownBlock = some k ∨ m.vb.ownBlock = some k ∨ k ∈ m.bkb ∨ k = m.bl ∨ (∃ t, (qv m.vals t).ownBlock = some k) ∨ m.vr.ownBlock = some k ∨ m.Fp k
theorem FqAt.fp_type {w : World} {b bq cq bd cd bl : Nat} {xt vals : List Value} {s : FQ} (h : FqAt w b bq cq bd cd xt bl vals s) {k : Nat} (hk : Fp b bq bd bl vals k) :
    ∃ cs t, w.heap[k]? = some (.cells cs t (0, 0)) ∧ (t = 140 ∨ t = 3 ∨ t = 145 ∨ t = 147) := by
  rcases hk with rfl | rfl | rfl | rfl | ⟨t, ht⟩
  · exact ⟨_, _, h.hb, .inl rfl⟩
  · obtain ⟨cur, hc⟩ := h.hq.elem k rfl
    exact ⟨_, _, hc, .inr (.inl rfl)⟩
  · exact ⟨_, _, h.hd, .inr (.inl rfl)⟩
  · exact ⟨_, _, h.hl, .inr (.inr (.inl rfl))⟩
  · obtain ⟨cur, hc⟩ := (h.hls t (by rw [← h.lv]; exact qv_lt ht)).elem k ht
    exact ⟨_, _, hc, .inr (.inr (.inr rfl))⟩
section
variable {w w' w1 : World} {b : Nat} {m : AM} {s : AS}
theorem AdAt.bk_in (h : AdAt w b m s) {t : Nat} (ht : t < s.m) : m.bkb.getD t 0 ∈ m.bkb := by
  rw [List.getD_eq_getElem?_getD, List.getElem?_eq_getElem (by rw [h.lb]; exact ht)]
  exact List.getElem_mem _
theorem AdAt.bk_of (h : AdAt w b m s) {k : Nat} (hk : k ∈ m.bkb) : ∃ t, t < s.m ∧ m.bkb.getD t 0 = k := by
  obtain ⟨t, ht, rfl⟩ := List.getElem_of_mem hk
  refine ⟨t, by rw [← h.lb]; exact ht, ?_⟩
  rw [List.getD_eq_getElem?_getD, List.getElem?_eq_getElem ht]
  rfl
theorem AdAt.bk_ne (h : AdAt w b m s) {t t' : Nat} (ht : t < s.m) (ht' : t' < s.m) (hne : t ≠ t') : m.bkb.getD t 0 ≠ m.bkb.getD t' 0 := by
  rw [List.getD_eq_getElem?_getD, List.getElem?_eq_getElem (by rw [h.lb]; exact ht), List.getD_eq_getElem?_getD, List.getElem?_eq_getElem (by rw [h.lb]; exact ht')]
  intro e
  have := List.pairwise_iff_getElem.1 h.kd
  rcases Nat.lt_or_ge t t' with hlt | hlt
  · exact this t t' (by rw [h.lb]; exact ht) (by rw [h.lb]; exact ht') hlt e
  · exact this t' t (by rw [h.lb]; exact ht') (by rw [h.lb]; exact ht) (by omega) e.symm
/-- The type of each block. -/
theorem AdAt.typ (h : AdAt w b m s) : (∀ k, m.vs.ownBlock = some k → ∃ cs, w.heap[k]? = some (.cells cs 29 (0, 0))) ∧
    (∀ k, m.vb.ownBlock = some k → ∃ cs, w.heap[k]? = some (.cells cs 90 (0, 0))) ∧
    (∀ k, k ∈ m.bkb → ∃ cs, w.heap[k]? = some (.cells cs 137 (0, 0))) ∧
    (∀ t k, (qv m.vals t).ownBlock = some k → ∃ cs, w.heap[k]? = some (.cells cs 100 (0, 0))) ∧
    (∀ k, m.vr.ownBlock = some k → ∃ cs, w.heap[k]? = some (.cells cs 3 (0, 0))) :=
  ⟨OL.elem h.hs, OL.elem h.hp, fun k hk => by
    obtain ⟨t, ht, rfl⟩ := h.bk_of hk
    exact ⟨_, h.hk t ht⟩, fun t k hk => OL.elem (h.hq t (by rw [← h.lv]; exact qv_lt hk)) k hk, OL.elem h.hr⟩
theorem AdAt.fa_lt (h : AdAt w b m s) : ∀ k, Fa b m k → k < w.heap.size := by
  obtain ⟨t1, t2, t3, t4, t5⟩ := h.typ
  rintro k (rfl | hk | hk | hk | rfl | ⟨t, hk⟩ | hk | hk)
  · exact lt_of_block h.hb
  · obtain ⟨cs, hc⟩ := t1 k hk; exact lt_of_block hc
  · obtain ⟨cs, hc⟩ := t2 k hk; exact lt_of_block hc
  · obtain ⟨cs, hc⟩ := t3 k hk; exact lt_of_block hc
  · exact lt_of_block h.hl
  · obtain ⟨cs, hc⟩ := t4 t k hk; exact lt_of_block hc
  · obtain ⟨cs, hc⟩ := t5 k hk; exact lt_of_block hc
  · exact h.hf.fp_lt k hk
/-- Where none of its blocks has changed it lies as before. -/
theorem AdAt.same (h : AdAt w b m s) (hh : ∀ k, Fa b m k → w'.heap[k]? = w.heap[k]?) : AdAt w' b m s :=
  { h with
    hb := (hh b (.inl rfl)).trans h.hb
    hs := OL.heap h.hs fun g hg => hh g (.inr (.inl hg))
    hp := OL.heap h.hp fun g hg => hh g (.inr (.inr (.inl hg)))
    hk := fun t ht => (hh _ (.inr (.inr (.inr (.inl (h.bk_in ht)))))).trans (h.hk t ht)
    hl := (hh _ (.inr (.inr (.inr (.inr (.inl rfl)))))).trans h.hl
    hq := fun t ht => OL.heap (h.hq t ht) fun g hg => hh g (.inr (.inr (.inr (.inr (.inr (.inl ⟨t, hg⟩))))))
    hr := OL.heap h.hr fun g hg => hh g (.inr (.inr (.inr (.inr (.inr (.inr (.inl hg)))))))
    hf := h.hf.same fun k hk => hh k (.inr (.inr (.inr (.inr (.inr (.inr (.inr hk))))))) }
theorem AdAt.belowS (h : AdAt w b m s) (hb : Below w.heap.size w w') : AdAt w' b m s := h.same fun k hk => hb.block k (h.fa_lt k hk)
/-- The blocks of the fair queue are no others. -/
theorem AdAt.nfp (h : AdAt w b m s) : ¬ m.Fp b ∧ (∀ k, m.vs.ownBlock = some k → ¬ m.Fp k) ∧ (∀ k, m.vb.ownBlock = some k → ¬ m.Fp k) ∧ (∀ k, k ∈ m.bkb → ¬ m.Fp k) ∧ ¬ m.Fp m.bl ∧ (∀ t k, (qv m.vals t).ownBlock = some k → ¬ m.Fp k) := by
  obtain ⟨t1, t2, t3, t4, _⟩ := h.typ
  have key : ∀ {k : Nat} {cs : Array Value} {t : TypeId}, w.heap[k]? = some (.cells cs t (0, 0)) → t ≠ 140 → t ≠ 3 → t ≠ 145 → t ≠ 147 → ¬ m.Fp k := by
    intro k cs t hk n1 n2 n3 n4 hf
    obtain ⟨cs', t', hk', ht⟩ := h.hf.fp_type hf
    rcases ht with e | e | e | e
    · exact type_ne hk hk' (by rw [e]; exact n1) rfl
    · exact type_ne hk hk' (by rw [e]; exact n2) rfl
    · exact type_ne hk hk' (by rw [e]; exact n3) rfl
    · exact type_ne hk hk' (by rw [e]; exact n4) rfl
  refine ⟨key h.hb (by decide) (by decide) (by decide) (by decide), fun k hk => ?_, fun k hk => ?_, fun k hk => ?_, key h.hl (by decide) (by decide) (by decide) (by decide), fun t k hk => ?_⟩
  · obtain ⟨cs, hc⟩ := t1 k hk; exact key hc (by decide) (by decide) (by decide) (by decide)
  · obtain ⟨cs, hc⟩ := t2 k hk; exact key hc (by decide) (by decide) (by decide) (by decide)
  · obtain ⟨cs, hc⟩ := t3 k hk; exact key hc (by decide) (by decide) (by decide) (by decide)
  · obtain ⟨cs, hc⟩ := t4 t k hk; exact key hc (by decide) (by decide) (by decide) (by decide)
def AM.setF (m : AM) (v : List Value) : AM := { m with fvals := v }
def AS.setF (s : AS) (f : FQ) : AS := { s with f := f }
/-- A call on the fair queue. -/
theorem AdAt.fair (h : AdAt w b m s) {fv : List Value} {f' : FQ} (hA : FqAt w' m.bf m.fbq m.fcq m.fbd m.fcd m.fxt m.fbl fv f') (hm : f'.m = s.f.m) (ho : Only m.Fp w w') (hfp : ∀ k, (m.setF fv).Fp k → m.Fp k ∨ w.heap.size ≤ k) : AdAt w' b (m.setF fv) (s.setF f') := by
  obtain ⟨n1, n2, n3, n4, n5, n6⟩ := h.nfp
  have hlt := h.fa_lt
  have hh : ∀ k, Fa b m k → ¬ m.Fp k → w'.heap[k]? = w.heap[k]? := fun k hk hn => ho.block k (hlt k hk) hn
  exact { h with
    hb := (hh b (.inl rfl) n1).trans h.hb
    hs := OL.heap h.hs fun g hg => hh g (.inr (.inl hg)) (n2 g hg)
    hp := OL.heap h.hp fun g hg => hh g (.inr (.inr (.inl hg))) (n3 g hg)
    hk := fun t ht => (hh _ (.inr (.inr (.inr (.inl (h.bk_in ht))))) (n4 _ (h.bk_in ht))).trans (h.hk t ht)
    hl := (hh _ (.inr (.inr (.inr (.inr (.inl rfl))))) n5).trans h.hl
    hq := fun t ht => OL.heap (h.hq t ht) fun g hg => hh g (.inr (.inr (.inr (.inr (.inr (.inl ⟨t, hg⟩)))))) (n6 t g hg)
    hr := OL.heap h.hr fun g hg => hh g (.inr (.inr (.inr (.inr (.inr (.inr (.inl hg))))))) (h.rf g hg)
    hf := hA
    lf := hm.trans h.lf
    rf := fun g hg hF => (hfp g hF).elim (h.rf g hg) fun hle => by have := hlt g (.inr (.inr (.inr (.inr (.inr (.inr (.inl hg))))))); omega }
theorem AdAt.fair_fa {fv : List Value} (hfp : ∀ k, (m.setF fv).Fp k → m.Fp k ∨ w.heap.size ≤ k) : ∀ k, Fa b (m.setF fv) k → Fa b m k ∨ w.heap.size ≤ k := by
  rintro k (hk | hk | hk | hk | hk | hk | hk | hk)
  · exact .inl (.inl hk)
  · exact .inl (.inr (.inl hk))
  · exact .inl (.inr (.inr (.inl hk)))
  · exact .inl (.inr (.inr (.inr (.inl hk))))
  · exact .inl (.inr (.inr (.inr (.inr (.inl hk)))))
  · exact .inl (.inr (.inr (.inr (.inr (.inr (.inl hk))))))
  · exact .inl (.inr (.inr (.inr (.inr (.inr (.inr (.inl hk)))))))
  · exact (hfp k hk).elim (fun h => .inl (.inr (.inr (.inr (.inr (.inr (.inr (.inr h)))))))) .inr
def AS.setB (s : AS) (t : Nat) (x : Int × Int) : AS := { s with bk := s.bk.set t x }
theorem AS.bkt_self {t : Nat} (h : t < s.bk.length) (x : Int × Int) : (s.setB t x).bkt t = x := getD_set_self h
theorem AS.bkt_ne {t t' : Nat} (h : t ≠ t') (x : Int × Int) : (s.setB t x).bkt t' = s.bkt t' := getD_set_ne h
/-- A call on a bucket. -/
theorem AdAt.buck (h : AdAt w b m s) {t : Nat} (ht : t < s.m) {x : Int × Int} (hg : w.grownBy w' (some (m.bkb.getD t 0))) (hk : IsBk w' (m.bkb.getD t 0) (s.shr t).b (s.shr t).t (s.shr t).k x.1 x.2) : AdAt w' b m (s.setB t x) := by
  obtain ⟨t1, t2, t3, t4, t5⟩ := h.typ
  have hlt := h.fa_lt
  have hbt := h.hk t ht
  have hh : ∀ {k : Nat} {cs : Array Value} {ty : TypeId}, w.heap[k]? = some (.cells cs ty (0, 0)) → ty ≠ 137 → w'.heap[k]? = w.heap[k]? := fun hk hn => hg.block _ (lt_of_block hk) fun e => type_ne hk hbt hn (Option.some.inj e)
  exact { h with
    hb := (hh h.hb (by decide)).trans h.hb
    hs := OL.heap h.hs fun g hg => by obtain ⟨cs, hc⟩ := t1 g hg; exact hh hc (by decide)
    hp := OL.heap h.hp fun g hg => by obtain ⟨cs, hc⟩ := t2 g hg; exact hh hc (by decide)
    hk := fun t' ht' => by
      by_cases e : t = t'
      · subst e
        rw [AS.bkt_self (by rw [h.lk]; exact ht)]
        exact hk
      · rw [AS.bkt_ne e]
        exact (hg.block _ (lt_of_block (h.hk t' ht')) fun e2 => h.bk_ne ht ht' e (Option.some.inj e2).symm).trans (h.hk t' ht')
    hl := (hh h.hl (by decide)).trans h.hl
    hq := fun t' ht' => OL.heap (h.hq t' ht') fun g hg => by obtain ⟨cs, hc⟩ := t4 t' g hg; exact hh hc (by decide)
    hr := OL.heap h.hr fun g hg => by obtain ⟨cs, hc⟩ := t5 g hg; exact hh hc (by decide)
    hf := h.hf.same fun k hk => by
      obtain ⟨cs, ty, hc, hty⟩ := h.hf.fp_type hk
      exact hh hc (by rcases hty with e | e | e | e <;> (rw [e]; decide))
    lk := by show (s.bk.set t x).length = _; rw [List.length_set]; exact h.lk }
def AS.setQ (s : AS) (t : Nat) (l : List Ent) : AS := { s with ql := s.ql.set t l }
def AM.setV (m : AM) (t : Nat) (v : Value) : AM := { m with vals := m.vals.set t v }
theorem AS.q_self {t : Nat} (h : t < s.ql.length) (l : List Ent) : (s.setQ t l).q t = l := getD_set_self h
theorem AS.q_ne {t t' : Nat} (h : t ≠ t') (l : List Ent) : (s.setQ t l).q t' = s.q t' := getD_set_ne h
/-- A row of requests is put in its place. -/
theorem AdAt.row (h : AdAt w b m s) {t : Nat} (ht : t < s.m) {l : List Ent} {v' : Value} (hg : w.grownBy w1 (qv m.vals t).ownBlock) (ho : IsQ w1 v' l) (hown : ∀ g, v'.ownBlock = some g → (qv m.vals t).ownBlock = some g ∨ w.heap.size ≤ g) :
    AdAt (w1.setCell ⟨m.bl, t, none⟩ v') b (m.setV t v') (s.setQ t l) := by
  obtain ⟨t1, t2, t3, t4, t5⟩ := h.typ
  have hlt := h.fa_lt
  have htv : t < m.vals.length := by rw [h.lv]; exact ht
  have hrow : ∀ g, (qv m.vals t).ownBlock = some g → ∃ cs, w.heap[g]? = some (.cells cs 100 (0, 0)) := fun g hg => t4 t g hg
  have hh : ∀ {k : Nat} {cs : Array Value} {ty : TypeId}, w.heap[k]? = some (.cells cs ty (0, 0)) → ty ≠ 100 → ty ≠ 98 → (w1.setCell ⟨m.bl, t, none⟩ v').heap[k]? = w.heap[k]? := fun {k cs ty} hk hn hn2 => by
    refine (setCell_other (fun e => type_ne hk h.hl hn2 e)).trans (hg.block _ (lt_of_block hk) fun e => ?_)
    obtain ⟨cs', hc⟩ := hrow k e.symm
    exact type_ne hk hc hn rfl
  have hbl1 : w1.heap[m.bl]? = some (.cells m.vals.toArray 98 (0, 0)) := (hg.block _ (lt_of_block h.hl) fun e => by
    obtain ⟨cs', hc⟩ := hrow _ e.symm
    exact type_ne h.hl hc (by decide) rfl).trans h.hl
  have hq' : ∀ {v2 : Value} {l2 : List Ent}, IsQ w1 v2 l2 → IsQ (w1.setCell ⟨m.bl, t, none⟩ v') v2 l2 := fun h2 => OL.heap h2 fun g hg => setCell_other fun e => by
    obtain ⟨cs', hc⟩ := OL.elem h2 g hg
    exact type_ne hc hbl1 (by decide) e
  exact { h with
    hb := (hh h.hb (by decide) (by decide)).trans h.hb
    hs := OL.heap h.hs fun g hg => by obtain ⟨cs, hc⟩ := t1 g hg; exact hh hc (by decide) (by decide)
    hp := OL.heap h.hp fun g hg => by obtain ⟨cs, hc⟩ := t2 g hg; exact hh hc (by decide) (by decide)
    hk := fun t' ht' => (hh (h.hk t' ht') (by decide) (by decide)).trans (h.hk t' ht')
    hl := setCell_list hbl1
    hq := fun t' ht' => by
      by_cases e : t = t'
      · subst e
        rw [AS.q_self (by rw [h.lq]; exact ht)]
        show IsQ _ (qv (m.vals.set t v') t) l
        rw [qv_set_self htv]
        exact hq' ho
      · rw [AS.q_ne e]
        show IsQ _ (qv (m.vals.set t v') t') _
        rw [qv_set_ne e]
        exact hq' (OL.kept (h.hq t' ht') hg fun g hg e2 => h.ap t' t g (Ne.symm e) hg e2.symm)
    hr := OL.heap h.hr fun g hg => by obtain ⟨cs, hc⟩ := t5 g hg; exact hh hc (by decide) (by decide)
    hf := h.hf.same fun k hk => by
      obtain ⟨cs, ty, hc, hty⟩ := h.hf.fp_type hk
      exact hh hc (by rcases hty with e | e | e | e <;> (rw [e]; decide)) (by rcases hty with e | e | e | e <;> (rw [e]; decide))
    lq := by show (s.ql.set t l).length = _; rw [List.length_set]; exact h.lq
    lv := by show (m.vals.set t v').length = _; rw [List.length_set]; exact h.lv
    ap := fun t1 t2 g hne h1 h2 => by
      have h1 : (qv (m.vals.set t v') t1).ownBlock = some g := h1
      have h2 : (qv (m.vals.set t v') t2).ownBlock = some g := h2
      by_cases e1 : t = t1
      · subst e1
        rw [qv_set_self htv] at h1
        rw [qv_set_ne hne] at h2
        rcases hown g h1 with h3 | h3
        · exact h.ap t t2 g hne h3 h2
        · have := hlt g (.inr (.inr (.inr (.inr (.inr (.inl ⟨t2, h2⟩)))))); omega
      · rw [qv_set_ne e1] at h1
        by_cases e2 : t = t2
        · subst e2
          rw [qv_set_self htv] at h2
          rcases hown g h2 with h3 | h3
          · exact h.ap t1 t g hne h1 h3
          · have := hlt g (.inr (.inr (.inr (.inr (.inr (.inl ⟨t1, h1⟩)))))); omega
        · rw [qv_set_ne e2] at h2
          exact h.ap t1 t2 g hne h1 h2 }
theorem AdAt.row_fa (h : AdAt w b m s) {t : Nat} (ht : t < s.m) {v' : Value} (hown : ∀ g, v'.ownBlock = some g → (qv m.vals t).ownBlock = some g ∨ w.heap.size ≤ g) : ∀ k, Fa b (m.setV t v') k → Fa b m k ∨ w.heap.size ≤ k := by
  rintro k (hk | hk | hk | hk | hk | ⟨t', hk⟩ | hk | hk)
  · exact .inl (.inl hk)
  · exact .inl (.inr (.inl hk))
  · exact .inl (.inr (.inr (.inl hk)))
  · exact .inl (.inr (.inr (.inr (.inl hk))))
  · exact .inl (.inr (.inr (.inr (.inr (.inl hk)))))
  · have hk : (qv (m.vals.set t v') t').ownBlock = some k := hk
    by_cases e : t = t'
    · subst e
      rw [qv_set_self (by rw [h.lv]; exact ht)] at hk
      exact (hown k hk).elim (fun h => .inl (.inr (.inr (.inr (.inr (.inr (.inl ⟨_, h⟩))))))) .inr
    · rw [qv_set_ne e] at hk
      exact .inl (.inr (.inr (.inr (.inr (.inr (.inl ⟨_, hk⟩))))))
  · exact .inl (.inr (.inr (.inr (.inr (.inr (.inr (.inl hk)))))))
  · exact .inl (.inr (.inr (.inr (.inr (.inr (.inr (.inr hk)))))))
def AS.setR (s : AS) (l : List Int) : AS := { s with run := l }
def AM.setR (m : AM) (v : Value) : AM := { m with vr := v }
/-- The running ones are put in their place. -/
theorem AdAt.runs (h : AdAt w b m s) {l : List Int} {v' : Value} (hg : w.grownBy w1 m.vr.ownBlock) (ho : IsI w1 v' l) (hown : ∀ g, v'.ownBlock = some g → m.vr.ownBlock = some g ∨ w.heap.size ≤ g) :
    AdAt (w1.setCell ⟨b, 5, none⟩ v') b (m.setR v') (s.setR l) := by
  obtain ⟨t1, t2, t3, t4, t5⟩ := h.typ
  have hlt := h.fa_lt
  have hh : ∀ {k : Nat} {cs : Array Value} {ty : TypeId}, w.heap[k]? = some (.cells cs ty (0, 0)) → ty ≠ 3 → ty ≠ 89 → (w1.setCell ⟨b, 5, none⟩ v').heap[k]? = w.heap[k]? := fun {k cs ty} hk hn hn2 => by
    refine (setCell_other (fun e => type_ne hk h.hb hn2 e)).trans (hg.block _ (lt_of_block hk) fun e => ?_)
    obtain ⟨cs', hc⟩ := t5 k e.symm
    exact type_ne hk hc hn rfl
  have hb1 : w1.heap[b]? = w.heap[b]? := hg.block _ (lt_of_block h.hb) fun e => by
    obtain ⟨cs', hc⟩ := t5 _ e.symm
    exact type_ne h.hb hc (by decide) rfl
  exact { h with
    hb := setCell_list (cs := [m.vs, m.vb, .int .i64 s.slots, ptrV m.bf, .slice (some ⟨m.bl, 0, none⟩) s.m s.m, m.vr]) (hb1.trans h.hb)
    hs := OL.heap h.hs fun g hg => by obtain ⟨cs, hc⟩ := t1 g hg; exact hh hc (by decide) (by decide)
    hp := OL.heap h.hp fun g hg => by obtain ⟨cs, hc⟩ := t2 g hg; exact hh hc (by decide) (by decide)
    hk := fun t' ht' => (hh (h.hk t' ht') (by decide) (by decide)).trans (h.hk t' ht')
    hl := (hh h.hl (by decide) (by decide)).trans h.hl
    hq := fun t' ht' => OL.heap (h.hq t' ht') fun g hg => by obtain ⟨cs, hc⟩ := t4 t' g hg; exact hh hc (by decide) (by decide)
    hr := OL.heap ho fun g hg => setCell_other fun e => by
      obtain ⟨cs', hc⟩ := OL.elem ho g hg
      exact type_ne hc (hb1.trans h.hb) (by decide) e
    hf := h.hf.same fun k hk => by
      have hkl := h.hf.fp_lt k hk
      refine (setCell_other fun e => h.nfp.1 (by rw [← e]; exact hk)).trans (hg.block k hkl fun e => h.rf k e.symm hk)
    rf := fun g hg hF => by
      rcases hown g hg with h3 | h3
      · exact h.rf g h3 hF
      · have := h.hf.fp_lt g hF; omega }
theorem AdAt.runs_fa {v' : Value} (hown : ∀ g, v'.ownBlock = some g → m.vr.ownBlock = some g ∨ w.heap.size ≤ g) : ∀ k, Fa b (m.setR v') k → Fa b m k ∨ w.heap.size ≤ k := by
  rintro k (hk | hk | hk | hk | hk | hk | hk | hk)
  · exact .inl (.inl hk)
  · exact .inl (.inr (.inl hk))
  · exact .inl (.inr (.inr (.inl hk)))
  · exact .inl (.inr (.inr (.inr (.inl hk))))
  · exact .inl (.inr (.inr (.inr (.inr (.inl hk)))))
  · exact .inl (.inr (.inr (.inr (.inr (.inr (.inl hk))))))
  · exact (hown k hk).elim (fun h => .inl (.inr (.inr (.inr (.inr (.inr (.inr (.inl h)))))))) .inr
  · exact .inl (.inr (.inr (.inr (.inr (.inr (.inr (.inr hk)))))))
end
end Go.Proofs.Ytmdajndmobpgbaa

/- admission: what Start keeps while it runs. Conditions: each lemma names its own. -/
import Derived.Test.YtmdajndmobpgbaaZAdI
namespace Go.Proofs.Ytmdajndmobpgbaa
open Go.RowKit
open Go.Proofs.Ytmdajndmobpgbaa.Fq
open Go.Proofs.Ytmdajndmobpgbaa.Bk

structure StF (w : World) (b : Nat) (m : AM) (s' : AS) (o a : List Int) (m' : AM) (ov av : Value) (wr : World) : Prop where
  at_ : AdAt wr b m' s'
  st : AStep b m w m' wr
  io : IsI wr ov o
  ia : IsI wr av a
  on : ∀ g, ov.ownBlock = some g → w.heap.size ≤ g ∧ ¬ Fa b m' g
  an : ∀ g, av.ownBlock = some g → w.heap.size ≤ g ∧ ¬ Fa b m' g
  ne : ∀ g, ov.ownBlock = some g → av.ownBlock ≠ some g
section
variable {w w1 w2 wr : World} {b : Nat} {m m' m2 : AM} {s s' s2 : AS} {o a : List Int} {ov av v' : Value}
theorem StF.start (h : AdAt w b m s) : StF w b m s [] [] m (.slice none 0 0) (.slice none 0 0) w :=
  ⟨h, AStep.refl _ _ _, (show IsI _ _ [] from OL.nil _ _ _), (show IsI _ _ [] from OL.nil _ _ _), fun g hg => by simp [Value.ownBlock] at hg, fun g hg => by simp [Value.ownBlock] at hg, fun g hg => by simp [Value.ownBlock] at hg⟩
theorem StF.step (h : StF w b m s' o a m' ov av wr) (hA : AdAt w2 b m2 s2) (hS : AStep b m' wr m2 w2) : StF w b m s2 o a m2 ov av w2 := by
  have keep : ∀ {v : Value} {l : List Int}, IsI wr v l → (∀ g, v.ownBlock = some g → w.heap.size ≤ g ∧ ¬ Fa b m' g) → IsI w2 v l := fun hv hn => OL.heap hv fun g hg => hS.2.block g (OL.lt hv g hg) (hn g hg).2
  have nf : ∀ {v : Value} {l : List Int}, IsI wr v l → (∀ g, v.ownBlock = some g → w.heap.size ≤ g ∧ ¬ Fa b m' g) → ∀ g, v.ownBlock = some g → w.heap.size ≤ g ∧ ¬ Fa b m2 g := fun hv hn g hg => ⟨(hn g hg).1, fun hF => (hS.1 g hF).elim (hn g hg).2 fun hle => by have := OL.lt hv g hg; omega⟩
  exact ⟨hA, h.st.trans hS, keep h.io h.on, keep h.ia h.an, nf h.io h.on, nf h.ia h.an, h.ne⟩
theorem StF.below (h : StF w b m s' o a m' ov av wr) (hb : Below wr.heap.size wr w2) : StF w b m s' o a m' ov av w2 := h.step (h.at_.belowS hb) (AStep.of_below hb)
theorem StF.up (h : StF w b m s' o a m' ov av wr) (hu : AUp b m' wr s2 w2) : ∃ m2, StF w b m s2 o a m2 ov av w2 := by
  obtain ⟨m2, hA, hS⟩ := hu
  exact ⟨m2, h.step hA hS⟩
theorem AdAt.not_own (h : AdAt wr b m' s') (hg : wr.grownBy w2 ov.ownBlock) (hn : ∀ g, ov.ownBlock = some g → ¬ Fa b m' g) : AdAt w2 b m' s' :=
  h.same fun k hk => hg.block k (h.fa_lt k hk) fun e => hn k e.symm hk
theorem astep_own (hs : AStep b m w m' wr) (hg : wr.grownBy w2 ov.ownBlock) (hn : ∀ g, ov.ownBlock = some g → w.heap.size ≤ g) : AStep b m w m' w2 :=
  ⟨hs.1, hs.2.grown hg fun k hk => .inr (hn k hk)⟩
theorem StF.out (h : StF w b m s' o a m' ov av wr) {o' : List Int} (hg : wr.grownBy w2 ov.ownBlock) (ho : IsI w2 v' o') (hown : ∀ g, v'.ownBlock = some g → ov.ownBlock = some g ∨ wr.heap.size ≤ g) : StF w b m s' o' a m' v' av w2 := by
  have hws := h.st.2.size
  refine ⟨h.at_.not_own hg fun g hg => (h.on g hg).2, astep_own h.st hg fun g hg => (h.on g hg).1, ho, OL.kept h.ia hg fun g hg e => h.ne g e.symm hg, fun g hg => ?_, h.an, fun g hg e => ?_⟩
  · rcases hown g hg with h1 | h1
    · exact h.on g h1
    · exact ⟨by omega, fun hF => by have := h.at_.fa_lt g hF; omega⟩
  · rcases hown g hg with h1 | h1
    · exact h.ne g h1 e
    · have := OL.lt h.ia g e; omega
theorem StF.asd (h : StF w b m s' o a m' ov av wr) {a' : List Int} (hg : wr.grownBy w2 av.ownBlock) (ho : IsI w2 v' a') (hown : ∀ g, v'.ownBlock = some g → av.ownBlock = some g ∨ wr.heap.size ≤ g) : StF w b m s' o a' m' ov v' w2 := by
  have hws := h.st.2.size
  refine ⟨h.at_.not_own hg fun g hg => (h.an g hg).2, astep_own h.st hg fun g hg => (h.an g hg).1, OL.kept h.io hg fun g hg e => h.ne g hg e.symm, ho, h.on, fun g hg => ?_, fun g hg e => ?_⟩
  · rcases hown g hg with h1 | h1
    · exact h.an g h1
    · exact ⟨by omega, fun hF => by have := h.at_.fa_lt g hF; omega⟩
  · rcases hown g e with h1 | h1
    · exact h.ne g hg h1
    · have := OL.lt h.io g hg; omega
/-- Next on the fair queue. -/
theorem AdAt.next (h : AdAt w b m s) {f1 : FQ} {e : Ending} {v' : Value} (hc : f1.cur < s.m) (hm : f1.m = s.f.m) (hA : FqAt w2 m.bf m.fbq m.fcq m.fbd m.fcd m.fxt m.fbl (m.fvals.set f1.cur v') f1.pop) (hv : ∀ g, v'.ownBlock = some g → (qv m.fvals f1.cur).ownBlock = some g)
    (ho : Only (fun k => k = m.bf ∨ k = m.fbd ∨ k = m.fbl) w w2) : ∃ m2, AdAt w2 b m2 (s.setF f1.pop) ∧ AStep b m w m2 w2 := by
  have hl : f1.cur < m.fvals.length := by rw [h.hf.lv, h.lf]; exact hc
  have hfp : ∀ k, (m.setF (m.fvals.set f1.cur v')).Fp k → m.Fp k ∨ w.heap.size ≤ k := by
    rintro k (h1 | h1 | h1 | h1 | ⟨t, ht⟩)
    · exact .inl (.inl h1)
    · exact .inl (.inr (.inl h1))
    · exact .inl (.inr (.inr (.inl h1)))
    · exact .inl (.inr (.inr (.inr (.inl h1))))
    · have ht : (qv (m.fvals.set f1.cur v') t).ownBlock = some k := ht
      by_cases e : f1.cur = t
      · subst e
        rw [qv_set_self hl] at ht
        exact .inl (.inr (.inr (.inr (.inr ⟨_, hv k ht⟩))))
      · rw [qv_set_ne e] at ht
        exact .inl (.inr (.inr (.inr (.inr ⟨t, ht⟩))))
  have ho' : Only m.Fp w w2 := ho.mono fun k hk => by
    rcases hk with h1 | h1 | h1
    · exact .inl h1
    · exact .inr (.inr (.inl h1))
    · exact .inr (.inr (.inr (.inl h1)))
  exact ⟨_, h.fair hA ((pop_m f1).trans hm) ho' hfp, AdAt.fair_fa hfp, ho'.mono fun k hk => .inr (.inr (.inr (.inr (.inr (.inr (.inr hk))))))⟩
/-- While entries of tenant t are cancelled, j of them. -/
def AS.gone (s : AS) (f : FQ) (t j : Nat) : AS := s.setF (FQ.setL f t ((s.q t).drop j))
theorem setL_setL (f : FQ) (t : Nat) (l l' : List Ent) : FQ.setL (FQ.setL f t l) t l' = FQ.setL f t l' := by
  unfold FQ.setL
  simp
theorem setL_id (f : FQ) (t : Nat) : FQ.setL f t (f.lst t) = f := by
  unfold FQ.setL FQ.lst
  obtain ⟨q, d, l, c, bg⟩ := f
  simp only [FQ.mk.injEq, true_and, and_true]
  by_cases h : t < l.length
  · simp [List.getD, h]
  · rw [List.set_eq_of_length_le (by omega)]
/-- The first entry of tenant t is found at once: ids differ. -/
theorem find_first {f : FQ} {t : Nat} {e : Ent} {r : List Ent} {id : Int} (ht : t < f.m) (hl : f.lst t = e :: r) (hid : e.1 = id) (hu : ∀ t', t' < f.m → t' ≠ t → ∀ e' ∈ f.lst t', e'.1 ≠ id) {t' i' : Nat} (hf : FindR f id (some (t', i'))) : t' = t ∧ i' = 0 := by
  obtain ⟨h1, ⟨e', he, hi⟩, h2, h3⟩ := hf
  have et : t' = t := Classical.byContradiction fun hne => hu t' h1 hne e' (List.mem_of_getElem? he) hi
  subst et
  refine ⟨rfl, ?_⟩
  rcases Nat.eq_zero_or_pos i' with h | h
  · exact h
  · exact absurd hid (h2 0 h e (by rw [hl]; rfl))
end
end Go.Proofs.Ytmdajndmobpgbaa

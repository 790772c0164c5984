/- queue: the plain law of QueueScans: what puts of new keys make. No program. -/
import Derived.Test.YtonkaodbjohkkaaQuBf
namespace Go.Proofs.Ytonkaodbjohkkaa
open Go.RowKit

theorem ghost_take {g : List It} {k : ByteArray} (h : g.length ≤ 64) : ghost g k = ((k, 0) :: g).take 64 := by
  unfold ghost
  split
  · rw [List.dropLast_eq_take, List.length_cons]
    congr 1
    omega
  · rw [List.take_of_length_le]
    rw [List.length_cons]
    omega
theorem take_take_app {α : Type} (a b : List α) (n : Nat) : (a ++ b.take n).take n = (a ++ b).take n := by
  rw [List.take_append, List.take_append, List.take_take]
  congr 2
  omega
theorem remL_fresh {l : List It} {k : ByteArray} (h : k ∉ l.map Prod.fst) : remL l k = l := by
  have : hasL l k = false := by
    cases e : hasL l k with
    | false => rfl
    | true => exact absurd (hasL_iff.1 e) h
  unfold remL
  unfold hasL at this
  cases e : idxN l k with
  | none => rfl
  | some i => rw [e] at this; cases this
theorem hasL_no {l : List It} {k : ByteArray} (h : k ∉ l.map Prod.fst) : hasL l k = false := by
  cases e : hasL l k with
  | false => rfl
  | true => exact absurd (hasL_iff.1 e) h
def gz (l : List It) : List It := l.map fun x => (x.1, 0)
/-- What eviction makes, where Frequent is small. -/
theorem evict_scan : ∀ (n : Nat) {s : QS} {out : List ByteArray}, (∀ x ∈ s.r, 0 ≤ x.2) → 0 ≤ s.cap → sumI s.f ≤ s.cap - s.cap / 4 → s.g.length ≤ 64 → sizeQ s ≤ n →
    ∃ m, m ≤ s.r.length ∧ (evict n s out).1 = { s with r := s.r.take m, g := (gz (s.r.drop m) ++ s.g).take 64 } ∧ over (evict n s out).1 = false
  | 0, s, out, _, hc, _, hg, hn => by
    have h1 : s.r.length = 0 := by unfold sizeQ at hn; omega
    have h2 : s.f.length = 0 := by unfold sizeQ at hn; omega
    have e1 : s.r = [] := List.eq_nil_of_length_eq_zero h1
    have e2 : s.f = [] := List.eq_nil_of_length_eq_zero h2
    refine ⟨0, Nat.zero_le _, ?_, ?_⟩
    · show s = _
      cases s with
      | mk cap r f g =>
        simp only at e1 hg
        subst e1
        simp [gz, List.take_of_length_le hg]
    · show over s = false
      unfold over
      rw [e1, e2]
      simp [sumI]
      omega
  | n + 1, s, out, h0, hc, hf, hg, hn => by
    by_cases ho : over s = true
    · have ho' := of_decide_eq_true ho
      have hr : s.r ≠ [] := by
        intro e
        rw [e, sumI_nil] at ho'
        omega
      have hfr : fromR s = true := by
        unfold fromR
        rw [Bool.or_eq_true]
        exact .inl (decide_eq_true (by omega))
      have h5 : 0 < s.r.length := List.length_pos_iff.2 hr
      have h6 : s.r.dropLast.length = s.r.length - 1 := List.length_dropLast
      obtain ⟨m, h1, h2, h3⟩ := evict_scan n (s := evR s) (out := out ++ [(lastI s.r).1]) (fun x hx => h0 x (dropLast_mem hx)) hc hf (ghost_len hg) (by
        unfold sizeQ at hn ⊢
        show s.r.dropLast.length + s.f.length ≤ n
        omega)
      have h1 : m ≤ s.r.dropLast.length := h1
      rw [evict, if_pos ho, if_pos hfr]
      refine ⟨m, by omega, ?_, h3⟩
      rw [h2]
      have e1 : s.r = s.r.dropLast ++ [lastI s.r] := last_split hr
      have e2 : s.r.take m = s.r.dropLast.take m := by
        conv => lhs; rw [e1]
        rw [List.take_append_of_le_length h1]
      have e3 : s.r.drop m = s.r.dropLast.drop m ++ [lastI s.r] := by
        conv => lhs; rw [e1]
        rw [List.drop_append_of_le_length h1]
      show ({ s with r := s.r.dropLast.take m, g := (gz (s.r.dropLast.drop m) ++ ghost s.g (lastI s.r).1).take 64 } : QS) = _
      rw [e2, e3, ghost_take hg, take_take_app]
      simp [gz]
    · have ho : over s = false := by simpa using ho
      rw [evict_stop _ _ ho]
      refine ⟨s.r.length, Nat.le_refl _, ?_, ho⟩
      cases s with
      | mk cap r f g =>
        simp only at hg
        simp [gz, List.take_of_length_le hg]
/-- Between the calls: few keys, all of K; Frequent is hs. -/
structure ScI (cap : Int) (K : ByteArray → Prop) (hs : List It) (c : Nat) (s : QS) : Prop where
  cp : s.cap = cap
  g : QGd c s
  g64 : s.g.length ≤ 64
  ov : over s = false
  f : s.f = hs
  fs : sumI hs ≤ cap - cap / 4
  k : ∀ x, x ∈ s.r ∨ x ∈ s.f ∨ x ∈ s.g → K x.1
section
variable {cap z : Int} {K J : ByteArray → Prop} {hs : List It} {c : Nat} {s : QS} {k : ByteArray}
theorem ScI.mono (h : ScI cap K hs c s) (hJ : ∀ x, K x → J x) : ScI cap J hs c s := ⟨h.cp, h.g, h.g64, h.ov, h.f, h.fs, fun x hx => hJ _ (h.k x hx)⟩
theorem ScI.sum (h : ScI cap K hs c s) : sumI s.r + sumI s.f ≤ cap := by
  have := of_decide_eq_false h.ov
  rw [h.cp] at this
  omega
theorem ScI.fresh (h : ScI cap K hs c s) (hk : ¬ K k) : k ∉ s.r.map Prod.fst ∧ k ∉ s.f.map Prod.fst ∧ k ∉ s.g.map Prod.fst := by
  refine ⟨fun e => ?_, fun e => ?_, fun e => ?_⟩
  all_goals
    obtain ⟨x, hx, rfl⟩ := List.mem_map.1 e
    refine hk (h.k x ?_)
  · exact .inl hx
  · exact .inr (.inl hx)
  · exact .inr (.inr hx)
theorem gz_mem {l : List It} {x : It} (h : x ∈ gz l) : ∃ y ∈ l, x.1 = y.1 := by
  obtain ⟨y, hy, rfl⟩ := List.mem_map.1 h
  exact ⟨y, hy, rfl⟩
/-- What eviction leaves keeps the bounds. -/
theorem ScI.after {r f g : List It} {m : Nat} {s' : QS} (h : ScI cap K hs c s) (hcap : 16 ≤ cap ∧ cap ≤ 271) (hr0 : ∀ x ∈ r, 0 ≤ x.2) (hf0 : ∀ x ∈ f, 0 ≤ x.2) (hl : r.length + f.length ≤ c + 1) (hfs : sumI f ≤ cap - cap / 4)
    (hJ : ∀ x, x ∈ r ∨ x ∈ f ∨ x ∈ g → J x.1) (e : s' = ⟨cap, r.take m, f, (gz (r.drop m) ++ g).take 64⟩) (ho : over s' = false) : ScI cap J f (c + 1) s' := by
  subst e
  have hsu := of_decide_eq_false ho
  have hsu : ¬ cap < sumI (r.take m) + sumI f := hsu
  have hg64 : ((gz (r.drop m) ++ g).take 64).length ≤ 64 := by rw [List.length_take]; omega
  refine ⟨rfl, ⟨by show 1 ≤ cap; omega, by show cap ≤ _; omega, fun x hx => hr0 x (List.mem_of_mem_take hx), hf0, by show sumI (r.take m) + sumI f ≤ _; omega, ?_, Nat.le_trans hg64 (by omega)⟩, hg64, ho, rfl, hfs, fun x hx => ?_⟩
  · show (r.take m).length + f.length ≤ c + 1
    rw [List.length_take]; omega
  · rcases hx with hx | hx | hx
    · exact hJ x (.inl (List.mem_of_mem_take hx))
    · exact hJ x (.inr (.inl hx))
    · rcases List.mem_append.1 (List.mem_of_mem_take hx) with hx | hx
      · obtain ⟨y, hy, e⟩ := gz_mem hx
        rw [e]
        exact hJ y (.inl (List.mem_of_mem_drop hy))
      · exact hJ x (.inr (.inr hx))
/-- A put of a new key. -/
theorem ScI.put_new (h : ScI cap K hs c s) (hcap : 16 ≤ cap ∧ cap ≤ 271) (hz : 1 ≤ z ∧ z ≤ cap) (hk : ¬ K k) :
    ∃ m, (putS s k z).1 = ⟨cap, ((k, z) :: s.r).take m, hs, (gz (((k, z) :: s.r).drop m) ++ s.g).take 64⟩ ∧ ScI cap (fun x => K x ∨ x = k) hs (c + 1) (putS s k z).1 := by
  obtain ⟨k1, k2, k3⟩ := h.fresh hk
  have hof : often s k = false := by unfold often; rw [hasL_no k3, hasL_no k2]; rfl
  have e1 : putS s k z = evict (sizeQ ⟨cap, (k, z) :: s.r, hs, s.g⟩) ⟨cap, (k, z) :: s.r, hs, s.g⟩ [] := by
    have e2 : putIn s k z = ⟨cap, (k, z) :: s.r, hs, s.g⟩ := by
      unfold putIn base
      rw [if_neg (by rw [hof]; decide), remL_fresh k1, remL_fresh k2, remL_fresh k3, h.cp, h.f]
    unfold putS
    rw [show max z 1 = z by omega, if_neg (by rw [h.cp]; omega), e2]
  have hr0 : ∀ x ∈ (k, z) :: s.r, 0 ≤ x.2 := fun x hx => by
    rcases List.mem_cons.1 hx with rfl | hx
    · show 0 ≤ z; omega
    · exact h.g.r0 x hx
  obtain ⟨m, _, h2, h3⟩ := evict_scan _ (s := ⟨cap, (k, z) :: s.r, hs, s.g⟩) (out := []) hr0 (by show 0 ≤ cap; omega) h.fs h.g64 (Nat.le_refl _)
  rw [← e1] at h2 h3
  refine ⟨m, h2, h.after hcap hr0 (by rw [← h.f]; exact h.g.f0) ?_ h.fs (fun x hx => ?_) h2 h3⟩
  · have := h.g.ln
    rw [h.f] at this
    rw [List.length_cons]; omega
  · rcases hx with hx | hx | hx
    · rcases List.mem_cons.1 hx with rfl | hx
      · exact .inr rfl
      · exact .inl (h.k x (.inl hx))
    · exact .inl (h.k x (.inr (.inl (by rw [h.f]; exact hx))))
    · exact .inl (h.k x (.inr (.inr hx)))
/-- A put of a ghost. -/
theorem ScI.put_ghost (h : ScI cap K hs c s) (hcap : 16 ≤ cap ∧ cap ≤ 271) (hz : 1 ≤ z) (hs2 : sumI hs + z ≤ cap - cap / 4) (hr : k ∉ s.r.map Prod.fst) (hf : k ∉ s.f.map Prod.fst) (hg : k ∈ s.g.map Prod.fst) :
    ScI cap K ((k, z) :: hs) (c + 1) (putS s k z).1 := by
  have hf0 : ∀ x ∈ (k, z) :: hs, 0 ≤ x.2 := fun x hx => by
    rcases List.mem_cons.1 hx with rfl | hx
    · show 0 ≤ z; omega
    · exact h.g.f0 x (by rw [h.f]; exact hx)
  have hs0 : 0 ≤ sumI hs := sumI_nonneg fun x hx => hf0 x (List.mem_cons_of_mem _ hx)
  have hof : often s k = true := by unfold often; rw [hasL_iff.2 hg]; rfl
  have e1 : putS s k z = evict (sizeQ ⟨cap, s.r, (k, z) :: hs, remL s.g k⟩) ⟨cap, s.r, (k, z) :: hs, remL s.g k⟩ [] := by
    have e2 : putIn s k z = ⟨cap, s.r, (k, z) :: hs, remL s.g k⟩ := by
      unfold putIn base
      rw [if_pos hof, remL_fresh hr, remL_fresh hf, h.cp, h.f]
    unfold putS
    rw [show max z 1 = z by omega, if_neg (by rw [h.cp]; omega), e2]
  have hfs : sumI ((k, z) :: hs) ≤ cap - cap / 4 := by rw [sumI_cons]; show z + _ ≤ _; omega
  obtain ⟨m, _, h2, h3⟩ := evict_scan _ (s := ⟨cap, s.r, (k, z) :: hs, remL s.g k⟩) (out := []) h.g.r0 (by show 0 ≤ cap; omega) hfs (Nat.le_trans (remL_len s.g k) h.g64) (Nat.le_refl _)
  rw [← e1] at h2 h3
  have hKk : K k := by obtain ⟨x, hx, rfl⟩ := List.mem_map.1 hg; exact h.k x (.inr (.inr hx))
  refine h.after hcap h.g.r0 hf0 ?_ hfs (fun x hx => ?_) h2 h3
  · have := h.g.ln
    rw [h.f] at this
    rw [List.length_cons]; omega
  · rcases hx with hx | hx | hx
    · exact h.k x (.inl hx)
    · rcases List.mem_cons.1 hx with rfl | hx
      · exact hKk
      · exact h.k x (.inr (.inl (by rw [h.f]; exact hx)))
    · exact h.k x (.inr (.inr (remL_mem hx)))
/-- Behind the first put of k, j fillers of size q are put ahead of it. -/
def FlI (q : Int) (k : ByteArray) (j : Nat) (s : QS) : Prop := ∃ F z T, s.r = F ++ (k, z) :: T ∧ F.length = j ∧ 0 ≤ z ∧ ∀ x ∈ F, x.2 = q ∧ x.1 ≠ k
def Gone (k : ByteArray) (s : QS) : Prop := k ∉ s.r.map Prod.fst ∧ k ∈ s.g.map Prod.fst
theorem mem_take_mid {a c : List It} {b : It} {n : Nat} (h : a.length < n) : b ∈ (a ++ b :: c).take n := by
  rw [List.take_append]
  refine List.mem_append_right _ ?_
  obtain ⟨t, ht⟩ : ∃ t, n - a.length = t + 1 := ⟨n - a.length - 1, by omega⟩
  rw [ht]
  exact List.mem_cons_self ..
theorem fl_split {q z : Int} {F T g : List It} {m j : Nat} {s' : QS} (hF : F.length = j) (hFq : ∀ x ∈ F, x.2 = q ∧ x.1 ≠ k) (hz : 0 ≤ z) (hj : j ≤ 10) (hr : s'.r = (F ++ (k, z) :: T).take m) (hg : s'.g = (gz ((F ++ (k, z) :: T).drop m) ++ g).take 64) : FlI q k j s' ∨ Gone k s' := by
  by_cases hm : m ≤ j
  · right
    refine ⟨?_, ?_⟩
    · rw [hr, List.take_append_of_le_length (by omega)]
      intro e
      obtain ⟨x, hx, hxk⟩ := List.mem_map.1 e
      exact (hFq x (List.mem_of_mem_take hx)).2 hxk
    · rw [hg, List.drop_append_of_le_length (by omega)]
      refine List.mem_map.2 ⟨(k, 0), ?_, rfl⟩
      have e : gz (F.drop m ++ (k, z) :: T) ++ g = gz (F.drop m) ++ (k, 0) :: (gz T ++ g) := by simp [gz]
      rw [e]
      refine mem_take_mid ?_
      unfold gz
      rw [List.length_map, List.length_drop]
      omega
  · left
    refine ⟨F, z, T.take (m - j - 1), ?_, hF, hz, hFq⟩
    rw [hr, List.take_append, List.take_of_length_le (by omega), hF]
    congr 1
    obtain ⟨t, ht⟩ : ∃ t, m - j = t + 1 := ⟨m - j - 1, by omega⟩
    rw [ht, List.take_succ_cons, Nat.add_sub_cancel]
theorem sumI_const {q : Int} : ∀ {F : List It}, (∀ x ∈ F, x.2 = q) → sumI F = (F.length : Int) * q
  | [], _ => by simp [sumI]
  | x :: F, h => by
    rw [sumI_cons, sumI_const fun y hy => h y (List.mem_cons_of_mem _ hy), h x (List.mem_cons_self ..), List.length_cons]
    rw [show ((F.length + 1 : Nat) : Int) = (F.length : Int) + 1 by omega, Int.add_mul, Int.one_mul]
    omega
/-- While k is there, few fillers were put. -/
theorem FlI.few {j : Nat} (h : FlI (cap / 4) k j s) (hi : ScI cap K hs c s) (hcap : 16 ≤ cap ∧ cap ≤ 271) : j ≤ 4 := by
  obtain ⟨F, z, T, hr, hF, hz, hq⟩ := h
  have hsum := hi.sum
  have h1 : 0 ≤ sumI s.f := sumI_nonneg hi.g.f0
  have h2 : 0 ≤ sumI T := sumI_nonneg fun x hx => hi.g.r0 x (by rw [hr]; exact List.mem_append_right _ (List.mem_cons_of_mem _ hx))
  rw [hr, sumI_append, sumI_cons, sumI_const (fun x hx => (hq x hx).1), hF] at hsum
  have hsum : (j : Int) * (cap / 4) + (z + sumI T) + sumI s.f ≤ cap := hsum
  apply Classical.byContradiction
  intro hj
  have h3 : (5 : Int) * (cap / 4) ≤ (j : Int) * (cap / 4) := Int.mul_le_mul_of_nonneg_right (by omega) (by omega)
  omega
theorem FlI.has {q : Int} {j : Nat} (h : FlI q k j s) : k ∈ s.r.map Prod.fst := by
  obtain ⟨F, z, T, hr, _⟩ := h
  rw [hr]
  exact List.mem_map.2 ⟨(k, z), List.mem_append_right _ (List.mem_cons_self ..), rfl⟩
/-- The first put of k. -/
theorem ScI.first (h : ScI cap K hs c s) (hcap : 16 ≤ cap ∧ cap ≤ 271) (hz : 1 ≤ z ∧ z ≤ cap) (hk : ¬ K k) : ScI cap (fun x => K x ∨ x = k) hs (c + 1) (putS s k z).1 ∧ (FlI (cap / 4) k 0 (putS s k z).1 ∨ Gone k (putS s k z).1) := by
  obtain ⟨m, h1, h2⟩ := h.put_new hcap hz hk
  exact ⟨h2, fl_split (F := []) (z := z) (T := s.r) (m := m) rfl (fun x hx => (by cases hx)) (by omega) (by omega) (by rw [h1]; rfl) (by rw [h1]; rfl)⟩
/-- A filler more. -/
theorem ScI.fill {j : Nat} {y : ByteArray} (h : ScI cap K hs c s) (hcap : 16 ≤ cap ∧ cap ≤ 271) (hf : FlI (cap / 4) k j s) (hy : ¬ K y) (hky : y ≠ k) : ScI cap (fun x => K x ∨ x = y) hs (c + 1) (putS s y (cap / 4)).1 ∧ (FlI (cap / 4) k (j + 1) (putS s y (cap / 4)).1 ∨ Gone k (putS s y (cap / 4)).1) := by
  have hj := hf.few h hcap
  obtain ⟨m, h1, h2⟩ := h.put_new (z := cap / 4) hcap (by omega) hy
  obtain ⟨F, z, T, hr, hF, hz, hq⟩ := hf
  refine ⟨h2, fl_split (F := (y, cap / 4) :: F) (z := z) (T := T) (m := m) (by rw [List.length_cons, hF]) (fun x hx => ?_) hz (by omega) (by rw [h1, hr]; rfl) (by rw [h1, hr]; rfl)⟩
  rcases List.mem_cons.1 hx with rfl | hx
  · exact ⟨rfl, hky⟩
  · exact hq x hx
end
end Go.Proofs.Ytonkaodbjohkkaa

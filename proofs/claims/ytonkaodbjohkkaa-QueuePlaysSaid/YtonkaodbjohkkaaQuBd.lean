/- queue: keys that differ, in plain words. No program. -/
import Derived.Test.YtonkaodbjohkkaaQuGhP
namespace Go.Proofs.Ytonkaodbjohkkaa
open Go.RowKit

theorem hasL_iff {l : List It} {k : ByteArray} : hasL l k = true ↔ k ∈ l.map Prod.fst := by
  induction l with
  | nil => simp [hasL_nil]
  | cons x l ih =>
    rw [hasL_cons, Bool.or_eq_true, ih, eqB_iff, List.map_cons, List.mem_cons]
    exact or_congr eq_comm Iff.rfl
theorem remL_sub (l : List It) (k : ByteArray) : (remL l k).Sublist l := by
  induction l with
  | nil => exact List.Sublist.refl _
  | cons x l ih =>
    rw [remL_cons]
    split
    · exact List.sublist_cons_self _ _
    · exact ih.cons_cons x
theorem remL_not {l : List It} {k : ByteArray} (h : (l.map Prod.fst).Nodup) : k ∉ (remL l k).map Prod.fst := by
  induction l with
  | nil => simp [remL_nil]
  | cons x l ih =>
    rw [List.map_cons, List.nodup_cons] at h
    rw [remL_cons]
    split
    · rename_i e
      rw [eqB_iff] at e
      rw [← e]; exact h.1
    · rename_i e
      rw [List.map_cons, List.mem_cons]
      rintro (e2 | e2)
      · exact e (eqB_iff.2 e2.symm)
      · exact ih h.2 e2
theorem keys_sub {r r' f f' : List It} (hr : r'.Sublist r) (hf : f'.Sublist f) (h : (r.map Prod.fst ++ f.map Prod.fst).Nodup) : (r'.map Prod.fst ++ f'.map Prod.fst).Nodup :=
  h.sublist ((hr.map _).append (hf.map _))
theorem base_uniq {s : QS} {k : ByteArray} (h : (keysQ s).Nodup) : (keysQ (base s k)).Nodup ∧ k ∉ keysQ (base s k) := by
  refine ⟨keys_sub (remL_sub _ _) (remL_sub _ _) h, fun hk => ?_⟩
  have h2 := List.nodup_append.1 h
  rcases List.mem_append.1 hk with hk | hk
  · exact remL_not h2.1 hk
  · exact remL_not h2.2.1 hk
theorem putIn_uniq {s : QS} {k : ByteArray} {z : Int} (h : (keysQ s).Nodup) : (keysQ (putIn s k z)).Nodup := by
  obtain ⟨h1, h2⟩ := base_uniq (k := k) h
  unfold putIn
  split
  · show ((remL s.r k).map Prod.fst ++ k :: (remL s.f k).map Prod.fst).Nodup
    rw [List.perm_middle.nodup_iff, List.nodup_cons]
    exact ⟨h2, h1⟩
  · show (k :: ((remL s.r k).map Prod.fst ++ (remL s.f k).map Prod.fst)).Nodup
    rw [List.nodup_cons]
    exact ⟨h2, h1⟩
theorem evict_uniq : ∀ (n : Nat) {s : QS} {out : List ByteArray}, (keysQ s).Nodup → (keysQ (evict n s out).1).Nodup
  | 0, _, _, h => h
  | n + 1, s, out, h => by
    rw [evict]
    split
    · split
      · exact evict_uniq n (keys_sub (r := s.r) (f := s.f) (List.dropLast_sublist _) (List.Sublist.refl _) h)
      · exact evict_uniq n (keys_sub (r := s.r) (f := s.f) (List.Sublist.refl _) (List.dropLast_sublist _) h)
    · exact h
theorem putS_uniq {s : QS} {k : ByteArray} {z : Int} (h : (keysQ s).Nodup) : (keysQ (putS s k z).1).Nodup := by
  unfold putS
  split
  · exact (base_uniq h).1
  · exact evict_uniq _ (putIn_uniq h)
theorem touch_perm (s : QS) (k : ByteArray) : (TouchS s k).r = s.r ∧ (TouchS s k).g = s.g ∧ (TouchS s k).cap = s.cap ∧ (TouchS s k).f.Perm s.f := by
  unfold TouchS
  cases hi : idxN s.f k with
  | none => exact ⟨rfl, rfl, rfl, List.Perm.refl _⟩
  | some i =>
    have hlt := idxN_lt hi
    refine ⟨rfl, rfl, rfl, ?_⟩
    show (s.f.getD i dIt :: remL s.f k).Perm s.f
    unfold remL
    rw [hi]
    show (s.f.getD i dIt :: s.f.eraseIdx i).Perm s.f
    rw [List.eraseIdx_eq_take_drop_succ]
    refine List.perm_middle.symm.trans ?_
    rw [show s.f.getD i dIt = s.f[i] by simp [List.getD, hlt], ← List.drop_eq_getElem_cons hlt, List.take_append_drop]
theorem touch_uniq {s : QS} {k : ByteArray} (h : (keysQ s).Nodup) : (keysQ (TouchS s k)).Nodup := by
  obtain ⟨h1, _, _, h4⟩ := touch_perm s k
  unfold keysQ
  rw [h1]
  exact ((List.Perm.append_left _ (h4.map _)).nodup_iff).2 h
theorem rem_uniq {s : QS} {k : ByteArray} (h : (keysQ s).Nodup) : (keysQ (RemS s k)).Nodup := by
  unfold RemS
  split
  · exact keys_sub (r := s.r) (f := s.f) (remL_sub _ _) (List.Sublist.refl _) h
  · exact keys_sub (r := s.r) (f := s.f) (remL_sub _ _) (remL_sub _ _) h
/-- Eviction ends within the capacity, and the bounds stay. -/
theorem evict_ok {c : Nat} : ∀ (n : Nat) {s : QS} {out : List ByteArray}, QGd c s → s.g.length ≤ 64 → sizeQ s ≤ n → over (evict n s out).1 = false ∧ QGd c (evict n s out).1 ∧ (evict n s out).1.g.length ≤ 64
  | 0, s, out, g, hg, hn => by
    have h1 : s.r.length + s.f.length = 0 := Nat.le_zero.1 hn
    have h2 : s.r = [] := List.eq_nil_of_length_eq_zero (by omega)
    have h3 : s.f = [] := List.eq_nil_of_length_eq_zero (by omega)
    refine ⟨decide_eq_false ?_, g, hg⟩
    show ¬ s.cap < sumI s.r + sumI s.f
    rw [h2, h3, sumI_nil]
    have := g.c1
    omega
  | n + 1, s, out, g, hg, hn => by
    rw [evict]
    split
    · rename_i ho
      split
      · rename_i hf
        obtain ⟨a, b, e⟩ := g.evR hg (over_r g ho hf)
        exact evict_ok n a b (by omega)
      · rename_i hf
        obtain ⟨a, e⟩ := g.evF (over_f (by simpa using hf))
        exact evict_ok n a hg (by omega)
    · rename_i ho
      exact ⟨by simpa using ho, g, hg⟩
end Go.Proofs.Ytonkaodbjohkkaa

/- queue: present keys and ghosts are there once; plain. No program. -/
import Derived.Test.YtonkaodbjohkkaaQuBd
namespace Go.Proofs.Ytonkaodbjohkkaa
open Go.RowKit

/-- Keys that are present, or ghosts, are there once. -/
def allQ (s : QS) : List ByteArray := s.g.map Prod.fst ++ keysQ s
def GI (s : QS) : Prop := (allQ s).Nodup
section
variable {s : QS} {k : ByteArray} {z : Int} {l : List It}
theorem GI.keys (h : GI s) : (keysQ s).Nodup := (List.nodup_append.1 h).2.1
theorem GI.ghosts (h : GI s) : (s.g.map Prod.fst).Nodup := (List.nodup_append.1 h).1
theorem remL_off (h : hasL l k = false) : remL l k = l := by
  unfold hasL at h
  unfold remL
  cases hi : idxN l k with
  | none => rfl
  | some i => rw [hi] at h; cases h
theorem remL_keys (h : (l.map Prod.fst).Nodup) : (remL l k).map Prod.fst = (l.map Prod.fst).filter (fun x => !eqB x k) := by
  induction l with
  | nil => simp [remL_nil]
  | cons x l ih =>
    rw [List.map_cons, List.nodup_cons] at h
    rw [remL_cons]
    by_cases e : eqB x.1 k = true
    · rw [if_pos e, List.map_cons, List.filter_cons, if_neg (by rw [e]; decide)]
      rw [eqB_iff] at e
      refine (List.filter_eq_self.2 fun y hy => ?_).symm
      rw [eqB_ne (fun e2 => h.1 (by rw [e, ← e2]; exact hy))]
      rfl
    · have e' : eqB x.1 k = false := by simpa using e
      rw [if_neg e, List.map_cons, List.map_cons, List.filter_cons, if_pos (by rw [e']; rfl), ih h.2]
theorem RemS_eq (h : (keysQ s).Nodup) : RemS s k = { s with r := remL s.r k, f := remL s.f k } := by
  unfold RemS
  split
  · rename_i hr
    rw [hasL_iff] at hr
    have h2 : hasL s.f k = false := by
      cases hf : hasL s.f k
      · rfl
      · rw [hasL_iff] at hf
        exact absurd rfl ((List.nodup_append.1 h).2.2 k hr k hf)
    rw [remL_off h2]
  · rfl
theorem GI.sub {s' : QS} (h : GI s) (hr : s'.r.Sublist s.r) (hf : s'.f.Sublist s.f) (hg : s'.g.Sublist s.g) : GI s' :=
  List.Nodup.sublist ((hg.map _).append ((hr.map _).append (hf.map _))) h
theorem GI.base (h : GI s) (k : ByteArray) : GI (base s k) ∧ k ∉ allQ (base s k) := by
  refine ⟨h.sub (remL_sub _ _) (remL_sub _ _) (remL_sub _ _), fun hk => ?_⟩
  rcases List.mem_append.1 hk with hk | hk
  · exact remL_not h.ghosts hk
  · exact (base_uniq h.keys).2 hk
theorem GI.putIn (h : GI s) (k : ByteArray) (z : Int) : GI (putIn s k z) := by
  obtain ⟨h1, h2⟩ := h.base k
  unfold GI allQ keysQ at h1
  unfold allQ keysQ at h2
  unfold Go.Proofs.Ytonkaodbjohkkaa.putIn
  split
  · show ((remL s.g k).map Prod.fst ++ ((remL s.r k).map Prod.fst ++ k :: (remL s.f k).map Prod.fst)).Nodup
    rw [← List.append_assoc, List.perm_middle.nodup_iff, List.nodup_cons, List.append_assoc]
    exact ⟨h2, h1⟩
  · show ((remL s.g k).map Prod.fst ++ k :: ((remL s.r k).map Prod.fst ++ (remL s.f k).map Prod.fst)).Nodup
    rw [List.perm_middle.nodup_iff, List.nodup_cons]
    exact ⟨h2, h1⟩
theorem ghost_eq (h : s.g.length ≤ 64) (k : ByteArray) : (ghost s.g k).map Prod.fst = (k :: s.g.map Prod.fst).take 64 := by
  unfold ghost
  split
  · rw [List.map_dropLast, List.map_cons, List.dropLast_eq_take]
    congr 1
    simp; omega
  · rw [List.map_cons, List.take_of_length_le (by simp; omega)]
theorem ghost_sub (g : List It) (k : ByteArray) : (ghost g k).Sublist ((k, 0) :: g) := by
  unfold ghost
  split
  · exact List.dropLast_sublist _
  · exact List.Sublist.refl _
theorem GI.evR (h : GI s) (hr : s.r ≠ []) : GI (evR s) := by
  unfold GI allQ keysQ at h ⊢
  rw [show s.r.map Prod.fst = s.r.dropLast.map Prod.fst ++ [(lastI s.r).1] by conv => lhs; rw [last_split hr, List.map_append, List.map_cons, List.map_nil]] at h
  show ((ghost s.g (lastI s.r).1).map Prod.fst ++ (s.r.dropLast.map Prod.fst ++ s.f.map Prod.fst)).Nodup
  refine List.Nodup.sublist (((ghost_sub s.g (lastI s.r).1).map Prod.fst).append (List.Sublist.refl _)) ?_
  rw [List.map_cons, List.cons_append]
  refine (List.Perm.nodup_iff ?_).1 h
  show (s.g.map Prod.fst ++ (s.r.dropLast.map Prod.fst ++ [(lastI s.r).1] ++ s.f.map Prod.fst)).Perm ((lastI s.r).1 :: (s.g.map Prod.fst ++ (s.r.dropLast.map Prod.fst ++ s.f.map Prod.fst)))
  rw [List.append_assoc, List.singleton_append, ← List.append_assoc, ← List.append_assoc]
  exact List.perm_middle
theorem GI.evF (h : GI s) : GI (evF s) := h.sub (s' := Go.Proofs.Ytonkaodbjohkkaa.evF s) (List.Sublist.refl _) (List.dropLast_sublist _) (List.Sublist.refl _)
theorem GI.evict {c : Nat} : ∀ (n : Nat) {s : QS} {out : List ByteArray}, GI s → QGd c s → s.g.length ≤ 64 → GI (evict n s out).1
  | 0, _, _, h, _, _ => h
  | n + 1, s, out, h, g, hg => by
    rw [Go.Proofs.Ytonkaodbjohkkaa.evict]
    split
    · rename_i ho
      split
      · rename_i hf
        have hr := over_r g ho hf
        exact GI.evict n (h.evR hr) (g.evR hg hr).1 (ghost_len hg)
      · rename_i hf
        exact GI.evict n h.evF (g.evF (over_f (by simpa using hf))).1 hg
    · exact h
theorem GI.putS {c : Nat} (h : GI s) (g : QGd c s) (hg : s.g.length ≤ 64) (hs : sumI s.r + sumI s.f ≤ 2199023255552) (k : ByteArray) (z : Int) : GI (putS s k z).1 := by
  unfold Go.Proofs.Ytonkaodbjohkkaa.putS
  split
  · exact (h.base k).1
  · have h1 := g.c2
    exact GI.evict (c := c + 1) _ (h.putIn k _) (g.putIn hs k (by omega) (by omega)) (by have := remL_len s.g k; unfold Go.Proofs.Ytonkaodbjohkkaa.putIn; split <;> exact Nat.le_trans this hg)
theorem GI.touch (h : GI s) (k : ByteArray) : GI (TouchS s k) := by
  obtain ⟨h1, h2, _, h4⟩ := touch_perm s k
  unfold GI allQ keysQ
  rw [h1, h2]
  exact ((List.Perm.append_left _ (List.Perm.append_left _ (h4.map _))).nodup_iff).2 h
theorem GI.rem (h : GI s) (k : ByteArray) : GI (RemS s k) := by
  rw [RemS_eq h.keys]
  exact h.sub (remL_sub _ _) (remL_sub _ _) (List.Sublist.refl _)
end
end Go.Proofs.Ytonkaodbjohkkaa

/- queue: what a put keeps and gives out, in plain words. No program. -/
import Derived.Test.YtonkaodbjohkkaaQuO
namespace Go.Proofs.Ytonkaodbjohkkaa
open Go.RowKit

def entQ (s : QS) : List It := s.r ++ s.f
theorem keysQ_ent (s : QS) : keysQ s = (entQ s).map Prod.fst := by unfold keysQ entQ; rw [List.map_append]
theorem sum_ent (s : QS) : sumI s.r + sumI s.f = sumI (entQ s) := by unfold entQ; rw [sumI_append]
/-- Eviction parts the entries: those that stay, and those whose keys are given out. -/
theorem evict_parts {c : Nat} : ∀ (n : Nat) {s : QS} {out : List ByteArray}, QGd c s → s.g.length ≤ 64 → ∃ ev : List It, (evict n s out).2 = out ++ ev.map Prod.fst ∧ (ev ++ entQ (evict n s out).1).Perm (entQ s) ∧ (evict n s out).1.cap = s.cap
  | 0, s, out, _, _ => ⟨[], by simp [evict], List.Perm.refl _, rfl⟩
  | n + 1, s, out, g, hg => by
    rw [evict]
    split
    · rename_i ho
      split
      · rename_i hf
        have hne := over_r g ho hf
        obtain ⟨a, b, _⟩ := g.evR hg hne
        obtain ⟨ev, e1, e2, e3⟩ := evict_parts n (s := evR s) (out := out ++ [(lastI s.r).1]) a b
        refine ⟨lastI s.r :: ev, by rw [e1]; simp, ?_, e3⟩
        have h1 : (entQ s).Perm (lastI s.r :: entQ (evR s)) := by
          show (s.r ++ s.f).Perm (lastI s.r :: (s.r.dropLast ++ s.f))
          conv => lhs; rw [last_split hne, List.append_assoc]
          exact List.perm_middle
        exact (e2.cons _).trans h1.symm
      · rename_i hf
        have hne := over_f (s := s) (by simpa using hf)
        obtain ⟨a, _⟩ := g.evF hne
        obtain ⟨ev, e1, e2, e3⟩ := evict_parts n (s := evF s) (out := out ++ [(lastI s.f).1]) a hg
        refine ⟨lastI s.f :: ev, by rw [e1]; simp, ?_, e3⟩
        have h1 : (entQ s).Perm (lastI s.f :: entQ (evF s)) := by
          show (s.r ++ s.f).Perm (lastI s.f :: (s.r ++ s.f.dropLast))
          conv => lhs; rw [last_split hne, ← List.append_assoc]
          exact List.perm_append_singleton _ _
        exact (e2.cons _).trans h1.symm
    · exact ⟨[], by simp, List.Perm.refl _, rfl⟩
theorem putIn_ent (s : QS) (k : ByteArray) (z : Int) : (entQ (putIn s k z)).Perm ((k, z) :: entQ (base s k)) := by
  unfold putIn
  split
  · show (remL s.r k ++ (k, z) :: remL s.f k).Perm ((k, z) :: (remL s.r k ++ remL s.f k))
    exact List.perm_middle
  · exact List.Perm.refl _
theorem remL_mem_iff {l : List It} {k : ByteArray} (h : (l.map Prod.fst).Nodup) (x : It) : x ∈ remL l k ↔ x ∈ l ∧ x.1 ≠ k := by
  constructor
  · intro hx
    exact ⟨(remL_sub l k).mem hx, fun e => remL_not (k := k) h (List.mem_map.2 ⟨x, hx, e⟩)⟩
  · rintro ⟨hx, hne⟩
    clear h
    induction l with
    | nil => cases hx
    | cons y l ih =>
      rw [remL_cons]
      rcases List.mem_cons.1 hx with e | hx
      · rw [if_neg (by rw [← e, eqB_iff]; exact hne), e]
        exact List.mem_cons_self
      · split
        · exact hx
        · exact List.mem_cons_of_mem _ (ih hx)
theorem base_ent {s : QS} (h : (keysQ s).Nodup) (k : ByteArray) (x : It) : x ∈ entQ (base s k) ↔ x ∈ entQ s ∧ x.1 ≠ k := by
  have h2 := List.nodup_append.1 h
  show x ∈ remL s.r k ++ remL s.f k ↔ x ∈ s.r ++ s.f ∧ _
  rw [List.mem_append, List.mem_append, remL_mem_iff h2.1, remL_mem_iff h2.2.1, or_and_right]
theorem touch_ent (s : QS) (k : ByteArray) : (entQ (TouchS s k)).Perm (entQ s) := by
  obtain ⟨h1, _, _, h4⟩ := touch_perm s k
  unfold entQ
  rw [h1]
  exact List.Perm.append_left _ h4
theorem rem_ent {s : QS} (h : (keysQ s).Nodup) (k : ByteArray) (x : It) : x ∈ entQ (RemS s k) ↔ x ∈ entQ s ∧ x.1 ≠ k := by
  have h2 := List.nodup_append.1 h
  unfold RemS
  split
  · rename_i hr
    show x ∈ remL s.r k ++ s.f ↔ x ∈ s.r ++ s.f ∧ _
    rw [List.mem_append, List.mem_append, remL_mem_iff h2.1, or_and_right]
    have : x ∈ s.f ↔ x ∈ s.f ∧ x.1 ≠ k := ⟨fun hx => ⟨hx, fun e => h2.2.2 k (hasL_iff.1 hr) x.1 (List.mem_map_of_mem hx) e.symm⟩, fun hx => hx.1⟩
    rw [← this]
  · exact base_ent h k x
end Go.Proofs.Ytonkaodbjohkkaa

/- topology: the plain law of Shorter. Conditions: none. -/
import Derived.Test.YtpcapmialdmcaaaTpWkP
import Derived.Test.YtpcapmialdmcaaaTpR
namespace Go.Proofs.Ytpcapmialdmcaaa
open Go.RowKit

section
variable {E E' : ByteArray → ByteArray → Option Int} {V : ByteArray → Prop} {a b : ByteArray} {r s : Rt}
theorem Pth.emono (hE : ∀ i k q, E i k = some q → E' i k = some q) (h : Pth E V a b r) : Pth E' V a b r := by
  induction h with
  | one hv => exact .one hv
  | snoc _ he hv ih => exact .snoc ih (hE _ _ _ he) hv
end
section
variable {ts : List ByteArray} {L L' : List TL} {t t' : Int} {a b x y : ByteArray} {code g : Int} {r s : Rt}
/-- More links: a route is no longer. -/
theorem RouteR.emono (hE : ∀ i k q, lat L t i k = some q → lat L' t i k = some q) (h : RouteR ts L t a b 0 r) (k : RouteR ts L' t a b g s) : g = 0 ∧ s.2 ≤ r.2 := by
  rcases h.cases with ⟨_, hv, hb⟩ | ⟨h1, _⟩
  · have h2 := hb.1.emono hE
    rcases k with ⟨k1, _, _⟩ | ⟨k1, ⟨k2, k3⟩ | ⟨k2, k3, k4⟩⟩
    · exact absurd hv k1
    · exact ⟨k2, (k3.2 _ h2).le⟩
    · exact absurd h2 (k4 _)
  · omega
theorem RouteR.time (ht : clipT t = clipT t') (h : RouteR ts L t a b code r) (k : RouteR ts L t' a b g s) : code = g ∧ r = s := by
  have e : lat L t = lat L t' := by funext i k; unfold lat; rw [ht]
  unfold RouteR at h k
  rw [e] at h
  exact RouteR.unique (t := t') h k
theorem fnd_keys (h : L'.length = L.length) (hk : ∀ i, i < L.length → (lk L' i).a = (lk L i).a ∧ (lk L' i).b = (lk L i).b) : fnd L' x y = fnd L x y := by
  have e : ∀ i, i < L.length → isL x y (lk L' i) = isL x y (lk L i) := fun i hi => by unfold isL; rw [(hk i hi).1, (hk i hi).2]
  cases hf : fnd L x y with
  | none => exact fnd_no fun i hi => by rw [e i (by omega)]; exact fnd_none hf _ (lk_mem (by omega))
  | some i =>
    obtain ⟨h1, h2, h3, h4⟩ := fnd_some hf
    exact fnd_to (by omega) (fun j hj => by rw [e j (by omega)]; exact h4 j hj) (by rw [e i h1]; exact isL_iff.2 ⟨h2, h3⟩)
theorem set_keys {i : Nat} {z : TL} (ha : z.a = (lk L i).a) (hb : z.b = (lk L i).b) (hi : i < L.length) : ∀ j, j < L.length → (lk (L.set i z) j).a = (lk L j).a ∧ (lk (L.set i z) j).b = (lk L j).b := fun j _ => by
  by_cases e : i = j
  · subst e; rw [lk_set_self hi]; exact ⟨ha, hb⟩
  · rw [lk_set_ne e]; exact ⟨rfl, rfl⟩
theorem lk_left {z : TL} {i : Nat} (h : i < L.length) : lk (L ++ [z]) i = lk L i := by simp [lk, List.getD, List.getElem?_append_left h]
/-- A link that did not work is replaced, or a new one is added. -/
theorem lat_conn (hu : upT L a b t = false) (z : Int) : ∀ i k q, lat L t i k = some q → lat (connS ts L a b z).1 t i k = some q := by
  intro i k q h
  by_cases h1 : a ∈ ts ∧ b ∈ ts ∧ a ≠ b
  · by_cases h2 : z < 1 ∨ 17179869184 < z
    · rw [connS_far h1 h2]; exact h
    · cases hf : fnd L a b with
      | none =>
        rw [connS_new h1 h2 hf]
        unfold lat at h ⊢
        cases hg : fnd L i k with
        | none => rw [hg] at h; cases h
        | some j =>
          rw [hg] at h
          obtain ⟨g1, g2, g3, g4⟩ := fnd_some hg
          have e : fnd (L ++ [⟨Lib.minS a b, Lib.maxS a b, z, []⟩]) i k = some j := fnd_to (by simp; omega) (fun m hm => by rw [lk_left (by omega)]; exact g4 m hm) (by rw [lk_left g1]; exact isL_iff.2 ⟨g2, g3⟩)
          simp only [e, lk_left g1]
          exact h
      | some j =>
        rw [connS_old h1 h2 hf]
        have hj := (fnd_some hf).1
        have e : fnd (L.set j { lk L j with lat := z }) i k = fnd L i k := fnd_keys (List.length_set ..) (set_keys rfl rfl hj)
        unfold lat at h ⊢
        simp only [e]
        cases hg : fnd L i k with
        | none => rw [hg] at h; cases h
        | some m =>
          rw [hg] at h
          by_cases hm : j = m
          · subst hm
            have h3 : upL (lk L j) (clipT t) = false := by unfold upT at hu; rw [hf] at hu; exact hu
            simp only [h3] at h
            cases h
          · simp only [lk_set_ne hm]
            exact h
  · rw [connS_bad h1]; exact h
/-- An interruption takes links away. -/
theorem lat_down (f u : Int) : ∀ i k q, lat (downS L a b f u).1 t i k = some q → lat L t i k = some q := by
  intro i k q h
  cases hf : fnd L a b with
  | none => rw [downS_none hf] at h; exact h
  | some j =>
    by_cases ho : u < f
    · rw [downS_ord hf ho] at h; exact h
    · rw [downS_ok hf ho] at h
      have hj := (fnd_some hf).1
      have e : fnd (L.set j { lk L j with cuts := (lk L j).cuts ++ [(clipT f, clipT u)] }) i k = fnd L i k := fnd_keys (List.length_set ..) (set_keys rfl rfl hj)
      unfold lat at h ⊢
      simp only [e] at h
      cases hg : fnd L i k with
      | none => rw [hg] at h; cases h
      | some m =>
        rw [hg] at h
        by_cases hm : j = m
        · subst hm
          simp only [lk_set_self hj] at h
          by_cases h3 : upL (lk L j) (clipT t) = true
          · simp only [h3]
            have h4 : upL { lk L j with cuts := (lk L j).cuts ++ [(clipT f, clipT u)] } (clipT t) = true := by
              cases h5 : upL { lk L j with cuts := (lk L j).cuts ++ [(clipT f, clipT u)] } (clipT t)
              · simp only [h5] at h; cases h
              · rfl
            simp only [h4] at h
            exact h
          · have h4 : upL { lk L j with cuts := (lk L j).cuts ++ [(clipT f, clipT u)] } (clipT t) = false := by
              unfold upL at h3 ⊢
              simp only [List.all_append]
              simp only [Bool.not_eq_true] at h3
              rw [h3]
              rfl
            simp only [h4] at h
            cases h
        · simp only [lk_set_ne hm] at h
          exact h
end
end Go.Proofs.Ytpcapmialdmcaaa

/- topology: the plain law of Walks. Conditions: none. -/
import Derived.Test.YtpcapmialdmcaaaTpK
namespace Go.Proofs.Ytpcapmialdmcaaa
open Go.RowKit

section
variable {E : ByteArray → ByteArray → Option Int} {V : ByteArray → Prop} {a b c : ByteArray} {r s : Rt}
theorem Pth.cat (h : Pth E V a b r) (k : Pth E V b c s) : ∃ u, Pth E V a c u ∧ u.2 = r.2 + s.2 := by
  induction k with
  | one _ => exact ⟨r, h, by simp⟩
  | @snoc i q x l _ he hv ih =>
    obtain ⟨u, h1, h2⟩ := ih
    exact ⟨gone u x l, .snoc h1 he hv, by show u.2 + l = r.2 + (q.2 + l); omega⟩
theorem Pth.rev (N : Net_ E) (h : Pth E V a b r) : ∃ u, Pth E V b a u ∧ u.2 = r.2 := by
  induction h with
  | one hv => exact ⟨_, .one hv, rfl⟩
  | @snoc i q x l hp he hv ih =>
    obtain ⟨u, h1, h2⟩ := ih
    have h3 : Pth E V x i (gone ([x], 0) i l) := .snoc (.one hv) (by rw [N.sym]; exact he) hp.in
    obtain ⟨y, h4, h5⟩ := h3.cat h1
    exact ⟨y, h4, by rw [h5]; show (0 + l) + u.2 = q.2 + l; omega⟩
theorem lee.le (h : lee r s) : r.2 ≤ s.2 := by
  rcases Int.lt_or_le s.2 r.2 with h1 | h1
  · have h2 : btr s r = true := btr_iff.2 (.inl h1)
    unfold lee at h
    rw [h] at h2
    cases h2
  · exact h1
theorem Pth.reach (N : Net_ E) (h : Pth E V a b r) {x : ByteArray} (hx : x ∈ r.1) : ∃ p, Pth E V a x p ∧ p.2 ≤ r.2 := by
  induction h with
  | one hv =>
    obtain rfl : x = a := by simpa using hx
    exact ⟨_, .one hv, Int.le_refl _⟩
  | @snoc i q y l hp he hv ih =>
    have hl := N.bd _ _ _ he
    rcases List.mem_append.1 (show x ∈ q.1 ++ [y] from hx) with h1 | h1
    · obtain ⟨p, h2, h3⟩ := ih h1
      exact ⟨p, h2, by show p.2 ≤ q.2 + l; omega⟩
    · obtain rfl : x = y := by simpa using h1
      exact ⟨_, .snoc hp he hv, Int.le_refl _⟩
theorem Pth.nodup (N : Net_ E) (h : Pth E V a b r) (hb : ∀ r', Pth E V a b r' → lee r r') : r.1.Nodup := by
  induction h with
  | one hv => simp
  | @snoc i q y l hp he hv ih =>
    have hl := N.bd _ _ _ he
    have h1 := ih fun q' hq' => by
      cases h2 : btr q' q
      · exact h2
      · have h3 := btr_gone h2 y l
        have h4 := hb _ (.snoc hq' he hv)
        unfold lee at h4
        rw [h3] at h4
        cases h4
    show (q.1 ++ [y]).Nodup
    refine List.nodup_append.2 ⟨h1, by simp, fun x hx z hz e => ?_⟩
    obtain rfl : z = y := by simpa using hz
    subst e
    obtain ⟨p, h2, h3⟩ := hp.reach N hx
    have h4 := (hb p h2).le
    have h5 : (gone q x l).2 = q.2 + l := rfl
    rw [h5] at h4
    omega
theorem Pth.hops (h : Pth E V a b r) : ∀ i, i + 1 < r.1.length → (E (r.1.getD i ByteArray.empty) (r.1.getD (i + 1) ByteArray.empty)).isSome = true := by
  induction h with
  | one hv => intro i hi; simp at hi
  | @snoc j q y l hp he hv ih =>
    intro i hi
    have e1 : (gone q y l).1 = q.1 ++ [y] := rfl
    rw [e1, List.length_append, List.length_singleton] at hi
    rw [e1]
    by_cases h1 : i + 1 < q.1.length
    · have := ih i h1
      simp only [List.getD, List.getElem?_append_left (show i < q.1.length by omega), List.getElem?_append_left h1]
      exact this
    · obtain ⟨z, hz⟩ := hp.last
      have hzl : q.1.length = z.length + 1 := by rw [hz]; simp
      have e2 : i = z.length := by omega
      have e3 : (q.1 ++ [y]).getD i ByteArray.empty = j := by rw [hz, e2]; simp [List.getD]
      have e4 : (q.1 ++ [y]).getD (i + 1) ByteArray.empty = y := by rw [show i + 1 = q.1.length from by omega]; simp [List.getD]
      rw [e3, e4, he]
      rfl
theorem Pth.first (h : Pth E V a b r) : r.1.getD 0 ByteArray.empty = a ∧ r.1.getD (r.1.length - 1) ByteArray.empty = b ∧ 0 < r.1.length := by
  have h1 : r.1.getD 0 ByteArray.empty = a ∧ 0 < r.1.length := by
    induction h with
    | one _ => exact ⟨rfl, by simp⟩
    | @snoc j q y l hp he hv ih =>
      show (q.1 ++ [y]).getD 0 ByteArray.empty = a ∧ 0 < (q.1 ++ [y]).length
      refine ⟨?_, by simp⟩
      have := ih.1
      simp only [List.getD, List.getElem?_append_left ih.2]
      exact this
  obtain ⟨z, hz⟩ := h.last
  exact ⟨h1.1, by rw [hz]; simp [List.getD], h1.2⟩
end
section
variable {ts : List ByteArray} {L : List TL} {t : Int} {a b c : ByteArray} {code g h' : Int} {r s u : Rt}
theorem RouteR.sym (hL : LOk (· ∈ ts) L) (h : RouteR ts L t a b code r) (k : RouteR ts L t b a g s) : code = g ∧ r.2 = s.2 := by
  have N := hL.net t
  rcases h with ⟨h1, h2, h3⟩ | ⟨h1, ⟨h2, h3⟩ | ⟨h2, h3, h4⟩⟩ <;> rcases k with ⟨k1, k2, k3⟩ | ⟨k1, ⟨k2, k3⟩ | ⟨k2, k3, k4⟩⟩
  · exact ⟨h2.trans k2.symm, by rw [h3, k3]⟩
  · exact absurd k1.symm h1
  · exact absurd k1.symm h1
  · exact absurd h1.symm k1
  · refine ⟨h2.trans k2.symm, ?_⟩
    obtain ⟨x, x1, x2⟩ := h3.1.rev N
    obtain ⟨y, y1, y2⟩ := k3.1.rev N
    have := (k3.2 _ x1).le
    have := (h3.2 _ y1).le
    omega
  · obtain ⟨x, x1, _⟩ := h3.1.rev N
    exact absurd x1 (k4 _)
  · exact absurd h1.symm k1
  · obtain ⟨x, x1, _⟩ := k3.1.rev N
    exact absurd x1 (h4 _)
  · exact ⟨h2.trans k2.symm, by rw [h3, k3]⟩
theorem RouteR.cases (h : RouteR ts L t a b code r) : (code = 0 ∧ (a ∈ ts ∧ b ∈ ts) ∧ Best (lat L t) (· ∈ ts) a b r) ∨ ((code = 8 ∨ code = 3) ∧ r = ([], 0)) := by
  rcases h with ⟨h1, h2, h3⟩ | ⟨h1, ⟨h2, h3⟩ | ⟨h2, h3, h4⟩⟩
  · exact .inr ⟨.inl h2, h3⟩
  · exact .inl ⟨h2, h1, h3⟩
  · exact .inr ⟨.inr h2, h3⟩
theorem RouteR.tri (h : RouteR ts L t a b 0 r) (k : RouteR ts L t b c 0 s) (l : RouteR ts L t a c h' u) : h' = 0 ∧ u.2 ≤ r.2 + s.2 := by
  rcases h.cases with ⟨_, hv, hb⟩ | ⟨h1, _⟩
  · rcases k.cases with ⟨_, kv, kb⟩ | ⟨h1, _⟩
    · obtain ⟨x, x1, x2⟩ := hb.1.cat kb.1
      rcases l with ⟨l1, _, _⟩ | ⟨l1, ⟨l2, l3⟩ | ⟨l2, l3, l4⟩⟩
      · exact absurd ⟨hv.1, kv.2⟩ l1
      · exact ⟨l2, by rw [← x2]; exact (l3.2 _ x1).le⟩
      · exact absurd x1 (l4 _)
    · omega
  · omega
theorem RouteR.walk (hL : LOk (· ∈ ts) L) (h : RouteR ts L t a b 0 r) : r.1.Nodup ∧ (∀ i, i + 1 < r.1.length → upT L (r.1.getD i ByteArray.empty) (r.1.getD (i + 1) ByteArray.empty) t = true) ∧ r.1.getD 0 ByteArray.empty = a ∧ r.1.getD (r.1.length - 1) ByteArray.empty = b ∧ 0 < r.1.length ∧ ∀ x ∈ r.1, x ∈ ts := by
  rcases h.cases with ⟨_, hv, hb⟩ | ⟨h1, _⟩
  · have N := hL.net t
    obtain ⟨f1, f2, f3⟩ := hb.1.first
    exact ⟨hb.1.nodup N hb.2, fun i hi => by rw [← lat_up]; exact hb.1.hops i hi, f1, f2, f3, fun x hx => by
      obtain ⟨p, h2, _⟩ := hb.1.reach N hx
      exact h2.in⟩
  · omega
end
end Go.Proofs.Ytpcapmialdmcaaa

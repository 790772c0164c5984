/- A region that draws its order and whose last operation is a store into a cell that the region loads: every other operation may be taken first under a condition S on the world that need not hold behind that store. Over any program. -/
import Derived.Test.YtbpjfhfibllhgaaKit
namespace Go.Proofs.Ytbpjfhfibllhgaa
open Go.RowKit

section
variable {P : Program} {ops : Array Oper} {Q : Exit → Act → World → Prop} {md : Region.Mode} {S : World → Prop} {z : Nat}
/-- Whatever order is picked, and S holds behind each operation but number z. -/
def AnyZ (P : Program) (md : Region.Mode) (ops : Array Oper) (Q : Exit → Act → World → Prop) (S : World → Prop) (z : Nat) : Nat → Array Bool → Act → World → Prop
  | 0, listed, a, w => Region.ready md ops listed = [] ∧ Q .normal a w
  | f + 1, listed, a, w => (Region.ready md ops listed = [] → Q .normal a w) ∧ ∀ i ∈ Region.ready md ops listed, wpOp P ops Q i (fun a' w' => (i = z ∨ S w') ∧ AnyZ P md ops Q S z f (listed.setIfInBounds i true) a' w') a w
theorem AnyZ.any : ∀ (f : Nat) (listed : Array Bool) (a : Act) (w : World), AnyZ P md ops Q S z f listed a w → wpAny P md ops Q f listed a w
  | 0, _, _, _, h => h
  | f + 1, _, _, _, h => ⟨h.1, fun i hi => wpOp_mono (fun a' w' h' => AnyZ.any f _ a' w' h'.2) (h.2 i hi)⟩
/-- Number z waits for number i. -/
def waitsB (md : Region.Mode) (ops : Array Oper) (z i : Nat) : Bool := match ops[z]? with
  | some o => o.after.any fun e => Region.binds md e && e.on == i
  | none => false
theorem not_ready {i : Nat} {listed : Array Bool} (hw : waitsB md ops z i = true) (hi : i ∈ Region.ready md ops listed) : z ∉ Region.ready md ops listed := fun hz => by
  obtain ⟨h0, _⟩ := mem_ready.1 hi
  obtain ⟨_, o, ho, hall⟩ := mem_ready.1 hz
  unfold waitsB at hw
  rw [ho] at hw
  obtain ⟨e, he, hb⟩ := Array.any_eq_true'.1 hw
  simp only [Bool.and_eq_true, beq_iff_eq] at hb
  have h1 := hall e he hb.1
  rw [hb.2] at h1
  rcases Nat.lt_or_ge i listed.size with h' | h'
  · simp [h'] at h0 h1; rw [h0] at h1; cases h1
  · simp [Array.getElem?_eq_none h'] at h1
theorem AnyZ.first {i : Nat} {oi : Oper} {v : Value} (hi : ops[i]? = some oi) (hsel : ∀ (j : Nat) (o : Oper) cs b, ops[j]? = some o → o.op ≠ .select cs b) (hz : waitsB md ops z i = true) (hiz : i ≠ z)
    (hQ : ∀ c a w, Q (.panic c) (a.put oi.dst v) w → Q (.panic c) a w) :
    ∀ (f : Nat) (listed : Array Bool) (a : Act) (w : World),
      (∀ j oj, ops[j]? = some oj → j ≠ i → listed.getD j true = false → (∀ e ∈ oj.after, Region.binds md e = true → e.on ≠ i) → oi.apart ops oj = true) →
      i ∈ Region.ready md ops listed → YieldsIf P ops S oi v a → S w →
      AnyZ P md ops Q S z f (listed.setIfInBounds i true) (a.put oi.dst v) w → AnyZ P md ops Q S z (f + 1) listed a w := by
  intro f
  induction f with
  | zero =>
    intro listed a w _ hr hy hS H
    refine ⟨fun h => (by rw [h] at hr; cases hr), fun j hj => ?_⟩
    by_cases hji : j = i
    · subst hji; exact hy.wpOp hi hS ⟨.inr hS, H⟩
    · have := ready_mono hj hji
      rw [H.1] at this
      cases this
  | succ f ih =>
    intro listed a w hfree hr hy hS H
    refine ⟨fun h => (by rw [h] at hr; cases hr), fun j hj => ?_⟩
    by_cases hji : j = i
    · subst hji; exact hy.wpOp hi hS ⟨.inr hS, H⟩
    · have hjz : j ≠ z := fun e => not_ready hz hr (e ▸ hj)
      have h1 := H.2 j (ready_mono hj hji)
      obtain ⟨hjun, oj, hoj, hall⟩ := mem_ready.1 hj
      have hnot : ∀ e ∈ oj.after, Region.binds md e = true → e.on ≠ i := fun e he hb heq => by
        have h1 := hall e he hb
        have h0 := (mem_ready.1 hr).1
        rw [heq] at h1
        rcases Nat.lt_or_ge i listed.size with h' | h'
        · simp [h'] at h0 h1; rw [h0] at h1; cases h1
        · simp [Array.getElem?_eq_none h'] at h1
      have h2 := wpOp_putIf hoj (hfree j oj hoj hji hjun hnot) (fun cs b => hsel i oi cs b hi) (fun cs b => hsel j oj cs b hoj) hQ hy h1
      refine wpOp_mono (fun a' w' h3 => ?_) h2
      have hS' : S w' := h3.2.1.resolve_left hjz
      refine ⟨.inr hS', ih (listed.setIfInBounds j true) a' w' (fun k ok hk hki hun hno => ?_) (ready_mono hr (Ne.symm hji)) h3.1 hS' ?_⟩
      · refine hfree k ok hk hki ?_ hno
        by_cases hjk : j = k
        · subst hjk; exact hjun
        · rw [_root_.Go.getD_set_ne true hjk] at hun; exact hun
      · rw [Array.setIfInBounds_comm _ _ hji]
        exact h3.2.2
theorem AnyZ.take {i : Nat} {oi : Oper} {v : Value} {f : Nat} {listed : Array Bool} {a : Act} {w : World} (hi : ops[i]? = some oi)
    (hs : (Region.noSelect ops && Region.free md ops listed i && (Region.ready md ops listed).contains i && waitsB md ops z i && (i != z)) = true)
    (hQ : ∀ c a w, Q (.panic c) (a.put oi.dst v) w → Q (.panic c) a w) (hw : Region.wanted oi (yielded ops a.tmps) = true) (hS : S w) (hv : ∀ w, S w → (execOp a.eval oi).run P w = .ok (.value v) w)
    (h : AnyZ P md ops Q S z f (listed.setIfInBounds i true) (a.put oi.dst v) w) : AnyZ P md ops Q S z (f + 1) listed a w := by
  simp only [Bool.and_eq_true, bne_iff_ne] at hs
  obtain ⟨⟨⟨⟨h1, h2⟩, h3⟩, h4⟩, h5⟩ := hs
  exact AnyZ.first hi (Region.noSelect_spec h1) h4 h5 hQ f listed a w (Region.free_spec hi h2) (by simpa using h3) (.inl ⟨hw, hv⟩) hS h
/-- Number z waits for number i, over the numbers of a path that none of them is done yet. -/
def pathB (md : Region.Mode) (ops : Array Oper) (listed : Array Bool) (i : Nat) : Nat → List Nat → Bool
  | z, [] => waitsB md ops z i
  | z, p :: ps => waitsB md ops z p && (!listed.getD p true) && pathB md ops listed i p ps
theorem path_not {i : Nat} {listed : Array Bool} (hi : i ∈ Region.ready md ops listed) : ∀ (ps : List Nat) (z : Nat), pathB md ops listed i z ps = true → z ∉ Region.ready md ops listed
  | [], z, h => not_ready h hi
  | p :: ps, z, h => fun hz => by
    simp only [pathB, Bool.and_eq_true, Bool.not_eq_true'] at h
    obtain ⟨⟨hw, hp⟩, _⟩ := h
    obtain ⟨_, o, ho, hall⟩ := mem_ready.1 hz
    unfold waitsB at hw
    rw [ho] at hw
    obtain ⟨e, he, hb⟩ := Array.any_eq_true'.1 hw
    simp only [Bool.and_eq_true, beq_iff_eq] at hb
    have h1 := hall e he hb.1
    rw [hb.2] at h1
    rcases Nat.lt_or_ge p listed.size with h' | h'
    · simp [h'] at hp h1; rw [hp] at h1; cases h1
    · simp [Array.getElem?_eq_none h'] at h1
theorem path_kept {i j : Nat} {listed : Array Bool} (hi : i ∈ Region.ready md ops listed) (hj : j ∈ Region.ready md ops listed) : ∀ (ps : List Nat) (z : Nat), pathB md ops listed i z ps = true → pathB md ops (listed.setIfInBounds j true) i z ps = true
  | [], _, h => h
  | p :: ps, z, h => by
    simp only [pathB, Bool.and_eq_true, Bool.not_eq_true'] at h ⊢
    obtain ⟨⟨hw, hp⟩, hc⟩ := h
    have hne : j ≠ p := fun e => path_not hi ps p hc (e ▸ hj)
    exact ⟨⟨hw, by rw [_root_.Go.getD_set_ne true hne]; exact hp⟩, path_kept hi hj ps p hc⟩
theorem AnyZ.firstP {i : Nat} {oi : Oper} {v : Value} {ps : List Nat} (hi : ops[i]? = some oi) (hsel : ∀ (j : Nat) (o : Oper) cs b, ops[j]? = some o → o.op ≠ .select cs b)
    (hQ : ∀ c a w, Q (.panic c) (a.put oi.dst v) w → Q (.panic c) a w) :
    ∀ (f : Nat) (listed : Array Bool) (a : Act) (w : World), pathB md ops listed i z ps = true →
      (∀ j oj, ops[j]? = some oj → j ≠ i → listed.getD j true = false → (∀ e ∈ oj.after, Region.binds md e = true → e.on ≠ i) → oi.apart ops oj = true) →
      i ∈ Region.ready md ops listed → YieldsIf P ops S oi v a → S w →
      AnyZ P md ops Q S z f (listed.setIfInBounds i true) (a.put oi.dst v) w → AnyZ P md ops Q S z (f + 1) listed a w := by
  intro f
  induction f with
  | zero =>
    intro listed a w _ _ hr hy hS H
    refine ⟨fun h => (by rw [h] at hr; cases hr), fun j hj => ?_⟩
    by_cases hji : j = i
    · subst hji; exact hy.wpOp hi hS ⟨.inr hS, H⟩
    · have := ready_mono hj hji
      rw [H.1] at this
      cases this
  | succ f ih =>
    intro listed a w hz hfree hr hy hS H
    refine ⟨fun h => (by rw [h] at hr; cases hr), fun j hj => ?_⟩
    by_cases hji : j = i
    · subst hji; exact hy.wpOp hi hS ⟨.inr hS, H⟩
    · have hjz : j ≠ z := fun e => path_not hr ps z hz (e ▸ hj)
      have h1 := H.2 j (ready_mono hj hji)
      obtain ⟨hjun, oj, hoj, hall⟩ := mem_ready.1 hj
      have hnot : ∀ e ∈ oj.after, Region.binds md e = true → e.on ≠ i := fun e he hb heq => by
        have h1 := hall e he hb
        have h0 := (mem_ready.1 hr).1
        rw [heq] at h1
        rcases Nat.lt_or_ge i listed.size with h' | h'
        · simp [h'] at h0 h1; rw [h0] at h1; cases h1
        · simp [Array.getElem?_eq_none h'] at h1
      have h2 := wpOp_putIf hoj (hfree j oj hoj hji hjun hnot) (fun cs b => hsel i oi cs b hi) (fun cs b => hsel j oj cs b hoj) hQ hy h1
      refine wpOp_mono (fun a' w' h3 => ?_) h2
      have hS' : S w' := h3.2.1.resolve_left hjz
      refine ⟨.inr hS', ih (listed.setIfInBounds j true) a' w' (path_kept hr hj ps z hz) (fun k ok hk hki hun hno => ?_) (ready_mono hr (Ne.symm hji)) h3.1 hS' ?_⟩
      · refine hfree k ok hk hki ?_ hno
        by_cases hjk : j = k
        · subst hjk; exact hjun
        · rw [_root_.Go.getD_set_ne true hjk] at hun; exact hun
      · rw [Array.setIfInBounds_comm _ _ hji]
        exact h3.2.2
theorem AnyZ.takeP {i : Nat} {oi : Oper} {v : Value} {f : Nat} {listed : Array Bool} {a : Act} {w : World} (ps : List Nat) (hi : ops[i]? = some oi)
    (hs : (Region.noSelect ops && Region.free md ops listed i && (Region.ready md ops listed).contains i && pathB md ops listed i z ps) = true)
    (hQ : ∀ c a w, Q (.panic c) (a.put oi.dst v) w → Q (.panic c) a w) (hw : Region.wanted oi (yielded ops a.tmps) = true) (hS : S w) (hv : ∀ w, S w → (execOp a.eval oi).run P w = .ok (.value v) w)
    (h : AnyZ P md ops Q S z f (listed.setIfInBounds i true) (a.put oi.dst v) w) : AnyZ P md ops Q S z (f + 1) listed a w := by
  simp only [Bool.and_eq_true] at hs
  obtain ⟨⟨⟨h1, h2⟩, h3⟩, h4⟩ := hs
  exact AnyZ.firstP (ps := ps) hi (Region.noSelect_spec h1) hQ f listed a w h4 (Region.free_spec hi h2) (by simpa using h3) (.inl ⟨hw, hv⟩) hS h
/-- The one operation that may come up. -/
theorem AnyZ.one {i : Nat} {o : Oper} {f : Nat} {listed : Array Bool} {a : Act} {w : World} (ho : ops[i]? = some o) (hr : Region.ready md ops listed = [i]) (hg : o.guard = none)
    (h : ∀ K : Act → World → Prop, Hid (∀ a' w', (i = z ∨ S w') → AnyZ P md ops Q S z f (listed.setIfInBounds i true) a' w' → K a' w') → Oper.wp P o a w K Q) : AnyZ P md ops Q S z (f + 1) listed a w := by
  refine ⟨fun h0 => (by rw [hr] at h0; cases h0), fun j hj => ?_⟩
  rw [hr] at hj
  obtain rfl := List.mem_singleton.1 hj
  refine wpOp_step ho fun K hK => ?_
  rw [if_pos (by simp [Region.wanted, hg])]
  exact h K (Lib.hid fun a' w' h1 h2 => hK a' w' ⟨h1, h2⟩)
/-- One of two operations comes up. -/
theorem AnyZ.two {i j : Nat} {oi oj : Oper} {f : Nat} {listed : Array Bool} {a : Act} {w : World} (hi : ops[i]? = some oi) (hj : ops[j]? = some oj) (hr : Region.ready md ops listed = [i, j]) (hgi : oi.guard = none) (hgj : oj.guard = none)
    (h1 : ∀ K : Act → World → Prop, Hid (∀ a' w', (i = z ∨ S w') → AnyZ P md ops Q S z f (listed.setIfInBounds i true) a' w' → K a' w') → Oper.wp P oi a w K Q)
    (h2 : ∀ K : Act → World → Prop, Hid (∀ a' w', (j = z ∨ S w') → AnyZ P md ops Q S z f (listed.setIfInBounds j true) a' w' → K a' w') → Oper.wp P oj a w K Q) : AnyZ P md ops Q S z (f + 1) listed a w := by
  refine ⟨fun h0 => (by rw [hr] at h0; cases h0), fun k hk => ?_⟩
  rw [hr] at hk
  rcases List.mem_cons.1 hk with rfl | hk
  · refine wpOp_step hi fun K hK => ?_
    rw [if_pos (by simp [Region.wanted, hgi])]
    exact h1 K (Lib.hid fun a' w' h3 h4 => hK a' w' ⟨h3, h4⟩)
  · obtain rfl := List.mem_singleton.1 hk
    refine wpOp_step hj fun K hK => ?_
    rw [if_pos (by simp [Region.wanted, hgj])]
    exact h2 K (Lib.hid fun a' w' h3 h4 => hK a' w' ⟨h3, h4⟩)
theorem AnyZ.done {listed : Array Bool} {a : Act} {w : World} (hr : Region.ready md ops listed = []) (h : Q .normal a w) : ∀ f, AnyZ P md ops Q S z f listed a w
  | 0 => ⟨hr, h⟩
  | _ + 1 => ⟨fun _ => h, by rw [hr]; simp⟩
theorem AnyZ.start {id : Nat} {a : Act} {w : World} (z : Nat) (S : World → Prop) (hm : P.follows .mixedOrders = true) (h : AnyZ P .any ops Q S z ops.size (Array.replicate ops.size false) a w.drew) : (Code.region id ops true).wp P Q a w :=
  wp_region_any hm (AnyZ.any _ _ _ _ h)
end
end Go.Proofs.Ytbpjfhfibllhgaa

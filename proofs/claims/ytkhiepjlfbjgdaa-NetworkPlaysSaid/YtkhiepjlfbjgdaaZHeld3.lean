/- One of three operations comes up, in a region of which only the last store hits what it loads. Over any program. -/
import Derived.Test.YtkhiepjlfbjgdaaZHeld
namespace Go.Proofs.Ytkhiepjlfbjgdaa
open Go.RowKit
section
variable {P : Program} {ops : Array Oper} {Q : Exit → Act → World → Prop} {S : World → Prop} {z : Nat} {md : Region.Mode}
theorem AnyZ.three {i j k : Nat} {oi oj ok : Oper} {f : Nat} {listed : Array Bool} {a : Act} {w : World} (hi : ops[i]? = some oi) (hj : ops[j]? = some oj) (hk : ops[k]? = some ok) (hr : Region.ready md ops listed = [i, j, k]) (hgi : oi.guard = none) (hgj : oj.guard = none) (hgk : ok.guard = none)
    (h1 : ∀ K : Act → World → Prop, Hid (∀ a' w', (i = z ∨ S w') → AnyZ P md ops Q S z f (listed.setIfInBounds i true) a' w' → K a' w') → Oper.wp P oi a w K Q)
    (h2 : ∀ K : Act → World → Prop, Hid (∀ a' w', (j = z ∨ S w') → AnyZ P md ops Q S z f (listed.setIfInBounds j true) a' w' → K a' w') → Oper.wp P oj a w K Q)
    (h3 : ∀ K : Act → World → Prop, Hid (∀ a' w', (k = z ∨ S w') → AnyZ P md ops Q S z f (listed.setIfInBounds k true) a' w' → K a' w') → Oper.wp P ok a w K Q) : AnyZ P md ops Q S z (f + 1) listed a w := by
  refine ⟨fun h0 => (by rw [hr] at h0; cases h0), fun q hq => ?_⟩
  rw [hr] at hq
  rcases List.mem_cons.1 hq with rfl | hq
  · refine wpOp_step hi fun K hK => ?_
    rw [if_pos (by simp [Region.wanted, hgi])]
    exact h1 K (Lib.hid fun a' w' h3 h4 => hK a' w' ⟨h3, h4⟩)
  · rcases List.mem_cons.1 hq with rfl | hq
    · refine wpOp_step hj fun K hK => ?_
      rw [if_pos (by simp [Region.wanted, hgj])]
      exact h2 K (Lib.hid fun a' w' h3 h4 => hK a' w' ⟨h3, h4⟩)
    · obtain rfl := List.mem_singleton.1 hq
      refine wpOp_step hk fun K hK => ?_
      rw [if_pos (by simp [Region.wanted, hgk])]
      exact h3 K (Lib.hid fun a' w' h3 h4 => hK a' w' ⟨h3, h4⟩)
end
end Go.Proofs.Ytkhiepjlfbjgdaa

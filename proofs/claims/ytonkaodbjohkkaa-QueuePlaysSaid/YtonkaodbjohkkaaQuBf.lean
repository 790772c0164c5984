/- queue: what a map of the sizes has to do with a queue; the state between the calls of QueueBounds. -/
import Derived.Test.YtonkaodbjohkkaaQuBe
import Derived.Test.YtonkaodbjohkkaaMapL
namespace Go.Proofs.Ytonkaodbjohkkaa
open Go.RowKit

/-- The map has exactly the sizes of the entries. -/
def SzF (f : Value → Option Value) (l : List It) : Prop := ∀ x v, f x = some v ↔ ∃ k z, x = .string k ∧ v = .int .i64 z ∧ (k, z) ∈ l
section
variable {f : Value → Option Value} {l l' : List It} {k : ByteArray} {z : Int}
theorem SzF.some (h : SzF f l) {x : It} (hx : x ∈ l) : f (.string x.1) = some (.int .i64 x.2) := (h _ _).2 ⟨_, _, rfl, rfl, hx⟩
theorem SzF.none (h : SzF f l) (hk : k ∉ l.map Prod.fst) : f (.string k) = none := by
  cases hf : f (.string k) with
  | none => rfl
  | some v =>
    obtain ⟨k', z', e, _, hm⟩ := (h _ _).1 hf
    cases e
    exact absurd (List.mem_map.2 ⟨_, hm, rfl⟩) hk
theorem SzF.ok (h : SzF f l) {b : Bool} (hb : b = true ↔ k ∈ l.map Prod.fst) : (f (.string k)).isSome = b := by
  cases b
  · rw [h.none (fun hk => by have := hb.2 hk; cases this)]; rfl
  · obtain ⟨x, hx, rfl⟩ := List.mem_map.1 (hb.1 rfl)
    rw [h.some hx]; rfl
theorem SzF.same (h : SzF f l) (hl : ∀ x, x ∈ l' ↔ x ∈ l) : SzF f l' := fun x v => by
  rw [h x v]
  constructor
  · rintro ⟨k, z, a, b, c⟩; exact ⟨k, z, a, b, (hl _).2 c⟩
  · rintro ⟨k, z, a, b, c⟩; exact ⟨k, z, a, b, (hl _).1 c⟩
theorem SzF.put (h : SzF f l) (hl : ∀ x, x ∈ l' ↔ x = (k, z) ∨ (x ∈ l ∧ x.1 ≠ k)) : SzF (fput f (.string k) (.int .i64 z)) l' := fun x v => by
  by_cases e : x = .string k
  · subst e
    rw [fput_same]
    constructor
    · intro hv
      cases hv
      exact ⟨k, z, rfl, rfl, (hl _).2 (.inl rfl)⟩
    · rintro ⟨k', z', e, rfl, hm⟩
      cases e
      rcases (hl _).1 hm with hm | hm
      · cases hm; rfl
      · exact absurd rfl hm.2
  · rw [fput_other e, h x v]
    constructor
    · rintro ⟨k', z', rfl, rfl, hm⟩
      exact ⟨k', z', rfl, rfl, (hl _).2 (.inr ⟨hm, fun he => e (by rw [← he])⟩)⟩
    · rintro ⟨k', z', rfl, rfl, hm⟩
      rcases (hl _).1 hm with hm | hm
      · cases hm; exact absurd rfl e
      · exact ⟨k', z', rfl, rfl, hm.1⟩
theorem SzF.del (h : SzF f l) (hl : ∀ x, x ∈ l' ↔ x ∈ l ∧ x.1 ≠ k) : SzF (fdel f (.string k)) l' := fun x v => by
  by_cases e : x = .string k
  · subst e
    rw [fdel_same]
    constructor
    · intro hv; cases hv
    · rintro ⟨k', z', e, rfl, hm⟩
      cases e
      exact absurd rfl ((hl _).1 hm).2
  · rw [fdel_other e, h x v]
    constructor
    · rintro ⟨k', z', rfl, rfl, hm⟩
      exact ⟨k', z', rfl, rfl, (hl _).2 ⟨hm, fun he => e (by rw [← he])⟩⟩
    · rintro ⟨k', z', rfl, rfl, hm⟩
      exact ⟨k', z', rfl, rfl, ((hl _).1 hm).1⟩
theorem SzF.empty : SzF (fun _ => .none) [] := fun x v => ⟨(fun h => by cases h), (fun ⟨_, _, _, _, h⟩ => by cases h)⟩
/-- The next key goes. -/
theorem SzF.next {x : It} (h : SzF f (x :: l)) (hn : ((x :: l).map Prod.fst).Nodup) : SzF (fdel f (.string x.1)) l := h.del fun y => by
  rw [List.map_cons, List.nodup_cons] at hn
  constructor
  · exact fun hy => ⟨List.mem_cons_of_mem _ hy, fun e => hn.1 (List.mem_map.2 ⟨y, hy, e⟩)⟩
  · rintro ⟨hy, hne⟩
    rcases List.mem_cons.1 hy with rfl | hy
    · exact absurd rfl hne
    · exact hy
theorem SzF.keys (h : SzF f l) : ∀ x, (∃ v, f x = Option.some v) ↔ x ∈ l.map fun y => Value.string y.1 := fun x => by
  rw [List.mem_map]
  constructor
  · rintro ⟨v, hv⟩
    obtain ⟨k, z, rfl, _, hm⟩ := (h _ _).1 hv
    exact ⟨_, hm, rfl⟩
  · rintro ⟨y, hy, rfl⟩
    exact ⟨_, h.some hy⟩
theorem keys_nodup (h : (l.map Prod.fst).Nodup) : (l.map fun y => Value.string y.1).Nodup := by
  rw [show (l.map fun y => Value.string y.1) = (l.map Prod.fst).map Value.string by rw [List.map_map]; rfl]
  unfold List.Nodup
  rw [List.pairwise_map]
  exact List.Pairwise.imp (fun hne e => hne (by cases e; rfl)) h
end
theorem sumI_perm {a b : List It} (h : a.Perm b) : sumI a = sumI b := by
  induction h with
  | nil => rfl
  | cons x _ ih => rw [sumI_cons, sumI_cons, ih]
  | swap x y l => rw [sumI_cons, sumI_cons, sumI_cons, sumI_cons]; omega
  | trans _ _ a b => exact a.trans b
/-- What the law knows of a queue between the steps. -/
structure Bd (c : Nat) (cap : Int) (s : QS) : Prop where
  g : QGd c s
  g64 : s.g.length ≤ 64
  ov : over s = false
  cp : s.cap = cap
  un : (keysQ s).Nodup
section
variable {c : Nat} {cap : Int} {s : QS} {k : ByteArray} {z : Int}
theorem Bd.sum (h : Bd c cap s) : sumI s.r + sumI s.f ≤ cap := by
  have := of_decide_eq_false h.ov
  rw [h.cp] at this
  omega
theorem Bd.touch (h : Bd c cap s) (k : ByteArray) : Bd (c + 1) cap (TouchS s k) := by
  obtain ⟨h1, h2, h3, h4⟩ := touch_perm s k
  have hs : sumI (TouchS s k).f = sumI s.f := sumI_perm h4
  have := h.g.su
  have := h.g.ln
  refine ⟨⟨h3 ▸ h.g.c1, h3 ▸ h.g.c2, h1 ▸ h.g.r0, fun x hx => h.g.f0 x (h4.mem_iff.1 hx), by rw [h1, hs]; omega, by rw [h1, h4.length_eq]; omega, h2 ▸ h.g.gl⟩, h2 ▸ h.g64, ?_, h3.trans h.cp, touch_uniq h.un⟩
  have := h.ov
  unfold over at this ⊢
  rwa [h1, hs, h3]
theorem Bd.rem (h : Bd c cap s) (k : ByteArray) : Bd (c + 1) cap (RemS s k) := by
  have a1 := remL_sum h.g.r0 k
  have a2 := remL_sum h.g.f0 k
  have a3 := remL_len s.r k
  have a4 := remL_len s.f k
  have := h.g.su
  have := h.g.ln
  have hv := of_decide_eq_false h.ov
  have hu := rem_uniq (k := k) h.un
  unfold RemS at hu ⊢
  split
  · rename_i hr
    rw [if_pos hr] at hu
    exact ⟨⟨h.g.c1, h.g.c2, fun x hx => h.g.r0 x (remL_mem hx), h.g.f0, (show sumI (remL s.r k) + sumI s.f ≤ _ by omega), (show (remL s.r k).length + s.f.length ≤ _ by omega), h.g.gl⟩, h.g64, decide_eq_false (show ¬ s.cap < sumI (remL s.r k) + sumI s.f by omega), h.cp, hu⟩
  · rename_i hr
    rw [if_neg hr] at hu
    exact ⟨⟨h.g.c1, h.g.c2, fun x hx => h.g.r0 x (remL_mem hx), fun x hx => h.g.f0 x (remL_mem hx), (show sumI (remL s.r k) + sumI (remL s.f k) ≤ _ by omega), (show (remL s.r k).length + (remL s.f k).length ≤ _ by omega), h.g.gl⟩, h.g64, decide_eq_false (show ¬ s.cap < sumI (remL s.r k) + sumI (remL s.f k) by omega), h.cp, hu⟩
/-- What a put leaves and gives out. -/
theorem Bd.put (h : Bd c cap s) (hc : cap ≤ 64) (k : ByteArray) (hz : z ≤ 1099511627776) : ∃ ev : List It, (putS s k z).2 = ev.map Prod.fst ∧ ev.length ≤ c + 1 ∧ Bd (c + 1) cap (putS s k z).1 ∧ ((ev ++ entQ (putS s k z).1).map Prod.fst).Nodup ∧
    ∀ x, x ∈ ev ++ entQ (putS s k z).1 ↔ x = (k, max z 1) ∨ (x ∈ entQ s ∧ x.1 ≠ k) := by
  have a1 := remL_sum h.g.r0 k
  have a2 := remL_sum h.g.f0 k
  have a3 := remL_len s.r k
  have a4 := remL_len s.f k
  have a5 := remL_len s.g k
  have hs := h.sum
  have hcp := h.cp
  have hl := h.g.ln
  have hg := h.g64
  have hub := base_uniq (k := k) h.un
  have hbe := base_ent h.un k
  unfold putS
  split
  · refine ⟨[(k, max z 1)], rfl, by simp, ⟨?_, ?_, ?_, h.cp, hub.1⟩, ?_, fun x => ?_⟩
    · have g := h.g.base k
      exact ⟨g.c1, g.c2, g.r0, g.f0, g.su, Nat.le_succ_of_le g.ln, g.gl⟩
    · show (remL s.g k).length ≤ 64; omega
    · refine decide_eq_false (show ¬ s.cap < sumI (remL s.r k) + sumI (remL s.f k) by omega)
    · show (([(k, max z 1)] ++ entQ (base s k)).map Prod.fst).Nodup
      rw [List.map_append, ← keysQ_ent]
      show (k :: keysQ (base s k)).Nodup
      exact List.nodup_cons.2 ⟨hub.2, hub.1⟩
    · show x ∈ (k, max z 1) :: entQ (base s k) ↔ _
      rw [List.mem_cons, hbe]
  · rename_i hbig
    have gi : QGd (c + 1) (putIn s k (max z 1)) := h.g.putIn (by omega) k (by omega) (by omega)
    have hg' : (putIn s k (max z 1)).g.length ≤ 64 := by
      unfold putIn
      split
      · show (remL s.g k).length ≤ 64; omega
      · show (remL s.g k).length ≤ 64; omega
    obtain ⟨ev, e1, e2, e3⟩ := evict_parts (sizeQ (putIn s k (max z 1))) (out := []) gi hg'
    obtain ⟨o1, o2, o3⟩ := evict_ok (sizeQ (putIn s k (max z 1))) (out := []) gi hg' (Nat.le_refl _)
    have hpc : (putIn s k (max z 1)).cap = s.cap := by unfold putIn; split <;> rfl
    have hu := putIn_uniq (k := k) (z := max z 1) h.un
    have hle := e2.length_eq
    have hgl := gi.ln
    refine ⟨ev, by rw [e1, List.nil_append], by (rw [List.length_append] at hle; have : (entQ (putIn s k (max z 1))).length = (putIn s k (max z 1)).r.length + (putIn s k (max z 1)).f.length := List.length_append; omega), ⟨o2, o3, o1, e3.trans (hpc.trans h.cp), evict_uniq _ hu⟩, ?_, fun x => ?_⟩
    · rw [(e2.map Prod.fst).nodup_iff, ← keysQ_ent]; exact hu
    · rw [e2.mem_iff, (putIn_ent s k (max z 1)).mem_iff, List.mem_cons, hbe]
end
/-- The state between the calls: the queue, and the map of the sizes beside it. -/
structure SM (w0 : World) (b mb : Nat) (s : QS) (f : Value → Option Value) (w : World) : Prop where
  q : QIs w (fun k => w0.heap.size ≤ k ∧ k ≠ mb) b s
  m : MapF Try.prog 9 w mb f
  be : Below w0.heap.size w0 w
  lo : w0.heap.size ≤ mb
section
variable {w0 w w' : World} {b mb c : Nat} {s s' : QS} {f f' : Value → Option Value}
theorem QIs.grown {P : Nat → Prop} (h : QIs w P b s) (hg : w.grownBy w' (some mb)) (hP : ∀ k, P k → k ≠ mb) : QIs w' P b s := by
  obtain ⟨a, c, d, h, ha⟩ := h
  exact ⟨a, c, d, h.same fun k hk => hg.block k (h.lt hk) (fun e => hP k (ha k hk) (Option.some.inj e)), ha⟩
theorem SM.below (h : SM w0 b mb s f w) (hb : Below w.heap.size w w') : SM w0 b mb s f w' := ⟨h.q.belowS hb, h.m.belowS hb, h.be.trans (hb.mono h.be.size), h.lo⟩
theorem SM.up (h : SM w0 b mb s f w) (hq : QUp (fun k => w0.heap.size ≤ k ∧ k ≠ mb) b s' w w') : SM w0 b mb s' f w' := by
  have hm := h.m.lt
  have hs := h.be.size
  refine ⟨hq.is.mono fun k hk => ?_, h.m.at (hq.only.block mb hm (fun e => e.2 rfl)), h.be.trans (hq.only.below hs fun k hk => hk.1), h.lo⟩
  rcases hk with hk | hk
  · exact hk
  · exact ⟨by omega, by omega⟩
theorem SM.map (h : SM w0 b mb s f w) (hg : w.grownBy w' (some mb)) (hm : MapF Try.prog 9 w' mb f') : SM w0 b mb s f' w' :=
  ⟨h.q.grown hg fun k hk => hk.2, hm, h.be.grown hg h.be.size (fun k hk => by rw [← Option.some.inj hk]; exact h.lo), h.lo⟩
theorem strKeyed : Maps.Keyed Try.prog 9 := Maps.string_keyed Try.underlying9
theorem zeroI (w : World) : (zeroValue 3).run Try.prog w = .ok (.int .i64 0) w := by kernel_rfl
end
end Go.Proofs.Ytonkaodbjohkkaa

/- What was durable and was not erased stays: the plain law of DeviceKeeps. -/
import Derived.Test.YtbpjfhfibllhgaaDvDo
namespace Go.Proofs.Ytbpjfhfibllhgaa
open Go.RowKit
open Go.Proofs.Ytbpjfhfibllhgaa.Dv

theorem pg_some {ps : List Page} {k : Nat} (h : k < ps.findIdx (fun p => p.isNone)) : (ps.getD k none).isSome = true := by
  have hl : k < ps.length := Nat.lt_of_lt_of_le h List.findIdx_le_length
  have h2 : (ps[k]).isNone = false := List.not_of_lt_findIdx h
  rw [List.getD, List.getElem?_eq_getElem hl]
  show (ps[k]).isSome = true
  cases hp : ps[k] with
  | none => rw [hp] at h2; cases h2
  | some _ => rfl
theorem pg_le {ps : List Page} {m : Nat} (h : ∀ k, k < m → (ps.getD k none).isSome = true) : m ≤ ps.findIdx (fun p => p.isNone) := by
  refine Nat.le_of_not_lt fun hlt => ?_
  by_cases hl : ps.findIdx (fun p => p.isNone) < ps.length
  · have h1 := h _ hlt
    have h2 : (ps[ps.findIdx (fun p => p.isNone)]).isNone = true := List.findIdx_getElem (w := hl)
    rw [List.getD, List.getElem?_eq_getElem hl] at h1
    change (ps[ps.findIdx (fun p => p.isNone)]).isSome = true at h1
    cases hp : ps[ps.findIdx (fun p => p.isNone)] with
    | none => rw [hp] at h1; cases h1
    | some _ => rw [hp] at h2; cases h2
  · have he : ps.findIdx (fun p => p.isNone) = ps.length := Nat.le_antisymm List.findIdx_le_length (by omega)
    have h1 := h _ hlt
    rw [he, List.getD, List.getElem?_eq_none (Nat.le_refl _)] at h1
    cases h1
theorem mend_get : ∀ (ps : List Page) (k : Nat), (ps.getD k none).isSome = true → (mend ps).getD k none = ps.getD k none
  | [], k, h => by simp [List.getD] at h
  | p :: r, 0, h => by
    have hp : p.isSome = true := by simpa [List.getD] using h
    have hn : p.isNone = false := by cases p; cases hp; rfl
    simp [mend, List.getD, hn]
  | p :: r, k + 1, h => by
    have h' : (r.getD k none).isSome = true := by simpa [List.getD] using h
    have := mend_get r k h'
    simpa [mend, List.getD] using this
/-- The first pages of a block are those of L. -/
def Has (L b : Blk) : Prop := ∀ k, k < pgN L → b.pages.getD k none = L.pages.getD k none
theorem Has.le {L b : Blk} (h : Has L b) : pgN L ≤ pgN b := pg_le fun k hk => by rw [h k hk]; exact pg_some hk
theorem Has.set {L b : Blk} (h : Has L b) {k : Nat} (hk : pgN L ≤ k) (x : Page) (v : Int) : Has L ⟨b.pages.set k x, v⟩ := fun j hj => by
  show (b.pages.set k x).getD j none = _
  rw [getD_set_ne (by omega)]
  exact h j hj
structure Kp (L : List Blk) (er : List Bool) (s : Dev) : Prop where
  d : ∀ i, er.getD i false = false → Has (L.getD i nilB) (s.durable.getD i nilB)
  n : ∀ i, er.getD i false = false → Has (L.getD i nilB) (s.now.getD i nilB)
  p : ∀ o ∈ s.pending, er.getD o.block false = false → o.data.isSome = true ∧ pgN (L.getD o.block nilB) ≤ o.page
section
variable {L : List Blk} {er : List Bool} {s : Dev} {n p : Nat}
theorem Kp.of (h : Kp L er s) {s' : Dev} (e1 : s'.durable = s.durable) (e2 : s'.now = s.now) (e3 : s'.pending = s.pending) : Kp L er s' := ⟨by rw [e1]; exact h.d, by rw [e2]; exact h.n, by rw [e3]; exact h.p⟩
theorem Kp.pow (h : Kp L er s) : Kp L er s.pow.1 := by obtain ⟨e1, e2, e3⟩ := pow_same s; exact h.of e1 e2 e3
theorem Kp.plan (h : Kp L er s) (x : Int) : Kp L er (s.plan x) := by unfold Dev.plan; split; exact h; exact h.of rfl rfl rfl
theorem Kp.sync (h : Kp L er s) : Kp L er s.sync := ⟨h.n, h.n, fun _ ho => (by cases ho)⟩
theorem Kp.mark (h : Kp L er s) (i : Nat) : Kp L (er.set i true) s := by
  have key : ∀ j, (er.set i true).getD j false = false → er.getD j false = false := fun j hj => by
    by_cases hi : i < er.length
    · rw [getD_set hi] at hj
      by_cases e : j = i
      · rw [if_pos e] at hj; cases hj
      · rw [if_neg e] at hj; exact hj
    · rw [List.set_eq_of_length_le (by omega)] at hj; exact hj
  exact ⟨fun j hj => h.d j (key j hj), fun j hj => h.n j (key j hj), fun o ho hj => h.p o ho (key _ hj)⟩
theorem Kp.erase (h : Kp L er s) {i : Nat} (he : er.getD i false = true) : Kp L er (s.erase i) :=
  ⟨h.d, fun j hj => by
    show Has _ ((s.now.set i _).getD j nilB)
    rw [getD_set_ne (fun e => by subst e; rw [he] at hj; cases hj)]
    exact h.n j hj, fun o ho hj => by
    rcases List.mem_append.1 ho with ho | ho
    · exact h.p o ho hj
    · simp at ho; subst ho; exact absurd (he.symm.trans hj) (by decide)⟩
theorem Kp.prog (h : Kp L er s) (g : Gd n p s) {i : Nat} (hi : i < n) (l : List Int) : Kp L er (s.prog i (pgN (s.blk i)) l) :=
  ⟨h.d, fun j hj => by
    show Has _ ((s.now.set i _).getD j nilB)
    rw [getD_set (by rw [g.ln]; exact hi)]
    by_cases e : j = i
    · rw [if_pos e]; subst e; exact (h.n j hj).set (h.n j hj).le _ _
    · rw [if_neg e]; exact h.n j hj, fun o ho hj => by
    rcases List.mem_append.1 ho with ho | ho
    · exact h.p o ho hj
    · simp at ho; subst ho; exact ⟨rfl, (h.n i hj).le⟩⟩
theorem Kp.do_ (h : Kp L er s) (g : Gd n p s) (a : ActV) (h4 : a.kind % 6 ≠ 4) (h1 : a.kind % 6 = 1 → 0 ≤ a.block ∧ a.block < n → er.getD a.block.toNat false = true) : Kp L er (doS n p s a) := by
  unfold doS
  by_cases e1 : a.kind % 6 = 1
  · rw [if_pos e1]
    unfold eraseS
    by_cases hr : 0 ≤ a.block ∧ a.block < n
    · rw [if_neg (fun x => x hr)]
      by_cases hp : s.pow.2 = false
      · rw [if_pos hp]; exact h.pow
      · rw [if_neg hp]; exact h.pow.erase (h1 e1 hr)
    · rw [if_pos hr]; exact h
  · rw [if_neg e1]
    by_cases e2 : a.kind % 6 = 2
    · rw [if_pos e2]
      unfold syncS
      by_cases hp : s.pow.2 = false
      · rw [if_pos hp]; exact h.pow
      · rw [if_neg hp]; exact h.pow.sync
    · rw [if_neg e2]
      by_cases e3 : a.kind % 6 = 3
      · rw [if_pos e3]; exact h.plan _
      · rw [if_neg e3, if_neg h4]
        unfold progS
        by_cases p11 : progE n p s a.block (actPage n s a) (bl a.dn a.dX).length = 11
        · rw [if_pos p11]; exact h.pow
        · rw [if_neg p11]
          by_cases p0 : progE n p s a.block (actPage n s a) (bl a.dn a.dX).length = 0
          · rw [if_pos p0]
            unfold progE at p0
            rcases pageE_cases n p a.block (actPage n s a) with ⟨hp, _⟩ | ⟨hp, hi, hk⟩
            · rw [if_pos hp] at p0; cases p0
            · rw [if_neg (by rw [hp]; decide)] at p0
              split at p0
              · cases p0
              · split at p0
                · cases p0
                · rename_i hq
                  have hq' : (pgN (s.blk a.block.toNat) : Int) = actPage n s a := Classical.not_not.1 hq
                  have e : (actPage n s a).toNat = pgN (s.pow.1.blk a.block.toNat) := by
                    show _ = pgN (s.pow.1.now.getD _ nilB)
                    rw [(pow_same s).2.1, ← hq']; exact Int.toNat_natCast _
                  rw [e]
                  exact h.pow.prog g.pow (by omega) _
          · rw [if_neg p0]; exact h
/-- What a crash does to blocks that were not erased. -/
theorem Kp.crashN (K : Nat → Int) : ∀ (os : List Deed) (st : List Blk × List Bool) (j : Nat), (∀ o ∈ os, o.block < st.1.length) → (∀ o ∈ os, er.getD o.block false = false → o.data.isSome = true ∧ pgN (L.getD o.block nilB) ≤ o.page) →
    (∀ i, er.getD i false = false → Has (L.getD i nilB) (st.1.getD i nilB)) → ∀ i, er.getD i false = false → Has (L.getD i nilB) ((Dv.crashN K st j os).1.getD i nilB)
  | [], _, _, _, _, h => h
  | o :: os, st, j, hlt, hp, h => by
    have hb := hlt o (List.mem_cons_self ..)
    have hq := hp o (List.mem_cons_self ..)
    have key : (crash1 K st j o).1.length = st.1.length ∧ ∀ i, er.getD i false = false → Has (L.getD i nilB) ((crash1 K st j o).1.getD i nilB) := by
      have hset : ∀ x : Blk, (er.getD o.block false = false → Has (L.getD o.block nilB) x) → (st.1.set o.block x).length = st.1.length ∧ ∀ i, er.getD i false = false → Has (L.getD i nilB) ((st.1.set o.block x).getD i nilB) := fun x hx => ⟨List.length_set, fun i hi => by
        rw [getD_set hb]
        by_cases e : i = o.block
        · rw [if_pos e]; subst e; exact hx hi
        · rw [if_neg e]; exact h i hi⟩
      unfold crash1
      split
      · exact ⟨rfl, h⟩
      · split
        · rename_i hd
          split
          · exact hset _ (fun hi => by have := (hq hi).1; rw [hd] at this; cases this)
          · exact ⟨rfl, h⟩
        · split
          · exact hset _ (fun hi => (h _ hi).set (hq hi).2 _ _)
          · exact ⟨rfl, h⟩
    exact Kp.crashN K os _ (j + 1) (fun x hx => by rw [key.1]; exact hlt x (List.mem_cons_of_mem _ hx)) (fun x hx => hp x (List.mem_cons_of_mem _ hx)) key.2
theorem Kp.end_ (h : Kp L er s) (g : Gd n p s) (K : Nat → Int) {i k : Nat} (he : er.getD i false = false) (hk : k < pgN (L.getD i nilB)) : ((s.crash K).blk i).pages.getD k none = (L.getD i nilB).pages.getD k none := by
  have h2 := Kp.crashN (L := L) (er := er) K s.pending (s.durable, List.replicate s.durable.length false) 0 (fun o ho => by show o.block < s.durable.length; rw [g.ld]; exact (g.op o ho).1) h.p h.d i he k hk
  have e : (s.crash K).blk i = mendB ((Dv.crashN K (s.durable, List.replicate s.durable.length false) 0 s.pending).1.getD i nilB) := by
    show (List.map mendB _).getD i nilB = _
    rw [List.getD, List.getElem?_map]
    cases hx : (Dv.crashN K (s.durable, List.replicate s.durable.length false) 0 s.pending).1[i]? with
    | none => rw [List.getD, hx]; rfl
    | some x => rw [List.getD, hx]; rfl
  rw [e]
  show (mend _).getD k none = _
  rw [mend_get _ _ (by rw [h2]; exact pg_some hk), h2]
theorem Kp.start (n : Nat) (s : Dev) (K : Nat → Int) : Kp (s.crash K).now (List.replicate n false) (s.crash K) := ⟨fun _ _ _ _ => rfl, fun _ _ _ _ => rfl, fun _ ho => (by cases ho)⟩
theorem do_pend (a : ActV) : (doS n p s a).pending.length ≤ s.pending.length + 1 := by
  have hp : s.pow.1.pending.length = s.pending.length := by rw [(pow_same s).2.2]
  unfold doS
  split
  · unfold eraseS; split
    · omega
    · split
      · omega
      · show (s.pow.1.pending ++ _).length ≤ _; rw [List.length_append, hp]; simp
  · split
    · unfold syncS; split
      · omega
      · show 0 ≤ _; omega
    · split
      · unfold Dev.plan; split <;> simp
      · split
        · show 0 ≤ _; omega
        · unfold progS; split
          · omega
          · split
            · show (s.pow.1.pending ++ _).length ≤ _; rw [List.length_append, hp]; simp
            · omega
end
end Go.Proofs.Ytbpjfhfibllhgaa

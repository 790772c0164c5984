/- collapse: the plain law of CollapseLeaves. Conditions: each its own. -/
import Derived.Test.YtfnohilhlofimaaCoBag
namespace Go.Proofs.Ytfnohilhlofimaa
open Go.RowKit

section
variable {w0 w w' : World} {K J : Nat → Prop} {b N : Nat} {s : Tb} {r : Option Nat} {x : Int} {k : ByteArray}
/-- A block that is kept is written, or a new one laid and kept. -/
theorem CT.grownAdd (h : CT w0 K b N s w) (hg : w.grownBy w' r) (hK : ∀ g, r = some g → K g ∧ w0.heap.size ≤ g) (hJ : ∀ k, J k → K k ∨ (w.heap.size ≤ k ∧ k < w'.heap.size)) : CT w0 (fun k => K k ∨ J k) b N s w' := by
  obtain ⟨⟨a, ht, ha⟩, ho, hb, hl⟩ := h
  refine ⟨⟨a, ht.same fun j hj => hg.block j (ht.lt hj) fun e => (ha j hj).2 (hK j e.symm).1, fun j hj => ⟨(ha j hj).1, fun hKJ => ?_⟩⟩, ho, ⟨hg.os.trans hb.os, hg.tape.trans hb.tape, hg.output.trans hb.output, Nat.le_trans hb.size hg.size, fun k hk => (hg.block k (Nat.lt_of_lt_of_le hk hb.size) fun e => ?_).trans (hb.block k hk)⟩, fun k hk => ?_⟩
  · rcases hKJ with h1 | h1
    · exact (ha j hj).2 h1
    · rcases hJ j h1 with h2 | h2
      · exact (ha j hj).2 h2
      · have := ht.lt hj; omega
  · have := (hK k e.symm).2
    omega
  · rcases hk with h1 | h1
    · exact Nat.lt_of_lt_of_le (hl k h1) hg.size
    · rcases hJ k h1 with h2 | h2
      · exact Nat.lt_of_lt_of_le (hl k h2) hg.size
      · exact h2.2
theorem leave_none {ks : List ByteArray} (h : TbOk N s) (hks : ∀ k, s.L k ≠ [] ↔ k ∈ ks) (hx : x ∉ idsTo s ks ks.length) : leaveN s x = 0 ∧ leaveOk s x = false ∧ leaveE s x = 3 := by
  have hI : s.I x = none := by
    cases e : s.I x with
    | none => rfl
    | some k =>
      have hm := (h.iL x k).1 e
      refine absurd (List.mem_flatMap.2 ⟨k, ?_, hm⟩) hx
      rw [List.take_length]
      exact (hks k).1 (List.ne_nil_of_mem hm)
  unfold leaveN leaveOk leaveE
  rw [hI]
  exact ⟨rfl, rfl, rfl⟩
theorem leave_found (h : TbOk N s) (hm : x ∈ s.L k) : (RemS s x).L k = (s.L k).erase x ∧ leaveE s x = 0 ∧ leaveOk s x = (decide ((s.L k).head? = some x) && !((s.L k).erase x).isEmpty) ∧ (leaveOk s x = true → leaveN s x = ((s.L k).erase x).headD 0) := by
  have hI := (h.iL x k).2 hm
  have e0 : (RemS s x).L k = (s.L k).erase x := by
    unfold RemS
    rw [hI]
    exact upd_same
  have e1 : leaveE s x = 0 := by unfold leaveE; rw [hI]; rfl
  have e2 : leaveOk s x = if (s.L k).head? = some x then failOk s k else false := by unfold leaveOk; rw [hI]
  have e3 : leaveN s x = if (s.L k).head? = some x then failN s k else 0 := by unfold leaveN; rw [hI]
  refine ⟨e0, e1, ?_, fun ho => ?_⟩
  · rw [e2]
    by_cases hh : (s.L k).head? = some x
    · rw [if_pos hh, decide_eq_true hh]
      unfold failOk
      cases hl : s.L k with
      | nil => rw [hl] at hm; cases hm
      | cons y l =>
        rw [hl] at hh
        obtain rfl : y = x := Option.some.inj hh
        simp
    · rw [if_neg hh, decide_eq_false hh]; rfl
  · rw [e2] at ho
    by_cases hh : (s.L k).head? = some x
    · rw [e3, if_pos hh]
      unfold failN
      cases hl : s.L k with
      | nil => rw [hl] at hm; cases hm
      | cons y l =>
        rw [hl] at hh
        obtain rfl : y = x := Option.some.inj hh
        simp
    · rw [if_neg hh] at ho; cases ho
theorem erase_filter {l : List Int} (h : l.Nodup) (x : Int) : l.filter (fun y => decide (y ≠ x)) = l.erase x := by
  rw [h.erase_eq_filter]
  congr 1
  funext y
  by_cases e : y = x <;> simp [e]
theorem filter_take_ne {l : List Int} {p : Nat} (hp : p < l.length) (h : l[p] ≠ x) : (l.take (p + 1)).filter (fun y => decide (y ≠ x)) = (l.take p).filter (fun y => decide (y ≠ x)) ++ [l[p]] := by
  rw [List.take_succ_eq_append_getElem hp, List.filter_append]
  simp [h]
theorem filter_take_eq {l : List Int} {p : Nat} (hp : p < l.length) (h : l[p] = x) : (l.take (p + 1)).filter (fun y => decide (y ≠ x)) = (l.take p).filter (fun y => decide (y ≠ x)) := by
  rw [List.take_succ_eq_append_getElem hp, List.filter_append]
  simp [h]
/-- Where the id was found, up to here. -/
def Fnd (s : Tb) (x : Int) (bag : List Int) (vw va vt vl : Value) (w : World) : Prop :=
  (vw = .string ⟨#[]⟩ ∧ va = .slice none 0 0 ∧ vt = .bool false ∧ vl = .bool false ∧ x ∉ bag) ∨
    ∃ k ao cp, vw = .string k ∧ va = .slice ao (s.L k).length cp ∧ IsI w (.slice ao (s.L k).length cp) (s.L k) ∧ vt = .bool true ∧ vl = .bool (decide ((s.L k).head? = some x)) ∧ x ∈ s.L k ∧ x ∈ bag
theorem Fnd.below {bag : List Int} {vw va vt vl : Value} (h : Fnd s x bag vw va vt vl w) (hb : Below w.heap.size w w') : Fnd s x bag vw va vt vl w' := by
  rcases h with h | ⟨k, ao, cp, h1, h2, h3, h4⟩
  · exact .inl h
  · exact .inr ⟨k, ao, cp, h1, h2, h3.belowS hb, h4⟩
theorem Fnd.kept {bag : List Int} {vw va vt vl : Value} (h : Fnd s x bag vw va vt vl w) (hg : w.grownBy w' r) (hr : ∀ g, va.ownBlock = some g → r ≠ some g) : Fnd s x bag vw va vt vl w' := by
  rcases h with h | ⟨k, ao, cp, h1, h2, h3, h4⟩
  · exact .inl h
  · exact .inr ⟨k, ao, cp, h1, h2, OL.kept h3 hg (fun g hg e => hr g (by rw [h2]; exact hg) e.symm), h4⟩
theorem Fnd.miss {bag : List Int} {vw va vt vl : Value} {y : Int} (h : Fnd s x bag vw va vt vl w) (hy : y ≠ x) : Fnd s x (bag ++ [y]) vw va vt vl w := by
  rcases h with ⟨h1, h2, h3, h4, h5⟩ | ⟨k, ao, cp, h1, h2, h3, h4, h5, h6, h7⟩
  · exact .inl ⟨h1, h2, h3, h4, by simp [h5, Ne.symm hy]⟩
  · exact .inr ⟨k, ao, cp, h1, h2, h3, h4, h5, h6, by simp [h7]⟩
theorem Fnd.hit {bag : List Int} {ao : Option Addr} {cp p : Nat} {l : List Int} (hv : IsI w (.slice ao l.length cp) l) (hl : s.L k = l) (hn : l.Nodup) (hp : p < l.length) (hx : l[p] = x) :
    Fnd s x (bag ++ [x]) (.string k) (.slice ao l.length cp) (.bool true) (.bool (decide (p = 0))) w := by
  subst hl
  refine .inr ⟨k, ao, cp, rfl, rfl, hv, rfl, ?_, hx ▸ List.getElem_mem hp, by simp⟩
  congr 1
  rw [decide_eq_decide, List.head?_eq_getElem?, List.getElem?_eq_getElem (by omega), Option.some.injEq, ← hx]
  exact ⟨fun e => by subst e; rfl, fun e => ((List.getElem_inj hn).1 e).symm⟩
end
/-- append(l, x) of a list of ids. -/
theorem app1 {w : World} {v vx : Value} {l : List Int} {x : Int} (h : IsI w v l) (hx : OL w 3 1 vx 1 (ints [x])) (hl : l.length ≤ 100000) :
    ∃ ao cp w', (Builtin.append_ #[38, 38] 38 #[v, vx]).run Try.prog w = .ok (.slice ao (l.length + 1) cp) w' ∧ IsI w' (.slice ao (l.length + 1) cp) (l ++ [x]) ∧ w.grownBy w' v.ownBlock ∧ ((Value.slice ao (l.length + 1) cp).ownBlock = v.ownBlock ∨ (Value.slice ao (l.length + 1) cp).ownBlock = some w.heap.size) := by
  obtain ⟨ti, hi, iz, is, ib⟩ := info_parts infoI
  obtain ⟨vn, wm, hap, ho, hgr, hown⟩ := OL.append h (P := Try.prog) 38 38 38 ti _ 8 Try.underlying38 hi iz is ib rfl (by omega) (OL.src hx Try.underlying38 (ints_one [x])) (by unfold maxLen; omega) (by omega)
  have ho2 : IsI wm vn (l ++ [x]) := by
    show OL wm _ 1 vn (l ++ [x]).length (ints (l ++ [x]))
    rw [List.length_append]
    simpa [ints] using ho
  obtain ⟨ao, cp, rfl, _⟩ := ho2.form
  rw [List.length_append] at hap ho2 hown
  exact ⟨ao, cp, wm, hap, ho2, hgr, hown⟩
end Go.Proofs.Ytfnohilhlofimaa

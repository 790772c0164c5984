/- collapse: a set of ids as a map; the list of a key's leader and waiters; the plain law of CollapseOnce. Conditions: each its own. -/
import Derived.Test.YtfnohilhlofimaaCoEq
namespace Go.Proofs.Ytfnohilhlofimaa
open Go.RowKit

theorem IsT.ao {w : World} {ao : Option Addr} {n cp : Nat} {l : List ByteArray} (h : IsT w (.slice ao n cp) l) : 0 < n → ∃ g off, ao = some ⟨g, off, none⟩ := by
  obtain ⟨a, c', e, h2, _⟩ := h.form
  cases e
  exact h2
theorem IsI.ao {w : World} {ao : Option Addr} {n cp : Nat} {l : List Int} (h : IsI w (.slice ao n cp) l) : 0 < n → ∃ g off, ao = some ⟨g, off, none⟩ := by
  obtain ⟨a, c', e, h2, _⟩ := h.form
  cases e
  exact h2
theorem IsT.at_ {w : World} {g off n cp : Nat} {l : List ByteArray} (h : IsT w (.slice (some ⟨g, off, none⟩) n cp) l) (hn : n = l.length) {q : Nat} (hq : q < n) : w.cell? ⟨g, off + q, none⟩ = some (.string (l.getD q ByteArray.empty)) := by
  subst hn
  exact (OL.cell h q (by omega)).trans (strs_get l q hq)
open Classical in
noncomputable def setF (l : List Int) : Value → Option Value
  | .int .i64 n => if n ∈ l then some (.bool true) else none
  | _ => none
theorem zeroB (w : World) : (zeroValue 4).run Try.prog w = .ok (.bool false) w := by kernel_rfl
theorem setF_nil : setF [] = fun _ => none := funext fun v => by
  unfold setF
  split <;> simp
theorem setF_put (l : List Int) (x : Int) : fput (setF l) (.int .i64 x) (.bool true) = setF (l ++ [x]) := funext fun v => by
  by_cases e : v = .int .i64 x
  · subst e
    rw [fput_same]
    exact (if_pos (by simp)).symm
  · rw [fput_other e]
    unfold setF
    split
    · rename_i n
      have : n ≠ x := fun h => e (by rw [h])
      simp [this]
    · rfl
section
variable {w0 w w' : World} {K : Nat → Prop} {b mb N g : Nat} {s : Tb} {l ws : List Int} {x : Int}
theorem set_look (h : MapF Try.prog 3 w mb (setF l)) (hb : -9223372036854775808 ≤ x ∧ x ≤ 9223372036854775807) (hx : x ∉ l) : (Instr.lookup 70 (.map (some mb)) (.int .i64 x) false).run Try.prog w = .ok (.bool false) w := by
  have := h.look intKeyed Try.underlying70 (zeroB w) (kInt hb) false
  rw [this]
  show Result.ok ((if x ∈ l then some (Value.bool true) else none : Option Value).getD _) w = _
  rw [if_neg hx]
  rfl
theorem set_put (h : MapF Try.prog 3 w mb (setF l)) (hb : -9223372036854775808 ≤ x ∧ x ≤ 9223372036854775807) :
    ∃ w', (Instr.mapUpdate 70 (.map (some mb)) (.int .i64 x) (.bool true)).run Try.prog w = .ok () w' ∧ MapF Try.prog 3 w' mb (setF (l ++ [x])) ∧ w.grownBy w' (some mb) := by
  obtain ⟨w', h1, h2, h3⟩ := h.store intKeyed Try.underlying70 (kInt hb) (.bool true)
  exact ⟨w', h1, by rw [← setF_put]; exact h2, h3⟩
/-- A block that is kept is written. -/
theorem CT.grown (h : CT w0 K b N s w) (hg : w.grownBy w' (some g)) (hK : K g) (h0 : w0.heap.size ≤ g) : CT w0 K b N s w' := by
  obtain ⟨⟨a, ht, ha⟩, ho, hb, hl⟩ := h
  refine ⟨⟨a, ht.same fun j hj => hg.block j (ht.lt hj) fun e => (ha j hj).2 (by rw [Option.some.inj e]; exact hK), ha⟩, ho, ⟨hg.os.trans hb.os, hg.tape.trans hb.tape, hg.output.trans hb.output, Nat.le_trans hb.size hg.size, fun k hk => (hg.block k (Nat.lt_of_lt_of_le hk hb.size) fun e => ?_).trans (hb.block k hk)⟩, fun k hk => Nat.lt_of_lt_of_le (hl k hk) hg.size⟩
  have := Option.some.inj e
  omega
/-- append([]int{x}, ws...). -/
theorem lead_append {v0 vw : Value} (h0 : OL w 3 1 v0 1 (ints [x])) (hw : IsI w vw ws) (hl : ws.length ≤ 100000) :
    ∃ ao cp w', (Builtin.append_ #[38, 38] 38 #[v0, vw]).run Try.prog w = .ok (.slice ao (ws.length + 1) cp) w' ∧ IsI w' (.slice ao (ws.length + 1) cp) (x :: ws) ∧ w.grownBy w' v0.ownBlock ∧ ((Value.slice ao (ws.length + 1) cp).ownBlock = v0.ownBlock ∨ (Value.slice ao (ws.length + 1) cp).ownBlock = some w.heap.size) := by
  obtain ⟨ti, hi, iz, is, ib⟩ := info_parts infoI
  obtain ⟨vn, wm, hap, ho, hgr, hown⟩ := h0.append (P := Try.prog) 38 38 38 ti _ 8 Try.underlying38 hi iz is ib rfl (by omega) (OL.src hw Try.underlying38 (ints_one ws)) (by unfold maxLen; omega) (by omega)
  have ho2 : IsI wm vn (x :: ws) := by
    show OL wm _ 1 vn (x :: ws).length (ints (x :: ws))
    rw [List.length_cons, Nat.add_comm]
    simpa [ints] using ho
  obtain ⟨ao, cp, rfl, _⟩ := ho2.form
  exact ⟨ao, cp, wm, hap, ho2, hgr, hown⟩
end
section
variable {N : Nat} {s : Tb} {ks : List ByteArray} {q r : Nat}
/-- The ids of the first q keys. -/
def idsTo (s : Tb) (ks : List ByteArray) (q : Nat) : List Int := (ks.take q).flatMap s.L
theorem idsTo_succ (hq : q < ks.length) : idsTo s ks (q + 1) = idsTo s ks q ++ s.L ks[q] := by
  unfold idsTo
  rw [List.take_succ_eq_append_getElem hq, List.flatMap_append]
  simp
theorem once_fresh (h : TbOk N s) (hn : ks.Nodup) (hq : q < ks.length) (hr : r < (s.L ks[q]).length) : (s.L ks[q])[r] ∉ idsTo s ks q ++ (s.L ks[q]).take r := by
  intro hm
  rcases List.mem_append.1 hm with hm | hm
  · obtain ⟨k, hk, hx⟩ := List.mem_flatMap.1 hm
    have e := h.one hx (List.getElem_mem hr)
    obtain ⟨i, hi, hik⟩ := List.getElem_of_mem hk
    rw [List.length_take] at hi
    rw [List.getElem_take] at hik
    have := (List.getElem_inj (h₀ := by omega) (h₁ := hq) hn).1 (hik.trans e)
    omega
  · obtain ⟨i, hi, hix⟩ := List.getElem_of_mem hm
    rw [List.length_take] at hi
    rw [List.getElem_take] at hix
    have := (List.getElem_inj (h₀ := by omega) (h₁ := hr) (h.nd ks[q])).1 hix
    omega
end
end Go.Proofs.Ytfnohilhlofimaa

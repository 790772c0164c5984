/- The device: bytes of an argument, bounds, small facts on pages. Conditions: each its own. -/
import Derived.Test.YtbpjfhfibllhgaaDqAwake
namespace Go.Proofs.Ytbpjfhfibllhgaa
open Go.RowKit
open Go.Proofs.Ytbpjfhfibllhgaa.Dv
variable {Qp : Nat → Prop}

def bl (n : Nat) (X : Nat → Int) : List Int := (List.range n).map X
theorem bl_len (n : Nat) (X : Nat → Int) : (bl n X).length = n := by simp [bl]
theorem bl_get {n : Nat} {X : Nat → Int} {i : Nat} (d : Int) : (bl n X).getD i d = if i < n then X i else d := by
  unfold bl
  by_cases h : i < n
  · simp [List.getD, h]
  · simp [List.getD, h]
theorem IsBytes.src {w w' : World} {ao : Option Addr} {n b off c : Nat} {X : Nat → Int} (h : IsBytes w ao n b off X) (hh : 0 < n → w'.heap[b]? = w.heap[b]?) : BySrc w' (.slice ao (bl n X).length c) (bl n X) :=
  ⟨⟨ao, c, rfl⟩, fun ao' n' c' hv h0 => by
    rw [bl_len] at h0
    simp only [Value.slice.injEq] at hv
    obtain ⟨rfl, _, _⟩ := hv
    rw [h.ao h0]
    refine ⟨_, rfl, fun j x hx => ?_⟩
    have hj : j < n := by have := (List.getElem?_eq_some_iff.1 hx).1; rw [bys_len, bl_len] at this; exact this
    rw [Addr.add_lit]
    show w'.cell? ⟨b, off + j, none⟩ = some x
    rw [World.cell?_of_block (w := w) (a := ⟨b, off + j, none⟩) (hh h0), h.c j hj, ← hx]
    simp [bys, bl, hj]⟩

section
variable {w w1 w' : World} {P : Nat → Prop} {b n p : Nat} {s s' : Dev}
theorem DS.bound (h : DS Qp w P b n p s) : DS Qp w (fun k => P k ∧ k < w.heap.size) b n p s := by
  obtain ⟨vd, ds, vn, ns, vp, ps, hD, gd, hA⟩ := h
  exact ⟨vd, ds, vn, ns, vp, ps, hD, gd, fun k hk => ⟨hA k hk, hD.al_lt k hk⟩⟩
end
theorem pg_some {ps : List Page} {k : Nat} (h : k < ps.findIdx (fun p => p.isNone)) : (ps.getD k none).isSome = true := by
  have hl : k < ps.length := Nat.lt_of_lt_of_le h List.findIdx_le_length
  have h2 : (ps[k]).isNone = false := List.not_of_lt_findIdx h
  rw [List.getD, List.getElem?_eq_getElem hl]
  show (ps[k]).isSome = true
  cases hp : ps[k] with
  | none => rw [hp] at h2; cases h2
  | some _ => rfl
theorem pg_le {ps : List Page} {m : Nat} (h : ∀ k, k < m → (ps.getD k none).isSome = true) : m ≤ ps.findIdx (fun p => p.isNone) := by
  refine Nat.le_of_not_lt fun hlt => ?_
  by_cases hl : ps.findIdx (fun p => p.isNone) < ps.length
  · have h1 := h _ hlt
    have h2 : (ps[ps.findIdx (fun p => p.isNone)]).isNone = true := List.findIdx_getElem (w := hl)
    rw [List.getD, List.getElem?_eq_getElem hl] at h1
    change (ps[ps.findIdx (fun p => p.isNone)]).isSome = true at h1
    cases hp : ps[ps.findIdx (fun p => p.isNone)] with
    | none => rw [hp] at h1; cases h1
    | some _ => rw [hp] at h2; cases h2
  · have he : ps.findIdx (fun p => p.isNone) = ps.length := Nat.le_antisymm List.findIdx_le_length (by omega)
    have h1 := h _ hlt
    rw [he, List.getD, List.getElem?_eq_none (Nat.le_refl _)] at h1
    cases h1
end Go.Proofs.Ytbpjfhfibllhgaa

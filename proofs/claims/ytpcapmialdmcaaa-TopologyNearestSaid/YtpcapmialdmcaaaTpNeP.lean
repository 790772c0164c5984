/- topology: plain: the nearest town of a list. No program here. -/
import Derived.Test.YtpcapmialdmcaaaTpRo
namespace Go.Proofs.Ytpcapmialdmcaaa
open Go.RowKit Go.Maps

section
variable {ts : List ByteArray} {L : List TL} {t : Int} {a s : ByteArray} {r : Rt}
open Classical in
/-- The sum of the best route. -/
noncomputable def sumF (ts : List ByteArray) (L : List TL) (t : Int) (a s : ByteArray) : Option Int := if h : ∃ r, Best (lat L t) (· ∈ ts) a s r then some (Classical.choose h).2 else none
theorem sumF_some (h : Best (lat L t) (· ∈ ts) a s r) : sumF ts L t a s = some r.2 := by
  have he : ∃ r, Best (lat L t) (· ∈ ts) a s r := ⟨r, h⟩
  unfold sumF
  rw [dif_pos he, (Classical.choose_spec he).unique h]
theorem sumF_none (h : ∀ r, ¬ Pth (lat L t) (· ∈ ts) a s r) : sumF ts L t a s = none := by
  unfold sumF
  rw [dif_neg]
  rintro ⟨r, hr⟩
  exact h r hr.1
def nrS (D : ByteArray → Option Int) (o : Option (ByteArray × Int)) (s : ByteArray) : Option (ByteArray × Int) := match D s with
  | none => o
  | some z => match o with
    | none => some (s, z)
    | some x => if z < x.2 then some (s, z) else if z = x.2 ∧ ltS s x.1 = true then some (s, z) else o
def nrL (D : ByteArray → Option Int) (l : List ByteArray) : Option (ByteArray × Int) := l.foldl (nrS D) none
theorem nrL_succ (D : ByteArray → Option Int) {l : List ByteArray} {j : Nat} (h : j < l.length) : nrL D (l.take (j + 1)) = nrS D (nrL D (l.take j)) (l.getD j ByteArray.empty) := by
  unfold nrL
  rw [List.take_succ_eq_append_getElem h, List.foldl_append]
  have : l[j] = l.getD j ByteArray.empty := by simp [List.getD, h]
  rw [this]
  rfl
/-- The variables of the search: le0 where nothing is found. -/
def NrV (le0 : Int) (o : Option (ByteArray × Int)) (out : ByteArray) (le : Int) (fd : Bool) : Prop := (o = none ∧ out = ⟨#[]⟩ ∧ le = le0 ∧ fd = false) ∨ (o = some (out, le) ∧ fd = true ∧ 0 ≤ le ∧ le ≤ 1099511627776)
variable {le0 le z : Int} {o : Option (ByteArray × Int)} {out : ByteArray} {fd : Bool} {D : ByteArray → Option Int}
theorem NrV.skip (h : NrV le0 o out le fd) (hd : D s = none) : NrV le0 (nrS D o s) out le fd := by
  unfold nrS; rw [hd]; exact h
theorem NrV.first (h : NrV le0 o out le false) (hd : D s = some z) (hz : 0 ≤ z ∧ z ≤ 1099511627776) : NrV le0 (nrS D o s) s z true := by
  rcases h with ⟨rfl, _⟩ | ⟨_, h, _⟩
  · right; unfold nrS; rw [hd]; exact ⟨rfl, rfl, hz⟩
  · cases h
theorem NrV.less (h : NrV le0 o out le true) (hd : D s = some z) (hz : 0 ≤ z ∧ z ≤ 1099511627776) (hl : z < le ∨ (z = le ∧ ltS s out = true)) : NrV le0 (nrS D o s) s z true := by
  rcases h with ⟨_, _, _, h⟩ | ⟨rfl, _, _⟩
  · cases h
  · right
    refine ⟨?_, rfl, hz⟩
    unfold nrS
    rw [hd]
    show (if z < le then some (s, z) else if z = le ∧ ltS s out = true then some (s, z) else some (out, le)) = _
    rcases hl with h1 | h1
    · rw [if_pos h1]
    · rw [if_neg (by omega), if_pos h1]
theorem NrV.stay (h : NrV le0 o out le true) (hd : D s = some z) (h1 : ¬ z < le) (h2 : ¬ (z = le ∧ ltS s out = true)) : NrV le0 (nrS D o s) out le true := by
  rcases h with ⟨_, _, _, h⟩ | ⟨rfl, h3, h4⟩
  · cases h
  · right
    refine ⟨?_, rfl, h4⟩
    unfold nrS
    rw [hd]
    show (if z < le then some (s, z) else if z = le ∧ ltS s out = true then some (s, z) else some (out, le)) = _
    rw [if_neg h1, if_neg h2]
open Classical in
/-- What Nearest says: a town, a code. -/
noncomputable def nearE (ts : List ByteArray) (L : List TL) (t : Int) (a : ByteArray) (l : List ByteArray) : ByteArray × Int :=
  if ¬ (a ∈ ts ∧ ∀ s ∈ l, s ∈ ts) then (⟨#[]⟩, 8) else match nrL (sumF ts L t a) l with
    | none => (⟨#[]⟩, 3)
    | some x => (x.1, 0)
variable {l : List ByteArray}
theorem nearE_bad (h : ¬ (a ∈ ts ∧ ∀ s ∈ l, s ∈ ts)) : nearE ts L t a l = (⟨#[]⟩, 8) := if_pos h
theorem nearE_no (h : a ∈ ts ∧ ∀ s ∈ l, s ∈ ts) (hv : NrV le0 (nrL (sumF ts L t a) l) out le false) : nearE ts L t a l = (⟨#[]⟩, 3) := by
  unfold nearE
  rw [if_neg (Classical.not_not.2 h)]
  rcases hv with ⟨e, _⟩ | ⟨_, e, _⟩
  · rw [e]
  · cases e
theorem nearE_yes (h : a ∈ ts ∧ ∀ s ∈ l, s ∈ ts) (hv : NrV le0 (nrL (sumF ts L t a) l) out le true) : nearE ts L t a l = (out, 0) := by
  unfold nearE
  rw [if_neg (Classical.not_not.2 h)]
  rcases hv with ⟨_, _, _, e⟩ | ⟨e, _⟩
  · cases e
  · rw [e]
theorem nearE_congr {ts' : List ByteArray} (h : ∀ x, x ∈ ts ↔ x ∈ ts') : nearE ts L t a l = nearE ts' L t a l := by
  have e : (fun x => x ∈ ts) = fun x => x ∈ ts' := funext fun x => propext (h x)
  have e2 : sumF ts L t a = sumF ts' L t a := by funext s; unfold sumF; rw [e]
  have e3 : (a ∈ ts ∧ ∀ s ∈ l, s ∈ ts) ↔ (a ∈ ts' ∧ ∀ s ∈ l, s ∈ ts') := by simp only [h]
  unfold nearE
  rw [e2]
  by_cases hc : a ∈ ts ∧ ∀ s ∈ l, s ∈ ts
  · rw [if_neg (Classical.not_not.2 hc), if_neg (Classical.not_not.2 (e3.1 hc))]
  · rw [if_pos hc, if_pos (fun hx => hc (e3.2 hx))]
theorem Best.bd (hL : LOk (· ∈ ts) L) (ht : ts.length ≤ 64) (h : Best (lat L t) (· ∈ ts) a s r) : 0 ≤ r.2 ∧ r.2 ≤ 1099511627776 :=
  RouteR.bd hL ht (b := s) (c := 0) (.inr ⟨⟨h.1.from, h.1.in⟩, .inl ⟨rfl, h⟩⟩)
end
end Go.Proofs.Ytpcapmialdmcaaa

/- Plain model of the flash device: what each call makes of its state. No program here. -/
import Derived.WalkKit
namespace Go.Proofs.Ytbpjfhfibllhgaa.Dv

/-- The bytes of a page; none: not programmed. -/
abbrev Page := Option (List Int)
structure Blk where
  pages : List Page
  worn : Int
/-- A pending Program, or, without data, an Erase. -/
structure Deed where
  block : Nat
  page : Nat
  data : Page
structure Dev where
  durable : List Blk
  now : List Blk
  pending : List Deed
  off : Bool
  planned : Bool
  left : Int

def nilB : Blk := ⟨[], 0⟩
def Dev.blk (s : Dev) (i : Nat) : Blk := s.now.getD i nilB
def pgN (b : Blk) : Nat := b.pages.findIdx (fun p => p.isNone)
def fill (l : List Int) : List Int := (List.range 512).map fun i => l.getD i 255
theorem fill_len (l : List Int) : (fill l).length = 512 := by simp [fill]
theorem fill_get (l : List Int) (i : Nat) (h : i < 512) : (fill l).getD i 0 = l.getD i 255 := by simp [fill, List.getD, h]
def blank : Nat → Nat → List Blk := fun n p => List.replicate n ⟨List.replicate p none, 0⟩
def Dev.init (n p : Nat) : Dev := ⟨blank n p, blank n p, [], false, false, 0⟩
/-- The state after a call was counted; whether there is power. -/
def Dev.pow (s : Dev) : Dev × Bool :=
  let s1 := if s.planned = true ∧ s.left = 0 then { s with off := true, planned := false } else s
  if s1.off = true then (s1, false) else if s1.planned = true then ({ s1 with left := s1.left - 1 }, true) else (s1, true)
def Dev.setBlk (s : Dev) (i : Nat) (b : Blk) : Dev := { s with now := s.now.set i b }
def Dev.prog (s : Dev) (i k : Nat) (data : List Int) : Dev :=
  { s.setBlk i ⟨(s.blk i).pages.set k (some (fill data)), (s.blk i).worn⟩ with pending := s.pending ++ [⟨i, k, some (fill data)⟩] }
def wipe (b : Blk) : Blk := ⟨List.replicate b.pages.length none, Go.RowKit.wrap64 (b.worn + 1)⟩
def Dev.erase (s : Dev) (i : Nat) : Dev := { s.setBlk i (wipe (s.blk i)) with pending := s.pending ++ [⟨i, 0, none⟩] }
def Dev.sync (s : Dev) : Dev := { s with durable := s.now, pending := [] }
def Dev.plan (s : Dev) (n : Int) : Dev := if s.off = true then s else { s with planned := true, left := max n 0 }
/-- What is always so of n blocks of p pages. -/
structure Gd (n p : Nat) (s : Dev) : Prop where
  n1 : 1 ≤ n
  n2 : n ≤ 64
  p1 : 1 ≤ p
  p2 : p ≤ 32
  ln : s.now.length = n
  ld : s.durable.length = n
  pn : ∀ i, i < n → (s.now.getD i nilB).pages.length = p
  pd : ∀ i, i < n → (s.durable.getD i nilB).pages.length = p
  op : ∀ o ∈ s.pending, o.block < n ∧ o.page < p
  l0 : 0 ≤ s.left
  l1 : s.left ≤ 9223372036854775807
/-- One pending operation of a crash: the blocks, and which have stopped. -/
def crash1 (keep : Nat → Int) (st : List Blk × List Bool) (j : Nat) (o : Deed) : List Blk × List Bool :=
  if st.2.getD o.block false = true then st
  else match o.data with
    | none => if 0 < keep j then (st.1.set o.block (wipe (st.1.getD o.block nilB)), st.2) else (st.1, st.2.set o.block true)
    | some l => if 0 < keep j then (st.1.set o.block ⟨(st.1.getD o.block nilB).pages.set o.page (some (fill (l.take (min (keep j) 512).toNat))), (st.1.getD o.block nilB).worn⟩, st.2) else st
def crashN (keep : Nat → Int) : List Blk × List Bool → Nat → List Deed → List Blk × List Bool
  | st, _, [] => st
  | st, j, o :: r => crashN keep (crash1 keep st j o) (j + 1) r
/-- Pages below a programmed one are filled. -/
def mend : List Page → List Page
  | [] => []
  | p :: r => (if p.isNone = true ∧ r.any (fun x => x.isSome) = true then some (fill []) else p) :: mend r
def mendB (b : Blk) : Blk := ⟨mend b.pages, b.worn⟩
def Dev.crash (s : Dev) (keep : Nat → Int) : Dev :=
  let l := (crashN keep (s.durable, List.replicate s.durable.length false) 0 s.pending).1.map mendB
  ⟨l, l, [], false, false, 0⟩
section
variable {n p : Nat} {s : Dev}
theorem pow_cases (s : Dev) : (s.planned = true ∧ s.left = 0 ∧ s.pow = ({ s with off := true, planned := false }, false)) ∨ (¬ (s.planned = true ∧ s.left = 0) ∧ s.off = true ∧ s.pow = (s, false)) ∨
    (s.off = false ∧ s.planned = true ∧ s.left ≠ 0 ∧ s.pow = ({ s with left := s.left - 1 }, true)) ∨ (s.off = false ∧ s.planned = false ∧ s.pow = (s, true)) := by
  unfold Dev.pow
  by_cases h : s.planned = true ∧ s.left = 0
  · exact .inl ⟨h.1, h.2, by simp [h]⟩
  · by_cases ho : s.off = true
    · exact .inr (.inl ⟨h, ho, by simp [h, ho]⟩)
    · have ho' : s.off = false := Bool.not_eq_true _ ▸ ho
      by_cases hp : s.planned = true
      · have hl : s.left ≠ 0 := fun e => h ⟨hp, e⟩
        exact .inr (.inr (.inl ⟨ho', hp, hl, by simp [hl, ho', hp]⟩))
      · exact .inr (.inr (.inr ⟨ho', Bool.not_eq_true _ ▸ hp, by simp [ho', hp]⟩))
theorem pow_same (s : Dev) : s.pow.1.durable = s.durable ∧ s.pow.1.now = s.now ∧ s.pow.1.pending = s.pending := by
  rcases pow_cases s with ⟨_, _, e⟩ | ⟨_, _, e⟩ | ⟨_, _, _, e⟩ | ⟨_, _, e⟩ <;> rw [e] <;> exact ⟨rfl, rfl, rfl⟩
theorem Gd.pow (g : Gd n p s) : Gd n p s.pow.1 := by
  obtain ⟨e1, e2, e3⟩ := pow_same s
  have l0 : 0 ≤ s.pow.1.left ∧ s.pow.1.left ≤ 9223372036854775807 := by
    have h0 := g.l0
    have h1 := g.l1
    rcases pow_cases s with ⟨_, _, e⟩ | ⟨_, _, e⟩ | ⟨_, _, hl, e⟩ | ⟨_, _, e⟩ <;> rw [e]
    · exact ⟨h0, h1⟩
    · exact ⟨h0, h1⟩
    · exact ⟨show 0 ≤ s.left - 1 by omega, show s.left - 1 ≤ _ by omega⟩
    · exact ⟨h0, h1⟩
  exact { n1 := g.n1, n2 := g.n2, p1 := g.p1, p2 := g.p2, ln := by rw [e2]; exact g.ln, ld := by rw [e1]; exact g.ld, pn := by rw [e2]; exact g.pn, pd := by rw [e1]; exact g.pd, op := by rw [e3]; exact g.op, l0 := l0.1, l1 := l0.2 }
theorem getD_set_eq {α : Type} {l : List α} {i j : Nat} {x d : α} (h : i < l.length) : (l.set i x).getD j d = if j = i then x else l.getD j d := by
  by_cases e : j = i
  · subst e; rw [if_pos rfl]; simp [List.getD, h]
  · rw [if_neg e]; simp [List.getD, List.getElem?_set_ne (fun x => e x.symm)]
theorem Gd.setBlk (g : Gd n p s) {i : Nat} {b : Blk} (hi : i < n) (hb : b.pages.length = p) {o : Deed} (ho : o.block < n ∧ o.page < p) : Gd n p { s.setBlk i b with pending := s.pending ++ [o] } :=
  { n1 := g.n1, n2 := g.n2, p1 := g.p1, p2 := g.p2, ln := by show (s.now.set i b).length = n; rw [List.length_set]; exact g.ln, ld := g.ld
    pn := fun j hj => by
      show ((s.now.set i b).getD j nilB).pages.length = p
      rw [getD_set_eq (by rw [g.ln]; exact hi)]
      by_cases e : j = i
      · rw [if_pos e]; exact hb
      · rw [if_neg e]; exact g.pn j hj
    pd := g.pd
    op := fun x hx => by
      rcases List.mem_append.1 hx with hx | hx
      · exact g.op x hx
      · simp at hx; subst hx; exact ho
    l0 := g.l0, l1 := g.l1 }
theorem Gd.prog (g : Gd n p s) {i k : Nat} (hi : i < n) (hk : k < p) (data : List Int) : Gd n p (s.prog i k data) :=
  g.setBlk hi (by show ((s.blk i).pages.set k _).length = p; rw [List.length_set]; exact g.pn i hi) ⟨hi, hk⟩
theorem Gd.erase (g : Gd n p s) {i : Nat} (hi : i < n) : Gd n p (s.erase i) :=
  g.setBlk hi (by show (List.replicate _ _).length = p; rw [List.length_replicate]; exact g.pn i hi) ⟨hi, g.p1⟩
theorem Gd.sync (g : Gd n p s) : Gd n p s.sync :=
  { n1 := g.n1, n2 := g.n2, p1 := g.p1, p2 := g.p2, ln := g.ln, ld := g.ln, pn := g.pn, pd := g.pn, op := fun _ h => (by cases h), l0 := g.l0, l1 := g.l1 }
theorem Gd.plan (g : Gd n p s) {x : Int} (hx : x ≤ 9223372036854775807) : Gd n p (s.plan x) := by
  unfold Dev.plan
  split
  · exact g
  · exact { n1 := g.n1, n2 := g.n2, p1 := g.p1, p2 := g.p2, ln := g.ln, ld := g.ld, pn := g.pn, pd := g.pd, op := g.op, l0 := by show 0 ≤ max x 0; omega, l1 := by show max x 0 ≤ _; omega }
theorem Gd.init (h1 : 1 ≤ n) (h2 : n ≤ 64) (h3 : 1 ≤ p) (h4 : p ≤ 32) : Gd n p (Dev.init n p) :=
  { n1 := h1, n2 := h2, p1 := h3, p2 := h4, ln := by simp [Dev.init, blank], ld := by simp [Dev.init, blank], pn := fun i hi => by simp [Dev.init, blank, List.getD, hi], pd := fun i hi => by simp [Dev.init, blank, List.getD, hi], op := fun _ h => (by cases h), l0 := by simp [Dev.init], l1 := by simp [Dev.init] }
end
end Go.Proofs.Ytbpjfhfibllhgaa.Dv

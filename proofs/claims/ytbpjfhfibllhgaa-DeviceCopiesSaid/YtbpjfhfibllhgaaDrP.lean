/- The document's device in plain Lean, and that it says what the program's device does. No program here. -/
import Derived.Test.YtbpjfhfibllhgaaDqDo
namespace Go.Proofs.Ytbpjfhfibllhgaa
open Go.RowKit
open Go.Proofs.Ytbpjfhfibllhgaa.Dv

/-- A block of the document's: its pages, and how often it was erased. -/
abbrev RBk := List (List Int) × Int
structure RDeed where
  erase : Bool
  block : Int
  page : Int
  data : List Int
structure RDev where
  pages : Int
  durable : List RBk
  now : List RBk
  pending : List RDeed
  off : Bool
  left : Int
def nilR : RBk := ([], 0)
/-- The document's Page: n bytes of data, then 255. -/
def pageL (l : List Int) (n : Int) : List Int := (List.range 512).map fun i => if i < l.length ∧ (i : Int) < n then l.getD i 0 else 255
theorem pageL_len (l : List Int) (n : Int) : (pageL l n).length = 512 := by simp [pageL]
theorem pageL_nil : pageL [] 0 = fill [] := by simp [pageL, fill]
theorem pageL_all (l : List Int) : pageL l 512 = fill l := by
  unfold pageL fill
  apply List.map_congr_left
  intro i hi
  have hi : i < 512 := by simpa using hi
  by_cases h : i < l.length
  · rw [if_pos ⟨h, by omega⟩]; simp [List.getD, h]
  · rw [if_neg (fun x => h x.1)]; simp [List.getD, Nat.le_of_not_lt h]
theorem pageL_take (l : List Int) {k : Int} (hk : 0 < k) : pageL l (min k 512) = fill (l.take (min k 512).toNat) := by
  unfold pageL fill
  apply List.map_congr_left
  intro i hi
  have hi : i < 512 := by simpa using hi
  by_cases h : i < l.length ∧ (i : Int) < min k 512
  · rw [if_pos h]; simp [List.getD, h.1, List.getElem?_take, show i < (min k 512).toNat by omega]
  · rw [if_neg h]
    by_cases h1 : i < l.length
    · have : ¬ i < (min k 512).toNat := fun x => h ⟨h1, by omega⟩
      simp [List.getD, List.getElem?_take, this]
    · simp [List.getD, List.getElem?_take, Nat.le_of_not_lt h1]
/-- A page programmed; those below it that are missing are filled. -/
def progL (ls : List (List Int)) (k : Nat) (x : List Int) : List (List Int) := (ls ++ List.replicate (k + 1 - ls.length) (fill [])).set k x
theorem progL_nil0 (x : List Int) : progL [] 0 x = [x] := rfl
theorem progL_cons0 (a : List Int) (ls : List (List Int)) (x : List Int) : progL (a :: ls) 0 x = x :: ls := by simp [progL]
theorem progL_nilS (k : Nat) (x : List Int) : progL [] (k + 1) x = fill [] :: progL [] k x := by
  simp [progL, List.replicate_succ]
theorem progL_consS (a : List Int) (ls : List (List Int)) (k : Nat) (x : List Int) : progL (a :: ls) (k + 1) x = a :: progL ls k x := by
  simp [progL, show k + 1 + 1 - (ls.length + 1) = k + 1 - ls.length by omega]
theorem progL_len (ls : List (List Int)) (k : Nat) (x : List Int) : (progL ls k x).length = max ls.length (k + 1) := by simp [progL]; omega
theorem progL_end (ls : List (List Int)) (x : List Int) : progL ls ls.length x = ls ++ [x] := by simp [progL]
def RDev.init (n p : Nat) : RDev := ⟨p, List.replicate n nilR, List.replicate n nilR, [], false, -1⟩
def RDev.blk (r : RDev) (i : Nat) : RBk := r.now.getD i nilR
def RDev.pow (r : RDev) : RDev × Bool :=
  if r.off = true then (r, false) else if r.left = 0 then ({ r with off := true, left := -1 }, false) else if 0 < r.left then ({ r with left := r.left - 1 }, true) else (r, true)
def RDev.prog (r : RDev) (i k : Nat) (x : List Int) : RDev := { r with now := r.now.set i (progL (r.blk i).1 k x, (r.blk i).2), pending := r.pending ++ [⟨false, i, k, x⟩] }
def wipeR (b : RBk) : RBk := ([], wrap64 (b.2 + 1))
def RDev.erase (r : RDev) (i : Nat) : RDev := { r with now := r.now.set i (wipeR (r.blk i)), pending := r.pending ++ [⟨true, i, 0, []⟩] }
def RDev.sync (r : RDev) : RDev := { r with durable := r.now, pending := [] }
def RDev.fail (r : RDev) (x : Int) : RDev := if r.off = true then r else { r with left := max x 0 }
def RDev.progE (r : RDev) (i k : Int) (len : Nat) : Int :=
  if ¬ ((0 ≤ i ∧ i < r.now.length) ∧ (0 ≤ k ∧ k < r.pages)) then 1 else if 512 < len then 5 else if k ≠ ((r.blk i.toNat).1.length : Int) then 6 else if r.pow.2 = false then 11 else 0
def RDev.progS (r : RDev) (i k : Int) (l : List Int) : RDev := if r.progE i k l.length = 11 then r.pow.1 else if r.progE i k l.length = 0 then r.pow.1.prog i.toNat k.toNat (fill l) else r
def RDev.eraseE (r : RDev) (i : Int) : Int := if ¬ (0 ≤ i ∧ i < r.now.length) then 1 else if r.pow.2 = false then 11 else 0
def RDev.eraseS (r : RDev) (i : Int) : RDev := if ¬ (0 ≤ i ∧ i < r.now.length) then r else if r.pow.2 = false then r.pow.1 else r.pow.1.erase i.toNat
def RDev.syncE (r : RDev) : Int := if r.pow.2 = false then 11 else 0
def RDev.syncS (r : RDev) : RDev := if r.pow.2 = false then r.pow.1 else r.pow.1.sync
/-- One pending operation of a crash. -/
def crash1R (keep : Nat → Int) (st : List RBk × List Bool) (j : Nat) (o : RDeed) : List RBk × List Bool :=
  if st.2.getD o.block.toNat false = true then st
  else if o.erase = true then (if 0 < keep j then (st.1.set o.block.toNat (wipeR (st.1.getD o.block.toNat nilR)), st.2) else (st.1, st.2.set o.block.toNat true))
  else if 0 < keep j then (st.1.set o.block.toNat (progL (st.1.getD o.block.toNat nilR).1 o.page.toNat (pageL o.data (min (keep j) 512)), (st.1.getD o.block.toNat nilR).2), st.2) else st
def crashNR (keep : Nat → Int) : List RBk × List Bool → Nat → List RDeed → List RBk × List Bool
  | st, _, [] => st
  | st, j, o :: r => crashNR keep (crash1R keep st j o) (j + 1) r
def RDev.crash (r : RDev) (keep : Nat → Int) : RDev :=
  let l := (crashNR keep (r.durable, List.replicate r.durable.length false) 0 r.pending).1
  ⟨r.pages, l, l, [], false, -1⟩
/-- The pages of a block, as the program has them. -/
def pgs (p : Nat) (ls : List (List Int)) : List Page := ls.map some ++ List.replicate (p - ls.length) none
theorem pgs_len {p : Nat} {ls : List (List Int)} (h : ls.length ≤ p) : (pgs p ls).length = p := by simp [pgs]; omega
theorem pgs_nil (p : Nat) : pgs p [] = List.replicate p none := by simp [pgs]
theorem pgs_find {p : Nat} : ∀ {ls : List (List Int)}, ls.length ≤ p → (pgs p ls).findIdx (fun q => q.isNone) = ls.length := by
  intro ls h
  apply Nat.le_antisymm
  · by_cases hl : ls.length < p
    · refine Nat.le_of_not_lt fun hlt => ?_
      have h1 : ((pgs p ls)[ls.length]'(by rw [pgs_len h]; exact hl)).isNone = false := List.not_of_lt_findIdx hlt
      simp [pgs] at h1
    · have := List.findIdx_le_length (p := fun q : Page => q.isNone) (xs := pgs p ls)
      rw [pgs_len h] at this
      omega
  · apply pg_le
    intro k hk
    simp [pgs, List.getD, List.getElem?_append_left, hk]
theorem pgs_get {p : Nat} {ls : List (List Int)} {k : Nat} (hk : k < ls.length) : (pgs p ls).getD k none = some (ls.getD k []) := by
  simp [pgs, List.getD, List.getElem?_append_left, hk]
theorem pgs_get_none {p : Nat} {ls : List (List Int)} {k : Nat} (hk : ls.length ≤ k) : (pgs p ls).getD k none = none := by
  simp only [pgs, List.getD]
  rw [List.getElem?_append_right (by simpa using hk)]
  simp only [List.getElem?_replicate]
  split <;> rfl
theorem pgs_end {p : Nat} {ls : List (List Int)} (x : List Int) (h : ls.length < p) : (pgs p ls).set ls.length (some x) = pgs p (ls ++ [x]) := by
  unfold pgs
  rw [List.set_append_right _ _ (by simp), List.map_append, List.length_append, List.length_map, Nat.sub_self]
  rw [show p - ls.length = (p - (ls.length + [x].length)) + 1 by simp; omega, List.replicate_succ]
  simp
theorem any_pgs : ∀ (ls : List (List Int)) (m : Nat), (ls.map some ++ List.replicate m (none : Page)).any (fun x => x.isSome) = decide (0 < ls.length)
  | [], m => by simp
  | a :: ls, m => by simp
theorem mend_pgs : ∀ (ls : List (List Int)) (m : Nat), mend (ls.map some ++ List.replicate m (none : Page)) = ls.map some ++ List.replicate m none
  | [], 0 => rfl
  | [], m + 1 => by
    have h := mend_pgs [] m
    simp only [List.map_nil, List.nil_append] at h ⊢
    rw [List.replicate_succ, mend, h, if_neg (by simp)]
  | a :: ls, m => by
    have h := mend_pgs ls m
    simp only [List.map_cons, List.cons_append]
    rw [mend, h, if_neg (by simp)]
theorem mend_put (x : List Int) : ∀ (P : List Page) (k : Nat) (ls : List (List Int)), k < P.length → ls.length ≤ P.length → mend P = pgs P.length ls → mend (P.set k (some x)) = pgs P.length (progL ls k x)
  | [], k, ls, hk, _, _ => by simp at hk
  | q :: R, 0, ls, _, hl, h => by
    rw [List.set_cons_zero, mend, if_neg (by simp)]
    rw [mend] at h
    match ls, hl, h with
    | [], hl, h =>
      have h2 : mend R = List.replicate R.length none := by
        simp only [pgs, List.map_nil, List.nil_append, List.length_cons, List.length_nil, Nat.sub_zero, List.replicate_succ] at h
        exact (List.cons.inj h).2
      rw [h2, progL_nil0]
      simp [pgs]
    | a :: ls, hl, h =>
      have h2 := (List.cons.inj h).2
      rw [h2, progL_cons0]
      simp [pgs]
  | q :: R, k + 1, ls, hk, hl, h => by
    have hk' : k < R.length := by simpa using hk
    have ha : (R.set k (some x)).any (fun x => x.isSome) = true := by
      rw [List.any_eq_true]
      exact ⟨some x, List.mem_set hk' _, rfl⟩
    rw [List.set_cons_succ, mend, ha]
    rw [mend] at h
    match ls, hl, h with
    | [], hl, h =>
      have h0 : (if q.isNone = true ∧ R.any (fun x => x.isSome) = true then some (fill []) else q) = none ∧ mend R = List.replicate R.length none := by
        simp only [pgs, List.map_nil, List.nil_append, List.length_cons, List.length_nil, Nat.sub_zero, List.replicate_succ] at h
        exact List.cons.inj h
      have hq : q.isNone = true := by
        have h1 := h0.1
        split at h1
        · cases h1
        · rw [h1]; rfl
      rw [if_pos ⟨hq, rfl⟩, mend_put x R k [] hk' (Nat.zero_le _) (by rw [h0.2, pgs_nil]), progL_nilS]
      simp [pgs]
    | a :: ls, hl, h =>
      have h0 : (if q.isNone = true ∧ R.any (fun x => x.isSome) = true then some (fill []) else q) = some a ∧ mend R = pgs R.length ls := by
        have := List.cons.inj (show _ :: _ = some a :: (ls.map some ++ List.replicate (R.length + 1 - (ls.length + 1)) none) from h)
        refine ⟨this.1, this.2.trans ?_⟩
        unfold pgs
        rw [show R.length + 1 - (ls.length + 1) = R.length - ls.length by omega]
      have hq : (if q.isNone = true ∧ True then some (fill []) else q) = some a := by
        have h1 := h0.1
        split at h1
        · rename_i hc; rw [if_pos ⟨hc.1, trivial⟩]; exact h1
        · rw [h1, if_neg (by simp)]
      rw [mend_put x R k ls hk' (by simpa using hl) h0.2, progL_consS]
      have e : pgs (q :: R).length (a :: progL ls k x) = some a :: pgs R.length (progL ls k x) := by
        unfold pgs
        rw [List.map_cons, List.cons_append, List.length_cons, List.length_cons, show R.length + 1 - ((progL ls k x).length + 1) = R.length - (progL ls k x).length by omega]
      rw [e]
      congr 1
      rw [← hq]
      simp
/-- A block of both. -/
structure SimB (p : Nat) (b : Blk) (x : RBk) : Prop where
  l : x.1.length ≤ p
  g : b.pages = pgs p x.1
  w : b.worn = x.2
theorem SimB.len {p : Nat} {b : Blk} {x : RBk} (h : SimB p b x) : b.pages.length = p := by rw [h.g, pgs_len h.l]
theorem SimB.pgN {p : Nat} {b : Blk} {x : RBk} (h : SimB p b x) : Dv.pgN b = x.1.length := by unfold Dv.pgN; rw [h.g]; exact pgs_find h.l
theorem SimB.wipe {p : Nat} {b : Blk} {x : RBk} (h : SimB p b x) : SimB p (Dv.wipe b) (wipeR x) := ⟨Nat.zero_le _, by show List.replicate b.pages.length none = _; rw [h.len, wipeR, pgs_nil], by show wrap64 _ = wrap64 _; rw [h.w]⟩
def toDeed (x : RDeed) : Deed := if x.erase = true then ⟨x.block.toNat, 0, none⟩ else ⟨x.block.toNat, x.page.toNat, some x.data⟩
/-- The program's device is the document's. -/
structure SimD (n p : Nat) (s : Dev) (r : RDev) : Prop where
  pg : r.pages = p
  ln : r.now.length = n
  ld : r.durable.length = n
  nw : ∀ i, i < n → SimB p (s.now.getD i nilB) (r.now.getD i nilR)
  du : ∀ i, i < n → SimB p (s.durable.getD i nilB) (r.durable.getD i nilR)
  pd : s.pending = r.pending.map toDeed
  ok : ∀ x ∈ r.pending, (0 ≤ x.block ∧ x.block < n) ∧ (0 ≤ x.page ∧ x.page < p) ∧ (x.erase = false → x.data.length = 512)
  off : s.off = r.off
  left : r.left = if s.planned = true then s.left else -1
  inv : s.off = true → s.planned = false
section
variable {n p : Nat} {s : Dev} {r : RDev}
theorem SimD.init (n p : Nat) : SimD n p (Dev.init n p) (RDev.init n p) := by
  have key : ∀ i, i < n → SimB p ((Dv.blank n p).getD i nilB) ((List.replicate n nilR).getD i nilR) := fun i hi => by
    have e1 : (Dv.blank n p).getD i nilB = ⟨List.replicate p none, 0⟩ := by simp [Dv.blank, List.getD, hi]
    have e2 : (List.replicate n nilR).getD i nilR = nilR := by simp [List.getD, hi]
    rw [e1, e2]
    exact ⟨Nat.zero_le _, (pgs_nil p).symm, rfl⟩
  exact ⟨rfl, by simp [RDev.init], by simp [RDev.init], key, key, rfl, fun x hx => (by cases hx), rfl, rfl, fun h => (by cases h)⟩
theorem SimD.pow (h : SimD n p s r) (g : Gd n p s) : SimD n p s.pow.1 r.pow.1 ∧ s.pow.2 = r.pow.2 := by
  have hl := h.left
  have l0 := g.l0
  rcases pow_cases s with ⟨hp, h0, e⟩ | ⟨hn, ho, e⟩ | ⟨ho, hp, h0, e⟩ | ⟨ho, hp, e⟩ <;> rw [e]
  · have ho : s.off = false := by
      cases hs : s.off
      · rfl
      · rw [h.inv hs] at hp; cases hp
    have hr : r.off = false := by rw [← h.off, ho]
    have hl0 : r.left = 0 := by rw [hl, if_pos hp, h0]
    have er : r.pow = ({ r with off := true, left := -1 }, false) := by unfold RDev.pow; rw [if_neg (by rw [hr]; decide), if_pos hl0]
    rw [er]
    exact ⟨⟨h.pg, h.ln, h.ld, h.nw, h.du, h.pd, h.ok, rfl, rfl, fun _ => rfl⟩, rfl⟩
  · have hr : r.off = true := by rw [← h.off, ho]
    have er : r.pow = (r, false) := by unfold RDev.pow; rw [if_pos hr]
    rw [er]
    exact ⟨h, rfl⟩
  · have hr : r.off = false := by rw [← h.off, ho]
    have hlp : r.left = s.left := by rw [hl, if_pos hp]
    have er : r.pow = ({ r with left := r.left - 1 }, true) := by unfold RDev.pow; rw [if_neg (by rw [hr]; decide), if_neg (by omega), if_pos (by omega)]
    rw [er]
    exact ⟨⟨h.pg, h.ln, h.ld, h.nw, h.du, h.pd, h.ok, h.off, by show r.left - 1 = if s.planned = true then s.left - 1 else -1; rw [if_pos hp, hlp], h.inv⟩, rfl⟩
  · have hr : r.off = false := by rw [← h.off, ho]
    have hlp : r.left = -1 := by rw [hl, if_neg (by rw [hp]; decide)]
    have er : r.pow = (r, true) := by unfold RDev.pow; rw [if_neg (by rw [hr]; decide), if_neg (by omega), if_neg (by omega)]
    rw [er]
    exact ⟨h, rfl⟩
theorem SimD.setB (h : SimD n p s r) (g : Gd n p s) {i : Nat} (hi : i < n) {b : Blk} {x : RBk} (hb : SimB p b x) : ∀ j, j < n → SimB p ((s.now.set i b).getD j nilB) ((r.now.set i x).getD j nilR) := fun j hj => by
  rw [getD_set_eq (by rw [g.ln]; exact hi), getD_set_eq (by rw [h.ln]; exact hi)]
  by_cases e : j = i
  · rw [if_pos e, if_pos e]; exact hb
  · rw [if_neg e, if_neg e]; exact h.nw j hj
theorem SimD.prog (h : SimD n p s r) (g : Gd n p s) {i : Nat} (hi : i < n) {k : Nat} (hk : k = (r.blk i).1.length) (hkp : k < p) (l : List Int) : SimD n p (s.prog i k l) (r.prog i k (fill l)) := by
  have hb := h.nw i hi
  have hB : SimB p ⟨(s.blk i).pages.set k (some (fill l)), (s.blk i).worn⟩ (progL (r.blk i).1 k (fill l), (r.blk i).2) := by
    subst hk
    refine ⟨?_, ?_, hb.w⟩
    · show (progL _ _ _).length ≤ p
      rw [progL_len]; omega
    · show (s.blk i).pages.set _ _ = pgs p (progL _ _ _)
      rw [show (s.blk i).pages = pgs p (r.blk i).1 from hb.g, progL_end]
      exact pgs_end _ hkp
  refine ⟨h.pg, by show (r.now.set i _).length = n; rw [List.length_set]; exact h.ln, h.ld, h.setB g hi hB, h.du, ?_, ?_, h.off, h.left, h.inv⟩
  · show s.pending ++ _ = (r.pending ++ _).map toDeed
    rw [List.map_append, h.pd]
    simp [toDeed]
  · intro x hx
    rcases List.mem_append.1 hx with hx | hx
    · exact h.ok x hx
    · simp only [List.mem_singleton] at hx
      subst hx
      have hf := fill_len l
      generalize fill l = F at hf ⊢
      exact ⟨⟨Int.natCast_nonneg _, Int.ofNat_lt.2 hi⟩, ⟨Int.natCast_nonneg _, Int.ofNat_lt.2 hkp⟩, fun _ => hf⟩
theorem SimD.erase (h : SimD n p s r) (g : Gd n p s) {i : Nat} (hi : i < n) : SimD n p (s.erase i) (r.erase i) := by
  refine ⟨h.pg, by show (r.now.set i _).length = n; rw [List.length_set]; exact h.ln, h.ld, h.setB g hi (h.nw i hi).wipe, h.du, ?_, ?_, h.off, h.left, h.inv⟩
  · show s.pending ++ _ = (r.pending ++ _).map toDeed
    rw [List.map_append, h.pd]
    simp [toDeed]
  · intro x hx
    rcases List.mem_append.1 hx with hx | hx
    · exact h.ok x hx
    · simp only [List.mem_singleton] at hx
      subst hx
      have := g.p1
      exact ⟨⟨by simp, by simpa using hi⟩, ⟨by simp, by show (0 : Int) < p; omega⟩, fun e => (by cases e)⟩
theorem SimD.sync (h : SimD n p s r) : SimD n p s.sync r.sync := ⟨h.pg, h.ln, h.ln, h.nw, h.nw, rfl, fun x hx => (by cases hx), h.off, h.left, h.inv⟩
theorem SimD.fail (h : SimD n p s r) (x : Int) : SimD n p (s.plan x) (r.fail x) := by
  unfold Dev.plan RDev.fail
  by_cases ho : s.off = true
  · rw [if_pos ho, if_pos (by rw [← h.off, ho])]; exact h
  · rw [if_neg ho, if_neg (by rw [← h.off]; exact ho)]
    exact ⟨h.pg, h.ln, h.ld, h.nw, h.du, h.pd, h.ok, h.off, rfl, fun e => absurd e ho⟩
theorem SimD.progE (h : SimD n p s r) (g : Gd n p s) (i k : Int) (len : Nat) : Go.Proofs.Ytbpjfhfibllhgaa.progE n p s i k len = r.progE i k len := by
  unfold Go.Proofs.Ytbpjfhfibllhgaa.progE RDev.progE pageE
  rw [h.ln, h.pg, (h.pow g).2]
  by_cases hr : (0 ≤ i ∧ i < n) ∧ (0 ≤ k ∧ k < p)
  · rw [if_pos hr, if_neg (show ¬ ((0 : Int) = 1) by decide), if_neg (show ¬ ¬ ((0 ≤ i ∧ i < (n : Int)) ∧ (0 ≤ k ∧ k < (p : Int))) from fun x => x hr)]
    have hb : Dv.pgN (s.blk i.toNat) = (r.blk i.toNat).1.length := (h.nw i.toNat (by omega)).pgN
    rw [hb]
    by_cases h5 : 512 < len
    · rw [if_pos h5, if_pos h5]
    · rw [if_neg h5, if_neg h5]
      by_cases h6 : ((r.blk i.toNat).1.length : Int) = k
      · rw [if_neg (show ¬ (((r.blk i.toNat).1.length : Int) ≠ k) from fun e => e h6), if_neg (show ¬ (k ≠ ((r.blk i.toNat).1.length : Int)) from fun e => e h6.symm)]
      · rw [if_pos (show ((r.blk i.toNat).1.length : Int) ≠ k from h6), if_pos (show k ≠ ((r.blk i.toNat).1.length : Int) from fun e => h6 e.symm)]
  · rw [if_neg hr, if_pos rfl, if_pos hr]
theorem SimD.progS (h : SimD n p s r) (g : Gd n p s) (i k : Int) (l : List Int) : SimD n p (Go.Proofs.Ytbpjfhfibllhgaa.progS n p s i k l) (r.progS i k l) := by
  unfold Go.Proofs.Ytbpjfhfibllhgaa.progS RDev.progS
  rw [h.progE g]
  by_cases h11 : r.progE i k l.length = 11
  · rw [if_pos h11, if_pos h11]; exact (h.pow g).1
  · rw [if_neg h11, if_neg h11]
    by_cases h0 : r.progE i k l.length = 0
    · rw [if_pos h0, if_pos h0]
      have hr : (0 ≤ i ∧ i < n) ∧ (0 ≤ k ∧ k < p) ∧ k = ((r.blk i.toNat).1.length : Int) := by
        unfold RDev.progE at h0
        rw [h.ln, h.pg] at h0
        split at h0
        · cases h0
        · rename_i h1
          split at h0
          · cases h0
          · split at h0
            · cases h0
            · rename_i h3
              have h1 := Classical.not_not.1 h1
              exact ⟨h1.1, h1.2, Classical.not_not.1 h3⟩
      have hpb : r.pow.1.blk i.toNat = r.blk i.toNat := by
        unfold RDev.blk RDev.pow
        split
        · rfl
        · split
          · rfl
          · split <;> rfl
      exact (h.pow g).1.prog g.pow (by omega) (by rw [hpb]; omega) (by omega) l
    · rw [if_neg h0, if_neg h0]; exact h
theorem SimD.eraseE (h : SimD n p s r) (g : Gd n p s) (i : Int) : Go.Proofs.Ytbpjfhfibllhgaa.eraseE n s i = r.eraseE i := by
  unfold Go.Proofs.Ytbpjfhfibllhgaa.eraseE RDev.eraseE
  rw [h.ln, (h.pow g).2]
theorem SimD.eraseS (h : SimD n p s r) (g : Gd n p s) (i : Int) : SimD n p (Go.Proofs.Ytbpjfhfibllhgaa.eraseS n s i) (r.eraseS i) := by
  unfold Go.Proofs.Ytbpjfhfibllhgaa.eraseS RDev.eraseS
  rw [h.ln, (h.pow g).2]
  by_cases hi : 0 ≤ i ∧ i < n
  · rw [if_neg (show ¬ ¬ (0 ≤ i ∧ i < (n : Int)) from fun x => x hi), if_neg (show ¬ ¬ (0 ≤ i ∧ i < (n : Int)) from fun x => x hi)]
    by_cases hp : r.pow.2 = false
    · rw [if_pos hp, if_pos hp]; exact (h.pow g).1
    · rw [if_neg hp, if_neg hp]; exact (h.pow g).1.erase g.pow (by omega)
  · rw [if_pos hi, if_pos hi]; exact h
theorem SimD.syncE (h : SimD n p s r) (g : Gd n p s) : Go.Proofs.Ytbpjfhfibllhgaa.syncE s = r.syncE := by
  unfold Go.Proofs.Ytbpjfhfibllhgaa.syncE RDev.syncE
  rw [(h.pow g).2]
theorem SimD.syncS (h : SimD n p s r) (g : Gd n p s) : SimD n p (Go.Proofs.Ytbpjfhfibllhgaa.syncS s) r.syncS := by
  unfold Go.Proofs.Ytbpjfhfibllhgaa.syncS RDev.syncS
  rw [(h.pow g).2]
  by_cases hp : r.pow.2 = false
  · rw [if_pos hp, if_pos hp]; exact (h.pow g).1
  · rw [if_neg hp, if_neg hp]; exact (h.pow g).1.sync
/-- Within a crash: the blocks of both, mended. -/
structure SimC (n p : Nat) (st : List Blk × List Bool) (sr : List RBk × List Bool) : Prop where
  l1 : st.1.length = n
  l2 : sr.1.length = n
  e : st.2 = sr.2
  b : ∀ i, i < n → (sr.1.getD i nilR).1.length ≤ p ∧ (st.1.getD i nilB).pages.length = p ∧ mend (st.1.getD i nilB).pages = pgs p (sr.1.getD i nilR).1 ∧ (st.1.getD i nilB).worn = (sr.1.getD i nilR).2
theorem SimC.set {st : List Blk × List Bool} {sr : List RBk × List Bool} (h : SimC n p st sr) {i : Nat} (hi : i < n) {x : Blk} {y : RBk} (hx : y.1.length ≤ p ∧ x.pages.length = p ∧ mend x.pages = pgs p y.1 ∧ x.worn = y.2) : SimC n p (st.1.set i x, sr.2) (sr.1.set i y, sr.2) := by
  refine ⟨by rw [List.length_set]; exact h.l1, by rw [List.length_set]; exact h.l2, rfl, fun j hj => ?_⟩
  rw [getD_set_eq (by rw [h.l2]; exact hi), getD_set_eq (by rw [h.l1]; exact hi)]
  by_cases e : j = i
  · rw [if_pos e, if_pos e]; exact hx
  · rw [if_neg e, if_neg e]; exact h.b j hj
theorem SimC.step {st : List Blk × List Bool} {sr : List RBk × List Bool} (h : SimC n p st sr) (keep : Nat → Int) (j : Nat) {o : RDeed} (ho : (0 ≤ o.block ∧ o.block < n) ∧ (0 ≤ o.page ∧ o.page < p) ∧ (o.erase = false → o.data.length = 512)) :
    SimC n p (crash1 keep st j (toDeed o)) (crash1R keep sr j o) := by
  have hbk : (toDeed o).block = o.block.toNat := by unfold toDeed; split <;> rfl
  have hin : o.block.toNat < n := by omega
  obtain ⟨b1, b2, b3, b4⟩ := h.b _ hin
  unfold crash1 crash1R
  rw [hbk, h.e]
  by_cases hs : sr.2.getD o.block.toNat false = true
  · rw [if_pos hs, if_pos hs]; exact h
  · rw [if_neg hs, if_neg hs]
    by_cases he : o.erase = true
    · have hd : (toDeed o).data = none := by unfold toDeed; rw [if_pos he]
      rw [hd, if_pos he]
      dsimp only
      by_cases hk : 0 < keep j
      · rw [if_pos hk, if_pos hk]
        refine h.set hin (x := wipe (st.1.getD o.block.toNat nilB)) (y := wipeR (sr.1.getD o.block.toNat nilR)) ⟨Nat.zero_le _, ?_, ?_, ?_⟩
        · show (List.replicate _ _).length = p; rw [List.length_replicate]; exact b2
        · show mend (List.replicate _ _) = pgs p []
          rw [b2]
          have := mend_pgs [] p
          simpa [pgs] using this
        · show wrap64 _ = wrap64 _; rw [b4]
      · rw [if_neg hk, if_neg hk]
        exact ⟨h.l1, h.l2, rfl, h.b⟩
    · have hd : (toDeed o).data = some o.data ∧ (toDeed o).page = o.page.toNat := by unfold toDeed; rw [if_neg he]; exact ⟨rfl, rfl⟩
      rw [hd.1, hd.2, if_neg he]
      dsimp only
      by_cases hk : 0 < keep j
      · rw [if_pos hk, if_pos hk]
        refine h.set hin (x := ⟨(st.1.getD o.block.toNat nilB).pages.set o.page.toNat (some (fill (o.data.take (min (keep j) 512).toNat))), (st.1.getD o.block.toNat nilB).worn⟩) (y := (progL (sr.1.getD o.block.toNat nilR).1 o.page.toNat (pageL o.data (min (keep j) 512)), (sr.1.getD o.block.toNat nilR).2)) ⟨?_, ?_, ?_, b4⟩
        · show (progL _ _ _).length ≤ p; rw [progL_len]; omega
        · show (List.set _ _ _).length = p; rw [List.length_set]; exact b2
        · show mend (List.set _ _ _) = pgs p (progL _ _ _)
          rw [pageL_take _ hk]
          have := mend_put (fill (o.data.take (min (keep j) 512).toNat)) _ o.page.toNat _ (by rw [b2]; omega) (by rw [b2]; exact b1) (by rw [b2]; exact b3)
          rw [b2] at this
          exact this
      · rw [if_neg hk, if_neg hk]; exact h
theorem SimC.all (keep : Nat → Int) : ∀ (os : List RDeed) (j : Nat) (st : List Blk × List Bool) (sr : List RBk × List Bool), SimC n p st sr → (∀ o ∈ os, (0 ≤ o.block ∧ o.block < n) ∧ (0 ≤ o.page ∧ o.page < p) ∧ (o.erase = false → o.data.length = 512)) →
    SimC n p (crashN keep st j (os.map toDeed)) (crashNR keep sr j os)
  | [], _, _, _, h, _ => h
  | o :: os, j, st, sr, h, ho => SimC.all keep os (j + 1) _ _ (h.step keep j (ho o (by simp))) fun x hx => ho x (by simp [hx])
theorem SimD.crash (h : SimD n p s r) (g : Gd n p s) (keep : Nat → Int) : SimD n p (s.crash keep) (r.crash keep) := by
  have h0 : SimC n p (s.durable, List.replicate s.durable.length false) (r.durable, List.replicate r.durable.length false) := by
    refine ⟨g.ld, h.ld, by rw [g.ld, h.ld], fun i hi => ?_⟩
    have hb := h.du i hi
    refine ⟨hb.l, hb.len, ?_, hb.w⟩
    show mend (s.durable.getD i nilB).pages = pgs p (r.durable.getD i nilR).1
    rw [hb.g]
    unfold pgs
    exact mend_pgs _ _
  have h1 := SimC.all keep r.pending 0 _ _ h0 h.ok
  rw [← h.pd] at h1
  have key : ∀ i, i < n → SimB p (((crashN keep (s.durable, List.replicate s.durable.length false) 0 s.pending).1.map mendB).getD i nilB) ((crashNR keep (r.durable, List.replicate r.durable.length false) 0 r.pending).1.getD i nilR) := fun i hi => by
    obtain ⟨b1, b2, b3, b4⟩ := h1.b i hi
    have hi' : i < (crashN keep (s.durable, List.replicate s.durable.length false) 0 s.pending).1.length := by rw [h1.l1]; exact hi
    have e : ((crashN keep (s.durable, List.replicate s.durable.length false) 0 s.pending).1.map mendB).getD i nilB = mendB ((crashN keep (s.durable, List.replicate s.durable.length false) 0 s.pending).1.getD i nilB) := by simp [List.getD, hi']
    rw [e]
    exact ⟨b1, b3, b4⟩
  exact ⟨h.pg, h1.l2, h1.l2, key, key, rfl, fun x hx => (by cases hx), rfl, rfl, fun e => (by cases e)⟩
/-- What is read. -/
theorem SimD.look (h : SimD n p s r) {i k : Nat} (hi : i < n) : (k < (r.blk i).1.length → (s.blk i).pages.getD k none = some ((r.blk i).1.getD k [])) ∧ ((r.blk i).1.length ≤ k → (s.blk i).pages.getD k none = none) := by
  have hb := h.nw i hi
  have e : (s.blk i).pages = pgs p (r.blk i).1 := hb.g
  rw [e]
  exact ⟨fun hk => pgs_get hk, fun hk => pgs_get_none hk⟩
end
end Go.Proofs.Ytbpjfhfibllhgaa

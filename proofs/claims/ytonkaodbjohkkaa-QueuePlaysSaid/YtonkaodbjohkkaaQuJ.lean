/- queue: eviction in plain words, and its bounds. No program. -/
import Derived.Test.YtonkaodbjohkkaaQuI
namespace Go.Proofs.Ytonkaodbjohkkaa
open Go.RowKit

def lastI (l : List It) : It := l.getLastD dIt
theorem last_split {l : List It} (h : l ≠ []) : l = l.dropLast ++ [lastI l] := by
  unfold lastI
  rw [List.getLastD_eq_getLast?, List.getLast?_eq_some_getLast h, Option.getD_some]
  exact (List.dropLast_concat_getLast h).symm
def ghost (g : List It) (k : ByteArray) : List It := if 64 < g.length + 1 then ((k, 0) :: g).dropLast else (k, 0) :: g
theorem ghost_len {g : List It} {k : ByteArray} (h : g.length ≤ 64) : (ghost g k).length ≤ 64 := by
  unfold ghost
  split
  · simp; omega
  · simp; omega
/-- Is it the last key of Recent that is evicted? -/
def fromR (s : QS) : Bool := decide (s.cap / 4 < sumI s.r) || decide (s.f.length = 0)
def evR (s : QS) : QS := { s with r := s.r.dropLast, g := ghost s.g (lastI s.r).1 }
def evF (s : QS) : QS := { s with f := s.f.dropLast }
def over (s : QS) : Bool := decide (s.cap < sumI s.r + sumI s.f)
def evict : Nat → QS → List ByteArray → QS × List ByteArray
  | 0, s, out => (s, out)
  | n + 1, s, out => if over s = true then (if fromR s = true then evict n (evR s) (out ++ [(lastI s.r).1]) else evict n (evF s) (out ++ [(lastI s.f).1])) else (s, out)
def sizeQ (s : QS) : Nat := s.r.length + s.f.length
theorem dropLast_sum {l : List It} (h : l ≠ []) : sumI l = sumI l.dropLast + (lastI l).2 := by
  conv => lhs; rw [last_split h, sumI_append, sumI_cons, sumI_nil, Int.add_zero]
theorem dropLast_mem {l : List It} {x : It} (h : x ∈ l.dropLast) : x ∈ l := (List.dropLast_sublist l).mem h
theorem lastI_mem {l : List It} (h : l ≠ []) : lastI l ∈ l := by
  unfold lastI
  rw [List.getLastD_eq_getLast?, List.getLast?_eq_some_getLast h]
  exact List.getLast_mem h
section
variable {c : Nat} {s : QS}
/-- A queue over its capacity is not empty, and what is evicted is there. -/
theorem over_r (g : QGd c s) (ho : over s = true) (hf : fromR s = true) : s.r ≠ [] := by
  intro h
  have h1 := of_decide_eq_true ho
  have h2 := g.c1
  rw [h, sumI_nil] at h1
  unfold fromR at hf
  rw [h, sumI_nil, Bool.or_eq_true] at hf
  rcases hf with hf | hf
  · have := of_decide_eq_true hf; omega
  · have := of_decide_eq_true hf
    have h3 : s.f = [] := List.eq_nil_of_length_eq_zero this
    rw [h3, sumI_nil] at h1
    omega
theorem over_f (hf : fromR s = false) : s.f ≠ [] := by
  intro h
  unfold fromR at hf
  rw [h] at hf
  simp at hf
theorem QGd.evR (g : QGd c s) (hg : s.g.length ≤ 64) (hr : s.r ≠ []) : QGd c (evR s) ∧ (evR s).g.length ≤ 64 ∧ sizeQ s = sizeQ (evR s) + 1 := by
  have h1 := dropLast_sum hr
  have h2 := g.r0 _ (lastI_mem hr)
  have h3 := g.su
  have h4 := g.ln
  have h5 : 0 < s.r.length := List.length_pos_iff.2 hr
  have h6 : s.r.dropLast.length = s.r.length - 1 := List.length_dropLast
  refine ⟨⟨g.c1, g.c2, fun x hx => g.r0 x (dropLast_mem hx), g.f0, ?_, ?_, ?_⟩, ghost_len hg, ?_⟩
  · show sumI s.r.dropLast + sumI s.f ≤ _; omega
  · show s.r.dropLast.length + s.f.length ≤ _; omega
  · have := ghost_len (k := (lastI s.r).1) hg; show (ghost s.g _).length ≤ _; omega
  · show s.r.length + s.f.length = s.r.dropLast.length + s.f.length + 1; omega
theorem QGd.evF (g : QGd c s) (hr : s.f ≠ []) : QGd c (evF s) ∧ sizeQ s = sizeQ (evF s) + 1 := by
  have h1 := dropLast_sum hr
  have h2 := g.f0 _ (lastI_mem hr)
  have h3 := g.su
  have h4 := g.ln
  have h5 : 0 < s.f.length := List.length_pos_iff.2 hr
  have h6 : s.f.dropLast.length = s.f.length - 1 := List.length_dropLast
  refine ⟨⟨g.c1, g.c2, g.r0, fun x hx => g.f0 x (dropLast_mem hx), ?_, ?_, g.gl⟩, ?_⟩
  · show sumI s.r + sumI s.f.dropLast ≤ _; omega
  · show s.r.length + s.f.dropLast.length ≤ _; omega
  · show s.r.length + s.f.length = s.r.length + s.f.dropLast.length + 1; omega
theorem evict_stop (n : Nat) (out : List ByteArray) (h : over s = false) : evict n s out = (s, out) := by
  cases n with
  | zero => rfl
  | succ n => rw [evict, if_neg (by rw [h]; decide)]
theorem evict_r {out : List ByteArray} (g : QGd c s) (h : over s = true) (hf : fromR s = true) : evict (sizeQ s) s out = evict (sizeQ (evR s)) (evR s) (out ++ [(lastI s.r).1]) := by
  have hr := over_r g h hf
  have h5 : 0 < s.r.length := List.length_pos_iff.2 hr
  have h6 : s.r.dropLast.length = s.r.length - 1 := List.length_dropLast
  have : sizeQ s = sizeQ (Go.Proofs.Ytonkaodbjohkkaa.evR s) + 1 := by show s.r.length + s.f.length = s.r.dropLast.length + s.f.length + 1; omega
  rw [this, evict, if_pos h, if_pos hf]
theorem evict_f {out : List ByteArray} (h : over s = true) (hf : fromR s = false) : evict (sizeQ s) s out = evict (sizeQ (evF s)) (evF s) (out ++ [(lastI s.f).1]) := by
  have hr := over_f hf
  have h5 : 0 < s.f.length := List.length_pos_iff.2 hr
  have h6 : s.f.dropLast.length = s.f.length - 1 := List.length_dropLast
  have : sizeQ s = sizeQ (Go.Proofs.Ytonkaodbjohkkaa.evF s) + 1 := by show s.r.length + s.f.length = s.r.length + s.f.dropLast.length + 1; omega
  rw [this, evict, if_pos h, if_neg (by rw [hf]; decide)]
end
/-- What a Put makes ahead of the eviction. -/
def often (s : QS) (k : ByteArray) : Bool := hasL s.g k || hasL s.f k
def base (s : QS) (k : ByteArray) : QS := { s with r := remL s.r k, f := remL s.f k, g := remL s.g k }
def putIn (s : QS) (k : ByteArray) (z : Int) : QS := if often s k = true then { base s k with f := (k, z) :: remL s.f k } else { base s k with r := (k, z) :: remL s.r k }
def putS (s : QS) (k : ByteArray) (z : Int) : QS × List ByteArray := if s.cap < max z 1 then (base s k, [k]) else evict (sizeQ (putIn s k (max z 1))) (putIn s k (max z 1)) []
theorem remL_mem {l : List It} {k : ByteArray} {x : It} (h : x ∈ remL l k) : x ∈ l := by
  unfold remL at h
  cases hi : idxN l k with
  | none => rwa [hi] at h
  | some i => rw [hi] at h; exact (List.eraseIdx_sublist _ _).mem h
theorem remL_sum {l : List It} (h : ∀ x ∈ l, 0 ≤ x.2) (k : ByteArray) : sumI (remL l k) ≤ sumI l := by
  unfold remL
  cases hi : idxN l k with
  | none => exact Int.le_refl _
  | some i =>
    have hlt := idxN_lt hi
    have h1 : sumI l = sumI (l.take i) + sumI (l.drop i) := by rw [← sumI_append, List.take_append_drop]
    have h2 : l.drop i = l[i] :: l.drop (i + 1) := List.drop_eq_getElem_cons hlt
    have h3 := h l[i] (List.getElem_mem hlt)
    show sumI (l.eraseIdx i) ≤ _
    rw [List.eraseIdx_eq_take_drop_succ, sumI_append, h1, h2, sumI_cons]
    omega
theorem QGd.base {c : Nat} {s : QS} (g : QGd c s) (k : ByteArray) : QGd c (base s k) := by
  have h1 := remL_sum g.r0 k
  have h2 := remL_sum g.f0 k
  have h3 := remL_len s.r k
  have h4 := remL_len s.f k
  have h5 := remL_len s.g k
  have := g.su
  have := g.ln
  have := g.gl
  refine ⟨g.c1, g.c2, fun x hx => g.r0 x (remL_mem hx), fun x hx => g.f0 x (remL_mem hx), ?_, ?_, ?_⟩
  · show sumI (remL s.r k) + sumI (remL s.f k) ≤ _; omega
  · show (remL s.r k).length + (remL s.f k).length ≤ _; omega
  · show (remL s.g k).length ≤ _; omega
theorem QGd.putIn {c : Nat} {s : QS} (g : QGd c s) (hs : sumI s.r + sumI s.f ≤ 2199023255552) (k : ByteArray) {z : Int} (h0 : 0 ≤ z) (h1 : z ≤ 1099511627776) : QGd (c + 1) (putIn s k z) := by
  have h2 := remL_sum g.r0 k
  have h3 := remL_sum g.f0 k
  have h4 := remL_len s.r k
  have h5 := remL_len s.f k
  have h6 := remL_len s.g k
  have := g.ln
  have := g.gl
  unfold Go.Proofs.Ytonkaodbjohkkaa.putIn
  split
  · refine ⟨g.c1, g.c2, fun x hx => g.r0 x (remL_mem hx), fun x hx => ?_, ?_, ?_, ?_⟩
    · rcases List.mem_cons.1 hx with rfl | hx
      · exact h0
      · exact g.f0 x (remL_mem hx)
    · show sumI (remL s.r k) + sumI ((k, z) :: remL s.f k) ≤ _; rw [sumI_cons]; show _ + (z + _) ≤ _; omega
    · show (remL s.r k).length + ((k, z) :: remL s.f k).length ≤ _; simp only [List.length_cons]; omega
    · show (remL s.g k).length ≤ _; omega
  · refine ⟨g.c1, g.c2, fun x hx => ?_, fun x hx => g.f0 x (remL_mem hx), ?_, ?_, ?_⟩
    · rcases List.mem_cons.1 hx with rfl | hx
      · exact h0
      · exact g.r0 x (remL_mem hx)
    · show sumI ((k, z) :: remL s.r k) + sumI (remL s.f k) ≤ _; rw [sumI_cons]; show (z + _) + _ ≤ _; omega
    · show ((k, z) :: remL s.r k).length + (remL s.f k).length ≤ _; simp only [List.length_cons]; omega
    · show (remL s.g k).length ≤ _; omega
end Go.Proofs.Ytonkaodbjohkkaa

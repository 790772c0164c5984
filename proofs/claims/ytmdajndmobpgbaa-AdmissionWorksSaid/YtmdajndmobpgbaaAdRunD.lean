/- admission: the rounds of 'run' over what a Start gave. Conditions: each its own. -/
import Derived.Test.YtmdajndmobpgbaaAdRunC
namespace Go.Proofs.Ytmdajndmobpgbaa
open Go.RowKit Go.Maps
open Go.Proofs.Ytmdajndmobpgbaa.Fq
open Go.Proofs.Ytmdajndmobpgbaa.Bk

/-- So many of the ids of a Start are listed. -/
structure StAt (w0 : World) (b mb : Nat) (v vo : Value) (now : Int) (s : AS) (kn : Int → Option Bg) (out : List Bg) (o : List Int) (j : Nat) (w : World) : Prop where
  c : CA w0 (fun k => (k = mb ∨ v.ownBlock = some k) ∨ vo.ownBlock = some k) b s w
  m : MapF Try.prog 3 w mb (knF kn)
  i : IsI w v o
  g : IsG w vo (out ++ (o.take j).map (stB kn now))
  o1 : w0.heap.size ≤ mb
  o2 : ∀ g, vo.ownBlock = some g → w0.heap.size ≤ g
section
variable {w0 w w1 w2 w' : World} {b mb : Nat} {v vo vo' : Value} {X : Nat → Nat → Int} {ns n j : Nat} {slots now : Int} {s s' : AS} {kn : Int → Option Bg} {out : List Bg} {o : List Int} {a : List Nat}
theorem StAt.start (h : RunAt w0 b mb vo X ns slots now n s kn out w) (hc : CA w0 (fun k => (k = mb ∨ vo.ownBlock = some k) ∨ v.ownBlock = some k) b s' w') (hi : IsI w' v o) (hs : SameA (fun k => k = mb ∨ vo.ownBlock = some k) w w') (now' : Int) : StAt w0 b mb v vo now' s' kn out o 0 w' where
  c := hc.less fun k hk => hk.elim (fun hk => hk.elim (fun e => .inl (.inl e)) .inr) fun e => .inl (.inr e)
  m := h.m.at (hs mb (.inl rfl))
  i := hi
  g := by
    have : IsG w' vo out := h.g.heap fun g hg => hs g (.inr hg)
    rw [List.take_zero, List.map_nil, List.append_nil]
    exact this
  o1 := h.o1
  o2 := h.o2
theorem StAt.bel (h : StAt w0 b mb v vo now s kn out o j w) (hb : Below w.heap.size w w') : StAt w0 b mb v vo now s kn out o j w' :=
  { h with c := h.c.bel hb, m := h.m.belowS hb, i := h.i.belowS hb, g := h.g.belowS hb }
theorem StAt.app (h : StAt w0 b mb v vo now s kn out o j w) (hj : j < o.length) (hg : w.grownBy w' vo.ownBlock) (hG : IsG w' vo' (out ++ (o.take j).map (stB kn now) ++ [stB kn now (o.getD j 0)])) (hown : ∀ g, vo'.ownBlock = some g → vo.ownBlock = some g ∨ w.heap.size ≤ g) : StAt w0 b mb v vo' now s kn out o (j + 1) w' where
  c := h.c.app hg h.o2 hown fun g hg => OL.lt hG g hg
  m := h.m.at (hg.block mb h.m.lt fun e => by
    obtain ⟨cs, hc⟩ := OL.elem h.g mb e.symm
    exact h.m.ne hc rfl)
  i := h.i.kept hg fun g hv e => by
    obtain ⟨cs, hc⟩ := OL.elem h.i g hv
    obtain ⟨cs', hc'⟩ := OL.elem h.g g e.symm
    exact type_ne hc hc' (by decide) rfl
  g := by
    have e : o.take (j + 1) = o.take j ++ [o.getD j 0] := by
      rw [List.take_succ_eq_append_getElem hj]
      simp [List.getD, hj]
    rw [e, List.map_append, ← List.append_assoc]
    exact hG
  o1 := h.o1
  o2 := fun g hg => (hown g hg).elim (h.o2 g) fun h1 => Nat.le_trans h.c.be.size h1
theorem StAt.done (h : StAt w0 b mb v vo now s' kn out o o.length w') (hr : RI s' now n kn (out ++ o.map (stB kn now))) (hsh : s'.sh = shOf X ns) (hsl : s'.slots = slots) (hl : out.length + o.length ≤ 256 * n) (ht : now ≤ 65535 * (n : Int)) :
    RunAt w0 b mb vo X ns slots now n s' kn (out ++ o.map (stB kn now)) w' where
  c := h.c.less fun k hk => hk.elim (fun e => .inl (.inl e)) .inr
  m := h.m
  g := by have := h.g; rwa [List.take_length] at this
  o1 := h.o1
  o2 := h.o2
  r := hr
  sh := hsh
  sl := hsl
  l := by rw [List.length_append, List.length_map]; exact hl
  t := ht
/-- A Submit that is taken is written down. -/
theorem RunAt.sub (h : RunAt w0 b mb vo X ns slots now n s kn out w) {n' : Nat} {now' : Int} {t id c : Int} (ok : AOk s) (he : subE s t id c = 0) (hr : RI s now' n kn out) (hn : n' = n + 1) (ht : now' ≤ 65535 * (n' : Int)) (hc : CA w0 (fun k => k = mb ∨ vo.ownBlock = some k) b (subS s t id c) w1) (hs : SameA (fun k => k = mb ∨ vo.ownBlock = some k) w w1)
    (hg : w1.grownBy w2 (some mb)) (hm : MapF Try.prog 3 w2 mb (fput (knF kn) (.int .i64 id) (bgV ⟨t, min c (s.shr t.toNat).b, 0, n⟩))) :
    RunAt w0 b mb vo X ns slots now' n' (subS s t id c) (fun x => if x = id then some ⟨t, min c (s.shr t.toNat).b, 0, n⟩ else kn x) out w2 where
  c := hc.grown hg fun g e => ⟨.inl (Option.some.inj e).symm, by rw [← Option.some.inj e]; exact h.o1⟩
  m := by rw [← knF_put]; exact hm
  g := (h.g.heap fun g hg => hs g (.inr hg)).kept hg fun g hv e => by
    have hm1 := h.m.at (hs mb (.inl rfl))
    obtain ⟨cs, hc'⟩ := OL.elem (h.g.heap fun g hg => hs g (.inr hg)) g hv
    obtain rfl := Option.some.inj e
    exact hm1.ne hc' rfl
  o1 := h.o1
  o2 := h.o2
  r := by subst hn; exact hr.sub ok he
  sh := (subS_sh s t id c).1.trans h.sh
  sl := (subS_sh s t id c).2.1.trans h.sl
  l := by have := h.l; omega
  t := ht
/-- A Submit that is refused changes nothing. -/
theorem RI.subNo (h : RI s now n kn out) {t id c : Int} (he : subE s t id c ≠ 0) : RI (subS s t id c) now n kn out := by
  unfold subS; rw [if_neg he]; exact h
/-- What 'run' gives. -/
structure GoodB (X : Nat → Nat → Int) (ns : Nat) (out : List Bg) : Prop where
  ob : ∀ b ∈ out, (∃ t : Nat, b.t = t ∧ t < ns) ∧ 1 ≤ b.p ∧ b.p ≤ 1048576 ∧ 0 ≤ b.at_ ∧ b.at_ ≤ 65535 * 500 ∧ 0 ≤ b.pl ∧ b.pl < 500
  sh : out ≠ [] → ∀ t, t < ns → (1 ≤ X t 0 ∧ X t 0 ≤ 1048576) ∧ (0 ≤ X t 1 ∧ X t 1 ≤ 1048576) ∧ (1 ≤ X t 2 ∧ X t 2 ≤ 1048576)
  oo : out.Pairwise fun b b' => b.t = b'.t → b.pl < b'.pl
  win : ∀ t, t < ns → WinB t (X t 0) (X t 1) (X t 2) out
  ln : out.length ≤ 128000
theorem GoodB.nil : GoodB X ns [] := ⟨fun b hb => (by cases hb), fun h => absurd rfl h, List.Pairwise.nil, fun t ht i k hik hk => by simp at hk, by simp⟩
theorem RunAt.good (h : RunAt w0 b mb vo X ns slots now n s kn out w) (hn : n ≤ 500) (ha : adOk (shOf X ns) slots) : GoodB X ns out := by
  have em : s.m = ns := by unfold AS.m; rw [h.sh]; exact shOf_len X ns
  have es : ∀ t, t < ns → s.shr t = shX X t := fun t ht => by
    have : s.shr t = shD (shOf X ns) t := by unfold AS.shr shD; rw [h.sh]
    rw [this]; exact shOf_get ht
  have ht := h.t
  refine ⟨fun b hb => ?_, fun _ t ht => ?_, h.r.oo, fun t ht => ?_, by have := h.l; omega⟩
  · obtain ⟨⟨t, q0, q1⟩, q2, q3, q4, q5, q6, q7⟩ := h.r.ob b hb
    exact ⟨⟨t, q0, em ▸ q1⟩, q2, q3, q4, by omega, q6, by omega⟩
  · have := ha.2.1 (shX X t) (List.mem_map_of_mem (List.mem_range.2 ht))
    exact this
  · have := h.r.win t (by rw [em]; exact ht)
    rw [es t ht] at this
    exact this
end
end Go.Proofs.Ytmdajndmobpgbaa

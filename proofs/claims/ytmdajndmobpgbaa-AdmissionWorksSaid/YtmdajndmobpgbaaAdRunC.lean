/- admission: what 'run' holds between its calls: the list of what started, the map of what is known. Conditions: each its own. -/
import Derived.Test.YtmdajndmobpgbaaAdRunP
import Derived.Test.YtmdajndmobpgbaaAdRunB
import Derived.Test.YtmdajndmobpgbaaMap
namespace Go.Proofs.Ytmdajndmobpgbaa
open Go.RowKit Go.Maps
open Go.Proofs.Ytmdajndmobpgbaa.Fq
open Go.Proofs.Ytmdajndmobpgbaa.Bk

def bgV (b : Bg) : Value := .agg #[.int .i64 b.t, .int .i64 b.p, .int .i64 b.at_, .int .i64 b.pl]
def bgCells : List Bg → List Value
  | [] => []
  | s :: r => .int .i64 s.t :: .int .i64 s.p :: .int .i64 s.at_ :: .int .i64 s.pl :: bgCells r
theorem bgCells_len : ∀ l : List Bg, (bgCells l).length = l.length * 4
  | [] => rfl
  | s :: r => by simp [bgCells, bgCells_len r]; omega
theorem bgCells_get : ∀ (l : List Bg) (i : Nat), i < l.length → (bgCells l)[i * 4]? = some (.int .i64 (bgAt l i).t) ∧ (bgCells l)[i * 4 + 1]? = some (.int .i64 (bgAt l i).p) ∧ (bgCells l)[i * 4 + 2]? = some (.int .i64 (bgAt l i).at_) ∧ (bgCells l)[i * 4 + 3]? = some (.int .i64 (bgAt l i).pl)
  | s :: r, 0, _ => by simp [bgCells, bgAt]
  | s :: r, i + 1, h => by
    have := bgCells_get r i (by simpa using h)
    have e : bgAt (s :: r) (i + 1) = bgAt r i := by simp [bgAt]
    rw [e]
    simp only [bgCells, Nat.add_mul, List.getElem?_cons_succ]
    exact ⟨by simpa using this.1, by simpa using this.2.1, by simpa using this.2.2.1, by simpa using this.2.2.2⟩
theorem bgCells_one (l : List Bg) : ∀ u ∈ bgCells l, u.oneCell' = true := by
  induction l with
  | nil => simp [bgCells]
  | cons x r ih => simp only [bgCells, List.mem_cons]; rintro u (rfl | rfl | rfl | rfl | h); rfl; rfl; rfl; rfl; exact ih u h
theorem bgCells_append (l : List Bg) (x : Bg) : bgCells (l ++ [x]) = bgCells l ++ bgCells [x] := by
  induction l with
  | nil => rfl
  | cons a r ih => simp [bgCells, ih]
def IsG (w : World) (v : Value) (l : List Bg) : Prop := OL w 76 4 v l.length (bgCells l)
theorem infoG : (Try.prog.info? 76).map (fun i => (i.zero, i.size, i.bytes)) = some (some (.agg #[.int .i64 0, .int .i64 0, .int .i64 0, .int .i64 0]), 4, 32) := by kernel_rfl
theorem zeroG (w : World) : (zeroValue 76).run Try.prog w = .ok (bgV bg0) w := by kernel_rfl
section
variable {w w' : World} {v : Value} {l : List Bg}
theorem IsG.form (h : IsG w v l) : ∃ ao cap, v = .slice ao l.length cap ∧ (0 < l.length → ∃ g off, ao = some ⟨g, off, none⟩) ∧ l.length ≤ cap ∧ cap ≤ 9223372036854775807 := by
  rcases OL.forms h with ⟨e, e0⟩ | ⟨g, off, cp, e, h1, h2, _⟩
  · exact ⟨none, 0, by rw [e, e0], fun h => by omega, by omega, by omega⟩
  · exact ⟨_, cp, e, fun _ => ⟨g, off, rfl⟩, h1, h2⟩
theorem IsG.belowS (h : IsG w v l) (hb : Below w.heap.size w w') : IsG w' v l := OL.below h hb fun g hg => OL.lt h g hg
theorem IsG.at_ {g off n cp : Nat} (h : IsG w (.slice (some ⟨g, off, none⟩) n cp) l) {q : Nat} (hq : q < l.length) (hn : n = l.length) : w.cell? ⟨g, off + q * 4, none⟩ = some (.int .i64 (bgAt l q).t) ∧ w.cell? ⟨g, off + q * 4 + 1, none⟩ = some (.int .i64 (bgAt l q).p) ∧ w.cell? ⟨g, off + q * 4 + 2, none⟩ = some (.int .i64 (bgAt l q).at_) ∧ w.cell? ⟨g, off + q * 4 + 3, none⟩ = some (.int .i64 (bgAt l q).pl) := by
  subst hn
  have hc := bgCells_get l q hq
  exact ⟨(OL.cell h (q * 4) (by omega)).trans hc.1, (OL.cell h (q * 4 + 1) (by omega)).trans hc.2.1, (OL.cell h (q * 4 + 2) (by omega)).trans hc.2.2.1, (OL.cell h (q * 4 + 3) (by omega)).trans hc.2.2.2⟩
theorem bg_append (h : IsG w v l) (hl : l.length ≤ 1000000) (x : Bg) :
    ∃ ao cap w', (Builtin.append_ #[72, 72] 72 #[v, .slice (some ⟨w.heap.size, 0, none⟩) 1 1]).run Try.prog (w.alloc (.cells #[.int .i64 x.t, .int .i64 x.p, .int .i64 x.at_, .int .i64 x.pl] 76)) = .ok (.slice ao (l.length + 1) cap) w' ∧ IsG w' (.slice ao (l.length + 1) cap) (l ++ [x]) ∧ w.grownBy w' v.ownBlock ∧
      (∀ g, (Value.slice ao (l.length + 1) cap).ownBlock = some g → v.ownBlock = some g ∨ w.heap.size ≤ g) := by
  obtain ⟨ao, cap, w', h1, h2, h3, h4⟩ := one_append h 72 _ 32 Try.underlying72 infoG rfl (by omega) (bgCells [x]) rfl (bgCells_one _) hl (by omega)
  refine ⟨ao, cap, w', h1, ?_, h3, h4⟩
  show OL w' _ 4 _ (l ++ [x]).length (bgCells (l ++ [x]))
  rw [bgCells_append, List.length_append]
  exact h2
end
/-- What is known, as a map. -/
def knF (kn : Int → Option Bg) : Value → Option Value
  | .int .i64 x => (kn x).map bgV
  | _ => none
theorem knF_none : knF (fun _ => none) = fun _ => none := funext fun v => by
  unfold knF
  split <;> rfl
theorem knF_put (kn : Int → Option Bg) (id : Int) (b : Bg) : fput (knF kn) (.int .i64 id) (bgV b) = knF (fun x => if x = id then some b else kn x) := funext fun v => by
  by_cases e : v = .int .i64 id
  · subst e
    rw [fput_same]
    show _ = (if id = id then some b else kn id).map bgV
    rw [if_pos rfl]; rfl
  · rw [fput_other e]
    unfold knF
    split
    · rename_i n
      have : n ≠ id := fun h => e (by rw [h])
      simp [this]
    · rfl
section
variable {w0 w w' : World} {K J : Nat → Prop} {b mb : Nat} {s s' : AS} {kn : Int → Option Bg} {now : Int} {o o' : List Int} {a a' : List Nat}
theorem kInt64 {x : Int} (hb : -9223372036854775808 ≤ x ∧ x ≤ 9223372036854775807) : IsK Try.prog 3 (.int .i64 x) := isK_int Try.underlying3 (WalkArith.wf_i64 hb)
theorem kn_look (h : MapF Try.prog 3 w mb (knF kn)) {x : Int} {g : Bg} (hx : kn x = some g) :
    (Instr.lookup 134 (.map (some mb)) (.int .i64 x) true).run Try.prog w = .ok (.tuple #[bgV g, .bool true]) w := by
  have := h.look (Maps.int_keyed Try.underlying3) Try.underlying134 (zeroG w) (h.isK (show knF kn (.int .i64 x) = some (bgV g) by show (kn x).map bgV = _; rw [hx]; rfl)) true
  rw [this]
  show Result.ok (if true = true then Value.tuple #[((kn x).map bgV).getD _, .bool ((kn x).map bgV).isSome] else _) w = _
  rw [hx]
  rfl
theorem CA.app {v v' : Value} (h : CA w0 (fun k => J k ∨ v.ownBlock = some k) b s w) (hg : w.grownBy w' v.ownBlock) (h0 : ∀ g, v.ownBlock = some g → w0.heap.size ≤ g) (hown : ∀ g, v'.ownBlock = some g → v.ownBlock = some g ∨ w.heap.size ≤ g) (hlt : ∀ g, v'.ownBlock = some g → g < w'.heap.size) :
    CA w0 (fun k => J k ∨ v'.ownBlock = some k) b s w' := by
  obtain ⟨⟨m, hA, hF⟩, ho, hbe, hl⟩ := h.grown hg fun g e => ⟨.inr e, h0 g e⟩
  obtain ⟨⟨m0, hA0, hF0⟩, _⟩ := h
  refine ⟨⟨m0, hA0.same fun k hk => hg.block k (hA0.fa_lt k hk) fun e => (hF0 k hk).2 (.inr e.symm), fun k hk => ⟨(hF0 k hk).1, fun hj => ?_⟩⟩, ho, hbe, fun k hk => hk.elim (fun hj => hl k (.inl hj)) (hlt k)⟩
  rcases hj with hj | hj
  · exact (hF0 k hk).2 (.inl hj)
  · rcases hown k hj with h1 | h1
    · exact (hF0 k hk).2 (.inr h1)
    · have := hA0.fa_lt k hk; omega
theorem SLoop.facts (h : SLoop now s o a s' o' a') : ∃ o2, o' = o ++ o2 ∧ s'.run = s.run ++ o2 ∧ s'.sh = s.sh ∧ s'.slots = s.slots := by
  induction h with
  | full s o a _ => exact ⟨[], by simp, by simp, rfl, rfl⟩
  | none s o a _ _ => exact ⟨[], by simp, by simp, rfl, rfl⟩
  | fail s o a f1 en r s' o' a' _ hc hl hf _ ih => exact ih
  | ok s o a f1 en r s' o' a' hr hc hl hf _ ih =>
    obtain ⟨o2, e1, e2, e3, e4⟩ := ih
    exact ⟨en.1 :: o2, by rw [e1]; simp, by rw [e2]; show s.run ++ [en.1] ++ o2 = _; simp, e3, e4⟩
theorem subS_sh (s : AS) (t id c : Int) : (subS s t id c).sh = s.sh ∧ (subS s t id c).slots = s.slots ∧ (subS s t id c).run = s.run := by
  unfold subS
  split <;> exact ⟨rfl, rfl, rfl⟩
theorem finS_sh (s : AS) (id : Int) : (finS s id).sh = s.sh ∧ (finS s id).slots = s.slots := by
  unfold finS
  split <;> exact ⟨rfl, rfl⟩
end
/-- Between the calls of 'run'. -/
structure RunAt (w0 : World) (b mb : Nat) (vo : Value) (X : Nat → Nat → Int) (ns : Nat) (slots now : Int) (n : Nat) (s : AS) (kn : Int → Option Bg) (out : List Bg) (w : World) : Prop where
  c : CA w0 (fun k => k = mb ∨ vo.ownBlock = some k) b s w
  m : MapF Try.prog 3 w mb (knF kn)
  g : IsG w vo out
  o1 : w0.heap.size ≤ mb
  o2 : ∀ g, vo.ownBlock = some g → w0.heap.size ≤ g
  r : RI s now n kn out
  sh : s.sh = shOf X ns
  sl : s.slots = slots
  l : out.length ≤ 256 * n
  t : now ≤ 65535 * (n : Int)
section
variable {w0 w w' : World} {b mb : Nat} {vo : Value} {X : Nat → Nat → Int} {ns n : Nat} {slots now : Int} {s s' : AS} {kn : Int → Option Bg} {out : List Bg}
theorem RunAt.start (h : CA w0 (fun _ => False) b (AS.init (shOf X ns) slots) w) : RunAt w0 b w.heap.size (.slice none 0 0) X ns slots 0 0 (AS.init (shOf X ns) slots) (fun _ => none) [] (w.alloc (.map #[] 0)) where
  c := by
    have hal : Below w.heap.size w (w.alloc (.map #[] 0)) := (Below.refl _ _).alloc (Nat.le_refl _) _
    refine (h.add (J := fun k => k = w.heap.size) hal (fun k hk => by simp; omega)).less fun k hk => ?_
    rcases hk with hk | hk
    · exact .inr hk
    · simp [Value.ownBlock] at hk
  m := by rw [knF_none]; exact MapF.new _ _ _
  g := OL.nil _ _ _
  o1 := h.be.size
  o2 := fun g hg => by simp [Value.ownBlock] at hg
  r := RI.init
  sh := rfl
  sl := rfl
  l := Nat.zero_le _
  t := by omega
/-- A call that keeps what is listed and known. -/
theorem RunAt.call (h : RunAt w0 b mb vo X ns slots now n s kn out w) {now' : Int} {n' : Nat} (hc : CA w0 (fun k => k = mb ∨ vo.ownBlock = some k) b s' w') (hs : SameA (fun k => k = mb ∨ vo.ownBlock = some k) w w') (hr : RI s' now' n' kn out) (hsh : s'.sh = s.sh) (hsl : s'.slots = s.slots) (hn : n ≤ n') (ht : now' ≤ 65535 * (n' : Int)) :
    RunAt w0 b mb vo X ns slots now' n' s' kn out w' where
  c := hc
  m := h.m.at (hs mb (.inl rfl))
  g := h.g.heap fun g hg => hs g (.inr hg)
  o1 := h.o1
  o2 := h.o2
  r := hr
  sh := hsh.trans h.sh
  sl := hsl.trans h.sl
  l := by have := h.l; omega
  t := ht
theorem RunAt.bel (h : RunAt w0 b mb vo X ns slots now n s kn out w) (hb : Below w.heap.size w w') : RunAt w0 b mb vo X ns slots now n s kn out w' :=
  { h with c := h.c.bel hb, m := h.m.belowS hb, g := h.g.belowS hb }
end
end Go.Proofs.Ytmdajndmobpgbaa

/- topology: the program's map and the document's beside one another; the lines of a net. Conditions: none. -/
import Derived.Test.YtpcapmialdmcaaaTpY
import Derived.Test.YtpcapmialdmcaaaTpO
namespace Go.Proofs.Ytpcapmialdmcaaa
open Go.RowKit Go.Maps

theorem results_cell3 {P : Program} {fn : Func} {p u v : Tmp} {ty : TypeId} (h : fn.results = #[.tmp u, .cell p ty, .tmp v]) (tmps : Array Value) (w : World) (g : Nat) (t : TypeId) (cs : Array Value) (fr : Nat × Nat) (d : TypeDesc)
    (hp : tmps.getD p undef = .pointer (some ⟨g, 0, none⟩)) (hg : w.heap[g]? = some (.cells cs t fr))
    (hu : P.underlying ty = some d) (hd : (match d with | .struct _ | .array _ _ => true | _ => false) = true) (hi : (P.info? ty).map (·.size) = some cs.size) :
    (results fn tmps).run P w = .ok (.tuple #[tmps.getD u undef, .agg cs, tmps.getD v undef]) w := by
  have hp' : tmps[p]?.getD undef = .pointer (some ⟨g, 0, none⟩) := by simpa using hp
  simp [results, h, hp', asAddr, run_loadVar_row w g t ty cs fr d hg hu hd hi]
/-- Types of the document and of the law, which no block of the program's map has. -/
def refT (t : TypeId) : Bool := t == 99 || t == 101 || t == 31 || t == 24 || t == 58
/-- The blocks of K and the document's are as they were. -/
def SameR (K : Nat → Prop) (w w' : World) : Prop := (∀ k, K k → w'.heap[k]? = w.heap[k]?) ∧ ∀ (k : Nat) (cs : Array Value) (t : TypeId) (fr : Nat × Nat), refT t = true → w.heap[k]? = some (Obj.cells cs t fr) → w'.heap[k]? = w.heap[k]?
section
variable {w0 w w' : World} {K J : Nat → Prop} {m : Nat} {ts tl : List ByteArray} {L L' : List TL} {a b : ByteArray} {v lv : Value} {l : List ByteArray}
theorem SameR.of_below (hb : Below w.heap.size w w') (hK : ∀ k, K k → k < w.heap.size) : SameR K w w' := ⟨fun k hk => hb.block k (hK k hk), fun k (cs : Array Value) t fr _ h => hb.block k (lt_of_block h)⟩
theorem MapAt.notRef {g : MG} (h : MapAt w m ts L g) {k : Nat} (hk : Fm m g L k) {cs : Array Value} {t : TypeId} {fr : Nat × Nat} (hc : w.heap[k]? = some (.cells cs t fr)) : refT t = false := by
  have key : ∀ {c2 : Array Value} {t2 : TypeId} {f2 : Nat × Nat}, w.heap[k]? = some (.cells c2 t2 f2) → refT t2 = false → refT t = false := fun {c2 t2 f2} h2 hf => by
    rw [hc] at h2
    simp only [Option.some.injEq, Obj.cells.injEq] at h2
    rw [h2.2.1]
    exact hf
  rcases hk with rfl | hk | rfl | ⟨i, hi, rfl | hk⟩
  · exact key h.row (by kernel_rfl)
  · obtain ⟨cur, h2⟩ := OL.elem h.tw k hk
    exact key h2 (by kernel_rfl)
  · exact absurd rfl (h.mp.ne hc)
  · exact key (h.pr i hi) (by kernel_rfl)
  · obtain ⟨cur, h2⟩ := OL.elem (h.cu i hi) k hk
    exact key h2 (by kernel_rfl)
theorem TA.turnR (h : TA w0 K m ts L w) {g : MG} {code : Int} {e : Ending} (hg : MapAt w m ts L g) (hf : ∀ k, Fm m g L k → w0.heap.size ≤ k ∧ ¬ K k) (hp : MapP m ts L L' g code w e w') : e = .returned (errV code) ∧ TA w0 K m ts L' w' ∧ SameR K w w' ∧ w.heap.size ≤ w'.heap.size := by
  obtain ⟨h1, h2, h3⟩ := h.turn hg hf hp
  obtain ⟨_, g', _, ho, _⟩ := hp
  refine ⟨h1, h2, ⟨h3, fun k cs t fr ht hc => ho.block k (lt_of_block hc) fun hn => ?_⟩, ho.size⟩
  exact absurd (ht.symm.trans (hg.notRef hn hc)) (by decide)
theorem r_link (h : TA w0 K m ts L w) (hts : ∀ x, x ∈ ts ↔ x ∈ tl) (z : Int) : Calls Try.prog 19 #[.pointer (some ⟨m, 0, none⟩), .string a, .string b, .int .i64 z] w fun e w' => e = .returned (errV (connS tl L a b z).2) ∧ TA w0 K m ts (connS tl L a b z).1 w' ∧ SameR K w w' ∧ w.heap.size ≤ w'.heap.size := by
  obtain ⟨g, h1, h2, h3⟩ := id h
  rw [← connS_congr hts]
  exact (link_any h1 z).mono fun e w' hp => h.turnR h1 h2 hp
theorem r_down (h : TA w0 K m ts L w) (za : a.size ≤ 9223372036854775807) (zb : b.size ≤ 9223372036854775807) (hc : ∀ l ∈ L, l.cuts.length ≤ 1000000) (f t : Int) : Calls Try.prog 20 #[.pointer (some ⟨m, 0, none⟩), .string a, .string b, .int .i64 f, .int .i64 t] w fun e w' => e = .returned (errV (downS L a b f t).2) ∧ TA w0 K m ts (downS L a b f t).1 w' ∧ SameR K w w' ∧ w.heap.size ≤ w'.heap.size := by
  obtain ⟨g, h1, h2, h3⟩ := id h
  exact (down_any h1 za zb hc f t).mono fun e w' hp => h.turnR h1 h2 hp
theorem OL.sameR {e : TypeId} {size n : Nat} {xs : List Value} (h : OL w e size v n xs) (he : refT e = true) (hs : SameR K w w') : OL w' e size v n xs := OL.heap h fun g hg => by
  obtain ⟨cur, hc⟩ := OL.elem h g hg
  exact hs.2 g _ _ _ he hc
theorem RefL.sameR (h : RefL w lv L) (hs : SameR K w w') : RefL w' lv L := by
  obtain ⟨vs, h1, h2, h3, h4⟩ := h
  exact ⟨vs, h1, OL.sameR h2 (by kernel_rfl) hs, h3, fun i hi => OL.sameR (h4 i hi) (by kernel_rfl) hs⟩
theorem RT.sameR (h : RT w v l) (hv : ∀ k, v.ownBlock = some k → K k) (hs : SameR K w w') (hz : w.heap.size ≤ w'.heap.size) : RT w' v l := by
  obtain ⟨ao, cap, e, h1, h2⟩ := h
  refine ⟨ao, cap, e, h1, fun h0 => ?_⟩
  obtain ⟨b, off, e2, h3, h4⟩ := h2 h0
  have hk : K b := hv b (by rw [e, e2]; rfl)
  exact ⟨b, off, e2, Nat.lt_of_lt_of_le h3 hz, fun i hi => (World.cell?_of_block (w := w) (a := ⟨b, off + i, none⟩) (hs.1 b hk)).trans (h4 i hi)⟩
theorem RefAt.sameR (h : RefAt w v lv tl L) (hv : ∀ k, v.ownBlock = some k → K k) (hs : SameR K w w') (hz : w.heap.size ≤ w'.heap.size) : RefAt w' v lv tl L := ⟨h.1.sameR hv hs hz, h.2.sameR hs⟩
end
/-- A line of a net. -/
structure Ln where
  a : Int
  b : Int
  dn : Bool
  x : Int
  y : Int
  t : Int
def dLn : Ln := ⟨0, 0, false, 0, 0, 0⟩
def lnV (l : Ln) (c : Nat) : Value := match c with
  | 0 => .int .u8 l.a
  | 1 => .int .u8 l.b
  | 2 => .bool l.dn
  | 3 => .int .i64 l.x
  | 4 => .int .i64 l.y
  | _ => .int .i64 l.t
/-- The lines, in memory. -/
def IsLn (w : World) (v : Value) (ls : List Ln) : Prop := ∃ ao cap, v = .slice ao ls.length cap ∧ ls.length ≤ 9223372036854775807 ∧ (∀ l ∈ ls, (0 ≤ l.a ∧ l.a ≤ 255) ∧ (0 ≤ l.b ∧ l.b ≤ 255)) ∧
  (0 < ls.length → ∃ b off, ao = some ⟨b, off, none⟩ ∧ b < w.heap.size ∧ ∀ i, i < ls.length → ∀ c, c < 6 → w.cell? ⟨b, off + i * 6 + c, none⟩ = some (lnV (ls.getD i dLn) c))
/-- A line's effect on the links. -/
noncomputable def stepL (tl : List ByteArray) (L : List TL) (l : Ln) : List TL × Int := if l.dn then downS L (nmB l.a) (nmB l.b) l.x l.y else connS tl L (nmB l.a) (nmB l.b) l.x
theorem nmB_size (n : Int) : (nmB n).size ≤ 9223372036854775807 := by
  show 1 ≤ 9223372036854775807
  omega
/-- Bounds on how long the links get. -/
def LB (L : List TL) (j : Nat) : Prop := L.length ≤ j ∧ ∀ l ∈ L, l.cuts.length ≤ j
theorem LB.nil (j : Nat) : LB [] j := ⟨Nat.zero_le _, fun l hl => by cases hl⟩
theorem LB.up {L : List TL} {j k : Nat} (h : LB L j) (hk : j ≤ k) : LB L k := ⟨Nat.le_trans h.1 hk, fun l hl => Nat.le_trans (h.2 l hl) hk⟩
theorem LB.set {L : List TL} {j : Nat} (h : LB L j) {i : Nat} {x : TL} (hx : x.cuts.length ≤ j + 1) : LB (L.set i x) (j + 1) := by
  refine ⟨by rw [List.length_set]; have := h.1; omega, fun l hl => ?_⟩
  rcases List.mem_or_eq_of_mem_set hl with h1 | h1
  · have := h.2 l h1; omega
  · rw [h1]; exact hx
theorem LB.conn {L : List TL} {j : Nat} (h : LB L j) (tl : List ByteArray) (a b : ByteArray) (z : Int) : LB (connS tl L a b z).1 (j + 1) := by
  unfold connS
  split
  · exact h.up (by omega)
  · split
    · exact h.up (by omega)
    · split
      · refine ⟨by rw [List.length_append]; have := h.1; simp; omega, fun l hl => ?_⟩
        rcases List.mem_append.1 hl with h1 | h1
        · have := h.2 l h1; omega
        · rw [List.mem_singleton] at h1; subst h1; exact Nat.zero_le _
      · rename_i i hf
        refine h.set ?_
        show (lk L i).cuts.length ≤ _
        have := h.2 _ (lk_mem (fnd_some hf).1)
        omega
theorem LB.down {L : List TL} {j : Nat} (h : LB L j) (a b : ByteArray) (f t : Int) : LB (downS L a b f t).1 (j + 1) := by
  unfold downS
  split
  · exact h.up (by omega)
  · split
    · exact h.up (by omega)
    · rename_i i hf _
      refine h.set ?_
      show ((lk L i).cuts ++ [_]).length ≤ _
      have := h.2 _ (lk_mem (fnd_some hf).1)
      rw [List.length_append]
      simp
      omega
end Go.Proofs.Ytpcapmialdmcaaa

/- Plain model of the network, and how it lies in memory. network: New, Pending, Lost, and all of a nil network that calls nothing. Conditions: each contract names its own. -/
import Derived.Test.YtkhiepjlfbjgdaaZNwA
namespace Go.Proofs.Ytkhiepjlfbjgdaa
open Go.RowKit

structure Line where
  delay : Int
  sent : Int
  fates : Int → Option (List Int)
structure NCut where
  a : ByteArray
  b : ByteArray
  t0 : Int
  t1 : Int
structure Arr where
  t : Int
  a : ByteArray
  b : ByteArray
  data : List Int
  msg : Int
  copy : Int
structure Net where
  usual : Int
  present : Int
  lines : ByteArray → ByteArray → Option Line
  cuts : List NCut
  arr : List Arr
  msgs : Int
  lost : Int
def cutCells : List NCut → List Value
  | [] => []
  | c :: r => .string c.a :: .string c.b :: .int .i64 c.t0 :: .int .i64 c.t1 :: cutCells r
theorem cutCells_len : ∀ l : List NCut, (cutCells l).length = l.length * 4
  | [] => rfl
  | c :: r => by simp [cutCells, cutCells_len r]; omega
theorem cutCells_get : ∀ (l : List NCut) (i : Nat) (h : i < l.length), (cutCells l)[i * 4]? = some (.string l[i].a) ∧ (cutCells l)[i * 4 + 1]? = some (.string l[i].b) ∧ (cutCells l)[i * 4 + 2]? = some (.int .i64 l[i].t0) ∧ (cutCells l)[i * 4 + 3]? = some (.int .i64 l[i].t1)
  | e :: r, 0, _ => by simp [cutCells]
  | e :: r, i + 1, h => by
    have := cutCells_get r i (by simpa using h)
    simp only [cutCells, Nat.add_mul, List.getElem?_cons_succ, List.getElem_cons_succ]
    exact ⟨by simpa using this.1, by simpa using this.2.1, by simpa using this.2.2.1, by simpa using this.2.2.2⟩
theorem cutCells_append : ∀ (l r : List NCut), cutCells (l ++ r) = cutCells l ++ cutCells r
  | [], r => rfl
  | e :: l, r => by simp [cutCells, cutCells_append l r]
/-- The arrivals, each with the value of its data. -/
def arrCells : List (Arr × Value) → List Value
  | [] => []
  | x :: r => .int .i64 x.1.t :: .string x.1.a :: .string x.1.b :: x.2 :: .int .i64 x.1.msg :: .int .i64 x.1.copy :: arrCells r
theorem arrCells_len : ∀ l : List (Arr × Value), (arrCells l).length = l.length * 6
  | [] => rfl
  | c :: r => by simp [arrCells, arrCells_len r]; omega
theorem arrCells_get : ∀ (l : List (Arr × Value)) (i : Nat) (h : i < l.length), (arrCells l)[i * 6]? = some (.int .i64 l[i].1.t) ∧ (arrCells l)[i * 6 + 1]? = some (.string l[i].1.a) ∧ (arrCells l)[i * 6 + 2]? = some (.string l[i].1.b) ∧
    (arrCells l)[i * 6 + 3]? = some l[i].2 ∧ (arrCells l)[i * 6 + 4]? = some (.int .i64 l[i].1.msg) ∧ (arrCells l)[i * 6 + 5]? = some (.int .i64 l[i].1.copy)
  | e :: r, 0, _ => by simp [arrCells]
  | e :: r, i + 1, h => by
    have := arrCells_get r i (by simpa using h)
    simp only [arrCells, Nat.add_mul, List.getElem?_cons_succ, List.getElem_cons_succ]
    exact ⟨by simpa using this.1, by simpa using this.2.1, by simpa using this.2.2.1, by simpa using this.2.2.2.1, by simpa using this.2.2.2.2.1, by simpa using this.2.2.2.2.2⟩
theorem arrCells_append : ∀ (l r : List (Arr × Value)), arrCells (l ++ r) = arrCells l ++ arrCells r
  | [], r => rfl
  | e :: l, r => by simp [arrCells, arrCells_append l r]
theorem arrCells_drop : ∀ (l : List (Arr × Value)) (i : Nat), arrCells (l.drop i) = (arrCells l).drop (i * 6)
  | l, 0 => by simp
  | [], i + 1 => by simp [arrCells]
  | e :: l, i + 1 => by
    rw [Nat.add_mul, List.drop_succ_cons, arrCells_drop l i]
    simp [arrCells]
theorem arrCells_take : ∀ (l : List (Arr × Value)) (i : Nat), arrCells (l.take i) = (arrCells l).take (i * 6)
  | l, 0 => by simp [arrCells]
  | [], i + 1 => by simp [arrCells]
  | e :: l, i + 1 => by
    rw [Nat.add_mul, List.take_succ_cons]
    simp [arrCells, arrCells_take l i]
def bys (l : List Int) : List Value := l.map (Value.int .u8)
theorem bys_len (l : List Int) : (bys l).length = l.length := by simp [bys]
theorem bys_get (l : List Int) (i : Nat) (h : i < l.length) : (bys l)[i]? = some (.int .u8 (l.getD i 0)) := by simp [bys, List.getD, h]
/-- The direction, as a key. -/
def dirV (a b : ByteArray) : Value := .agg #[.string a, .string b]
theorem dirV_inj {a b c d : ByteArray} : dirV a b = dirV c d ↔ a = c ∧ b = d := pair_ne
theorem isK_dir {a b : ByteArray} (ha : a.size ≤ maxLen) (hb : b.size ≤ maxLen) : IsK Try.prog 120 (dirV a b) :=
  isK_pair Try.underlying120 (by kernel_rfl) (by kernel_rfl) Try.underlying9 Try.underlying9 rfl rfl (by kernel_rfl) (by kernel_rfl) (by decide) (by decide) ⟨Try.prog.types.size - 1, by kernel_rfl⟩ ha hb
theorem laidOut0 : laidOutB Try.prog = true := by kernel_rfl
theorem dirKeyed : Maps.Keyed Try.prog 120 := Maps.Keyed.of_law (deep_law_laid laidOut0 (m := 2) (by omega) (of_decide_eq_true (by kernel_rfl)) (by kernel_rfl) (by kernel_rfl))
theorem intKeyed : Maps.Keyed Try.prog 3 := Maps.int_keyed Try.underlying3
/-- Where a line, and its fates, lie. -/
structure LineAt (w : World) (g fm : Nat) (fv : Int → Value) (L : Line) : Prop where
  c : w.heap[g]? = some (.cells #[.int .i64 L.delay, .int .i64 L.sent, .map (some fm)] 92 (0, 0))
  m : ∃ ff, MapF Try.prog 3 w fm ff ∧ ∀ i : Int, ff (.int .i64 i) = (L.fates i).map fun _ => fv i
  o : ∀ i l, L.fates i = some l → OL w 3 1 (fv i) l.length (ints l)
/-- Where the parts of a network lie. -/
structure NG where
  mb : Nat
  vc : Value
  va : Value
  G : ByteArray → ByteArray → Nat
  F : ByteArray → ByteArray → Nat
  V : ByteArray → ByteArray → Int → Value
  A : List (Arr × Value)
structure NetAt (w : World) (b : Nat) (q : NG) (s : Net) : Prop where
  c : w.heap[b]? = some (.cells #[.int .i64 s.usual, .int .i64 s.present, .map (some q.mb), q.vc, q.va, .int .i64 s.msgs, .int .i64 s.lost] 86 (0, 0))
  m : ∃ f, MapF Try.prog 120 w q.mb f ∧ ∀ x y, f (dirV x y) = (s.lines x y).map fun _ => .pointer (some ⟨q.G x y, 0, none⟩)
  l : ∀ x y L, s.lines x y = some L → LineAt w (q.G x y) (q.F x y) (q.V x y) L
  iG : ∀ x y x' y', s.lines x y ≠ none → s.lines x' y' ≠ none → q.G x y = q.G x' y' → x = x' ∧ y = y'
  iF : ∀ x y x' y', s.lines x y ≠ none → s.lines x' y' ≠ none → q.F x y = q.F x' y' → x = x' ∧ y = y'
  mF : ∀ x y, s.lines x y ≠ none → q.F x y ≠ q.mb
  k : OL w 102 4 q.vc s.cuts.length (cutCells s.cuts)
  r : OL w 98 6 q.va q.A.length (arrCells q.A)
  a : q.A.map Prod.fst = s.arr
  d : ∀ x ∈ q.A, OL w 5 1 x.2 x.1.data.length (bys x.1.data)
  i : q.A.Pairwise fun x y => ∀ g, x.2.ownBlock = some g → y.2.ownBlock ≠ some g
/-- The blocks of a network. -/
inductive NAl (b : Nat) (q : NG) (s : Net) (k : Nat) : Prop
  | b (h : k = b)
  | m (h : k = q.mb)
  | c (h : q.vc.ownBlock = some k)
  | r (h : q.va.ownBlock = some k)
  | G (x y : ByteArray) (h : s.lines x y ≠ none) (e : k = q.G x y)
  | F (x y : ByteArray) (h : s.lines x y ≠ none) (e : k = q.F x y)
  | V (x y : ByteArray) (L : Line) (i : Int) (h : s.lines x y = some L) (hi : L.fates i ≠ none) (e : (q.V x y i).ownBlock = some k)
  | d (x : Arr × Value) (h : x ∈ q.A) (e : x.2.ownBlock = some k)
section
variable {w w' : World} {b : Nat} {q : NG} {s : Net}
theorem LineAt.same {g fm : Nat} {fv : Int → Value} {L : Line} (h : LineAt w g fm fv L) (h1 : w'.heap[g]? = w.heap[g]?) (h2 : w'.heap[fm]? = w.heap[fm]?) (h3 : ∀ i k, L.fates i ≠ none → (fv i).ownBlock = some k → w'.heap[k]? = w.heap[k]?) : LineAt w' g fm fv L :=
  ⟨h1.trans h.c, by obtain ⟨ff, hm, hf⟩ := h.m; exact ⟨ff, hm.at h2, hf⟩, fun i l hl => (h.o i l hl).heap fun k hk => h3 i k (by rw [hl]; simp) hk⟩
theorem NetAt.same (h : NetAt w b q s) (hh : ∀ k, NAl b q s k → w'.heap[k]? = w.heap[k]?) : NetAt w' b q s where
  c := (hh b (.b rfl)).trans h.c
  m := by obtain ⟨f, hm, hf⟩ := h.m; exact ⟨f, hm.at (hh _ (.m rfl)), hf⟩
  l x y L hl := (h.l x y L hl).same (hh _ (.G x y (by rw [hl]; simp) rfl)) (hh _ (.F x y (by rw [hl]; simp) rfl)) fun i k hi hk => hh _ (.V x y L i hl hi hk)
  iG := h.iG
  iF := h.iF
  mF := h.mF
  k := h.k.heap fun k hk => hh _ (.c hk)
  r := h.r.heap fun k hk => hh _ (.r hk)
  a := h.a
  d x hx := (h.d x hx).heap fun k hk => hh _ (.d x hx hk)
  i := h.i
theorem NetAt.al_lt (h : NetAt w b q s) {k : Nat} (hk : NAl b q s k) : k < w.heap.size := by
  cases hk with
  | b e => subst e; exact lt_of_block h.c
  | m e => subst e; obtain ⟨f, hm, _⟩ := h.m; exact hm.lt
  | c e => exact h.k.lt k e
  | r e => exact h.r.lt k e
  | G x y hn e =>
    subst e
    cases hl : s.lines x y with
    | none => exact absurd hl hn
    | some L => exact lt_of_block (h.l x y L hl).c
  | F x y hn e =>
    subst e
    cases hl : s.lines x y with
    | none => exact absurd hl hn
    | some L => obtain ⟨f, hm, _⟩ := (h.l x y L hl).m; exact hm.lt
  | V x y L i hl hi e =>
    cases hf : L.fates i with
    | none => exact absurd hf hi
    | some l => exact ((h.l x y L hl).o i l hf).lt k e
  | d x hx e => exact (h.d x hx).lt k e
theorem NetAt.belowS (h : NetAt w b q s) (hb : Below w.heap.size w w') : NetAt w' b q s := h.same fun k hk => hb.block k (h.al_lt hk)
end
/-- The network s lies at block b, all of it in blocks of P. -/
def NS (w : World) (P : Nat → Prop) (b : Nat) (s : Net) : Prop := ∃ q, NetAt w b q s ∧ ∀ k, NAl b q s k → P k
def grow (P : Nat → Prop) (w : World) (k : Nat) : Prop := P k ∨ w.heap.size ≤ k
section
variable {w w' : World} {P Q : Nat → Prop} {b : Nat} {s s' : Net}
theorem NS.mono (h : NS w P b s) (hP : ∀ k, P k → Q k) : NS w Q b s := by obtain ⟨q, h, hA⟩ := h; exact ⟨q, h, fun k hk => hP k (hA k hk)⟩
theorem NS.belowS (h : NS w P b s) (hb : Below w.heap.size w w') : NS w' P b s := by obtain ⟨q, h, hA⟩ := h; exact ⟨q, h.belowS hb, hA⟩
theorem NS.apart (h : NS w P b s) (hs : Only Q w w') (hd : ∀ k, P k → ¬ Q k) : NS w' P b s := by
  obtain ⟨q, h, hA⟩ := h
  exact ⟨q, h.same fun k hk => hs.block k (h.al_lt hk) (hd k (hA k hk)), hA⟩
theorem NS.bound (h : NS w P b s) : NS w (fun k => P k ∧ k < w.heap.size) b s := by obtain ⟨q, h, hA⟩ := h; exact ⟨q, h, fun k hk => ⟨hA k hk, h.al_lt hk⟩⟩
/-- What a call leaves that returns v. -/
def NPost (P : Nat → Prop) (b : Nat) (v : Value) (s' : Net) (w : World) (e : Ending) (w' : World) : Prop := e = .returned v ∧ NS w' (grow P w) b s' ∧ Only P w w'
theorem NPost.own {B : Nat} {v : Value} {e : Ending} (h : NPost (B ≤ ·) b v s' w e w') (hB : B ≤ w.heap.size) : e = .returned v ∧ NS w' (B ≤ ·) b s' ∧ Below B w w' :=
  ⟨h.1, h.2.1.mono fun k hk => hk.elim id (fun h => by omega), h.2.2.below hB fun _ h => h⟩
end
end Go.Proofs.Ytkhiepjlfbjgdaa

namespace Go.Proofs.Ytkhiepjlfbjgdaa
open Go.RowKit

def Net.init (d : Int) : Net := ⟨d, 0, fun _ _ => none, [], [], 0, 0⟩
theorem one_ints {w : World} {x : Int} (hx : -9223372036854775808 ≤ x ∧ x ≤ 9223372036854775807) {b : Nat} {fr : Nat × Nat} {t : TypeId} (h : w.heap[b]? = some (.cells #[.int .i64 x] t fr)) : IsInts w (some ⟨b, 0, none⟩) 1 b 0 (fun _ => x) :=
  ⟨fun _ => rfl, fun _ => lt_of_block h, fun i hi => by obtain rfl : i = 0 := by omega
                                                        exact has_cell h 0, fun _ _ => hx⟩
theorem firstBad_one (x : Int) : firstBad 1 (fun _ => x) = !badD x := by
  unfold firstBad
  cases h : badD x
  · exact decide_eq_true (fun i _ => h)
  · exact decide_eq_false (fun hh => by have := hh 0 (by omega); rw [h] at this; cases this)
theorem delay_one {w : World} {x : Int} {c b : Nat} {fr : Nat × Nat} {t : TypeId} (hx : -9223372036854775808 ≤ x ∧ x ≤ 9223372036854775807) (h : w.heap[b]? = some (.cells #[.int .i64 x] t fr)) :
    Calls Try.prog 28 #[.slice (some ⟨b, 0, none⟩) 1 c] w fun e w' => e = .returned (.bool (!badD x)) ∧ w' = w := by
  have := delays_any (c := c) w (one_ints hx h) (by omega)
  rw [firstBad_one] at this
  exact this
theorem n_new_bad (x : Int) (w : World) (hx : -9223372036854775808 ≤ x ∧ x ≤ 9223372036854775807) (hb : badD x = true) : Calls Try.prog 11 #[.int .i64 x] w fun e w' => e = .returned (.tuple #[.pointer none, .iface 48 (.int .i64 1)]) ∧ Below w.heap.size w w' := by
  have CD := Lib.hid (delay_one (c := 1) hx (heap_alloc_new w (.cells #[.int .i64 x] 3)))
  rw [hb] at CD
  have hB : Below w.heap.size w (w.alloc (.cells #[.int .i64 x] 3)) := by go_grown
  clear hb
  go_enter Try.func11, Try.ntmps11
  go_wp2_with fail
  refine CD.out.mono ?_
  rintro e w1 ⟨rfl, rfl⟩
  go_wp2
  go_ret2
  exact ⟨rfl, hB⟩
theorem n_new (x : Int) (w : World) (hx : -9223372036854775808 ≤ x ∧ x ≤ 9223372036854775807) (hb : badD x = false) : Calls Try.prog 11 #[.int .i64 x] w fun e w' => ∃ b, e = .returned (.tuple #[.pointer (some ⟨b, 0, none⟩), .nilIface]) ∧ NS w' (w.heap.size ≤ ·) b (Net.init x) ∧ Below w.heap.size w w' := by
  have CD := Lib.hid (delay_one (c := 1) hx (heap_alloc_new w (.cells #[.int .i64 x] 3)))
  rw [hb] at CD
  have hmm := @run_makeMap Try.prog
  clear hb
  go_enter Try.func11, Try.ntmps11
  go_wp2_with fail
  refine CD.out.mono ?_
  rintro e w1 ⟨rfl, rfl⟩
  go_wp2
  go_ret2
  have hB : Below w.heap.size w (((w.alloc (.cells #[.int .i64 x] 3)).alloc (.map #[] 0)).alloc (.cells #[.int .i64 x, .int .i64 0, .map (some (w.heap.size + 1)), .slice none 0 0, .slice none 0 0, .int .i64 0, .int .i64 0] 86)) :=
    (((Below.refl _ w).alloc (Nat.le_refl _) _).alloc (by simp) _).alloc (by simp; omega) _
  have hm := (MapF.new Try.prog 120 (w.alloc (.cells #[.int .i64 x] 3))).belowS (w' := ((w.alloc (.cells #[.int .i64 x] 3)).alloc (.map #[] 0)).alloc (.cells #[.int .i64 x, .int .i64 0, .map (some (w.heap.size + 1)), .slice none 0 0, .slice none 0 0, .int .i64 0, .int .i64 0] 86)) ((Below.refl _ _).alloc (Nat.le_refl _) _)
  rw [World.size_alloc] at hm
  refine ⟨w.heap.size + 1 + 1, rfl, ⟨⟨w.heap.size + 1, .slice none 0 0, .slice none 0 0, fun _ _ => 0, fun _ _ => 0, fun _ _ _ => .slice none 0 0, []⟩, ?_, ?_⟩, hB⟩
  · exact { c := heap_at (by simp), m := ⟨_, hm, fun _ _ => rfl⟩, l := fun _ _ _ h => (by cases h), iG := fun _ _ _ _ h => absurd rfl h, iF := fun _ _ _ _ h => absurd rfl h, mF := fun _ _ h => absurd rfl h, k := OL.nil _ _ _, r := OL.nil _ _ _, a := rfl, d := fun _ h => (by cases h), i := List.Pairwise.nil }
  · intro k hk
    cases hk with
    | b e => show w.heap.size ≤ k; omega
    | m e => show w.heap.size ≤ k; exact e ▸ Nat.le_succ _
    | c e => cases e
    | r e => cases e
    | G x y h e => exact absurd rfl h
    | F x y h e => exact absurd rfl h
    | V x y L i h hi e => cases h
    | d x h e => cases h
section
variable {w : World} {P : Nat → Prop} {b : Nat} {s : Net}
theorem pend_nil (w : World) : Calls Try.prog 14 #[.pointer none] w fun e w' => e = .returned (.int .i64 0) ∧ w' = w := by
  go_enter Try.func14, Try.ntmps14
  go_wp2
  go_ret
  exact ⟨rfl, rfl⟩
theorem lost_nil (w : World) : Calls Try.prog 20 #[.pointer none] w fun e w' => e = .returned (.int .i64 0) ∧ w' = w := by
  go_enter Try.func20, Try.ntmps20
  go_wp2
  go_ret
  exact ⟨rfl, rfl⟩
theorem NetAt.va (h : ∃ q, NetAt w b q s) : ∃ q ao cap, NetAt w b q s ∧ q.va = .slice ao s.arr.length cap ∧ w.cell? ⟨b, 4, none⟩ = some (.slice ao s.arr.length cap) := by
  obtain ⟨q, h⟩ := h
  have hl : q.A.length = s.arr.length := by rw [← h.a, List.length_map]
  have hr := h.r
  have hc := has_cell h.c 4
  rw [hl] at hr
  rcases hr.forms with ⟨e, e0⟩ | ⟨g, off, cap, e, _⟩
  · exact ⟨q, none, 0, h, by rw [e, e0], by rw [hc, e0]; show some q.va = _; rw [e]⟩
  · exact ⟨q, _, cap, h, e, by rw [hc]; show some q.va = _; rw [e]⟩
theorem n_pend (h : NS w P b s) : Calls Try.prog 14 #[.pointer (some ⟨b, 0, none⟩)] w fun e w' => e = .returned (.int .i64 s.arr.length) ∧ w' = w := by
  obtain ⟨q, h, _⟩ := h
  obtain ⟨q, ao, cap, h, _, c4⟩ := NetAt.va ⟨q, h⟩
  clear h
  go_enter Try.func14, Try.ntmps14
  go_wp2
  go_ret
  exact ⟨rfl, rfl⟩
theorem n_lost (h : NS w P b s) : Calls Try.prog 20 #[.pointer (some ⟨b, 0, none⟩)] w fun e w' => e = .returned (.int .i64 s.lost) ∧ w' = w := by
  obtain ⟨q, h, _⟩ := h
  have c6 : w.cell? ⟨b, 6, none⟩ = some (.int .i64 s.lost) := has_cell h.c 6
  clear h
  go_enter Try.func20, Try.ntmps20
  go_wp2
  go_ret
  exact ⟨rfl, rfl⟩
end
end Go.Proofs.Ytkhiepjlfbjgdaa

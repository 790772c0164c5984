/- network: line. Conditions: the names are no longer than strings can be. -/
import Derived.Test.YtkhiepjlfbjgdaaZNwB
namespace Go.Proofs.Ytkhiepjlfbjgdaa
open Go.RowKit

def Net.get (s : Net) (x y : ByteArray) : Line := (s.lines x y).getD ⟨s.usual, 0, fun _ => none⟩
open Classical in
noncomputable def Net.setL (s : Net) (x y : ByteArray) (L : Line) : Net := { s with lines := fun x' y' => if x' = x ∧ y' = y then some L else s.lines x' y' }
theorem Net.setL_same {s : Net} {x y : ByteArray} {L : Line} (h : s.lines x y = some L) : s.setL x y L = s := by
  have : (fun x' y' => if x' = x ∧ y' = y then some L else s.lines x' y') = s.lines := by
    funext x' y'
    by_cases e : x' = x ∧ y' = y
    · rw [if_pos e, e.1, e.2, h]
    · rw [if_neg e]
  unfold Net.setL
  rw [this]
theorem Net.setL_at (s : Net) (x y : ByteArray) (L : Line) : (s.setL x y L).lines x y = some L := if_pos ⟨rfl, rfl⟩
theorem Net.setL_ne {s : Net} {x y x' y' : ByteArray} {L : Line} (h : ¬ (x' = x ∧ y' = y)) : (s.setL x y L).lines x' y' = s.lines x' y' := if_neg h
/-- What line leaves. -/
def LineP (b : Nat) (q : NG) (s : Net) (x y : ByteArray) (w : World) (e : Ending) (w' : World) : Prop :=
  ∃ q' : NG, e = .returned (.pointer (some ⟨q'.G x y, 0, none⟩)) ∧ NetAt w' b q' (s.setL x y (s.get x y)) ∧ (∀ k, NAl b q' (s.setL x y (s.get x y)) k → NAl b q s k ∨ w.heap.size ≤ k) ∧ Only (NAl b q s) w w'
theorem zeroLine (w : World) : (zeroValue 87).run Try.prog w = .ok (.pointer none) w := by kernel_rfl
open Classical in
noncomputable def NG.add (q : NG) (x y : ByteArray) (g fm : Nat) : NG :=
  { q with G := fun x' y' => if x' = x ∧ y' = y then g else q.G x' y', F := fun x' y' => if x' = x ∧ y' = y then fm else q.F x' y', V := fun x' y' => if x' = x ∧ y' = y then fun _ => .slice none 0 0 else q.V x' y' }
theorem NetAt.ne_mb {w : World} {b : Nat} {q : NG} {s : Net} (h : NetAt w b q s) {k : Nat} {cs : Array Value} {t : TypeId} {fr : Nat × Nat} (hk : w.heap[k]? = some (.cells cs t fr)) : k ≠ q.mb := by
  obtain ⟨f, hm, _⟩ := h.m
  exact (hm.ne hk).symm
theorem OL.ne_mb {w : World} {b : Nat} {q : NG} {s : Net} {e : TypeId} {size n k : Nat} {v : Value} {xs : List Value} (h : NetAt w b q s) (ho : OL w e size v n xs) (hk : v.ownBlock = some k) : k ≠ q.mb := by
  obtain ⟨cur, hc⟩ := ho.elem k hk
  exact h.ne_mb hc
/-- A new line. -/
theorem NetAt.add {w w' : World} {b : Nat} {q : NG} {s : Net} (h : NetAt w b q s) {x y : ByteArray} (hl : s.lines x y = none) {g fm : Nat} (hgw : w.heap.size ≤ g) (hfw : w.heap.size ≤ fm)
    (hg : w'.heap[g]? = some (.cells #[.int .i64 s.usual, .int .i64 0, .map (some fm)] 92 (0, 0))) (hfm : MapF Try.prog 3 w' fm (fun _ => none)) (hO : ∀ k, k < w.heap.size → k ≠ q.mb → w'.heap[k]? = w.heap[k]?)
    {f : Value → Option Value} (hf : ∀ x y, f (dirV x y) = (s.lines x y).map fun _ => .pointer (some ⟨q.G x y, 0, none⟩)) (hm : MapF Try.prog 120 w' q.mb (fput f (dirV x y) (.pointer (some ⟨g, 0, none⟩)))) :
    NetAt w' b (q.add x y g fm) (s.setL x y (s.get x y)) ∧ ∀ k, NAl b (q.add x y g fm) (s.setL x y (s.get x y)) k → NAl b q s k ∨ w.heap.size ≤ k := by
  have hget : s.get x y = ⟨s.usual, 0, fun _ => none⟩ := by unfold Net.get; rw [hl]; rfl
  have hlt : ∀ x' y', s.lines x' y' ≠ none → q.G x' y' < w.heap.size ∧ q.F x' y' < w.heap.size := fun x' y' hn => ⟨h.al_lt (.G x' y' hn rfl), h.al_lt (.F x' y' hn rfl)⟩
  have hmb := h.al_lt (NAl.m rfl)
  have gS : (q.add x y g fm).G x y = g := if_pos ⟨rfl, rfl⟩
  have fS : (q.add x y g fm).F x y = fm := if_pos ⟨rfl, rfl⟩
  have vS : (q.add x y g fm).V x y = fun _ => .slice none 0 0 := if_pos ⟨rfl, rfl⟩
  have gN : ∀ {x' y'}, ¬ (x' = x ∧ y' = y) → (q.add x y g fm).G x' y' = q.G x' y' := fun hn => if_neg hn
  have fN : ∀ {x' y'}, ¬ (x' = x ∧ y' = y) → (q.add x y g fm).F x' y' = q.F x' y' := fun hn => if_neg hn
  have vN : ∀ {x' y'}, ¬ (x' = x ∧ y' = y) → (q.add x y g fm).V x' y' = q.V x' y' := fun hn => if_neg hn
  constructor
  · refine { c := (hO b (lt_of_block h.c) (h.ne_mb h.c)).trans h.c, m := ⟨_, hm, fun x' y' => ?_⟩, l := fun x' y' L hL => ?_, iG := fun x1 y1 x2 y2 h1 h2 he => ?_, iF := fun x1 y1 x2 y2 h1 h2 he => ?_, mF := fun x' y' hn => ?_, k := h.k.heap fun k hk => hO k (h.k.lt k hk) (OL.ne_mb h h.k hk), r := h.r.heap fun k hk => hO k (h.r.lt k hk) (OL.ne_mb h h.r hk), a := h.a, d := fun z hz => (h.d z hz).heap fun k hk => hO k ((h.d z hz).lt k hk) (OL.ne_mb h (h.d z hz) hk), i := h.i }
    · by_cases e : x' = x ∧ y' = y
      · obtain ⟨rfl, rfl⟩ := e
        rw [fput_same, Net.setL_at, gS]; rfl
      · rw [fput_other (fun hh => e (dirV_inj.1 hh)), Net.setL_ne e, gN e, hf]
    · by_cases e : x' = x ∧ y' = y
      · obtain ⟨rfl, rfl⟩ := e
        rw [Net.setL_at, hget] at hL
        obtain rfl := Option.some.inj hL
        rw [gS, fS, vS]
        exact ⟨hg, ⟨_, hfm, fun i => rfl⟩, fun i l hi => by cases hi⟩
      · rw [Net.setL_ne e] at hL
        rw [gN e, fN e, vN e]
        have hL' := h.l x' y' L hL
        exact hL'.same (hO _ (lt_of_block hL'.c) (h.ne_mb hL'.c)) (hO _ (hlt x' y' (by rw [hL]; simp)).2 (h.mF x' y' (by rw [hL]; simp))) fun i k hi hk => by
          cases hfi : L.fates i with
          | none => exact absurd hfi hi
          | some l => exact hO k ((hL'.o i l hfi).lt k hk) (OL.ne_mb h (hL'.o i l hfi) hk)
    · by_cases e1 : x1 = x ∧ y1 = y
      · by_cases e2 : x2 = x ∧ y2 = y
        · exact ⟨e1.1.trans e2.1.symm, e1.2.trans e2.2.symm⟩
        · rw [Net.setL_ne e2] at h2
          obtain ⟨rfl, rfl⟩ := e1
          rw [gS, gN e2] at he
          have := (hlt x2 y2 h2).1
          omega
      · rw [Net.setL_ne e1] at h1
        by_cases e2 : x2 = x ∧ y2 = y
        · obtain ⟨rfl, rfl⟩ := e2
          rw [gS, gN e1] at he
          have := (hlt x1 y1 h1).1
          omega
        · rw [Net.setL_ne e2] at h2
          rw [gN e1, gN e2] at he
          exact h.iG x1 y1 x2 y2 h1 h2 he
    · by_cases e1 : x1 = x ∧ y1 = y
      · by_cases e2 : x2 = x ∧ y2 = y
        · exact ⟨e1.1.trans e2.1.symm, e1.2.trans e2.2.symm⟩
        · rw [Net.setL_ne e2] at h2
          obtain ⟨rfl, rfl⟩ := e1
          rw [fS, fN e2] at he
          have := (hlt x2 y2 h2).2
          omega
      · rw [Net.setL_ne e1] at h1
        by_cases e2 : x2 = x ∧ y2 = y
        · obtain ⟨rfl, rfl⟩ := e2
          rw [fS, fN e1] at he
          have := (hlt x1 y1 h1).2
          omega
        · rw [Net.setL_ne e2] at h2
          rw [fN e1, fN e2] at he
          exact h.iF x1 y1 x2 y2 h1 h2 he
    · by_cases e : x' = x ∧ y' = y
      · obtain ⟨rfl, rfl⟩ := e
        rw [fS]
        show fm ≠ q.mb
        omega
      · rw [Net.setL_ne e] at hn
        rw [fN e]
        exact h.mF x' y' hn
  · intro k hk
    cases hk with
    | b e => exact .inl (.b e)
    | m e => exact .inl (.m e)
    | c e => exact .inl (.c e)
    | r e => exact .inl (.r e)
    | G x' y' hn e =>
      by_cases e' : x' = x ∧ y' = y
      · obtain ⟨rfl, rfl⟩ := e'; rw [gS] at e; exact .inr (by omega)
      · rw [Net.setL_ne e'] at hn; rw [gN e'] at e; exact .inl (.G x' y' hn e)
    | F x' y' hn e =>
      by_cases e' : x' = x ∧ y' = y
      · obtain ⟨rfl, rfl⟩ := e'; rw [fS] at e; exact .inr (by omega)
      · rw [Net.setL_ne e'] at hn; rw [fN e'] at e; exact .inl (.F x' y' hn e)
    | V x' y' L i hL hi e =>
      by_cases e' : x' = x ∧ y' = y
      · obtain ⟨rfl, rfl⟩ := e'; rw [vS] at e; cases e
      · rw [Net.setL_ne e'] at hL; rw [vN e'] at e; exact .inl (.V x' y' L i hL hi e)
    | d z hz e => exact .inl (.d z hz e)
section
variable {w : World} {b : Nat} {q : NG} {s : Net}
set_option maxRecDepth 100000 in
theorem line_old (h : NetAt w b q s) {x y : ByteArray} {L : Line} (hl : s.lines x y = some L) (hx : x.size ≤ maxLen) (hy : y.size ≤ maxLen) :
    Calls Try.prog 29 #[.pointer (some ⟨b, 0, none⟩), .string x, .string y] w (LineP b q s x y w) := by
  have hba : Below w.heap.size w (w.alloc (.cells #[.string x, .string y] 120)) := by go_grown
  have h1 := h.belowS hba
  obtain ⟨f, hm, hf⟩ := h1.m
  have hlk := (hm.at (w' := (w.alloc (.cells #[.string x, .string y] 120)).drew) rfl).look dirKeyed Try.underlying82 (zeroLine _) (isK_dir hx hy) true
  rw [hf, hl] at hlk
  have c2 := has_cell h1.c 2
  have c0 := has_cell (heap_alloc_new w (.cells #[.string x, .string y] 120)) 0
  have c1 := has_cell (heap_alloc_new w (.cells #[.string x, .string y] 120)) 1
  have HN := Lib.hid h1
  have HL := Lib.hid hl
  clear h hm h1 hl hf
  simp only [Option.map_some, Option.getD_some, Option.isSome_some, if_true, dirV] at hlk
  go_enter Try.func29, Try.ntmps29
  go_wp2_with fail
  go_region
  go_wp2
  go_ret
  have he : s.setL x y (s.get x y) = s := by
    unfold Net.get
    rw [HL.out]
    exact Net.setL_same HL.out
  unfold LineP
  rw [he]
  exact ⟨q, rfl, HN.out.same fun _ _ => rfl, fun k h => .inl h, ((Only.refl _ w).alloc _).drew⟩
set_option maxRecDepth 100000 in
theorem line_new (h : NetAt w b q s) {x y : ByteArray} (hl : s.lines x y = none) (hx : x.size ≤ maxLen) (hy : y.size ≤ maxLen) :
    Calls Try.prog 29 #[.pointer (some ⟨b, 0, none⟩), .string x, .string y] w (LineP b q s x y w) := by
  have hba : Below w.heap.size w (w.alloc (.cells #[.string x, .string y] 120)) := by go_grown
  have h1 := h.belowS hba
  obtain ⟨f, hm, hf⟩ := h1.m
  have hlk := (hm.at (w' := (w.alloc (.cells #[.string x, .string y] 120)).drew) rfl).look dirKeyed Try.underlying82 (zeroLine _) (isK_dir hx hy) true
  rw [hf, hl] at hlk
  have c2 := has_cell h1.c 2
  have cu := has_cell h1.c 0
  have c0 := has_cell (heap_alloc_new w (.cells #[.string x, .string y] 120)) 0
  have c1 := has_cell (heap_alloc_new w (.cells #[.string x, .string y] 120)) 1
  have HN := Lib.hid h1
  have HL := Lib.hid hl
  have hmm := @run_makeMap Try.prog
  have hb3 : Below w.heap.size w (((w.alloc (.cells #[.string x, .string y] 120)).alloc (.map #[] 0)).alloc (.cells #[.int .i64 s.usual, .int .i64 0, .map (some (w.heap.size + 1))] 92)) := (((Below.refl _ w).alloc (Nat.le_refl _) _).alloc (by simp) _).alloc (by simp; omega) _
  have h3 := h.belowS hb3
  obtain ⟨f3, hm3, hf3⟩ := h3.m
  obtain ⟨w4, hst, hm4, hg4⟩ := (hm3.at (w' := (((w.alloc (.cells #[.string x, .string y] 120)).alloc (.map #[] 0)).alloc (.cells #[.int .i64 s.usual, .int .i64 0, .map (some (w.heap.size + 1))] 92)).drew.drew) rfl).store dirKeyed Try.underlying82 (isK_dir hx hy) (.pointer (some ⟨w.heap.size + 1 + 1, 0, none⟩))
  have hlf : MapF Try.prog 3 (((w.alloc (.cells #[.string x, .string y] 120)).alloc (.map #[] 0)).alloc (.cells #[.int .i64 s.usual, .int .i64 0, .map (some (w.heap.size + 1))] 92)) (w.heap.size + 1) (fun _ => none) := by
    have hn := MapF.new Try.prog 3 (w.alloc (.cells #[.string x, .string y] 120))
    rw [World.size_alloc] at hn
    exact hn.belowS ((Below.refl _ _).alloc (Nat.le_refl _) _)
  have hlg : (((w.alloc (.cells #[.string x, .string y] 120)).alloc (.map #[] 0)).alloc (.cells #[.int .i64 s.usual, .int .i64 0, .map (some (w.heap.size + 1))] 92)).heap[w.heap.size + 1 + 1]? = some (.cells #[.int .i64 s.usual, .int .i64 0, .map (some (w.heap.size + 1))] 92 (0, 0)) := heap_at (by simp)
  have hmlt := h.al_lt (NAl.m rfl)
  have hsz : (((w.alloc (.cells #[.string x, .string y] 120)).alloc (.map #[] 0)).alloc (.cells #[.int .i64 s.usual, .int .i64 0, .map (some (w.heap.size + 1))] 92)).heap.size = w.heap.size + 3 := by simp
  have HF := Lib.hid (NetAt.add (w' := w4) h hl (g := w.heap.size + 1 + 1) (fm := w.heap.size + 1) (by omega) (by omega) ((hg4.block _ (show w.heap.size + 1 + 1 < (((w.alloc (.cells #[.string x, .string y] 120)).alloc (.map #[] 0)).alloc (.cells #[.int .i64 s.usual, .int .i64 0, .map (some (w.heap.size + 1))] 92)).heap.size by omega) (fun e => by have := Option.some.inj e; omega)).trans hlg)
    (hlf.at (hg4.block _ (show w.heap.size + 1 < (((w.alloc (.cells #[.string x, .string y] 120)).alloc (.map #[] 0)).alloc (.cells #[.int .i64 s.usual, .int .i64 0, .map (some (w.heap.size + 1))] 92)).heap.size by omega) (fun e => by have := Option.some.inj e; omega))) (fun k hk hne => (hg4.block k (show k < (((w.alloc (.cells #[.string x, .string y] 120)).alloc (.map #[] 0)).alloc (.cells #[.int .i64 s.usual, .int .i64 0, .map (some (w.heap.size + 1))] 92)).heap.size by omega) (fun e => hne (Option.some.inj e))).trans (hb3.block k hk)) hf3 hm4)
  have HO := Lib.hid (show Only (NAl b q s) w w4 from ⟨hg4.os.trans hb3.os, hg4.tape.trans hb3.tape, hg4.output.trans hb3.output, Nat.le_trans (show w.heap.size ≤ (((w.alloc (.cells #[.string x, .string y] 120)).alloc (.map #[] 0)).alloc (.cells #[.int .i64 s.usual, .int .i64 0, .map (some (w.heap.size + 1))] 92)).heap.size by omega) hg4.size, fun k hk hn => (hg4.block k (show k < (((w.alloc (.cells #[.string x, .string y] 120)).alloc (.map #[] 0)).alloc (.cells #[.int .i64 s.usual, .int .i64 0, .map (some (w.heap.size + 1))] 92)).heap.size by omega) (fun e => hn (.m (Option.some.inj e)))).trans (hb3.block k hk)⟩)
  have c2' := has_cell h3.c 2
  have hd3 := has_alloc (has_alloc (heap_alloc_new w (.cells #[.string x, .string y] 120)) (.map #[] 0)) (.cells #[.int .i64 s.usual, .int .i64 0, .map (some (w.heap.size + 1))] 92)
  have c0' := has_cell hd3 0
  have c1' := has_cell hd3 1
  clear hm3 hm4 hg4 hlf hlg h3 hb3 hf3 hd3
  simp only [dirV] at hst
  clear h hm h1 hl hf f
  simp only [Option.map_none, Option.getD_none, Option.isSome_none, if_true, dirV] at hlk
  go_enter Try.func29, Try.ntmps29
  go_wp2_with fail
  go_region
  go_wp2_with fail
  go_region
  go_wp2
  go_ret
  exact ⟨q.add x y (w.heap.size + 1 + 1) (w.heap.size + 1), by rw [show (q.add x y (w.heap.size + 1 + 1) (w.heap.size + 1)).G x y = w.heap.size + 1 + 1 from if_pos ⟨rfl, rfl⟩]; rfl, HF.out.1, HF.out.2, HO.out⟩
theorem line_any (h : NetAt w b q s) {x y : ByteArray} (hx : x.size ≤ maxLen) (hy : y.size ≤ maxLen) :
    Calls Try.prog 29 #[.pointer (some ⟨b, 0, none⟩), .string x, .string y] w (LineP b q s x y w) := by
  cases hl : s.lines x y with
  | none => exact line_new h hl hx hy
  | some L => exact line_old h hl hx hy
end
end Go.Proofs.Ytkhiepjlfbjgdaa

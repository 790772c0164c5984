/- network: changes of its own cells and lists; Cut. Conditions: each contract names its own. network: Cut. Conditions: there is room for one cut more. -/
import Derived.Test.YtkhiepjlfbjgdaaZNwF
namespace Go.Proofs.Ytkhiepjlfbjgdaa
open Go.RowKit

section
variable {w w' : World} {b : Nat} {q q' : NG} {s s' : Net}
/-- The lines stay where the network's own cells, its cuts and its arrivals alone are changed. -/
theorem NetAt.keepM (h : NetAt w b q s) (hO : ∀ k, k < w.heap.size → k ≠ b → q.vc.ownBlock ≠ some k → q.va.ownBlock ≠ some k → w'.heap[k]? = w.heap[k]?) :
    (∃ f, MapF Try.prog 120 w' q.mb f ∧ ∀ x y, f (dirV x y) = (s.lines x y).map fun _ => .pointer (some ⟨q.G x y, 0, none⟩)) ∧ ∀ x y L, s.lines x y = some L → LineAt w' (q.G x y) (q.F x y) (q.V x y) L := by
  have cell : ∀ {k : Nat} {t : TypeId} {cs : Array Value} {fr : Nat × Nat}, w.heap[k]? = some (.cells cs t fr) → t ≠ 86 → t ≠ 102 → t ≠ 98 → w'.heap[k]? = w.heap[k]? := fun hk t1 t2 t3 => by
    refine hO _ (lt_of_block hk) (type_ne hk h.c t1) (fun e => ?_) (fun e => ?_)
    · obtain ⟨cur, hc⟩ := h.k.elem _ e; exact type_ne hk hc t2 rfl
    · obtain ⟨cur, hc⟩ := h.r.elem _ e; exact type_ne hk hc t3 rfl
  have mp : ∀ {k : Nat} {t : TypeId} {f : Value → Option Value}, MapF Try.prog t w k f → w'.heap[k]? = w.heap[k]? := fun hm => by
    refine hO _ hm.lt (hm.ne h.c) (fun e => ?_) (fun e => ?_)
    · obtain ⟨cur, hc⟩ := h.k.elem _ e; exact hm.ne hc rfl
    · obtain ⟨cur, hc⟩ := h.r.elem _ e; exact hm.ne hc rfl
  constructor
  · obtain ⟨f, hm, hf⟩ := h.m
    exact ⟨f, hm.at (mp hm), hf⟩
  · intro x y L hl
    have hL := h.l x y L hl
    obtain ⟨ff, hm, _⟩ := hL.m
    refine hL.same (cell hL.c (by decide) (by decide) (by decide)) (mp hm) fun i k hi hk => ?_
    cases hfi : L.fates i with
    | none => exact absurd hfi hi
    | some l => obtain ⟨cur, hc⟩ := (hL.o i l hfi).elem k hk; exact cell hc (by decide) (by decide) (by decide)
theorem NetAt.re (h : NetAt w b q s) (hO : ∀ k, k < w.heap.size → k ≠ b → q.vc.ownBlock ≠ some k → q.va.ownBlock ≠ some k → w'.heap[k]? = w.heap[k]?) (e1 : q'.mb = q.mb) (e2 : q'.G = q.G) (e3 : q'.F = q.F) (e4 : q'.V = q.V) (e5 : s'.lines = s.lines)
    (c : w'.heap[b]? = some (.cells #[.int .i64 s'.usual, .int .i64 s'.present, .map (some q.mb), q'.vc, q'.va, .int .i64 s'.msgs, .int .i64 s'.lost] 86 (0, 0))) (k : OL w' 102 4 q'.vc s'.cuts.length (cutCells s'.cuts))
    (r : OL w' 98 6 q'.va q'.A.length (arrCells q'.A)) (a : q'.A.map Prod.fst = s'.arr) (d : ∀ x ∈ q'.A, OL w' 5 1 x.2 x.1.data.length (bys x.1.data)) (i : q'.A.Pairwise fun x y => ∀ g, x.2.ownBlock = some g → y.2.ownBlock ≠ some g) : NetAt w' b q' s' := by
  obtain ⟨hm, hl⟩ := h.keepM hO
  exact { c := by rw [e1]; exact c, m := by rw [e1, e2, e5]; exact hm, l := by rw [e2, e3, e4, e5]; exact hl, iG := by rw [e2, e5]; exact h.iG, iF := by rw [e3, e5]; exact h.iF, mF := by rw [e3, e5, e1]; exact h.mF, k := k, r := r, a := a, d := d, i := i }
theorem NAl.re {k : Nat} (hk : NAl b q' s' k) (e1 : q'.mb = q.mb) (e2 : q'.G = q.G) (e3 : q'.F = q.F) (e4 : q'.V = q.V) (e5 : s'.lines = s.lines) : NAl b q s k ∨ q'.vc.ownBlock = some k ∨ q'.va.ownBlock = some k ∨ ∃ x ∈ q'.A, x.2.ownBlock = some k := by
  cases hk with
  | b e => exact .inl (.b e)
  | m e => exact .inl (.m (by rw [← e1]; exact e))
  | c e => exact .inr (.inl e)
  | r e => exact .inr (.inr (.inl e))
  | G x y hn e => rw [e5] at hn; rw [e2] at e; exact .inl (.G x y hn e)
  | F x y hn e => rw [e5] at hn; rw [e3] at e; exact .inl (.F x y hn e)
  | V x y L i hl hi e => rw [e5] at hl; rw [e4] at e; exact .inl (.V x y L i hl hi e)
  | d z hz e => exact .inr (.inr (.inr ⟨z, hz, e⟩))
/-- The numbers of the network are changed. -/
theorem NetAt.nums (h : NetAt w b q s) (p m l : Int) (hc : w'.heap[b]? = some (.cells #[.int .i64 s.usual, .int .i64 p, .map (some q.mb), q.vc, q.va, .int .i64 m, .int .i64 l] 86 (0, 0))) (hO : ∀ k, k < w.heap.size → k ≠ b → w'.heap[k]? = w.heap[k]?) :
    NetAt w' b q { s with present := p, msgs := m, lost := l } := by
  have own : ∀ {e : TypeId} {size n : Nat} {v : Value} {xs : List Value} {k : Nat}, OL w e size v n xs → v.ownBlock = some k → e ≠ 86 → w'.heap[k]? = w.heap[k]? := fun ho hk ht => by
    obtain ⟨cur, hcc⟩ := ho.elem _ hk
    exact hO _ (lt_of_block hcc) (type_ne hcc h.c ht)
  exact h.re (q' := q) (s' := { s with present := p, msgs := m, lost := l }) (fun k hk h1 _ _ => hO k hk h1) rfl rfl rfl rfl rfl hc (h.k.heap fun k hk => own h.k hk (by decide)) (h.r.heap fun k hk => own h.r hk (by decide)) h.a (fun x hx => (h.d x hx).heap fun k hk => own (h.d x hx) hk (by decide)) h.i
theorem NAl.nums {p m l : Int} {k : Nat} (hk : NAl b q { s with present := p, msgs := m, lost := l } k) : NAl b q s k := by
  cases hk with
  | b e => exact .b e
  | m e => exact .m e
  | c e => exact .c e
  | r e => exact .r e
  | G x y hn e => exact .G x y hn e
  | F x y hn e => exact .F x y hn e
  | V x y L i hl hi e => exact .V x y L i hl hi e
  | d z hz e => exact .d z hz e
end
end Go.Proofs.Ytkhiepjlfbjgdaa

namespace Go.Proofs.Ytkhiepjlfbjgdaa
open Go.RowKit

theorem infoCut : (Try.prog.info? 102).map (fun i => (i.zero, i.size, i.bytes)) = some (some (.agg #[.string ByteArray.empty, .string ByteArray.empty, .int .i64 0, .int .i64 0]), 4, 48) := by kernel_rfl
theorem cut_order (b : Nat) (x y : ByteArray) (i j : Int) (w : World) (h : j < i) : Calls Try.prog 21 #[.pointer (some ⟨b, 0, none⟩), .string x, .string y, .int .i64 i, .int .i64 j] w fun e w' => e = .returned (.iface 48 (.int .i64 7)) ∧ w' = w := by
  have d : decide (j < i) = true := by simp; omega
  go_enter Try.func21, Try.ntmps21
  go_wp2
  go_ret
  exact ⟨rfl, rfl⟩
def Net.cut (s : Net) (x y : ByteArray) (i j : Int) : Net := { s with cuts := s.cuts ++ [⟨x, y, i, j⟩] }
section
variable {w : World} {P : Nat → Prop} {b : Nat} {s : Net}
set_option maxRecDepth 100000 in
theorem cut_ok (h : NS w P b s) (x y : ByteArray) (i j : Int) (hij : i ≤ j) (hn : s.cuts.length ≤ 1000) :
    Calls Try.prog 21 #[.pointer (some ⟨b, 0, none⟩), .string x, .string y, .int .i64 i, .int .i64 j] w (NPost P b .nilIface (s.cut x y i j) w) := by
  obtain ⟨q, hN, hA⟩ := h
  have hba : Below w.heap.size w (w.alloc (.cells #[.string x, .string y, .int .i64 i, .int .i64 j] 102)) := by go_grown
  have h1 := hN.belowS hba
  obtain ⟨ti, hi, iz, is, ib⟩ := info_parts infoCut
  have hsrc : Src Try.prog 4 83 (.slice (some ⟨w.heap.size, 0, none⟩) 1 1) 1 [.string x, .string y, .int .i64 i, .int .i64 j] (w.alloc (.cells #[.string x, .string y, .int .i64 i, .int .i64 j] 102)) :=
    (OL.of_block (cs := [.string x, .string y, .int .i64 i, .int .i64 j]) (size := 4) (n := 1) (heap_alloc_new w _) rfl (by simp [maxLen])).src Try.underlying83 (fun u hu => by simp at hu; rcases hu with rfl | rfl | rfl | rfl <;> rfl)
  obtain ⟨v', w', hap, ho, hgr, hown⟩ := h1.k.append (P := Try.prog) 83 83 83 ti _ 48 Try.underlying83 hi iz is ib rfl (by omega) hsrc (by unfold maxLen; omega) (by omega)
  obtain ⟨g', off', cap', rfl, _, _, _⟩ := ho.form (by omega)
  have ho' : OL w' 102 4 (Value.slice (some ⟨g', off', none⟩) (s.cuts.length + 1) cap') (s.cut x y i j).cuts.length (cutCells (s.cut x y i j).cuts) := by
    have e : cutCells (s.cut x y i j).cuts = cutCells s.cuts ++ [.string x, .string y, .int .i64 i, .int .i64 j] := by rw [Net.cut, cutCells_append]; rfl
    have e2 : (s.cut x y i j).cuts.length = s.cuts.length + 1 := by simp [Net.cut]
    rw [e, e2]; exact ho
  have hb' : w'.heap[b]? = _ := (hgr.block b (lt_of_block h1.c) (fun e => by obtain ⟨cur, hc⟩ := h1.k.elem b e.symm; exact type_ne h1.c hc (by decide) rfl)).trans h1.c
  have hne : (Value.slice (some ⟨g', off', none⟩) (s.cuts.length + 1) cap').ownBlock ≠ some b := fun e => by
    obtain ⟨cur, hc⟩ := ho.elem b e
    exact type_ne hc hb' (by decide) rfl
  have oth : ∀ k, k < (w.alloc (.cells #[.string x, .string y, .int .i64 i, .int .i64 j] 102)).heap.size → k ≠ b → q.vc.ownBlock ≠ some k → (w'.setCell ⟨b, 3, none⟩ (Value.slice (some ⟨g', off', none⟩) (s.cuts.length + 1) cap')).heap[k]? = (w.alloc (.cells #[.string x, .string y, .int .i64 i, .int .i64 j] 102)).heap[k]? := fun k hk h1 h2 => (setCell_other h1).trans (hgr.block k hk (fun e => h2 e.symm))
  have cell : ∀ {e : TypeId} {size n : Nat} {v : Value} {xs : List Value} {k : Nat}, OL (w.alloc (.cells #[.string x, .string y, .int .i64 i, .int .i64 j] 102)) e size v n xs → v.ownBlock = some k → e ≠ 86 → e ≠ 102 → (w'.setCell ⟨b, 3, none⟩ (Value.slice (some ⟨g', off', none⟩) (s.cuts.length + 1) cap')).heap[k]? = (w.alloc (.cells #[.string x, .string y, .int .i64 i, .int .i64 j] 102)).heap[k]? := fun ho hk t1 t2 => by
    obtain ⟨cur, hc⟩ := ho.elem _ hk
    exact oth _ (lt_of_block hc) (type_ne hc h1.c t1) (fun e => by obtain ⟨cur2, hc2⟩ := h1.k.elem _ e; exact type_ne hc hc2 t2 rfl)
  have hF : NetAt (w'.setCell ⟨b, 3, none⟩ (Value.slice (some ⟨g', off', none⟩) (s.cuts.length + 1) cap')) b { q with vc := (Value.slice (some ⟨g', off', none⟩) (s.cuts.length + 1) cap') } (s.cut x y i j) := h1.re (q' := { q with vc := (Value.slice (some ⟨g', off', none⟩) (s.cuts.length + 1) cap') }) (s' := s.cut x y i j) (fun k hk e1 e2 _ => oth k hk e1 e2) rfl rfl rfl rfl rfl (setCell_heap_self hb') (ho'.heap fun k hk => setCell_other (fun e => hne (by rw [← e]; exact hk)))
    (h1.r.heap fun k hk => cell h1.r hk (by decide) (by decide)) h1.a (fun z hz => (h1.d z hz).heap fun k hk => cell (h1.d z hz) hk (by decide) (by decide)) h1.i
  have hP : ∀ k, NAl b { q with vc := (Value.slice (some ⟨g', off', none⟩) (s.cuts.length + 1) cap') } (s.cut x y i j) k → grow P w k := fun k hk => by
    rcases NAl.re (q := q) (s := s) hk rfl rfl rfl rfl rfl with e | e | e | ⟨z, hz, e⟩
    · exact .inl (hA k e)
    · rcases hown with h2 | h2
      · exact .inl (hA k (.c (h2 ▸ e)))
      · have h3 : (some (w.alloc (.cells #[.string x, .string y, .int .i64 i, .int .i64 j] 102)).heap.size) = some k := h2 ▸ e
        simp at h3
        exact .inr (by omega)
    · exact .inl (hA k (.r e))
    · exact .inl (hA k (.d z hz e))
  have hOn : Only P w (w'.setCell ⟨b, 3, none⟩ (Value.slice (some ⟨g', off', none⟩) (s.cuts.length + 1) cap')) := ((((Only.refl P w).alloc _).grown hgr (fun k hk => .inl (hA k (.c hk)))).setCell (p := ⟨b, 3, none⟩) (.inl (hA b (.b rfl))) (Value.slice (some ⟨g', off', none⟩) (s.cuts.length + 1) cap'))
  have HR := Lib.hid (And.intro hF (And.intro hP hOn))
  have c3 : w.cell? ⟨b, 3, none⟩ = some q.vc := has_cell hN.c 3
  have f3 := has_free hb' 3
  have c3' := has_cell hb' 3
  have HAP := Lib.hid hap
  have d : decide (j < i) = false := by simp; omega
  obtain ⟨ao, cap, hvc⟩ : ∃ ao cap, q.vc = .slice ao s.cuts.length cap := by
    rcases hN.k.forms with ⟨e, e0⟩ | ⟨g, off, cap, e, _⟩
    · exact ⟨none, 0, by rw [e, e0]⟩
    · exact ⟨_, cap, e⟩
  clear hF hP hOn hap oth cell hne hgr hown ho ho' hsrc hN hA h1 hb'
  rw [hvc] at c3 HAP
  go_enter Try.func21, Try.ntmps21
  go_wp2_with (refine wpList_append_run (v := .slice ao s.cuts.length cap) (xv := .slice (some ⟨w.heap.size, 0, none⟩) 1 1) rfl (.tmp 24) (.tmp 30) _ _ rfl (by rfl) (by rfl) HAP.out ?_)
  go_ret
  exact ⟨rfl, ⟨_, HR.out.1, HR.out.2.1⟩, HR.out.2.2⟩
end
end Go.Proofs.Ytkhiepjlfbjgdaa

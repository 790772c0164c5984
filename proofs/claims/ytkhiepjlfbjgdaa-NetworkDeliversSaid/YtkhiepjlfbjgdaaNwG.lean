/- network: changes of its own cells and lists; Cut. Conditions: each contract names its own. -/
import Derived.Test.YtkhiepjlfbjgdaaNwF
namespace Go.Proofs.Ytkhiepjlfbjgdaa
open Go.RowKit

section
variable {w w' : World} {b : Nat} {q q' : NG} {s s' : Net}
/-- The lines stay where the network's own cells, its cuts and its arrivals alone are changed. -/
theorem NetAt.keepM (h : NetAt w b q s) (hO : ∀ k, k < w.heap.size → k ≠ b → q.vc.ownBlock ≠ some k → q.va.ownBlock ≠ some k → w'.heap[k]? = w.heap[k]?) :
    (∃ f, MapF Try.prog 120 w' q.mb f ∧ ∀ x y, f (dirV x y) = (s.lines x y).map fun _ => .pointer (some ⟨q.G x y, 0, none⟩)) ∧ ∀ x y L, s.lines x y = some L → LineAt w' (q.G x y) (q.F x y) (q.V x y) L := by
  have cell : ∀ {k : Nat} {t : TypeId} {cs : Array Value} {fr : Nat × Nat}, w.heap[k]? = some (.cells cs t fr) → t ≠ 86 → t ≠ 102 → t ≠ 98 → w'.heap[k]? = w.heap[k]? := fun hk t1 t2 t3 => by
    refine hO _ (lt_of_block hk) (type_ne hk h.c t1) (fun e => ?_) (fun e => ?_)
    · obtain ⟨cur, hc⟩ := h.k.elem _ e; exact type_ne hk hc t2 rfl
    · obtain ⟨cur, hc⟩ := h.r.elem _ e; exact type_ne hk hc t3 rfl
  have mp : ∀ {k : Nat} {t : TypeId} {f : Value → Option Value}, MapF Try.prog t w k f → w'.heap[k]? = w.heap[k]? := fun hm => by
    refine hO _ hm.lt (hm.ne h.c) (fun e => ?_) (fun e => ?_)
    · obtain ⟨cur, hc⟩ := h.k.elem _ e; exact hm.ne hc rfl
    · obtain ⟨cur, hc⟩ := h.r.elem _ e; exact hm.ne hc rfl
  constructor
  · obtain ⟨f, hm, hf⟩ := h.m
    exact ⟨f, hm.at (mp hm), hf⟩
  · intro x y L hl
    have hL := h.l x y L hl
    obtain ⟨ff, hm, _⟩ := hL.m
    refine hL.same (cell hL.c (by decide) (by decide) (by decide)) (mp hm) fun i k hi hk => ?_
    cases hfi : L.fates i with
    | none => exact absurd hfi hi
    | some l => obtain ⟨cur, hc⟩ := (hL.o i l hfi).elem k hk; exact cell hc (by decide) (by decide) (by decide)
theorem NetAt.re (h : NetAt w b q s) (hO : ∀ k, k < w.heap.size → k ≠ b → q.vc.ownBlock ≠ some k → q.va.ownBlock ≠ some k → w'.heap[k]? = w.heap[k]?) (e1 : q'.mb = q.mb) (e2 : q'.G = q.G) (e3 : q'.F = q.F) (e4 : q'.V = q.V) (e5 : s'.lines = s.lines)
    (c : w'.heap[b]? = some (.cells #[.int .i64 s'.usual, .int .i64 s'.present, .map (some q.mb), q'.vc, q'.va, .int .i64 s'.msgs, .int .i64 s'.lost] 86 (0, 0))) (k : OL w' 102 4 q'.vc s'.cuts.length (cutCells s'.cuts))
    (r : OL w' 98 6 q'.va q'.A.length (arrCells q'.A)) (a : q'.A.map Prod.fst = s'.arr) (d : ∀ x ∈ q'.A, OL w' 5 1 x.2 x.1.data.length (bys x.1.data)) (i : q'.A.Pairwise fun x y => ∀ g, x.2.ownBlock = some g → y.2.ownBlock ≠ some g) : NetAt w' b q' s' := by
  obtain ⟨hm, hl⟩ := h.keepM hO
  exact { c := by rw [e1]; exact c, m := by rw [e1, e2, e5]; exact hm, l := by rw [e2, e3, e4, e5]; exact hl, iG := by rw [e2, e5]; exact h.iG, iF := by rw [e3, e5]; exact h.iF, mF := by rw [e3, e5, e1]; exact h.mF, k := k, r := r, a := a, d := d, i := i }
theorem NAl.re {k : Nat} (hk : NAl b q' s' k) (e1 : q'.mb = q.mb) (e2 : q'.G = q.G) (e3 : q'.F = q.F) (e4 : q'.V = q.V) (e5 : s'.lines = s.lines) : NAl b q s k ∨ q'.vc.ownBlock = some k ∨ q'.va.ownBlock = some k ∨ ∃ x ∈ q'.A, x.2.ownBlock = some k := by
  cases hk with
  | b e => exact .inl (.b e)
  | m e => exact .inl (.m (by rw [← e1]; exact e))
  | c e => exact .inr (.inl e)
  | r e => exact .inr (.inr (.inl e))
  | G x y hn e => rw [e5] at hn; rw [e2] at e; exact .inl (.G x y hn e)
  | F x y hn e => rw [e5] at hn; rw [e3] at e; exact .inl (.F x y hn e)
  | V x y L i hl hi e => rw [e5] at hl; rw [e4] at e; exact .inl (.V x y L i hl hi e)
  | d z hz e => exact .inr (.inr (.inr ⟨z, hz, e⟩))
/-- The numbers of the network are changed. -/
theorem NetAt.nums (h : NetAt w b q s) (p m l : Int) (hc : w'.heap[b]? = some (.cells #[.int .i64 s.usual, .int .i64 p, .map (some q.mb), q.vc, q.va, .int .i64 m, .int .i64 l] 86 (0, 0))) (hO : ∀ k, k < w.heap.size → k ≠ b → w'.heap[k]? = w.heap[k]?) :
    NetAt w' b q { s with present := p, msgs := m, lost := l } := by
  have own : ∀ {e : TypeId} {size n : Nat} {v : Value} {xs : List Value} {k : Nat}, OL w e size v n xs → v.ownBlock = some k → e ≠ 86 → w'.heap[k]? = w.heap[k]? := fun ho hk ht => by
    obtain ⟨cur, hcc⟩ := ho.elem _ hk
    exact hO _ (lt_of_block hcc) (type_ne hcc h.c ht)
  exact h.re (q' := q) (s' := { s with present := p, msgs := m, lost := l }) (fun k hk h1 _ _ => hO k hk h1) rfl rfl rfl rfl rfl hc (h.k.heap fun k hk => own h.k hk (by decide)) (h.r.heap fun k hk => own h.r hk (by decide)) h.a (fun x hx => (h.d x hx).heap fun k hk => own (h.d x hx) hk (by decide)) h.i
theorem NAl.nums {p m l : Int} {k : Nat} (hk : NAl b q { s with present := p, msgs := m, lost := l } k) : NAl b q s k := by
  cases hk with
  | b e => exact .b e
  | m e => exact .m e
  | c e => exact .c e
  | r e => exact .r e
  | G x y hn e => exact .G x y hn e
  | F x y hn e => exact .F x y hn e
  | V x y L i hl hi e => exact .V x y L i hl hi e
  | d z hz e => exact .d z hz e
end
end Go.Proofs.Ytkhiepjlfbjgdaa

/- network: a delivery is appended to the arrivals. Conditions: there is room. -/
import Derived.Test.YtkhiepjlfbjgdaaZNwP
namespace Go.Proofs.Ytkhiepjlfbjgdaa
open Go.RowKit

theorem infoArr : (Try.prog.info? 98).map (fun i => (i.zero, i.size, i.bytes)) = some (some (.agg #[.int .i64 0, .string ByteArray.empty, .string ByteArray.empty, .slice none 0 0, .int .i64 0, .int .i64 0]), 6, 80) := by kernel_rfl
def Net.push (s : Net) (a : Arr) : Net := { s with arr := s.arr ++ [a] }
/-- What appending a delivery leaves, a store ahead of the end. -/
def PushP (b : Nat) (q : NG) (s : Net) (a : Arr) (dv : Value) (w : World) (ao : Option Addr) (cap : Nat) (w' : World) (g off c : Nat) : Prop :=
  (Builtin.append_ #[84, 84] 84 #[.slice ao q.A.length cap, .slice (some ⟨w.heap.size, 0, none⟩) 1 1]).run Try.prog (w.alloc (.cells #[.int .i64 a.t, .string a.a, .string a.b, dv, .int .i64 a.msg, .int .i64 a.copy] 98)) = .ok (.slice (some ⟨g, off, none⟩) (q.A.length + 1) c) w' ∧
  (∃ u, w'.cell? ⟨b, 4, none⟩ = some u) ∧ w'.frozen? ⟨b, 4, none⟩ = false ∧
  NetAt (w'.setCell ⟨b, 4, none⟩ (.slice (some ⟨g, off, none⟩) (q.A.length + 1) c)) b { q with va := (.slice (some ⟨g, off, none⟩) (q.A.length + 1) c), A := q.A ++ [(a, dv)] } (s.push a) ∧
  (∀ k, NAl b { q with va := (.slice (some ⟨g, off, none⟩) (q.A.length + 1) c), A := q.A ++ [(a, dv)] } (s.push a) k → NAl b q s k ∨ dv.ownBlock = some k ∨ w.heap.size ≤ k) ∧
  Only (NAl b q s) w (w'.setCell ⟨b, 4, none⟩ (.slice (some ⟨g, off, none⟩) (q.A.length + 1) c)) ∧
  (∀ (k : Nat) (t : TypeId) (cs : Array Value) (fr : Nat × Nat), w.heap[k]? = some (Obj.cells cs t fr) → t ≠ 86 → t ≠ 98 → (w'.setCell ⟨b, 4, none⟩ (.slice (some ⟨g, off, none⟩) (q.A.length + 1) c)).heap[k]? = w.heap[k]?) ∧
  (∀ (k : Nat) (t : TypeId) (cs : Array Value) (fr : Nat × Nat), w.heap[k]? = some (Obj.cells cs t fr) → t ≠ 98 → w'.heap[k]? = w.heap[k]?)
section
variable {w : World} {b : Nat} {q : NG} {s : Net}
theorem NetAt.vaform (h : NetAt w b q s) : ∃ ao cap, q.va = .slice ao q.A.length cap := by
  rcases h.r.forms with ⟨e, e0⟩ | ⟨g, off, cap, e, _⟩
  · exact ⟨none, 0, by rw [e, e0]⟩
  · exact ⟨_, cap, e⟩
theorem NetAt.pushed (h : NetAt w b q s) (a : Arr) (dv : Value) (hdv : OL w 5 1 dv a.data.length (bys a.data)) (hf : ∀ g, dv.ownBlock = some g → ∀ x ∈ q.A, x.2.ownBlock ≠ some g) (hn : q.A.length ≤ 1000000) {ao : Option Addr} {cap : Nat} (hva : q.va = .slice ao q.A.length cap) :
    ∃ w' g off c, PushP b q s a dv w ao cap w' g off c := by
  have hba : Below w.heap.size w (w.alloc (.cells #[.int .i64 a.t, .string a.a, .string a.b, dv, .int .i64 a.msg, .int .i64 a.copy] 98)) := by go_grown
  have h1 := h.belowS hba
  have hdv1 := hdv.below hba (fun g hg => hdv.lt g hg)
  obtain ⟨ti, hi, iz, is, ib⟩ := info_parts infoArr
  have hone : dv.oneCell' = true := by
    rcases hdv.forms with ⟨e, _⟩ | ⟨g, off, cap, e, _⟩ <;> rw [e] <;> rfl
  have hsrc : Src Try.prog 6 84 (.slice (some ⟨w.heap.size, 0, none⟩) 1 1) 1 [.int .i64 a.t, .string a.a, .string a.b, dv, .int .i64 a.msg, .int .i64 a.copy] (w.alloc (.cells #[.int .i64 a.t, .string a.a, .string a.b, dv, .int .i64 a.msg, .int .i64 a.copy] 98)) :=
    (OL.of_block (cs := [.int .i64 a.t, .string a.a, .string a.b, dv, .int .i64 a.msg, .int .i64 a.copy]) (size := 6) (n := 1) (heap_alloc_new w _) rfl (by simp [maxLen])).src Try.underlying84 (fun u hu => by simp at hu; rcases hu with rfl | rfl | rfl | rfl | rfl | rfl <;> first | exact hone | rfl)
  obtain ⟨v', w', hap, ho, hgr, hown⟩ := h1.r.append (P := Try.prog) 84 84 84 ti _ 80 Try.underlying84 hi iz is ib rfl (by omega) hsrc (by unfold maxLen; omega) (by omega)
  obtain ⟨g', off', cap', rfl, _, _, _⟩ := ho.form (by omega)
  have hb' : w'.heap[b]? = _ := (hgr.block b (lt_of_block h1.c) (fun e => by obtain ⟨cur, hc⟩ := h1.r.elem b e.symm; exact type_ne h1.c hc (by decide) rfl)).trans h1.c
  have hne : (Value.slice (some ⟨g', off', none⟩) (q.A.length + 1) cap').ownBlock ≠ some b := fun e => by
    obtain ⟨cur, hc⟩ := ho.elem b e
    exact type_ne hc hb' (by decide) rfl
  have oth : ∀ k, k < (w.alloc (.cells #[.int .i64 a.t, .string a.a, .string a.b, dv, .int .i64 a.msg, .int .i64 a.copy] 98)).heap.size → k ≠ b → q.va.ownBlock ≠ some k → (w'.setCell ⟨b, 4, none⟩ (Value.slice (some ⟨g', off', none⟩) (q.A.length + 1) cap')).heap[k]? = (w.alloc (.cells #[.int .i64 a.t, .string a.a, .string a.b, dv, .int .i64 a.msg, .int .i64 a.copy] 98)).heap[k]? := fun k hk h1 h2 => (setCell_other h1).trans (hgr.block k hk (fun e => h2 e.symm))
  have cellT : ∀ {k : Nat} {t : TypeId} {cs : Array Value} {fr : Nat × Nat}, (w.alloc (.cells #[.int .i64 a.t, .string a.a, .string a.b, dv, .int .i64 a.msg, .int .i64 a.copy] 98)).heap[k]? = some (.cells cs t fr) → t ≠ 86 → t ≠ 98 → (w'.setCell ⟨b, 4, none⟩ (Value.slice (some ⟨g', off', none⟩) (q.A.length + 1) cap')).heap[k]? = (w.alloc (.cells #[.int .i64 a.t, .string a.a, .string a.b, dv, .int .i64 a.msg, .int .i64 a.copy] 98)).heap[k]? := fun hk t1 t2 =>
    oth _ (lt_of_block hk) (type_ne hk h1.c t1) (fun e => by obtain ⟨cur2, hc2⟩ := h1.r.elem _ e; exact type_ne hk hc2 t2 rfl)
  have cell : ∀ {e : TypeId} {size n : Nat} {v : Value} {xs : List Value} {k : Nat}, OL (w.alloc (.cells #[.int .i64 a.t, .string a.a, .string a.b, dv, .int .i64 a.msg, .int .i64 a.copy] 98)) e size v n xs → v.ownBlock = some k → e ≠ 86 → e ≠ 98 → (w'.setCell ⟨b, 4, none⟩ (Value.slice (some ⟨g', off', none⟩) (q.A.length + 1) cap')).heap[k]? = (w.alloc (.cells #[.int .i64 a.t, .string a.a, .string a.b, dv, .int .i64 a.msg, .int .i64 a.copy] 98)).heap[k]? := fun ho hk t1 t2 => by
    obtain ⟨cur, hc⟩ := ho.elem _ hk
    exact cellT hc t1 t2
  have eA : arrCells (q.A ++ [(a, dv)]) = arrCells q.A ++ [.int .i64 a.t, .string a.a, .string a.b, dv, .int .i64 a.msg, .int .i64 a.copy] := by rw [arrCells_append]; rfl
  have hF : NetAt (w'.setCell ⟨b, 4, none⟩ (Value.slice (some ⟨g', off', none⟩) (q.A.length + 1) cap')) b { q with va := (Value.slice (some ⟨g', off', none⟩) (q.A.length + 1) cap'), A := q.A ++ [(a, dv)] } (s.push a) := by
    refine h1.re (q' := { q with va := (Value.slice (some ⟨g', off', none⟩) (q.A.length + 1) cap'), A := q.A ++ [(a, dv)] }) (s' := s.push a) (fun k hk e1 e2 e3 => oth k hk e1 e3) rfl rfl rfl rfl rfl (setCell_heap_self hb') (h1.k.heap fun k hk => cell h1.k hk (by decide) (by decide)) ?_ ?_ ?_ ?_
    · show OL _ _ 6 _ (q.A ++ [(a, dv)]).length (arrCells (q.A ++ [(a, dv)]))
      rw [eA, List.length_append]
      exact ho.heap fun k hk => setCell_other (fun e => hne (by rw [← e]; exact hk))
    · show (q.A ++ [(a, dv)]).map Prod.fst = s.arr ++ [a]
      rw [List.map_append, h1.a]; rfl
    · intro z hz
      rcases List.mem_append.1 hz with hz | hz
      · exact (h1.d z hz).heap fun k hk => cell (h1.d z hz) hk (by decide) (by decide)
      · obtain rfl := List.mem_singleton.1 hz
        exact hdv1.heap fun k hk => cell hdv1 hk (by decide) (by decide)
    · show (q.A ++ [(a, dv)]).Pairwise _
      rw [List.pairwise_append]
      refine ⟨h1.i, by simp, fun z hz y hy g hg e => ?_⟩
      obtain rfl := List.mem_singleton.1 hy
      exact hf g e z hz hg
  have hP : ∀ k, NAl b { q with va := (Value.slice (some ⟨g', off', none⟩) (q.A.length + 1) cap'), A := q.A ++ [(a, dv)] } (s.push a) k → NAl b q s k ∨ dv.ownBlock = some k ∨ w.heap.size ≤ k := fun k hk => by
    rcases NAl.re (q := q) (s := s) hk rfl rfl rfl rfl rfl with e | e | e | ⟨z, hz, e⟩
    · exact .inl e
    · exact .inl (.c e)
    · rcases hown with h2 | h2
      · exact .inl (.r (h2 ▸ e))
      · have h3 : (some (w.alloc (.cells #[.int .i64 a.t, .string a.a, .string a.b, dv, .int .i64 a.msg, .int .i64 a.copy] 98)).heap.size) = some k := h2 ▸ e
        simp at h3
        exact .inr (.inr (by omega))
    · rcases List.mem_append.1 hz with hz | hz
      · exact .inl (.d z hz e)
      · obtain rfl := List.mem_singleton.1 hz
        exact .inr (.inl e)
  have hOn : Only (NAl b q s) w (w'.setCell ⟨b, 4, none⟩ (Value.slice (some ⟨g', off', none⟩) (q.A.length + 1) cap')) := ((((Only.refl _ w).alloc _).grown hgr (fun k hk => .inl (.r hk))).setCell (p := ⟨b, 4, none⟩) (.inl (.b rfl)) (Value.slice (some ⟨g', off', none⟩) (q.A.length + 1) cap'))
  refine ⟨w', g', off', cap', ?_, ⟨_, has_cell hb' 4⟩, has_free hb' 4, hF, hP, hOn, fun k t cs fr hk t1 t2 => (cellT (has_alloc hk _) t1 t2).trans (hba.block k (lt_of_block hk)), fun k t cs fr hk t2 => (hgr.block k (lt_of_block (has_alloc hk _)) (fun e => by obtain ⟨cur2, hc2⟩ := h1.r.elem _ e.symm; exact type_ne (has_alloc hk _) hc2 t2 rfl)).trans (hba.block k (lt_of_block hk))⟩
  rw [← hva]; exact hap
end
end Go.Proofs.Ytkhiepjlfbjgdaa

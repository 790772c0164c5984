/- network: Cut. Conditions: there is room for one cut more. -/
import Derived.Test.YtkhiepjlfbjgdaaNwG
namespace Go.Proofs.Ytkhiepjlfbjgdaa
open Go.RowKit

theorem infoCut : (Try.prog.info? 102).map (fun i => (i.zero, i.size, i.bytes)) = some (some (.agg #[.string ByteArray.empty, .string ByteArray.empty, .int .i64 0, .int .i64 0]), 4, 48) := by kernel_rfl
theorem cut_order (b : Nat) (x y : ByteArray) (i j : Int) (w : World) (h : j < i) : Calls Try.prog 21 #[.pointer (some ⟨b, 0, none⟩), .string x, .string y, .int .i64 i, .int .i64 j] w fun e w' => e = .returned (.iface 48 (.int .i64 7)) ∧ w' = w := by
  have d : decide (j < i) = true := by simp; omega
  go_enter Try.func21, Try.ntmps21
  go_wp2
  go_ret
  exact ⟨rfl, rfl⟩
def Net.cut (s : Net) (x y : ByteArray) (i j : Int) : Net := { s with cuts := s.cuts ++ [⟨x, y, i, j⟩] }
section
variable {w : World} {P : Nat → Prop} {b : Nat} {s : Net}
set_option maxRecDepth 100000 in
theorem cut_ok (h : NS w P b s) (x y : ByteArray) (i j : Int) (hij : i ≤ j) (hn : s.cuts.length ≤ 1000) :
    Calls Try.prog 21 #[.pointer (some ⟨b, 0, none⟩), .string x, .string y, .int .i64 i, .int .i64 j] w (NPost P b .nilIface (s.cut x y i j) w) := by
  obtain ⟨q, hN, hA⟩ := h
  have hba : Below w.heap.size w (w.alloc (.cells #[.string x, .string y, .int .i64 i, .int .i64 j] 102)) := by go_grown
  have h1 := hN.belowS hba
  obtain ⟨ti, hi, iz, is, ib⟩ := info_parts infoCut
  have hsrc : Src Try.prog 4 83 (.slice (some ⟨w.heap.size, 0, none⟩) 1 1) 1 [.string x, .string y, .int .i64 i, .int .i64 j] (w.alloc (.cells #[.string x, .string y, .int .i64 i, .int .i64 j] 102)) :=
    (OL.of_block (cs := [.string x, .string y, .int .i64 i, .int .i64 j]) (size := 4) (n := 1) (heap_alloc_new w _) rfl (by simp [maxLen])).src Try.underlying83 (fun u hu => by simp at hu; rcases hu with rfl | rfl | rfl | rfl <;> rfl)
  obtain ⟨v', w', hap, ho, hgr, hown⟩ := h1.k.append (P := Try.prog) 83 83 83 ti _ 48 Try.underlying83 hi iz is ib rfl (by omega) hsrc (by unfold maxLen; omega) (by omega)
  obtain ⟨g', off', cap', rfl, _, _, _⟩ := ho.form (by omega)
  have ho' : OL w' 102 4 (Value.slice (some ⟨g', off', none⟩) (s.cuts.length + 1) cap') (s.cut x y i j).cuts.length (cutCells (s.cut x y i j).cuts) := by
    have e : cutCells (s.cut x y i j).cuts = cutCells s.cuts ++ [.string x, .string y, .int .i64 i, .int .i64 j] := by rw [Net.cut, cutCells_append]; rfl
    have e2 : (s.cut x y i j).cuts.length = s.cuts.length + 1 := by simp [Net.cut]
    rw [e, e2]; exact ho
  have hb' : w'.heap[b]? = _ := (hgr.block b (lt_of_block h1.c) (fun e => by obtain ⟨cur, hc⟩ := h1.k.elem b e.symm; exact type_ne h1.c hc (by decide) rfl)).trans h1.c
  have hne : (Value.slice (some ⟨g', off', none⟩) (s.cuts.length + 1) cap').ownBlock ≠ some b := fun e => by
    obtain ⟨cur, hc⟩ := ho.elem b e
    exact type_ne hc hb' (by decide) rfl
  have oth : ∀ k, k < (w.alloc (.cells #[.string x, .string y, .int .i64 i, .int .i64 j] 102)).heap.size → k ≠ b → q.vc.ownBlock ≠ some k → (w'.setCell ⟨b, 3, none⟩ (Value.slice (some ⟨g', off', none⟩) (s.cuts.length + 1) cap')).heap[k]? = (w.alloc (.cells #[.string x, .string y, .int .i64 i, .int .i64 j] 102)).heap[k]? := fun k hk h1 h2 => (setCell_other h1).trans (hgr.block k hk (fun e => h2 e.symm))
  have cell : ∀ {e : TypeId} {size n : Nat} {v : Value} {xs : List Value} {k : Nat}, OL (w.alloc (.cells #[.string x, .string y, .int .i64 i, .int .i64 j] 102)) e size v n xs → v.ownBlock = some k → e ≠ 86 → e ≠ 102 → (w'.setCell ⟨b, 3, none⟩ (Value.slice (some ⟨g', off', none⟩) (s.cuts.length + 1) cap')).heap[k]? = (w.alloc (.cells #[.string x, .string y, .int .i64 i, .int .i64 j] 102)).heap[k]? := fun ho hk t1 t2 => by
    obtain ⟨cur, hc⟩ := ho.elem _ hk
    exact oth _ (lt_of_block hc) (type_ne hc h1.c t1) (fun e => by obtain ⟨cur2, hc2⟩ := h1.k.elem _ e; exact type_ne hc hc2 t2 rfl)
  have hF : NetAt (w'.setCell ⟨b, 3, none⟩ (Value.slice (some ⟨g', off', none⟩) (s.cuts.length + 1) cap')) b { q with vc := (Value.slice (some ⟨g', off', none⟩) (s.cuts.length + 1) cap') } (s.cut x y i j) := h1.re (q' := { q with vc := (Value.slice (some ⟨g', off', none⟩) (s.cuts.length + 1) cap') }) (s' := s.cut x y i j) (fun k hk e1 e2 _ => oth k hk e1 e2) rfl rfl rfl rfl rfl (setCell_heap_self hb') (ho'.heap fun k hk => setCell_other (fun e => hne (by rw [← e]; exact hk)))
    (h1.r.heap fun k hk => cell h1.r hk (by decide) (by decide)) h1.a (fun z hz => (h1.d z hz).heap fun k hk => cell (h1.d z hz) hk (by decide) (by decide)) h1.i
  have hP : ∀ k, NAl b { q with vc := (Value.slice (some ⟨g', off', none⟩) (s.cuts.length + 1) cap') } (s.cut x y i j) k → grow P w k := fun k hk => by
    rcases NAl.re (q := q) (s := s) hk rfl rfl rfl rfl rfl with e | e | e | ⟨z, hz, e⟩
    · exact .inl (hA k e)
    · rcases hown with h2 | h2
      · exact .inl (hA k (.c (h2 ▸ e)))
      · have h3 : (some (w.alloc (.cells #[.string x, .string y, .int .i64 i, .int .i64 j] 102)).heap.size) = some k := h2 ▸ e
        simp at h3
        exact .inr (by omega)
    · exact .inl (hA k (.r e))
    · exact .inl (hA k (.d z hz e))
  have hOn : Only P w (w'.setCell ⟨b, 3, none⟩ (Value.slice (some ⟨g', off', none⟩) (s.cuts.length + 1) cap')) := ((((Only.refl P w).alloc _).grown hgr (fun k hk => .inl (hA k (.c hk)))).setCell (p := ⟨b, 3, none⟩) (.inl (hA b (.b rfl))) (Value.slice (some ⟨g', off', none⟩) (s.cuts.length + 1) cap'))
  have HR := Lib.hid (And.intro hF (And.intro hP hOn))
  have c3 : w.cell? ⟨b, 3, none⟩ = some q.vc := has_cell hN.c 3
  have f3 := has_free hb' 3
  have c3' := has_cell hb' 3
  have HAP := Lib.hid hap
  have d : decide (j < i) = false := by simp; omega
  obtain ⟨ao, cap, hvc⟩ : ∃ ao cap, q.vc = .slice ao s.cuts.length cap := by
    rcases hN.k.forms with ⟨e, e0⟩ | ⟨g, off, cap, e, _⟩
    · exact ⟨none, 0, by rw [e, e0]⟩
    · exact ⟨_, cap, e⟩
  clear hF hP hOn hap oth cell hne hgr hown ho ho' hsrc hN hA h1 hb'
  rw [hvc] at c3 HAP
  go_enter Try.func21, Try.ntmps21
  go_wp2_with (refine wpList_append_run (v := .slice ao s.cuts.length cap) (xv := .slice (some ⟨w.heap.size, 0, none⟩) 1 1) rfl (.tmp 24) (.tmp 30) _ _ rfl (by rfl) (by rfl) HAP.out ?_)
  go_ret
  exact ⟨rfl, ⟨_, HR.out.1, HR.out.2.1⟩, HR.out.2.2⟩
end
end Go.Proofs.Ytkhiepjlfbjgdaa

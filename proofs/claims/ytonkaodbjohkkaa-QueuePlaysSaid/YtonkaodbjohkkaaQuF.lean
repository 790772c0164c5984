/- queue: push and pop of a list that a field holds. Conditions: the list is short; pop: it is not empty. -/
import Derived.Test.YtonkaodbjohkkaaQuE
import Derived.Test.YtonkaodbjohkkaaHeld
import Derived.Laws.ResultCell
namespace Go.Proofs.Ytonkaodbjohkkaa
open Go.RowKit

theorem results_row1 {P : Program} {fn : Func} {p : Tmp} {ty : TypeId} (h : fn.results = #[.cell p ty]) {tmps : Array Value} {w : World} {g : Nat} {t : TypeId} {cs : Array Value} {fr : Nat × Nat} {d : TypeDesc}
    (hp : tmps.getD p undef = .pointer (some ⟨g, 0, none⟩)) (hg : w.heap[g]? = some (.cells cs t fr))
    (hu : P.underlying ty = some d) (hd : (match d with | .struct _ | .array _ _ => true | _ => false) = true) (hi : (P.info? ty).map (·.size) = some cs.size) :
    (results fn tmps).run P w = .ok (.agg cs) w := by
  have hp' : tmps[p]?.getD undef = .pointer (some ⟨g, 0, none⟩) := by simpa using hp
  simp only [results, h]
  simp [hp', asAddr, run_loadVar_row w g t ty cs fr d hg hu hd hi]
section
variable {w w' : World} {b i : Nat} {cs : Array Value} {v : Value} {l : List It}
def PushP (b i : Nat) (cs : Array Value) (v : Value) (l : List It) (x : It) (w : World) (e : Ending) (w' : World) : Prop := e = .returned (.tuple #[]) ∧ LP b i cs v (x :: l) w w'
set_option maxRecDepth 100000 in
set_option maxHeartbeats 1000000 in
theorem push_any (h : InF w b i cs v l) (hl : l.length ≤ 100000) (x : It) : Calls Try.prog 30 #[.pointer (some ⟨b, i, none⟩), .agg #[.string x.1, .int .i64 x.2]] w (PushP b i cs v l x w) := by
  obtain ⟨k, z⟩ := x
  obtain ⟨ao, cap, hv, _⟩ := h.l.form
  have hB1 : Below w.heap.size w (w.alloc (.cells #[.string k, .int .i64 z] 65)) := by go_grown
  have h1 := h.below hB1
  have hx1 := heap_alloc_new w (.cells #[.string k, .int .i64 z] 65)
  have hB2 : Below w.heap.size w ((w.alloc (.cells #[.string k, .int .i64 z] 65)).drew.alloc (.cells #[.string k, .int .i64 z] 65)) := (hB1.trans (below_drew _ _)).alloc (by simp) _
  have h2 := h.below hB2
  have hx2 : ((w.alloc (.cells #[.string k, .int .i64 z] 65)).drew.alloc (.cells #[.string k, .int .i64 z] 65)).heap[w.heap.size]? = _ := has_alloc (show (w.alloc (.cells #[.string k, .int .i64 z] 65)).drew.heap[w.heap.size]? = _ from hx1) _
  have hn2 := heap_alloc_new (w.alloc (.cells #[.string k, .int .i64 z] 65)).drew (.cells #[.string k, .int .i64 z] 65)
  have hsz : (w.alloc (.cells #[.string k, .int .i64 z] 65)).drew.heap.size = w.heap.size + 1 := by simp
  rw [hsz] at hn2
  have hlt : ∀ g, v.ownBlock = some g → g < w.heap.size := fun g hg => OL.lt h.l g hg
  have CI := Lib.hid (ins_any (OL.below h.l hB2 hlt) (itCells_one l) (by omega) k z hn2 (fun e => by have := hlt _ e; omega))
  have c1 := (has_cell h1.b i).trans h1.i
  have x0 := has_cell hx1 0
  have x1 := has_cell hx1 1
  have H := Lib.hid h
  have H2 := Lib.hid (And.intro h2 (And.intro hx2 hB2))
  have HLT := Lib.hid hlt
  clear h h1 h2 hx1 hx2 hn2 hsz hB1 hB2 hlt
  subst hv
  go_enter Try.func30, Try.ntmps30
  go_wp2_with fail
  have hH1 : (fun w' : World => w'.cell? ⟨b, i, none⟩ = some (.slice ao l.length cap) ∧ w'.cell? ⟨w.heap.size, 0, none⟩ = some (.string k) ∧ w'.cell? ⟨w.heap.size, 1, none⟩ = some (.int .i64 z)) (w.alloc (.cells #[.string k, .int .i64 z] 65)).drew := ⟨c1, x0, x1⟩
  refine AnyZ.start 8 (fun w' => w'.cell? ⟨b, i, none⟩ = some (.slice ao l.length cap) ∧ w'.cell? ⟨w.heap.size, 0, none⟩ = some (.string k) ∧ w'.cell? ⟨w.heap.size, 1, none⟩ = some (.int .i64 z)) (by kernel_rfl) ?_
  refine AnyZ.take (i := 0) (v := ?_) rfl (by kernel_rfl) (fun _ _ _ h => h) (by rfl) hH1 ?_ ?_
  rotate_left
  · intro w hSw
    go_simp
    with_reducible rfl
  refine AnyZ.take (i := 1) (v := ?_) rfl (by kernel_rfl) (fun _ _ _ h => h) (by rfl) hH1 ?_ ?_
  rotate_left
  · intro w hSw
    go_simp
    with_reducible rfl
  refine AnyZ.take (i := 2) (v := ?_) rfl (by kernel_rfl) (fun _ _ _ h => h) (by rfl) hH1 ?_ ?_
  rotate_left
  · intro w hSw
    go_simp
    with_reducible rfl
  refine AnyZ.take (i := 3) (v := ?_) rfl (by kernel_rfl) (fun _ _ _ h => h) (by rfl) hH1 ?_ ?_
  rotate_left
  · intro w hSw
    go_simp
    with_reducible rfl
  refine AnyZ.take (i := 4) (v := ?_) rfl (by kernel_rfl) (fun _ _ _ h => h) (by rfl) hH1 ?_ ?_
  rotate_left
  · intro w hSw
    go_simp
    with_reducible rfl
  simp only [List.getElem_toArray, List.getElem_cons_succ, List.getElem_cons_zero, Act.put, List.setIfInBounds_toArray, List.set_cons_zero, List.set_cons_succ]
  refine AnyZ.one (i := 5) rfl (by kernel_rfl) rfl (fun K hK => ?_)
  go_simp
  have hH2 : (fun w' : World => w'.cell? ⟨b, i, none⟩ = some (.slice ao l.length cap) ∧ w'.cell? ⟨w.heap.size, 0, none⟩ = some (.string k) ∧ w'.cell? ⟨w.heap.size, 1, none⟩ = some (.int .i64 z)) ((w.alloc (.cells #[.string k, .int .i64 z] 65)).drew.alloc (.cells #[.string k, .int .i64 z] 65)) := ⟨(has_cell H2.out.1.b i).trans H2.out.1.i, has_cell H2.out.2.1 0, has_cell H2.out.2.1 1⟩
  refine hK.out _ _ (.inr hH2) ?_
  clear hK K hH1
  refine AnyZ.one (i := 6) rfl (by kernel_rfl) rfl (fun K hK => ?_)
  go_simp
  refine CI.out.mono ?_
  rintro e w3 ⟨v', rfl, ho, hg, hown⟩
  obtain ⟨g', off', cap', rfl, _⟩ := ho.form (by omega)
  go_simp
  have hb3 := (hg.block b (lt_of_block H2.out.1.b) (fun e => H2.out.1.l.ne H2.out.1.b e.symm)).trans H2.out.1.b
  have hx3 := (hg.block w.heap.size (lt_of_block H2.out.2.1) (fun e => by have := HLT.out _ e.symm; omega)).trans H2.out.2.1
  have hH3 : (fun w' : World => w'.cell? ⟨b, i, none⟩ = some (.slice ao l.length cap) ∧ w'.cell? ⟨w.heap.size, 0, none⟩ = some (.string k) ∧ w'.cell? ⟨w.heap.size, 1, none⟩ = some (.int .i64 z)) w3 := ⟨(has_cell hb3 i).trans H.out.i, has_cell hx3 0, has_cell hx3 1⟩
  have c3 := (has_cell hb3 i).trans H.out.i
  have f3 := has_free hb3 i
  have HL : Hid (LP b i cs (.slice ao l.length cap) ((k, z) :: l) w (w3.setCell ⟨b, i, none⟩ (.slice (some ⟨g', off', none⟩) (l.length + 1) cap'))) := Lib.hid (by
    have hne : (Value.slice (some ⟨g', off', none⟩) (l.length + 1) cap').ownBlock ≠ some b := fun e => by
      obtain ⟨cur, hc⟩ := ho.elem b e
      exact type_ne hc hb3 (by decide) rfl
    refine LP.after H2.out.2.2 ⟨_, setCell_heap_self hb3, ho.heap fun j hj => setCell_other (fun e => hne (by rw [← e]; exact hj)), fun j hj => ?_, ((Only.refl _ _).grown hg (fun j hj => .inl (.inr hj))).setCell (p := ⟨b, i, none⟩) (.inl (.inl rfl)) _⟩
    rcases hown with h | h
    · exact .inl (h ▸ hj)
    · rw [h] at hj; have := Option.some.inj hj; exact .inr (by omega))
  refine hK.out _ _ (.inr hH3) ?_
  clear hK K hH2 ho hg hown hb3 hx3 CI
  refine AnyZ.one (i := 7) rfl (by kernel_rfl) rfl (fun K hK => ?_)
  go_simp
  refine hK.out _ _ (.inr hH3) ?_
  clear hK K hH3
  refine AnyZ.one (i := 8) rfl (by kernel_rfl) rfl (fun K hK => ?_)
  go_simp
  refine hK.out _ _ (.inl rfl) ?_
  clear hK K c3 f3
  refine AnyZ.done (by kernel_rfl) ?_ _
  go_wp2
  exact bodyPost_ret (v := .tuple #[]) (by simp [results, Try.results30]) rfl ⟨rfl, HL.out⟩
def PopP (b i : Nat) (cs : Array Value) (v : Value) (l : List It) (x : It) (w : World) (e : Ending) (w' : World) : Prop := e = .returned (.agg #[.string x.1, .int .i64 x.2]) ∧ LP b i cs v l w w'
set_option maxRecDepth 100000 in
set_option maxHeartbeats 1000000 in
theorem pop_any {x : It} (h : InF w b i cs v (l ++ [x])) : Calls Try.prog 32 #[.pointer (some ⟨b, i, none⟩)] w (PopP b i cs v l x w) := by
  obtain ⟨k, z⟩ := x
  have hB1 : Below w.heap.size w (w.alloc (.cells #[.string ⟨#[]⟩, .int .i64 0] 65)) := by go_grown
  have h1 := h.below hB1
  have hlen : (l ++ [(k, z)]).length = l.length + 1 := by simp
  obtain ⟨g, off, cap, hv, hnc, hcm, hgl⟩ := OL.form h.l (by omega)
  rw [hlen] at hv hnc
  subst hv
  unfold maxLen at hcm
  have c1 := (has_cell h1.b i).trans h1.i
  have hcell : ∀ j u, (itCells (l ++ [(k, z)]))[j]? = some u → w.cell? ⟨g, off + j, none⟩ = some u := fun j u hu => by
    have := (List.getElem?_eq_some_iff.1 hu).1
    have hl := OL.len h.l
    have h3 : OL w 65 2 (.slice (some ⟨g, off, none⟩) (l.length + 1) cap) (l.length + 1) (itCells (l ++ [(k, z)])) := by have := h.l; unfold IsL at this; rwa [hlen] at this
    rw [h3.cell j (by omega)]; exact hu
  have e0 : (itCells (l ++ [(k, z)]))[l.length * 2]? = some (.string k) := by
    rw [itCells_append, List.getElem?_append_right (by rw [itCells_len]; omega), itCells_len]; simp [itCells]
  have e1 : (itCells (l ++ [(k, z)]))[l.length * 2 + 1]? = some (.int .i64 z) := by
    rw [itCells_append, List.getElem?_append_right (by rw [itCells_len]; omega), itCells_len]; simp [itCells, show l.length * 2 + 1 - l.length * 2 = 1 by omega]
  have a0 := (hB1.cell (p := ⟨g, off + l.length * 2, none⟩) hgl).trans (hcell _ _ e0)
  have a1 := (hB1.cell (p := ⟨g, off + (l.length * 2 + 1), none⟩) hgl).trans (hcell _ _ e1)
  rw [← Nat.add_assoc] at a1
  have H := Lib.hid h
  have HR1 := Lib.hid (heap_alloc_new w (.cells #[.string ⟨#[]⟩, .int .i64 0] 65))
  have H1 := Lib.hid (And.intro h1 hB1)
  clear h h1 hB1 hcell e0 e1 hlen
  go_enter Try.func32, Try.ntmps32
  go_wp2_with fail
  have n1 : (0 : Int) ≤ (l.length : Int) := by omega
  have n2 : (l.length : Int) < (l.length : Int) + 1 := by omega
  have n3 : IntKind.i64.wrap ((l.length : Int) + 1 - 1) = (l.length : Int) := by rw [show (l.length : Int) + 1 - 1 = (l.length : Int) by omega]; exact IntWalk.i64_in _ (by omega)
  have n4 : (l.length : Int) ≤ (cap : Int) := by omega
  have n5 : IntKind.i64.wrap (l.length : Int) = (l.length : Int) := IntWalk.i64_in _ (by omega)
  go_region_held3 (fun w' => w'.cell? ⟨b, i, none⟩ = some (.slice (some ⟨g, off, none⟩) (l.length + 1) cap) ∧ w'.cell? ⟨g, off + l.length * 2, none⟩ = some (.string k) ∧ w'.cell? ⟨g, off + l.length * 2 + 1, none⟩ = some (.int .i64 z)) (go_keep) (fail)
  go_upto_region 2 with fail
  generalize hw2 : World.drew _ = w2
  have W2 : Hid (Below w.heap.size w w2 ∧ w2.heap[w.heap.size]? = some (.cells #[.string ⟨#[]⟩, .int .i64 0] 65 (0, 0)) ∧ w2.heap[w.heap.size + 1]? = some (.cells #[.string k, .int .i64 z] 65 (0, 0))) := Lib.hid (by
    rw [← hw2]
    refine ⟨((H1.out.2.alloc (by simp) _).trans (below_drew _ _)), ?_, ?_⟩
    · exact has_alloc HR1.out (.cells #[.string k, .int .i64 z] 65)
    · have := heap_alloc_new (w.alloc (.cells #[.string ⟨#[]⟩, .int .i64 0] 65)) (.cells #[.string k, .int .i64 z] 65)
      rw [World.size_alloc] at this
      exact this)
  have h2 := H.out.below W2.out.1
  have c2 := (has_cell h2.b i).trans h2.i
  have f2 := has_free h2.b i
  clear hw2 c1 a0 a1
  go_region
  go_upto_region 3 with fail
  generalize hw3 : World.drew _ = w3
  have hb2 : b < w.heap.size := lt_of_block H.out.b
  have hb3 : w3.heap[b]? = some (.cells (cs.setIfInBounds i (.slice (some ⟨g, off, none⟩) l.length cap)) 61 (0, 0)) := by rw [← hw3]; exact setCell_heap_self h2.b
  have hk3 : ∀ j, j ≠ b → w3.heap[j]? = w2.heap[j]? := fun j hj => by rw [← hw3]; exact setCell_other hj
  have hL3 : IsL w3 (.slice (some ⟨g, off, none⟩) l.length cap) l ∧ Only (fun k => k = b ∨ (Value.slice (some ⟨g, off, none⟩) (l.length + 1) cap).ownBlock = some k) w w3 := by
    constructor
    · have hg : b ≠ g := fun e => h2.l.ne h2.b (by rw [e]; rfl)
      have hl2 : OL w2 65 2 (.slice (some ⟨g, off, none⟩) (l.length + 1) cap) (l.length + 1) (itCells (l ++ [(k, z)])) := by have := h2.l; unfold IsL at this; rwa [show (l ++ [(k, z)]).length = l.length + 1 by simp] at this
      rcases hl2.2 with ⟨e, _⟩ | ⟨g', off', cap', cur, e, hc, h3, h4, h5, h6⟩
      · cases e
      · simp only [Value.slice.injEq, Option.some.injEq, Addr.mk.injEq, and_true, true_and] at e
        obtain ⟨⟨rfl, rfl⟩, rfl⟩ := e
        refine ⟨itCells_len l, .inr ⟨g, off, cap, cur, rfl, (hk3 g (Ne.symm hg)).trans hc, by omega, h4, h5, ?_⟩⟩
        have h7 := congrArg (List.take (l.length * 2)) h6
        have h8 : (itCells (l ++ [(k, z)])).take (l.length * 2) = itCells l := by rw [itCells_append, List.take_append_of_le_length (by rw [itCells_len]; omega), List.take_of_length_le (by rw [itCells_len]; omega)]
        rw [List.take_take, Nat.min_eq_left (by omega), h8] at h7
        exact h7
    · rw [← hw3]
      exact ((Only.of_below W2.out.1 (S := fun k => k = b ∨ (Value.slice (some ⟨g, off, none⟩) (l.length + 1) cap).ownBlock = some k) fun k h1 h2 => by omega).setCell (p := ⟨b, i, none⟩) (.inl (.inl rfl)) _).drew
  have hz3 := (hk3 w.heap.size (by omega)).trans W2.out.2.1
  have hx3 := (hk3 (w.heap.size + 1) (by omega)).trans W2.out.2.2
  have x0 := has_cell hx3 0
  have x1 := has_cell hx3 1
  have z0 := has_cell hz3 0
  have z1 := has_cell hz3 1
  have zf := has_free hz3
  have HL3 := Lib.hid (And.intro hL3 hz3)
  have HB3 := Lib.hid hb3
  clear hw3 hb3 hk3 hL3 hz3 hx3 h2 c2 f2
  go_wp2
  (try simp only [Exit.inBlock, Exit.then])
  have hset : ((w3.setCell ⟨w.heap.size, 0, none⟩ (.string k)).setCell ⟨w.heap.size, 1, none⟩ (.int .i64 z)).heap[w.heap.size]? = some (.cells #[.string k, .int .i64 z] 65 (0, 0)) := by
    rw [setCell_heap_self (setCell_heap_self HL3.out.2)]; rfl
  refine bodyPost_ret (results_row1 rfl rfl hset Try.underlying65 rfl (by kernel_rfl)) rfl ⟨rfl, ?_⟩
  obtain ⟨h2, h4⟩ := HL3.out.1
  have ho : ∀ j, j ≠ w.heap.size → ((w3.setCell ⟨w.heap.size, 0, none⟩ (.string k)).setCell ⟨w.heap.size, 1, none⟩ (.int .i64 z)).heap[j]? = w3.heap[j]? := fun j hj => (setCell_other hj).trans (setCell_other hj)
  exact ⟨_, (ho b (by omega)).trans HB3.out, OL.heap h2 fun j hj => ho j (by have : g = j := Option.some.inj hj; omega), fun j hj => .inl hj, (h4.setCell (.inr (Nat.le_refl _)) _).setCell (.inr (Nat.le_refl _)) _⟩
end
end Go.Proofs.Ytonkaodbjohkkaa

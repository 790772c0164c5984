/- The walks of New and Copy. Conditions: the device lies in memory as 'DevAt Qp' says, its numbers are in their bounds ('Gd'). -/
import Derived.Test.YtbpjfhfibllhgaaDqF
namespace Go.Proofs.Ytbpjfhfibllhgaa
open Go.RowKit
open Go.Proofs.Ytbpjfhfibllhgaa.Dv
variable {Qp : Nat → Prop}

theorem setCell_id {w : World} {b o : Nat} {u : Value} {cs : Array Value} {t : TypeId} {fr : Nat × Nat} (h : w.heap[b]? = some (.cells cs t fr)) (hc : cs[o]? = some u) : w.setCell ⟨b, o, none⟩ u = w := by
  have hs : cs.setIfInBounds o u = cs := by
    apply Array.ext_getElem?
    intro i
    rw [Array.getElem?_setIfInBounds]
    by_cases e : o = i
    · subst e; rw [if_pos rfl, hc]; obtain ⟨hlt, _⟩ := Array.getElem?_eq_some_iff.1 hc; rw [if_pos hlt]
    · rw [if_neg e]
  have hh : (w.setCell ⟨b, o, none⟩ u).heap = w.heap := by
    apply Array.ext_getElem?
    intro i
    by_cases e : i = b
    · subst e; rw [setCell_heap_self h, hs, h]
    · exact setCell_other e
  show { w with heap := (w.setCell ⟨b, o, none⟩ u).heap } = w
  rw [hh]
def NewBad (w : World) (e : Ending) (w' : World) : Prop := e = .returned (.tuple #[.pointer none, errV 1]) ∧ w' = w
def newOk (n p : Int) : Prop := 1 ≤ n ∧ n ≤ 64 ∧ 1 ≤ p ∧ p ≤ 32
set_option maxHeartbeats 400000 in
theorem new_bad (n p : Int) (w : World) (h : ¬ newOk n p) : Calls Try.prog 12 #[.int .i64 n, .int .i64 p] w (NewBad w) := by
  unfold newOk at h
  by_cases h1 : n < 1
  · clear h
    go_enter Try.func12, Try.ntmps12
    go_wp2
    go_ret2
    exact ⟨rfl, rfl⟩
  · by_cases h2 : 64 < n
    · clear h
      go_enter Try.func12, Try.ntmps12
      go_wp2
      go_ret2
      exact ⟨rfl, rfl⟩
    · by_cases h3 : p < 1
      · clear h
        go_enter Try.func12, Try.ntmps12
        go_wp2
        go_ret2
        exact ⟨rfl, rfl⟩
      · have h4 : 32 < p := by omega
        clear h
        go_enter Try.func12, Try.ntmps12
        go_wp2
        go_ret2
        exact ⟨rfl, rfl⟩
/-- The blocks as New makes them. -/
theorem blank_get {n p i : Nat} (h : i < n) : (Dv.blank n p).getD i nilB = ⟨List.replicate p none, 0⟩ := by simp [Dv.blank, List.getD, h]
theorem blank_len (n p : Nat) : (Dv.blank n p).length = n := by simp [Dv.blank]
/-- A device has been made of two arrays of blocks. -/
theorem dev_made {w w' : World} {b g1 g2 n : Nat} {v1 v2 : List Value} {bs : List Blk} (h1 : BlksAt Qp w' (.slice (some ⟨g1, 0, none⟩) n n) v1 bs) (h2 : BlksAt Qp w' (.slice (some ⟨g2, 0, none⟩) n n) v2 bs)
    (hb : w'.heap[b]? = some (.cells #[.slice (some ⟨g1, 0, none⟩) n n, .slice (some ⟨g2, 0, none⟩) n n, .slice none 0 0, .bool false, .bool false, .int .i64 0] 81 (0, 0)))
    (hg : g1 < w.heap.size) (hg2 : w.heap.size ≤ g2) (ho1 : ∀ i k, (v1.getD i nilS).ownBlock = some k → k < w.heap.size) (ho2 : ∀ i k, (v2.getD i nilS).ownBlock = some k → w.heap.size ≤ k)
    (hd : ∀ i j k, i ≠ j → (v2.getD i nilS).ownBlock = some k → (v2.getD j nilS).ownBlock ≠ some k) : DevAt Qp w' b (.slice (some ⟨g1, 0, none⟩) n n) v1 (.slice (some ⟨g2, 0, none⟩) n n) v2 (.slice none 0 0) [] ⟨bs, bs, [], false, false, 0⟩ :=
  { hb := hb
    hd := h1
    hn := h2
    hp := ⟨OL.nil _ _ _, rfl, fun i hi => absurd hi (by simp)⟩
    a1 := fun k h e => by simp [Value.ownBlock] at h e; omega
    a2 := hd
    a3 := fun i j k h e => by have := ho1 j k e; have := ho2 i k h; omega }
def NewOkP (Qp : Nat → Prop) (n p : Nat) (w : World) (e : Ending) (w' : World) : Prop :=
  ∃ b vd ds vn ns vp ps, e = .returned (.tuple #[.pointer (some ⟨b, 0, none⟩), errV 0]) ∧ DevAt Qp w' b vd ds vn ns vp ps (Dev.init n p) ∧ (∀ k, Al b vd ds vn ns vp k → w.heap.size ≤ k) ∧ Below w.heap.size w w'
set_option maxRecDepth 100000 in
set_option maxHeartbeats 1600000 in
theorem new_ok {n p : Nat} (w : World) (h1 : 1 ≤ n) (h2 : n ≤ 64) (h3 : 1 ≤ p) (h4 : p ≤ 32) : Calls Try.prog 12 #[.int .i64 n, .int .i64 p] w (NewOkP Qp n p w) := by
  obtain ⟨i0, hi, iz, is, ib⟩ := info_parts infoBlk
  have hmk : (Instr.makeSlice 74 (.int .i64 (n : Int)) (.int .i64 (n : Int))).run Try.prog w = .ok (.slice (some ⟨w.heap.size, 0, none⟩) n n) (w.alloc (.cells (madeCells #[.slice none 0 0, .int .i64 0] (n * 2)) 77)) := by
    have := run_make (P := Try.prog) w 74 77 i0 _ Try.underlying74 hi iz .i64 .i64 (n : Int) (n : Int) (by omega) (Int.le_refl _) (by rw [ib]; omega) (by omega)
    rw [is] at this
    exact this
  have hmp : ∀ w, (Instr.makeSlice 75 (.int .i64 (p : Int)) (.int .i64 (p : Int))).run Try.prog w = .ok (.slice (some ⟨w.heap.size, 0, none⟩) p p) (w.alloc (.cells (madeCells #[.slice none 0 0] p) 22)) :=
    fun w => run_make_row' (P := Try.prog) 75 22 (.slice none 0 0) 24 Try.underlying75 (by kernel_rfl) rfl .i64 .i64 p (by omega) (by omega) w
  have hS : ClI Qp w.heap.size (Dv.blank n p) 0 w (w.alloc (.cells (madeCells #[.slice none 0 0, .int .i64 0] (n * 2)) 77)) (List.replicate n nilS) (List.replicate n nilB) :=
    { a := by rw [blank_len]; exact blks_made (by omega) (heap_alloc_new w _), l := by simp [Dv.blank], e := by omega
      o := fun i x hx => by have := ns_lt hx; simp at this; simp [List.getD, this, nilS, Value.ownBlock] at hx
      d := fun i j x _ hx => by have := ns_lt hx; simp at this; simp [List.getD, this, nilS, Value.ownBlock] at hx
      b := by go_grown }
  have HS := Lib.hid hS
  have hbs : ∀ i, i < n → (List.replicate n nilB).getD i nilB = nilB := fun i hi => by simp [List.getD, hi]
  have HBS := Lib.hid hbs
  generalize madeCells #[.slice none 0 0, .int .i64 0] (n * 2) = O at HS hmk
  clear hS hi iz is ib hbs
  go_enter Try.func12, Try.ntmps12
  go_wp2_with fail
  clear hmk
  generalize w.alloc (Obj.cells O 77) = w1 at HS ⊢
  generalize hg : w.heap.size = g at HS ⊢
  have HG := Lib.hid hg
  clear hg
  go_loopw [27] (fun i wr => ∃ (k : Nat) (vs' : List Value) (bs' : List Blk), k ≤ n ∧ i = .int .i64 k ∧ ClI Qp g (Dv.blank n p) k w wr vs' bs' ∧ ∀ i, k ≤ i → i < n → bs'.getD i nilB = nilB) (fun i _ => n - (intOf i).toNat)
  case atStart => exact ⟨0, _, _, Nat.zero_le _, rfl, HS.out, fun i _ hi => HBS.out i hi⟩
  case round =>
    clear HS
    obtain ⟨k, vs', bs', hk, rfl, hI, hbl⟩ := hrel
    have HBL := Lib.hid hbl
    clear hbl HBS
    by_cases hlt : k < n
    · obtain ⟨cur, hcur⟩ := hI.a.o.elem g rfl
      obtain ⟨o0, o1⟩ := hI.a.cells (i := k) hI.l.symm (by rw [hI.l, blank_len]; exact hlt)
      rw [HBL.out k (Nat.le_refl _) hlt] at o1
      have hgl := hI.a.o.lt g rfl
      have hBA : Below wr.heap.size wr (wr.alloc (.cells (madeCells #[.slice none 0 0] p) 22)) := by go_grown
      have hnew := heap_alloc_new wr (.cells (madeCells #[.slice none 0 0] p) 22)
      have hm := hmp wr
      have hcur2 := has_alloc hcur (.cells (madeCells #[.slice none 0 0] p) 22)
      generalize wr.alloc (.cells (madeCells #[.slice none 0 0] p) 22) = w2 at hBA hnew hm hcur2
      have k0 := (hBA.cell (p := ⟨g, k * 2, none⟩) hgl).trans (by simpa using o0)
      have k1 := (hBA.cell (p := ⟨g, k * 2 + 1, none⟩) hgl).trans (by simpa using o1)
      have kz := has_free hcur2
      have hpg : PgsAt Qp w2 (.slice (some ⟨wr.heap.size, 0, none⟩) p p) (List.replicate p none) := by
        refine ⟨List.replicate p nilS, ?_, fun j hj => ?_⟩
        · rw [madeCells_list] at hnew
          rw [List.length_replicate]
          exact OL.of_block hnew (by simp) (by unfold maxLen; omega)
        · rw [List.length_replicate] at hj
          have e1 : (List.replicate p nilS).getD j nilS = nilS := by simp [List.getD, hj]
          have e2 : (List.replicate p (none : Page)).getD j none = none := by simp [List.getD, hj]
          rw [e1, e2]; rfl
      have hgw := HG.out
      have hI' := hI.next (B := ⟨List.replicate p none, 0⟩) (by rw [blank_len]; exact hlt) (by omega) hBA (blank_get hlt) hpg (g2 := wr.heap.size) rfl (Nat.le_refl _)
      have hid : ((w2.setCell ⟨g, k * 2, none⟩ (.slice (some ⟨wr.heap.size, 0, none⟩) p p)).setCell ⟨g, k * 2 + 1, none⟩ (.int .i64 0)) = w2.setCell ⟨g, k * 2, none⟩ (.slice (some ⟨wr.heap.size, 0, none⟩) p p) := by
        refine setCell_id (setCell_heap_self hcur2) ?_
        rw [Array.getElem?_setIfInBounds, if_neg (by omega)]
        rw [has_cell hcur2] at k1
        rw [k1]; rfl
      rw [hid] at hI'
      have HI' := Lib.hid hI'
      have HL := Lib.hid hI.l
      clear hI' hid hI hcur hcur2 o0 o1 hBA hnew hpg hmp
      go_wp2
      go_roundw
      case rel => exact ⟨k + 1, _, _, by omega, by go_num, HI'.out, fun i h1 h2 => by
        rw [getD_set_ne (by omega)]; exact HBL.out i (by omega) h2⟩
      case measure => simp [intOf]; omega
    · obtain rfl : k = n := by omega
      have e : bs' = Dv.blank k p := by
        apply List.ext_getElem?
        intro i
        have hl := hI.l
        rw [blank_len] at hl
        by_cases hi : i < k
        · have := hI.e i hi
          simpa [List.getD, hl, hi, blank_len] using this
        · rw [List.getElem?_eq_none (by omega), List.getElem?_eq_none (by rw [blank_len]; omega)]
      have hA := hI.a
      rw [e, blank_len] at hA
      have hl1 : (Dv.blank k p).length = k := blank_len k p
      have CC := Lib.hid (clones_any wr hA (by rw [hl1]; exact h1) (by rw [hl1]; exact h2) (fun i hi => by rw [hl1] at hi; rw [blank_get hi]; simp; omega))
      have HA := Lib.hid hA
      have HI := Lib.hid hI
      clear hA hmp e hI
      go_wp2_with fail
      refine CC.out.mono ?_
      rintro e w3 ⟨gn, vs, rfl, hB, hgn, hf, hdj, hb⟩
      rw [blank_len] at hB
      have HB := Lib.hid (And.intro hB (And.intro hgn (And.intro hf (And.intro hdj hb))))
      clear hB hgn hf hdj hb CC
      rw [blank_len]
      go_wp2
      go_ret2
      obtain ⟨hB, hgn, hf, hdj, hb⟩ := HB.out
      have hBA : Below w3.heap.size w3 (w3.alloc (.cells #[.slice (some ⟨g, 0, none⟩) k k, .slice (some ⟨gn, 0, none⟩) k k, .slice none 0 0, .bool false, .bool false, .int .i64 0] 81)) := by go_grown
      have hgw := HG.out
      have hws := HI.out.b.size
      have hsz3 := hb.size
      refine ⟨w3.heap.size, _, vs', _, vs, _, [], rfl, dev_made (w := wr) ((HA.out.belowS hb).belowS hBA) (hB.belowS hBA) (heap_alloc_new w3 _) (HA.out.o.lt g rfl) hgn
        (fun i x hx => (HI.out.a.c i (by rw [← HI.out.a.l]; exact ns_lt hx)).lt x hx) hf hdj, ?_, (HI.out.b.trans (hb.mono hws)).trans (hBA.mono (by omega))⟩
      rintro x ((h5 | h5 | ⟨j, h5⟩ | h5) | h5 | ⟨j, h5⟩)
      · omega
      · simp [Value.ownBlock] at h5; omega
      · have := hf j x h5; omega
      · simp [Value.ownBlock] at h5
      · simp [Value.ownBlock] at h5; omega
      · exact HI.out.o j x h5
end Go.Proofs.Ytbpjfhfibllhgaa

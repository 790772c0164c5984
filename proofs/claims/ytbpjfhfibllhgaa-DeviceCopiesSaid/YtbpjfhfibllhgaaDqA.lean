/- The small functions of the device: filled, next, clones, check, page, Blocks, Pages, power. Conditions: each contract names its own. -/
import Derived.Test.YtbpjfhfibllhgaaDq
namespace Go.Proofs.Ytbpjfhfibllhgaa
open Go.RowKit
open Go.Proofs.Ytbpjfhfibllhgaa.Dv
variable {Qp : Nat → Prop}

/-- A new page that holds l. -/
def NewPg (l : List Int) (w : World) (e : Ending) (w' : World) : Prop :=
  ∃ g, e = .returned (.slice (some ⟨g, 0, none⟩) 512 512) ∧ w'.heap[g]? = some (.cells (bys l).toArray 5 (0, 0)) ∧ w.heap.size ≤ g ∧ Below w.heap.size w w'
/-- A slice that reads as bytes. -/
structure BySrc (w : World) (v : Value) (l : List Int) : Prop where
  s : ∃ ao cap, v = .slice ao l.length cap
  c : ∀ ao n cap, v = .slice ao n cap → 0 < l.length → ∃ ad, ao = some ad ∧ ∀ j x, (bys l)[j]? = some x → w.cell? (ad.add j) = some x
theorem fill_part (N : Nat) (l : List Int) (k : Nat) (hk : l.length ≤ k) (hk2 : k < N) : ((bys (l ++ List.replicate (k - l.length) 255) ++ List.replicate (N - k) (Value.int .u8 0)).set k (.int .u8 255)) = bys (l ++ List.replicate (k + 1 - l.length) 255) ++ List.replicate (N - (k + 1)) (Value.int .u8 0) := by
  have e1 : (bys (l ++ List.replicate (k - l.length) 255)).length = k := by rw [bys_len, List.length_append, List.length_replicate]; omega
  have e2 : N - k = (N - (k + 1)) + 1 := by omega
  rw [List.set_append_right _ _ (by omega), e1, Nat.sub_self, e2, List.replicate_succ, List.set_cons_zero]
  have e3 : k + 1 - l.length = (k - l.length) + 1 := by omega
  rw [e3, List.replicate_succ', ← List.append_assoc]
  simp [bys]
theorem fill_whole (N : Nat) (l : List Int) (h : l.length ≤ N) : bys (l ++ List.replicate (N - l.length) 255) ++ List.replicate (N - N) (Value.int .u8 0) = bys ((List.range N).map fun i => l.getD i 255) := by
  rw [Nat.sub_self, List.replicate_zero, List.append_nil]
  congr 1
  apply List.ext_getElem?
  intro i
  by_cases hi : i < N
  · rw [List.getElem?_map, List.getElem?_range hi, Option.map_some]
    by_cases h2 : i < l.length
    · rw [List.getElem?_append_left h2]; simp [List.getD, h2]
    · rw [List.getElem?_append_right (by omega)]
      rw [List.getElem?_replicate, if_pos (by omega)]
      simp [List.getD, List.getElem?_eq_none (show l.length ≤ i by omega)]
  · rw [List.getElem?_eq_none (by simp; omega), List.getElem?_eq_none (by simp; omega)]
theorem fill_start (N : Nat) (l : List Int) : splice (List.replicate N (Value.int .u8 0)) 0 (bys l) = bys (l ++ List.replicate (l.length - l.length) 255) ++ List.replicate (N - l.length) (Value.int .u8 0) := by
  simp [splice, bys]
theorem fill_len' (N : Nat) (l : List Int) (k : Nat) (hk : l.length ≤ k) (hk2 : k ≤ N) : (bys (l ++ List.replicate (k - l.length) 255) ++ List.replicate (N - k) (Value.int .u8 0)).length = N := by
  rw [List.length_append, bys_len, List.length_append, List.length_replicate, List.length_replicate]; omega

set_option maxRecDepth 100000 in
set_option maxHeartbeats 800000 in
theorem filled_any (v : Value) (l : List Int) (w : World) (h : BySrc w v l) (hl : l.length ≤ 512) :
    Calls Try.prog 37 #[v] w (NewPg (fill l) w) := by
  obtain ⟨ao, cap, rfl⟩ := h.s
  have HS := Lib.hid (h.c ao l.length cap rfl)
  clear h
  have hR : Row (w.alloc (.cells (madeCells #[.int .u8 0] 512) 5)) 5 w.heap.size (List.replicate 512 (.int .u8 0)) := Row.made (heap_alloc_new w _)
  have hmk : (Instr.makeSlice 22 (.int .i64 512) (.int .i64 512)).run Try.prog w = .ok (.slice (some ⟨w.heap.size, 0, none⟩) 512 512) (w.alloc (.cells (madeCells #[.int .u8 0] 512) 5)) :=
    run_make_row' (P := Try.prog) 22 5 (.int .u8 0) 1 Try.underlying22 (by kernel_rfl) rfl .i64 .i64 512 (by omega) (by omega) w
  have hB : Below w.heap.size w (w.alloc (.cells (madeCells #[.int .u8 0] 512) 5)) := by go_grown
  generalize madeCells #[Value.int .u8 0] 512 = O at hR hmk hB
  have HR := Lib.hid hR
  have HSA := Lib.hid (fun (hp : 0 < l.length) => (HS.out hp).imp fun ad ⟨e1, e2⟩ => And.intro e1 (fun j x (hx : (bys l)[j]? = some x) => (hB.cell (p := ad.add j) (World.block_lt_of_cell? w _ (e2 j x hx))).trans (e2 j x hx)))
  clear hR HS
  go_enter Try.func37, Try.ntmps37
  go_wp2_with (refine wpList_copy_splice rfl (.tmp 6) (.tmp 7) 22 22 rfl 5 Try.underlying22 (by kernel_rfl) (some ⟨w.heap.size, 0, none⟩) ao 512 512 l.length cap rfl rfl w.heap.size 0 (List.replicate 512 (.int .u8 0)) 5 HR.out (bys l) (by rw [bys_len]; exact (Nat.min_eq_left hl).symm) (fun hp => ⟨rfl, HSA.out (by rw [bys_len] at hp; exact hp)⟩) (by rw [bys_len, List.length_replicate]; omega) (fun u hu => by obtain ⟨_, _, rfl⟩ := List.mem_map.1 hu; rfl) w.heap.size w hB (Nat.le_refl _) ?_; intro w1 HR1 hB1)
  have hR1 : Row w1 5 w.heap.size (bys (l ++ List.replicate (l.length - l.length) 255) ++ List.replicate (512 - l.length) (Value.int .u8 0)) := by
    rw [← fill_start]; exact HR1.out
  clear HR1 hmk
  generalize hg : w.heap.size = g at hR1 ⊢
  have HG := Lib.hid hg
  clear hg
  go_loopw [4] (fun i wr => ∃ k : Nat, l.length ≤ k ∧ k ≤ 512 ∧ i = .int .i64 k ∧ Row wr 5 g (bys (l ++ List.replicate (k - l.length) 255) ++ List.replicate (512 - k) (Value.int .u8 0)) ∧ Below w.heap.size w wr) (fun i _ => 512 - (intOf i).toNat)
  case atStart => exact ⟨l.length, Nat.le_refl _, hl, by rw [bys_len], hR1, hB1⟩
  case round =>
    clear hR1 hB1
    obtain ⟨k, hk1, hk2, rfl, hR, hB⟩ := hrel
    by_cases hlt : k < 512
    · have hc := hR.cell (i := k) (by rw [fill_len' 512 l k hk1 hk2]; omega)
      have hz := hR.free k
      have hS := Lib.hid (show Row (wr.setCell ⟨g, k, none⟩ (.int .u8 255)) 5 g (bys (l ++ List.replicate (k + 1 - l.length) 255) ++ List.replicate (512 - (k + 1)) (Value.int .u8 0)) from by rw [← fill_part 512 l k hk1 hlt]; exact hR.set k _)
      have hBs := hB.setCell (p := ⟨g, k, none⟩) (by have := HG.out; simp; omega) (.int .u8 255)
      generalize (bys (l ++ List.replicate (k - l.length) 255) ++ List.replicate (512 - k) (Value.int IntKind.u8 0)).getD k undef = u at hc
      have hlI : (k : Int) < 512 := by omega
      clear hR hB
      go_wp2
      go_roundw
      case rel => exact ⟨k + 1, by omega, by omega, by go_num, hS.out, hBs⟩
      case measure => simp [intOf]; omega
    · obtain rfl : k = 512 := by omega
      have hF : Hid (wr.heap[g]? = some (.cells (bys (fill l)).toArray 5 (0, 0))) := Lib.hid (by have := hR; unfold Row at this; rw [fill_whole 512 l hl] at this; exact this)
      clear hR
      go_wp2
      go_ret
      exact ⟨g, rfl, hF.out, by have := HG.out; omega, hB⟩

theorem infoPgs : (Try.prog.info? 22).map (fun i => (i.zero, i.size, i.bytes)) = some (some (.slice none 0 0), 1, 24) := by kernel_rfl
theorem infoBlk : (Try.prog.info? 77).map (fun i => (i.zero, i.size, i.bytes)) = some (some (.agg #[.slice none 0 0, .int .i64 0]), 2, 32) := by kernel_rfl
theorem infoOp : (Try.prog.info? 85).map (fun i => (i.zero, i.size, i.bytes)) = some (some (.agg #[.int .i64 0, .int .i64 0, .slice none 0 0]), 3, 40) := by kernel_rfl
set_option maxHeartbeats 400000 in
set_option maxRecDepth 100000 in
theorem clone_pages {v : Value} {n : Nat} {xs : List Value} (w : World) (h : OL w 22 1 v n xs) (h1 : ∀ u ∈ xs, u.oneCell' = true) (hn : 1 ≤ n) (hn2 : n ≤ 1000000) :
    Calls Try.prog 49 #[v] w (NewOL 22 1 n xs w) := by
  obtain ⟨g, off, cap, w', hap, ho, hg, hB⟩ := fresh_append (P := Try.prog) 75 _ _ Try.underlying75 infoPgs rfl (by omega) ((h.alloc _).src Try.underlying75 h1) (by unfold maxLen; omega) (by omega)
  obtain ⟨g0, off0, cap0, rfl, _⟩ := h.form (by omega)
  have hq : ∀ wx, (binOp BinOp.eql 75 (Value.slice (some ⟨g0, off0, none⟩) n cap0) (Value.slice none 0 0)).run Try.prog wx = .ok (.bool false) wx := fun wx => Lib.run_eql_slice_nil wx 75 22 (some ⟨g0, off0, none⟩) n cap0 0 0 Try.underlying75
  have HP := Lib.hid (And.intro ho (And.intro hg hB))
  have HAP := Lib.hid hap
  clear ho hg hB h h1 hap hn2
  go_enter Try.func49, Try.ntmps49
  go_wp2_with (refine wpList_append_run rfl (.tmp 5) (.tmp 6) _ _ rfl rfl rfl HAP.out ?_)
  go_ret
  exact ⟨g, off, cap, rfl, HP.out⟩
theorem PgAt.form {w : World} {v : Value} {p : Page} (h : PgAt Qp w v p) : (v = .slice none 0 0 ∧ p = none) ∨ ∃ g l, v = .slice (some ⟨g, 0, none⟩) 512 512 ∧ p = some l := by
  cases p with
  | none => exact .inl ⟨h, rfl⟩
  | some l => obtain ⟨_, g, hv, _⟩ := h; exact .inr ⟨g, l, hv, rfl⟩
theorem PgAt.one {w : World} {v : Value} {p : Page} (h : PgAt Qp w v p) : v.oneCell' = true := by
  rcases h.form with ⟨rfl, _⟩ | ⟨g, l, rfl, _⟩ <;> rfl
theorem getD_mem {α : Type} {l : List α} {u d : α} (h : u ∈ l) : ∃ i, i < l.length ∧ l.getD i d = u := by
  obtain ⟨i, hi, rfl⟩ := List.getElem_of_mem h
  exact ⟨i, hi, by simp [List.getD, hi]⟩
/-- A new slice of pages. -/
def NewPgs (Qp : Nat → Prop) (ps : List Page) (w : World) (e : Ending) (w' : World) : Prop :=
  ∃ g off cap, e = .returned (.slice (some ⟨g, off, none⟩) ps.length cap) ∧ PgsAt Qp w' (.slice (some ⟨g, off, none⟩) ps.length cap) ps ∧ w.heap.size ≤ g ∧ Below w.heap.size w w'
theorem clone_pgs {v : Value} {ps : List Page} (w : World) (h : PgsAt Qp w v ps) (hn : 1 ≤ ps.length) (hn2 : ps.length ≤ 1000000) : Calls Try.prog 49 #[v] w (NewPgs Qp ps w) := by
  obtain ⟨pvs, h1, h2⟩ := h
  refine (clone_pages w h1 (fun u hu => ?_) hn hn2).mono ?_
  · obtain ⟨i, hi, rfl⟩ := getD_mem (d := nilS) hu
    exact (h2 i (by rw [h1.1] at hi; omega)).one
  · rintro e w' ⟨g, off, cap, he, ho, hg, hB⟩
    exact ⟨g, off, cap, he, ⟨pvs, ho, fun i hi => (h2 i hi).keep (Byt.of_below hB)⟩, hg, hB⟩

/-- New blocks. -/
def NewBlks (Qp : Nat → Prop) (bs : List Blk) (w : World) (e : Ending) (w' : World) : Prop :=
  ∃ g vs, e = .returned (.slice (some ⟨g, 0, none⟩) bs.length bs.length) ∧ BlksAt Qp w' (.slice (some ⟨g, 0, none⟩) bs.length bs.length) vs bs ∧ w.heap.size ≤ g ∧
    (∀ i k, (vs.getD i nilS).ownBlock = some k → w.heap.size ≤ k) ∧ (∀ i j k, i ≠ j → (vs.getD i nilS).ownBlock = some k → (vs.getD j nilS).ownBlock ≠ some k) ∧ Below w.heap.size w w'
theorem blkCells_blank : ∀ n, blkCells (List.replicate n nilS) (List.replicate n nilB) = (madeCells #[.slice none 0 0, .int .i64 0] (n * 2)).toList := by
  intro n
  apply List.ext_getElem?
  intro i
  have hl : (blkCells (List.replicate n nilS) (List.replicate n nilB)).length = n * 2 := by rw [blkCells_len _ _ (by simp)]; simp
  by_cases hi : i < n * 2
  · obtain ⟨e1, e2⟩ := blkCells_get (List.replicate n nilS) (List.replicate n nilB) (i / 2) (by simp) (by simp; omega)
    have hz : (madeCells #[Value.slice none 0 0, .int .i64 0] (n * 2)).toList[i]? = some (#[Value.slice none 0 0, .int .i64 0][i % 2]!) := by
      simp [madeCells, hi]
    rw [hz]
    rcases Nat.mod_two_eq_zero_or_one i with h0 | h1
    · have e : i / 2 * 2 = i := by omega
      rw [e] at e1; rw [e1, h0]
      simp [List.getD, show i / 2 < n by omega, nilS]
    · have e : i / 2 * 2 + 1 = i := by omega
      rw [e] at e2; rw [e2, h1]
      simp [List.getD, show i / 2 < n by omega, nilB]
  · rw [List.getElem?_eq_none (by omega), List.getElem?_eq_none (by simp [madeCells]; omega)]
theorem blks_made {w : World} {g n : Nat} (hn : n ≤ 1000000) (h : w.heap[g]? = some (.cells (madeCells #[.slice none 0 0, .int .i64 0] (n * 2)) 77 (0, 0))) :
    BlksAt Qp w (.slice (some ⟨g, 0, none⟩) n n) (List.replicate n nilS) (List.replicate n nilB) := by
  refine ⟨?_, by simp, fun i hi => ?_⟩
  · have e : madeCells #[Value.slice none 0 0, .int .i64 0] (n * 2) = (blkCells (List.replicate n nilS) (List.replicate n nilB)).toArray := by rw [blkCells_blank]
    rw [e] at h
    have := OL.of_block (n := n) (size := 2) h (by rw [blkCells_len _ _ (by simp)]; simp) (by unfold maxLen; omega)
    simpa using this
  · rw [List.length_replicate] at hi
    have e1 : (List.replicate n nilS).getD i nilS = nilS := by simp [List.getD, hi]
    have e2 : (List.replicate n nilB).getD i nilB = nilB := by simp [List.getD, hi]
    rw [e1, e2]
    exact ⟨[], OL.nil _ _ _, fun i hi => by simp [nilB] at hi⟩
theorem BlksAt.belowS {w w' : World} {v : Value} {vs : List Value} {bs : List Blk} (h : BlksAt Qp w v vs bs) (hb : Below w.heap.size w w') : BlksAt Qp w' v vs bs :=
  h.keep (Byt.of_below hb) (fun g hg => hb.block g (h.o.lt g hg)) (fun i g hg => hb.block g ((h.c i (by rw [← h.l]; exact ns_lt hg)).lt g hg))
/-- What has been copied. -/
structure ClI (Qp : Nat → Prop) (g : Nat) (bs : List Blk) (k : Nat) (w wr : World) (vs' : List Value) (bs' : List Blk) : Prop where
  a : BlksAt Qp wr (.slice (some ⟨g, 0, none⟩) bs.length bs.length) vs' bs'
  l : bs'.length = bs.length
  e : ∀ i, i < k → bs'.getD i nilB = bs.getD i nilB
  o : ∀ i x, (vs'.getD i nilS).ownBlock = some x → w.heap.size ≤ x
  d : ∀ i j x, i ≠ j → (vs'.getD i nilS).ownBlock = some x → (vs'.getD j nilS).ownBlock ≠ some x
  b : Below w.heap.size w wr
theorem ClI.next {g k : Nat} {bs : List Blk} {w wr w2 : World} {vs' : List Value} {bs' : List Blk} {B : Blk} {v2 : Value} {g2 : Nat} (h : ClI Qp g bs k w wr vs' bs') (hk : k < bs.length) (hg : w.heap.size ≤ g) (hb : Below wr.heap.size wr w2) (hB : bs.getD k nilB = B)
    (hp : PgsAt Qp w2 v2 B.pages) (hv : v2.ownBlock = some g2) (hg2 : wr.heap.size ≤ g2) :
    ClI Qp g bs (k + 1) w ((w2.setCell ⟨g, k * 2, none⟩ v2).setCell ⟨g, k * 2 + 1, none⟩ (.int .i64 B.worn)) (vs'.set k v2) (bs'.set k B) := by
  have hl := h.a.l
  have hsz := h.b.size
  have own : ∀ i x, ((vs'.set k v2).getD i nilS).ownBlock = some x → (i = k ∧ g2 = x) ∨ (i ≠ k ∧ (vs'.getD i nilS).ownBlock = some x) := fun i x hx => by
    rw [getD_set (by rw [hl, h.l]; exact hk)] at hx
    by_cases e : i = k
    · rw [if_pos e, hv] at hx; exact .inl ⟨e, Option.some.inj hx⟩
    · rw [if_neg e] at hx; exact .inr ⟨e, hx⟩
  have lt : ∀ i x, (vs'.getD i nilS).ownBlock = some x → x < wr.heap.size := fun i x hx => (h.a.c i (by rw [← hl]; exact ns_lt hx)).lt x hx
  refine { a := ?_, l := by rw [List.length_set]; exact h.l, e := fun i hi => ?_, o := fun i x hx => ?_, d := fun i j x hij hi hj => ?_, b := ?_ }
  · have := (h.a.belowS hb).put (i := k) (by rw [h.l]; exact hk) hp
    simpa using this
  · rw [getD_set (by rw [h.l]; exact hk)]
    by_cases e : i = k
    · rw [if_pos e, e, hB]
    · rw [if_neg e]; exact h.e i (by omega)
  · rcases own i x hx with ⟨_, rfl⟩ | ⟨_, hx⟩
    · omega
    · exact h.o i x hx
  · rcases own i x hi with ⟨e1, e3⟩ | ⟨e1, hi⟩
    · rcases own j _ hj with ⟨e2, _⟩ | ⟨_, hj⟩
      · omega
      · have := lt j _ hj; omega
    · rcases own j x hj with ⟨_, e3⟩ | ⟨_, hj⟩
      · have := lt i _ hi; omega
      · exact h.d i j x hij hi hj
  · exact ((h.b.trans (hb.mono hsz)).setCell hg _).setCell hg _
set_option maxRecDepth 100000 in
set_option maxHeartbeats 1000000 in
theorem clones_any {v : Value} {vs : List Value} {bs : List Blk} (w : World) (h : BlksAt Qp w v vs bs) (hn1 : 1 ≤ bs.length) (hn : bs.length ≤ 64) (hp : ∀ i, i < bs.length → 1 ≤ (bs.getD i nilB).pages.length ∧ (bs.getD i nilB).pages.length ≤ 32) :
    Calls Try.prog 33 #[v] w (NewBlks Qp bs w) := by
  obtain ⟨g0, off0, cap0, rfl, hnc, hcm, hg0⟩ := h.o.form hn1
  obtain ⟨i0, hi, iz, is, ib⟩ := info_parts infoBlk
  have hmk : (Instr.makeSlice 74 (.int .i64 (bs.length : Int)) (.int .i64 (bs.length : Int))).run Try.prog w = .ok (.slice (some ⟨w.heap.size, 0, none⟩) bs.length bs.length) (w.alloc (.cells (madeCells #[.slice none 0 0, .int .i64 0] (bs.length * 2)) 77)) := by
    have := run_make (P := Try.prog) w 74 77 i0 _ Try.underlying74 hi iz .i64 .i64 (bs.length : Int) (bs.length : Int) (by omega) (Int.le_refl _) (by rw [ib]; omega) (by omega)
    rw [is] at this
    exact this
  have hS : ClI Qp w.heap.size bs 0 w (w.alloc (.cells (madeCells #[.slice none 0 0, .int .i64 0] (bs.length * 2)) 77)) (List.replicate bs.length nilS) (List.replicate bs.length nilB) :=
    { a := blks_made (by omega) (heap_alloc_new w _), l := by simp, e := by omega
      o := fun i x hx => by have := ns_lt hx; simp at this; simp [List.getD, this, nilS, Value.ownBlock] at hx
      d := fun i j x _ hx => by have := ns_lt hx; simp at this; simp [List.getD, this, nilS, Value.ownBlock] at hx
      b := by go_grown }
  have HA := Lib.hid h
  have HP := Lib.hid hp
  have HS := Lib.hid hS
  generalize madeCells #[.slice none 0 0, .int .i64 0] (bs.length * 2) = O at HS hmk
  clear h hp hS hi iz is ib
  generalize hN : bs.length = N at *
  have HN := Lib.hid hN
  clear hN
  go_enter Try.func33, Try.ntmps33
  go_wp2_with fail
  clear hmk
  rw [← HN.out] at HS
  generalize w.alloc (Obj.cells O 77) = w1 at HS ⊢
  generalize hg : w.heap.size = g at HS ⊢
  have HG := Lib.hid hg
  clear hg
  go_loopw [11] (fun i wr => ∃ (k : Nat) (vs' : List Value) (bs' : List Blk), k ≤ N ∧ i = .int .i64 k ∧ ClI Qp g bs k w wr vs' bs') (fun i _ => N - (intOf i).toNat)
  case atStart => exact ⟨0, _, _, Nat.zero_le _, rfl, HS.out⟩
  case round =>
    clear HS
    obtain ⟨k, vs', bs', hk, rfl, hI⟩ := hrel
    by_cases hlt : k < N
    · obtain ⟨c0, c1⟩ := (HA.out.belowS hI.b).cells HN.out.symm (i := k) (by rw [HN.out]; exact hlt)
      have hpk := (HA.out.belowS hI.b).c k (by rw [HN.out]; exact hlt)
      obtain ⟨p1, p2⟩ := HP.out k hlt
      have CP := Lib.hid (fun (W : World) (hb : Below wr.heap.size wr W) => clone_pgs W ((HA.out.belowS (hI.b.trans (hb.mono hI.b.size))).c k (by rw [HN.out]; exact hlt)) p1 (by omega))
      obtain ⟨g1, off1, cap1, hv1, hx1, hx2, _⟩ := hpk.form p1
      rw [hv1] at c0 CP
      have HI := Lib.hid hI
      obtain ⟨cur, hcur⟩ := hI.a.o.elem g rfl
      have hz := has_free hcur
      obtain ⟨o0, o1⟩ := hI.a.cells (i := k) hI.l.symm (by rw [hI.l, HN.out]; exact hlt)
      have hzI := HI.out.b.size
      have hgl := hI.a.o.lt g rfl
      have hgw := HG.out
      generalize hBB : bs.getD k nilB = B at c0 c1 CP p1 p2 hv1 hx1 hpk
      have HBB := Lib.hid hBB
      generalize hnp : B.pages.length = np at c0 CP p1 p2 hv1 hx1
      have HNP := Lib.hid hnp
      generalize vs'.getD k nilS = ov at o0
      generalize (bs'.getD k nilB).worn = ow at o1
      have OO := Lib.hid (And.intro o0 (And.intro o1 hz))
      clear hpk hv1 hI hBB hnp o0 o1 hz hcur cur
      go_wp2_with fail
      have b0 := has_cell (heap_alloc_new wr (.cells #[.slice (some ⟨g1, off1, none⟩) np cap1, .int .i64 B.worn] 77)) 0
      have b1 := has_cell (heap_alloc_new wr (.cells #[.slice (some ⟨g1, off1, none⟩) np cap1, .int .i64 B.worn] 77)) 1
      have hb2 : Below wr.heap.size wr (wr.alloc (.cells #[.slice (some ⟨g1, off1, none⟩) np cap1, .int .i64 B.worn] 77)) := by go_grown
      have hlb : wr.heap.size < (wr.alloc (.cells #[.slice (some ⟨g1, off1, none⟩) np cap1, .int .i64 B.worn] 77)).heap.size := by simp
      generalize hbx : wr.heap.size = bx at b0 b1 hlb ⊢
      have HBX := Lib.hid hbx
      clear hbx c0 c1
      generalize wr.alloc (.cells #[.slice (some ⟨g1, off1, none⟩) np cap1, .int .i64 B.worn] 77) = w2 at b0 b1 hb2 hlb ⊢
      have hkI : (k : Int) < N := by omega
      have ngb : g ≠ bx := by have := HBX.out; omega
      have nbg : bx ≠ g := fun e => ngb e.symm
      have K := Lib.hid (fun (w3 : World) (hb3 : Below w2.heap.size w2 w3) => And.intro (hb2.trans (hb3.mono hb2.size)) (And.intro ((hb3.cell (p := ⟨bx, 0, none⟩) hlb).trans b0) (And.intro ((hb3.cell (p := ⟨bx, 1, none⟩) hlb).trans b1)
        (And.intro (((hb2.trans (hb3.mono hb2.size)).cell (p := ⟨g, k * 2, none⟩) hgl).trans (by simpa using OO.out.1)) (And.intro (((hb2.trans (hb3.mono hb2.size)).cell (p := ⟨g, k * 2 + 1, none⟩) hgl).trans (by simpa using OO.out.2.1))
          (fun j => ((hb2.trans (hb3.mono hb2.size)).frozen (p := ⟨g, j, none⟩) hgl).trans (OO.out.2.2 j)))))))
      go_region_held3 (fun w' => w'.cell? ⟨bx, 0, none⟩ = some (.slice (some ⟨g1, off1, none⟩) np cap1) ∧ w'.cell? ⟨bx, 1, none⟩ = some (.int .i64 B.worn)) (go_keep)
        (first | (go_at_call 49; refine (CP.out _ (by first | exact hb2 | exact hb2.trans (below_drew _ _) | exact hb2.trans (below_draw _ _ _))).mono ?_; rintro e w3 ⟨g2, off2, cap2, rfl, hp2, hg2, hb3⟩; obtain ⟨hb4, k0, k1, k2, k3, k4⟩ := K.out w3 (by first | exact hb3 | exact (below_drew _ _).trans hb3 | exact (below_draw _ _ _).trans hb3)))
      have hI' := Lib.hid (HI.out.next (by rw [HN.out]; exact hlt) (by omega) hb4 HBB.out hp2 (g2 := g2) rfl (by have := hb2.size; have := HBX.out; have := hb3.size; simp at hg2; omega))
      clear k0 k1 k2 k3 k4 hb3 hb4 hp2 K OO CP b0 b1
      go_wp2
      go_roundw
      case rel => exact ⟨k + 1, _, _, by omega, by go_num, hI'.out⟩
      case measure => simp [intOf]; omega
    · obtain rfl : k = N := by omega
      go_wp2
      go_ret
      have hN := HN.out
      have e : bs' = bs := by
        apply List.ext_getElem?
        intro i
        by_cases hi : i < bs.length
        · have := hI.e i (by omega)
          simpa [List.getD, hi, hI.l] using this
        · rw [List.getElem?_eq_none (by rw [hI.l]; omega), List.getElem?_eq_none (by omega)]
      subst e
      subst hN
      exact ⟨g, vs', rfl, hI.a, by have := HG.out; omega, hI.o, hI.d, hI.b⟩
end Go.Proofs.Ytbpjfhfibllhgaa

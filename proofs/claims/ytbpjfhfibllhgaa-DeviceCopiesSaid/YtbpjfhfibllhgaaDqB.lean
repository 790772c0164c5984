/- The device's functions that only look: next, check, page, Blocks, Pages, Next, Worn, Read. Conditions: the device lies in memory as 'DevAt Qp' says, and its numbers are in their bounds ('Gd'). -/
import Derived.Test.YtbpjfhfibllhgaaDqA
import Derived.Test.YtbpjfhfibllhgaaErr
namespace Go.Proofs.Ytbpjfhfibllhgaa
open Go.RowKit
open Go.Proofs.Ytbpjfhfibllhgaa.Dv
variable {Qp : Nat → Prop}

set_option maxHeartbeats 400000 in
theorem isnil_any (v : Value) (p : Page) (w : World) (h : PgAt Qp w v p) : Calls Try.prog 51 #[v] w fun e w' => e = .returned (.bool p.isNone) ∧ w' = w := by
  rcases h.form with ⟨rfl, rfl⟩ | ⟨g, l, rfl, rfl⟩
  · have hq : ∀ wx, (binOp BinOp.eql 22 (Value.slice none 0 0) (Value.slice none 0 0)).run Try.prog wx = .ok (.bool true) wx := fun wx => Lib.run_eql_slice_nil wx 22 5 none 0 0 0 0 Try.underlying22
    go_enter Try.func51, Try.ntmps51
    go_wp2
    go_ret
    exact ⟨rfl, rfl⟩
  · have hq : ∀ wx, (binOp BinOp.eql 22 (Value.slice (some ⟨g, 0, none⟩) 512 512) (Value.slice none 0 0)).run Try.prog wx = .ok (.bool false) wx := fun wx => Lib.run_eql_slice_nil wx 22 5 (some ⟨g, 0, none⟩) 512 512 0 0 Try.underlying22
    go_enter Try.func51, Try.ntmps51
    go_wp2
    go_ret
    exact ⟨rfl, rfl⟩
/-- The first page that is not programmed, or -1. -/
def ixN (ps : List Page) : Int := if ps.findIdx (fun p => p.isNone) < ps.length then ps.findIdx (fun p => p.isNone) else -1
theorem findIdx_at {ps : List Page} {k : Nat} (hk : k < ps.length) (h0 : ∀ j, j < k → (ps.getD j none).isNone = false) (h : (ps.getD k none).isNone = true) : ps.findIdx (fun p => p.isNone) = k := by
  rw [List.findIdx_eq hk]
  refine ⟨by simpa [List.getD, hk] using h, fun j hj => ?_⟩
  have := h0 j hj
  simpa [List.getD, show j < ps.length by omega] using this
theorem findIdx_no {ps : List Page} (h : ∀ j, j < ps.length → (ps.getD j none).isNone = false) : ps.findIdx (fun p => p.isNone) = ps.length := by
  rw [List.findIdx_eq_length]
  intro x hx
  obtain ⟨i, hi, rfl⟩ := List.getElem_of_mem hx
  have := h i hi
  simpa [List.getD, hi] using this
set_option maxRecDepth 100000 in
set_option maxHeartbeats 800000 in
theorem ixf_any {v : Value} {ps : List Page} (w : World) (h : PgsAt Qp w v ps) (hn : 1 ≤ ps.length) (hn2 : ps.length ≤ 32) :
    Calls Try.prog 50 #[v, .func (.func 51) #[] #[]] w fun e w' => e = .returned (.int .i64 (ixN ps)) ∧ Below w.heap.size w w' := by
  obtain ⟨pvs, hO, hP⟩ := h
  obtain ⟨g, off, cap, rfl, hnc, hcm, hg⟩ := hO.form hn
  have HO := Lib.hid hO
  have HP := Lib.hid hP
  clear hO hP
  generalize hN : ps.length = N at *
  have HN := Lib.hid hN
  clear hN
  go_enter Try.func50, Try.ntmps50
  go_wp2_with fail
  go_loopw [8] (fun i wr => ∃ (k : Nat), k ≤ N ∧ i = .int .i64 k ∧ (∀ j, j < k → (ps.getD j none).isNone = false) ∧ Below w.heap.size w wr) (fun i _ => N - (intOf i).toNat)
  case atStart => exact ⟨0, Nat.zero_le _, rfl, by omega, Below.refl _ _⟩
  case round =>
    obtain ⟨k, hk, rfl, hno, hB⟩ := hrel
    have HNO := Lib.hid hno
    clear hno
    by_cases hlt : k < N
    · have cl := (hB.cell (p := ⟨g, off + k, none⟩) hg).trans (HO.out.cell k (by omega))
      have hpk := (HP.out k hlt).keep (Byt.of_below hB)
      rw [show pvs[k]? = some (pvs.getD k nilS) by have := HO.out.1; simp [List.getD, show k < pvs.length by omega]] at cl
      have CI := Lib.hid (isnil_any _ _ wr hpk)
      have hv : ∃ ao n c, pvs.getD k nilS = .slice ao n c := by
        rcases hpk.form with ⟨h, _⟩ | ⟨g, l, h, _⟩
        · exact ⟨_, _, _, h⟩
        · exact ⟨_, _, _, h⟩
      obtain ⟨ao, n', c', hv⟩ := hv
      generalize pvs.getD k nilS = pv at cl CI hv
      subst hv
      clear hpk
      by_cases hpn : (ps.getD k none).isNone = true
      · rw [hpn] at CI
        have HR := Lib.hid (show ixN ps = k from by unfold ixN; rw [findIdx_at (by rw [HN.out]; exact hlt) HNO.out hpn, if_pos (by rw [HN.out]; exact hlt)])
        clear hpn
        go_wp2_with fail
        refine CI.out.mono ?_
        rintro e w' ⟨rfl, rfl⟩
        go_wp2
        go_ret
        rw [HR.out]
        exact ⟨rfl, hB⟩
      · replace hpn : (ps.getD k none).isNone = false := Bool.not_eq_true _ ▸ hpn
        have HPN := Lib.hid hpn
        rw [hpn] at CI
        clear hpn
        go_wp2_with fail
        refine CI.out.mono ?_
        rintro e w' ⟨rfl, rfl⟩
        go_wp2
        go_roundw
        case rel => exact ⟨k + 1, by omega, by go_num, fun j hj => by
          by_cases e : j = k
          · rw [e]; exact HPN.out
          · exact HNO.out j (by omega), hB⟩
        case measure => simp [intOf]; omega
    · obtain rfl : k = N := by omega
      have HR := Lib.hid (show ixN ps = -1 from by unfold ixN; rw [findIdx_no (by rw [HN.out]; exact HNO.out), if_neg (by omega)])
      go_wp2
      go_ret
      rw [HR.out]
      exact ⟨rfl, hB⟩
def NxtPost (r : Int) (w : World) (e : Ending) (w' : World) : Prop := e = .returned (.int .i64 r) ∧ Below w.heap.size w w'
set_option maxRecDepth 100000 in
theorem next_any {v : Value} {b : Blk} (w : World) (h : PgsAt Qp w v b.pages) (hn : 1 ≤ b.pages.length) (hn2 : b.pages.length ≤ 32) (x : Int) :
    Calls Try.prog 35 #[.agg #[v, .int .i64 x]] w (NxtPost (pgN b) w) := by
  obtain ⟨g, off, cap, hv, hx1, hx2, _⟩ := h.form hn
  have hk : PgsAt Qp (w.alloc (.cells #[v, .int .i64 x] 77)) v b.pages := h.keep (Byt.of_below (by go_grown)) (fun g hg => by have := h.lt g hg; exact Below.heap_alloc w _ g this)
  have CI := Lib.hid (ixf_any _ hk hn hn2)
  have hb0 := has_cell (heap_alloc_new w (.cells #[v, .int .i64 x] 77)) 0
  have hB0 : Below w.heap.size w (w.alloc (.cells #[v, .int .i64 x] 77)) := by go_grown
  have hlt : w.heap.size < (w.alloc (.cells #[v, .int .i64 x] 77)).heap.size := by simp
  subst hv
  have HX := Lib.hid (show ixN b.pages = if pgN b < b.pages.length then (pgN b : Int) else -1 from rfl)
  have hle : pgN b ≤ b.pages.length := List.findIdx_le_length
  clear h hk
  generalize b.pages.length = np at *
  generalize ixN b.pages = r at CI HX
  have HL := Lib.hid hle
  go_enter Try.func35, Try.ntmps35
  go_wp2_with fail
  generalize w.alloc (.cells #[.slice (some ⟨g, off, none⟩) np cap, .int .i64 x] 77) = w1 at CI hb0 hB0 hlt ⊢
  refine CI.out.mono ?_
  rintro e w2 ⟨rfl, hb2⟩
  have hb1 := (hb2.cell (p := ⟨w.heap.size, 0, none⟩) hlt).trans hb0
  have hB2 := hB0.trans (hb2.mono hB0.size)
  clear hb0 hB0 hb2 CI
  by_cases hlt : pgN b < np
  · have e := HX.out
    rw [if_pos hlt] at e
    subst e
    go_wp2
    go_ret
    exact ⟨rfl, hB2⟩
  · have e := HX.out
    rw [if_neg hlt] at e
    subst e
    have e2 : pgN b = np := by have := HL.out; omega
    have E2 := Lib.hid e2
    clear e2 hlt hle
    go_wp2
    go_ret
    rw [E2.out]
    exact ⟨rfl, hB2⟩

section
variable {b : Nat} {vd vn vp : Value} {ds ns ps : List Value} {s : Dev} {n p : Nat}
theorem check_nil (i : Int) (w : World) : Calls Try.prog 39 #[.pointer none, .int .i64 i] w fun e w' => e = .returned (errV 3) ∧ w' = w := by
  go_enter Try.func39, Try.ntmps39
  go_wp2
  go_ret
  exact ⟨rfl, rfl⟩
theorem blocks_nil (w : World) : Calls Try.prog 21 #[.pointer none] w fun e w' => e = .returned (.int .i64 0) ∧ w' = w := by
  go_enter Try.func21, Try.ntmps21
  go_wp2
  go_ret
  exact ⟨rfl, rfl⟩
theorem pages_nil (w : World) : Calls Try.prog 22 #[.pointer none] w fun e w' => e = .returned (.int .i64 0) ∧ w' = w := by
  go_enter Try.func22, Try.ntmps22
  go_wp2
  go_ret
  exact ⟨rfl, rfl⟩
theorem DevAt.form {w : World} (h : DevAt Qp w b vd ds vn ns vp ps s) (g : Gd n p s) : ∃ gn off cap, vn = .slice (some ⟨gn, off, none⟩) n cap ∧ n ≤ cap ∧ cap ≤ maxLen ∧ gn < w.heap.size := by
  have := h.hn.o.form (by rw [g.ln]; exact g.n1)
  rw [g.ln] at this
  exact this
variable {w : World}
theorem blocks_any (h : DevAt Qp w b vd ds vn ns vp ps s) (g : Gd n p s) : Calls Try.prog 21 #[.pointer (some ⟨b, 0, none⟩)] w fun e w' => e = .returned (.int .i64 n) ∧ w' = w := by
  have c1 := h.c1
  obtain ⟨gn, off, cap, rfl, _⟩ := h.form g
  clear h g
  go_enter Try.func21, Try.ntmps21
  go_wp2
  go_ret
  exact ⟨rfl, rfl⟩
theorem check_ok (h : DevAt Qp w b vd ds vn ns vp ps s) (g : Gd n p s) {i : Int} (h0 : 0 ≤ i) (h1 : i < n) : Calls Try.prog 39 #[.pointer (some ⟨b, 0, none⟩), .int .i64 i] w fun e w' => e = .returned (errV 0) ∧ w' = w := by
  have c1 := h.c1
  obtain ⟨gn, off, cap, rfl, _⟩ := h.form g
  clear h g
  go_enter Try.func39, Try.ntmps39
  go_wp2
  go_ret
  exact ⟨rfl, rfl⟩
theorem check_bad (h : DevAt Qp w b vd ds vn ns vp ps s) (g : Gd n p s) {i : Int} (hi : ¬ (0 ≤ i ∧ i < n)) : Calls Try.prog 39 #[.pointer (some ⟨b, 0, none⟩), .int .i64 i] w fun e w' => e = .returned (errV 1) ∧ w' = w := by
  have c1 := h.c1
  obtain ⟨gn, off, cap, rfl, _⟩ := h.form g
  clear h g
  by_cases h0 : i < 0
  · clear hi
    go_enter Try.func39, Try.ntmps39
    go_wp2
    go_ret
    exact ⟨rfl, rfl⟩
  · have h1 : (n : Int) ≤ i := by omega
    clear hi
    go_enter Try.func39, Try.ntmps39
    go_wp2
    go_ret
    exact ⟨rfl, rfl⟩
/-- The pages of a block of the device. -/
theorem DevAt.blk (h : DevAt Qp w b vd ds vn ns vp ps s) (g : Gd n p s) {i : Nat} (hi : i < n) {gn off cap : Nat} (hv : vn = .slice (some ⟨gn, off, none⟩) n cap) :
    w.cell? ⟨gn, off + i * 2, none⟩ = some (ns.getD i nilS) ∧ w.cell? ⟨gn, off + i * 2 + 1, none⟩ = some (.int .i64 (s.blk i).worn) ∧ PgsAt Qp w (ns.getD i nilS) (s.blk i).pages ∧ (s.blk i).pages.length = p ∧
      ∃ gp offp capp, ns.getD i nilS = .slice (some ⟨gp, offp, none⟩) p capp ∧ p ≤ capp ∧ capp ≤ maxLen ∧ gp < w.heap.size := by
  subst hv
  have hc := h.hn.cells g.ln.symm (i := i) (by rw [g.ln]; exact hi)
  have hp := h.hn.c i (by rw [g.ln]; exact hi)
  have hl := g.pn i hi
  have hf := hp.form (by rw [hl]; exact g.p1)
  rw [hl] at hf
  exact ⟨hc.1, hc.2, hp, hl, hf⟩
set_option maxRecDepth 100000 in
theorem pages_any (h : DevAt Qp w b vd ds vn ns vp ps s) (g : Gd n p s) : Calls Try.prog 22 #[.pointer (some ⟨b, 0, none⟩)] w fun e w' => e = .returned (.int .i64 p) ∧ w' = w := by
  have c1 := h.c1
  obtain ⟨gn, off, cap, hv, _⟩ := h.form g
  obtain ⟨c2, _, _, _, gp, offp, capp, hv2, _⟩ := h.blk g (i := 0) g.n1 hv
  have hn1 := g.n1
  subst hv
  rw [hv2, Nat.zero_mul, Nat.add_zero] at c2
  have hn0 : (0 : Int) < (n : Int) := by omega
  clear h g hv2 hn1
  go_enter Try.func22, Try.ntmps22
  go_wp2
  go_ret
  exact ⟨rfl, rfl⟩
def pageE (n p : Nat) (i k : Int) : Int := if (0 ≤ i ∧ i < n) ∧ (0 ≤ k ∧ k < p) then 0 else 1
theorem page_nil (i k : Int) (w : World) : Calls Try.prog 34 #[.pointer none, .int .i64 i, .int .i64 k] w fun e w' => e = .returned (errV 3) ∧ w' = w := by
  go_enter Try.func34, Try.ntmps34
  go_wp2_with fail
  refine (check_nil _ _).mono ?_
  rintro e w' ⟨rfl, rfl⟩
  rw [errV_pos (by decide)]
  go_wp2
  go_ret
  exact ⟨rfl, rfl⟩
theorem page_any (h : DevAt Qp w b vd ds vn ns vp ps s) (g : Gd n p s) (i k : Int) : Calls Try.prog 34 #[.pointer (some ⟨b, 0, none⟩), .int .i64 i, .int .i64 k] w fun e w' => e = .returned (errV (pageE n p i k)) ∧ w' = w := by
  by_cases hi : 0 ≤ i ∧ i < n
  · have CC := Lib.hid (check_ok h g hi.1 hi.2)
    have CP := Lib.hid (pages_any h g)
    by_cases hk : 0 ≤ k ∧ k < p
    · have HE := Lib.hid (show pageE n p i k = 0 from if_pos ⟨hi, hk⟩)
      obtain ⟨hk0, hk1⟩ := hk
      clear h g hi
      go_enter Try.func34, Try.ntmps34
      go_wp2_with fail
      refine CC.out.mono ?_
      rintro e w' ⟨rfl, rfl⟩
      rw [errV0]
      go_wp2_with (go_at_call 22; refine CP.out.mono ?_; rintro e w' ⟨rfl, rfl⟩)
      go_ret
      rw [HE.out]
      exact ⟨rfl, rfl⟩
    · have HE := Lib.hid (show pageE n p i k = 1 from if_neg (fun x => hk x.2))
      clear h g hi
      go_enter Try.func34, Try.ntmps34
      go_wp2_with fail
      refine CC.out.mono ?_
      rintro e w' ⟨rfl, rfl⟩
      rw [errV0]
      by_cases h0 : k < 0
      all_goals
        have h1 : ¬ k < 0 → (p : Int) ≤ k := by omega
        clear hk
        try have h2 := h1 h0
        clear h1
        go_wp2_with (go_at_call 22; refine CP.out.mono ?_; rintro e w' ⟨rfl, rfl⟩)
        go_ret
        rw [HE.out]
        exact ⟨rfl, rfl⟩
  · have CC := Lib.hid (check_bad h g hi)
    have HE := Lib.hid (show pageE n p i k = 1 from if_neg (fun x => hi x.1))
    clear h g hi
    go_enter Try.func34, Try.ntmps34
    go_wp2_with fail
    refine CC.out.mono ?_
    rintro e w' ⟨rfl, rfl⟩
    rw [errV_pos (by decide)]
    go_wp2
    go_ret
    rw [HE.out]
    exact ⟨rfl, rfl⟩
theorem next_nil (i : Int) (w : World) : Calls Try.prog 15 #[.pointer none, .int .i64 i] w fun e w' => e = .returned (.tuple #[.int .i64 0, errV 3]) ∧ w' = w := by
  go_enter Try.func15, Try.ntmps15
  go_wp2_with fail
  refine (check_nil _ _).mono ?_
  rintro e w' ⟨rfl, rfl⟩
  rw [errV_pos (by decide)]
  go_wp2
  go_ret2
  exact ⟨rfl, rfl⟩
theorem worn_nil (i : Int) (w : World) : Calls Try.prog 20 #[.pointer none, .int .i64 i] w fun e w' => e = .returned (.tuple #[.int .i64 0, errV 3]) ∧ w' = w := by
  go_enter Try.func20, Try.ntmps20
  go_wp2_with fail
  refine (check_nil _ _).mono ?_
  rintro e w' ⟨rfl, rfl⟩
  rw [errV_pos (by decide)]
  go_wp2
  go_ret2
  exact ⟨rfl, rfl⟩
theorem read_nil (i k : Int) (w : World) : Calls Try.prog 16 #[.pointer none, .int .i64 i, .int .i64 k] w fun e w' => e = .returned (.tuple #[.slice none 0 0, errV 3]) ∧ w' = w := by
  go_enter Try.func16, Try.ntmps16
  go_wp2_with fail
  refine (page_nil _ _ _).mono ?_
  rintro e w' ⟨rfl, rfl⟩
  rw [errV_pos (by decide)]
  go_wp2
  go_ret2
  exact ⟨rfl, rfl⟩
theorem next_bad (h : DevAt Qp w b vd ds vn ns vp ps s) (g : Gd n p s) {i : Int} (hi : ¬ (0 ≤ i ∧ i < n)) : Calls Try.prog 15 #[.pointer (some ⟨b, 0, none⟩), .int .i64 i] w fun e w' => e = .returned (.tuple #[.int .i64 0, errV 1]) ∧ w' = w := by
  have CC := Lib.hid (check_bad h g hi)
  clear h g hi
  go_enter Try.func15, Try.ntmps15
  go_wp2_with fail
  refine CC.out.mono ?_
  rintro e w' ⟨rfl, rfl⟩
  rw [errV_pos (by decide)]
  go_wp2
  go_ret2
  exact ⟨rfl, rfl⟩
theorem worn_bad (h : DevAt Qp w b vd ds vn ns vp ps s) (g : Gd n p s) {i : Int} (hi : ¬ (0 ≤ i ∧ i < n)) : Calls Try.prog 20 #[.pointer (some ⟨b, 0, none⟩), .int .i64 i] w fun e w' => e = .returned (.tuple #[.int .i64 0, errV 1]) ∧ w' = w := by
  have CC := Lib.hid (check_bad h g hi)
  clear h g hi
  go_enter Try.func20, Try.ntmps20
  go_wp2_with fail
  refine CC.out.mono ?_
  rintro e w' ⟨rfl, rfl⟩
  rw [errV_pos (by decide)]
  go_wp2
  go_ret2
  exact ⟨rfl, rfl⟩
theorem read_bad (h : DevAt Qp w b vd ds vn ns vp ps s) (g : Gd n p s) {i k : Int} (hi : pageE n p i k = 1) : Calls Try.prog 16 #[.pointer (some ⟨b, 0, none⟩), .int .i64 i, .int .i64 k] w fun e w' => e = .returned (.tuple #[.slice none 0 0, errV 1]) ∧ w' = w := by
  have CC := Lib.hid (page_any h g i k)
  rw [hi] at CC
  clear h g hi
  go_enter Try.func16, Try.ntmps16
  go_wp2_with fail
  refine CC.out.mono ?_
  rintro e w' ⟨rfl, rfl⟩
  rw [errV_pos (by decide)]
  go_wp2
  go_ret2
  exact ⟨rfl, rfl⟩
set_option maxRecDepth 100000 in
theorem worn_ok (h : DevAt Qp w b vd ds vn ns vp ps s) (g : Gd n p s) {i : Nat} (hi : i < n) : Calls Try.prog 20 #[.pointer (some ⟨b, 0, none⟩), .int .i64 i] w fun e w' => e = .returned (.tuple #[.int .i64 (s.blk i).worn, errV 0]) ∧ w' = w := by
  have CC := Lib.hid (check_ok h g (i := i) (by omega) (by omega))
  have c1 := h.c1
  obtain ⟨gn, off, cap, hv, _⟩ := h.form g
  obtain ⟨_, c3, _, _, _⟩ := h.blk g hi hv
  subst hv
  have hiI : (i : Int) < n := by omega
  generalize (s.blk i).worn = x at c3 ⊢
  clear h g
  go_enter Try.func20, Try.ntmps20
  go_wp2_with fail
  refine CC.out.mono ?_
  rintro e w' ⟨rfl, rfl⟩
  rw [errV0]
  go_wp2
  go_ret2
  exact ⟨rfl, rfl⟩
def NxtOk (r : Int) (w : World) (e : Ending) (w' : World) : Prop := e = .returned (.tuple #[.int .i64 r, errV 0]) ∧ Below w.heap.size w w'
set_option maxRecDepth 100000 in
theorem next_ok (h : DevAt Qp w b vd ds vn ns vp ps s) (g : Gd n p s) {i : Nat} (hi : i < n) : Calls Try.prog 15 #[.pointer (some ⟨b, 0, none⟩), .int .i64 i] w (NxtOk (pgN (s.blk i)) w) := by
  have CC := Lib.hid (check_ok h g (i := i) (by omega) (by omega))
  have c1 := h.c1
  obtain ⟨gn, off, cap, hv, _⟩ := h.form g
  obtain ⟨c2, c3, hp, hl, gp, offp, capp, hvp, _⟩ := h.blk g hi hv
  have hp1 := g.p1
  have hp2 := g.p2
  have CN := Lib.hid (next_any w hp (by omega) (by omega) (s.blk i).worn)
  subst hv
  rw [hvp] at c2 CN
  have hiI : (i : Int) < n := by omega
  generalize (s.blk i).worn = x at c3 CN
  generalize pgN (s.blk i) = r at CN ⊢
  clear h g hl hp hvp
  go_enter Try.func15, Try.ntmps15
  go_wp2_with fail
  refine CC.out.mono ?_
  rintro e w' ⟨rfl, rfl⟩
  rw [errV0]
  go_wp2_with fail
  refine CN.out.mono ?_
  rintro e w2 ⟨rfl, hB⟩
  go_wp2
  go_ret2
  exact ⟨rfl, hB⟩
/-- What a page reads as. -/
def look : Page → List Int
  | none => fill []
  | some l => fill l
theorem fill_fill (l : List Int) (h : l.length = 512) : fill l = l := by
  apply List.ext_getElem?
  intro i
  unfold fill
  by_cases hi : i < l.length
  · rw [List.getElem?_map, List.getElem?_range (by omega), Option.map_some]
    simp [List.getD, hi]
  · rw [List.getElem?_eq_none (by simp; omega), List.getElem?_eq_none (by omega)]
theorem PgAt.src {v : Value} {p : Page} (h : PgAt Qp w v p) : ∃ l, BySrc w v l ∧ l.length ≤ 512 ∧ fill l = look p := by
  cases p with
  | none =>
    obtain rfl : v = _ := h
    exact ⟨[], ⟨⟨none, 0, rfl⟩, fun _ _ _ _ h0 => by simp at h0⟩, by simp, rfl⟩
  | some l =>
    obtain ⟨hl, gg, rfl, hg, _⟩ := h
    refine ⟨l, ⟨⟨_, 512, by rw [hl]⟩, fun ao n' cap hv _ => ?_⟩, by omega, rfl⟩
    simp only [Value.slice.injEq] at hv
    obtain ⟨rfl, _, _⟩ := hv
    refine ⟨_, rfl, fun j x hx => ?_⟩
    rw [Addr.add_lit]
    show w.cell? ⟨gg, 0 + j, none⟩ = some x
    rw [has_cell hg, Nat.zero_add, List.getElem?_toArray]; exact hx
def ReadOk (l : List Int) (w : World) (e : Ending) (w' : World) : Prop :=
  ∃ g, e = .returned (.tuple #[.slice (some ⟨g, 0, none⟩) 512 512, errV 0]) ∧ w'.heap[g]? = some (.cells (bys l).toArray 5 (0, 0)) ∧ w.heap.size ≤ g ∧ Below w.heap.size w w'
set_option maxRecDepth 100000 in
theorem read_ok (h : DevAt Qp w b vd ds vn ns vp ps s) (g : Gd n p s) {i k : Nat} (hi : i < n) (hk : k < p) : Calls Try.prog 16 #[.pointer (some ⟨b, 0, none⟩), .int .i64 i, .int .i64 k] w (ReadOk (look ((s.blk i).pages.getD k none)) w) := by
  have CC := Lib.hid (page_any h g i k)
  rw [show pageE n p i k = 0 from if_pos (by omega)] at CC
  have c1 := h.c1
  obtain ⟨gn, off, cap, hv, _⟩ := h.form g
  obtain ⟨c2, c3, ⟨pvs, hO, hP⟩, hl, gp, offp, capp, hvp, _⟩ := h.blk g hi hv
  rw [hl] at hO
  have hPk := hP k (by omega)
  rw [hvp] at hO c2
  have c4 := hO.cell k (by omega)
  rw [show pvs[k]? = some (pvs.getD k nilS) by have := hO.1; simp [List.getD, show k < pvs.length by omega]] at c4
  obtain ⟨l, hsrc, hl5, hfl⟩ := hPk.src
  have CF := Lib.hid (filled_any _ l w hsrc hl5)
  rw [hfl] at CF
  have hv2 : ∃ ao n c, pvs.getD k nilS = .slice ao n c := by
    rcases hPk.form with ⟨h, _⟩ | ⟨g, l, h, _⟩
    · exact ⟨_, _, _, h⟩
    · exact ⟨_, _, _, h⟩
  obtain ⟨ao, n', c', hv2⟩ := hv2
  generalize pvs.getD k nilS = pv at c4 CF hv2
  subst hv2
  subst hv
  have hiI : (i : Int) < n := by omega
  have hkI : (k : Int) < p := by omega
  generalize look ((s.blk i).pages.getD k none) = L at CF ⊢
  clear h g hl hO hP hPk hvp hsrc hl5 hfl c3
  go_enter Try.func16, Try.ntmps16
  go_wp2_with fail
  refine CC.out.mono ?_
  rintro e w' ⟨rfl, rfl⟩
  rw [errV0]
  go_wp2_with fail
  refine CF.out.mono ?_
  rintro e w2 ⟨gr, rfl, hgr, hlo, hB⟩
  have HGR := Lib.hid hgr
  clear hgr
  go_wp2
  go_ret2
  exact ⟨gr, rfl, HGR.out, hlo, hB⟩
end
end Go.Proofs.Ytbpjfhfibllhgaa

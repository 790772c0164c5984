/- network: slices.Clone of bytes and of integers. Conditions: the slice can be read. -/
import Derived.Test.YtkhiepjlfbjgdaaZNwE
namespace Go.Proofs.Ytkhiepjlfbjgdaa
open Go.RowKit

/-- The slice at ao holds the cells xs, each one cell. -/
structure Cells (w : World) (ao : Option Addr) (n : Nat) (xs : List Value) : Prop where
  nil : ao = none → n = 0
  len : xs.length = n
  at_ : ∀ a, ao = some a → ∀ j u, xs[j]? = some u → w.cell? (a.add j) = some u
  one : ∀ u ∈ xs, u.oneCell' = true
def lst (n : Nat) (X : Nat → Int) : List Int := (List.range n).map X
theorem lst_len (n : Nat) (X : Nat → Int) : (lst n X).length = n := by simp [lst]
theorem lst_get {n : Nat} {X : Nat → Int} {i : Nat} (h : i < n) (d : Int) : (lst n X).getD i d = X i := by simp [lst, List.getD, h]
theorem Cells.alloc {w : World} {ao : Option Addr} {n : Nat} {xs : List Value} (h : Cells w ao n xs) (o : Obj) : Cells (w.alloc o) ao n xs :=
  ⟨h.nil, h.len, fun a ha j u hu => by
    have := h.at_ a ha j u hu
    rw [← this]
    exact World.cell?_of_block (Below.heap_alloc w o _ (World.block_lt_of_cell? w _ this)), h.one⟩
theorem Cells.belowS {w w' : World} {ao : Option Addr} {n : Nat} {xs : List Value} (h : Cells w ao n xs) (hb : Below w.heap.size w w') : Cells w' ao n xs :=
  ⟨h.nil, h.len, fun a ha j u hu => by
    have := h.at_ a ha j u hu
    rw [← this]
    exact World.cell?_of_block (hb.block _ (World.block_lt_of_cell? w _ this)), h.one⟩
theorem Cells.src {P : Program} {w : World} {ao : Option Addr} {n c : Nat} {xs : List Value} (h : Cells w ao n xs) {tx e' : TypeId} (hk : P.underlying tx = some (.slice e')) : Src P 1 tx (.slice ao n c) n xs w := by
  cases ao with
  | none =>
    obtain rfl := h.nil rfl
    obtain rfl : xs = [] := List.eq_nil_of_length_eq_zero h.len
    exact Src.ofNil (size := 1) w hk c
  | some a => exact Src.ofSlice (size := 1) w hk a n c xs (by rw [h.len]; omega) (h.at_ a rfl) h.one
theorem IsInts.cells {w : World} {ao : Option Addr} {n b off : Nat} {X : Nat → Int} (h : IsInts w ao n b off X) : Cells w ao n (ints (lst n X)) where
  nil e := by
    by_cases h0 : 0 < n
    · have := h.ao h0; rw [e] at this; cases this
    · omega
  len := by rw [ints_len, lst_len]
  at_ a ha j u hu := by
    have hj : j < n := by have := (List.getElem?_eq_some_iff.1 hu).1; rwa [ints_len, lst_len] at this
    have := h.ao (by omega)
    rw [ha] at this
    obtain rfl := Option.some.inj this
    rw [Addr.add_lit, h.c j hj, ← hu, ints_get _ _ (by rw [lst_len]; exact hj), lst_get hj]
  one u hu := by obtain ⟨x, _, rfl⟩ := List.mem_map.1 hu; rfl
theorem IsBytes.cells {w : World} {ao : Option Addr} {n b off : Nat} {X : Nat → Int} (h : IsBytes w ao n b off X) : Cells w ao n (bys (lst n X)) where
  nil e := by
    by_cases h0 : 0 < n
    · have := h.ao h0; rw [e] at this; cases this
    · omega
  len := by rw [bys_len, lst_len]
  at_ a ha j u hu := by
    have hj : j < n := by have := (List.getElem?_eq_some_iff.1 hu).1; rwa [bys_len, lst_len] at this
    have := h.ao (by omega)
    rw [ha] at this
    obtain rfl := Option.some.inj this
    rw [Addr.add_lit, h.c j hj, ← hu, bys_get _ _ (by rw [lst_len]; exact hj), lst_get hj]
  one u hu := by obtain ⟨x, _, rfl⟩ := List.mem_map.1 hu; rfl
/-- What Clone leaves. -/
def CloneP (e : TypeId) (n : Nat) (xs : List Value) (w : World) (en : Ending) (w' : World) : Prop :=
  ∃ ao cap, en = .returned (.slice ao n cap) ∧ OL w' e 1 (.slice ao n cap) n xs ∧ (∀ k, (Value.slice ao n cap).ownBlock = some k → w.heap.size ≤ k) ∧ Below w.heap.size w w'
theorem infoI : (Try.prog.info? 3).map (fun i => (i.zero, i.size, i.bytes)) = some (some (.int .i64 0), 1, 8) := by kernel_rfl
theorem infoB : (Try.prog.info? 5).map (fun i => (i.zero, i.size, i.bytes)) = some (some (.int .u8 0), 1, 1) := by kernel_rfl
set_option maxRecDepth 100000 in
theorem clone_ints {w : World} {ao : Option Addr} {n c : Nat} {xs : List Value} (h : Cells w ao n xs) (hn : n ≤ 1000000) : Calls Try.prog 30 #[.slice ao n c] w (CloneP 3 n xs w) := by
  cases ao with
  | none =>
    obtain rfl := h.nil rfl
    obtain rfl : xs = [] := List.eq_nil_of_length_eq_zero h.len
    have hq : ∀ wx, (binOp BinOp.eql 35 (Value.slice none 0 c) (Value.slice none 0 0)).run Try.prog wx = .ok (.bool true) wx := fun wx => Lib.run_eql_slice_nil wx 35 3 none 0 c 0 0 Try.underlying35
    clear h
    go_enter Try.func30, Try.ntmps30
    go_wp2
    go_ret
    exact ⟨none, 0, rfl, OL.nil _ _ _, fun k hk => by simp [Value.ownBlock] at hk, Below.refl _ _⟩
  | some a =>
    obtain ⟨g', off', cap', w', hap, ho, hg, hB⟩ := fresh_append (P := Try.prog) 35 _ _ Try.underlying35 infoI rfl (by omega) ((h.alloc (.cells #[] 3)).src (c := c) Try.underlying35) (by unfold maxLen; omega) (by omega)
    have hq : ∀ wx, (binOp BinOp.eql 35 (Value.slice (some a) n c) (Value.slice none 0 0)).run Try.prog wx = .ok (.bool false) wx := fun wx => Lib.run_eql_slice_nil wx 35 3 (some a) n c 0 0 Try.underlying35
    have HP := Lib.hid (And.intro ho (And.intro hg hB))
    have HAP := Lib.hid hap
    clear ho hg hB h hap hn
    go_enter Try.func30, Try.ntmps30
    go_wp2_with (refine wpList_append_run (v := .slice (some ⟨w.heap.size, 0, none⟩) 0 0) (xv := .slice (some a) n c) rfl (.tmp 5) (.tmp 6) _ _ rfl (by rfl) (by rfl) HAP.out ?_)
    go_ret
    exact ⟨_, _, rfl, HP.out.1, fun k hk => by
      have h5 := HP.out.2.1
      simp [Value.ownBlock] at hk; omega, HP.out.2.2⟩
set_option maxRecDepth 100000 in
theorem clone_bytes {w : World} {ao : Option Addr} {n c : Nat} {xs : List Value} (h : Cells w ao n xs) (hn : n ≤ 1000000) : Calls Try.prog 36 #[.slice ao n c] w (CloneP 5 n xs w) := by
  cases ao with
  | none =>
    obtain rfl := h.nil rfl
    obtain rfl : xs = [] := List.eq_nil_of_length_eq_zero h.len
    have hq : ∀ wx, (binOp BinOp.eql 41 (Value.slice none 0 c) (Value.slice none 0 0)).run Try.prog wx = .ok (.bool true) wx := fun wx => Lib.run_eql_slice_nil wx 41 5 none 0 c 0 0 Try.underlying41
    clear h
    go_enter Try.func36, Try.ntmps36
    go_wp2
    go_ret
    exact ⟨none, 0, rfl, OL.nil _ _ _, fun k hk => by simp [Value.ownBlock] at hk, Below.refl _ _⟩
  | some a =>
    obtain ⟨g', off', cap', w', hap, ho, hg, hB⟩ := fresh_append (P := Try.prog) 41 _ _ Try.underlying41 infoB rfl (by omega) ((h.alloc (.cells #[] 5)).src (c := c) Try.underlying41) (by unfold maxLen; omega) (by omega)
    have hq : ∀ wx, (binOp BinOp.eql 41 (Value.slice (some a) n c) (Value.slice none 0 0)).run Try.prog wx = .ok (.bool false) wx := fun wx => Lib.run_eql_slice_nil wx 41 5 (some a) n c 0 0 Try.underlying41
    have HP := Lib.hid (And.intro ho (And.intro hg hB))
    have HAP := Lib.hid hap
    clear ho hg hB h hap hn
    go_enter Try.func36, Try.ntmps36
    go_wp2_with (refine wpList_append_run (v := .slice (some ⟨w.heap.size, 0, none⟩) 0 0) (xv := .slice (some a) n c) rfl (.tmp 5) (.tmp 6) _ _ rfl (by rfl) (by rfl) HAP.out ?_)
    go_ret
    exact ⟨_, _, rfl, HP.out.1, fun k hk => by
      have h5 := HP.out.2.1
      simp [Value.ownBlock] at hk; omega, HP.out.2.2⟩
end Go.Proofs.Ytkhiepjlfbjgdaa

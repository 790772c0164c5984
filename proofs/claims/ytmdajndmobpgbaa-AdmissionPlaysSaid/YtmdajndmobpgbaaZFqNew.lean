/- slices.Clone and New of package fair. Conditions: the slice is readable. -/
import Derived.Test.YtmdajndmobpgbaaZFqNext
import Derived.Deep.OwnRows
import Derived.Laws.OwnMore
namespace Go.Proofs.Ytmdajndmobpgbaa
open Go.RowKit
open Go.Proofs.Ytmdajndmobpgbaa.Fq

def ClonePost (m : Nat) (news : List Value) (w : World) (e : Ending) (w' : World) : Prop :=
  ∃ g cap xt, e = .returned (.slice (some ⟨g, 0, none⟩) m cap) ∧ w'.heap[g]? = some (.cells (news ++ xt).toArray 3 (0, 0)) ∧ m ≤ cap ∧ cap ≤ maxLen ∧ (news ++ xt).length = cap ∧ Below w.heap.size w w' ∧ w.heap.size ≤ g ∧ g < w'.heap.size
set_option maxRecDepth 100000 in
set_option maxHeartbeats 400000 in
theorem clone_any {a : Addr} {m c : Nat} {news : List Value} (w : World) (hs : ∀ o, Src Try.prog 1 37 (.slice (some a) m c) m news (w.alloc o)) (h1 : 1 ≤ m) (hm : m ≤ 16) :
    Calls Try.prog 46 #[.slice (some a) m c] w (ClonePost m news w) := by
  go_enter Try.func46, Try.ntmps46
  have hq : ∀ wx, (binOp BinOp.eql 37 (Value.slice (some a) m c) (Value.slice none 0 0)).run Try.prog wx = .ok (.bool false) wx := fun wx => Lib.run_eql_slice_nil wx 37 3 (some a) m c 0 0 Try.underlying37
  have hap := run_append_grow_src (P := Try.prog) (w.alloc (.cells #[] 3)) 37 37 37 3 Try.t3 (.int .i64 0) Try.underlying37 (by kernel_rfl) rfl (some ⟨w.heap.size, 0, none⟩) 0 0 []
    (run_firstCells_some _ 1 0 ⟨w.heap.size, 0, none⟩ 0 0 [] rfl (fun j u hu => by simp at hu)) (.slice (some a) m c) m news (hs _) (by omega) (by omega) (growslice_fits (by omega) (show (0 + m) * 8 ≤ _ by omega))
  have hge := grownCap_ge (w.alloc (.cells #[] 3)) (0 + m) 0 3
  have hcm : grownCap (w.alloc (.cells #[] 3)) (0 + m) 0 3 ≤ maxLen := grownCap_le_maxLen _ (0 + m) 0 3 (by simp only [maxLen]; omega)
  have hnl := (hs (.cells #[] 3)).newsLen
  generalize grownCap (w.alloc (.cells #[] 3)) (0 + m) 0 3 = cap at hap hge hcm
  rw [Nat.zero_add] at hap hge
  have HP : Hid (ClonePost m news w (.returned (.slice (some ⟨w.heap.size + 1, 0, none⟩) m cap)) ((w.alloc (.cells #[] 3)).drew.alloc (.cells (([] ++ news).toArray ++ Builtin.zeroCells #[.int .i64 0] (cap - m)) 3))) := by
    refine Lib.hid ⟨_, cap, (Builtin.zeroCells #[.int .i64 0] (cap - m)).toList, rfl, ?_, hge, hcm, ?_, by go_grown, by omega, by simp⟩
    · have := heap_alloc_new (w.alloc (.cells #[] 3)).drew (.cells (([] ++ news).toArray ++ Builtin.zeroCells #[.int .i64 0] (cap - m)) 3)
      have e : (([] ++ news).toArray ++ Builtin.zeroCells #[.int .i64 0] (cap - m)) = (news ++ (Builtin.zeroCells #[.int .i64 0] (cap - m)).toList).toArray := by simp
      rw [e] at this
      rw [e]; simpa using this
    · simp [size_zeroCells, hnl]; omega
  clear hnl hge hcm hs
  go_wp2_with (refine wpList_append_run rfl (.tmp 5) (.tmp 6) _ _ rfl rfl rfl hap ?_)
  go_ret
  exact HP.out

def qList (Q : Nat → Int) (n : Nat) : List Int := (List.range n).map Q
theorem qList_len (Q : Nat → Int) (n : Nat) : (qList Q n).length = n := by simp [qList]
def newOk (Q : Nat → Int) (n : Nat) : Prop := 1 ≤ n ∧ n ≤ 16 ∧ ∀ i, i < n → 1 ≤ Q i ∧ Q i ≤ 65536
def FQ.init (Q : Nat → Int) (n : Nat) : FQ := { quanta := qList Q n, defs := List.replicate n 0, lists := List.replicate n [], cur := 0, begun := false }

def NewBad (w : World) (e : Ending) (w' : World) : Prop := e = .returned (.tuple #[.pointer none, .iface 33 (.int .i64 1)]) ∧ w' = w
set_option maxRecDepth 100000 in
set_option maxHeartbeats 400000 in
theorem new_short {ao : Option Addr} {n c : Nat} (w : World) (hn : n ≤ 9223372036854775807) (hs : n < 1 ∨ 16 < n) :
    Calls Try.prog 33 #[.slice ao n c] w (NewBad w) := by
  go_enter Try.func33, Try.ntmps33
  rcases hs with h | h
  all_goals
    go_wp2
    go_ret2
    exact ⟨rfl, rfl⟩
set_option maxRecDepth 100000 in
set_option maxHeartbeats 400000 in
theorem new_bad {ao : Option Addr} {n c b off : Nat} {Q : Nat → Int} (w : World) (h : IsInts w ao n b off Q) (h1 : 1 ≤ n) (h16 : n ≤ 16) {i0 : Nat} (hi : i0 < n) (hbad : ¬ (1 ≤ Q i0 ∧ Q i0 ≤ 65536)) :
    Calls Try.prog 33 #[.slice ao n c] w (NewBad w) := by
  obtain rfl := h.ao h1
  have H := Lib.hid h
  have HB := Lib.hid hbad
  clear h hbad
  go_enter Try.func33, Try.ntmps33
  go_wp2
  go_loopw [17] (fun i wr => ∃ (k : Nat), k ≤ i0 ∧ i = .int .i64 k ∧ wr = w) (fun i _ => n - (intOf i).toNat)
  case atStart => exact ⟨0, Nat.zero_le _, rfl, rfl⟩
  case round =>
    obtain ⟨k, hk, rfl, rfl⟩ := hrel
    have hc := H.out.c k (by omega)
    have hb := H.out.bd k (by omega)
    by_cases hq : 1 ≤ Q k ∧ Q k ≤ 65536
    · have hne : k ≠ i0 := fun e => HB.out (e ▸ hq)
      obtain ⟨hq1, hq2⟩ := hq
      go_wp2
      go_roundw
      case rel => exact ⟨k + 1, by omega, by go_num, by first | rfl | trivial⟩
      case measure => simp [intOf]; omega
    · by_cases hq1 : Q k < 1
      · clear hq
        go_wp2
        go_ret2
        exact ⟨rfl, rfl⟩
      · have hq2 : 65536 < Q k := by omega
        clear hq
        go_wp2
        go_ret2
        exact ⟨rfl, rfl⟩

theorem below_step {B B0 : Nat} {w W0 wc : World} (h0 : Below B w W0) (h : Below B0 W0 wc) (hB : B ≤ B0) : Below B w wc := h0.trans ⟨h.os, h.tape, h.output, h.size, fun k hk => h.block k (by omega)⟩
theorem new_end {w : World} {b bq cq bd bl n : Nat} {xq : List Value} {Q : Nat → Int}
    (hb : w.heap[b]? = some (.cells #[.slice (some ⟨bq, 0, none⟩) n cq, .slice (some ⟨bd, 0, none⟩) n n, .slice (some ⟨bl, 0, none⟩) n n, .int .i64 0, .bool false] 140 (0, 0)))
    (hq : w.heap[bq]? = some (.cells (ints (qList Q n) ++ xq).toArray 3 (0, 0))) (hm : n ≤ cq) (hx : cq ≤ maxLen) (hl : (ints (qList Q n) ++ xq).length = cq)
    (hd : w.heap[bd]? = some (.cells (madeCells #[.int .i64 0] n) 3 (0, 0))) (hv : w.heap[bl]? = some (.cells (madeCells #[nilS] n) 145 (0, 0))) (ne : bq ≠ bd) :
    FqAt w b bq cq bd n [] bl (List.replicate n nilS) (FQ.init Q n) := by
  have hm' : (FQ.init Q n).m = n := by show (List.replicate n []).length = n; simp
  have hqn : ∀ t, qv (List.replicate n nilS) t = nilS := fun t => by unfold qv; by_cases h : t < n <;> simp [List.getD, h]
  have hln : ∀ t, (FQ.init Q n).lst t = [] := fun t => by unfold FQ.lst FQ.init; by_cases h : t < n <;> simp [List.getD, h]
  have mc : ∀ z : Value, madeCells #[z] n = (List.replicate n z).toArray := fun z => by rw [← toList_madeCells_one z n]
  exact {
    hb := by rw [hm']; exact hb
    hq := by
      rw [hm']
      refine ⟨by show (ints (qList Q n)).length = _; rw [ints_len, qList_len]; omega, .inr ⟨bq, 0, cq, _, rfl, hq, hm, hx, by rw [List.size_toArray, hl]; omega, ?_⟩⟩
      show List.take (n * 1) (List.drop 0 (ints (qList Q n) ++ xq)) = ints (qList Q n)
      rw [List.drop_zero, show n * 1 = (ints (qList Q n)).length by rw [ints_len, qList_len]; omega]
      exact List.take_left
    hd := by
      rw [hd, mc]; show _ = some (Obj.cells (ints (List.replicate n 0) ++ []).toArray 3 (0, 0))
      simp [ints]
    hl := by rw [hv, mc]
    hls := fun t _ => by rw [hqn, hln]; exact OL.nil _ _ _
    lq := by rw [hm']; exact qList_len Q n
    ld := by rw [hm']; show (List.replicate n 0).length = n; simp
    lv := by rw [hm']; simp
    ne := ne
    ap := fun t t' g _ h => by rw [hqn] at h; simp [nilS, Value.ownBlock] at h }
/-- What a New leaves that accepts. -/
def NewOk (Q : Nat → Int) (n : Nat) (w : World) (e : Ending) (w' : World) : Prop :=
  ∃ b bq cq bd bl, e = .returned (.tuple #[.pointer (some ⟨b, 0, none⟩), .nilIface]) ∧ FqAt w' b bq cq bd n [] bl (List.replicate n nilS) (FQ.init Q n) ∧ Below w.heap.size w w' ∧
    (w.heap.size ≤ b ∧ w.heap.size ≤ bq ∧ w.heap.size ≤ bd ∧ w.heap.size ≤ bl)

theorem new_fin {w w' : World} {e : Ending} {b bq cq bd bl n : Nat} {xq : List Value} {Q : Nat → Int} (he : e = .returned (.tuple #[.pointer (some ⟨b, 0, none⟩), .nilIface]))
    (hb : w'.heap[b]? = some (.cells #[.slice (some ⟨bq, 0, none⟩) n cq, .slice (some ⟨bd, 0, none⟩) n n, .slice (some ⟨bl, 0, none⟩) n n, .int .i64 0, .bool false] 140 (0, 0)))
    (hq : w'.heap[bq]? = some (.cells (ints (qList Q n) ++ xq).toArray 3 (0, 0))) (hm : n ≤ cq) (hx : cq ≤ maxLen) (hl : (ints (qList Q n) ++ xq).length = cq)
    (hd : w'.heap[bd]? = some (.cells (madeCells #[.int .i64 0] n) 3 (0, 0))) (hv : w'.heap[bl]? = some (.cells (madeCells #[nilS] n) 145 (0, 0))) (ne : bq ≠ bd)
    (hbe : Below w.heap.size w w') (h1 : w.heap.size ≤ b) (h2 : w.heap.size ≤ bq) (h3 : w.heap.size ≤ bd) (h4 : w.heap.size ≤ bl) : NewOk Q n w e w' :=
  ⟨b, bq, cq, bd, bl, he, new_end hb hq hm hx hl hd hv ne, hbe, h1, h2, h3, h4⟩
set_option maxRecDepth 100000 in
set_option maxHeartbeats 800000 in
theorem new_ok {ao : Option Addr} {n c b off : Nat} {Q : Nat → Int} (w : World) (h : IsInts w ao n b off Q) (hn : newOk Q n) :
    Calls Try.prog 33 #[.slice ao n c] w (NewOk Q n w) := by
  obtain ⟨h1, h16, hq⟩ := hn
  obtain rfl := h.ao h1
  have H := Lib.hid h
  have HQ := Lib.hid hq
  clear h hq
  go_enter Try.func33, Try.ntmps33
  go_wp2
  go_loopw [17] (fun i wr => ∃ (k : Nat), k ≤ n ∧ i = .int .i64 k ∧ wr = w) (fun i _ => n - (intOf i).toNat)
  case atStart => exact ⟨0, Nat.zero_le _, rfl, rfl⟩
  case round =>
    obtain ⟨k, hk, rfl, rfl⟩ := hrel
    by_cases hlt : k < n
    · have hc := H.out.c k hlt
      have hq1 := (HQ.out k hlt).1
      have hq2 := (HQ.out k hlt).2
      go_wp2
      go_roundw
      case rel => exact ⟨k + 1, by omega, by go_num, by first | rfl | trivial⟩
      case measure => simp [intOf]; omega
    · obtain rfl : k = n := by omega
      have hsrc : ∀ w', Below wr.heap.size wr w' → Src Try.prog 1 37 (.slice (some ⟨b, off, none⟩) k c) k (ints (qList Q k)) w' := fun w' hb =>
        Src.ofSlice (size := 1) w' Try.underlying37 ⟨b, off, none⟩ k c _ (by rw [ints_len, qList_len]; omega) (fun j u hu => by
          have hj : j < k := by have := (List.getElem?_eq_some_iff.1 hu).1; rw [ints_len, qList_len] at this; exact this
          have := (H.out.below hb (Nat.le_refl _)).c j hj
          rw [Addr.add_lit, this]
          simpa [ints, qList, hj] using hu) (fun u hu => by simp only [ints, List.mem_map] at hu; obtain ⟨_, _, rfl⟩ := hu; rfl)
      have CL : ∀ W, Below wr.heap.size wr W → Calls Try.prog 46 #[.slice (some ⟨b, off, none⟩) k c] W (ClonePost k (ints (qList Q k)) W) :=
        fun W hb => clone_any W (fun o => hsrc _ (by have := hb.size; go_grown)) h1 h16
      have hm1 := run_make_row' (P := Try.prog) 37 3 (.int .i64 0) 8 Try.underlying37 (by kernel_rfl) rfl .i64 .i64 k (by omega) (by omega)
      have hm2 := run_make_row' (P := Try.prog) 138 145 nilS 24 Try.underlying138 (by kernel_rfl) rfl .i64 .i64 k (by omega) (by omega)
      go_wp2_with fail
      go_region_held3 (fun _ => True) (exact trivial)
        (first | (go_at_call 46; refine (CL _ ?_).mono ?_; go_grown; rintro e wc ⟨bq, cq, xq, rfl, hqc, hqm, hqx, hql, hbc, hlo, hhi⟩))
      all_goals
        clear CL hm1 hm2 hsrc H HQ
        simp at hlo
        go_wp2
        go_ret2
        have hsz := hbc.size
        simp at hsz
        have hW := below_step (B := wr.heap.size) (w := wr) (by go_grown) hbc (by first | omega | (simp; done) | (simp; omega))
        refine new_fin (bq := bq) (cq := cq) (xq := xq) rfl (heap_at (by first | rfl | (simp; done) | (simp; omega))) ?_ hqm hqx hql ?_ ?_ ?_ ?_ ?_ ?_ ?_ ?_
      all_goals first
        | omega
        | (simp; done)
        | (simp; omega)
        | (refine below_step hW (B0 := wc.heap.size) ?_ ?_ <;> first | omega | (go_grown; done))
        | (repeat (first
            | exact hqc
            | (refine heap_at ?_; first | rfl | (simp; done) | (simp; omega))
            | (refine Eq.trans (Below.heap_alloc _ _ _ ?_) ?_; · first | omega | (simp; done) | (simp; omega))
            | (refine Eq.trans (hbc.block _ ?_) ?_; · first | omega | (simp; done) | (simp; omega))
            | rw [drew_heap])
           done)
end Go.Proofs.Ytmdajndmobpgbaa

/- slices.Delete of one entry, and Cancel. Conditions: the queue lies in memory as 'FqAt' says. -/
import Derived.Test.YtmdajndmobpgbaaZFqPut
import Derived.Test.YtmdajndmobpgbaaZDel
namespace Go.Proofs.Ytmdajndmobpgbaa
open Go.RowKit
open Go.Proofs.Ytmdajndmobpgbaa.Fq

section
variable {w : World} {e : TypeId} {size n g off cap : Nat} {xs : List Value}
end
theorem entCells_one (l : List Ent) : ∀ u ∈ entCells l, u.oneCell' = true := by
  induction l with
  | nil => simp [entCells]
  | cons x r ih => simp only [entCells, List.mem_cons]; rintro u (rfl | rfl | h); rfl; rfl; exact ih u h
theorem entCells_take : ∀ (l : List Ent) (i : Nat), entCells (l.take i) = (entCells l).take (i * 2)
  | l, 0 => by simp [entCells]
  | [], i + 1 => by simp [entCells]
  | e :: l, i + 1 => by
    rw [Nat.add_mul, List.take_succ_cons]
    simp [entCells, entCells_take l i]
theorem entCells_erase (l : List Ent) (i : Nat) : entCells (l.eraseIdx i) = (entCells l).take (i * 2) ++ (entCells l).drop ((i + 1) * 2) := by
  rw [List.eraseIdx_eq_take_drop_succ, entCells_append, entCells_take, entCells_drop]
theorem clear_one (w : World) (ty : TypeId) (g o c : Nat) (h0 : (w.cell? ⟨g, o, none⟩).isSome = true) (h1 : (w.cell? ⟨g, o + 1, none⟩).isSome = true) (hf : ∀ j, w.frozen? ⟨g, j, none⟩ = false) :
    (Builtin.clear_ #[145] ty #[.slice (some ⟨g, o, none⟩) 1 c]).run Try.prog w = .ok (.tuple #[]) (w.setCells g o [.int .i64 0, .int .i64 0]) := by
  have hzc : (Builtin.zeroCells (Value.agg #[.int .i64 0, .int .i64 0]).cells 1).toList = [.int .i64 0, .int .i64 0] := by
    have hc : (Value.agg #[.int .i64 0, .int .i64 0]).cells = #[.int .i64 0, .int .i64 0] := rfl
    rw [hc]
    simp [Builtin.zeroCells]
    rfl
  have hv : (zeroValue 147).run Try.prog w = .ok (.agg #[.int .i64 0, .int .i64 0]) w := by kernel_rfl
  have hst := run_storeCells_cells (P := Try.prog) g o [.int .i64 0, .int .i64 0] 0 w (by
    intro j hj
    match j, hj with
    | 0, _ => simpa using h0
    | 1, _ => simpa using h1) (by intro j _; exact hf _) (by simp; decide)
  simp only [Nat.add_zero] at hst
  simp [Builtin.clear_, run_underlying Try.underlying145, hv, hzc, hst]

def DelPost (g off cap : Nat) (l : List Ent) (i : Nat) (w : World) (e : Ending) (w' : World) : Prop :=
  e = .returned (.slice (some ⟨g, off, none⟩) (l.length - 1) cap) ∧ OL w' 147 2 (.slice (some ⟨g, off, none⟩) (l.length - 1) cap) (l.length - 1) (entCells (l.eraseIdx i)) ∧ w.grownBy w' (some g)
set_option maxRecDepth 100000 in
set_option maxHeartbeats 1000000 in
theorem delete_any {g off cap : Nat} {l : List Ent} {i j : Nat} (w : World) (h : OL w 147 2 (.slice (some ⟨g, off, none⟩) l.length cap) l.length (entCells l)) (hi : i < l.length) (hl : l.length ≤ 1000000) (hij : j = i + 1) :
    Calls Try.prog 65 #[.slice (some ⟨g, off, none⟩) l.length cap, .int .i64 i, .int .i64 j] w (DelPost g off cap l i w) := by
  obtain ⟨i0, hi0, hz0, hz1, hz2⟩ := info_parts infoEnt
  have hD := (OL.heap (w' := w.drew) h fun _ _ => rfl)
  have hS := hD.splice i hi
  rw [← entCells_erase, ← entCells_drop] at hS
  obtain ⟨_, _, _, hE, hnc, hcm, _⟩ := h.form (by omega)
  simp only [Value.slice.injEq, Option.some.injEq, Addr.mk.injEq, and_true, true_and] at hE
  obtain ⟨⟨rfl, rfl⟩, rfl⟩ := hE
  have hn1 : (entCells (l.drop (i + 1))).length = (l.length - (i + 1)) * 2 := by rw [entCells_len, List.length_drop]
  obtain ⟨A, hA, hsrc⟩ : ∃ A : Addr, (if cap = i + 1 then (some ⟨g, off, none⟩ : Option Addr) else some ⟨g, off + (i + 1) * 2, none⟩) = some A ∧ Src Try.prog 2 145 (.slice (some A) (l.length - (i + 1)) (cap - (i + 1))) (l.length - (i + 1)) (entCells (l.drop (i + 1))) w.drew := by
    by_cases hc : cap = i + 1
    · refine ⟨_, if_pos hc, Src.ofSlice (size := 2) _ Try.underlying145 _ _ _ _ hn1 (fun j u hu => ?_) (entCells_one _)⟩
      have := (List.getElem?_eq_some_iff.1 hu).1
      omega
    · refine ⟨_, if_neg hc, Src.ofSlice (size := 2) _ Try.underlying145 _ _ _ _ hn1 (fun j u hu => ?_) (entCells_one _)⟩
      have hj := (List.getElem?_eq_some_iff.1 hu).1
      rw [hn1] at hj
      rw [Addr.add_lit]
      show w.drew.cell? ⟨g, off + (i + 1) * 2 + j, none⟩ = _
      have := hD.cell ((i + 1) * 2 + j) (by omega)
      rw [← Nat.add_assoc] at this
      rw [this, ← hu, entCells_drop, List.getElem?_drop]
  have hap := run_append_room_src (P := Try.prog) w.drew 145 145 145 147 i0 Try.underlying145 hi0 g off i cap (.slice (some A) (l.length - (i + 1)) (cap - (i + 1))) (l.length - (i + 1)) (entCells (l.drop (i + 1))) (by rw [hz1]; exact hsrc) (by omega)
    (fun j hj => by rw [hz1, Nat.add_assoc]; rw [hn1] at hj; exact hD.isSome _ (by omega)) (fun j _ => hD.free _)
  rw [hz1] at hap
  have hgw := grownBy_setCells w.drew g (off + i * 2) (entCells (l.drop (i + 1)))
  have hcl := fun ty => clear_one (w.drew.setCells g (off + i * 2) (entCells (l.drop (i + 1)))) ty g (off + (l.length - 1) * 2) (cap - (l.length - 1)) (hS.isSome _ (by omega)) (by rw [Nat.add_assoc]; exact hS.isSome _ (by omega)) (fun j => hS.free j)
  have hS2 := hS.beyond (off + (l.length - 1) * 2) [.int .i64 0, .int .i64 0] (Nat.le_refl _) (by simp; omega)
  have hg2 : w.grownBy ((w.drew.setCells g (off + i * 2) (entCells (l.drop (i + 1)))).setCells g (off + (l.length - 1) * 2) [.int .i64 0, .int .i64 0]) (some g) := by
    have h2 := grownBy_setCells (w.drew.setCells g (off + i * 2) (entCells (l.drop (i + 1)))) g (off + (l.length - 1) * 2) [.int .i64 0, .int .i64 0]
    exact ⟨h2.os.trans hgw.os, h2.tape.trans hgw.tape, h2.output.trans hgw.output, Nat.le_trans hgw.size h2.size, fun k hk hn => (h2.block k (Nat.lt_of_lt_of_le hk hgw.size) hn).trans (hgw.block k hk hn)⟩
  rw [show i + (l.length - (i + 1)) = l.length - 1 by omega] at hap
  have HP := Lib.hid (And.intro hS2 hg2)
  have hfree : ∀ j, (w.drew.setCells g (off + i * 2) (entCells (l.drop (i + 1)))).frozen? ⟨g, j, none⟩ = false := fun j => hS.free j
  unfold DelPost
  clear hS2 hg2 hgw hsrc hS hD hn1 h hfree
  generalize w.drew.setCells g (off + i * 2) (entCells (l.drop (i + 1))) = W1 at hap hcl HP
  generalize l.length = N at *
  obtain ⟨m, rfl⟩ : ∃ m, N = m + 1 := ⟨N - 1, by omega⟩
  rw [Nat.add_sub_cancel] at *
  have hcm' : ¬ cap = m := by omega
  unfold maxLen at hcm
  have HAP := Lib.hid hap
  clear hap hl
  have hle : i ≤ m := by omega
  have hic : i ≤ cap := by omega
  have hjc : j ≤ cap := by omega
  have hjm : j ≤ m + 1 := by omega
  have hjn : ¬ i = j := by omega
  rw [← hij] at hA HAP
  have hij' : i ≤ j := by omega
  have HIJ := Lib.hid hij
  clear hij
  have hjI : (j : Int) ≤ (m : Int) + 1 := by omega
  by_cases hc : cap = j
  · rw [if_pos hc] at hA
    obtain rfl := Option.some.inj hA
    clear hA
    have hij2 := HIJ.out
    subst hc
    have h0 : m + 1 - cap = 0 := by omega
    rw [Nat.sub_self, h0] at HAP
    clear hij2 h0 hjc
    go_enter Try.func65, Try.ntmps65
    go_wp2_with fail
    go_region_law (refine step_append_run (v := .slice (some ⟨g, off, none⟩) i cap) (xv := .slice (some ⟨g, off, none⟩) 0 0) rfl (.tmp 22) (.tmp 25) 145 145 rfl (by simp [Act.eval, Act.put]) (by simp [Act.eval, Act.put]) HAP.out ?_)
    go_wp2
    go_ret
    exact ⟨rfl, HP.out⟩
  · rw [if_neg hc] at hA
    obtain rfl := Option.some.inj hA
    clear hA
    go_enter Try.func65, Try.ntmps65
    go_wp2_with fail
    go_region_law (refine step_append_run (v := .slice (some ⟨g, off, none⟩) i cap) (xv := .slice (some ⟨g, off + j * 2, none⟩) (m + 1 - j) (cap - j)) rfl (.tmp 22) (.tmp 25) 145 145 rfl (by simp [Act.eval, Act.put]) (by simp [Act.eval, Act.put]) HAP.out ?_)
    go_wp2
    go_ret
    exact ⟨rfl, HP.out⟩
theorem delete_nl {g off cap nl : Nat} {l : List Ent} {i : Nat} (w : World) (h : OL w 147 2 (.slice (some ⟨g, off, none⟩) l.length cap) l.length (entCells l)) (hi : i < l.length) (hl : l.length ≤ 1000000) (hn : l.length = nl) :
    Calls Try.prog 65 #[.slice (some ⟨g, off, none⟩) nl cap, .int .i64 i, .int .i64 ((i : Int) + 1)] w fun e w' =>
      e = .returned (.slice (some ⟨g, off, none⟩) (nl - 1) cap) ∧ OL w' 147 2 (.slice (some ⟨g, off, none⟩) (nl - 1) cap) (l.eraseIdx i).length (entCells (l.eraseIdx i)) ∧ w.grownBy w' (some g) := by
  subst hn
  have e : (l.eraseIdx i).length = l.length - 1 := List.length_eraseIdx_of_lt hi
  rw [e]
  exact delete_any w h hi hl rfl

theorem cancel_nil (id : Int) (w : World) : Calls Try.prog 41 #[.pointer none, .int .i64 id] w fun e w' => e = .returned (.bool false) ∧ w' = w := by
  go_enter Try.func41, Try.ntmps41
  go_wp2
  go_ret
  exact ⟨rfl, rfl⟩
section
variable {b bq cq bd cd bl : Nat} {xt : List Value} {vals : List Value} {s : FQ}
def CanPost (b bq cq bd cd : Nat) (xt : List Value) (bl : Nat) (vals : List Value) (s : FQ) (id : Int) (w : World) (e : Ending) (w' : World) : Prop :=
  (e = .returned (.bool false) ∧ ¬ hasId s id ∧ Below w.heap.size w w') ∨
  (e = .returned (.bool true) ∧ ∃ t i, FindR s id (some (t, i)) ∧ Upd b bq cq bd cd xt bl vals (FQ.setL s t ((s.lst t).eraseIdx i)) w w')
set_option maxRecDepth 100000 in
set_option maxHeartbeats 1000000 in
theorem cancel_any (id : Int) (w : World) (h : FqAt w b bq cq bd cd xt bl vals s) (hm : s.m ≤ 16) (hsh : Short s) :
    Calls Try.prog 41 #[.pointer (some ⟨b, 0, none⟩), .int .i64 id] w (CanPost b bq cq bd cd xt bl vals s id w) := by
  have CF := Lib.hid (find_any id w h hm hsh)
  have H := Lib.hid h
  have HS := Lib.hid hsh
  clear h hsh
  go_enter Try.func41, Try.ntmps41
  go_wp2_with fail
  refine CF.out.mono ?_
  rintro e w1 ⟨r, rfl, hr, hb⟩
  rcases r with _ | ⟨t, i⟩
  · unfold findV
    have HR := Lib.hid (findR_not hr)
    clear hr
    go_wp2
    go_ret
    exact .inl ⟨rfl, HR.out, hb⟩
  · unfold findV
    have ht := hr.1
    have hA := H.out.belowS hb
    have c2 := hA.c2
    have cl := hA.cL ht
    have zl := has_free hA.hl
    have hO := hA.hls t ht
    have hi : i < (s.lst t).length := by
      obtain ⟨e, he, _⟩ := hr.2.1
      exact (List.getElem?_eq_some_iff.1 he).1
    obtain ⟨g, off, cap, hv, hcap, hcm, _⟩ := hO.form (by omega)
    have hl := HS.out t ht
    have HR := Lib.hid hr
    have HA := Lib.hid hA
    have HB := Lib.hid hb
    rw [hv] at cl hO
    have HV := Lib.hid hv
    have CD := Lib.hid (delete_nl (l := s.lst t) (i := i) w1.drew (hO.heap fun _ _ => rfl) hi hl rfl)
    have zl1 : ∀ w2, w1.drew.grownBy w2 (some g) → w2.frozen? ⟨bl, t, none⟩ = false ∧ w2.cell? ⟨b, 2, none⟩ = some (.slice (some ⟨bl, 0, none⟩) s.m s.m) ∧ w2.cell? ⟨bl, t, none⟩ = some (.slice (some ⟨g, off, none⟩) (s.lst t).length cap) := fun w2 hg => by
      have hrow := hA.row_ne (t := t) (g := g) (by rw [hv]; rfl)
      have e1 := hg.block b (has_lt hA.hb) (by simp; exact fun e => hrow.1 e.symm)
      have e2 := hg.block bl (has_lt hA.hl) (by simp; exact fun e => hrow.2.2.2 e.symm)
      exact ⟨has_free (e2.trans hA.hl) t, by rw [World.cell?_of_block (a := ⟨b, 2, none⟩) e1]; exact c2, by rw [World.cell?_of_block (a := ⟨bl, t, none⟩) e2]; exact cl⟩
    have ZL := Lib.hid zl1
    generalize hnl : (s.lst t).length = nl at cl hi hl hcap
    have HN := Lib.hid hnl
    clear hO hr hb hA hv hnl CF zl1
    rw [HN.out] at CD
    have hw : IntKind.i64.wrap ((i : Int) + 1) = (i : Int) + 1 := IntWalk.i64_in _ (by omega)
    go_wp2_with fail
    go_region_with (first | (go_at_call 65; refine CD.out.mono ?_; rintro e w2 ⟨rfl, hO2, hg2⟩; obtain ⟨f1, f2, f3⟩ := ZL.out _ hg2))
    all_goals
      have U := Lib.hid (upd_put HA.out ht HB.out (show w1.grownBy w2 (qv vals t).ownBlock from by rw [HV.out]; exact ⟨hg2.os, hg2.tape, hg2.output, hg2.size, hg2.block⟩) hO2 (fun g' hg' => .inl (by rw [HV.out]; exact hg')))
      clear hO2 hg2 f1 f2 f3
      go_wp2_with fail
      go_ret
      exact .inr ⟨rfl, t, i, HR.out, U.out⟩
end
end Go.Proofs.Ytmdajndmobpgbaa

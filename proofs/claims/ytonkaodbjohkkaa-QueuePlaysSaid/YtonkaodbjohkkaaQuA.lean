/- queue: slices.Insert at the front of a list. Conditions: the list is short. -/
import Derived.Test.YtonkaodbjohkkaaIns
import Derived.Test.YtonkaodbjohkkaaDel
import Derived.Test.YtonkaodbjohkkaaErr
namespace Go.Proofs.Ytonkaodbjohkkaa
open Go.RowKit

theorem infoIt : (Try.prog.info? 65).map (fun i => (i.zero, i.size, i.bytes)) = some (some (.agg #[.string ByteArray.empty, .int .i64 0]), 2, 24) := by kernel_rfl
theorem sizeIt : (Try.prog.info? 65).map (·.size) = some 2 := by kernel_rfl
theorem zeroIt (w : World) : (sizeOf 65).run Try.prog w = .ok 2 w := by kernel_rfl
/-- What Insert leaves. -/
def InsP (v : Value) (n : Nat) (xs ys : List Value) (w : World) (en : Ending) (w' : World) : Prop :=
  ∃ v', en = .returned v' ∧ OL w' 65 2 v' (n + 1) (ys ++ xs) ∧ w.grownBy w' v.ownBlock ∧ (v'.ownBlock = v.ownBlock ∨ v'.ownBlock = some w.heap.size)
section
variable {w : World} {v : Value} {n vb : Nat} {xs : List Value}
set_option maxRecDepth 100000 in
theorem ins_empty (h : OL w 65 2 v 0 xs) (k : ByteArray) (z : Int) (hb : w.heap[vb]? = some (.cells #[.string k, .int .i64 z] 65 (0, 0))) :
    Calls Try.prog 43 #[v, .int .i64 0, .slice (some ⟨vb, 0, none⟩) 1 1] w (InsP v 0 xs [.string k, .int .i64 z] w) := by
  obtain ⟨ti, hi, iz, is, ib⟩ := info_parts infoIt
  have hx : xs = [] := List.eq_nil_of_length_eq_zero (by have := h.1; simpa using this)
  subst hx
  have hsrc : Src Try.prog 2 58 (.slice (some ⟨vb, 0, none⟩) 1 1) 1 [.string k, .int .i64 z] w :=
    (OL.of_block (cs := [.string k, .int .i64 z]) (size := 2) (n := 1) hb rfl (by simp [maxLen])).src Try.underlying58 (fun u hu => by simp at hu; rcases hu with rfl | rfl <;> rfl)
  obtain ⟨v', w', hap, ho, hgr, hown⟩ := h.append (P := Try.prog) 59 58 59 ti _ 24 Try.underlying59 hi iz is ib rfl (by omega) hsrc (by simp [maxLen]) (by omega)
  have HP := Lib.hid (show InsP v 0 [] [.string k, .int .i64 z] w (.returned v') w' from ⟨v', rfl, by simpa using ho, hgr, hown⟩)
  have HAP := Lib.hid hap
  have hform : ∃ ao cap, v = .slice ao 0 cap ∧ (ao = none → cap = 0) ∧ cap ≤ 9223372036854775807 := by
    rcases h.forms with ⟨e, _⟩ | ⟨g, off, cap, e, _, hc, _⟩
    · exact ⟨none, 0, e, fun _ => rfl, by omega⟩
    · exact ⟨_, cap, e, fun h => (by cases h), by unfold maxLen at hc; omega⟩
  obtain ⟨ao, cap, rfl, hao, hcap⟩ := hform
  clear h hap ho hgr hown hsrc
  obtain ⟨ao', cap', hv'⟩ : ∃ ao' cap', v' = .slice ao' 1 cap' := by
    obtain ⟨v2, e2, ho2, _⟩ := HP.out
    obtain rfl := Ending.returned.inj e2
    obtain ⟨g, off, cap, e, _⟩ := ho2.form (by omega)
    exact ⟨_, cap, e⟩
  subst hv'
  cases ao with
  | none =>
    obtain rfl := hao rfl
    clear hao
    go_enter Try.func43, Try.ntmps43
    go_wp2_with (refine wpList_append_run (v := .slice none 0 0) (xv := .slice (some ⟨vb, 0, none⟩) 1 1) rfl (.tmp 23) (.tmp 24) _ _ rfl (by rfl) (by rfl) HAP.out ?_)
    go_ret
    exact HP.out
  | some a =>
    clear hao
    go_enter Try.func43, Try.ntmps43
    go_wp2_with (refine wpList_append_run (v := .slice (some a) 0 cap) (xv := .slice (some ⟨vb, 0, none⟩) 1 1) rfl (.tmp 23) (.tmp 24) _ _ rfl (by rfl) (by rfl) HAP.out ?_)
    go_ret
    exact HP.out
theorem run_overlaps {g off : Nat} {cur : Array Value} {kb : Array Value} (hne : vb ≠ g) (hb : w.heap[vb]? = some (.cells kb 65 (0, 0))) (hg : w.heap[g]? = some (.cells cur 65 (0, 0))) (hc : cur.size ≠ 0) (lb cb : Nat) :
    (callFunc 44 #[.slice (some ⟨vb, 0, none⟩) 1 1, .slice (some ⟨g, off, none⟩) lb cb]).run Try.prog w = .ok (.value (.bool false)) w := by
  rw [run_callFunc_extern Try.func44 (by kernel_rfl) (by kernel_rfl) (by kernel_rfl) (e := Extern.SlicesOverlaps.overlaps #[58, 58] #[4]) (by kernel_rfl),
    Lib.run_overlaps_apart w 58 4 65 Try.underlying58 2 zeroIt ⟨vb, 0, none⟩ ⟨g, off, none⟩ 1 1 lb cb hne 65 65 kb.size cur.size (by simp [World.shape?, hb]) (by simp [World.shape?, hg]) hc (has_free hb _) (has_free hb _)]
  rfl
set_option maxRecDepth 100000 in
set_option maxHeartbeats 1000000 in
theorem ins_room {g off cap : Nat} (h : OL w 65 2 (.slice (some ⟨g, off, none⟩) n cap) n xs) (hone : ∀ u ∈ xs, u.oneCell' = true) (hn : 0 < n) (hroom : n + 1 ≤ cap) (k : ByteArray) (z : Int) (hb : w.heap[vb]? = some (.cells #[.string k, .int .i64 z] 65 (0, 0))) (hne : vb ≠ g) :
    Calls Try.prog 43 #[.slice (some ⟨g, off, none⟩) n cap, .int .i64 0, .slice (some ⟨vb, 0, none⟩) 1 1] w (InsP (.slice (some ⟨g, off, none⟩) n cap) n xs [.string k, .int .i64 z] w) := by
  have hlen := h.1
  obtain ⟨_, _, _, hE, hnc, hcm, _⟩ := h.form (by omega)
  simp only [Value.slice.injEq, Option.some.injEq, Addr.mk.injEq, and_true, true_and] at hE
  obtain ⟨⟨rfl, rfl⟩, rfl⟩ := hE
  obtain ⟨cur, hg, hsz⟩ : ∃ cur, w.heap[g]? = some (.cells cur 65 (0, 0)) ∧ off + cap * 2 ≤ cur.size := by
    rcases h.2 with ⟨e, _⟩ | ⟨g', off', cap', cur, e, hg, _, _, hs, _⟩
    · cases e
    · simp only [Value.slice.injEq, Option.some.injEq, Addr.mk.injEq, and_true, true_and] at e
      obtain ⟨⟨rfl, rfl⟩, rfl⟩ := e
      exact ⟨cur, hg, hs⟩
  have hc0 : cur.size ≠ 0 := by omega
  have hD : OL w.drew 65 2 (.slice (some ⟨g, off, none⟩) n cap) n xs := h.heap fun _ _ => rfl
  have hS := hD.shift (ys := [.string k, .int .i64 z]) rfl hroom
  have hov : ∀ lb cb, (callFunc 44 #[.slice (some ⟨vb, 0, none⟩) 1 1, .slice (some ⟨g, off + 2, none⟩) lb cb]).run Try.prog w = .ok (.value (.bool false)) w := fun lb cb => run_overlaps (off := off + 2) hne hb hg hc0 lb cb
  have hcp1 : ∀ ty dc sc, (Builtin.copy_ #[59, 59] ty #[.slice (some ⟨g, off + 2, none⟩) n dc, .slice (some ⟨g, off, none⟩) (n + 1) sc]).run Try.prog w.drew = .ok (goInt (Nat.min (n + 1) n)) (w.drew.setCells g (off + 2) xs) := fun ty dc sc =>
    run_copy_gen w.drew _ _ ty 65 2 g (off + 2) n dc ⟨g, off, none⟩ (n + 1) sc xs Try.underlying59 sizeIt (by rw [hlen, show Nat.min (n + 1) n = n from Nat.min_eq_right (by omega)])
      (fun j u hj => by rw [Addr.add_lit, hD.cell j (by have := (List.getElem?_eq_some_iff.1 hj).1; omega)]; exact hj) (fun j hj => by rw [Nat.add_assoc]; exact hD.isSome _ (by omega)) (fun j _ => hD.free _) hone
  have hbd : w.drew.heap[vb]? = some (.cells #[.string k, .int .i64 z] 65 (0, 0)) := hb
  have hb1 : (w.drew.setCells g (off + 2) xs).heap[vb]? = some (.cells #[.string k, .int .i64 z] 65 (0, 0)) := (World.heap_setCells_other _ g (off + 2) xs (lt_of_block hbd) hne).trans hbd
  have hg1 := grownBy_setCells w.drew g (off + 2) xs
  have hg2 := grownBy_setCells (w.drew.setCells g (off + 2) xs) g off [.string k, .int .i64 z]
  have hfr1 : ∀ j, (w.drew.setCells g (off + 2) xs).frozen? ⟨g, j, none⟩ = false := fun j => by
    have := hS.free j
    rw [World.frozen?_setCells] at this
    exact this
  have hS1 : ∀ j, j < cap * 2 → ((w.drew.setCells g (off + 2) xs).cell? ⟨g, off + j, none⟩).isSome = true := fun j hj => by
    obtain ⟨cur', h1, h2, _⟩ := setCells_block g xs (off + 2) w.drew cur 65 (0, 0) hg (by omega)
    rw [has_cell h1, Array.getElem?_eq_getElem (by omega)]
    rfl
  have hcp2 : ∀ ty dc, (Builtin.copy_ #[59, 58] ty #[.slice (some ⟨g, off, none⟩) (n + 1) dc, .slice (some ⟨vb, 0, none⟩) 1 1]).run Try.prog (w.drew.setCells g (off + 2) xs) = .ok (goInt (Nat.min 1 (n + 1))) ((w.drew.setCells g (off + 2) xs).setCells g off [.string k, .int .i64 z]) := fun ty dc =>
    run_copy_gen (w.drew.setCells g (off + 2) xs) _ _ ty 65 2 g off (n + 1) dc ⟨vb, 0, none⟩ 1 1 [.string k, .int .i64 z] Try.underlying59 sizeIt (by rw [show Nat.min 1 (n + 1) = 1 from Nat.min_eq_left (by omega)]; rfl)
      (fun j u hj => by rw [Addr.add_lit, Nat.zero_add, has_cell hb1]; simpa using hj) (fun j hj => hS1 _ (by simp at hj; omega)) (fun j _ => hfr1 _) (fun u hu => by simp at hu; rcases hu with rfl | rfl <;> rfl)
  have HP := Lib.hid (show InsP (.slice (some ⟨g, off, none⟩) n cap) n xs [.string k, .int .i64 z] w (.returned (.slice (some ⟨g, off, none⟩) (n + 1) cap)) ((w.drew.setCells g (off + 2) xs).setCells g off [.string k, .int .i64 z]) from
    ⟨_, rfl, hS, ⟨hg2.os.trans hg1.os, hg2.tape.trans hg1.tape, hg2.output.trans hg1.output, Nat.le_trans hg1.size hg2.size, fun j hj hr => (hg2.block j (Nat.lt_of_lt_of_le hj hg1.size) hr).trans (hg1.block j hj hr)⟩, .inl rfl⟩)
  clear hsz hS hD hg1 hg2 hb1 hbd hfr1 hS1 hg h hc0 hlen hb
  generalize hW : w.drew.setCells g (off + 2) xs = W1 at hcp1 hcp2 HP
  clear hW
  unfold maxLen at hcm
  have hnn : ¬ (n : Int) = 0 := by omega
  have hw1 : IntKind.i64.wrap 1 = 1 := by decide
  have hl1 : (1 : Int) ≤ (n : Int) + 1 := by omega
  have hl0 : (0 : Int) ≤ (n : Int) + 1 := by omega
  have hn0 : ¬ cap = 0 := by omega
  have hn1 : ¬ cap = 1 := by omega
  go_enter Try.func43, Try.ntmps43
  go_wp2_with (simp only [hov])
  go_region_law (refine step_copy_run rfl (.tmp 73) (.tmp 76) 59 59 rfl (by simp [Act.eval, Act.put]; exact ⟨rfl, rfl⟩) (by simp [Act.eval, Act.put]; exact ⟨rfl, rfl⟩) (hcp1 _ _ _) ?_)
  go_wp2_with (refine wpList_copy_run rfl (.tmp 80) (.tmp 81) 59 58 rfl (by rfl) (by rfl) (hcp2 _ _) ?_)
  go_ret
  exact HP.out
end
end Go.Proofs.Ytonkaodbjohkkaa

/- Whether a queue has an entry at all, and where an id is: slices.ContainsFunc and slices.IndexFunc at the queue's lists, the closures, find. Conditions: the queue lies in memory as 'FqAt' says. -/
import Derived.Test.YtmdajndmobpgbaaZFq
namespace Go.Proofs.Ytmdajndmobpgbaa
open Go.RowKit
open Go.Proofs.Ytmdajndmobpgbaa.Fq

def anyB (s : FQ) : Bool := s.lists.any fun l => !l.isEmpty
theorem anyB_true {s : FQ} {t : Nat} (ht : t < s.m) (h : s.lst t ≠ []) : anyB s = true := by
  unfold anyB
  rw [List.any_eq_true]
  refine ⟨s.lst t, ?_, by simpa using h⟩
  unfold FQ.lst
  simp [List.getD, show t < s.lists.length from ht]
theorem anyB_false {s : FQ} (h : ∀ t, t < s.m → s.lst t = []) : anyB s = false := by
  unfold anyB
  rw [List.any_eq_false]
  intro l hl
  obtain ⟨t, ht, rfl⟩ := List.getElem_of_mem hl
  have := h t ht
  unfold FQ.lst at this
  simp [List.getD, ht] at this
  simp [this]
theorem anyB_ex {s : FQ} (h : anyB s = true) : ∃ t, t < s.m ∧ s.lst t ≠ [] := by
  apply Classical.byContradiction
  intro hn
  rw [anyB_false (fun t ht => Classical.byContradiction fun hne => hn ⟨t, ht, hne⟩)] at h
  cases h
def fndB (b : Bool) (r : Int) : Prop := decide (0 ≤ r) = b
def IxPost (b : Bool) (w : World) (e : Ending) (w' : World) : Prop := ∃ r : Int, e = .returned (.int .i64 r) ∧ fndB b r ∧ ∃ n, w' = w.drewN n

set_option maxHeartbeats 400000 in
theorem ne_any (v : Value) (n : Nat) (xs : List Value) (w : World) (h : OL w 147 2 v n xs) :
    Calls Try.prog 76 #[v] w fun e w' => e = .returned (.bool (decide (0 < n))) ∧ w' = w := by
  rcases h.forms with ⟨rfl, rfl⟩ | ⟨g, off, cap, rfl, _⟩
  · go_enter Try.func76, Try.ntmps76
    go_wp2
    go_ret
    exact ⟨rfl, rfl⟩
  · go_enter Try.func76, Try.ntmps76
    go_wp2
    go_ret
    exact ⟨rfl, rfl⟩

set_option maxHeartbeats 400000 in
theorem ixll_any {b bq cq bd cd bl : Nat} {xt : List Value} {vals : List Value} {s : FQ} (w : World) (h : FqAt w b bq cq bd cd xt bl vals s) (hm : s.m ≤ 16) :
    Calls Try.prog 88 #[.slice (some ⟨bl, 0, none⟩) s.m s.m, .func (.func 76) #[] #[]] w (IxPost (anyB s) w) := by
  go_enter Try.func88, Try.ntmps88
  have H := Lib.hid h
  clear h
  go_wp2_with fail
  go_loopw [8] (fun i wr => ∃ (k n : Nat), k ≤ s.m ∧ i = .int .i64 k ∧ (∀ j, j < k → s.lst j = []) ∧ wr = w.drewN n) (fun i _ => s.m - (intOf i).toNat)
  case atStart => exact ⟨0, 0, Nat.zero_le _, rfl, by omega, rfl⟩
  case round =>
    obtain ⟨k, n, hk, rfl, hno, rfl⟩ := hrel
    have HN := Lib.hid hno
    clear hno
    by_cases hlt : k < s.m
    · have cl := H.out.cL hlt
      have cn := ne_any (qv vals k) _ _ (w.drewN n) (H.out.hls k hlt)
      have hf := (H.out.hls k hlt).forms
      by_cases hne : s.lst k = []
      · rw [hne] at cn
        have CN := Lib.hid cn
        have HNE := Lib.hid hne
        clear cn hne
        rcases hf with ⟨hv, _⟩ | ⟨g, off, cap, hv, _⟩
        all_goals
          rw [hv] at cl CN
          clear hv
          go_wp2_with fail
          refine CN.out.mono ?_
          rintro e w' ⟨rfl, rfl⟩
          go_wp2
          go_roundw
          case rel => exact ⟨k + 1, n, by omega, by go_num, fun j hj => by
            by_cases hjk : j = k
            · rw [hjk]; exact HNE.out
            · exact HN.out j (by omega), rfl⟩
          case measure => simp [intOf]; omega
      · have hpos : decide (0 < (s.lst k).length) = true := decide_eq_true (List.length_pos_iff.2 hne)
        rw [hpos] at cn
        have CN := Lib.hid cn
        have HA := Lib.hid (anyB_true hlt hne)
        clear cn hpos hne
        rcases hf with ⟨hv, _⟩ | ⟨g, off, cap, hv, _⟩
        all_goals
          rw [hv] at cl CN
          clear hv
          go_wp2_with fail
          refine CN.out.mono ?_
          rintro e w' ⟨rfl, rfl⟩
          go_wp2
          go_ret
          exact ⟨_, rfl, by rw [fndB, HA.out]; simp, n, rfl⟩
    · obtain rfl : k = s.m := by omega
      have HA := Lib.hid (anyB_false HN.out)
      go_wp2
      go_ret
      exact ⟨_, rfl, by rw [fndB, HA.out]; rfl, n, rfl⟩

set_option maxHeartbeats 400000 in
theorem any_any {b bq cq bd cd bl : Nat} {xt : List Value} {vals : List Value} {s : FQ} (w : World) (h : FqAt w b bq cq bd cd xt bl vals s) (hm : s.m ≤ 16) :
    Calls Try.prog 75 #[.slice (some ⟨bl, 0, none⟩) s.m s.m, .func (.func 76) #[] #[]] w fun e w' => e = .returned (.bool (anyB s)) ∧ ∃ n, w' = w.drewN n := by
  have HI := Lib.hid (ixll_any w h hm)
  clear h
  go_enter Try.func75, Try.ntmps75
  go_wp2_with fail
  refine HI.out.mono ?_
  rintro e w' ⟨r, rfl, hr, n, rfl⟩
  have HR := Lib.hid (show decide (0 ≤ r) = anyB s from hr)
  go_wp2
  go_ret
  rw [← HR.out]
  exact ⟨rfl, n, rfl⟩

/-- Where an id is in a list: its first index, or -1. -/
def IxR (l : List Ent) (id r : Int) : Prop :=
  (r = -1 ∧ ∀ e ∈ l, e.1 ≠ id) ∨ ∃ (i : Nat) (e : Ent), r = i ∧ l[i]? = some e ∧ e.1 = id ∧ ∀ j, j < i → ∀ e', l[j]? = some e' → e'.1 ≠ id
def IxEPost (l : List Ent) (id : Int) (w : World) (e : Ending) (w' : World) : Prop := ∃ r : Int, e = .returned (.int .i64 r) ∧ IxR l id r ∧ Below w.heap.size w w'

set_option maxHeartbeats 400000 in
theorem eqid_any (a z id : Int) (bx : Nat) (w : World) (hx : w.cell? ⟨bx, 0, none⟩ = some (.int .i64 id)) :
    Calls Try.prog 74 #[.agg #[.int .i64 a, .int .i64 z], .pointer (some ⟨bx, 0, none⟩)] w fun e w' => e = .returned (.bool (decide (a = id))) ∧ Below w.heap.size w w' := by
  have hlt := World.block_lt_of_cell? w _ hx
  have hx' : ∀ o, (w.alloc o).cell? ⟨bx, 0, none⟩ = some (.int .i64 id) := fun o => (World.cell?_of_block (w := w) (a := ⟨bx, 0, none⟩) (Below.heap_alloc w o bx hlt)).trans hx
  by_cases h : a = id
  · have H := Lib.hid (show decide (a = id) = true from decide_eq_true h)
    have hb : (a == id) = true := by simpa using h
    clear h
    go_enter Try.func74, Try.ntmps74
    go_wp2
    go_ret
    rw [H.out]
    exact ⟨rfl, by go_grown⟩
  · have H := Lib.hid (show decide (a = id) = false from decide_eq_false h)
    have hb : (a == id) = false := by simpa using h
    clear h
    go_enter Try.func74, Try.ntmps74
    go_wp2
    go_ret
    rw [H.out]
    exact ⟨rfl, by go_grown⟩

set_option maxHeartbeats 800000 in
theorem ixe_any (v : Value) (l : List Ent) (id : Int) (bx : Nat) (w : World) (h : OL w 147 2 v l.length (entCells l)) (hl : l.length ≤ 1000000) (hx : w.cell? ⟨bx, 0, none⟩ = some (.int .i64 id)) :
    Calls Try.prog 73 #[v, .func (.func 74) #[] #[.pointer (some ⟨bx, 0, none⟩)]] w (IxEPost l id w) := by
  have hbx := World.block_lt_of_cell? w _ hx
  rcases h.forms with ⟨rfl, h0⟩ | ⟨g, off, cap, rfl, _, _, hg⟩
  · have hl0 : l = [] := List.eq_nil_of_length_eq_zero h0
    subst hl0
    go_enter Try.func73, Try.ntmps73
    go_wp2_with fail
    refine wp_loop_rounds 1 ?_
    rw [rounds_succ]
    go_wp2
    go_ret
    exact ⟨_, rfl, .inl ⟨rfl, by simp⟩, Below.refl _ _⟩
  · go_enter Try.func73, Try.ntmps73
    have H := Lib.hid h
    clear h
    go_wp2_with fail
    go_loopw [8] (fun i wr => ∃ (k : Nat), k ≤ l.length ∧ i = .int .i64 k ∧ (∀ j, j < k → ∀ e', l[j]? = some e' → e'.1 ≠ id) ∧ Below w.heap.size w wr) (fun i _ => l.length - (intOf i).toNat)
    case atStart => exact ⟨0, Nat.zero_le _, rfl, by omega, Below.refl _ _⟩
    case round =>
      obtain ⟨k, hk, rfl, hno, hB⟩ := hrel
      have HN := Lib.hid hno
      clear hno
      by_cases hlt : k < l.length
      · have hc := entCells_get l k hlt
        have hc0 := (hB.cell (p := ⟨g, off + k * 2, none⟩) hg).trans ((H.out.cell (k * 2) (by omega)).trans hc.1)
        have hc1 := (hB.cell (p := ⟨g, off + k * 2 + 1, none⟩) hg).trans ((H.out.cell (k * 2 + 1) (by omega)).trans hc.2)
        have hxr := (hB.cell (p := ⟨bx, 0, none⟩) hbx).trans hx
        have HL := Lib.hid (show l[k]? = some l[k] from List.getElem?_eq_getElem hlt)
        have CE := Lib.hid (fun w hx => eqid_any l[k].1 l[k].2 id bx w hx)
        clear hc
        generalize l[k] = en at hc0 hc1 HL CE
        by_cases he : en.1 = id
        · have ce := CE.out wr hxr
          rw [decide_eq_true he] at ce
          have CE2 := Lib.hid ce
          have HE := Lib.hid he
          clear ce he CE
          go_wp2_with fail
          refine CE2.out.mono ?_
          rintro e w' ⟨rfl, hb'⟩
          go_wp2
          go_ret
          exact ⟨_, rfl, .inr ⟨k, en, rfl, HL.out, HE.out, HN.out⟩, hB.trans (hb'.mono hB.size)⟩
        · have ce := CE.out wr hxr
          rw [decide_eq_false he] at ce
          have CE2 := Lib.hid ce
          have HE := Lib.hid he
          clear ce he CE
          go_wp2_with fail
          refine CE2.out.mono ?_
          rintro e w' ⟨rfl, hb'⟩
          go_wp2
          go_roundw
          case rel => exact ⟨k + 1, by omega, by go_num, fun j hj e' he' => by
            by_cases hjk : j = k
            · rw [hjk, HL.out] at he'
              have : en = e' := by simpa using he'
              rw [← this]; exact HE.out
            · exact HN.out j (by omega) e' he', hB.trans (hb'.mono hB.size)⟩
          case measure => simp [intOf]; omega
      · obtain rfl : k = l.length := by omega
        go_wp2
        go_ret
        refine ⟨_, rfl, .inl ⟨rfl, fun e he => ?_⟩, hB⟩
        obtain ⟨j, hj, rfl⟩ := List.getElem_of_mem he
        exact HN.out j hj _ (List.getElem?_eq_getElem hj)

/-- Where an id is in a queue. -/
def FindR (s : FQ) (id : Int) : Option (Nat × Nat) → Prop
  | none => ∀ t, t < s.m → ∀ e ∈ s.lst t, e.1 ≠ id
  | some (t, i) => t < s.m ∧ (∃ e, (s.lst t)[i]? = some e ∧ e.1 = id) ∧ (∀ j, j < i → ∀ e', (s.lst t)[j]? = some e' → e'.1 ≠ id) ∧ ∀ t', t' < t → ∀ e ∈ s.lst t', e.1 ≠ id
def findV : Option (Nat × Nat) → Value
  | none => .tuple #[.int .i64 0, .int .i64 0, .bool false]
  | some (t, i) => .tuple #[.int .i64 t, .int .i64 i, .bool true]
def FindPost (s : FQ) (id : Int) (w : World) (e : Ending) (w' : World) : Prop := ∃ r, e = .returned (findV r) ∧ FindR s id r ∧ Below w.heap.size w w'
def Short (s : FQ) : Prop := ∀ t, t < s.m → (s.lst t).length ≤ 1000000

set_option maxHeartbeats 800000 in
theorem find_any {b bq cq bd cd bl : Nat} {xt : List Value} {vals : List Value} {s : FQ} (id : Int) (w : World) (h : FqAt w b bq cq bd cd xt bl vals s) (hm : s.m ≤ 16) (hsh : Short s) :
    Calls Try.prog 64 #[.pointer (some ⟨b, 0, none⟩), .int .i64 id] w (FindPost s id w) := by
  have c2 := h.c2
  have H := Lib.hid h
  have hb0 := has_lt h.hb
  have hbl := has_lt h.hl
  have c2' : (w.alloc (.cells #[.int .i64 id] 3)).cell? ⟨b, 2, none⟩ = some (.slice (some ⟨bl, 0, none⟩) s.m s.m) := (World.cell?_of_block (w := w) (a := ⟨b, 2, none⟩) (Below.heap_alloc w _ b hb0)).trans c2
  have HS := Lib.hid hsh
  clear h hsh c2
  go_enter Try.func64, Try.ntmps64
  go_wp2_with fail
  have hB0 : Below w.heap.size w (w.alloc (.cells #[.int .i64 id] 3)) := by go_grown
  have hX : (w.alloc (.cells #[.int .i64 id] 3)).cell? ⟨w.heap.size, 0, none⟩ = some (.int .i64 id) := has_cell (heap_alloc_new w _) 0
  have hsz : w.heap.size < (w.alloc (.cells #[.int .i64 id] 3)).heap.size := by simp
  generalize w.alloc (.cells #[.int .i64 id] 3) = w1 at hB0 hX hsz c2' ⊢
  generalize hbx : w.heap.size = bx at hX hsz ⊢
  have HBX := Lib.hid hbx
  clear hbx
  go_loopw [15] (fun i wr => ∃ (k : Nat), k ≤ s.m ∧ i = .int .i64 k ∧ (∀ t, t < k → ∀ e ∈ s.lst t, e.1 ≠ id) ∧ Below w1.heap.size w1 wr) (fun i _ => s.m - (intOf i).toNat)
  case atStart => exact ⟨0, Nat.zero_le _, rfl, by omega, Below.refl _ _⟩
  case round =>
    obtain ⟨k, hk, rfl, hno, hB⟩ := hrel
    have HN := Lib.hid hno
    clear hno
    have hB2 := hB0.trans (hB.mono hB0.size)
    have hW := H.out.belowS hB2
    by_cases hlt : k < s.m
    · have cl := hW.cL hlt
      have hxr := (hB.cell (p := ⟨bx, 0, none⟩) hsz).trans hX
      have CE := Lib.hid (ixe_any _ (s.lst k) id bx wr (hW.hls k hlt) (HS.out k hlt) hxr)
      have hf := (hW.hls k hlt).forms
      clear hW
      have hv : ∃ ao n' cap', qv vals k = .slice ao n' cap' := by
        rcases hf with ⟨hv, _⟩ | ⟨g, off, cap, hv, _⟩
        · exact ⟨_, _, _, hv⟩
        · exact ⟨_, _, _, hv⟩
      obtain ⟨ao, n', cap', hv⟩ := hv
      rw [hv] at cl CE
      clear hv hf
      go_wp2_with fail
      refine CE.out.mono ?_
      rintro e w' ⟨r, rfl, hr, hb'⟩
      rcases hr with ⟨rfl, hnone⟩ | ⟨i, en, rfl, hi1, hi2, hi3⟩
      · have HNO := Lib.hid hnone
        clear hnone
        go_wp2
        go_roundw
        case rel => exact ⟨k + 1, by omega, by go_num, fun t ht => by
          by_cases htk : t = k
          · rw [htk]; exact HNO.out
          · exact HN.out t (by omega), hB.trans (hb'.mono hB.size)⟩
        case measure => simp [intOf]; omega
      · have HI := Lib.hid (And.intro hi1 (And.intro hi2 hi3))
        clear hi1 hi2 hi3
        go_wp2
        go_ret3
        exact ⟨some (k, i), rfl, ⟨hlt, ⟨en, HI.out.1, HI.out.2.1⟩, HI.out.2.2, HN.out⟩, hB2.trans (hb'.mono hB2.size)⟩
    · obtain rfl : k = s.m := by omega
      go_wp2
      go_ret3
      exact ⟨none, rfl, HN.out, hB2⟩
end Go.Proofs.Ytmdajndmobpgbaa

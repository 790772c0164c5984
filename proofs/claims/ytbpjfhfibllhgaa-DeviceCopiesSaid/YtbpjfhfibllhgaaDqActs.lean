/- Acts of the statements: how they are read, fits, next, do, Bytes. Conditions: the acts can be read. -/
import Derived.Test.YtbpjfhfibllhgaaDqCopy
import Derived.Laws.IdiomStrings
namespace Go.Proofs.Ytbpjfhfibllhgaa
open Go.RowKit
open Go.Proofs.Ytbpjfhfibllhgaa.Dv
variable {Qp : Nat → Prop}

/-- An act: its numbers, and where its two lists lie. -/
structure ActV where
  kind : Int
  block : Int
  page : Int
  dao : Option Addr
  dn : Nat
  dc : Nat
  db : Nat
  doff : Nat
  dX : Nat → Int
  kao : Option Addr
  kn : Nat
  kc : Nat
  kb : Nat
  koff : Nat
  kX : Nat → Int
def ActV.val (a : ActV) : Value := .agg #[.int .u8 a.kind, .int .i64 a.block, .int .i64 a.page, .slice a.dao a.dn a.dc, .slice a.kao a.kn a.kc]
structure ActV.ok (w : World) (a : ActV) : Prop where
  d : IsBytes w a.dao a.dn a.db a.doff a.dX
  k : IsInts w a.kao a.kn a.kb a.koff a.kX
  k0 : 0 ≤ a.kind ∧ a.kind ≤ 255
  bb : -9223372036854775808 ≤ a.block ∧ a.block ≤ 9223372036854775807
  pb : -9223372036854775808 ≤ a.page ∧ a.page ≤ 9223372036854775807
  dl : a.dn ≤ 9223372036854775807
  kl : a.kn ≤ 9223372036854775807
/-- The list of acts can be read. -/
structure IsActs (w : World) (ao : Option Addr) (n b off : Nat) (A : Nat → ActV) : Prop where
  ao : 0 < n → ao = some ⟨b, off, none⟩
  lt : 0 < n → b < w.heap.size
  c : ∀ i, i < n → w.cell? ⟨b, off + i * 5, none⟩ = some (.int .u8 (A i).kind) ∧ w.cell? ⟨b, off + i * 5 + 1, none⟩ = some (.int .i64 (A i).block) ∧ w.cell? ⟨b, off + i * 5 + 2, none⟩ = some (.int .i64 (A i).page) ∧
    w.cell? ⟨b, off + i * 5 + 3, none⟩ = some (.slice (A i).dao (A i).dn (A i).dc) ∧ w.cell? ⟨b, off + i * 5 + 4, none⟩ = some (.slice (A i).kao (A i).kn (A i).kc)
  k : ∀ i, i < n → (A i).ok w
section
variable {w w' : World}
theorem ActV.ok.below {a : ActV} (h : a.ok w) {B : Nat} (hb : Below B w w') (hB : w.heap.size ≤ B) : a.ok w' := { h with d := h.d.below hb hB, k := h.k.below hb hB }
theorem IsActs.below {ao : Option Addr} {n b off : Nat} {A : Nat → ActV} (h : IsActs w ao n b off A) {B : Nat} (hb : Below B w w') (hB : w.heap.size ≤ B) : IsActs w' ao n b off A :=
  ⟨h.ao, fun h0 => by have := h.lt h0; have := hb.size; omega, fun i hi => by
    have hlt := h.lt (by omega)
    obtain ⟨c0, c1, c2, c3, c4⟩ := h.c i hi
    exact ⟨(hb.cell (p := ⟨b, off + i * 5, none⟩) (by simp; omega)).trans c0, (hb.cell (p := ⟨b, off + i * 5 + 1, none⟩) (by simp; omega)).trans c1, (hb.cell (p := ⟨b, off + i * 5 + 2, none⟩) (by simp; omega)).trans c2, (hb.cell (p := ⟨b, off + i * 5 + 3, none⟩) (by simp; omega)).trans c3, (hb.cell (p := ⟨b, off + i * 5 + 4, none⟩) (by simp; omega)).trans c4⟩,
    fun i hi => (h.k i hi).below hb hB⟩
end
def fitsB (n : Nat) (A : Nat → ActV) : Bool := decide ((∀ i, i < n → (A i).dn ≤ 600 ∧ (A i).kn ≤ 100) ∧ n ≤ 40)
set_option maxHeartbeats 800000 in
theorem fits_any {ao : Option Addr} {n c b off : Nat} {A : Nat → ActV} (w : World) (h : IsActs w ao n b off A) (hn : n ≤ 9223372036854775807) :
    Calls Try.prog 25 #[.slice ao n c] w fun e w' => e = .returned (.bool (fitsB n A)) ∧ w' = w := by
  have H := Lib.hid h
  clear h
  go_enter Try.func25, Try.ntmps25
  go_wp2_with fail
  go_loopw [3] (fun i wr => ∃ k : Nat, k ≤ n ∧ i = .int .i64 k ∧ (∀ i, i < k → (A i).dn ≤ 600 ∧ (A i).kn ≤ 100) ∧ wr = w) (fun i _ => n - (intOf i).toNat)
  case atStart => exact ⟨0, Nat.zero_le _, rfl, by omega, rfl⟩
  case round =>
    obtain ⟨k, hk, rfl, hA, rfl⟩ := hrel
    have HA := Lib.hid hA
    clear hA
    by_cases hlt : k < n
    · obtain rfl := H.out.ao (by omega)
      obtain ⟨c0, c1, c2, c3, c4⟩ := H.out.c k hlt
      by_cases hd : (A k).dn ≤ 600
      · by_cases hq : (A k).kn ≤ 100
        · have HK := Lib.hid (And.intro hd hq)
          have d1 : decide ((600 : Int) < ((A k).dn : Int)) = false := by simp; omega
          have d2 : decide ((100 : Int) < ((A k).kn : Int)) = false := by simp; omega
          clear hd hq c0 c1 c2
          go_wp2
          go_roundw
          case rel => exact ⟨k + 1, by omega, by go_num, fun i hi => by
            by_cases e : i = k
            · subst e; exact HK.out
            · exact HA.out i (by omega), by first | rfl | trivial⟩
          case measure => simp [intOf]; omega
        · have HR := Lib.hid (show fitsB n A = false from decide_eq_false (fun h => hq (h.1 k hlt).2))
          have d1 : decide ((600 : Int) < ((A k).dn : Int)) = false := by simp; omega
          have d2 : decide ((100 : Int) < ((A k).kn : Int)) = true := by simp; omega
          clear hd hq c0 c1 c2
          go_wp2
          go_ret
          rw [HR.out]
          exact ⟨rfl, rfl⟩
      · have HR := Lib.hid (show fitsB n A = false from decide_eq_false (fun h => hd (h.1 k hlt).1))
        have d1 : decide ((600 : Int) < ((A k).dn : Int)) = true := by simp; omega
        clear hd c0 c1 c2
        go_wp2
        go_ret
        rw [HR.out]
        exact ⟨rfl, rfl⟩
    · obtain rfl : k = n := by omega
      have HR := Lib.hid (show fitsB k A = decide ((k : Int) ≤ 40) from by
        unfold fitsB
        by_cases h : k ≤ 40
        · rw [decide_eq_true ⟨HA.out, h⟩, decide_eq_true (by omega)]
        · rw [decide_eq_false (fun x => h x.2), decide_eq_false (by omega)])
      go_wp2
      go_ret
      rw [HR.out]
      exact ⟨rfl, rfl⟩
/-- Two slices of the same bytes are the same string. -/
theorem conv_bytes {w : World} {g cap : Nat} {l : List Int} {fr : Nat × Nat} (h : w.heap[g]? = some (.cells (bys l).toArray 5 fr)) :
    (convert 22 9 (.slice (some ⟨g, 0, none⟩) l.length cap)).run Try.prog w = .ok (.string (l.foldl (fun r n => r.push (UInt8.ofNat n.toNat)) ByteArray.empty)) w := by
  rw [run_convert_bytes_string w 22 9 5 (some ⟨g, 0, none⟩) l.length cap Try.underlying22 Try.underlying5 Try.underlying9]
  have hl := run_loadCells_list (P := Try.prog) w ⟨g, 0, none⟩ (bys l) (fun j v hj => by
    rw [Addr.add_lit]
    show w.cell? ⟨g, 0 + j, none⟩ = some v
    rw [has_cell h, Nat.zero_add, List.getElem?_toArray]; exact hj)
  rw [bys_len] at hl
  exact run_bytesToString w ⟨g, 0, none⟩ l.length cap l hl
theorem bytes_same {w : World} {g1 g2 c1 c2 : Nat} {l : List Int} {f1 f2 : Nat × Nat} (hl : l.length = 512) (h1 : w.heap[g1]? = some (.cells (bys l).toArray 5 f1)) (h2 : w.heap[g2]? = some (.cells (bys l).toArray 5 f2)) :
    Calls Try.prog 28 #[.slice (some ⟨g1, 0, none⟩) 512 c1, .slice (some ⟨g2, 0, none⟩) 512 c2] w fun e w' => e = .returned (.bool true) ∧ w' = w := by
  have k1 := conv_bytes (cap := c1) h1
  have k2 := conv_bytes (cap := c2) h2
  rw [hl] at k1 k2
  generalize l.foldl (fun r n => r.push (UInt8.ofNat n.toNat)) ByteArray.empty = S at k1 k2

  clear h1 h2 hl
  go_enter Try.func28, Try.ntmps28
  go_wp2
  go_ret
  exact ⟨rfl, rfl⟩
section
variable {w : World} {P : Nat → Prop} {b n p : Nat} {s : Dev}
/-- The page that an act programs. -/
def actPage (n : Nat) (s : Dev) (a : ActV) : Int := if (0 ≤ a.block ∧ a.block < n) ∧ a.kind % 6 = 5 then pgN (s.blk a.block.toNat) else a.page
def NextP (x : Int) (w : World) (e : Ending) (w' : World) : Prop := e = .returned (.int .i64 x) ∧ Below w.heap.size w w'
set_option maxRecDepth 100000 in
theorem next_act (a : ActV) (h : DS Qp w P b n p s) (hk : 0 ≤ a.kind ∧ a.kind ≤ 255) : Calls Try.prog 31 #[.pointer (some ⟨b, 0, none⟩), a.val] w (NextP (actPage n s a) w) := by
  have hb0 : Below w.heap.size w (w.alloc (.cells #[.int .u8 a.kind, .int .i64 a.block, .int .i64 a.page, .slice a.dao a.dn a.dc, .slice a.kao a.kn a.kc] 55)) := by go_grown
  have CN := Lib.hid (d_next a.block (h.belowS hb0))
  have hx := heap_alloc_new w (.cells #[.int .u8 a.kind, .int .i64 a.block, .int .i64 a.page, .slice a.dao a.dn a.dc, .slice a.kao a.kn a.kc] 55)
  have hlt : w.heap.size < (w.alloc (.cells #[.int .u8 a.kind, .int .i64 a.block, .int .i64 a.page, .slice a.dao a.dn a.dc, .slice a.kao a.kn a.kc] 55)).heap.size := by simp
  unfold ActV.val
  by_cases hi : 0 ≤ a.block ∧ a.block < n
  · rw [show nextE n a.block = 0 from if_pos hi, show nextI n s a.block = pgN (s.blk a.block.toNat) from if_pos hi] at CN
    by_cases h5 : a.kind % 6 = 5
    · have HE := Lib.hid (show actPage n s a = pgN (s.blk a.block.toNat) from if_pos ⟨hi, h5⟩)
      have hd : (a.kind % 6 != 5) = false := by rw [bne_eq_false_iff_eq]; exact h5
      generalize pgN (s.blk a.block.toNat) = r at CN HE
      clear h hi h5
      go_enter Try.func31, Try.ntmps31
      go_wp2_with fail
      generalize w.alloc (.cells #[.int .u8 a.kind, .int .i64 a.block, .int .i64 a.page, .slice a.dao a.dn a.dc, .slice a.kao a.kn a.kc] 55) = w0 at CN hb0 hx hlt ⊢
      refine CN.out.mono ?_
      rintro e w2 ⟨rfl, hb2⟩
      rw [errV0]
      have c0 := has_cell (below_ats hb2 hx) 0
      have c2 := has_cell (below_ats hb2 hx) 2
      have hB2 := hb0.trans (hb2.mono hb0.size)
      clear CN hb0 hb2 hx
      go_wp2
      go_ret
      rw [HE.out]
      exact ⟨rfl, hB2⟩
    · have HE := Lib.hid (show actPage n s a = a.page from if_neg (fun h => h5 h.2))
      have hd : (a.kind % 6 != 5) = true := by rw [bne_iff_ne]; exact h5
      generalize pgN (s.blk a.block.toNat) = r at CN
      clear h hi h5
      go_enter Try.func31, Try.ntmps31
      go_wp2_with fail
      generalize w.alloc (.cells #[.int .u8 a.kind, .int .i64 a.block, .int .i64 a.page, .slice a.dao a.dn a.dc, .slice a.kao a.kn a.kc] 55) = w0 at CN hb0 hx hlt ⊢
      refine CN.out.mono ?_
      rintro e w2 ⟨rfl, hb2⟩
      rw [errV0]
      have c0 := has_cell (below_ats hb2 hx) 0
      have c2 := has_cell (below_ats hb2 hx) 2
      have hB2 := hb0.trans (hb2.mono hb0.size)
      clear CN hb0 hb2 hx
      go_wp2
      go_ret
      rw [HE.out]
      exact ⟨rfl, hB2⟩
  · rw [show nextE n a.block = 1 from if_neg hi, show nextI n s a.block = 0 from if_neg hi] at CN
    have HE := Lib.hid (show actPage n s a = a.page from if_neg (fun h => hi h.1))
    clear h hi
    go_enter Try.func31, Try.ntmps31
    go_wp2_with fail
    generalize w.alloc (.cells #[.int .u8 a.kind, .int .i64 a.block, .int .i64 a.page, .slice a.dao a.dn a.dc, .slice a.kao a.kn a.kc] 55) = w0 at CN hb0 hx hlt ⊢
    refine CN.out.mono ?_
    rintro e w2 ⟨rfl, hb2⟩
    rw [errV_pos (by decide)]
    have c0 := has_cell (below_ats hb2 hx) 0
    have c2 := has_cell (below_ats hb2 hx) 2
    have hB2 := hb0.trans (hb2.mono hb0.size)
    clear CN hb0 hb2 hx
    go_wp2
    go_ret
    rw [HE.out]
    exact ⟨rfl, hB2⟩
end
end Go.Proofs.Ytbpjfhfibllhgaa

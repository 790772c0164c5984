/- topology: slices.Sort of texts: the shelf's contract laid in plain words, and what it makes of a slice of the call's own. Conditions: none. -/
import Derived.Ground.SlgmProg
import Derived.Shelf.SortM.Plain
import Derived.Shelf.SortM.SortNone
import Derived.Test.YtpcapmialdmcaaaTpA
namespace Go.Proofs.Ytpcapmialdmcaaa
open Go.RowKit Go.Shelf Go.Sort

def tpSortL_ren : Go.Shelf.Ren := ⟨fun | 6 => 38 | 8 => 46 | 9 => 45 | 19 => 58 | 20 => 59 | 21 => 49 | 22 => 50 | 23 => 51 | 24 => 52 | 25 => 53 | 26 => 54 | 27 => 55 | 28 => 56 | 29 => 57 | 36 => 61 | 31 => 62 | 32 => 63 | 37 => 64 | 38 => 65 | 39 => 66 | 41 => 67 | n => n, fun | 27 => 28 | 29 => 9 | 3 => 3 | 32 => 108 | 26 => 28 | 0 => 0 | 44 => 121 | 46 => 123 | 4 => 4 | 36 => 113 | 35 => 112 | 41 => 118 | 5 => 5 | 9 => 9 | 53 => 125 | 57 => 129 | 63 => 131 | 64 => 132 | n => n, fun | n => n⟩
theorem tpSortL : Go.Proofs.SlLaysM.n6 Try.prog tpSortL_ren := {
  mixed := by kernel_rfl
  f6 := ⟨Try.f38.name, by decide, Try.func38.trans (congrArg some (by kernel_rfl))⟩
  f8 := Try.func46.trans (congrArg some (by kernel_rfl))
  f9 := ⟨Try.f45.name, by decide, Try.func45.trans (congrArg some (by kernel_rfl))⟩
  f19 := Try.func58.trans (congrArg some (by kernel_rfl))
  f20 := Try.func59.trans (congrArg some (by kernel_rfl))
  f21 := ⟨Try.f49.name, by decide, Try.func49.trans (congrArg some (by kernel_rfl))⟩
  f22 := ⟨Try.f50.name, by decide, Try.func50.trans (congrArg some (by kernel_rfl))⟩
  f23 := ⟨Try.f51.name, by decide, Try.func51.trans (congrArg some (by kernel_rfl))⟩
  f24 := ⟨Try.f52.name, by decide, Try.func52.trans (congrArg some (by kernel_rfl))⟩
  f25 := ⟨Try.f53.name, by decide, Try.func53.trans (congrArg some (by kernel_rfl))⟩
  f26 := ⟨Try.f54.name, by decide, Try.func54.trans (congrArg some (by kernel_rfl))⟩
  f27 := ⟨Try.f55.name, by decide, Try.func55.trans (congrArg some (by kernel_rfl))⟩
  f28 := ⟨Try.f56.name, by decide, Try.func56.trans (congrArg some (by kernel_rfl))⟩
  f29 := ⟨Try.f57.name, by decide, Try.func57.trans (congrArg some (by kernel_rfl))⟩
  f31 := Try.func62.trans (congrArg some (by kernel_rfl))
  f32 := Try.func63.trans (congrArg some (by kernel_rfl))
  f36 := ⟨Try.f61.name, by decide, Try.func61.trans (congrArg some (by kernel_rfl))⟩
  f37 := ⟨Try.f64.name, by decide, Try.func64.trans (congrArg some (by kernel_rfl))⟩
  f38 := ⟨Try.f65.name, by decide, Try.func65.trans (congrArg some (by kernel_rfl))⟩
  f39 := ⟨Try.f66.name, by decide, Try.func66.trans (congrArg some (by kernel_rfl))⟩
  f41 := ⟨Try.f67.name, by decide, Try.func67.trans (congrArg some (by kernel_rfl))⟩
  t0 := Try.underlying0
  a0 := Try.isAgg0
  z0 := Try.sizeOf0
  v0 := Try.zeroValue0
  t3 := Try.underlying3
  a3 := Try.isAgg3
  z3 := Try.sizeOf3
  v3 := Try.zeroValue3
  t4 := Try.underlying4
  a4 := Try.isAgg4
  z4 := Try.sizeOf4
  v4 := Try.zeroValue4
  t5 := Try.underlying5
  a5 := Try.isAgg5
  z5 := Try.sizeOf5
  v5 := Try.zeroValue5
  t9 := Try.underlying9
  a9 := Try.isAgg9
  z9 := Try.sizeOf9
  v9 := Try.zeroValue9
  t26 := Try.underlying28
  a26 := Try.isAgg28
  z26 := Try.sizeOf28
  v26 := Try.zeroValue28
  t27 := Try.underlying28
  a27 := Try.isAgg28
  z27 := Try.sizeOf28
  v27 := Try.zeroValue28
  t29 := Try.underlying9
  a29 := Try.isAgg9
  z29 := Try.sizeOf9
  v29 := Try.zeroValue9
  t32 := Try.underlying108
  a32 := Try.isAgg108
  z32 := Try.sizeOf108
  v32 := Try.zeroValue108
  t35 := Try.underlying112
  a35 := Try.isAgg112
  z35 := Try.sizeOf112
  v35 := Try.zeroValue112
  t36 := Try.underlying113
  a36 := Try.isAgg113
  z36 := Try.sizeOf113
  v36 := Try.zeroValue113
  t41 := Try.underlying118
  a41 := Try.isAgg118
  z41 := Try.sizeOf118
  v41 := Try.zeroValue118
  t44 := Try.underlying121
  a44 := Try.isAgg121
  z44 := Try.sizeOf121
  v44 := Try.zeroValue121
  t46 := Try.underlying123
  a46 := Try.isAgg123
  z46 := Try.sizeOf123
  v46 := Try.zeroValue123
  t53 := Try.underlying125
  a53 := Try.isAgg125
  z53 := Try.sizeOf125
  v53 := Try.zeroValue125
  t57 := Try.underlying129
  a57 := Try.isAgg129
  z57 := Try.sizeOf129
  v57 := Try.zeroValue129
  t63 := Try.underlying131
  a63 := Try.isAgg131
  z63 := Try.sizeOf131
  v63 := Try.zeroValue131
  t64 := Try.underlying132
  a64 := Try.isAgg132
  z64 := Try.sizeOf132
  v64 := Try.zeroValue132 }
open Go.Sort Go.RowKit in
theorem tpSort (blk off cap : Nat) (ss : List (List UInt8)) (w : World) (hH : Holds encStr w blk off ss.toArray) (hblk : blk < w.heap.size) (hsz : ss.length < 4611686018427387904) :
    Calls Try.prog 38 #[.slice (some ⟨blk, off, none⟩) ss.length cap] w fun e w' =>
      e = .returned (.tuple #[]) ∧ ∃ n os, w' = grow (putRow encStr (Sort.ahead w n) blk off (ss.mergeSort fun x y => decide (x ≤ y)).toArray) os := AnyM.slices_Sort_string tpSortL blk off cap ss w hH hblk hsz
open Go.RowKit Go.Sort in
theorem tpSort_none (p : Option Addr) (cap : Nat) (w : World) :
    Calls Try.prog 38 #[.slice p 0 cap] w fun e w' => e = .returned (.tuple #[]) ∧ w' = w := AnyM.slices_Sort_string_none tpSortL p cap w

theorem heap_put {w : World} {g off n : Nat} {os : Array Obj} {cur : Array Value} {e : TypeId} {fr : Nat × Nat} (d : Array (List UInt8)) (hb : w.heap[g]? = some (.cells cur e fr)) :
    (Sort.grow (putRow encStr (Sort.ahead w n) g off d) os).heap[g]? = some (.cells (putCells encStr off d cur) e fr) := by
  have hlt := lt_of_block hb
  rw [heap_grow_old _ _ (by simpa using hlt)]
  simp [putRow, mapBlock, Sort.ahead, Array.getElem?_modify, hb, onCells]
theorem grown_put {w : World} {g off n : Nat} {os : Array Obj} (d : Array (List UInt8)) : w.grownBy (Sort.grow (putRow encStr (Sort.ahead w n) g off d) os) (some g) := by
  refine ⟨rfl, rfl, rfl, by simp, fun k hk hne => ?_⟩
  rw [heap_grow_old _ _ (by simpa using hk)]
  have : g ≠ k := fun e => hne (by rw [e])
  simp [putRow, mapBlock, Sort.ahead, Array.getElem?_modify, this]
def SortP (v : Value) (l : List ByteArray) (w : World) (e : Ending) (w' : World) : Prop := e = .returned (.tuple #[]) ∧ ∃ l', l'.Perm l ∧ IsT w' v l' ∧ w.grownBy w' v.ownBlock
theorem enc_data (b : ByteArray) : encStr b.data.toList = .string b := by simp [encStr]
theorem sort_any {w : World} {v : Value} {l : List ByteArray} (h : IsT w v l) (hl : l.length ≤ 1000000) : Calls Try.prog 38 #[v] w (SortP v l w) := by
  rcases h.2 with ⟨rfl, h0⟩ | ⟨g, off, cap, cur, rfl, hb, h1, h2, h3, h4⟩
  · obtain rfl : l = [] := List.eq_nil_of_length_eq_zero h0
    refine (tpSort_none none 0 w).mono ?_
    rintro e w' ⟨rfl, rfl⟩
    exact ⟨rfl, [], List.Perm.refl _, h, grownBy_rfl _ _⟩
  · have hblk := lt_of_block hb
    obtain ⟨ss, hss⟩ : ∃ ss, ss = l.map fun b => b.data.toList := ⟨_, rfl⟩
    have hsl : ss.length = l.length := by rw [hss, List.length_map]
    have hH : Holds encStr w g off ss.toArray := by
      intro j hj
      have hj' : j < l.length := by rw [← hsl]; simpa using hj
      refine ⟨?_, OL.free h _⟩
      have := (OL.cell h j (by omega)).trans (strs_get l j hj')
      rw [this]
      subst hss
      simp [List.getD, hj', enc_data]
    have hS := tpSort g off cap ss w hH hblk (by omega)
    rw [hsl] at hS
    refine hS.mono ?_
    rintro e w' ⟨rfl, n, os, rfl⟩
    have hs : (ss.mergeSort fun x y => decide (x ≤ y)).length = l.length := by rw [List.length_mergeSort, hsl]
    have hp : (ss.mergeSort fun x y => decide (x ≤ y)).Perm ss := List.mergeSort_perm _ _
    generalize (ss.mergeSort fun x y => decide (x ≤ y)) = ts at hs hp ⊢
    refine ⟨rfl, ts.map fun b => ⟨b.toArray⟩, ?_, ?_, grown_put _⟩
    · have := hp.map fun b => (⟨b.toArray⟩ : ByteArray)
      rw [hss, List.map_map] at this
      have e : l.map ((fun b => (⟨b.toArray⟩ : ByteArray)) ∘ fun b => b.data.toList) = l := by
        conv => rhs; rw [← List.map_id l]
        exact List.map_congr_left fun b _ => by simp
      rwa [e] at this
    · show OL _ _ 1 _ (ts.map fun b => (⟨b.toArray⟩ : ByteArray)).length (strs (ts.map fun b => (⟨b.toArray⟩ : ByteArray)))
      rw [List.length_map, hs]
      refine ⟨by rw [strs_len, List.length_map, hs, Nat.mul_one], .inr ⟨g, off, cap, _, rfl, heap_put _ hb, h1, h2, by simp [putCells]; omega, ?_⟩⟩
      apply List.ext_getElem?
      intro j
      by_cases hj : j < l.length
      · rw [List.getElem?_take_of_lt (by omega), List.getElem?_drop, Array.getElem?_toList, strs_get _ _ (by rw [List.length_map]; omega)]
        have hlt : off + j < cur.size := by omega
        simp [putCells, List.getD, show j < ts.length by omega, hlt, encStr]
      · rw [List.getElem?_take_eq_none (by omega), List.getElem?_eq_none (by rw [strs_len, List.length_map]; omega)]
end Go.Proofs.Ytpcapmialdmcaaa

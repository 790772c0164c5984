/- admission: slices.Sort of integers: the shelf's contract laid in plain words, and what it makes of a slice of the call's own. Conditions: none. -/
import Derived.Ground.SlgmProg
import Derived.Shelf.SortM.Plain
import Derived.Shelf.SortM.SortNone
import Derived.Test.YtmdajndmobpgbaaAdA
namespace Go.Proofs.Ytmdajndmobpgbaa
open Go.RowKit Go.Shelf Go.Sort
open Go.Proofs.Ytmdajndmobpgbaa.Fq

def adSortL_ren : Go.Shelf.Ren := ⟨fun | 5 => 47 | 8 => 69 | 7 => 68 | 19 => 86 | 20 => 87 | 10 => 77 | 11 => 78 | 12 => 79 | 13 => 80 | 14 => 81 | 15 => 82 | 16 => 83 | 17 => 84 | 18 => 85 | 30 => 89 | 31 => 90 | 32 => 91 | 33 => 92 | 34 => 93 | 35 => 94 | 40 => 95 | n => n, fun | 23 => 37 | 25 => 3 | 3 => 3 | 32 => 151 | 22 => 37 | 0 => 0 | 44 => 165 | 46 => 167 | 4 => 4 | 36 => 159 | 35 => 158 | 41 => 79 | 5 => 5 | 9 => 9 | 53 => 169 | 57 => 173 | 63 => 175 | 64 => 69 | n => n, fun | n => n⟩
theorem adSortL : Go.Proofs.SlLaysM.n5 Try.prog adSortL_ren := {
  mixed := by kernel_rfl
  f5 := ⟨Try.f47.name, by decide, Try.func47.trans (congrArg some (by kernel_rfl))⟩
  f7 := ⟨Try.f68.name, by decide, Try.func68.trans (congrArg some (by kernel_rfl))⟩
  f8 := Try.func69.trans (congrArg some (by kernel_rfl))
  f10 := ⟨Try.f77.name, by decide, Try.func77.trans (congrArg some (by kernel_rfl))⟩
  f11 := ⟨Try.f78.name, by decide, Try.func78.trans (congrArg some (by kernel_rfl))⟩
  f12 := ⟨Try.f79.name, by decide, Try.func79.trans (congrArg some (by kernel_rfl))⟩
  f13 := ⟨Try.f80.name, by decide, Try.func80.trans (congrArg some (by kernel_rfl))⟩
  f14 := ⟨Try.f81.name, by decide, Try.func81.trans (congrArg some (by kernel_rfl))⟩
  f15 := ⟨Try.f82.name, by decide, Try.func82.trans (congrArg some (by kernel_rfl))⟩
  f16 := ⟨Try.f83.name, by decide, Try.func83.trans (congrArg some (by kernel_rfl))⟩
  f17 := ⟨Try.f84.name, by decide, Try.func84.trans (congrArg some (by kernel_rfl))⟩
  f18 := ⟨Try.f85.name, by decide, Try.func85.trans (congrArg some (by kernel_rfl))⟩
  f19 := Try.func86.trans (congrArg some (by kernel_rfl))
  f20 := Try.func87.trans (congrArg some (by kernel_rfl))
  f30 := ⟨Try.f89.name, by decide, Try.func89.trans (congrArg some (by kernel_rfl))⟩
  f31 := Try.func90.trans (congrArg some (by kernel_rfl))
  f32 := Try.func91.trans (congrArg some (by kernel_rfl))
  f33 := ⟨Try.f92.name, by decide, Try.func92.trans (congrArg some (by kernel_rfl))⟩
  f34 := ⟨Try.f93.name, by decide, Try.func93.trans (congrArg some (by kernel_rfl))⟩
  f35 := ⟨Try.f94.name, by decide, Try.func94.trans (congrArg some (by kernel_rfl))⟩
  f40 := ⟨Try.f95.name, by decide, Try.func95.trans (congrArg some (by kernel_rfl))⟩
  t0 := Try.underlying0
  a0 := Try.isAgg0
  z0 := Try.sizeOf0
  v0 := Try.zeroValue0
  t3 := Try.underlying3
  a3 := Try.isAgg3
  z3 := Try.sizeOf3
  v3 := Try.zeroValue3
  t4 := Try.underlying4
  a4 := Try.isAgg4
  z4 := Try.sizeOf4
  v4 := Try.zeroValue4
  t5 := Try.underlying5
  a5 := Try.isAgg5
  z5 := Try.sizeOf5
  v5 := Try.zeroValue5
  t9 := Try.underlying9
  a9 := Try.isAgg9
  z9 := Try.sizeOf9
  v9 := Try.zeroValue9
  t22 := Try.underlying37
  a22 := Try.isAgg37
  z22 := Try.sizeOf37
  v22 := Try.zeroValue37
  t23 := Try.underlying37
  a23 := Try.isAgg37
  z23 := Try.sizeOf37
  v23 := Try.zeroValue37
  t25 := Try.underlying3
  a25 := Try.isAgg3
  z25 := Try.sizeOf3
  v25 := Try.zeroValue3
  t32 := Try.underlying151
  a32 := Try.isAgg151
  z32 := Try.sizeOf151
  v32 := Try.zeroValue151
  t35 := Try.underlying158
  a35 := Try.isAgg158
  z35 := Try.sizeOf158
  v35 := Try.zeroValue158
  t36 := Try.underlying159
  a36 := Try.isAgg159
  z36 := Try.sizeOf159
  v36 := Try.zeroValue159
  t41 := Try.underlying79
  a41 := Try.isAgg79
  z41 := Try.sizeOf79
  v41 := Try.zeroValue79
  t44 := Try.underlying165
  a44 := Try.isAgg165
  z44 := Try.sizeOf165
  v44 := Try.zeroValue165
  t46 := Try.underlying167
  a46 := Try.isAgg167
  z46 := Try.sizeOf167
  v46 := Try.zeroValue167
  t53 := Try.underlying169
  a53 := Try.isAgg169
  z53 := Try.sizeOf169
  v53 := Try.zeroValue169
  t57 := Try.underlying173
  a57 := Try.isAgg173
  z57 := Try.sizeOf173
  v57 := Try.zeroValue173
  t63 := Try.underlying175
  a63 := Try.isAgg175
  z63 := Try.sizeOf175
  v63 := Try.zeroValue175
  t64 := Try.underlying69
  a64 := Try.isAgg69
  z64 := Try.sizeOf69
  v64 := Try.zeroValue69 }
open Go.Sort Go.RowKit in
theorem adSort_int (blk off cap : Nat) (zs : List Int) (w : World) (hH : Holds (Value.int .i64) w blk off zs.toArray) (hblk : blk < w.heap.size) (hsz : zs.length < 4611686018427387904) :
    Calls Try.prog 47 #[.slice (some ⟨blk, off, none⟩) zs.length cap] w fun e w' =>
      e = .returned (.tuple #[]) ∧ ∃ n os, w' = grow (putRow (Value.int .i64) (Sort.ahead w n) blk off (zs.mergeSort fun x y => decide (x ≤ y)).toArray) os := AnyM.slices_Sort_int adSortL blk off cap zs w hH hblk hsz
open Go.RowKit Go.Sort in
theorem adSort_int_none (p : Option Addr) (cap : Nat) (w : World) :
    Calls Try.prog 47 #[.slice p 0 cap] w fun e w' => e = .returned (.tuple #[]) ∧ w' = w := AnyM.slices_Sort_int_none adSortL p cap w

theorem heap_put {w : World} {g off n : Nat} {os : Array Obj} {cur : Array Value} {e : TypeId} {fr : Nat × Nat} (d : Array Int) (hb : w.heap[g]? = some (.cells cur e fr)) :
    (Sort.grow (putRow (Value.int .i64) (Sort.ahead w n) g off d) os).heap[g]? = some (.cells (putCells (Value.int .i64) off d cur) e fr) := by
  have hg : g < w.heap.size := (Array.getElem?_eq_some_iff.1 hb).1
  rw [heap_grow_old _ _ (by simpa using hg)]
  simp [putRow, mapBlock, Sort.ahead, Array.getElem?_modify, hb, onCells]
theorem grown_put {w : World} {g off n : Nat} {os : Array Obj} (d : Array Int) : w.grownBy (Sort.grow (putRow (Value.int .i64) (Sort.ahead w n) g off d) os) (some g) := by
  refine ⟨rfl, rfl, rfl, by simp, fun k hk hne => ?_⟩
  rw [heap_grow_old _ _ (by simpa using hk)]
  have : g ≠ k := fun e => hne (by rw [e])
  simp [putRow, mapBlock, Sort.ahead, Array.getElem?_modify, this]
/-- The numbers in ascending order. -/
def sortI (l : List Int) : List Int := l.mergeSort fun x y => decide (x ≤ y)
theorem sortI_len (l : List Int) : (sortI l).length = l.length := List.length_mergeSort _
def SortP (v : Value) (l : List Int) (w : World) (e : Ending) (w' : World) : Prop := e = .returned (.tuple #[]) ∧ IsI w' v (sortI l) ∧ w.grownBy w' v.ownBlock
theorem sort_any {w : World} {v : Value} {l : List Int} (h : IsI w v l) (hl : l.length ≤ 1000000) : Calls Try.prog 47 #[v] w (SortP v l w) := by
  rcases h.2 with ⟨rfl, h0⟩ | ⟨g, off, cap, cur, rfl, hb, h1, h2, h3, h4⟩
  · obtain rfl : l = [] := List.eq_nil_of_length_eq_zero h0
    refine (adSort_int_none none 0 w).mono ?_
    rintro e w' ⟨rfl, rfl⟩
    exact ⟨rfl, by unfold sortI; simpa using h, grownBy_rfl _ _⟩
  · have hblk := lt_of_block hb
    have hH : Holds (Value.int .i64) w g off l.toArray := by
      intro j hj
      have hj' : j < l.length := by simpa using hj
      refine ⟨?_, OL.free h _⟩
      have := (OL.cell h j (by omega)).trans (ints_get l j hj')
      rw [this]
      simp [List.getD, hj']
    refine (adSort_int g off cap l w hH hblk (by omega)).mono ?_
    rintro e w' ⟨rfl, n, os, rfl⟩
    refine ⟨rfl, ?_, grown_put _⟩
    have hs : (l.mergeSort fun x y => decide (x ≤ y)).length = l.length := List.length_mergeSort _
    show OL _ _ 1 _ (sortI l).length (ints (sortI l))
    unfold sortI
    rw [hs]
    generalize (l.mergeSort fun x y => decide (x ≤ y)) = ts at hs
    refine ⟨by rw [ints_len, hs, Nat.mul_one], .inr ⟨g, off, cap, _, rfl, heap_put _ hb, h1, h2, by simp [putCells]; omega, ?_⟩⟩
    apply List.ext_getElem?
    intro j
    by_cases hj : j < l.length
    · rw [List.getElem?_take_of_lt (by omega), List.getElem?_drop, Array.getElem?_toList, ints_get _ _ (by omega)]
      have hlt : off + j < cur.size := by omega
      simp [putCells, List.getD, show j < ts.length by omega, hlt]
    · rw [List.getElem?_take_eq_none (by omega), List.getElem?_eq_none (by rw [ints_len]; omega)]
end Go.Proofs.Ytmdajndmobpgbaa

/- The shelf's contracts on the sorted keys of a map, laid in plain words. -/
import Derived.Shelf.SlIter.Nil
import Derived.Shelf.SortM.Plain
import Derived.Shelf.SortM.SortNone
import Derived.Ground.GgzProg
import Derived.Ground.SlgmProg
import Derived.Test.YtfnohilhlofimaaCoB
namespace Go.Proofs.Ytfnohilhlofimaa
open Go.RowKit Go.Maps Go.Sort Go.Shelf

def coKeys_ren : Go.Shelf.Ren := ⟨fun | 7 => 36 | 10 => 46 | n => n, fun | 23 => 74 | 26 => 9 | 3 => 38 | 28 => 83 | 0 => 0 | 27 => 82 | 33 => 99 | 4 => 4 | n => n, fun | n => n⟩
theorem coKeys : Go.Proofs.SlLaysZ.n7 Try.prog coKeys_ren := {
  mixed := by kernel_rfl
  f7 := ⟨Try.f36.name, by decide, Try.func36.trans (congrArg some (by kernel_rfl))⟩
  f10 := ⟨Try.f46.name, by decide, Try.func46.trans (congrArg some (by kernel_rfl))⟩
  t0 := Try.underlying0
  a0 := Try.isAgg0
  z0 := Try.sizeOf0
  v0 := Try.zeroValue0
  t4 := Try.underlying4
  a4 := Try.isAgg4
  z4 := Try.sizeOf4
  v4 := Try.zeroValue4
  t23 := Try.underlying74
  a23 := Try.isAgg74
  z23 := Try.sizeOf74
  v23 := Try.zeroValue74
  t26 := Try.underlying9
  a26 := Try.isAgg9
  z26 := Try.sizeOf9
  v26 := Try.zeroValue9
  t27 := Try.underlying82
  a27 := Try.isAgg82
  z27 := Try.sizeOf82
  v27 := Try.zeroValue82
  t28 := Try.underlying83
  a28 := Try.isAgg83
  z28 := Try.sizeOf83
  v28 := Try.zeroValue83
  t33 := Try.underlying99
  a33 := Try.isAgg99
  z33 := Try.sizeOf99
  v33 := Try.zeroValue99 }
def coSorted_ren : Go.Shelf.Ren := ⟨fun | 6 => 35 | 8 => 44 | 9 => 45 | 11 => 47 | 13 => 49 | 12 => 48 | 23 => 59 | 24 => 60 | 14 => 50 | 15 => 51 | 16 => 52 | 17 => 53 | 18 => 54 | 19 => 55 | 20 => 56 | 21 => 57 | 22 => 58 | 25 => 61 | 26 => 62 | 27 => 63 | 28 => 64 | 29 => 65 | 30 => 66 | 31 => 67 | n => n, fun | 26 => 9 | 28 => 83 | 24 => 47 | 0 => 0 | 3 => 3 | 37 => 103 | 48 => 113 | 50 => 115 | 4 => 4 | 40 => 106 | 39 => 105 | 45 => 41 | 5 => 5 | 9 => 9 | 51 => 116 | 55 => 120 | 57 => 122 | 58 => 123 | 33 => 99 | n => n, fun | n => n⟩
theorem coSorted : Go.Proofs.SlLaysZ.n6 Try.prog coSorted_ren := {
  mixed := by kernel_rfl
  f6 := ⟨Try.f35.name, by decide, Try.func35.trans (congrArg some (by kernel_rfl))⟩
  f8 := ⟨Try.f44.name, by decide, Try.func44.trans (congrArg some (by kernel_rfl))⟩
  f11 := ⟨Try.f47.name, by decide, Try.func47.trans (congrArg some (by kernel_rfl))⟩
  t0 := Try.underlying0
  a0 := Try.isAgg0
  z0 := Try.sizeOf0
  v0 := Try.zeroValue0
  t24 := Try.underlying47
  a24 := Try.isAgg47
  z24 := Try.sizeOf47
  v24 := Try.zeroValue47
  t26 := Try.underlying9
  a26 := Try.isAgg9
  z26 := Try.sizeOf9
  v26 := Try.zeroValue9
  t28 := Try.underlying83
  a28 := Try.isAgg83
  z28 := Try.sizeOf83
  v28 := Try.zeroValue83
  i26 := by kernel_rfl }
def coSort_ren : Go.Shelf.Ren := ⟨fun | 6 => 45 | 8 => 49 | 9 => 48 | 19 => 59 | 20 => 60 | 21 => 50 | 22 => 51 | 23 => 52 | 24 => 53 | 25 => 54 | 26 => 55 | 27 => 56 | 28 => 57 | 29 => 58 | 36 => 61 | 31 => 62 | 32 => 63 | 37 => 64 | 38 => 65 | 39 => 66 | 41 => 67 | n => n, fun | 27 => 47 | 29 => 9 | 3 => 3 | 32 => 103 | 26 => 47 | 0 => 0 | 44 => 113 | 46 => 115 | 4 => 4 | 36 => 106 | 35 => 105 | 41 => 41 | 5 => 5 | 9 => 9 | 53 => 116 | 57 => 120 | 63 => 122 | 64 => 123 | n => n, fun | n => n⟩
theorem coSort : Go.Proofs.SlLaysM.n6 Try.prog coSort_ren := {
  mixed := by kernel_rfl
  f6 := ⟨Try.f45.name, by decide, Try.func45.trans (congrArg some (by kernel_rfl))⟩
  f8 := Try.func49.trans (congrArg some (by kernel_rfl))
  f9 := ⟨Try.f48.name, by decide, Try.func48.trans (congrArg some (by kernel_rfl))⟩
  f19 := Try.func59.trans (congrArg some (by kernel_rfl))
  f20 := Try.func60.trans (congrArg some (by kernel_rfl))
  f21 := ⟨Try.f50.name, by decide, Try.func50.trans (congrArg some (by kernel_rfl))⟩
  f22 := ⟨Try.f51.name, by decide, Try.func51.trans (congrArg some (by kernel_rfl))⟩
  f23 := ⟨Try.f52.name, by decide, Try.func52.trans (congrArg some (by kernel_rfl))⟩
  f24 := ⟨Try.f53.name, by decide, Try.func53.trans (congrArg some (by kernel_rfl))⟩
  f25 := ⟨Try.f54.name, by decide, Try.func54.trans (congrArg some (by kernel_rfl))⟩
  f26 := ⟨Try.f55.name, by decide, Try.func55.trans (congrArg some (by kernel_rfl))⟩
  f27 := ⟨Try.f56.name, by decide, Try.func56.trans (congrArg some (by kernel_rfl))⟩
  f28 := ⟨Try.f57.name, by decide, Try.func57.trans (congrArg some (by kernel_rfl))⟩
  f29 := ⟨Try.f58.name, by decide, Try.func58.trans (congrArg some (by kernel_rfl))⟩
  f31 := Try.func62.trans (congrArg some (by kernel_rfl))
  f32 := Try.func63.trans (congrArg some (by kernel_rfl))
  f36 := ⟨Try.f61.name, by decide, Try.func61.trans (congrArg some (by kernel_rfl))⟩
  f37 := ⟨Try.f64.name, by decide, Try.func64.trans (congrArg some (by kernel_rfl))⟩
  f38 := ⟨Try.f65.name, by decide, Try.func65.trans (congrArg some (by kernel_rfl))⟩
  f39 := ⟨Try.f66.name, by decide, Try.func66.trans (congrArg some (by kernel_rfl))⟩
  f41 := ⟨Try.f67.name, by decide, Try.func67.trans (congrArg some (by kernel_rfl))⟩
  t0 := Try.underlying0
  a0 := Try.isAgg0
  z0 := Try.sizeOf0
  v0 := Try.zeroValue0
  t3 := Try.underlying3
  a3 := Try.isAgg3
  z3 := Try.sizeOf3
  v3 := Try.zeroValue3
  t4 := Try.underlying4
  a4 := Try.isAgg4
  z4 := Try.sizeOf4
  v4 := Try.zeroValue4
  t5 := Try.underlying5
  a5 := Try.isAgg5
  z5 := Try.sizeOf5
  v5 := Try.zeroValue5
  t9 := Try.underlying9
  a9 := Try.isAgg9
  z9 := Try.sizeOf9
  v9 := Try.zeroValue9
  t26 := Try.underlying47
  a26 := Try.isAgg47
  z26 := Try.sizeOf47
  v26 := Try.zeroValue47
  t27 := Try.underlying47
  a27 := Try.isAgg47
  z27 := Try.sizeOf47
  v27 := Try.zeroValue47
  t29 := Try.underlying9
  a29 := Try.isAgg9
  z29 := Try.sizeOf9
  v29 := Try.zeroValue9
  t32 := Try.underlying103
  a32 := Try.isAgg103
  z32 := Try.sizeOf103
  v32 := Try.zeroValue103
  t35 := Try.underlying105
  a35 := Try.isAgg105
  z35 := Try.sizeOf105
  v35 := Try.zeroValue105
  t36 := Try.underlying106
  a36 := Try.isAgg106
  z36 := Try.sizeOf106
  v36 := Try.zeroValue106
  t41 := Try.underlying41
  a41 := Try.isAgg41
  z41 := Try.sizeOf41
  v41 := Try.zeroValue41
  t44 := Try.underlying113
  a44 := Try.isAgg113
  z44 := Try.sizeOf113
  v44 := Try.zeroValue113
  t46 := Try.underlying115
  a46 := Try.isAgg115
  z46 := Try.sizeOf115
  v46 := Try.zeroValue115
  t53 := Try.underlying116
  a53 := Try.isAgg116
  z53 := Try.sizeOf116
  v53 := Try.zeroValue116
  t57 := Try.underlying120
  a57 := Try.isAgg120
  z57 := Try.sizeOf120
  v57 := Try.zeroValue120
  t63 := Try.underlying122
  a63 := Try.isAgg122
  z63 := Try.sizeOf122
  v63 := Try.zeroValue122
  t64 := Try.underlying123
  a64 := Try.isAgg123
  z64 := Try.sizeOf123
  v64 := Try.zeroValue123 }
theorem coSorts (m : Nat) : AnyZ.SortsIn Try.prog coSorted_ren Fence.wide m :=
  ⟨fun blk off cap ss W hH hblk hsz => callsIn_wide.2 (AnyM.slices_Sort_string coSort blk off cap ss W hH hblk hsz),
   fun p cap W => callsIn_wide.2 (AnyM.slices_Sort_string_none coSort p cap W)⟩

theorem coMapsKeys (mb : Option Nat) (W : World) : CallsIn Fence.wide 5 Try.prog 36 #[.map mb] W fun e w' => e = .returned (.func (.func 46) #[] #[.pointer (some ⟨W.heap.size, 0, none⟩)]) ∧ w' = W.alloc (.cells #[.map mb] 74) :=
  AnyZ.keys_in coKeys Fence.wide 5 trivial rfl mb W

set_option maxHeartbeats 1000000 in
theorem coSortedKeys {H : Type} (b nn : Nat) (D0 : DataW H) (R : Value → Option (DataW H × List MemPlace)) (w : World) (hown : w.ownsMap Try.prog 9 R b nn D0) (hmax : Maps.size D0 ≤ maxLen) (hbytes : Maps.size D0 * 16 ≤ 140737488355328) :
    CallsIn Fence.wide 5 Try.prog 35 #[.func (.func 46) #[] #[.pointer (some ⟨w.heap.size, 0, none⟩)]] (w.alloc (.cells #[.map (some b)] 74)) fun e w' => ∃ (v : Value) (ss : List (List UInt8)), e = .returned v ∧ ss.Perm (strKeys D0) ∧
      w'.ownsRow (w.alloc (.cells #[.map (some b)] 74)).heap.size 9 1 v ss.length ((ss.mergeSort (fun x y => decide (x ≤ y))).map encStr) ∧ (v = .slice none 0 0 ↔ ss = []) ∧ Below (w.alloc (.cells #[.map (some b)] 74)).heap.size (w.alloc (.cells #[.map (some b)] 74)) w' := by
  have hbl := hown.lt
  have hseq : SeqGives Fence.wide 2 Try.prog 46 #[.pointer (some ⟨w.heap.size, 0, none⟩)] encStr (fun ss => ss.Perm (strKeys D0)) (Maps.size D0) (w.alloc (.cells #[.map (some b)] 74)) :=
    AnyZ.keys_gives (ρ := coKeys_ren) { coKeys with } Fence.wide _ trivial rfl (by omega) w.heap.size b nn D0 _ (by simp) (by simp) (by
      obtain ⟨es, clock, hb, Ft, hs, hD⟩ := hown
      exact ⟨es, clock, (Below.heap_alloc _ _ b hbl).trans hb, Ft, hs, hD⟩)
  exact AnyZ.sorted_in coSorted Fence.wide 5 trivial trivial trivial trivial rfl (by omega) (coSorts _) (enters_of Try.func45 (by kernel_rfl) rfl) 46 #[.pointer (some ⟨w.heap.size, 0, none⟩)] trivial (enters_of Try.func46 (by kernel_rfl) rfl) _ _ hmax hbytes _ hseq

end Go.Proofs.Ytfnohilhlofimaa

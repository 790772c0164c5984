/- admission: slices.Sort of integers: the shelf's contract laid in plain words, and what it makes of a slice of the call's own. Conditions: none. Plain: an ascending list of ids: where an id has its place, one id less, one id more. No program here. The admission of package admission in memory, and how writes change it. Conditions: each lemma names its own. Plain model of an admission: its invariant, and what its calls do. Conditions: each its own. -/
import Derived.Ground.SlgmProg
import Derived.Shelf.SortM.Plain
import Derived.Shelf.SortM.SortNone
import Derived.Test.YtmdajndmobpgbaaZAdA
import Derived.Test.YtmdajndmobpgbaaZApE
namespace Go.Proofs.Ytmdajndmobpgbaa
open Go.RowKit Go.Shelf Go.Sort
open Go.Proofs.Ytmdajndmobpgbaa.Fq

def adSortL_ren : Go.Shelf.Ren := ⟨fun | 5 => 47 | 8 => 69 | 7 => 68 | 19 => 86 | 20 => 87 | 10 => 77 | 11 => 78 | 12 => 79 | 13 => 80 | 14 => 81 | 15 => 82 | 16 => 83 | 17 => 84 | 18 => 85 | 30 => 89 | 31 => 90 | 32 => 91 | 33 => 92 | 34 => 93 | 35 => 94 | 40 => 95 | n => n, fun | 23 => 37 | 25 => 3 | 3 => 3 | 32 => 151 | 22 => 37 | 0 => 0 | 44 => 165 | 46 => 167 | 4 => 4 | 36 => 159 | 35 => 158 | 41 => 79 | 5 => 5 | 9 => 9 | 53 => 169 | 57 => 173 | 63 => 175 | 64 => 69 | n => n, fun | n => n⟩
theorem adSortL : Go.Proofs.SlLaysM.n5 Try.prog adSortL_ren := {
  mixed := by kernel_rfl
  f5 := ⟨Try.f47.name, by decide, Try.func47.trans (congrArg some (by kernel_rfl))⟩
  f7 := ⟨Try.f68.name, by decide, Try.func68.trans (congrArg some (by kernel_rfl))⟩
  f8 := Try.func69.trans (congrArg some (by kernel_rfl))
  f10 := ⟨Try.f77.name, by decide, Try.func77.trans (congrArg some (by kernel_rfl))⟩
  f11 := ⟨Try.f78.name, by decide, Try.func78.trans (congrArg some (by kernel_rfl))⟩
  f12 := ⟨Try.f79.name, by decide, Try.func79.trans (congrArg some (by kernel_rfl))⟩
  f13 := ⟨Try.f80.name, by decide, Try.func80.trans (congrArg some (by kernel_rfl))⟩
  f14 := ⟨Try.f81.name, by decide, Try.func81.trans (congrArg some (by kernel_rfl))⟩
  f15 := ⟨Try.f82.name, by decide, Try.func82.trans (congrArg some (by kernel_rfl))⟩
  f16 := ⟨Try.f83.name, by decide, Try.func83.trans (congrArg some (by kernel_rfl))⟩
  f17 := ⟨Try.f84.name, by decide, Try.func84.trans (congrArg some (by kernel_rfl))⟩
  f18 := ⟨Try.f85.name, by decide, Try.func85.trans (congrArg some (by kernel_rfl))⟩
  f19 := Try.func86.trans (congrArg some (by kernel_rfl))
  f20 := Try.func87.trans (congrArg some (by kernel_rfl))
  f30 := ⟨Try.f89.name, by decide, Try.func89.trans (congrArg some (by kernel_rfl))⟩
  f31 := Try.func90.trans (congrArg some (by kernel_rfl))
  f32 := Try.func91.trans (congrArg some (by kernel_rfl))
  f33 := ⟨Try.f92.name, by decide, Try.func92.trans (congrArg some (by kernel_rfl))⟩
  f34 := ⟨Try.f93.name, by decide, Try.func93.trans (congrArg some (by kernel_rfl))⟩
  f35 := ⟨Try.f94.name, by decide, Try.func94.trans (congrArg some (by kernel_rfl))⟩
  f40 := ⟨Try.f95.name, by decide, Try.func95.trans (congrArg some (by kernel_rfl))⟩
  t0 := Try.underlying0
  a0 := Try.isAgg0
  z0 := Try.sizeOf0
  v0 := Try.zeroValue0
  t3 := Try.underlying3
  a3 := Try.isAgg3
  z3 := Try.sizeOf3
  v3 := Try.zeroValue3
  t4 := Try.underlying4
  a4 := Try.isAgg4
  z4 := Try.sizeOf4
  v4 := Try.zeroValue4
  t5 := Try.underlying5
  a5 := Try.isAgg5
  z5 := Try.sizeOf5
  v5 := Try.zeroValue5
  t9 := Try.underlying9
  a9 := Try.isAgg9
  z9 := Try.sizeOf9
  v9 := Try.zeroValue9
  t22 := Try.underlying37
  a22 := Try.isAgg37
  z22 := Try.sizeOf37
  v22 := Try.zeroValue37
  t23 := Try.underlying37
  a23 := Try.isAgg37
  z23 := Try.sizeOf37
  v23 := Try.zeroValue37
  t25 := Try.underlying3
  a25 := Try.isAgg3
  z25 := Try.sizeOf3
  v25 := Try.zeroValue3
  t32 := Try.underlying151
  a32 := Try.isAgg151
  z32 := Try.sizeOf151
  v32 := Try.zeroValue151
  t35 := Try.underlying158
  a35 := Try.isAgg158
  z35 := Try.sizeOf158
  v35 := Try.zeroValue158
  t36 := Try.underlying159
  a36 := Try.isAgg159
  z36 := Try.sizeOf159
  v36 := Try.zeroValue159
  t41 := Try.underlying79
  a41 := Try.isAgg79
  z41 := Try.sizeOf79
  v41 := Try.zeroValue79
  t44 := Try.underlying165
  a44 := Try.isAgg165
  z44 := Try.sizeOf165
  v44 := Try.zeroValue165
  t46 := Try.underlying167
  a46 := Try.isAgg167
  z46 := Try.sizeOf167
  v46 := Try.zeroValue167
  t53 := Try.underlying169
  a53 := Try.isAgg169
  z53 := Try.sizeOf169
  v53 := Try.zeroValue169
  t57 := Try.underlying173
  a57 := Try.isAgg173
  z57 := Try.sizeOf173
  v57 := Try.zeroValue173
  t63 := Try.underlying175
  a63 := Try.isAgg175
  z63 := Try.sizeOf175
  v63 := Try.zeroValue175
  t64 := Try.underlying69
  a64 := Try.isAgg69
  z64 := Try.sizeOf69
  v64 := Try.zeroValue69 }
open Go.Sort Go.RowKit in
theorem adSort_int (blk off cap : Nat) (zs : List Int) (w : World) (hH : Holds (Value.int .i64) w blk off zs.toArray) (hblk : blk < w.heap.size) (hsz : zs.length < 4611686018427387904) :
    Calls Try.prog 47 #[.slice (some ⟨blk, off, none⟩) zs.length cap] w fun e w' =>
      e = .returned (.tuple #[]) ∧ ∃ n os, w' = grow (putRow (Value.int .i64) (Sort.ahead w n) blk off (zs.mergeSort fun x y => decide (x ≤ y)).toArray) os := AnyM.slices_Sort_int adSortL blk off cap zs w hH hblk hsz
open Go.RowKit Go.Sort in
theorem adSort_int_none (p : Option Addr) (cap : Nat) (w : World) :
    Calls Try.prog 47 #[.slice p 0 cap] w fun e w' => e = .returned (.tuple #[]) ∧ w' = w := AnyM.slices_Sort_int_none adSortL p cap w

theorem heap_put {w : World} {g off n : Nat} {os : Array Obj} {cur : Array Value} {e : TypeId} {fr : Nat × Nat} (d : Array Int) (hb : w.heap[g]? = some (.cells cur e fr)) :
    (Sort.grow (putRow (Value.int .i64) (Sort.ahead w n) g off d) os).heap[g]? = some (.cells (putCells (Value.int .i64) off d cur) e fr) := by
  have hg : g < w.heap.size := (Array.getElem?_eq_some_iff.1 hb).1
  rw [heap_grow_old _ _ (by simpa using hg)]
  simp [putRow, mapBlock, Sort.ahead, Array.getElem?_modify, hb, onCells]
theorem grown_put {w : World} {g off n : Nat} {os : Array Obj} (d : Array Int) : w.grownBy (Sort.grow (putRow (Value.int .i64) (Sort.ahead w n) g off d) os) (some g) := by
  refine ⟨rfl, rfl, rfl, by simp, fun k hk hne => ?_⟩
  rw [heap_grow_old _ _ (by simpa using hk)]
  have : g ≠ k := fun e => hne (by rw [e])
  simp [putRow, mapBlock, Sort.ahead, Array.getElem?_modify, this]
/-- The numbers in ascending order. -/
def sortI (l : List Int) : List Int := l.mergeSort fun x y => decide (x ≤ y)
theorem sortI_len (l : List Int) : (sortI l).length = l.length := List.length_mergeSort _
def SortP (v : Value) (l : List Int) (w : World) (e : Ending) (w' : World) : Prop := e = .returned (.tuple #[]) ∧ IsI w' v (sortI l) ∧ w.grownBy w' v.ownBlock
theorem sort_any {w : World} {v : Value} {l : List Int} (h : IsI w v l) (hl : l.length ≤ 1000000) : Calls Try.prog 47 #[v] w (SortP v l w) := by
  rcases h.2 with ⟨rfl, h0⟩ | ⟨g, off, cap, cur, rfl, hb, h1, h2, h3, h4⟩
  · obtain rfl : l = [] := List.eq_nil_of_length_eq_zero h0
    refine (adSort_int_none none 0 w).mono ?_
    rintro e w' ⟨rfl, rfl⟩
    exact ⟨rfl, by unfold sortI; simpa using h, grownBy_rfl _ _⟩
  · have hblk := lt_of_block hb
    have hH : Holds (Value.int .i64) w g off l.toArray := by
      intro j hj
      have hj' : j < l.length := by simpa using hj
      refine ⟨?_, OL.free h _⟩
      have := (OL.cell h j (by omega)).trans (ints_get l j hj')
      rw [this]
      simp [List.getD, hj']
    refine (adSort_int g off cap l w hH hblk (by omega)).mono ?_
    rintro e w' ⟨rfl, n, os, rfl⟩
    refine ⟨rfl, ?_, grown_put _⟩
    have hs : (l.mergeSort fun x y => decide (x ≤ y)).length = l.length := List.length_mergeSort _
    show OL _ _ 1 _ (sortI l).length (ints (sortI l))
    unfold sortI
    rw [hs]
    generalize (l.mergeSort fun x y => decide (x ≤ y)) = ts at hs
    refine ⟨by rw [ints_len, hs, Nat.mul_one], .inr ⟨g, off, cap, _, rfl, heap_put _ hb, h1, h2, by simp [putCells]; omega, ?_⟩⟩
    apply List.ext_getElem?
    intro j
    by_cases hj : j < l.length
    · rw [List.getElem?_take_of_lt (by omega), List.getElem?_drop, Array.getElem?_toList, ints_get _ _ (by omega)]
      have hlt : off + j < cur.size := by omega
      simp [putCells, List.getD, show j < ts.length by omega, hlt]
    · rw [List.getElem?_take_eq_none (by omega), List.getElem?_eq_none (by rw [ints_len]; omega)]
end Go.Proofs.Ytmdajndmobpgbaa

namespace Go.Proofs.Ytmdajndmobpgbaa

theorem asc_unique : ∀ {l r : List Int}, List.Pairwise (· < ·) l → List.Pairwise (· < ·) r → (∀ x, x ∈ l ↔ x ∈ r) → l = r
  | [], [], _, _, _ => rfl
  | [], y :: r, _, _, h => by have := (h y).2 (by simp); simp at this
  | x :: l, [], _, _, h => by have := (h x).1 (by simp); simp at this
  | x :: l, y :: r, h1, h2, h => by
    obtain ⟨a1, a2⟩ := List.pairwise_cons.1 h1
    obtain ⟨b1, b2⟩ := List.pairwise_cons.1 h2
    have e : x = y := by
      have hx := (h x).1 (by simp)
      have hy := (h y).2 (by simp)
      rcases List.mem_cons.1 hx with hx | hx
      · exact hx
      · rcases List.mem_cons.1 hy with hy | hy
        · exact hy.symm
        · have := a1 _ hy; have := b1 _ hx; omega
    subst e
    congr 1
    refine asc_unique a2 b2 fun z => ?_
    constructor
    · intro hz
      have := a1 _ hz
      rcases List.mem_cons.1 ((h z).1 (List.mem_cons_of_mem _ hz)) with e | e
      · omega
      · exact e
    · intro hz
      have := b1 _ hz
      rcases List.mem_cons.1 ((h z).2 (List.mem_cons_of_mem _ hz)) with e | e
      · omega
      · exact e
theorem sortI_mem {l : List Int} {x : Int} : x ∈ sortI l ↔ x ∈ l := (List.mergeSort_perm l _).mem_iff
theorem sortI_asc {l : List Int} (h : l.Nodup) : List.Pairwise (· < ·) (sortI l) := by
  have h1 : List.Pairwise (fun x y => decide (x ≤ y) = true) (sortI l) := List.pairwise_mergeSort (by intro a b c; simp; omega) (by intro a b; simp; omega) l
  have h2 : (sortI l).Nodup := (List.mergeSort_perm l _).nodup_iff.2 h
  refine (h1.and h2).imp fun {a b} hab => ?_
  have h3 := of_decide_eq_true hab.1
  have h4 := hab.2
  omega
theorem plN_cons (x : Int) (l : List Int) (id : Int) : plN (x :: l) id = if x < id then plN l id + 1 else 0 := by
  unfold plN
  by_cases h : x < id
  · rw [if_pos h]; simp [List.takeWhile_cons, h]
  · rw [if_neg h]; simp [List.takeWhile_cons, h]
def insA (l : List Int) (id : Int) : List Int := l.take (plN l id) ++ id :: l.drop (plN l id)
def delA (l : List Int) (id : Int) : List Int := l.take (plN l id) ++ l.drop (plN l id + 1)
theorem insA_cons (x : Int) (l : List Int) (id : Int) : insA (x :: l) id = if x < id then x :: insA l id else id :: x :: l := by
  unfold insA
  rw [plN_cons]
  by_cases h : x < id
  · rw [if_pos h, if_pos h]; simp
  · rw [if_neg h, if_neg h]; simp
theorem delA_cons (x : Int) (l : List Int) (id : Int) : delA (x :: l) id = if x < id then x :: delA l id else l := by
  unfold delA
  rw [plN_cons]
  by_cases h : x < id
  · rw [if_pos h, if_pos h]; simp
  · rw [if_neg h, if_neg h]; simp
theorem insA_mem (id y : Int) : ∀ l : List Int, y ∈ insA l id ↔ y = id ∨ y ∈ l
  | [] => by simp [insA]
  | x :: l => by
    rw [insA_cons]
    split
    · rw [List.mem_cons, insA_mem id y l, List.mem_cons]
      constructor
      · rintro (h | h | h)
        · exact .inr (.inl h)
        · exact .inl h
        · exact .inr (.inr h)
      · rintro (h | h | h)
        · exact .inr (.inl h)
        · exact .inl h
        · exact .inr (.inr h)
    · simp
theorem insA_asc (id : Int) : ∀ {l : List Int}, List.Pairwise (· < ·) l → id ∉ l → List.Pairwise (· < ·) (insA l id)
  | [], _, _ => by simp [insA]
  | x :: l, h, hn => by
    obtain ⟨a1, a2⟩ := List.pairwise_cons.1 h
    rw [insA_cons]
    split
    · rename_i hx
      refine List.pairwise_cons.2 ⟨fun y hy => ?_, insA_asc id a2 fun hm => hn (List.mem_cons_of_mem _ hm)⟩
      rcases (insA_mem id y l).1 hy with rfl | hy
      · exact hx
      · exact a1 _ hy
    · rename_i hx
      have hne : x ≠ id := fun e => hn (by simp [e])
      refine List.pairwise_cons.2 ⟨fun y hy => ?_, h⟩
      rcases List.mem_cons.1 hy with rfl | hy
      · omega
      · have := a1 _ hy; omega
theorem delA_mem (id y : Int) : ∀ {l : List Int}, List.Pairwise (· < ·) l → id ∈ l → (y ∈ delA l id ↔ y ∈ l ∧ y ≠ id)
  | [], _, h => by simp at h
  | x :: l, h, hm => by
    obtain ⟨a1, a2⟩ := List.pairwise_cons.1 h
    rw [delA_cons]
    split
    · rename_i hx
      have hm2 : id ∈ l := (List.mem_cons.1 hm).resolve_left (by omega)
      rw [List.mem_cons, delA_mem id y a2 hm2, List.mem_cons]
      constructor
      · rintro (h | h)
        · exact ⟨.inl h, by omega⟩
        · exact ⟨.inr h.1, h.2⟩
      · rintro ⟨h | h, hn⟩
        · exact .inl h
        · exact .inr ⟨h, hn⟩
    · rename_i hx
      have e : id = x := by
        rcases List.mem_cons.1 hm with e | hm
        · exact e
        · have := a1 _ hm; omega
      subst e
      constructor
      · intro hy
        have := a1 _ hy
        exact ⟨List.mem_cons_of_mem _ hy, by omega⟩
      · rintro ⟨hy, hn⟩
        exact (List.mem_cons.1 hy).resolve_left hn
theorem delA_asc (id : Int) : ∀ {l : List Int}, List.Pairwise (· < ·) l → List.Pairwise (· < ·) (delA l id)
  | l, h => by
    have hs : (delA l id).Sublist l := by
      unfold delA
      have := (List.drop_sublist 1 (l.drop (plN l id)))
      rw [List.drop_drop] at this
      have h2 := (List.Sublist.refl (l.take (plN l id))).append this
      rw [List.take_append_drop] at h2
      exact h2
    exact h.sublist hs
theorem plB_iff (id : Int) : ∀ {l : List Int}, List.Pairwise (· < ·) l → (plB l id = true ↔ id ∈ l)
  | [], _ => by simp [plB]
  | x :: l, h => by
    obtain ⟨a1, a2⟩ := List.pairwise_cons.1 h
    have ih := plB_iff id a2
    unfold plB at *
    rw [plN_cons]
    by_cases hx : x < id
    · rw [if_pos hx, List.getElem?_cons_succ, ih, List.mem_cons]
      constructor
      · exact .inr
      · rintro (h | h)
        · omega
        · exact h
    · rw [if_neg hx]
      simp only [List.getElem?_cons_zero, Option.some.injEq, decide_eq_true_eq, List.mem_cons]
      constructor
      · intro e; exact .inl e.symm
      · rintro (h | h)
        · exact h.symm
        · have := a1 _ h; omega
/-- What runs: one more, one less. -/
theorem sortI_ins {l : List Int} {id : Int} (h : l.Nodup) (hn : id ∉ l) : insA (sortI l) id = sortI (l ++ [id]) := by
  have hn2 : id ∉ sortI l := fun hm => hn (sortI_mem.1 hm)
  refine asc_unique (insA_asc id (sortI_asc h) hn2) (sortI_asc (List.nodup_append.2 ⟨h, by simp, fun x hx y hy => by rw [List.mem_singleton] at hy; subst hy; exact fun e => hn (e ▸ hx)⟩)) fun x => ?_
  rw [insA_mem, sortI_mem, sortI_mem, List.mem_append, List.mem_singleton]
  exact Or.comm
theorem sortI_del {l : List Int} {id : Int} (h : l.Nodup) (hm : id ∈ l) : delA (sortI l) id = sortI (l.erase id) := by
  refine asc_unique (delA_asc id (sortI_asc h)) (sortI_asc (h.erase id)) fun x => ?_
  rw [delA_mem id x (sortI_asc h) (sortI_mem.2 hm), sortI_mem, sortI_mem, h.mem_erase_iff]
  exact And.comm
end Go.Proofs.Ytmdajndmobpgbaa

namespace Go.Proofs.Ytmdajndmobpgbaa
open Go.RowKit
open Go.Proofs.Ytmdajndmobpgbaa.Fq
open Go.Proofs.Ytmdajndmobpgbaa.Bk

def ptrV (b : Nat) : Value := .pointer (some ⟨b, 0, none⟩)
/-- Where an admission lies. -/
structure AM where
  vs : Value
  vb : Value
  bkb : List Nat
  bf : Nat
  bl : Nat
  vals : List Value
  vr : Value
  fbq : Nat
  fcq : Nat
  fbd : Nat
  fcd : Nat
  fxt : List Value
  fbl : Nat
  fvals : List Value
/-- The state of an admission. -/
structure AS where
  sh : List Shr
  bk : List (Int × Int)
  slots : Int
  f : FQ
  ql : List (List Ent)
  run : List Int
def AS.m (s : AS) : Nat := s.sh.length
def AS.shr (s : AS) (t : Nat) : Shr := s.sh.getD t ⟨0, 0, 0, 0⟩
def AS.bkt (s : AS) (t : Nat) : Int × Int := s.bk.getD t (0, 0)
def AS.q (s : AS) (t : Nat) : List Ent := s.ql.getD t []
def AM.Fp (m : AM) (k : Nat) : Prop := Go.Proofs.Ytmdajndmobpgbaa.Fp m.bf m.fbq m.fbd m.fbl m.fvals k
structure AdAt (w : World) (b : Nat) (m : AM) (s : AS) : Prop where
  hb : w.heap[b]? = some (.cells #[m.vs, m.vb, .int .i64 s.slots, ptrV m.bf, .slice (some ⟨m.bl, 0, none⟩) s.m s.m, m.vr] 89 (0, 0))
  hs : IsS w m.vs s.sh
  hp : OL w 90 1 m.vb s.m (m.bkb.map ptrV)
  hk : ∀ t, t < s.m → IsBk w (m.bkb.getD t 0) (s.shr t).b (s.shr t).t (s.shr t).k (s.bkt t).1 (s.bkt t).2
  hl : w.heap[m.bl]? = some (.cells m.vals.toArray 98 (0, 0))
  hq : ∀ t, t < s.m → IsQ w (qv m.vals t) (s.q t)
  hr : IsI w m.vr s.run
  hf : FqAt w m.bf m.fbq m.fcq m.fbd m.fcd m.fxt m.fbl m.fvals s.f
  lq : s.ql.length = s.m
  lk : s.bk.length = s.m
  lb : m.bkb.length = s.m
  lv : m.vals.length = s.m
  lf : s.f.m = s.m
  ap : ∀ t t' g, t ≠ t' → (qv m.vals t).ownBlock = some g → (qv m.vals t').ownBlock ≠ some g
  kd : m.bkb.Nodup
  rf : ∀ g, m.vr.ownBlock = some g → ¬ m.Fp g
/-- The blocks that an admission takes up. -/
def Fa (b : Nat) (m : AM) (k : Nat) : Prop := k = b ∨ m.vs.ownBlock = some k ∨ m.vb.ownBlock = some k ∨ k ∈ m.bkb ∨ k = m.bl ∨ (∃ t, (qv m.vals t).ownBlock = some k) ∨ m.vr.ownBlock = some k ∨ m.Fp k
theorem FqAt.fp_type {w : World} {b bq cq bd cd bl : Nat} {xt vals : List Value} {s : FQ} (h : FqAt w b bq cq bd cd xt bl vals s) {k : Nat} (hk : Fp b bq bd bl vals k) :
    ∃ cs t, w.heap[k]? = some (.cells cs t (0, 0)) ∧ (t = 140 ∨ t = 3 ∨ t = 145 ∨ t = 147) := by
  rcases hk with rfl | rfl | rfl | rfl | ⟨t, ht⟩
  · exact ⟨_, _, h.hb, .inl rfl⟩
  · obtain ⟨cur, hc⟩ := h.hq.elem k rfl
    exact ⟨_, _, hc, .inr (.inl rfl)⟩
  · exact ⟨_, _, h.hd, .inr (.inl rfl)⟩
  · exact ⟨_, _, h.hl, .inr (.inr (.inl rfl))⟩
  · obtain ⟨cur, hc⟩ := (h.hls t (by rw [← h.lv]; exact qv_lt ht)).elem k ht
    exact ⟨_, _, hc, .inr (.inr (.inr rfl))⟩
section
variable {w w' w1 : World} {b : Nat} {m : AM} {s : AS}
theorem AdAt.bk_in (h : AdAt w b m s) {t : Nat} (ht : t < s.m) : m.bkb.getD t 0 ∈ m.bkb := by
  rw [List.getD_eq_getElem?_getD, List.getElem?_eq_getElem (by rw [h.lb]; exact ht)]
  exact List.getElem_mem _
theorem AdAt.bk_of (h : AdAt w b m s) {k : Nat} (hk : k ∈ m.bkb) : ∃ t, t < s.m ∧ m.bkb.getD t 0 = k := by
  obtain ⟨t, ht, rfl⟩ := List.getElem_of_mem hk
  refine ⟨t, by rw [← h.lb]; exact ht, ?_⟩
  rw [List.getD_eq_getElem?_getD, List.getElem?_eq_getElem ht]
  rfl
theorem AdAt.bk_ne (h : AdAt w b m s) {t t' : Nat} (ht : t < s.m) (ht' : t' < s.m) (hne : t ≠ t') : m.bkb.getD t 0 ≠ m.bkb.getD t' 0 := by
  rw [List.getD_eq_getElem?_getD, List.getElem?_eq_getElem (by rw [h.lb]; exact ht), List.getD_eq_getElem?_getD, List.getElem?_eq_getElem (by rw [h.lb]; exact ht')]
  intro e
  have := List.pairwise_iff_getElem.1 h.kd
  rcases Nat.lt_or_ge t t' with hlt | hlt
  · exact this t t' (by rw [h.lb]; exact ht) (by rw [h.lb]; exact ht') hlt e
  · exact this t' t (by rw [h.lb]; exact ht') (by rw [h.lb]; exact ht) (by omega) e.symm
/-- The type of each block. -/
theorem AdAt.typ (h : AdAt w b m s) : (∀ k, m.vs.ownBlock = some k → ∃ cs, w.heap[k]? = some (.cells cs 29 (0, 0))) ∧
    (∀ k, m.vb.ownBlock = some k → ∃ cs, w.heap[k]? = some (.cells cs 90 (0, 0))) ∧
    (∀ k, k ∈ m.bkb → ∃ cs, w.heap[k]? = some (.cells cs 137 (0, 0))) ∧
    (∀ t k, (qv m.vals t).ownBlock = some k → ∃ cs, w.heap[k]? = some (.cells cs 100 (0, 0))) ∧
    (∀ k, m.vr.ownBlock = some k → ∃ cs, w.heap[k]? = some (.cells cs 3 (0, 0))) :=
  ⟨OL.elem h.hs, OL.elem h.hp, fun k hk => by
    obtain ⟨t, ht, rfl⟩ := h.bk_of hk
    exact ⟨_, h.hk t ht⟩, fun t k hk => OL.elem (h.hq t (by rw [← h.lv]; exact qv_lt hk)) k hk, OL.elem h.hr⟩
theorem AdAt.fa_lt (h : AdAt w b m s) : ∀ k, Fa b m k → k < w.heap.size := by
  obtain ⟨t1, t2, t3, t4, t5⟩ := h.typ
  rintro k (rfl | hk | hk | hk | rfl | ⟨t, hk⟩ | hk | hk)
  · exact lt_of_block h.hb
  · obtain ⟨cs, hc⟩ := t1 k hk; exact lt_of_block hc
  · obtain ⟨cs, hc⟩ := t2 k hk; exact lt_of_block hc
  · obtain ⟨cs, hc⟩ := t3 k hk; exact lt_of_block hc
  · exact lt_of_block h.hl
  · obtain ⟨cs, hc⟩ := t4 t k hk; exact lt_of_block hc
  · obtain ⟨cs, hc⟩ := t5 k hk; exact lt_of_block hc
  · exact h.hf.fp_lt k hk
/-- Where none of its blocks has changed it lies as before. -/
theorem AdAt.same (h : AdAt w b m s) (hh : ∀ k, Fa b m k → w'.heap[k]? = w.heap[k]?) : AdAt w' b m s :=
  { h with
    hb := (hh b (.inl rfl)).trans h.hb
    hs := OL.heap h.hs fun g hg => hh g (.inr (.inl hg))
    hp := OL.heap h.hp fun g hg => hh g (.inr (.inr (.inl hg)))
    hk := fun t ht => (hh _ (.inr (.inr (.inr (.inl (h.bk_in ht)))))).trans (h.hk t ht)
    hl := (hh _ (.inr (.inr (.inr (.inr (.inl rfl)))))).trans h.hl
    hq := fun t ht => OL.heap (h.hq t ht) fun g hg => hh g (.inr (.inr (.inr (.inr (.inr (.inl ⟨t, hg⟩))))))
    hr := OL.heap h.hr fun g hg => hh g (.inr (.inr (.inr (.inr (.inr (.inr (.inl hg)))))))
    hf := h.hf.same fun k hk => hh k (.inr (.inr (.inr (.inr (.inr (.inr (.inr hk))))))) }
theorem AdAt.belowS (h : AdAt w b m s) (hb : Below w.heap.size w w') : AdAt w' b m s := h.same fun k hk => hb.block k (h.fa_lt k hk)
/-- The blocks of the fair queue are no others. -/
theorem AdAt.nfp (h : AdAt w b m s) : ¬ m.Fp b ∧ (∀ k, m.vs.ownBlock = some k → ¬ m.Fp k) ∧ (∀ k, m.vb.ownBlock = some k → ¬ m.Fp k) ∧ (∀ k, k ∈ m.bkb → ¬ m.Fp k) ∧ ¬ m.Fp m.bl ∧ (∀ t k, (qv m.vals t).ownBlock = some k → ¬ m.Fp k) := by
  obtain ⟨t1, t2, t3, t4, _⟩ := h.typ
  have key : ∀ {k : Nat} {cs : Array Value} {t : TypeId}, w.heap[k]? = some (.cells cs t (0, 0)) → t ≠ 140 → t ≠ 3 → t ≠ 145 → t ≠ 147 → ¬ m.Fp k := by
    intro k cs t hk n1 n2 n3 n4 hf
    obtain ⟨cs', t', hk', ht⟩ := h.hf.fp_type hf
    rcases ht with e | e | e | e
    · exact type_ne hk hk' (by rw [e]; exact n1) rfl
    · exact type_ne hk hk' (by rw [e]; exact n2) rfl
    · exact type_ne hk hk' (by rw [e]; exact n3) rfl
    · exact type_ne hk hk' (by rw [e]; exact n4) rfl
  refine ⟨key h.hb (by decide) (by decide) (by decide) (by decide), fun k hk => ?_, fun k hk => ?_, fun k hk => ?_, key h.hl (by decide) (by decide) (by decide) (by decide), fun t k hk => ?_⟩
  · obtain ⟨cs, hc⟩ := t1 k hk; exact key hc (by decide) (by decide) (by decide) (by decide)
  · obtain ⟨cs, hc⟩ := t2 k hk; exact key hc (by decide) (by decide) (by decide) (by decide)
  · obtain ⟨cs, hc⟩ := t3 k hk; exact key hc (by decide) (by decide) (by decide) (by decide)
  · obtain ⟨cs, hc⟩ := t4 t k hk; exact key hc (by decide) (by decide) (by decide) (by decide)
def AM.setF (m : AM) (v : List Value) : AM := { m with fvals := v }
def AS.setF (s : AS) (f : FQ) : AS := { s with f := f }
/-- A call on the fair queue. -/
theorem AdAt.fair (h : AdAt w b m s) {fv : List Value} {f' : FQ} (hA : FqAt w' m.bf m.fbq m.fcq m.fbd m.fcd m.fxt m.fbl fv f') (hm : f'.m = s.f.m) (ho : Only m.Fp w w') (hfp : ∀ k, (m.setF fv).Fp k → m.Fp k ∨ w.heap.size ≤ k) : AdAt w' b (m.setF fv) (s.setF f') := by
  obtain ⟨n1, n2, n3, n4, n5, n6⟩ := h.nfp
  have hlt := h.fa_lt
  have hh : ∀ k, Fa b m k → ¬ m.Fp k → w'.heap[k]? = w.heap[k]? := fun k hk hn => ho.block k (hlt k hk) hn
  exact { h with
    hb := (hh b (.inl rfl) n1).trans h.hb
    hs := OL.heap h.hs fun g hg => hh g (.inr (.inl hg)) (n2 g hg)
    hp := OL.heap h.hp fun g hg => hh g (.inr (.inr (.inl hg))) (n3 g hg)
    hk := fun t ht => (hh _ (.inr (.inr (.inr (.inl (h.bk_in ht))))) (n4 _ (h.bk_in ht))).trans (h.hk t ht)
    hl := (hh _ (.inr (.inr (.inr (.inr (.inl rfl))))) n5).trans h.hl
    hq := fun t ht => OL.heap (h.hq t ht) fun g hg => hh g (.inr (.inr (.inr (.inr (.inr (.inl ⟨t, hg⟩)))))) (n6 t g hg)
    hr := OL.heap h.hr fun g hg => hh g (.inr (.inr (.inr (.inr (.inr (.inr (.inl hg))))))) (h.rf g hg)
    hf := hA
    lf := hm.trans h.lf
    rf := fun g hg hF => (hfp g hF).elim (h.rf g hg) fun hle => by have := hlt g (.inr (.inr (.inr (.inr (.inr (.inr (.inl hg))))))); omega }
theorem AdAt.fair_fa {fv : List Value} (hfp : ∀ k, (m.setF fv).Fp k → m.Fp k ∨ w.heap.size ≤ k) : ∀ k, Fa b (m.setF fv) k → Fa b m k ∨ w.heap.size ≤ k := by
  rintro k (hk | hk | hk | hk | hk | hk | hk | hk)
  · exact .inl (.inl hk)
  · exact .inl (.inr (.inl hk))
  · exact .inl (.inr (.inr (.inl hk)))
  · exact .inl (.inr (.inr (.inr (.inl hk))))
  · exact .inl (.inr (.inr (.inr (.inr (.inl hk)))))
  · exact .inl (.inr (.inr (.inr (.inr (.inr (.inl hk))))))
  · exact .inl (.inr (.inr (.inr (.inr (.inr (.inr (.inl hk)))))))
  · exact (hfp k hk).elim (fun h => .inl (.inr (.inr (.inr (.inr (.inr (.inr (.inr h)))))))) .inr
def AS.setB (s : AS) (t : Nat) (x : Int × Int) : AS := { s with bk := s.bk.set t x }
theorem AS.bkt_self {t : Nat} (h : t < s.bk.length) (x : Int × Int) : (s.setB t x).bkt t = x := getD_set_self h
theorem AS.bkt_ne {t t' : Nat} (h : t ≠ t') (x : Int × Int) : (s.setB t x).bkt t' = s.bkt t' := getD_set_ne h
/-- A call on a bucket. -/
theorem AdAt.buck (h : AdAt w b m s) {t : Nat} (ht : t < s.m) {x : Int × Int} (hg : w.grownBy w' (some (m.bkb.getD t 0))) (hk : IsBk w' (m.bkb.getD t 0) (s.shr t).b (s.shr t).t (s.shr t).k x.1 x.2) : AdAt w' b m (s.setB t x) := by
  obtain ⟨t1, t2, t3, t4, t5⟩ := h.typ
  have hlt := h.fa_lt
  have hbt := h.hk t ht
  have hh : ∀ {k : Nat} {cs : Array Value} {ty : TypeId}, w.heap[k]? = some (.cells cs ty (0, 0)) → ty ≠ 137 → w'.heap[k]? = w.heap[k]? := fun hk hn => hg.block _ (lt_of_block hk) fun e => type_ne hk hbt hn (Option.some.inj e)
  exact { h with
    hb := (hh h.hb (by decide)).trans h.hb
    hs := OL.heap h.hs fun g hg => by obtain ⟨cs, hc⟩ := t1 g hg; exact hh hc (by decide)
    hp := OL.heap h.hp fun g hg => by obtain ⟨cs, hc⟩ := t2 g hg; exact hh hc (by decide)
    hk := fun t' ht' => by
      by_cases e : t = t'
      · subst e
        rw [AS.bkt_self (by rw [h.lk]; exact ht)]
        exact hk
      · rw [AS.bkt_ne e]
        exact (hg.block _ (lt_of_block (h.hk t' ht')) fun e2 => h.bk_ne ht ht' e (Option.some.inj e2).symm).trans (h.hk t' ht')
    hl := (hh h.hl (by decide)).trans h.hl
    hq := fun t' ht' => OL.heap (h.hq t' ht') fun g hg => by obtain ⟨cs, hc⟩ := t4 t' g hg; exact hh hc (by decide)
    hr := OL.heap h.hr fun g hg => by obtain ⟨cs, hc⟩ := t5 g hg; exact hh hc (by decide)
    hf := h.hf.same fun k hk => by
      obtain ⟨cs, ty, hc, hty⟩ := h.hf.fp_type hk
      exact hh hc (by rcases hty with e | e | e | e <;> (rw [e]; decide))
    lk := by show (s.bk.set t x).length = _; rw [List.length_set]; exact h.lk }
def AS.setQ (s : AS) (t : Nat) (l : List Ent) : AS := { s with ql := s.ql.set t l }
def AM.setV (m : AM) (t : Nat) (v : Value) : AM := { m with vals := m.vals.set t v }
theorem AS.q_self {t : Nat} (h : t < s.ql.length) (l : List Ent) : (s.setQ t l).q t = l := getD_set_self h
theorem AS.q_ne {t t' : Nat} (h : t ≠ t') (l : List Ent) : (s.setQ t l).q t' = s.q t' := getD_set_ne h
/-- A row of requests is put in its place. -/
theorem AdAt.row (h : AdAt w b m s) {t : Nat} (ht : t < s.m) {l : List Ent} {v' : Value} (hg : w.grownBy w1 (qv m.vals t).ownBlock) (ho : IsQ w1 v' l) (hown : ∀ g, v'.ownBlock = some g → (qv m.vals t).ownBlock = some g ∨ w.heap.size ≤ g) :
    AdAt (w1.setCell ⟨m.bl, t, none⟩ v') b (m.setV t v') (s.setQ t l) := by
  obtain ⟨t1, t2, t3, t4, t5⟩ := h.typ
  have hlt := h.fa_lt
  have htv : t < m.vals.length := by rw [h.lv]; exact ht
  have hrow : ∀ g, (qv m.vals t).ownBlock = some g → ∃ cs, w.heap[g]? = some (.cells cs 100 (0, 0)) := fun g hg => t4 t g hg
  have hh : ∀ {k : Nat} {cs : Array Value} {ty : TypeId}, w.heap[k]? = some (.cells cs ty (0, 0)) → ty ≠ 100 → ty ≠ 98 → (w1.setCell ⟨m.bl, t, none⟩ v').heap[k]? = w.heap[k]? := fun {k cs ty} hk hn hn2 => by
    refine (setCell_other (fun e => type_ne hk h.hl hn2 e)).trans (hg.block _ (lt_of_block hk) fun e => ?_)
    obtain ⟨cs', hc⟩ := hrow k e.symm
    exact type_ne hk hc hn rfl
  have hbl1 : w1.heap[m.bl]? = some (.cells m.vals.toArray 98 (0, 0)) := (hg.block _ (lt_of_block h.hl) fun e => by
    obtain ⟨cs', hc⟩ := hrow _ e.symm
    exact type_ne h.hl hc (by decide) rfl).trans h.hl
  have hq' : ∀ {v2 : Value} {l2 : List Ent}, IsQ w1 v2 l2 → IsQ (w1.setCell ⟨m.bl, t, none⟩ v') v2 l2 := fun h2 => OL.heap h2 fun g hg => setCell_other fun e => by
    obtain ⟨cs', hc⟩ := OL.elem h2 g hg
    exact type_ne hc hbl1 (by decide) e
  exact { h with
    hb := (hh h.hb (by decide) (by decide)).trans h.hb
    hs := OL.heap h.hs fun g hg => by obtain ⟨cs, hc⟩ := t1 g hg; exact hh hc (by decide) (by decide)
    hp := OL.heap h.hp fun g hg => by obtain ⟨cs, hc⟩ := t2 g hg; exact hh hc (by decide) (by decide)
    hk := fun t' ht' => (hh (h.hk t' ht') (by decide) (by decide)).trans (h.hk t' ht')
    hl := setCell_list hbl1
    hq := fun t' ht' => by
      by_cases e : t = t'
      · subst e
        rw [AS.q_self (by rw [h.lq]; exact ht)]
        show IsQ _ (qv (m.vals.set t v') t) l
        rw [qv_set_self htv]
        exact hq' ho
      · rw [AS.q_ne e]
        show IsQ _ (qv (m.vals.set t v') t') _
        rw [qv_set_ne e]
        exact hq' (OL.kept (h.hq t' ht') hg fun g hg e2 => h.ap t' t g (Ne.symm e) hg e2.symm)
    hr := OL.heap h.hr fun g hg => by obtain ⟨cs, hc⟩ := t5 g hg; exact hh hc (by decide) (by decide)
    hf := h.hf.same fun k hk => by
      obtain ⟨cs, ty, hc, hty⟩ := h.hf.fp_type hk
      exact hh hc (by rcases hty with e | e | e | e <;> (rw [e]; decide)) (by rcases hty with e | e | e | e <;> (rw [e]; decide))
    lq := by show (s.ql.set t l).length = _; rw [List.length_set]; exact h.lq
    lv := by show (m.vals.set t v').length = _; rw [List.length_set]; exact h.lv
    ap := fun t1 t2 g hne h1 h2 => by
      have h1 : (qv (m.vals.set t v') t1).ownBlock = some g := h1
      have h2 : (qv (m.vals.set t v') t2).ownBlock = some g := h2
      by_cases e1 : t = t1
      · subst e1
        rw [qv_set_self htv] at h1
        rw [qv_set_ne hne] at h2
        rcases hown g h1 with h3 | h3
        · exact h.ap t t2 g hne h3 h2
        · have := hlt g (.inr (.inr (.inr (.inr (.inr (.inl ⟨t2, h2⟩)))))); omega
      · rw [qv_set_ne e1] at h1
        by_cases e2 : t = t2
        · subst e2
          rw [qv_set_self htv] at h2
          rcases hown g h2 with h3 | h3
          · exact h.ap t1 t g hne h1 h3
          · have := hlt g (.inr (.inr (.inr (.inr (.inr (.inl ⟨t1, h1⟩)))))); omega
        · rw [qv_set_ne e2] at h2
          exact h.ap t1 t2 g hne h1 h2 }
theorem AdAt.row_fa (h : AdAt w b m s) {t : Nat} (ht : t < s.m) {v' : Value} (hown : ∀ g, v'.ownBlock = some g → (qv m.vals t).ownBlock = some g ∨ w.heap.size ≤ g) : ∀ k, Fa b (m.setV t v') k → Fa b m k ∨ w.heap.size ≤ k := by
  rintro k (hk | hk | hk | hk | hk | ⟨t', hk⟩ | hk | hk)
  · exact .inl (.inl hk)
  · exact .inl (.inr (.inl hk))
  · exact .inl (.inr (.inr (.inl hk)))
  · exact .inl (.inr (.inr (.inr (.inl hk))))
  · exact .inl (.inr (.inr (.inr (.inr (.inl hk)))))
  · have hk : (qv (m.vals.set t v') t').ownBlock = some k := hk
    by_cases e : t = t'
    · subst e
      rw [qv_set_self (by rw [h.lv]; exact ht)] at hk
      exact (hown k hk).elim (fun h => .inl (.inr (.inr (.inr (.inr (.inr (.inl ⟨_, h⟩))))))) .inr
    · rw [qv_set_ne e] at hk
      exact .inl (.inr (.inr (.inr (.inr (.inr (.inl ⟨_, hk⟩))))))
  · exact .inl (.inr (.inr (.inr (.inr (.inr (.inr (.inl hk)))))))
  · exact .inl (.inr (.inr (.inr (.inr (.inr (.inr (.inr hk)))))))
def AS.setR (s : AS) (l : List Int) : AS := { s with run := l }
def AM.setR (m : AM) (v : Value) : AM := { m with vr := v }
/-- The running ones are put in their place. -/
theorem AdAt.runs (h : AdAt w b m s) {l : List Int} {v' : Value} (hg : w.grownBy w1 m.vr.ownBlock) (ho : IsI w1 v' l) (hown : ∀ g, v'.ownBlock = some g → m.vr.ownBlock = some g ∨ w.heap.size ≤ g) :
    AdAt (w1.setCell ⟨b, 5, none⟩ v') b (m.setR v') (s.setR l) := by
  obtain ⟨t1, t2, t3, t4, t5⟩ := h.typ
  have hlt := h.fa_lt
  have hh : ∀ {k : Nat} {cs : Array Value} {ty : TypeId}, w.heap[k]? = some (.cells cs ty (0, 0)) → ty ≠ 3 → ty ≠ 89 → (w1.setCell ⟨b, 5, none⟩ v').heap[k]? = w.heap[k]? := fun {k cs ty} hk hn hn2 => by
    refine (setCell_other (fun e => type_ne hk h.hb hn2 e)).trans (hg.block _ (lt_of_block hk) fun e => ?_)
    obtain ⟨cs', hc⟩ := t5 k e.symm
    exact type_ne hk hc hn rfl
  have hb1 : w1.heap[b]? = w.heap[b]? := hg.block _ (lt_of_block h.hb) fun e => by
    obtain ⟨cs', hc⟩ := t5 _ e.symm
    exact type_ne h.hb hc (by decide) rfl
  exact { h with
    hb := setCell_list (cs := [m.vs, m.vb, .int .i64 s.slots, ptrV m.bf, .slice (some ⟨m.bl, 0, none⟩) s.m s.m, m.vr]) (hb1.trans h.hb)
    hs := OL.heap h.hs fun g hg => by obtain ⟨cs, hc⟩ := t1 g hg; exact hh hc (by decide) (by decide)
    hp := OL.heap h.hp fun g hg => by obtain ⟨cs, hc⟩ := t2 g hg; exact hh hc (by decide) (by decide)
    hk := fun t' ht' => (hh (h.hk t' ht') (by decide) (by decide)).trans (h.hk t' ht')
    hl := (hh h.hl (by decide) (by decide)).trans h.hl
    hq := fun t' ht' => OL.heap (h.hq t' ht') fun g hg => by obtain ⟨cs, hc⟩ := t4 t' g hg; exact hh hc (by decide) (by decide)
    hr := OL.heap ho fun g hg => setCell_other fun e => by
      obtain ⟨cs', hc⟩ := OL.elem ho g hg
      exact type_ne hc (hb1.trans h.hb) (by decide) e
    hf := h.hf.same fun k hk => by
      have hkl := h.hf.fp_lt k hk
      refine (setCell_other fun e => h.nfp.1 (by rw [← e]; exact hk)).trans (hg.block k hkl fun e => h.rf k e.symm hk)
    rf := fun g hg hF => by
      rcases hown g hg with h3 | h3
      · exact h.rf g h3 hF
      · have := h.hf.fp_lt g hF; omega }
theorem AdAt.runs_fa {v' : Value} (hown : ∀ g, v'.ownBlock = some g → m.vr.ownBlock = some g ∨ w.heap.size ≤ g) : ∀ k, Fa b (m.setR v') k → Fa b m k ∨ w.heap.size ≤ k := by
  rintro k (hk | hk | hk | hk | hk | hk | hk | hk)
  · exact .inl (.inl hk)
  · exact .inl (.inr (.inl hk))
  · exact .inl (.inr (.inr (.inl hk)))
  · exact .inl (.inr (.inr (.inr (.inl hk))))
  · exact .inl (.inr (.inr (.inr (.inr (.inl hk)))))
  · exact .inl (.inr (.inr (.inr (.inr (.inr (.inl hk))))))
  · exact (hown k hk).elim (fun h => .inl (.inr (.inr (.inr (.inr (.inr (.inr (.inl h)))))))) .inr
  · exact .inl (.inr (.inr (.inr (.inr (.inr (.inr (.inr hk)))))))
end
end Go.Proofs.Ytmdajndmobpgbaa

namespace Go.Proofs.Ytmdajndmobpgbaa
open Go.RowKit
open Go.Proofs.Ytmdajndmobpgbaa.Fq
open Go.Proofs.Ytmdajndmobpgbaa.Bk

def AS.has (s : AS) (id : Int) : Prop := ∃ t, t < s.m ∧ ∃ e ∈ s.q t, e.1 = id
/-- What is always so, inside a Start too: a are the tenants that are set aside. -/
structure LOk (s : AS) (a : List Nat) : Prop where
  lq : s.ql.length = s.m
  lk : s.bk.length = s.m
  lf : s.f.m = s.m
  s1 : 1 ≤ s.slots ∧ s.slots ≤ 256
  g : Gd s.f
  qn : ∀ t, t < s.m → s.f.qn t = (s.shr t).q
  bok : ∀ t, t < s.m → BkOk (s.shr t).b (s.shr t).t (s.shr t).k (s.bkt t).1 (s.bkt t).2
  len : ∀ t, t < s.m → (s.q t).length ≤ 256
  sz : ∀ t, t < s.m → ∀ e ∈ s.q t, 1 ≤ e.2 ∧ e.2 ≤ 1048576
  u1 : ∀ t, t < s.m → ((s.q t).map Prod.fst).Nodup
  u2 : ∀ t t', t < s.m → t' < s.m → t ≠ t' → ∀ e ∈ s.q t, ∀ e' ∈ s.q t', e.1 ≠ e'.1
  u3 : ∀ t, t < s.m → ∀ e ∈ s.q t, e.1 ∉ s.run
  u4 : s.run.Nodup
  rl : (s.run.length : Int) ≤ s.slots
  an : a.Nodup
  am : ∀ t ∈ a, t < s.m ∧ s.f.lst t = []
  fe : ∀ t, t < s.m → t ∉ a → s.f.lst t = s.q t
abbrev AOk (s : AS) : Prop := LOk s []
def priceOf (s : AS) (t : Nat) : Int := match s.q t with
  | [] => 0
  | e :: _ => min e.2 (s.shr t).b
def AS.took (s : AS) (t : Nat) (now : Int) : AS := s.setB t (takeP (s.shr t).b (s.shr t).t (s.shr t).k (s.bkt t).1 (s.bkt t).2 now (priceOf s t), takeL (s.bkt t).2 now (priceOf s t))
def AS.takes (s : AS) (t : Nat) (now : Int) : Bool := takeOk (s.shr t).b (s.shr t).t (s.shr t).k (s.bkt t).1 (s.bkt t).2 now (priceOf s t)
/-- A round of Start that fails, and one that starts a request. -/
def AS.failed (s : AS) (t : Nat) (now : Int) : AS := (s.took t now).setF (FQ.setL s.f t [])
def AS.began (s : AS) (f1 : FQ) (now : Int) (id : Int) : AS := (((s.took f1.cur now).setF f1.pop).setQ f1.cur (s.q f1.cur).tail).setR (s.run ++ [id])
inductive SLoop (now : Int) : AS → List Int → List Nat → AS → List Int → List Nat → Prop where
  | full (s : AS) (o : List Int) (a : List Nat) : ¬ (s.run.length : Int) < s.slots → SLoop now s o a s o a
  | none (s : AS) (o : List Int) (a : List Nat) : (s.run.length : Int) < s.slots → anyB s.f = false → SLoop now s o a s o a
  | fail (s : AS) (o : List Int) (a : List Nat) (f1 : FQ) (en : Ent) (r : List Ent) (s' : AS) (o' : List Int) (a' : List Nat) : (s.run.length : Int) < s.slots → Chs s.f f1 → f1.lst f1.cur = en :: r → s.takes f1.cur now = false →
      SLoop now (s.failed f1.cur now) o (a ++ [f1.cur]) s' o' a' → SLoop now s o a s' o' a'
  | ok (s : AS) (o : List Int) (a : List Nat) (f1 : FQ) (en : Ent) (r : List Ent) (s' : AS) (o' : List Int) (a' : List Nat) : (s.run.length : Int) < s.slots → Chs s.f f1 → f1.lst f1.cur = en :: r → s.takes f1.cur now = true →
      SLoop now (s.began f1 now en.1) (o ++ [en.1]) a s' o' a' → SLoop now s o a s' o' a'
section
variable {s s' : AS} {a : List Nat} {f1 : FQ} {en : Ent} {r : List Ent} {now : Int}
theorem took_m (t : Nat) (now : Int) : (s.took t now).m = s.m := rfl
theorem LOk.cur (h : LOk s a) (hc : Chs s.f f1) (hl : f1.lst f1.cur = en :: r) : f1.cur < s.m ∧ f1.cur ∉ a ∧ s.q f1.cur = en :: r ∧ s.f.lst f1.cur = en :: r := by
  obtain ⟨g1, _, hls, _, _⟩ := hc.gd h.g
  have hcm := g1.cur
  have e1 : f1.m = s.f.m := by unfold FQ.m; rw [hls]
  rw [e1, h.lf] at hcm
  have e2 : s.f.lst f1.cur = en :: r := by rw [← hl]; unfold FQ.lst; rw [hls]
  have hna : f1.cur ∉ a := fun hm => by
    have := (h.am _ hm).2
    rw [e2] at this; cases this
  exact ⟨hcm, hna, by rw [← h.fe _ hcm hna]; exact e2, e2⟩
theorem LOk.took (h : LOk s a) (t : Nat) (now : Int) (ht : t < s.m) : LOk (s.took t now) a :=
  { h with
    lk := by show (s.bk.set t _).length = _; rw [List.length_set]; exact h.lk
    bok := fun t' ht' => by
      have e0 : (s.took t now).shr t' = s.shr t' := rfl
      rw [e0]
      by_cases e : t = t'
      · subst e
        rw [show (s.took t now).bkt t = _ from AS.bkt_self (by rw [h.lk]; exact ht) _]
        exact (h.bok t ht).take now _
      · rw [show (s.took t now).bkt t' = s.bkt t' from AS.bkt_ne e _]
        exact h.bok t' ht' }
theorem LOk.failed (h : LOk s a) (hc : Chs s.f f1) (hl : f1.lst f1.cur = en :: r) (now : Int) : LOk (s.failed f1.cur now) (a ++ [f1.cur]) := by
  obtain ⟨h1, h2, h3, h4⟩ := h.cur hc hl
  have hk := h.took f1.cur now h1
  have hf : f1.cur < s.f.m := by rw [h.lf]; exact h1
  exact { hk with
    lf := (setL_m s.f f1.cur []).trans h.lf
    g := h.g.setL hf (fun e he => by cases he)
    qn := fun t ht => h.qn t ht
    an := List.nodup_append.2 ⟨h.an, by simp, fun x hx y hy => by
      rw [List.mem_singleton] at hy; subst hy
      exact fun e => h2 (e ▸ hx)⟩
    am := fun t ht => by
      rcases List.mem_append.1 ht with ht | ht
      · have hne : f1.cur ≠ t := fun e => h2 (e ▸ ht)
        exact ⟨(h.am t ht).1, (setL_lst_ne hne []).trans (h.am t ht).2⟩
      · obtain rfl := List.mem_singleton.1 ht
        exact ⟨h1, setL_lst_self hf []⟩
    fe := fun t ht hn => by
      have hne : f1.cur ≠ t := fun e => hn (by rw [e]; simp)
      exact (setL_lst_ne hne []).trans (h.fe t ht fun hm => hn (List.mem_append_left _ hm)) }
theorem LOk.began (h : LOk s a) (hc : Chs s.f f1) (hl : f1.lst f1.cur = en :: r) (hr : (s.run.length : Int) < s.slots) (now : Int) : LOk (s.began f1 now en.1) a := by
  obtain ⟨h1, h2, h3, h4⟩ := h.cur hc hl
  have hk := h.took f1.cur now h1
  have hql : f1.cur < s.ql.length := by rw [h.lq]; exact h1
  obtain ⟨g1, hst, hls, hqu, hbg⟩ := hc.gd h.g
  have hmf : f1.m = s.f.m := by unfold FQ.m; rw [hls]
  have htl : (s.q f1.cur).tail = r := by rw [h3]; rfl
  have qs : (s.began f1 now en.1).q f1.cur = r := by
    have := AS.q_self (s := (s.took f1.cur now).setF f1.pop) hql (s.q f1.cur).tail
    exact this.trans htl
  have qn : ∀ {t : Nat}, f1.cur ≠ t → (s.began f1 now en.1).q t = s.q t := fun hne => AS.q_ne (s := (s.took f1.cur now).setF f1.pop) hne _
  have sub : ∀ t, ∀ e ∈ (s.began f1 now en.1).q t, e ∈ s.q t := fun t e he => by
    by_cases e1 : f1.cur = t
    · subst e1; rw [qs] at he; rw [h3]; exact List.mem_cons_of_mem _ he
    · rw [qn e1] at he; exact he
  have pl : ∀ t, t < s.m → f1.pop.lst t = if f1.cur = t then r else s.f.lst t := fun t ht => by
    rw [pop_eq hl]
    by_cases e1 : f1.cur = t
    · subst e1
      rw [if_pos rfl]
      exact lst_set_self (show f1.cur < f1.m by rw [hmf, h.lf]; exact ht)
    · rw [if_neg e1]
      show (f1.lists.set f1.cur r).getD t [] = _
      rw [Fq.getD_set_ne e1, hls]
      rfl
  have pq : f1.pop.quanta = s.f.quanta := by rw [pop_eq hl]; exact hqu
  exact { hk with
    lq := by show (s.ql.set f1.cur _).length = _; rw [List.length_set]; exact h.lq
    lf := (pop_m f1).trans (hmf.trans h.lf)
    g := g1.pop hst hbg
    qn := fun t ht => by
      rw [show (s.began f1 now en.1).f.qn t = s.f.qn t by show f1.pop.quanta.getD t 0 = _; rw [pq]; rfl]
      exact h.qn t ht
    len := fun t ht => by
      by_cases e1 : f1.cur = t
      · subst e1
        have := h.len f1.cur ht
        rw [h3] at this
        rw [qs]
        simp at this
        omega
      · rw [qn e1]; exact h.len t ht
    sz := fun t ht e he => h.sz t ht e (sub t e he)
    u1 := fun t ht => by
      by_cases e1 : f1.cur = t
      · subst e1
        have := h.u1 f1.cur ht
        rw [h3] at this
        rw [qs]
        exact (List.nodup_cons.1 this).2
      · rw [qn e1]; exact h.u1 t ht
    u2 := fun t t' ht ht' hne e he e' he' => h.u2 t t' ht ht' hne e (sub t e he) e' (sub t' e' he')
    u3 := fun t ht e he hm => by
      rcases List.mem_append.1 hm with hm | hm
      · exact h.u3 t ht e (sub t e he) hm
      · rw [List.mem_singleton] at hm
        by_cases e1 : f1.cur = t
        · subst e1
          rw [qs] at he
          have := h.u1 f1.cur ht
          rw [h3] at this
          exact (List.nodup_cons.1 this).1 (by rw [← hm]; exact List.mem_map_of_mem he)
        · exact h.u2 t f1.cur ht h1 (Ne.symm e1) e (sub t e he) en (by rw [h3]; simp) hm
    u4 := List.nodup_append.2 ⟨h.u4, by simp, fun x hx y hy => by
      rw [List.mem_singleton] at hy; subst hy
      exact fun e => h.u3 f1.cur h1 en (by rw [h3]; simp) (e ▸ hx)⟩
    rl := by show ((s.run ++ [en.1]).length : Int) ≤ s.slots; simp; omega
    am := fun t ht => by
      have hne : ¬ f1.cur = t := fun e => h2 (e ▸ ht)
      refine ⟨(h.am t ht).1, ?_⟩
      have := pl t (h.am t ht).1
      rw [if_neg hne] at this
      exact this.trans (h.am t ht).2
    fe := fun t ht hn => by
      have := pl t ht
      by_cases e1 : f1.cur = t
      · subst e1
        rw [if_pos rfl] at this
        exact this.trans qs.symm
      · rw [if_neg e1] at this
        rw [qn e1]
        exact this.trans (h.fe t ht hn) }
theorem SLoop.ok' {o o' : List Int} {a' : List Nat} (h : SLoop now s o a s' o' a') : LOk s a → LOk s' a' := by
  induction h with
  | full s o a _ => exact id
  | none s o a _ _ => exact id
  | fail s o a f1 en r s' o' a' _ hc hl _ _ ih => exact fun h => ih (h.failed hc hl now)
  | ok s o a f1 en r s' o' a' hr hc hl _ _ ih => exact fun h => ih (h.began hc hl hr now)
/-- Start's end: who was set aside is put back. -/
def AS.back (s : AS) : AS := s.setF { s.f with lists := s.ql }
theorem LOk.back (h : LOk s a) : AOk s.back := by
  have hl : ∀ t, s.back.f.lst t = s.q t := fun t => rfl
  have hm : s.back.f.m = s.f.m := h.lq.trans h.lf.symm
  exact { h with
    lf := h.lq
    g := { h.g with
      m1 := by rw [hm]; exact h.g.m1
      m2 := by rw [hm]; exact h.g.m2
      lq := by rw [hm]; exact h.g.lq
      ld := by rw [hm]; exact h.g.ld
      cur := by rw [hm]; exact h.g.cur
      q1 := fun t ht => h.g.q1 t (by rw [hm] at ht; exact ht)
      sz := fun t ht e he => h.sz t (by rw [hm, h.lf] at ht; exact ht) e he
      d0 := fun t ht => h.g.d0 t (by rw [hm] at ht; exact ht)
      d1 := fun t ht hc => h.g.d1 t (by rw [hm] at ht; exact ht) hc }
    an := List.nodup_nil
    am := fun t ht => by cases ht
    fe := fun t _ _ => hl t }
end
end Go.Proofs.Ytmdajndmobpgbaa

/- collapse: Keys. Conditions: the keys are known, in their order. -/
import Derived.Test.YtfnohilhlofimaaCoC
import Derived.Test.YtfnohilhlofimaaCoIter
import Derived.Sort.KeysCollected
namespace Go.Proofs.Ytfnohilhlofimaa
open Go.RowKit Go.Maps Go.Shelf Go.ChangeShapes Go.WideShapes Go.WideElems

def strs (l : List ByteArray) : List Value := l.map Value.string
theorem strs_len (l : List ByteArray) : (strs l).length = l.length := by simp [strs]
theorem strs_get (l : List ByteArray) (i : Nat) (h : i < l.length) : (strs l)[i]? = some (.string (l.getD i ByteArray.empty)) := by simp [strs, List.getD, h]
theorem strs_one (l : List ByteArray) : ∀ u ∈ strs l, u.oneCell' = true := by
  intro u hu
  obtain ⟨x, _, rfl⟩ := List.mem_map.1 hu
  rfl
def IsT (w : World) (v : Value) (l : List ByteArray) : Prop := OL w 9 1 v l.length (strs l)
def NewT (l : List ByteArray) (w : World) (e : Ending) (w' : World) : Prop :=
  ∃ v, e = .returned v ∧ IsT w' v l ∧ (∀ k, v.ownBlock = some k → w.heap.size ≤ k) ∧ Below w.heap.size w w'
def bysS (x : ByteArray) : List UInt8 := x.data.toList
theorem bysS_inj {x y : ByteArray} (h : bysS x = bysS y) : x = y := by
  have := congrArg ByteArray.mk (Array.toList_inj.1 h)
  exact this
/-- Ascending. -/
def Asc (l : List ByteArray) : Prop := l.Pairwise fun x y => bysS x < bysS y
theorem Asc.nodup {l : List ByteArray} (h : Asc l) : l.Nodup := List.Pairwise.imp (fun hlt e => by rw [e] at hlt; exact List.lt_irrefl _ hlt) h
theorem Asc.sort {l : List ByteArray} (h : Asc l) : (l.map bysS).mergeSort leB = l.map bysS :=
  List.mergeSort_of_pairwise (by
    rw [List.pairwise_map]
    exact List.Pairwise.imp (fun hlt => by simp only [decide_eq_true_eq]; exact List.le_of_lt hlt) h)
def rU : Value → Option (DataW Unit × List MemPlace) := fun _ => some (.nil, [])
/-- A map as the shelf wants it. -/
theorem MapF.owns {P : Program} {w : World} {b : Nat} {f : Value → Option Value} {k : TypeId} (hk : P.underlying k = some .string) (h : MapF P k w b f) {ks : List ByteArray} (hn : ks.Nodup) (hm : ∀ x, (∃ v, f x = some v) ↔ x ∈ strs ks) (hl : ks.length ≤ maxLen) :
    ∃ D : DataW Unit, w.ownsMap P k rU b ks.length D ∧ Maps.size D = ks.length ∧ (strKeys D).Perm (ks.map bysS) := by
  obtain ⟨es, c, hb, h1, h2, h3, h4⟩ := h
  have hnd : (es.toList.map (·.key)).Nodup := by
    unfold List.Nodup
    rw [List.pairwise_map]
    exact h2
  have hsn : (strs ks).Nodup := by
    unfold strs List.Nodup
    rw [List.pairwise_map]
    exact List.Pairwise.imp (fun hne e => hne (by cases e; rfl)) hn
  have hp : (es.toList.map (·.key)).Perm (strs ks) := (List.perm_ext_iff_of_nodup hnd hsn).2 fun x => by
    rw [← hm x, List.mem_map]
    constructor
    · rintro ⟨y, hy, rfl⟩
      exact ⟨_, (h1 y hy).2⟩
    · rintro ⟨v, hv⟩
      exact h3 x v hv
  have hlen := hp.length_eq
  rw [List.length_map, Array.length_toList, strs_len] at hlen
  have hrd : ∀ x ∈ es.toList, ∃ s : ByteArray, x.key = .string s ∧ rd (H := Unit) P k rU x = some (.string (bysS s), .nil) := fun x hx => by
    obtain ⟨kl, hkl⟩ := (h1 x hx).1
    obtain ⟨y, hy, rfl, _⟩ := Maps.keyOf_str hk hkl
    refine ⟨⟨y.toArray⟩, hy, ?_⟩
    have := rd_mk (H := Unit) (R := fun _ => some (.nil, [])) (val := x.val) (born := x.born) hkl rfl
    exact this
  refine ⟨_, ⟨es, c, hb, ⟨by omega, h4, fun x hx => by obtain ⟨s, _, h⟩ := hrd x hx; exact ⟨_, h⟩⟩, by omega, rfl⟩, ?_, ?_⟩
  · show ((es.toList.map (rg P k rU)).foldr DataW.insert []).length = _
    rw [(sorted_perm _).length_eq, List.length_map, Array.length_toList, hlen]
  · show (((es.toList.map (rg P k rU)).foldr DataW.insert []).map fun p => strOf p.1).Perm _
    refine ((sorted_perm _).map _).trans ?_
    rw [List.map_map]
    have e1 : es.toList.map ((fun p : Lit × DataW Unit => strOf p.1) ∘ rg P k rU) = (es.toList.map (·.key)).map fun v => match v with | .string s => bysS s | _ => [] := by
      rw [List.map_map]
      refine List.map_congr_left fun x hx => ?_
      obtain ⟨s, hs, h⟩ := hrd x hx
      show strOf (rg P k _ x).1 = (match x.key with | .string s => bysS s | _ => [])
      rw [rg_of h, hs]
      rfl
    rw [e1]
    refine (hp.map _).trans ?_
    unfold strs
    rw [List.map_map]
    exact List.Perm.refl _
section
variable {w w' : World} {b : Nat} {s : Tb} {a : TA}
set_option maxHeartbeats 1000000 in
theorem t_keys (h : TbAt w b a s) {ks : List ByteArray} (ha : Asc ks) (hm : ∀ k, s.L k ≠ [] ↔ k ∈ ks) (hl : ks.length ≤ 1000000) : Calls Try.prog 21 #[.pointer (some ⟨b, 0, none⟩)] w (NewT ks w) := by
  have c0 := has_cell h.c 0
  obtain ⟨D, hown, hsz, hpm⟩ := h.k.owns Try.underlying9 ha.nodup (fun x => by
    constructor
    · rintro ⟨v, hv⟩
      cases x with
      | string x =>
        refine List.mem_map.2 ⟨x, (hm x).1 fun e => ?_, rfl⟩
        have hv : (if s.L x = [] then none else some (a.vs x)) = some v := hv
        rw [if_pos e] at hv
        cases hv
      | _ => cases hv
    · intro hx
      obtain ⟨y, hy, rfl⟩ := List.mem_map.1 hx
      exact ⟨_, show (if s.L y = [] then none else some (a.vs y)) = some (a.vs y) from if_neg ((hm y).2 hy)⟩) (by unfold maxLen; omega)
  have hmax : Maps.size D ≤ maxLen := by rw [hsz]; unfold maxLen; omega
  have hby : Maps.size D * 16 ≤ 140737488355328 := by rw [hsz]; omega
  have CS := coSortedKeys a.kb ks.length D _ w hown hmax hby
  clear hmax hby hown hsz
  refine (callsIn_wide (n := 6)).1 ?_
  have hfK : Fence.wide.fn 36 := trivial
  have hfS : Fence.wide.fn 35 := trivial
  refine callsIn_of_wp Try.func21 rfl trivial ?_ rfl
  simp only [Try.ntmps21, List.size_toArray, List.length_cons, List.length_nil, Nat.reduceAdd, Nat.reduceSub, Array.replicate_succ, Array.replicate_zero, List.push_toArray, List.append_toArray, List.nil_append, List.cons_append]
  gi_wp2_with (first
    | (gi_at_call 36; refine (coMapsKeys _ _).mono ?_; rintro e w' ⟨rfl, rfl⟩)
    | (gi_at_call 35; refine CS.mono ?_; rintro e w' ⟨v, ss, rfl, hS, hrow, hnil, hb⟩))
  go_ret
  have hall : Below w.heap.size w (w.alloc (.cells #[.map (some a.kb)] 74)) := (Below.refl _ w).alloc (Nat.le_refl _) _
  have hlen : ss.length = ks.length := by rw [hS.length_eq, hpm.length_eq, List.length_map]
  have hcs : (ss.mergeSort (fun x y => decide (x ≤ y))).map encStr = strs ks := by
    rw [show ss.mergeSort (fun x y => decide (x ≤ y)) = ks.map bysS from (mergeSort_of_perm (hS.trans hpm)).trans ha.sort, List.map_map]
    rfl
  rw [hcs, hlen] at hrow
  have ho := OL.of_own hrow
  have hbase : ∀ g, v.ownBlock = some g → w.heap.size ≤ g := fun g hg => by
    rcases hrow.2 with ⟨e, _⟩ | ⟨g', cap, cur, e, h1, _⟩
    · rw [e] at hg; cases hg
    · rw [e] at hg
      have : g' = g := Option.some.inj hg
      have := hall.size
      omega
  exact ⟨v, rfl, ho, hbase, hall.trans (hb.mono hall.size)⟩
end
end Go.Proofs.Ytfnohilhlofimaa

/- network: the plain law of NetworkDelivers: what the delays and the sends make. Conditions: each its own. network: a string as bytes; Send of new data; the array of six delays. Conditions: each its own. -/
import Derived.Test.YtkhiepjlfbjgdaaZNwDelP
import Derived.Test.YtkhiepjlfbjgdaaZNwFateP
import Derived.Lib.ConvBytes
import Derived.Laws.IdiomStrings
namespace Go.Proofs.Ytkhiepjlfbjgdaa
open Go.RowKit

/-- The network behind the first i delays. -/
noncomputable def dlNet (D : Nat → Int) : Nat → Net
  | 0 => Net.init 7
  | i + 1 => (dlNet D i).delay (nodeS i) bB (D i)
open Classical in
/-- The delay of a direction between nodes. -/
noncomputable def dirD (D : Nat → Int) (i a b : Nat) : Int := if nodeS b = bB ∧ a % 6 < i then D (a % 6) else 7
section
variable {A : Nat → MsgV} {D : Nat → Int} {n j : Nat} {s : Net}
theorem dlNet_same (i : Nat) : (dlNet D i).arr = [] ∧ (dlNet D i).cuts = [] ∧ (dlNet D i).lost = 0 ∧ (dlNet D i).msgs = 0 ∧ (dlNet D i).present = 0 := by
  induction i with
  | zero => exact ⟨rfl, rfl, rfl, rfl, rfl⟩
  | succ i ih => exact ih
theorem dlNet_get {i : Nat} (hi : i ≤ 6) (a b : Nat) : (dlNet D i).get (nodeS a) (nodeS b) = ⟨dirD D i a b, 0, fun _ => none⟩ := by
  induction i with
  | zero => rw [show dirD D 0 a b = 7 from if_neg (by simp)]; rfl
  | succ i ih =>
    have ih := ih (by omega)
    have ha : a % 6 < 6 := Nat.mod_lt _ (by omega)
    by_cases h : nodeS a = nodeS i ∧ nodeS b = bB
    · have hai : a % 6 = i := by rw [nodeS_inj _ _ h.1]; exact Nat.mod_eq_of_lt (by omega)
      have e1 : (dlNet D i).get (nodeS i) bB = ⟨dirD D i a b, 0, fun _ => none⟩ := by rw [← h.1, ← h.2]; exact ih
      show ((dlNet D i).setL (nodeS i) bB { (dlNet D i).get (nodeS i) bB with delay := D i }).get _ _ = _
      rw [h.1, h.2, Net.get_setL_at, e1]
      rw [show dirD D (i + 1) a b = D i from (if_pos ⟨h.2, by omega⟩).trans (by rw [hai])]
    · show ((dlNet D i).setL (nodeS i) bB { (dlNet D i).get (nodeS i) bB with delay := D i }).get _ _ = _
      rw [Net.get_setL_ne h, ih]
      congr 1
      unfold dirD
      by_cases hb : nodeS b = bB
      · have hne : a % 6 ≠ i := fun e => h ⟨by unfold nodeS; rw [← e, Nat.mod_mod], hb⟩
        by_cases h1 : a % 6 < i
        · rw [if_pos ⟨hb, h1⟩, if_pos ⟨hb, by omega⟩]
        · rw [if_neg (fun h => h1 h.2), if_neg (fun h => by have := h.2; omega)]
      · rw [if_neg (fun h => hb h.1), if_neg (fun h => hb h.1)]
/-- Behind j sends. -/
structure SdS (A : Nat → MsgV) (D : Nat → Int) (j : Nat) (s : Net) : Prop where
  arr : s.arr = (List.range j).map (mkA A D)
  c : s.cuts = []
  z : s.lost = 0
  m : s.msgs = j
  p : s.present ≤ tAt A j
  d : ∀ a b : Nat, (s.get (nodeS a) (nodeS b)).delay = dirD D 6 a b
  f : ∀ (a b : Nat) (i : Int), (s.get (nodeS a) (nodeS b)).fates i = none
theorem SdS.start : SdS A D 0 (dlNet D 6) := by
  obtain ⟨h1, h2, h3, h4, h5⟩ := dlNet_same (D := D) 6
  exact ⟨h1, h2, h3, h4, by rw [h5]; exact Int.le_refl _, fun a b => by rw [dlNet_get (Nat.le_refl _)], fun a b i => by rw [dlNet_get (Nat.le_refl _)]⟩
theorem dirD_dl (i : Nat) : dirD D 6 (A i).from_.toNat (A i).to_.toNat = dlA A D i := by
  have h : (A i).from_.toNat % 6 < 6 := Nat.mod_lt _ (by omega)
  unfold dirD dlA
  by_cases e : nodeS (A i).to_.toNat = bB
  · rw [if_pos ⟨e, h⟩, if_pos e]
  · rw [if_neg (fun h => e h.1), if_neg e]
theorem SdS.sent (h : SdS A D j s) : SdS A D (j + 1) (s.sent (tAt A (j + 1)) (nodeS (A j).from_.toNat) (nodeS (A j).to_.toNat) (byts (A j).data)) := by
  have hl : s.list (tAt A (j + 1)) (nodeS (A j).from_.toNat) (nodeS (A j).to_.toNat) = [dlA A D j] := by
    unfold Net.list
    rw [h.c, if_neg (by simp [cutB]), h.f, h.d, dirD_dl]
    rfl
  refine ⟨?_, h.c, ?_, by show s.msgs + 1 = _; rw [h.m]; omega, Int.le_refl _, fun a b => ?_, fun a b i => ?_⟩
  · show s.arr ++ news _ _ _ _ (s.msgs + 1) (s.list _ _ _) (s.list _ _ _).length = _
    rw [hl, h.arr, h.m]
    simp [news, mkA, List.range_succ]
  · show s.lost + (if (s.list _ _ _).length = 0 then 1 else 0) = 0
    rw [hl, h.z]
    rfl
  · by_cases e : nodeS a = nodeS (A j).from_.toNat ∧ nodeS b = nodeS (A j).to_.toNat
    · have := h.d a b
      rw [e.1, e.2] at this ⊢
      rw [sent_get]
      exact this
    · show ((s.setL _ _ _).get (nodeS a) (nodeS b)).delay = _
      rw [Net.get_setL_ne e]
      exact h.d a b
  · by_cases e : nodeS a = nodeS (A j).from_.toNat ∧ nodeS b = nodeS (A j).to_.toNat
    · have := h.f a b i
      rw [e.1, e.2] at this ⊢
      rw [sent_get]
      exact this
    · show ((s.setL _ _ _).get (nodeS a) (nodeS b)).fates i = _
      rw [Net.get_setL_ne e]
      exact h.f a b i
end
end Go.Proofs.Ytkhiepjlfbjgdaa

namespace Go.Proofs.Ytkhiepjlfbjgdaa
open Go.RowKit Go.Lib

section
variable {w0 w wr w1 : World} {K : Nat → Prop} {b c : Nat} {s : Net}
theorem below_bytes (w : World) (e : TypeId) (sd : ByteArray) : Below w.heap.size w (bytesWorld w e sd) :=
  ⟨rfl, rfl, rfl, by rw [bytesWorld_size]; omega, fun k hk => bytesWorld_at_old w e sd k hk⟩
theorem byts_len (sd : ByteArray) : (byts sd).length = sd.size := by
  unfold byts
  rw [List.length_map, ByteArray.toList_eq]
  rfl
theorem byts_get (sd : ByteArray) {j : Nat} (hj : j < sd.size) : (byts sd).getD j 0 = ((sd.data.toList.getD j 0).toNat : Int) := by
  unfold byts
  rw [ByteArray.toList_eq]
  have : j < sd.data.toList.length := hj
  rw [List.getD_eq_getElem?_getD, List.getD_eq_getElem?_getD, List.getElem?_map, List.getElem?_eq_getElem this]
  rfl
theorem bytes_new (w : World) (sd : ByteArray) : IsBytes (bytesWorld w 5 sd) (some ⟨w.heap.size, 0, none⟩) sd.size w.heap.size 0 (fun j => (byts sd).getD j 0) where
  ao _ := rfl
  lt _ := by rw [bytesWorld_size]; omega
  c j hj := by
    rw [Nat.zero_add, bytesWorld_cell w _ sd j hj, byts_get sd hj]
  bd j hj := by
    rw [byts_get sd hj]
    have := (sd.data.toList.getD j 0).toNat_lt
    omega
theorem lst_byts (sd : ByteArray) : lst sd.size (fun j => (byts sd).getD j 0) = byts sd := by
  rw [← byts_len]
  exact lst_self _
theorem below_via {w a a' w1 : World} (h : Below w.heap.size w a) (hb : Below a'.heap.size a' w1) (h1 : a'.os = a.os) (h2 : a'.tape = a.tape) (h3 : a'.output = a.output) (h4 : a'.heap = a.heap) : Below w.heap.size w w1 :=
  h.trans ⟨hb.os.trans h1, hb.tape.trans h2, hb.output.trans h3, by rw [← h4]; exact hb.size, fun k hk => (hb.block k (by rw [h4]; exact Nat.lt_of_lt_of_le hk h.size)).trans (by rw [h4])⟩
theorem below_cast {B : Nat} {a x y : World} (h : Below B a x) (h1 : y.os = x.os) (h2 : y.tape = x.tape) (h3 : y.output = x.output) (h4 : y.heap = x.heap) : Below B a y :=
  ⟨h1.trans h.os, h2.trans h.tape, h3.trans h.output, by rw [h4]; exact h.size, fun k hk => by rw [h4]; exact h.block k hk⟩
theorem bytes_new2 {w' : World} {g cap : Nat} {fr : Nat × Nat} (sd : ByteArray) (h : w'.heap[g]? = some (.cells (bytesRow sd cap) 5 fr)) : IsBytes w' (some ⟨g, 0, none⟩) sd.size g 0 (fun j => (byts sd).getD j 0) where
  ao _ := rfl
  lt _ := lt_of_block h
  c j hj := by
    rw [has_cell h, Nat.zero_add, byts_get sd hj]
    unfold bytesRow
    have h1 : j < (sd.data.map (fun b => Value.int .u8 b.toNat)).size := by rw [Array.size_map]; exact hj
    have h2 : j < sd.data.toList.length := hj
    rw [Array.getElem?_append_left h1, Array.getElem?_map, Array.getElem?_eq_getElem hj, List.getD_eq_getElem?_getD, List.getElem?_eq_getElem h2]
    rfl
  bd j hj := by
    rw [byts_get sd hj]
    have := (sd.data.toList.getD j 0).toNat_lt
    omega
/-- Send of data that was laid since the world wr. -/
theorem cn_send2 {ao : Option Addr} {n cp bk off : Nat} {X : Nat → Int} (h : CN w0 K b c s wr) (hb : Below wr.heap.size wr w) (hc : c ≤ 1000) {x y : ByteArray} (hx : x.size ≤ maxLen) (hy : y.size ≤ maxLen) {t : Int} (ht : 0 ≤ t) (ht2 : t ≤ 1099511627776) (hp : s.present ≤ t)
    (hX : IsBytes w ao n bk off X) (hXP : wr.heap.size ≤ bk) (hn : n ≤ 100000) :
    Calls Try.prog 17 #[.pointer (some ⟨b, 0, none⟩), .int .i64 t, .string x, .string y, .slice ao n cp] w (CNP w0 K b (c + 1) (s.sent t x y (lst n X)) .nilIface w) := by
  have h1 := h.t.bound.belowS hb
  refine (send_ok h1.bound h.g hc (fun _ hk => hk.2) hx hy ht ht2 hp hX (fun _ hk => by have := hk.1.2; omega) hn).mono fun _ _ he => ?_
  exact (h.bel hb).up (fun _ hk => hk.1.1) he (h.g.sent ht ht2 x y _)
end
end Go.Proofs.Ytkhiepjlfbjgdaa

/- network: a string as bytes; Send of new data; the array of six delays. Conditions: each its own. -/
import Derived.Test.YtkhiepjlfbjgdaaNwDelQ
import Derived.Lib.ConvBytes
import Derived.Laws.IdiomStrings
namespace Go.Proofs.Ytkhiepjlfbjgdaa
open Go.RowKit Go.Lib

section
variable {w0 w wr w1 : World} {K : Nat → Prop} {b c : Nat} {s : Net}
theorem below_bytes (w : World) (e : TypeId) (sd : ByteArray) : Below w.heap.size w (bytesWorld w e sd) :=
  ⟨rfl, rfl, rfl, by rw [bytesWorld_size]; omega, fun k hk => bytesWorld_at_old w e sd k hk⟩
theorem byts_len (sd : ByteArray) : (byts sd).length = sd.size := by
  unfold byts
  rw [List.length_map, ByteArray.toList_eq]
  rfl
theorem byts_get (sd : ByteArray) {j : Nat} (hj : j < sd.size) : (byts sd).getD j 0 = ((sd.data.toList.getD j 0).toNat : Int) := by
  unfold byts
  rw [ByteArray.toList_eq]
  have : j < sd.data.toList.length := hj
  rw [List.getD_eq_getElem?_getD, List.getD_eq_getElem?_getD, List.getElem?_map, List.getElem?_eq_getElem this]
  rfl
theorem bytes_new (w : World) (sd : ByteArray) : IsBytes (bytesWorld w 5 sd) (some ⟨w.heap.size, 0, none⟩) sd.size w.heap.size 0 (fun j => (byts sd).getD j 0) where
  ao _ := rfl
  lt _ := by rw [bytesWorld_size]; omega
  c j hj := by
    rw [Nat.zero_add, bytesWorld_cell w _ sd j hj, byts_get sd hj]
  bd j hj := by
    rw [byts_get sd hj]
    have := (sd.data.toList.getD j 0).toNat_lt
    omega
theorem lst_byts (sd : ByteArray) : lst sd.size (fun j => (byts sd).getD j 0) = byts sd := by
  rw [← byts_len]
  exact lst_self _
theorem below_via {w a a' w1 : World} (h : Below w.heap.size w a) (hb : Below a'.heap.size a' w1) (h1 : a'.os = a.os) (h2 : a'.tape = a.tape) (h3 : a'.output = a.output) (h4 : a'.heap = a.heap) : Below w.heap.size w w1 :=
  h.trans ⟨hb.os.trans h1, hb.tape.trans h2, hb.output.trans h3, by rw [← h4]; exact hb.size, fun k hk => (hb.block k (by rw [h4]; exact Nat.lt_of_lt_of_le hk h.size)).trans (by rw [h4])⟩
theorem below_cast {B : Nat} {a x y : World} (h : Below B a x) (h1 : y.os = x.os) (h2 : y.tape = x.tape) (h3 : y.output = x.output) (h4 : y.heap = x.heap) : Below B a y :=
  ⟨h1.trans h.os, h2.trans h.tape, h3.trans h.output, by rw [h4]; exact h.size, fun k hk => by rw [h4]; exact h.block k hk⟩
theorem bytes_new2 {w' : World} {g cap : Nat} {fr : Nat × Nat} (sd : ByteArray) (h : w'.heap[g]? = some (.cells (bytesRow sd cap) 5 fr)) : IsBytes w' (some ⟨g, 0, none⟩) sd.size g 0 (fun j => (byts sd).getD j 0) where
  ao _ := rfl
  lt _ := lt_of_block h
  c j hj := by
    rw [has_cell h, Nat.zero_add, byts_get sd hj]
    unfold bytesRow
    have h1 : j < (sd.data.map (fun b => Value.int .u8 b.toNat)).size := by rw [Array.size_map]; exact hj
    have h2 : j < sd.data.toList.length := hj
    rw [Array.getElem?_append_left h1, Array.getElem?_map, Array.getElem?_eq_getElem hj, List.getD_eq_getElem?_getD, List.getElem?_eq_getElem h2]
    rfl
  bd j hj := by
    rw [byts_get sd hj]
    have := (sd.data.toList.getD j 0).toNat_lt
    omega
/-- Send of data that was laid since the world wr. -/
theorem cn_send2 {ao : Option Addr} {n cp bk off : Nat} {X : Nat → Int} (h : CN w0 K b c s wr) (hb : Below wr.heap.size wr w) (hc : c ≤ 1000) {x y : ByteArray} (hx : x.size ≤ maxLen) (hy : y.size ≤ maxLen) {t : Int} (ht : 0 ≤ t) (ht2 : t ≤ 1099511627776) (hp : s.present ≤ t)
    (hX : IsBytes w ao n bk off X) (hXP : wr.heap.size ≤ bk) (hn : n ≤ 100000) :
    Calls Try.prog 17 #[.pointer (some ⟨b, 0, none⟩), .int .i64 t, .string x, .string y, .slice ao n cp] w (CNP w0 K b (c + 1) (s.sent t x y (lst n X)) .nilIface w) := by
  have h1 := h.t.bound.belowS hb
  refine (send_ok h1.bound h.g hc (fun _ hk => hk.2) hx hy ht ht2 hp hX (fun _ hk => by have := hk.1.2; omega) hn).mono fun _ _ he => ?_
  exact (h.bel hb).up (fun _ hk => hk.1.1) he (h.g.sent ht ht2 x y _)
end
end Go.Proofs.Ytkhiepjlfbjgdaa

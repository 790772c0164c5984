/- network: the receive loop of NetworkDelivers: its relation, in plain Lean. Conditions: each its own. -/
import Derived.Test.YtkhiepjlfbjgdaaNwDelR
namespace Go.Proofs.Ytkhiepjlfbjgdaa
open Go.RowKit Go.Lib

/-- A row of flags. -/
def bRow (n : Nat) (seen : Nat → Bool) : List Value := (List.range n).map fun i => .bool (seen i)
theorem bRow_len (n : Nat) (seen : Nat → Bool) : (bRow n seen).length = n := by simp [bRow]
theorem bRow_get {n i : Nat} (seen : Nat → Bool) (hi : i < n) : (bRow n seen).getD i undef = .bool (seen i) := by
  simp [bRow, List.getD, hi]
theorem bRow_set {n i : Nat} (seen : Nat → Bool) (hi : i < n) : (bRow n seen).set i (.bool true) = bRow n (fun j => if j = i then true else seen j) := by
  apply List.ext_getElem
  · simp [bRow]
  · intro j h1 h2
    simp only [bRow, List.length_set, List.length_map, List.length_range] at h1
    rw [List.getElem_set]
    by_cases e : i = j
    · subst e
      simp [bRow]
    · rw [if_neg e]
      have e' : ¬ j = i := fun h => e h.symm
      simp [bRow, e']
theorem bRow_none (n : Nat) : bRow n (fun _ => false) = List.replicate n (.bool false) := by
  apply List.ext_getElem
  · simp [bRow]
  · intro i h1 h2
    simp [bRow]
theorem str_byts (s : ByteArray) : strOfNums (byts s) = s := by
  unfold strOfNums byts
  obtain ⟨⟨l⟩⟩ := s
  rw [ByteArray.toList_eq]
  show ByteArray.mk _ = _
  congr 1
  simp only [List.map_map]
  congr 1
  exact (List.map_congr_left (g := id) fun b _ => by simp [Function.comp]).trans (List.map_id l)
section
variable {A : Nat → MsgV} {D : Nat → Int} {n b sb : Nat} {wa : World}
/-- Behind m deliveries. -/
structure RcD (wa : World) (b n sb : Nat) (A : Nat → MsgV) (D : Nat → Int) (m : Nat) (t0 : Int) (seen : Nat → Bool) (s : Net) (wr : World) : Prop where
  c : CN wa (fun j => j = sb) b n s wr
  row : Row wr 4 sb (bRow n seen)
  arr : s.arr = restA A D n seen
  len : s.arr.length + m = n
  tb : 0 ≤ t0 ∧ t0 ≤ 100000
  t : ∀ z, z ∈ s.arr → t0 ≤ z.t
def RcL (wa : World) (b n sb : Nat) (A : Nat → MsgV) (D : Nat → Int) (v lv : Value) (wr : World) : Prop :=
  ∃ (m : Nat) (t0 : Int) (seen : Nat → Bool) (s : Net), v = .int .i64 m ∧ lv = .int .i64 t0 ∧ RcD wa b n sb A D m t0 seen s wr
/-- In the search for the message. -/
def InD (wa w5 : World) (b n sb : Nat) (A : Nat → MsgV) (i0 : Nat) (s : Net) (seen : Nat → Bool) (tv fv iv : Value) (wr : World) : Prop :=
  (∃ q : Nat, q ≤ i0 ∧ tv = .int .i64 (tAt A q) ∧ fv = .bool false ∧ iv = .int .i64 q ∧ Below w5.heap.size w5 wr) ∨
  (∃ x, tv = .int .i64 x ∧ fv = .bool true ∧ iv = .int .i64 (i0 + 1 : Nat) ∧ CN wa (fun j => j = sb) b n s wr ∧ Row wr 4 sb (bRow n fun j => if j = i0 then true else seen j))
theorem dlA_bd (hD : ∀ i, i < 6 → 0 ≤ D i ∧ D i ≤ 65535) (i : Nat) : 0 ≤ dlA A D i ∧ dlA A D i ≤ 65535 := by
  unfold dlA
  split
  · exact hD _ (Nat.mod_lt _ (by omega))
  · omega
theorem sooner_t {x y : Arr} (h : ¬ sooner x y = true) : y.t ≤ x.t := by
  unfold sooner at h
  simp at h
  omega
/-- One delivery. -/
theorem RcD.next {m : Nat} {t0 : Int} {seen : Nat → Bool} {s : Net} {wr : World} (h : RcD wa b n sb A D m t0 seen s wr) (hg : ∀ i, i < n → 0 ≤ (A i).gap ∧ (A i).gap ≤ 255) (hD : ∀ i, i < 6 → 0 ≤ D i ∧ D i ≤ 65535) (hn : n ≤ 60) (hm : m < n) :
    ∃ i, i < n ∧ seen i = false ∧ s.at_ (bestN s s.arr.length) = mkA A D i ∧ (∀ j, j < i → seen j = false → ¬ (nodeS (A j).from_.toNat = nodeS (A i).from_.toNat ∧ nodeS (A j).to_.toNat = nodeS (A i).to_.toNat)) ∧
      0 < s.arr.length ∧ t0 ≤ (mkA A D i).t ∧ (mkA A D i).t ≤ 100000 ∧ ∀ w', CN wa (fun j => j = sb) b n s.recv w' → Row w' 4 sb (bRow n fun j => if j = i then true else seen j) → RcD wa b n sb A D (m + 1) (mkA A D i).t (fun j => if j = i then true else seen j) s.recv w' := by
  have hl := h.len
  have h0 : 0 < s.arr.length := by omega
  obtain ⟨i, hi, hs, hat, hfirst, hbest⟩ := rest_best h.arr (fun i hi => (hg i hi).1) h0
  have hbm := best_mem h0
  have ht := h.t _ hbm
  rw [hat] at ht
  have ht2 : (mkA A D i).t ≤ 100000 := by
    show tAt A (i + 1) + dlA A D i ≤ 100000
    have := tAt_le (A := A) (n := n) (fun i hi => (hg i hi).2) (show i + 1 ≤ n by omega)
    have := (dlA_bd (A := A) hD i).2
    omega
  have hlt := bestN_lt s _ h0
  have harr : s.recv.arr = restA A D n (fun j => if j = i then true else seen j) := by
    show s.arr.eraseIdx _ = _
    rw [hbest, h.arr]
    exact rest_erase hi hs
  refine ⟨i, hi, hs, hat, hfirst, h0, ht, ht2, fun w' hc hr => ⟨hc, hr, harr, ?_, ⟨by have := h.tb.1; omega, ht2⟩, fun z hz => ?_⟩⟩
  · show (s.arr.eraseIdx _).length + _ = _
    rw [List.length_eraseIdx_of_lt hlt]
    omega
  · have := sooner_t (best_min (recv_mem hz))
    rw [hat] at this
    exact this
end
end Go.Proofs.Ytkhiepjlfbjgdaa

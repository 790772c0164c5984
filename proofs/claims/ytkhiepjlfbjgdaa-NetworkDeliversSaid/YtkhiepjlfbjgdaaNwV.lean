/- network: Send for any arguments; the statements' helpers awake, node, is. Conditions: each contract names its own. -/
import Derived.Test.YtkhiepjlfbjgdaaNwU
import Derived.Lib.SlBytesConst
namespace Go.Proofs.Ytkhiepjlfbjgdaa
open Go.RowKit

noncomputable def sendS (s : Net) (t : Int) (x y : ByteArray) (data : List Int) : Net := if sendE s t = 0 then s.sent t x y data else s
section
variable {w : World} {P : Nat → Prop} {b : Nat} {s : Net}
theorem NPost.below {v : Value} {e : Ending} {w' : World} (h : NS w P b s) (he : e = .returned v) (hb : Below w.heap.size w w') : NPost P b v s w e w' :=
  ⟨he, (h.belowS hb).mono fun _ h => .inl h, Only.of_below hb fun k h1 h2 => by omega⟩
theorem n_send {ao : Option Addr} {n cp bk off cn : Nat} {X : Nat → Int} (h : NS w P b s) (g : NGd cn s) (hcn : cn ≤ 1000) (hPlt : ∀ k, P k → k < w.heap.size) {x y : ByteArray} (hx : x.size ≤ maxLen) (hy : y.size ≤ maxLen) (t : Int)
    (hX : IsBytes w ao n bk off X) (hXP : 0 < n → ¬ P bk) (hn : n ≤ 100000) :
    Calls Try.prog 17 #[.pointer (some ⟨b, 0, none⟩), .int .i64 t, .string x, .string y, .slice ao n cp] w (NPost P b (errV (sendE s t)) (sendS s t x y (lst n X)) w) := by
  by_cases h1 : t < 0
  · rw [show sendE s t = 1 from if_pos (.inl h1), show sendS s t x y (lst n X) = s from if_neg (by rw [show sendE s t = 1 from if_pos (.inl h1)]; decide)]
    exact (send_low b t x y _ w h1).mono fun _ _ he => .below h he.1 he.2
  · by_cases h2 : 1099511627776 < t
    · rw [show sendE s t = 1 from if_pos (.inr h2), show sendS s t x y (lst n X) = s from if_neg (by rw [show sendE s t = 1 from if_pos (.inr h2)]; decide)]
      exact (send_high b t x y _ w h2).mono fun _ _ he => .below h he.1 he.2
    · by_cases h3 : t < s.present
      · have e : sendE s t = 7 := by unfold sendE; rw [if_neg (by omega), if_pos h3]
        rw [e, show sendS s t x y (lst n X) = s from if_neg (by rw [e]; decide)]
        exact (send_late h t x y _ (by omega) (by omega) h3).mono fun _ _ he => .below h he.1 he.2
      · have e : sendE s t = 0 := by unfold sendE; rw [if_neg (by omega), if_neg h3]
        rw [e, show sendS s t x y (lst n X) = s.sent t x y (lst n X) from if_pos e]
        exact send_ok h g hcn hPlt hx hy (by omega) (by omega) (by omega) hX hXP hn
end
/-- The node's name. -/
def nodeS (k : Nat) : ByteArray := ([⟨#[97]⟩, ⟨#[98]⟩, ⟨#[99]⟩, ⟨#[100]⟩, ⟨#[]⟩, ⟨#[42]⟩] : List ByteArray).getD (k % 6) ⟨#[]⟩
theorem node_any (k : Nat) (hk : k ≤ 255) (w : World) : Calls Try.prog 13 #[.int .u8 k] w fun e w' => e = .returned (.string (nodeS k)) ∧ Below w.heap.size w w' := by
  have hB : Below w.heap.size w (w.alloc (.cells #[.string ⟨#[97]⟩, .string ⟨#[98]⟩, .string ⟨#[99]⟩, .string ⟨#[100]⟩, .string ⟨#[]⟩, .string ⟨#[42]⟩] 9)) := by go_grown
  have hr : k % 6 < 6 := Nat.mod_lt _ (by omega)
  have hc : (w.alloc (.cells #[.string ⟨#[97]⟩, .string ⟨#[98]⟩, .string ⟨#[99]⟩, .string ⟨#[100]⟩, .string ⟨#[]⟩, .string ⟨#[42]⟩] 9)).cell? ⟨w.heap.size, k % 6, none⟩ = some (.string (nodeS k)) := by
    rw [has_cell (heap_alloc_new w _)]
    unfold nodeS
    generalize k % 6 = r at hr
    match r, hr with
    | 0, _ => rfl
    | 1, _ => rfl
    | 2, _ => rfl
    | 3, _ => rfl
    | 4, _ => rfl
    | 5, _ => rfl
  obtain ⟨r, hm⟩ : ∃ r : Nat, (k : Int) % 6 = (r : Int) ∧ k % 6 = r := ⟨k % 6, by omega, rfl⟩
  rw [hm.2] at hc hr
  replace hm := hm.1
  generalize nodeS k = v at hc ⊢
  go_enter Try.func13, Try.ntmps13
  go_wp2
  go_ret
  exact ⟨rfl, hB⟩
theorem bys_bytes {w : World} {g : Nat} {l : List Int} {fr : Nat × Nat} (h : w.heap[g]? = some (.cells (bys l).toArray 5 fr)) (hl : ∀ x ∈ l, 0 ≤ x ∧ x ≤ 255) : IsBytes w (some ⟨g, 0, none⟩) l.length g 0 (fun i => l.getD i 0) where
  ao _ := rfl
  lt _ := lt_of_block h
  c i hi := by rw [has_cell h, Nat.zero_add, List.getElem?_toArray]; exact bys_get l i hi
  bd i hi := hl _ (by simp [List.getD, hi])
theorem nil_bytes (w : World) : IsBytes w none 0 0 0 (fun _ => 0) := ⟨by omega, by omega, by omega, by omega⟩
theorem nil_ints (w : World) : IsInts w none 0 0 0 (fun _ => 0) := ⟨by omega, by omega, by omega, by omega⟩
theorem lst_self (l : List Int) : lst l.length (fun i => l.getD i 0) = l := by
  apply List.ext_getElem
  · simp [lst]
  · intro i h1 h2
    simp [lst, List.getD, h2]
def AwP (w : World) (e : Ending) (w' : World) : Prop := e = .returned (.bool true) ∧ Below w.heap.size w w'
end Go.Proofs.Ytkhiepjlfbjgdaa

/- network: the bounds on numbers are kept; the next delivery is the soonest; Fate for any list that is accepted. Lists of messages, and lists of triples of numbers, that can be read; few. Conditions: none. -/
import Derived.Test.YtkhiepjlfbjgdaaZNwX
namespace Go.Proofs.Ytkhiepjlfbjgdaa
open Go.RowKit

section
variable {c : Nat} {s : Net}
theorem NGd.mono {c' : Nat} (g : NGd c s) (h : c ≤ c') : NGd c' s :=
  ⟨g.u, g.p0, g.p1, fun x y L hL => by obtain ⟨h1, h2, h3, h4⟩ := g.l x y L hL; exact ⟨h1, h2, by omega, h4⟩, g.m0, by have := g.m1; omega, g.o0, by have := g.o1; omega, by have := g.a; omega⟩
theorem NGd.setL (g : NGd c s) (x y : ByteArray) {L : Line} (h : badD L.delay = false ∧ 0 ≤ L.sent ∧ L.sent ≤ c ∧ ∀ i l, L.fates i = some l → l.length ≤ 4 ∧ ∀ d ∈ l, badD d = false) : NGd c (s.setL x y L) :=
  ⟨g.u, g.p0, g.p1, fun x' y' L' hL => by
    by_cases e : x' = x ∧ y' = y
    · obtain ⟨rfl, rfl⟩ := e
      rw [Net.setL_at] at hL
      obtain rfl := Option.some.inj hL
      exact h
    · rw [Net.setL_ne e] at hL
      exact g.l x' y' L' hL, g.m0, g.m1, g.o0, g.o1, g.a⟩
theorem NGd.touch (g : NGd c s) (x y : ByteArray) : NGd c (s.touch x y) := g.setL x y (g.get x y)
theorem NGd.fate (g : NGd c s) (x y : ByteArray) (i : Int) {l : List Int} (h1 : l.length ≤ 4) (h2 : ∀ d ∈ l, badD d = false) : NGd c (s.fate x y i l) := by
  refine g.setL x y ?_
  obtain ⟨a1, a2, a3, a4⟩ := g.get x y
  refine ⟨a1, a2, a3, fun j l' hl => ?_⟩
  unfold Line.setF at hl
  dsimp only at hl
  split at hl
  · obtain rfl := Option.some.inj hl; exact ⟨h1, h2⟩
  · exact a4 j l' hl
theorem NGd.delay (g : NGd c s) (x y : ByteArray) {d : Int} (h : badD d = false) : NGd c (s.delay x y d) := by
  obtain ⟨a1, a2, a3, a4⟩ := g.get x y
  exact g.setL x y ⟨h, a2, a3, a4⟩
theorem NGd.sent (g : NGd c s) {t : Int} (ht : 0 ≤ t) (ht2 : t ≤ 1099511627776) (x y : ByteArray) (data : List Int) : NGd (c + 1) (s.sent t x y data) := by
  obtain ⟨a1, a2, a3, a4⟩ := g.get x y
  have g1 : NGd (c + 1) (s.setL x y { s.get x y with sent := (s.get x y).sent + 1 }) := (g.mono (by omega)).setL x y ⟨a1, by show 0 ≤ _ + 1; omega, by show _ + 1 ≤ _; omega, a4⟩
  have hl := (g.list t x y).1
  have := g.m0
  have := g.m1
  have := g.o0
  have := g.o1
  have := g.a
  refine ⟨g1.u, ht, by show t ≤ _; omega, g1.l, by show 0 ≤ s.msgs + 1; omega, by show s.msgs + 1 ≤ _; omega, ?_, ?_, ?_⟩
  · show 0 ≤ s.lost + _
    split <;> omega
  · show s.lost + _ ≤ _
    split <;> omega
  · show (s.arr ++ news t x y data (s.msgs + 1) (s.list t x y) (s.list t x y).length).length ≤ _
    rw [List.length_append]
    simp only [news, List.length_map, List.length_range]
    omega
theorem NGd.recv (g : NGd c s) (hx : 0 ≤ (s.at_ (bestN s s.arr.length)).t) (hx2 : (s.at_ (bestN s s.arr.length)).t ≤ 1152921504606846976) : NGd c s.recv := by
  have := g.p0
  have := g.p1
  have h1 := g.a
  refine ⟨g.u, by show 0 ≤ max s.present _; omega, by show max s.present _ ≤ _; omega, g.l, g.m0, g.m1, g.o0, g.o1, ?_⟩
  show (s.arr.eraseIdx _).length ≤ _
  have := List.length_eraseIdx_le s.arr (bestN s s.arr.length)
  omega
end
/-- The next delivery is the soonest. -/
theorem sooner_le {x y : Arr} (h : sooner x y = true) : x.t ≤ y.t := by
  unfold sooner at h
  simp at h
  omega
theorem not_sooner {x y : Arr} (h : ¬ sooner x y = true) : y.t ≤ x.t := by
  unfold sooner at h
  simp at h
  omega
theorem bestN_le (s : Net) : ∀ (k i : Nat), i < k → (s.at_ (bestN s k)).t ≤ (s.at_ i).t
  | 0, i, h => by omega
  | k + 1, i, h => by
    rw [bestN]
    split
    · rename_i hs
      have h1 := sooner_le hs
      by_cases e : i = k
      · rw [e]; omega
      · have := bestN_le s k i (by omega); omega
    · rename_i hs
      have h1 := not_sooner hs
      by_cases e : i = k
      · rw [e]; omega
      · exact bestN_le s k i (by omega)
theorem mem_at {s : Net} {z : Arr} (h : z ∈ s.arr) : ∃ i, i < s.arr.length ∧ s.at_ i = z := by
  obtain ⟨i, hi, rfl⟩ := List.getElem_of_mem h
  exact ⟨i, hi, by unfold Net.at_; simp [List.getD, hi]⟩
theorem at_mem {s : Net} {i : Nat} (h : i < s.arr.length) : s.at_ i ∈ s.arr := by
  unfold Net.at_; simp [List.getD, h]
theorem best_le {s : Net} {z : Arr} (h : z ∈ s.arr) : (s.at_ (bestN s s.arr.length)).t ≤ z.t := by
  obtain ⟨i, hi, rfl⟩ := mem_at h
  exact bestN_le s _ i hi
theorem best_mem {s : Net} (h : 0 < s.arr.length) : s.at_ (bestN s s.arr.length) ∈ s.arr := at_mem (bestN_lt s _ h)
theorem recv_mem {s : Net} {z : Arr} (h : z ∈ s.recv.arr) : z ∈ s.arr := (List.eraseIdx_sublist _ _).mem h
/-- What a Fate that is in range makes. -/
noncomputable def fateS (s : Net) (x y : ByteArray) (i : Int) (l : List Int) : Net := if ((s.get x y).fates i).isSome = true ∨ i < (s.get x y).sent then s.touch x y else s.fate x y i l
noncomputable def fateE (s : Net) (x y : ByteArray) (i : Int) : Int := if ((s.get x y).fates i).isSome = true ∨ i < (s.get x y).sent then 4 else 0
theorem n_fate {w : World} {P : Nat → Prop} {b : Nat} {s : Net} {ao : Option Addr} {n c bk off : Nat} {X : Nat → Int} (h : NS w P b s) {x y : ByteArray} (hx : x.size ≤ maxLen) (hy : y.size ≤ maxLen) {i : Int} (hX : IsInts w ao n bk off X) (hXP : 0 < n → ¬ P bk) (hi : 0 ≤ i) (hi2 : i ≤ 9223372036854775807) (hn : n ≤ 4) (hb : firstBad n X = true) :
    Calls Try.prog 12 #[.pointer (some ⟨b, 0, none⟩), .string x, .string y, .int .i64 i, .slice ao n c] w (NPost P b (errV (fateE s x y i)) (fateS s x y i (lst n X)) w) := by
  unfold fateE fateS
  by_cases hs : ((s.get x y).fates i).isSome = true ∨ i < (s.get x y).sent
  · rw [if_pos hs, if_pos hs]
    exact fate_there h hx hy hX hi hi2 hn hb hs
  · rw [if_neg hs, if_neg hs]
    refine fate_ok h hx hy hX hXP hi hi2 hn hb ?_ (by omega)
    cases hf : (s.get x y).fates i with
    | none => rfl
    | some l => exact absurd (.inl (by rw [hf]; rfl)) hs
theorem fateS_same (s : Net) (x y : ByteArray) (i : Int) (l : List Int) : (fateS s x y i l).arr = s.arr ∧ (fateS s x y i l).present = s.present ∧ (fateS s x y i l).lost = s.lost ∧ (fateS s x y i l).msgs = s.msgs := by
  unfold fateS
  split <;> exact ⟨rfl, rfl, rfl, rfl⟩
theorem NGd.fateS {c : Nat} {s : Net} (g : NGd c s) (x y : ByteArray) (i : Int) {l : List Int} (h1 : l.length ≤ 4) (h2 : ∀ d ∈ l, badD d = false) : NGd c (fateS s x y i l) := by
  unfold Go.Proofs.Ytkhiepjlfbjgdaa.fateS
  split
  · exact g.touch x y
  · exact g.fate x y i h1 h2
end Go.Proofs.Ytkhiepjlfbjgdaa

namespace Go.Proofs.Ytkhiepjlfbjgdaa
open Go.RowKit

structure MsgV where
  gap : Int
  from_ : Int
  to_ : Int
  data : ByteArray
/-- The slice of messages at ao. -/
structure IsMsgs (w : World) (ao : Option Addr) (n b off : Nat) (A : Nat → MsgV) : Prop where
  ao : 0 < n → ao = some ⟨b, off, none⟩
  lt : 0 < n → b < w.heap.size
  c : ∀ i, i < n → w.cell? ⟨b, off + i * 4, none⟩ = some (.int .u8 (A i).gap) ∧ w.cell? ⟨b, off + i * 4 + 1, none⟩ = some (.int .u8 (A i).from_) ∧ w.cell? ⟨b, off + i * 4 + 2, none⟩ = some (.int .u8 (A i).to_) ∧ w.cell? ⟨b, off + i * 4 + 3, none⟩ = some (.string (A i).data)
  bd : ∀ i, i < n → (0 ≤ (A i).gap ∧ (A i).gap ≤ 255) ∧ (0 ≤ (A i).from_ ∧ (A i).from_ ≤ 255) ∧ (0 ≤ (A i).to_ ∧ (A i).to_ ≤ 255) ∧ (A i).data.size ≤ maxLen
theorem IsMsgs.belowS {w w' : World} {ao : Option Addr} {n b off : Nat} {A : Nat → MsgV} (h : IsMsgs w ao n b off A) {B : Nat} (hb : Below B w w') (hB : w.heap.size ≤ B) : IsMsgs w' ao n b off A :=
  ⟨h.ao, fun h0 => Nat.lt_of_lt_of_le (h.lt h0) hb.size, fun i hi => by
    have hl := h.lt (by omega)
    obtain ⟨c0, c1, c2, c3⟩ := h.c i hi
    exact ⟨(hb.cell (p := ⟨b, _, none⟩) (by simp; omega)).trans c0, (hb.cell (p := ⟨b, _, none⟩) (by simp; omega)).trans c1, (hb.cell (p := ⟨b, _, none⟩) (by simp; omega)).trans c2, (hb.cell (p := ⟨b, _, none⟩) (by simp; omega)).trans c3⟩, h.bd⟩
/-- The slice of triples at ao. -/
structure IsTrip (w : World) (ao : Option Addr) (n b off : Nat) (X : Nat → Nat → Int) : Prop where
  ao : 0 < n → ao = some ⟨b, off, none⟩
  lt : 0 < n → b < w.heap.size
  c : ∀ i, i < n → ∀ j, j < 3 → w.cell? ⟨b, off + i * 3 + j, none⟩ = some (.int .u16 (X i j)) ∧ 0 ≤ X i j ∧ X i j ≤ 65535
theorem IsTrip.belowS {w w' : World} {ao : Option Addr} {n b off : Nat} {X : Nat → Nat → Int} (h : IsTrip w ao n b off X) {B : Nat} (hb : Below B w w') (hB : w.heap.size ≤ B) : IsTrip w' ao n b off X :=
  ⟨h.ao, fun h0 => Nat.lt_of_lt_of_le (h.lt h0) hb.size, fun i hi j hj => ⟨(hb.cell (p := ⟨b, _, none⟩) (by have := h.lt (by omega); simp; omega)).trans (h.c i hi j hj).1, (h.c i hi j hj).2⟩⟩
def fewB (n : Nat) (A : Nat → MsgV) : Bool := decide ((∀ i, i < n → (A i).data.size ≤ 1000) ∧ n ≤ 60)
theorem few_any {ao : Option Addr} {n c b off : Nat} {A : Nat → MsgV} (w : World) (h : IsMsgs w ao n b off A) (hn : n ≤ 9223372036854775807) :
    Calls Try.prog 10 #[.slice ao n c] w fun e w' => e = .returned (.bool (fewB n A)) ∧ w' = w := by
  have H := Lib.hid h
  clear h
  go_enter Try.func10, Try.ntmps10
  go_wp2_with fail
  go_loopw [3] (fun i wr => ∃ k : Nat, k ≤ n ∧ i = .int .i64 k ∧ (∀ i, i < k → (A i).data.size ≤ 1000) ∧ wr = w) (fun i _ => n - (intOf i).toNat)
  case atStart => exact ⟨0, Nat.zero_le _, rfl, by omega, rfl⟩
  case round =>
    obtain ⟨k, hk, rfl, hA, rfl⟩ := hrel
    have HA := Lib.hid hA
    clear hA
    by_cases hlt : k < n
    · obtain rfl := H.out.ao (by omega)
      have c3 := (H.out.c k hlt).2.2.2
      have hm := (H.out.bd k hlt).2.2.2
      unfold maxLen at hm
      generalize hs : (A k).data = sd at c3 hm
      have HS := Lib.hid hs
      clear hs
      by_cases h1 : sd.size ≤ 1000
      · have d : decide ((1000 : Int) < (sd.size : Int)) = false := by simp; omega
        go_wp2
        go_roundw
        case rel => exact ⟨k + 1, by omega, by go_num, fun i hi => by
          by_cases e : i = k
          · subst e; rw [HS.out]; exact h1
          · exact HA.out i (by omega), by first | rfl | trivial⟩
        case measure => simp [intOf]; omega
      · have d : decide ((1000 : Int) < (sd.size : Int)) = true := by simp; omega
        have HR := Lib.hid (show fewB n A = false from decide_eq_false (fun h => by have := h.1 k hlt; rw [HS.out] at this; omega))
        clear h1
        go_wp2
        go_ret
        rw [HR.out]
        exact ⟨rfl, rfl⟩
    · obtain rfl : k = n := by omega
      by_cases h6 : k ≤ 60
      · have HR := Lib.hid (show fewB k A = true from decide_eq_true ⟨HA.out, h6⟩)
        have d : decide ((k : Int) ≤ 60) = true := by simp; omega
        go_wp2
        go_ret
        rw [HR.out]
        exact ⟨rfl, rfl⟩
      · have HR := Lib.hid (show fewB k A = false from decide_eq_false (fun h => by omega))
        have d : decide ((k : Int) ≤ 60) = false := by simp; omega
        go_wp2
        go_ret
        rw [HR.out]
        exact ⟨rfl, rfl⟩
end Go.Proofs.Ytkhiepjlfbjgdaa

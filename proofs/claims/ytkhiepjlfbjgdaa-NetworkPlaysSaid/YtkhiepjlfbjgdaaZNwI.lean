/- network: first, Next. Conditions: none. -/
import Derived.Test.YtkhiepjlfbjgdaaZNwH
namespace Go.Proofs.Ytkhiepjlfbjgdaa
open Go.RowKit

def dArr : Arr := ⟨0, ByteArray.empty, ByteArray.empty, [], 0, 0⟩
def Net.at_ (s : Net) (i : Nat) : Arr := s.arr.getD i dArr
def sooner (x y : Arr) : Bool := decide (x.t < y.t) || (decide (x.t = y.t) && (decide (x.msg < y.msg) || (decide (x.msg = y.msg) && decide (x.copy < y.copy))))
/-- The soonest of the first k. -/
def bestN (s : Net) : Nat → Nat
  | 0 => 0
  | k + 1 => if sooner (s.at_ k) (s.at_ (bestN s k)) = true then k else bestN s k
theorem bestN_lt (s : Net) : ∀ k, 0 < k → bestN s k < k
  | 0, h => by omega
  | k + 1, _ => by
    rw [bestN]
    split
    · omega
    · by_cases h : 0 < k
      · have := bestN_lt s k h; omega
      · obtain rfl : k = 0 := by omega
        show 0 < 1; omega
section
variable {w : World} {P : Nat → Prop} {b : Nat} {q : NG} {s : Net}
theorem NetAt.alen (h : NetAt w b q s) : q.A.length = s.arr.length := by rw [← h.a, List.length_map]
theorem NetAt.arrC (h : NetAt w b q s) {g off n cap : Nat} (hv : q.va = .slice (some ⟨g, off, none⟩) n cap) {i : Nat} (hi : i < s.arr.length) : ∃ vo vc, w.cell? ⟨g, off + i * 6, none⟩ = some (.int .i64 (s.at_ i).t) ∧ w.cell? ⟨g, off + i * 6 + 1, none⟩ = some (.string (s.at_ i).a) ∧ w.cell? ⟨g, off + i * 6 + 2, none⟩ = some (.string (s.at_ i).b) ∧
    w.cell? ⟨g, off + i * 6 + 3, none⟩ = some (.slice vo (s.at_ i).data.length vc) ∧ w.cell? ⟨g, off + i * 6 + 4, none⟩ = some (.int .i64 (s.at_ i).msg) ∧ w.cell? ⟨g, off + i * 6 + 5, none⟩ = some (.int .i64 (s.at_ i).copy) ∧ OL w 5 1 (.slice vo (s.at_ i).data.length vc) (s.at_ i).data.length (bys (s.at_ i).data) := by
  have hl := h.alen
  have hr := h.r
  rw [hv] at hr
  have hn : n = q.A.length := by rcases hr.forms with ⟨e, _⟩ | ⟨_, _, _, e, _⟩ <;> simp at e; exact e.2.1
  subst hn
  have hiA : i < q.A.length := by omega
  have e : s.at_ i = q.A[i].1 := by
    unfold Net.at_
    rw [← h.a]
    simp [List.getD, hiA]
  obtain ⟨c0, c1, c2, c3, c4, c5⟩ := arrCells_get q.A i hiA
  have hd := h.d q.A[i] (List.getElem_mem hiA)
  obtain ⟨vo, vc, hvo⟩ : ∃ vo vc, q.A[i].2 = .slice vo q.A[i].1.data.length vc := by
    rcases hd.forms with ⟨e, e0⟩ | ⟨_, _, cc, e, _⟩
    · exact ⟨none, 0, by rw [e, e0]⟩
    · exact ⟨_, cc, e⟩
  rw [hvo] at c3 hd
  rw [e]
  exact ⟨vo, vc, by rw [hr.cell (i * 6) (by omega)]; exact c0, by rw [Nat.add_assoc, hr.cell (i * 6 + 1) (by omega)]; exact c1, by rw [Nat.add_assoc, hr.cell (i * 6 + 2) (by omega)]; exact c2, by rw [Nat.add_assoc, hr.cell (i * 6 + 3) (by omega)]; exact c3,
    by rw [Nat.add_assoc, hr.cell (i * 6 + 4) (by omega)]; exact c4, by rw [Nat.add_assoc, hr.cell (i * 6 + 5) (by omega)]; exact c5, hd⟩
def FirstP (s : Net) (w : World) (e : Ending) (w' : World) : Prop := e = .returned (.tuple #[.int .i64 (bestN s s.arr.length), .bool (decide (0 < s.arr.length))]) ∧ Below w.heap.size w w'
theorem first_none (h : NS w P b s) (h0 : s.arr.length = 0) : Calls Try.prog 31 #[.pointer (some ⟨b, 0, none⟩)] w (FirstP s w) := by
  obtain ⟨q, h, _⟩ := h
  obtain ⟨q, ao, cap, h, _, c4⟩ := NetAt.va ⟨q, h⟩
  unfold FirstP
  rw [h0] at c4 ⊢
  clear h
  go_enter Try.func31, Try.ntmps31
  go_wp2
  go_ret2
  exact ⟨rfl, Below.refl _ _⟩
set_option maxRecDepth 100000 in
set_option maxHeartbeats 1600000 in
theorem first_some (h : NS w P b s) (h0 : 0 < s.arr.length) : Calls Try.prog 31 #[.pointer (some ⟨b, 0, none⟩)] w (FirstP s w) := by
  obtain ⟨q, h, _⟩ := h
  have hl := h.alen
  have hc4 : w.cell? ⟨b, 4, none⟩ = some q.va := has_cell h.c 4
  obtain ⟨g, off, cap, hv, _, hcap, _⟩ := h.r.form (by omega)
  rw [hl] at hv
  rw [hv] at hc4
  unfold maxLen at hcap
  have hmax : s.arr.length ≤ 9223372036854775807 := by have := h.r.forms; rcases this with ⟨e, _⟩ | ⟨_, _, c2, e, h1, h2, _⟩ <;> rw [hv] at e <;> simp at e; (unfold maxLen at h2; omega)
  have H := Lib.hid h
  have HV0 := Lib.hid hv
  have hd0 : decide (0 < s.arr.length) = true := by simp; omega
  unfold FirstP
  rw [hd0]
  have hd1 : ((s.arr.length : Int) == 0) = false := by rw [beq_eq_false_iff_ne]; omega
  clear h hv hl
  have HV := HV0
  generalize hN : s.arr.length = N at hc4 hmax h0 hd1 HV ⊢
  clear HV0
  clear hd0
  go_enter Try.func31, Try.ntmps31
  go_wp2_with fail
  go_loopw [4, 23] (fun m i wr => ∃ k : Nat, k ≤ N ∧ i = .int .i64 k ∧ m = .int .i64 (bestN s k) ∧ Below w.heap.size w wr) (fun _ i _ => N - (intOf i).toNat)
  case atStart => exact ⟨0, Nat.zero_le _, rfl, rfl, Below.refl _ _⟩
  case round =>
    obtain ⟨k, hk, rfl, rfl, hB⟩ := hrel
    by_cases hlt : k < N
    · have hb4 : wr.cell? ⟨b, 4, none⟩ = some (.slice (some ⟨g, off, none⟩) N cap) := (hB.cell (p := ⟨b, 4, none⟩) (lt_of_block H.out.c)).trans hc4
      have hbk : bestN s k < N := by
        by_cases h : 0 < k
        · have := bestN_lt s k h; omega
        · obtain rfl : k = 0 := by omega
          exact h0
      have hW := H.out.belowS hB
      obtain ⟨va, vac, a0, a1, a2, a3, a4, a5, _⟩ := hW.arrC HV.out (i := k) (by omega)
      have hstep : ∀ m : Nat, (if sooner (s.at_ k) (s.at_ (bestN s k)) = true then k else bestN s k) = m → bestN s (k + 1) = m := fun m hm => hm
      have HST := Lib.hid hstep
      clear hstep
      generalize s.at_ k = x at a0 a1 a2 a3 a4 a5 HST
      have hWx := hW.belowS (w' := wr.alloc (.cells #[.int .i64 x.t, .string x.a, .string x.b, .slice va x.data.length vac, .int .i64 x.msg, .int .i64 x.copy] 98)) ((Below.refl _ _).alloc (Nat.le_refl _) _)
      have hb4x : (wr.alloc (.cells #[.int .i64 x.t, .string x.a, .string x.b, .slice va x.data.length vac, .int .i64 x.msg, .int .i64 x.copy] 98)).cell? ⟨b, 4, none⟩ = some (.slice (some ⟨g, off, none⟩) N cap) := by rw [has_cell hWx.c 4, ← HV.out]; rfl
      obtain ⟨vb, vbc, b0, b1, b2, b3, b4, b5, _⟩ := hWx.arrC HV.out (i := bestN s k) (by omega)
      clear hW hWx
      generalize s.at_ (bestN s k) = y at b0 b1 b2 b3 b4 b5 HST
      generalize bestN s k = m at hbk b0 b1 b2 b3 b4 b5 HST
      have hBx : Below w.heap.size w ((wr.alloc (.cells #[.int .i64 x.t, .string x.a, .string x.b, .slice va x.data.length vac, .int .i64 x.msg, .int .i64 x.copy] 98)).alloc (.cells #[.int .i64 y.t, .string y.a, .string y.b, .slice vb y.data.length vbc, .int .i64 y.msg, .int .i64 y.copy] 98)) := (hB.alloc hB.size _).alloc (by have := hB.size; simp; omega) _
      clear hB
      by_cases h1 : x.t < y.t
      · have HS := Lib.hid (show sooner x y = true from by unfold sooner; simp; omega)
        have d1 : decide (x.t < y.t) = true := by simp; omega
        (try clear h5); (try clear h4); (try clear h3); (try clear h2); (try clear h1)
        go_wp2
        go_roundw
        case rel => exact ⟨k + 1, by omega, by go_num, by rw [HST.out k (by rw [HS.out]; rfl)], hBx⟩
        case measure => simp [intOf]; omega
      · by_cases h2 : x.t = y.t
        · by_cases h3 : x.msg < y.msg
          · have HS := Lib.hid (show sooner x y = true from by unfold sooner; simp; omega)
            have d1 : decide (x.t < y.t) = false := by simp; omega
            have d2 : (x.t == y.t) = true := by rw [beq_iff_eq]; omega
            have d3 : decide (x.msg < y.msg) = true := by simp; omega
            (try clear h5); (try clear h4); (try clear h3); (try clear h2); (try clear h1)
            go_wp2
            go_roundw
            case rel => exact ⟨k + 1, by omega, by go_num, by rw [HST.out k (by rw [HS.out]; rfl)], hBx⟩
            case measure => simp [intOf]; omega
          · by_cases h4 : x.msg = y.msg
            · by_cases h5 : x.copy < y.copy
              · have HS := Lib.hid (show sooner x y = true from by unfold sooner; simp; omega)
                have d1 : decide (x.t < y.t) = false := by simp; omega
                have d2 : (x.t == y.t) = true := by rw [beq_iff_eq]; omega
                have d3 : decide (x.msg < y.msg) = false := by simp; omega
                have d4 : (x.msg == y.msg) = true := by rw [beq_iff_eq]; omega
                have d5 : decide (x.copy < y.copy) = true := by simp; omega
                (try clear h5); (try clear h4); (try clear h3); (try clear h2); (try clear h1)
                go_wp2
                go_roundw
                case rel => exact ⟨k + 1, by omega, by go_num, by rw [HST.out k (by rw [HS.out]; rfl)], hBx⟩
                case measure => simp [intOf]; omega
              · have HS := Lib.hid (show sooner x y = false from by unfold sooner; simp; omega)
                have d1 : decide (x.t < y.t) = false := by simp; omega
                have d2 : (x.t == y.t) = true := by rw [beq_iff_eq]; omega
                have d3 : decide (x.msg < y.msg) = false := by simp; omega
                have d4 : (x.msg == y.msg) = true := by rw [beq_iff_eq]; omega
                have d5 : decide (x.copy < y.copy) = false := by simp; omega
                (try clear h5); (try clear h4); (try clear h3); (try clear h2); (try clear h1)
                go_wp2
                go_roundw
                case rel => exact ⟨k + 1, by omega, by go_num, by rw [HST.out m (by rw [HS.out]; rfl)], hBx⟩
                case measure => simp [intOf]; omega
            · have HS := Lib.hid (show sooner x y = false from by unfold sooner; simp; omega)
              have d1 : decide (x.t < y.t) = false := by simp; omega
              have d2 : (x.t == y.t) = true := by rw [beq_iff_eq]; omega
              have d3 : decide (x.msg < y.msg) = false := by simp; omega
              have d4 : (x.msg == y.msg) = false := by rw [beq_eq_false_iff_ne]; omega
              (try clear h5); (try clear h4); (try clear h3); (try clear h2); (try clear h1)
              go_wp2
              go_roundw
              case rel => exact ⟨k + 1, by omega, by go_num, by rw [HST.out m (by rw [HS.out]; rfl)], hBx⟩
              case measure => simp [intOf]; omega
        · have HS := Lib.hid (show sooner x y = false from by unfold sooner; simp; omega)
          have d1 : decide (x.t < y.t) = false := by simp; omega
          have d2 : (x.t == y.t) = false := by rw [beq_eq_false_iff_ne]; omega
          (try clear h5); (try clear h4); (try clear h3); (try clear h2); (try clear h1)
          go_wp2
          go_roundw
          case rel => exact ⟨k + 1, by omega, by go_num, by rw [HST.out m (by rw [HS.out]; rfl)], hBx⟩
          case measure => simp [intOf]; omega
    · obtain rfl : k = N := by omega
      go_wp2
      go_ret2
      exact ⟨rfl, hB⟩
end
end Go.Proofs.Ytkhiepjlfbjgdaa

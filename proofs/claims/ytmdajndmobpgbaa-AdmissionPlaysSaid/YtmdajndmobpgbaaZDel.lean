/- Deleting an element of a slice: what append(v[:i], v[i+1:]...) and clear make of it. Over any program. -/
import Derived.Test.YtmdajndmobpgbaaZErr
namespace Go.Proofs.Ytmdajndmobpgbaa
open Go.RowKit

section
variable {w : World} {e : TypeId} {size n g off cap : Nat} {xs : List Value}
theorem OL.splice (h : OL w e size (.slice (some ⟨g, off, none⟩) n cap) n xs) (i : Nat) (hi : i < n) :
    OL (w.setCells g (off + i * size) (xs.drop ((i + 1) * size))) e size (.slice (some ⟨g, off, none⟩) (n - 1) cap) (n - 1) (xs.take (i * size) ++ xs.drop ((i + 1) * size)) := by
  have hlen := h.1
  rcases h.2 with ⟨h', _⟩ | ⟨g', off', cap', cur, h', hg, hnc, hcm, hsz, ht⟩
  · simp at h'
  · simp only [Value.slice.injEq, Option.some.injEq, Addr.mk.injEq, and_true, true_and] at h'
    obtain ⟨⟨rfl, rfl⟩, rfl⟩ := h'
    have e1 : (i + 1) * size = i * size + size := Nat.succ_mul ..
    have e2 : (n - 1) * size + size = n * size := by rw [← Nat.succ_mul]; congr 1; omega
    have e3 : (i + 1) * size ≤ n * size := Nat.mul_le_mul_right _ hi
    have e4 : n * size ≤ cap * size := Nat.mul_le_mul_right _ hnc
    have hd : (xs.drop ((i + 1) * size)).length = n * size - (i + 1) * size := by rw [List.length_drop, hlen]
    obtain ⟨cur', h2, h3, h4⟩ := setCells_block g (xs.drop ((i + 1) * size)) (off + i * size) w cur e (0, 0) hg (by rw [hd]; omega)
    have htk : (xs.take (i * size)).length = i * size := by rw [List.length_take, hlen]; omega
    have hl : (xs.take (i * size) ++ xs.drop ((i + 1) * size)).length = (n - 1) * size := by rw [List.length_append, htk, hd]; omega
    refine ⟨hl, .inr ⟨g, off, cap, cur', rfl, h2, by omega, hcm, by omega, ?_⟩⟩
    have e5 : (cur.toList.take (off + i * size)).drop off = xs.take (i * size) := by
      rw [List.drop_take, ← ht, List.take_take, Nat.add_sub_cancel_left, Nat.min_eq_left (by omega)]
    have hl1 : (cur.toList.take (off + i * size)).length = off + i * size := by rw [List.length_take, Array.length_toList]; omega
    rw [h4, List.append_assoc, List.drop_append_of_le_length (by omega), e5, ← List.append_assoc, ← hl]
    exact List.take_left
theorem OL.beyond (h : OL w e size (.slice (some ⟨g, off, none⟩) n cap) n xs) (o : Nat) (vs : List Value) (h1 : off + n * size ≤ o) (h2 : o + vs.length ≤ off + cap * size) :
    OL (w.setCells g o vs) e size (.slice (some ⟨g, off, none⟩) n cap) n xs := by
  rcases h.2 with ⟨h', _⟩ | ⟨g', off', cap', cur, h', hg, hnc, hcm, hsz, ht⟩
  · simp at h'
  · simp only [Value.slice.injEq, Option.some.injEq, Addr.mk.injEq, and_true, true_and] at h'
    obtain ⟨⟨rfl, rfl⟩, rfl⟩ := h'
    obtain ⟨cur', h3, h4, h5⟩ := setCells_block g vs o w cur e (0, 0) hg (by omega)
    refine ⟨h.1, .inr ⟨g, off, cap, cur', rfl, h3, hnc, hcm, by omega, ?_⟩⟩
    have hl1 : (cur.toList.take o).length = o := by rw [List.length_take, Array.length_toList]; omega
    rw [h5, List.append_assoc, List.drop_append_of_le_length (by omega), List.take_append_of_le_length (by rw [List.length_drop]; omega), List.drop_take, List.take_take, Nat.min_eq_left (by omega)]
    exact ht
theorem OL.isSome (h : OL w e size (.slice (some ⟨g, off, none⟩) n cap) n xs) (j : Nat) (hj : j < cap * size) : (w.cell? ⟨g, off + j, none⟩).isSome = true := by
  rcases h.2 with ⟨h', _⟩ | ⟨g', off', cap', cur, h', hg, hnc, hcm, hsz, ht⟩
  · simp at h'
  · simp only [Value.slice.injEq, Option.some.injEq, Addr.mk.injEq, and_true, true_and] at h'
    obtain ⟨⟨rfl, rfl⟩, rfl⟩ := h'
    have : w.cell? ⟨g, off + j, none⟩ = cur[off + j]? := by simp [World.cell?, hg]
    rw [this, Array.getElem?_eq_getElem (by omega)]; rfl
end
theorem clear_run {P : Program} (w : World) (ty t e : TypeId) (z : Value) (zs : List Value) (hu : P.underlying t = some (.slice e)) (hv : (zeroValue e).run P w = .ok z w) (hz : (Builtin.zeroCells z.cells 1).toList = zs) (hone : ∀ v ∈ zs, v.oneCell' = true) (g o c : Nat) (hc : ∀ j, j < zs.length → (w.cell? ⟨g, o + j, none⟩).isSome = true) (hf : ∀ j, w.frozen? ⟨g, j, none⟩ = false) :
    (Builtin.clear_ #[t] ty #[.slice (some ⟨g, o, none⟩) 1 c]).run P w = .ok (.tuple #[]) (w.setCells g o zs) := by
  have hst := run_storeCells_cells (P := P) g o zs 0 w (by simpa using hc) (by intro j _; exact hf _) hone
  simp only [Nat.add_zero] at hst
  simp [Builtin.clear_, run_underlying hu, hv, hz, hst]
/-- What deleting element i leaves: the run of append, the run of clear behind it, the row, and what was written. -/
structure DelR (P : Program) (t e : TypeId) (size : Nat) (zs : List Value) (g off cap n i : Nat) (xs : List Value) (w : World) (A : Addr) (W1 W2 : World) : Prop where
  a : (if cap = i + 1 then (some ⟨g, off, none⟩ : Option Addr) else some ⟨g, off + (i + 1) * size, none⟩) = some A
  ap : (Builtin.append_ #[t, t] t #[.slice (some ⟨g, off, none⟩) i cap, .slice (some A) (n - (i + 1)) (cap - (i + 1))]).run P w.drew = .ok (.slice (some ⟨g, off, none⟩) (n - 1) cap) W1
  cl : ∀ ty, (Builtin.clear_ #[t] ty #[.slice (some ⟨g, off + (n - 1) * size, none⟩) 1 (cap - (n - 1))]).run P W1 = .ok (.tuple #[]) W2
  ol : OL W2 e size (.slice (some ⟨g, off, none⟩) (n - 1) cap) (n - 1) (xs.take (i * size) ++ xs.drop ((i + 1) * size))
  gr : w.grownBy W2 (some g)
  cn : n ≤ cap
  cm : cap ≤ maxLen
theorem OL.del {P : Program} {w : World} {t e : TypeId} {size : Nat} {g off cap n i : Nat} {xs : List Value} (h : OL w e size (.slice (some ⟨g, off, none⟩) n cap) n xs) (hi : i < n) (hone : ∀ u ∈ xs, u.oneCell' = true) (z : Value) (zs : List Value) (bytes : Nat)
    (hu : P.underlying t = some (.slice e)) (hinfo : (P.info? e).map (fun i => (i.zero, i.size, i.bytes)) = some (some z, size, bytes)) (hz : (Builtin.zeroCells z.cells 1).toList = zs) (hzl : zs.length = size) (hzo : ∀ v ∈ zs, v.oneCell' = true) (hzv : ∀ w, (zeroValue e).run P w = .ok z w) :
    ∃ A W1 W2, DelR P t e size zs g off cap n i xs w A W1 W2 := by
  obtain ⟨i0, hi0, hz0, hz1, hz2⟩ := info_parts hinfo
  have hD := (OL.heap (w' := w.drew) h fun _ _ => rfl)
  have hS := hD.splice i hi
  obtain ⟨_, _, _, hE, hnc, hcm, _⟩ := h.form (by omega)
  simp only [Value.slice.injEq, Option.some.injEq, Addr.mk.injEq, and_true, true_and] at hE
  obtain ⟨⟨rfl, rfl⟩, rfl⟩ := hE
  have hlen := h.1
  have e1 : (i + 1) * size = i * size + size := Nat.succ_mul ..
  have e2 : (n - 1) * size + size = n * size := by rw [← Nat.succ_mul]; congr 1; omega
  have e3 : (i + 1) * size ≤ n * size := Nat.mul_le_mul_right _ hi
  have e4 : n * size ≤ cap * size := Nat.mul_le_mul_right _ hnc
  have e5 : (n - (i + 1)) * size = n * size - (i + 1) * size := Nat.sub_mul ..
  have hn1 : (xs.drop ((i + 1) * size)).length = (n - (i + 1)) * size := by rw [List.length_drop, hlen, e5]
  have hone1 : ∀ u ∈ xs.drop ((i + 1) * size), u.oneCell' = true := fun u hu => hone u (List.mem_of_mem_drop hu)
  obtain ⟨A, hA, hsrc⟩ : ∃ A : Addr, (if cap = i + 1 then (some ⟨g, off, none⟩ : Option Addr) else some ⟨g, off + (i + 1) * size, none⟩) = some A ∧ Src P size t (.slice (some A) (n - (i + 1)) (cap - (i + 1))) (n - (i + 1)) (xs.drop ((i + 1) * size)) w.drew := by
    by_cases hc : cap = i + 1
    · refine ⟨_, if_pos hc, Src.ofSlice (size := size) _ hu _ _ _ _ hn1 (fun j u hu => ?_) hone1⟩
      have := (List.getElem?_eq_some_iff.1 hu).1
      have h0 : n - (i + 1) = 0 := by omega
      rw [hn1, h0] at this
      omega
    · refine ⟨_, if_neg hc, Src.ofSlice (size := size) _ hu _ _ _ _ hn1 (fun j u hu => ?_) hone1⟩
      have hj := (List.getElem?_eq_some_iff.1 hu).1
      rw [hn1] at hj
      rw [Addr.add_lit]
      show w.drew.cell? ⟨g, off + (i + 1) * size + j, none⟩ = _
      have := hD.cell ((i + 1) * size + j) (by omega)
      rw [← Nat.add_assoc] at this
      rw [this, ← hu, List.getElem?_drop]
  have hap := run_append_room_src (P := P) w.drew t t t e i0 hu hi0 g off i cap (.slice (some A) (n - (i + 1)) (cap - (i + 1))) (n - (i + 1)) (xs.drop ((i + 1) * size)) (by rw [hz1]; exact hsrc) (by omega)
    (fun j hj => by rw [hz1, Nat.add_assoc]; rw [hn1] at hj; exact hD.isSome _ (by omega)) (fun j _ => hD.free _)
  rw [hz1] at hap
  have hgw := grownBy_setCells w.drew g (off + i * size) (xs.drop ((i + 1) * size))
  have hcl := fun ty => clear_run (P := P) (w.drew.setCells g (off + i * size) (xs.drop ((i + 1) * size))) ty t e z zs hu (hzv _) hz hzo g (off + (n - 1) * size) (cap - (n - 1)) (fun j hj => by rw [Nat.add_assoc]; exact hS.isSome _ (by omega)) (fun j => hS.free j)
  have hS2 := hS.beyond (off + (n - 1) * size) zs (Nat.le_refl _) (by omega)
  have hg2 : w.grownBy ((w.drew.setCells g (off + i * size) (xs.drop ((i + 1) * size))).setCells g (off + (n - 1) * size) zs) (some g) := by
    have h2 := grownBy_setCells (w.drew.setCells g (off + i * size) (xs.drop ((i + 1) * size))) g (off + (n - 1) * size) zs
    exact ⟨h2.os.trans hgw.os, h2.tape.trans hgw.tape, h2.output.trans hgw.output, Nat.le_trans hgw.size h2.size, fun k hk hn => (h2.block k (Nat.lt_of_lt_of_le hk hgw.size) hn).trans (hgw.block k hk hn)⟩
  rw [show i + (n - (i + 1)) = n - 1 by omega] at hap
  exact ⟨A, _, _, ⟨hA, hap, hcl, hS2, hg2, hnc, hcm⟩⟩
end Go.Proofs.Ytmdajndmobpgbaa

/- Slices that a call has made, cut or not: what such a value owns, and what append, cutting and a store make of it. Over any program. -/
import Derived.Test.YtmdajndmobpgbaaRows
import Derived.WalkKit
import Derived.WalkLawsBesides
import Derived.Handy
import Derived.Deep.QuietTactic
import Derived.BigQuiet
import Derived.Lib.MinMax
import Derived.Lib.Hide
import Derived.Deep.AppendSrc
import Derived.Deep.AppendLies
import Derived.Deep.Upon
import Derived.Deep.RegionHeld3
import Derived.Deep.RegionWith
import Derived.Lib.SliceRun
namespace Go.Proofs.Ytmdajndmobpgbaa
open Go.RowKit

/-- The slice value v, n elements of 'size' cells each of type e, holds the cells xs: nil; or it leads into the midst of a block of such cells. -/
def OL (w : World) (e : TypeId) (size : Nat) (v : Value) (n : Nat) (xs : List Value) : Prop :=
  xs.length = n * size ∧ ((v = .slice none 0 0 ∧ n = 0) ∨
    ∃ g off cap cur, v = .slice (some ⟨g, off, none⟩) n cap ∧ w.heap[g]? = some (.cells cur e (0, 0)) ∧ n ≤ cap ∧ cap ≤ maxLen ∧ off + cap * size ≤ cur.size ∧ (cur.toList.drop off).take (n * size) = xs)

section
variable {w w' : World} {e : TypeId} {size : Nat} {v : Value} {n : Nat} {xs : List Value}

theorem OL.nil (w : World) (e : TypeId) (size : Nat) : OL w e size (.slice none 0 0) 0 [] := ⟨by simp, .inl ⟨rfl, rfl⟩⟩
theorem OL.len (h : OL w e size v n xs) : xs.length = n * size := h.1
theorem OL.forms (h : OL w e size v n xs) : (v = .slice none 0 0 ∧ n = 0) ∨ ∃ g off cap, v = .slice (some ⟨g, off, none⟩) n cap ∧ n ≤ cap ∧ cap ≤ maxLen ∧ g < w.heap.size := by
  rcases h.2 with h | ⟨g, off, cap, cur, hv, hg, h1, h2, _⟩
  · exact .inl h
  · exact .inr ⟨g, off, cap, hv, h1, h2, lt_of_block hg⟩
theorem OL.form (h : OL w e size v n xs) (hn : 0 < n) : ∃ g off cap, v = .slice (some ⟨g, off, none⟩) n cap ∧ n ≤ cap ∧ cap ≤ maxLen ∧ g < w.heap.size := by
  rcases h.forms with ⟨_, h0⟩ | h
  · omega
  · exact h
theorem OL.lt (h : OL w e size v n xs) : ∀ g, v.ownBlock = some g → g < w.heap.size := by
  intro g hg
  rcases h.2 with ⟨rfl, _⟩ | ⟨g', off, cap, cur, rfl, hh, _⟩
  · simp [Value.ownBlock] at hg
  · simp [Value.ownBlock] at hg; subst hg; exact lt_of_block hh
theorem OL.elem (h : OL w e size v n xs) : ∀ g, v.ownBlock = some g → ∃ cur, w.heap[g]? = some (.cells cur e (0, 0)) := by
  intro g hg
  rcases h.2 with ⟨rfl, _⟩ | ⟨g', off, cap, cur, rfl, hh, _⟩
  · simp [Value.ownBlock] at hg
  · simp [Value.ownBlock] at hg; subst hg; exact ⟨cur, hh⟩
theorem OL.heap (h : OL w e size v n xs) (hh : ∀ g, v.ownBlock = some g → w'.heap[g]? = w.heap[g]?) : OL w' e size v n xs := by
  refine ⟨h.1, ?_⟩
  rcases h.2 with h0 | ⟨g, off, cap, cur, rfl, hg, r⟩
  · exact .inl h0
  · exact .inr ⟨g, off, cap, cur, rfl, (hh g rfl).trans hg, r⟩
theorem OL.kept {row : Option Nat} (h : OL w e size v n xs) (hg : w.grownBy w' row) (hne : ∀ g, v.ownBlock = some g → some g ≠ row) : OL w' e size v n xs :=
  h.heap fun g hv => hg.block g (h.lt g hv) (hne g hv)
theorem OL.below {B : Nat} (h : OL w e size v n xs) (hb : Below B w w') (hB : ∀ g, v.ownBlock = some g → g < B) : OL w' e size v n xs :=
  h.heap fun g hv => hb.block g (hB g hv)
theorem OL.alloc (h : OL w e size v n xs) (o : Obj) : OL (w.alloc o) e size v n xs := h.heap fun g hv => Below.heap_alloc w o g (h.lt g hv)
theorem OL.cell {g off cap : Nat} (h : OL w e size (.slice (some ⟨g, off, none⟩) n cap) n xs) (j : Nat) (hj : j < n * size) : w.cell? ⟨g, off + j, none⟩ = xs[j]? := by
  rcases h.2 with ⟨h', _⟩ | ⟨g', off', cap', cur, h', hg, _, _, _, ht⟩
  · simp at h'
  · simp only [Value.slice.injEq, Option.some.injEq, Addr.mk.injEq, and_true, true_and] at h'
    obtain ⟨⟨rfl, rfl⟩, rfl⟩ := h'
    rw [← ht, List.getElem?_take, if_pos hj, List.getElem?_drop]
    simp [World.cell?, hg]
theorem OL.free {g off cap : Nat} (h : OL w e size (.slice (some ⟨g, off, none⟩) n cap) n xs) (j : Nat) : w.frozen? ⟨g, j, none⟩ = false := by
  rcases h.2 with ⟨h', _⟩ | ⟨g', off', cap', cur, h', hg, _⟩
  · simp at h'
  · simp only [Value.slice.injEq, Option.some.injEq, Addr.mk.injEq, and_true, true_and] at h'
    obtain ⟨⟨rfl, rfl⟩, rfl⟩ := h'
    simp [World.frozen?, hg]
theorem OL.of_own {base : Nat} (h : w.ownsRow base e size v n xs) : OL w e size v n xs := by
  refine ⟨h.1, ?_⟩
  rcases h.2 with h0 | ⟨g, cap, cur, hv, _, hg, h1, h2, h3, h4⟩
  · exact .inl h0
  · exact .inr ⟨g, 0, cap, cur, hv, hg, h1, h2, by omega, by simpa using h4⟩
/-- A row that is known whole. -/
theorem OL.of_block {g : Nat} {cs : List Value} (hg : w.heap[g]? = some (.cells cs.toArray e (0, 0))) (hl : cs.length = n * size) (hm : n ≤ maxLen) : OL w e size (.slice (some ⟨g, 0, none⟩) n n) n cs :=
  ⟨hl, .inr ⟨g, 0, n, cs.toArray, rfl, hg, Nat.le_refl _, hm, by simp [hl], by simp [← hl]⟩⟩

/-- Cutting at the front: v[k:]. -/
theorem OL.tail {g off cap : Nat} (h : OL w e size (.slice (some ⟨g, off, none⟩) n cap) n xs) (k : Nat) (hk : k ≤ n) :
    OL w e size (.slice (if cap = k then some ⟨g, off, none⟩ else some ⟨g, off + k * size, none⟩) (n - k) (cap - k)) (n - k) (xs.drop (k * size)) := by
  have hlen := h.1
  rcases h.2 with ⟨h', _⟩ | ⟨g', off', cap', cur, h', hg, hnc, hcm, hsz, ht⟩
  · simp at h'
  · simp only [Value.slice.injEq, Option.some.injEq, Addr.mk.injEq, and_true, true_and] at h'
    obtain ⟨⟨rfl, rfl⟩, rfl⟩ := h'
    have hle : k * size ≤ n * size := Nat.mul_le_mul_right _ hk
    have hle2 : n * size ≤ cap * size := Nat.mul_le_mul_right _ hnc
    have e1 : (n - k) * size = n * size - k * size := Nat.sub_mul ..
    have e2 : (cap - k) * size = cap * size - k * size := Nat.sub_mul ..
    refine ⟨by rw [List.length_drop, hlen, e1], .inr ?_⟩
    by_cases hc : cap = k
    · have hnk : n = k := by omega
      subst hnk; subst hc
      exact ⟨g, off, 0, cur, by simp, hg, by omega, by omega, by omega, by rw [← ht]; simp⟩
    · refine ⟨g, off + k * size, cap - k, cur, by simp [hc], hg, by omega, by omega, by omega, ?_⟩
      rw [← ht, e1, List.drop_take, List.drop_drop]

theorem setCells_block (g : Nat) : ∀ (vs : List Value) (o : Nat) (w : World) (cur : Array Value) (t : TypeId) (fr : Nat × Nat), w.heap[g]? = some (.cells cur t fr) → o + vs.length ≤ cur.size →
    ∃ cur', (w.setCells g o vs).heap[g]? = some (.cells cur' t fr) ∧ cur'.size = cur.size ∧ cur'.toList = cur.toList.take o ++ vs ++ cur.toList.drop (o + vs.length)
  | [], o, w, cur, t, fr, h, _ => ⟨cur, h, rfl, by simp⟩
  | v :: r, o, w, cur, t, fr, h, ho => by
    rw [List.length_cons] at ho
    have hlt := lt_of_block h
    have h1 : (w.setCell ⟨g, o, none⟩ v).heap[g]? = some (.cells (cur.setIfInBounds o v) t fr) := by
      have h' : w.heap[g] = .cells cur t fr := by simpa [Array.getElem?_eq_getElem hlt] using h
      show (w.heap.modify g _)[g]? = _
      rw [Array.getElem?_eq_getElem (by simpa using hlt), Array.getElem_modify_self, h']
      rfl
    obtain ⟨cur', h2, h3, h4⟩ := setCells_block g r (o + 1) (w.setCell ⟨g, o, none⟩ v) _ t fr h1 (by simp; omega)
    refine ⟨cur', h2, by simpa using h3, ?_⟩
    rw [h4]
    have e1 : (cur.setIfInBounds o v).toList = cur.toList.set o v := by simp
    rw [e1, List.take_succ_eq_append_getElem (by simp; omega), List.take_set_of_le (Nat.le_refl _), List.getElem_set_self, List.drop_set_of_lt (by omega)]
    simp [Nat.add_assoc, Nat.add_comm 1]
theorem size_setCells (g : Nat) : ∀ (vs : List Value) (o : Nat) (w : World), (w.setCells g o vs).heap.size = w.heap.size
  | [], _, _ => rfl
  | v :: r, o, w => by rw [World.setCells, size_setCells g r]; exact World.size_setCell ..
theorem tape_setCells (g : Nat) : ∀ (vs : List Value) (o : Nat) (w : World), (w.setCells g o vs).tape = w.tape
  | [], _, _ => rfl
  | v :: r, o, w => by rw [World.setCells, tape_setCells g r]; rfl
theorem grownBy_setCells (w : World) (g o : Nat) (vs : List Value) : w.grownBy (w.setCells g o vs) (some g) :=
  ⟨World.os_setCells .., tape_setCells .., World.output_setCells .., by rw [size_setCells]; exact Nat.le_refl _, fun k hk hr => World.heap_setCells_other w g o vs hk (fun h => hr (by rw [h]))⟩

/-- append, from whatever source, room or not. -/
theorem OL.append {P : Program} (h : OL w e size v n xs) (t tx ty : TypeId) (i : TypeInfo) (z : Value) (bytes : Nat) (ht : P.underlying t = some (.slice e)) (hi : P.info? e = some i) (hz : i.zero = some z)
    (hsize : i.size = size) (hby : i.bytes = bytes) (hzs : z.cells.size = size) (hsz : 0 < size) {x : Value} {m : Nat} {news : List Value} (hs : Src P size tx x m news w)
    (h63 : n + m ≤ maxLen) (hbytes : (n + m) * bytes ≤ 140737488355328) :
    ∃ v' w', (Builtin.append_ #[t, tx] ty #[v, x]).run P w = .ok v' w' ∧ OL w' e size v' (n + m) (xs ++ news) ∧ w.grownBy w' v.ownBlock ∧ (v'.ownBlock = v.ownBlock ∨ v'.ownBlock = some w.heap.size) := by
  subst hsize
  subst hby
  have hsmall : n + m ≤ 9223372036854775807 := by simp only [maxLen] at h63; omega
  have hlen : (xs ++ news).length = (n + m) * i.size := by rw [List.length_append, h.1, hs.newsLen, Nat.add_mul]
  have grown : ∀ (old : Nat), old < n + m → ∀ (row : Option Nat),
      OL (w.drew.alloc (.cells ((xs ++ news).toArray ++ Builtin.zeroCells z.cells (grownCap w (n + m) old e - (n + m))) e)) e i.size
        (.slice (some ⟨w.heap.size, 0, none⟩) (n + m) (grownCap w (n + m) old e)) (n + m) (xs ++ news) ∧
      w.grownBy (w.drew.alloc (.cells ((xs ++ news).toArray ++ Builtin.zeroCells z.cells (grownCap w (n + m) old e - (n + m))) e)) row := by
    intro old ho row
    have hge := grownCap_ge w (n + m) old e
    have hcm : grownCap w (n + m) old e ≤ maxLen := grownCap_le_maxLen w (n + m) old e h63
    refine ⟨⟨hlen, .inr ⟨w.heap.size, 0, _, _, rfl, heap_alloc_new w.drew _, hge, hcm, ?_, ?_⟩⟩, ⟨rfl, rfl, rfl, by simp, fun k hk _ => Below.heap_alloc w.drew _ k hk⟩⟩
    · simp only [Array.size_append, List.size_toArray, size_zeroCells, hzs, hlen, ← Nat.add_mul, Nat.zero_add]
      exact Nat.le_of_eq (by congr 1; omega)
    · simp only [Array.toList_append, List.drop_zero]
      rw [← hlen]
      exact List.take_left
  rcases h.2 with ⟨rfl, rfl⟩ | ⟨g, off, cap, cur, rfl, hg, hnc, hcm, hcs, htake⟩
  · have hx : xs = [] := List.eq_nil_of_length_eq_zero (by simpa using h.1)
    subst hx
    by_cases hm : m = 0
    · subst hm
      have hn : news = [] := List.eq_nil_of_length_eq_zero (by simpa using hs.newsLen)
      subst hn
      refine ⟨.slice none 0 0, w, ?_, OL.nil w e i.size, ⟨rfl, rfl, rfl, Nat.le_refl _, fun _ _ _ => rfl⟩, Or.inl rfl⟩
      rcases hs.kind with ⟨e', hk⟩ | hk <;> simp [Builtin.append_, run_underlying ht, run_underlying hk, sizeOf, typeInfo, hi, hs.len, hs.cells]
    · have hr := run_append_grow_src (P := P) w t tx ty e i z ht hi hz none 0 0 [] (run_firstCells_none w.drew i.size 0 0 0) x m news hs (by omega) (by omega) (growslice_fits (by omega) hbytes)
      have hgr := grown 0 (by omega) (Value.ownBlock (.slice none 0 0))
      exact ⟨_, _, hr, hgr.1, hgr.2, Or.inr rfl⟩
  · have e1 : (n + m) * i.size = n * i.size + m * i.size := Nat.add_mul ..
    by_cases hroom : n + m ≤ cap
    · have e2 : (n + m) * i.size ≤ cap * i.size := Nat.mul_le_mul_right _ hroom
      have hfit : off + n * i.size + news.length ≤ cur.size := by rw [hs.newsLen]; omega
      have hr := run_append_room_src (P := P) w t tx ty e i ht hi g off n cap x m news hs hroom
        (fun j hj => by
          have : w.cell? ⟨g, off + n * i.size + j, none⟩ = cur[off + n * i.size + j]? := by simp [World.cell?, hg]
          rw [this, Array.getElem?_eq_getElem (by omega)]; rfl)
        (fun j _ => by simp [World.frozen?, hg])
      obtain ⟨cur', h2, h3, h4⟩ := setCells_block g news (off + n * i.size) w cur e (0, 0) hg hfit
      refine ⟨_, _, hr, ⟨hlen, .inr ⟨g, off, cap, cur', rfl, h2, hroom, hcm, by omega, ?_⟩⟩, grownBy_setCells w g _ news, Or.inl rfl⟩
      have hl1 : (cur.toList.take (off + n * i.size)).length = off + n * i.size := by rw [List.length_take, Array.length_toList]; omega
      rw [h4, List.append_assoc, List.drop_append_of_le_length (by omega), List.drop_take]
      have e3 : off + n * i.size - off = n * i.size := by omega
      rw [e3, htake, ← List.append_assoc, ← hlen]
      exact List.take_left
    · have holds : ∀ j u, xs[j]? = some u → w.drew.cell? ((⟨g, off, none⟩ : Addr).add j) = some u := fun j u hu => by
        have hj : j < n * i.size := by
          have := (List.getElem?_eq_some_iff.1 hu).1
          rw [h.1] at this; exact this
        have := h.cell j hj
        rw [Addr.add_lit]
        show w.cell? _ = _
        rw [this]; exact hu
      have hr := run_append_grow_src (P := P) w t tx ty e i z ht hi hz (some ⟨g, off, none⟩) n cap xs (run_firstCells_some w.drew i.size n ⟨g, off, none⟩ n cap xs h.1 holds) x m news hs (by omega) (by omega) (growslice_fits (by omega) hbytes)
      have hgr := grown cap (by omega) (Value.ownBlock (.slice (some ⟨g, off, none⟩) n cap))
      exact ⟨_, _, hr, hgr.1, hgr.2, Or.inr rfl⟩

/-- An operation that appends, by its run. -/
theorem wp_append_run {P : Program} {o : Oper} {a : Act} {K : Act → World → Prop} {Q : Exit → Act → World → Prop} (s x : Operand) (t tx : TypeId)
    (ho : o.op = .call { callee := .builtin .append, args := #[s, x], argTypes := #[t, tx] }) {v xv v' : Value} (hs : a.eval s = v) (hx : a.eval x = xv)
    (hr : (Builtin.append_ #[t, tx] o.type #[v, xv]).run P w = .ok v' w') (h : K (a.put o.dst v') w') : o.wp P a w K Q := by
  unfold Oper.wp execOp
  simp only [ho, resolve, invoke, builtin, Sem.run_bind, Sem.run_pure, Result.andThen_ok, List.map_toArray, List.map_cons, List.map_nil, hs, hx, hr]
  exact h
theorem wpList_append_run {P : Program} {ops : Array Oper} {rest : List Oper} {o : Oper} {a : Act} {Q : Exit → Act → World → Prop} (hgd : o.guard = none) (s x : Operand) (t tx : TypeId)
    (ho : o.op = .call { callee := .builtin .append, args := #[s, x], argTypes := #[t, tx] }) {v xv v' : Value} (hs : a.eval s = v) (hx : a.eval x = xv)
    (hr : (Builtin.append_ #[t, tx] o.type #[v, xv]).run P w = .ok v' w') (h : wpList P ops Q rest (a.put o.dst v') w') : wpList P ops Q (o :: rest) a w :=
  wpList_plain hgd fun _ hK => wp_append_run s x t tx ho hs hx hr (hK _ _ h)
theorem step_append_run {P : Program} {ops : Array Oper} {o : Oper} {a : Act} {K : Act → World → Prop} {Q : Exit → Act → World → Prop} {E : Prop} (hgd : o.guard = none) (s x : Operand) (t tx : TypeId)
    (ho : o.op = .call { callee := .builtin .append, args := #[s, x], argTypes := #[t, tx] }) {v xv v' : Value} (hs : a.eval s = v) (hx : a.eval x = xv)
    (hr : (Builtin.append_ #[t, tx] o.type #[v, xv]).run P w = .ok v' w') (h : K (a.put o.dst v') w') :
    if Region.wanted o (yielded ops a.tmps) = true then Oper.wp P o a w K Q else E := by
  have hw : Region.wanted o (yielded ops a.tmps) = true := by simp [Region.wanted, hgd]
  rw [if_pos hw]
  exact wp_append_run s x t tx ho hs hx hr h
end

/-- The world w' is as w was, but for the blocks of S and for new ones. -/
structure Only (S : Nat → Prop) (w w' : World) : Prop where
  os : w'.os = w.os
  tape : w'.tape = w.tape
  output : w'.output = w.output
  size : w.heap.size ≤ w'.heap.size
  block : ∀ k, k < w.heap.size → ¬ S k → w'.heap[k]? = w.heap[k]?
section
variable {S S' : Nat → Prop} {a w w' : World}
theorem Only.refl (S : Nat → Prop) (w : World) : Only S w w := ⟨rfl, rfl, rfl, Nat.le_refl _, fun _ _ _ => rfl⟩
theorem Only.mono (h : Only S w w') (hS : ∀ k, S k → S' k) : Only S' w w' := ⟨h.os, h.tape, h.output, h.size, fun k hk hn => h.block k hk (fun hs => hn (hS k hs))⟩
theorem Only.trans (h : Only S a w) (k : Only S' w w') (hS : ∀ k, k < a.heap.size → S' k → S k) : Only S a w' :=
  ⟨k.os.trans h.os, k.tape.trans h.tape, k.output.trans h.output, Nat.le_trans h.size k.size, fun i hi hn => (k.block i (by have := h.size; omega) (fun hs => hn (hS i hi hs))).trans (h.block i hi hn)⟩
theorem Only.drewN (h : Only S a w) (n : Nat) : Only S a (w.drewN n) := ⟨h.os, h.tape, h.output, h.size, h.block⟩
theorem Only.drew (h : Only S a w) : Only S a w.drew := ⟨h.os, h.tape, h.output, h.size, h.block⟩
theorem Only.setCell (h : Only S a w) {p : Addr} (hp : S p.block ∨ a.heap.size ≤ p.block) (u : Value) : Only S a (w.setCell p u) :=
  ⟨h.os, h.tape, h.output, by rw [World.size_setCell]; exact h.size, fun k hk hn => (Below.heap_setCell _ _ _ _ (fun e => by subst e; rcases hp with hp | hp; exact hn hp; omega)).trans (h.block k hk hn)⟩
theorem Only.alloc (h : Only S a w) (o : Obj) : Only S a (w.alloc o) :=
  ⟨h.os, h.tape, h.output, by rw [World.size_alloc]; have := h.size; omega, fun k hk hn => (Below.heap_alloc _ _ _ (by have := h.size; omega)).trans (h.block k hk hn)⟩
theorem Only.grown (h : Only S a w) {r : Option Nat} (g : w.grownBy w' r) (hr : ∀ k, r = some k → S k ∨ a.heap.size ≤ k) : Only S a w' :=
  ⟨g.os.trans h.os, g.tape.trans h.tape, g.output.trans h.output, Nat.le_trans h.size g.size, fun k hk hn => (g.block k (by have := h.size; omega) (fun e => by rcases hr k e.symm with h1 | h1; exact hn h1; omega)).trans (h.block k hk hn)⟩
theorem Only.of_below {B : Nat} (h : Below B w w') (hS : ∀ k, B ≤ k → k < w.heap.size → S k) : Only S w w' :=
  ⟨h.os, h.tape, h.output, h.size, fun k hk hn => h.block k (by rcases Nat.lt_or_ge k B with h1 | h1; exact h1; exact absurd (hS k h1 hk) hn)⟩
theorem Only.below {B : Nat} (h : Only S w w') (hB : B ≤ w.heap.size) (hS : ∀ k, S k → B ≤ k) : Below B w w' :=
  ⟨h.os, h.tape, h.output, h.size, fun k hk => h.block k (by omega) (fun hs => by have := hS k hs; omega)⟩
theorem Only.then_below {B : Nat} (h : Only S a w) (k : Below B w w') (hB : ∀ i, i < a.heap.size → ¬ S i → i < B) : Only S a w' :=
  ⟨k.os.trans h.os, k.tape.trans h.tape, k.output.trans h.output, Nat.le_trans h.size k.size, fun i hi hn => (k.block i (hB i hi hn)).trans (h.block i hi hn)⟩
end
theorem setCell_heap_self {w : World} {b o : Nat} {cs : Array Value} {t : TypeId} {fr : Nat × Nat} {u : Value} (h : w.heap[b]? = some (.cells cs t fr)) :
    (w.setCell ⟨b, o, none⟩ u).heap[b]? = some (.cells (cs.setIfInBounds o u) t fr) := by
  have hlt := lt_of_block h
  have h' : w.heap[b] = .cells cs t fr := by simpa [Array.getElem?_eq_getElem hlt] using h
  show (w.heap.modify b _)[b]? = _
  rw [Array.getElem?_eq_getElem (by simpa using hlt), Array.getElem_modify_self, h']
  rfl
end Go.Proofs.Ytmdajndmobpgbaa

/- queue: how a queue lies in memory, and how its lists change; New, Used, Has, Keys, Ghosts. Conditions: each contract names its own. -/
import Derived.Test.YtonkaodbjohkkaaQuF
namespace Go.Proofs.Ytonkaodbjohkkaa
open Go.RowKit

structure QS where
  cap : Int
  r : List It
  f : List It
  g : List It
structure QAt (w : World) (b : Nat) (s : QS) (vr vf vg : Value) : Prop where
  c : w.heap[b]? = some (.cells #[.int .i64 s.cap, vr, vf, vg] 61 (0, 0))
  r : IsL w vr s.r
  f : IsL w vf s.f
  g : IsL w vg s.g
  rf : ∀ k, vr.ownBlock = some k → vf.ownBlock ≠ some k
  rg : ∀ k, vr.ownBlock = some k → vg.ownBlock ≠ some k
  fg : ∀ k, vf.ownBlock = some k → vg.ownBlock ≠ some k
def QAl (b : Nat) (vr vf vg : Value) (k : Nat) : Prop := k = b ∨ vr.ownBlock = some k ∨ vf.ownBlock = some k ∨ vg.ownBlock = some k
def grow (P : Nat → Prop) (w : World) (k : Nat) : Prop := P k ∨ w.heap.size ≤ k
/-- From w on, in blocks of Al and new ones: at w' the queue at b is s. -/
def QUp (Al : Nat → Prop) (b : Nat) (s : QS) (w w' : World) : Prop := ∃ vr vf vg, QAt w' b s vr vf vg ∧ (∀ k, QAl b vr vf vg k → Al k ∨ w.heap.size ≤ k) ∧ Only Al w w'
/-- The queue s lies at block b, all of it in blocks of P. -/
def QIs (w : World) (P : Nat → Prop) (b : Nat) (s : QS) : Prop := ∃ vr vf vg, QAt w b s vr vf vg ∧ ∀ k, QAl b vr vf vg k → P k
section
variable {w w1 w2 w' : World} {b : Nat} {s : QS} {vr vf vg : Value} {Al P Q : Nat → Prop}
theorem QAt.lt (h : QAt w b s vr vf vg) {k : Nat} (hk : QAl b vr vf vg k) : k < w.heap.size := by
  rcases hk with rfl | hk | hk | hk
  · exact lt_of_block h.c
  · exact OL.lt h.r k hk
  · exact OL.lt h.f k hk
  · exact OL.lt h.g k hk
theorem QAt.same (h : QAt w b s vr vf vg) (hh : ∀ k, QAl b vr vf vg k → w'.heap[k]? = w.heap[k]?) : QAt w' b s vr vf vg :=
  ⟨(hh b (.inl rfl)).trans h.c, OL.heap h.r fun k hk => hh k (.inr (.inl hk)), OL.heap h.f fun k hk => hh k (.inr (.inr (.inl hk))), OL.heap h.g fun k hk => hh k (.inr (.inr (.inr hk))), h.rf, h.rg, h.fg⟩
theorem QAt.belowS (h : QAt w b s vr vf vg) (hb : Below w.heap.size w w') : QAt w' b s vr vf vg := h.same fun k hk => hb.block k (h.lt hk)
theorem QAt.in1 (h : QAt w b s vr vf vg) : InF w b 1 #[.int .i64 s.cap, vr, vf, vg] vr s.r := ⟨h.c, rfl, h.r⟩
theorem QAt.in2 (h : QAt w b s vr vf vg) : InF w b 2 #[.int .i64 s.cap, vr, vf, vg] vf s.f := ⟨h.c, rfl, h.f⟩
theorem QAt.in3 (h : QAt w b s vr vf vg) : InF w b 3 #[.int .i64 s.cap, vr, vf, vg] vg s.g := ⟨h.c, rfl, h.g⟩
theorem QIs.up (h : QIs w P b s) : QUp P b s w w := by
  obtain ⟨vr, vf, vg, h, ha⟩ := h
  exact ⟨vr, vf, vg, h, fun k hk => .inl (ha k hk), Only.refl _ _⟩
theorem QUp.is (h : QUp Al b s w w') : QIs w' (grow Al w) b s := by
  obtain ⟨vr, vf, vg, h, ha, _⟩ := h
  exact ⟨vr, vf, vg, h, ha⟩
theorem QUp.only (h : QUp Al b s w w') : Only Al w w' := by
  obtain ⟨_, _, _, _, _, h⟩ := h
  exact h
theorem QUp.below (h : QUp Al b s w w1) (hb : Below w1.heap.size w1 w2) : QUp Al b s w w2 := by
  obtain ⟨vr, vf, vg, h, ha, ho⟩ := h
  exact ⟨vr, vf, vg, h.belowS hb, ha, ho.trans (Only.of_below hb (S := Al) fun k h1 h2 => by omega) (fun _ _ h => h)⟩
theorem QUp.drew (h : QUp Al b s w w1) : QUp Al b s w w1.drew := h.below (below_drew _ _)
theorem QIs.mono (h : QIs w P b s) (hP : ∀ k, P k → Q k) : QIs w Q b s := by obtain ⟨a, c, d, h, ha⟩ := h; exact ⟨a, c, d, h, fun k hk => hP k (ha k hk)⟩
theorem QIs.belowS (h : QIs w P b s) (hb : Below w.heap.size w w') : QIs w' P b s := by obtain ⟨a, c, d, h, ha⟩ := h; exact ⟨a, c, d, h.belowS hb, ha⟩
theorem QIs.bound (h : QIs w P b s) : QIs w (fun k => P k ∧ k < w.heap.size) b s := by obtain ⟨a, c, d, h, ha⟩ := h; exact ⟨a, c, d, h, fun k hk => ⟨ha k hk, h.lt hk⟩⟩
theorem own_out {k x : Nat} {v v' : Value} (h : ∀ k, v'.ownBlock = some k → v.ownBlock = some k ∨ x ≤ k) (hk : v'.ownBlock = some k) (hlt : k < x) : v.ownBlock = some k := (h k hk).resolve_right (by omega)
theorem QUp.chg1 {l' : List It} (hq : QAt w1 b s vr vf vg) (ha : ∀ k, QAl b vr vf vg k → Al k ∨ w.heap.size ≤ k) (ho : Only Al w w1) (h : LP b 1 #[.int .i64 s.cap, vr, vf, vg] vr l' w1 w2) : QUp Al b { s with r := l' } w w2 := by
  obtain ⟨v', h1, h2, h3, h4⟩ := h
  have hs := ho.size
  have kf : ∀ k, vf.ownBlock = some k → w2.heap[k]? = w1.heap[k]? := fun k hk => h4.block k (OL.lt hq.f k hk) (fun e => e.elim (fun e => hq.f.ne hq.c (by rw [← e]; exact hk)) (fun e => hq.rf k e hk))
  have kg : ∀ k, vg.ownBlock = some k → w2.heap[k]? = w1.heap[k]? := fun k hk => h4.block k (OL.lt hq.g k hk) (fun e => e.elim (fun e => hq.g.ne hq.c (by rw [← e]; exact hk)) (fun e => hq.rg k e hk))
  refine ⟨v', vf, vg, ⟨h1, h2, OL.heap hq.f kf, OL.heap hq.g kg, fun k hk e => hq.rf k (own_out h3 hk (OL.lt hq.f k e)) e, fun k hk e => hq.rg k (own_out h3 hk (OL.lt hq.g k e)) e, hq.fg⟩, fun k hk => ?_, ho.trans h4 (fun k hk hm => ?_)⟩
  · rcases hk with e | hk | hk | hk
    · exact ha k (.inl e)
    · rcases h3 k hk with e | e
      · exact ha k (.inr (.inl e))
      · exact .inr (by omega)
    · exact ha k (.inr (.inr (.inl hk)))
    · exact ha k (.inr (.inr (.inr hk)))
  · exact (ha k (hm.elim (fun e => .inl e) (fun e => .inr (.inl e)))).resolve_right (by omega)
theorem QUp.chg2 {l' : List It} (hq : QAt w1 b s vr vf vg) (ha : ∀ k, QAl b vr vf vg k → Al k ∨ w.heap.size ≤ k) (ho : Only Al w w1) (h : LP b 2 #[.int .i64 s.cap, vr, vf, vg] vf l' w1 w2) : QUp Al b { s with f := l' } w w2 := by
  obtain ⟨v', h1, h2, h3, h4⟩ := h
  have hs := ho.size
  have kr : ∀ k, vr.ownBlock = some k → w2.heap[k]? = w1.heap[k]? := fun k hk => h4.block k (OL.lt hq.r k hk) (fun e => e.elim (fun e => hq.r.ne hq.c (by rw [← e]; exact hk)) (fun e => hq.rf k hk e))
  have kg : ∀ k, vg.ownBlock = some k → w2.heap[k]? = w1.heap[k]? := fun k hk => h4.block k (OL.lt hq.g k hk) (fun e => e.elim (fun e => hq.g.ne hq.c (by rw [← e]; exact hk)) (fun e => hq.fg k e hk))
  refine ⟨vr, v', vg, ⟨h1, OL.heap hq.r kr, h2, OL.heap hq.g kg, fun k hk e => hq.rf k hk (own_out h3 e (OL.lt hq.r k hk)), hq.rg, fun k hk e => hq.fg k (own_out h3 hk (OL.lt hq.g k e)) e⟩, fun k hk => ?_, ho.trans h4 (fun k hk hm => ?_)⟩
  · rcases hk with e | hk | hk | hk
    · exact ha k (.inl e)
    · exact ha k (.inr (.inl hk))
    · rcases h3 k hk with e | e
      · exact ha k (.inr (.inr (.inl e)))
      · exact .inr (by omega)
    · exact ha k (.inr (.inr (.inr hk)))
  · exact (ha k (hm.elim (fun e => .inl e) (fun e => .inr (.inr (.inl e))))).resolve_right (by omega)
theorem QUp.chg3 {l' : List It} (hq : QAt w1 b s vr vf vg) (ha : ∀ k, QAl b vr vf vg k → Al k ∨ w.heap.size ≤ k) (ho : Only Al w w1) (h : LP b 3 #[.int .i64 s.cap, vr, vf, vg] vg l' w1 w2) : QUp Al b { s with g := l' } w w2 := by
  obtain ⟨v', h1, h2, h3, h4⟩ := h
  have hs := ho.size
  have kr : ∀ k, vr.ownBlock = some k → w2.heap[k]? = w1.heap[k]? := fun k hk => h4.block k (OL.lt hq.r k hk) (fun e => e.elim (fun e => hq.r.ne hq.c (by rw [← e]; exact hk)) (fun e => hq.rg k hk e))
  have kf : ∀ k, vf.ownBlock = some k → w2.heap[k]? = w1.heap[k]? := fun k hk => h4.block k (OL.lt hq.f k hk) (fun e => e.elim (fun e => hq.f.ne hq.c (by rw [← e]; exact hk)) (fun e => hq.fg k hk e))
  refine ⟨vr, vf, v', ⟨h1, OL.heap hq.r kr, OL.heap hq.f kf, h2, hq.rf, fun k hk e => hq.rg k hk (own_out h3 e (OL.lt hq.r k hk)), fun k hk e => hq.fg k hk (own_out h3 e (OL.lt hq.f k hk))⟩, fun k hk => ?_, ho.trans h4 (fun k hk hm => ?_)⟩
  · rcases hk with e | hk | hk | hk
    · exact ha k (.inl e)
    · exact ha k (.inr (.inl hk))
    · exact ha k (.inr (.inr (.inl hk)))
    · rcases h3 k hk with e | e
      · exact ha k (.inr (.inr (.inr e)))
      · exact .inr (by omega)
  · exact (ha k (hm.elim (fun e => .inl e) (fun e => .inr (.inr (.inr e))))).resolve_right (by omega)
/-- What a call leaves that returns v. -/
def QPost (P : Nat → Prop) (b : Nat) (v : Value) (s' : QS) (w : World) (e : Ending) (w' : World) : Prop := e = .returned v ∧ QUp P b s' w w'
/-- Lists as values. -/
theorem QAt.forms (h : QAt w b s vr vf vg) : (∃ ao cap, vr = .slice ao s.r.length cap) ∧ (∃ ao cap, vf = .slice ao s.f.length cap) ∧ ∃ ao cap, vg = .slice ao s.g.length cap :=
  ⟨by obtain ⟨a, c, e, _⟩ := h.r.form; exact ⟨a, c, e⟩, by obtain ⟨a, c, e, _⟩ := h.f.form; exact ⟨a, c, e⟩, by obtain ⟨a, c, e, _⟩ := h.g.form; exact ⟨a, c, e⟩⟩
theorem q_new_bad (c : Int) (w : World) (h : c < 1 ∨ 1099511627776 < c) : Calls Try.prog 10 #[.int .i64 c] w fun e w' => e = .returned (.tuple #[.pointer none, .iface 56 (.int .i64 1)]) ∧ w' = w := by
  rcases Classical.em (c < 1) with h1 | h1
  · have d : decide (c < 1) = true := by simp; omega
    clear h
    go_enter Try.func10, Try.ntmps10
    go_wp2
    go_ret2
    exact ⟨rfl, rfl⟩
  · have d : decide (c < 1) = false := by simp; omega
    have d2 : decide ((1099511627776 : Int) < c) = true := by simp; omega
    clear h
    go_enter Try.func10, Try.ntmps10
    go_wp2
    go_ret2
    exact ⟨rfl, rfl⟩
theorem q_new (c : Int) (w : World) (h1 : 1 ≤ c) (h2 : c ≤ 1099511627776) : Calls Try.prog 10 #[.int .i64 c] w fun e w' => ∃ b, e = .returned (.tuple #[.pointer (some ⟨b, 0, none⟩), .nilIface]) ∧ QIs w' (w.heap.size ≤ ·) b ⟨c, [], [], []⟩ ∧ Below w.heap.size w w' := by
  have d : decide (c < 1) = false := by simp; omega
  have d2 : decide ((1099511627776 : Int) < c) = false := by simp; omega
  have hB : Below w.heap.size w (w.alloc (.cells #[.int .i64 c, .slice none 0 0, .slice none 0 0, .slice none 0 0] 61)) := by go_grown
  have hn := heap_alloc_new w (.cells #[.int .i64 c, .slice none 0 0, .slice none 0 0, .slice none 0 0] 61)
  have HQ : Hid (QIs (w.alloc (.cells #[.int .i64 c, .slice none 0 0, .slice none 0 0, .slice none 0 0] 61)) (w.heap.size ≤ ·) w.heap.size ⟨c, [], [], []⟩) := Lib.hid ⟨_, _, _, ⟨hn, OL.nil _ _ _, OL.nil _ _ _, OL.nil _ _ _, fun k hk => by simp [Value.ownBlock] at hk, fun k hk => by simp [Value.ownBlock] at hk, fun k hk => by simp [Value.ownBlock] at hk⟩, fun k hk => by simp [QAl, Value.ownBlock] at hk; omega⟩
  clear hn h1 h2
  go_enter Try.func10, Try.ntmps10
  go_wp2
  go_ret2
  exact ⟨_, rfl, HQ.out, hB⟩
end
end Go.Proofs.Ytonkaodbjohkkaa

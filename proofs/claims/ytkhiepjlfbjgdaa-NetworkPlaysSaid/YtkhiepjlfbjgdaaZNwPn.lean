/- network: a step of NetworkPlays, any kind. Conditions: the networks are the same; the act can be read. network: the state behind a Receive of both networks, and what writing into the delivery's data leaves. Conditions: none. -/
import Derived.Test.YtkhiepjlfbjgdaaZNwPl0
import Derived.Test.YtkhiepjlfbjgdaaZNwPl1
import Derived.Test.YtkhiepjlfbjgdaaZNwPl2
import Derived.Test.YtkhiepjlfbjgdaaZNwPl3
import Derived.Test.YtkhiepjlfbjgdaaZNwPl4
import Derived.Test.YtkhiepjlfbjgdaaZNwPl5
namespace Go.Proofs.Ytkhiepjlfbjgdaa
open Go.RowKit

theorem step_any {w0 w : World} {Kp : Nat → Prop} {b c n : Nat} {s : Net} {q : DNv} {D : DN} (h : PlK w0 Kp b c s q D w) (hm : SimN s D) (hle : DNle n D) (hn : n ≤ 100) (hc : c ≤ 1000) (a : ActN) (ha : a.ok w) (hak2 : 0 < a.dn → a.db < w0.heap.size) (hdl : a.dn ≤ 40) (hsl : a.data.size ≤ 1000) :
    Calls Try.prog 25 #[.pointer (some ⟨b, 0, none⟩), dnV q D, .agg a.cells] w (StepP w0 Kp b (c + 1) (n + 1) w) := by
  have hk := ha.k0
  have h6 : a.kind % 6 = 0 ∨ a.kind % 6 = 1 ∨ a.kind % 6 = 2 ∨ a.kind % 6 = 3 ∨ a.kind % 6 = 4 ∨ a.kind % 6 = 5 := by omega
  rcases h6 with e | e | e | e | e | e
  · exact step_0 h hm hle hn hc a ha hak2 hdl hsl e
  · exact step_1 h hm hle hn hc a ha hak2 hdl hsl e
  · exact step_2 h hm hle hn hc a ha hak2 hdl hsl e
  · exact step_3 h hm hle hn hc a ha hak2 hdl hsl e
  · exact step_4 h hm hle hn hc a ha hak2 hdl hsl e
  · exact step_5 h hm hle hn hc a ha hak2 hdl hsl e
end Go.Proofs.Ytkhiepjlfbjgdaa

namespace Go.Proofs.Ytkhiepjlfbjgdaa
open Go.RowKit

/-- A delivery whose data lies apart. -/
def CNR2 (w0 : World) (K : Nat → Prop) (b c : Nat) (s : Net) (x : Arr) (w : World) (e : Ending) (w' : World) : Prop :=
  ∃ vo vc, e = .returned (.tuple #[.agg #[.int .i64 x.t, .string x.a, .string x.b, .slice vo x.data.length vc], .nilIface]) ∧ OL w' 5 1 (.slice vo x.data.length vc) x.data.length (bys x.data) ∧
    CN w0 (fun k => K k ∨ (Value.slice vo x.data.length vc).ownBlock = some k) b c s w' ∧ Same K w w' ∧ ∀ k, (Value.slice vo x.data.length vc).ownBlock = some k → w0.heap.size ≤ k ∧ ¬ K k
section
variable {w0 w w1 w' wx wy : World} {K J : Nat → Prop} {b c c' rb dx n cp : Nat} {s s' : Net} {r : Option Nat} {vd : Value} {q q' : DNv} {D D' : DN}
theorem cn_recv2 (h : CN w0 K b c s w) (hc : c ≤ 20000) (h0 : 0 < s.arr.length) (ht0 : 0 ≤ (s.at_ (bestN s s.arr.length)).t) (ht1 : (s.at_ (bestN s s.arr.length)).t ≤ 1152921504606846976) :
    Calls Try.prog 16 #[.pointer (some ⟨b, 0, none⟩)] w (CNR2 w0 K b c s.recv (s.at_ (bestN s s.arr.length)) w) := by
  have ha := h.g.a
  refine (recv_some h.t.bound h0 (by omega)).mono ?_
  rintro e w' ⟨vo, vc, rfl, ho, hP, hN, hO⟩
  have hbe : Below w0.heap.size w0 w' := h.be.trans (hO.below h.be.size fun k hk => hk.1.1)
  refine ⟨vo, vc, rfl, ho, ⟨hN.mono fun k hk => ?_, h.g.recv ht0 ht1, hbe, fun k hk => ?_⟩, fun k hk => hO.block k (h.lt k hk) fun e => e.1.2 hk, fun k hk => (hP k hk).1⟩
  · rcases hk.1 with h1 | h1
    · exact ⟨h1.1.1, fun hK => hK.elim h1.1.2 hk.2⟩
    · exact ⟨Nat.le_trans h.be.size h1, fun hK => hK.elim (fun h2 => by have := h.lt k h2; omega) hk.2⟩
  · rcases hk with hk | hk
    · exact Nat.lt_of_lt_of_le (h.lt k hk) hO.size
    · exact ho.lt k hk
/-- Behind both Receives: the delivery lies in the box dx, its n bytes at vd; the document's network lies in rb or not yet. -/
structure InP (w0 : World) (b c dx n : Nat) (vd : Value) (dv : Array Value) (K : Nat → Prop) (s : Net) (q : DNv) (D : DN) (wx : World) : Prop where
  t : CN w0 (fun k => K k ∨ vd.ownBlock = some k) b c s wx
  d : DNAt K wx q D
  l : D.lim = w0.heap.size
  o : wx.heap[dx]? = some (.cells dv 43 (0, 0))
  y : ∃ l, l.length = n ∧ OL wx 5 1 vd n (bys l)
  a : ∀ k, vd.ownBlock = some k → w0.heap.size ≤ k ∧ ¬ K k
theorem InP.bel {dv : Array Value} (h : InP w0 b c dx n vd dv K s q D wx) (hb : Below wx.heap.size wx wy) : InP w0 b c dx n vd dv K s q D wy :=
  ⟨h.t.bel hb, h.d.bel hb, h.l, (hb.block _ (lt_of_block h.o)).trans h.o, by
    obtain ⟨l, hl, hy⟩ := h.y
    exact ⟨l, hl, hy.bel hb⟩, h.a⟩
/-- The document's Receive, with the blocks that it makes. -/
theorem InP.doc {dv : Array Value} (h : InP w0 b c dx n vd dv K s q D wx) (hr : DNAt (fun k => K k ∨ wx.heap.size ≤ k) wy q' D') (hb : Below wx.heap.size wx wy) (hl : D'.lim = D.lim) :
    InP w0 b c dx n vd dv (fun k => K k ∨ (wx.heap.size ≤ k ∧ k < wy.heap.size)) s q' D' wy := by
  have h' := h.bel hb
  refine ⟨(h.t.add hb (J := fun k => wx.heap.size ≤ k ∧ k < wy.heap.size) fun k hk => hk).less fun k hk => ?_, hr.to fun k hk hx => hx.imp (fun x => x) fun x => ⟨x, hk⟩, hl.trans h.l, h'.o, h'.y, fun k hk => ⟨(h.a k hk).1, fun hK => ?_⟩⟩
  · rcases hk with (hk | hk) | hk
    · exact .inl (.inl hk)
    · exact .inr hk
    · exact .inl (.inr hk)
  · obtain ⟨l, _, hy⟩ := h.y
    have := hy.lt k hk
    rcases hK with hK | hK
    · exact (h.a k hk).2 hK
    · omega
/-- A row of another type changes that lies in a kept block. -/
theorem InP.row {dv : Array Value} (h : InP w0 b c dx n vd dv K s q D wx) {old cs : Array Value} (hr : wx.heap[rb]? = some (.cells old tDN (0, 0))) (hk : K rb) (hl : w0.heap.size ≤ rb) : InP w0 b c dx n vd dv K s q D (wx.setRow rb cs) :=
  ⟨h.t.grown (r := some rb) ⟨rfl, rfl, rfl, by simp, fun k _ hk2 => setRow_other _ _ _ _ fun e => hk2 (by rw [e])⟩ fun g hg => by
    obtain rfl := Option.some.inj hg
    exact ⟨.inl hk, hl⟩, h.d.heapQ (fun b cs t ht hb => setRow_other _ _ _ _ (type_ne hb hr ht)) (fun g hg => setRow_other _ _ _ _ (by rw [h.l] at hg; omega)) (by simp), h.l,
    (setRow_other _ _ _ _ (type_ne h.o hr (by decide))).trans h.o, by
    obtain ⟨l, hl, hy⟩ := h.y
    exact ⟨l, hl, hy.heap fun g hg => by
      obtain ⟨cur, hc⟩ := OL.elem hy g hg
      exact setRow_other _ _ _ _ (type_ne hc hr (by decide))⟩, h.a⟩
/-- A byte of the data changes. -/
theorem InP.byte {dv : Array Value} {g off cap : Nat} (h : InP w0 b c dx n (.slice (some ⟨g, off, none⟩) n cap) dv K s q D wx) {j : Nat} (hj : j < n) (u : Int) : InP w0 b c dx n (.slice (some ⟨g, off, none⟩) n cap) dv K s q D (wx.setCell ⟨g, off + j, none⟩ (.int .u8 u)) := by
  obtain ⟨l, hl, hy⟩ := h.y
  have hg := h.a g rfl
  have hlt := hy.lt g rfl
  obtain ⟨cur, hc⟩ := OL.elem hy g rfl
  have hoth : ∀ k, k ≠ g → (wx.setCell ⟨g, off + j, none⟩ (.int .u8 u)).heap[k]? = wx.heap[k]? := fun k hk => Below.heap_setCell wx _ _ k hk
  refine ⟨h.t.grown (r := some g) ⟨rfl, rfl, rfl, by simp, fun k _ hk2 => hoth k fun e => hk2 (by rw [e])⟩ fun k hk => by
    obtain rfl := Option.some.inj hk
    exact ⟨.inr rfl, hg.1⟩, h.d.heap (fun k hk _ => hoth k fun e => hg.2 (e ▸ hk)) (fun k hk => hoth k (by rw [h.l] at hk; omega)) (by simp), h.l, (hoth _ (type_ne h.o hc (by decide))).trans h.o, ?_, h.a⟩
  refine ⟨l.set j u, by simpa using hl, ?_⟩
  have := OL.setCell hy j (by omega) (.int .u8 u)
  unfold bys at *
  rw [List.map_set]
  exact this
theorem InP.cell {dv : Array Value} {g off cap : Nat} (h : InP w0 b c dx n (.slice (some ⟨g, off, none⟩) n cap) dv K s q D wx) {j : Nat} (hj : j < n) : ∃ x, wx.cell? ⟨g, off + j, none⟩ = some (.int .u8 x) ∧ wx.frozen? ⟨g, off + j, none⟩ = false := by
  obtain ⟨l, hl, hy⟩ := h.y
  exact ⟨_, (OL.cell hy j (by omega)).trans (bys_get l j (by omega)), OL.free hy _⟩
theorem InP.form {dv : Array Value} (h : InP w0 b c dx n vd dv K s q D wx) (hn : 0 < n) : ∃ g off cap, vd = .slice (some ⟨g, off, none⟩) n cap := by
  obtain ⟨l, hl, hy⟩ := h.y
  obtain ⟨g, off, cap, e, _⟩ := hy.form hn
  exact ⟨g, off, cap, e⟩
theorem InP.out {dv : Array Value} (h : InP w0 b c dx n vd dv K s q D wx) : PlK w0 K b c s q D wx := ⟨h.t.less fun _ hk => .inl hk, h.d, h.l⟩
/-- Two boxes of its own. -/
theorem two_news (w : World) (a b : Array Value) (t u : TypeId) : Below w.heap.size w ((w.alloc (.cells a t)).alloc (.cells b u)) ∧ ((w.alloc (.cells a t)).alloc (.cells b u)).heap[w.heap.size]? = some (.cells a t (0, 0)) ∧ ((w.alloc (.cells a t)).alloc (.cells b u)).heap[w.heap.size + 1]? = some (.cells b u (0, 0)) :=
  ⟨((Below.refl _ _).alloc (Nat.le_refl _) _).alloc (by simp) _, has_alloc (heap_alloc_new w _) _, heap_at (by simp)⟩
/-- How many deliveries the document's network in rb has. -/
def lenAt (wx : World) (rb : Nat) : Nat := match wx.cell? ⟨rb, 7, none⟩ with | some (.slice _ n _) => n | _ => 0
theorem lenAt_of {a0 a1 a2 a3 a4 a5 a6 : Value} {al : Option Addr} {m cl : Nat} {t : TypeId} (h : wx.heap[rb]? = some (.cells #[a0, a1, a2, a3, a4, a5, a6, .slice al m cl] t (0, 0))) : lenAt wx rb = m := by
  unfold lenAt
  rw [(get_row8 h).1.2.2.2.2.2.2.2]
end
end Go.Proofs.Ytkhiepjlfbjgdaa

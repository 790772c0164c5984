/- topology: the document's routes so far: in memory, and what a round does. Conditions: none. -/
import Derived.Test.YtpcapmialdmcaaaTpRb
namespace Go.Proofs.Ytpcapmialdmcaaa
open Go.RowKit Go.Maps

/-- The routes so far, in block br; the sums, in block bs. -/
def RR (w : World) (br : Nat) (ts : List ByteArray) (R : ByteArray → Option Rt) : Prop := ∃ vs : List Value, vs.length = ts.length ∧ Row w 28 br vs ∧ ∀ i, i < ts.length → (R (ts.getD i ByteArray.empty) = none → vs.getD i undef = .slice none 0 0) ∧ ∀ r, R (ts.getD i ByteArray.empty) = some r → ∃ ao cap, vs.getD i undef = .slice ao r.1.length cap ∧ IsT w (.slice ao r.1.length cap) r.1
def SS (w : World) (bs : Nat) (ts : List ByteArray) (R : ByteArray → Option Rt) : Prop := ∃ ss : List Int, ss.length = ts.length ∧ Row w 3 bs (ints ss) ∧ ∀ i, i < ts.length → ∀ r, R (ts.getD i ByteArray.empty) = some r → ss.getD i 0 = r.2
section
variable {w w' wx wy : World} {br bs bm : Nat} {ts : List ByteArray} {R : ByteArray → Option Rt}
theorem nodup_getD {l : List ByteArray} (h : l.Nodup) {i j : Nat} (hi : i < l.length) (hj : j < l.length) (e : l.getD i ByteArray.empty = l.getD j ByteArray.empty) : i = j := by
  have e1 : l.getD i ByteArray.empty = l[i] := by simp [List.getD, hi]
  have e2 : l.getD j ByteArray.empty = l[j] := by simp [List.getD, hj]
  rw [e1, e2] at e
  have hp := List.pairwise_iff_getElem.1 h
  rcases Nat.lt_trichotomy i j with h1 | h1 | h1
  · exact absurd e (hp i j hi hj h1)
  · exact h1
  · exact absurd e.symm (hp j i hj hi h1)
theorem RR.heap (h : RR w br ts R) (hk : ∀ (b : Nat) (cs : Array Value) (t : TypeId), t ≠ 3 → t ≠ 31 → w.heap[b]? = some (Obj.cells cs t (0, 0)) → w'.heap[b]? = w.heap[b]?) : RR w' br ts R := by
  obtain ⟨vs, h1, h2, h3⟩ := h
  refine ⟨vs, h1, h2.at (hk br _ _ (by decide) (by decide) h2), fun i hi => ⟨(h3 i hi).1, fun r hr => ?_⟩⟩
  obtain ⟨ao, cap, e, ho⟩ := (h3 i hi).2 r hr
  exact ⟨ao, cap, e, OL.heap ho fun g hg => by
    obtain ⟨cur, hc⟩ := OL.elem ho g hg
    exact hk g _ _ (by decide) (by decide) hc⟩
theorem RR.below (h : RR w br ts R) (hb : Below w.heap.size w w') : RR w' br ts R := h.heap fun b cs t _ _ hc => hb.block b (lt_of_block hc)
theorem RR.at_ (h : RR w br ts R) {i : Nat} (hi : i < ts.length) : (R (ts.getD i ByteArray.empty) = none → w.cell? ⟨br, i, none⟩ = some (.slice none 0 0)) ∧ (∀ r, R (ts.getD i ByteArray.empty) = some r → ∃ ao cap, w.cell? ⟨br, i, none⟩ = some (.slice ao r.1.length cap) ∧ IsT w (.slice ao r.1.length cap) r.1) ∧ w.frozen? ⟨br, i, none⟩ = false := by
  obtain ⟨vs, h1, h2, h3⟩ := h
  have hc := h2.cell (i := i) (by omega)
  refine ⟨fun hn => by rw [hc, (h3 i hi).1 hn], fun r hr => ?_, h2.free i⟩
  obtain ⟨ao, cap, e, ho⟩ := (h3 i hi).2 r hr
  exact ⟨ao, cap, by rw [hc, e], ho⟩
theorem RR.put (h : RR w br ts R) (hn : ts.Nodup) {k : Nat} (hk : k < ts.length) {r : Rt} {ao : Option Addr} {cap : Nat} (hv : IsT w (.slice ao r.1.length cap) r.1) : RR (w.setCell ⟨br, k, none⟩ (.slice ao r.1.length cap)) br ts (setO R (ts.getD k ByteArray.empty) (some r)) := by
  obtain ⟨vs, h1, h2, h3⟩ := h
  have keep : ∀ {u : Value} {l : List ByteArray}, IsT w u l → IsT (w.setCell ⟨br, k, none⟩ (.slice ao r.1.length cap)) u l := fun {u l} hu => OL.heap hu fun g hg => Below.heap_setCell _ _ _ _ (by
    obtain ⟨cur, hc⟩ := OL.elem hu g hg
    exact type_ne hc h2 (by decide))
  refine ⟨vs.set k (.slice ao r.1.length cap), by rw [List.length_set]; exact h1, h2.set k _, fun i hi => ?_⟩
  by_cases e : i = k
  · subst e
    rw [setO_self, _root_.Go.Proofs.Ytpcapmialdmcaaa.getD_set_self (by omega)]
    exact ⟨fun h => (by cases h), fun r' hr => (by obtain rfl := Option.some.inj hr; exact ⟨ao, cap, rfl, keep hv⟩)⟩
  · have hne : ts.getD i ByteArray.empty ≠ ts.getD k ByteArray.empty := fun he => e (nodup_getD hn hi hk he)
    rw [setO_ne hne, _root_.Go.Proofs.Ytpcapmialdmcaaa.getD_set_ne (by omega)]
    refine ⟨(h3 i hi).1, fun r' hr => ?_⟩
    obtain ⟨ao', cap', e', ho⟩ := (h3 i hi).2 r' hr
    exact ⟨ao', cap', e', keep ho⟩
theorem RR.made {n : Nat} (hn : ts.length = n) (h : w.heap[br]? = some (.cells (madeCells #[.slice none 0 0] n) 28 (0, 0))) : RR w br ts (fun _ => none) :=
  ⟨List.replicate n (.slice none 0 0), by simp [hn], Row.made h, fun i hi => ⟨fun _ => by simp [List.getD, show i < n by omega], fun r hr => by cases hr⟩⟩
theorem SS.heap (h : SS w bs ts R) (hk : ∀ (b : Nat) (cs : Array Value), w.heap[b]? = some (Obj.cells cs 3 (0, 0)) → w'.heap[b]? = w.heap[b]?) : SS w' bs ts R := by
  obtain ⟨ss, h1, h2, h3⟩ := h
  exact ⟨ss, h1, h2.at (hk bs _ h2), h3⟩
theorem SS.below (h : SS w bs ts R) (hb : Below w.heap.size w w') : SS w' bs ts R := h.heap fun b cs hc => hb.block b (lt_of_block hc)
theorem SS.at_ (h : SS w bs ts R) {i : Nat} (hi : i < ts.length) : (∀ r, R (ts.getD i ByteArray.empty) = some r → w.cell? ⟨bs, i, none⟩ = some (.int .i64 r.2)) ∧ (∃ z, w.cell? ⟨bs, i, none⟩ = some (.int .i64 z)) ∧ w.frozen? ⟨bs, i, none⟩ = false := by
  obtain ⟨ss, h1, h2, h3⟩ := h
  have hc := h2.cell (i := i) (by rw [ints_len]; omega)
  have e : (ints ss).getD i undef = .int .i64 (ss.getD i 0) := by
    rw [List.getD, ints_get ss i (by omega)]; rfl
  rw [e] at hc
  exact ⟨fun r hr => by rw [hc, h3 i hi r hr], ⟨_, hc⟩, h2.free i⟩
theorem SS.put (h : SS w bs ts R) (hn : ts.Nodup) {k : Nat} (hk : k < ts.length) (r : Rt) : SS (w.setCell ⟨bs, k, none⟩ (.int .i64 r.2)) bs ts (setO R (ts.getD k ByteArray.empty) (some r)) := by
  obtain ⟨ss, h1, h2, h3⟩ := h
  refine ⟨ss.set k r.2, by rw [List.length_set]; exact h1, by rw [ints_set]; exact h2.set k _, fun i hi r' hr => ?_⟩
  by_cases e : i = k
  · subst e
    rw [setO_self] at hr
    obtain rfl := Option.some.inj hr
    exact _root_.Go.Proofs.Ytpcapmialdmcaaa.getD_set_self (by omega)
  · have hne : ts.getD i ByteArray.empty ≠ ts.getD k ByteArray.empty := fun he => e (nodup_getD hn hi hk he)
    rw [setO_ne hne] at hr
    rw [_root_.Go.Proofs.Ytpcapmialdmcaaa.getD_set_ne (by omega)]
    exact h3 i hi r' hr
theorem SS.made {n : Nat} (hn : ts.length = n) (h : w.heap[bs]? = some (.cells (madeCells #[.int .i64 0] n) 3 (0, 0))) (hR : ∀ s r, R s = some r → r.2 = 0) : SS w bs ts R :=
  ⟨List.replicate n 0, by simp [hn], by
    have : ints (List.replicate n 0) = List.replicate n (.int .i64 0) := by simp [ints]
    rw [this]
    exact Row.made h, fun i hi r hr => by rw [hR _ r hr]; simp [List.getD, show i < n by omega]⟩
/-- The memory in Routes. -/
structure RD (w : World) (bm br bs : Nat) (tv lv : Value) (ts : List ByteArray) (R : ByteArray → Option Rt) (wx : World) : Prop where
  m : wx.heap[bm]? = some (.cells #[tv, lv] 31 (0, 0))
  b : Below w.heap.size w wx
  r : RR wx br ts R
  s : SS wx bs ts R
  lr : w.heap.size ≤ br
  ls : w.heap.size ≤ bs
variable {tv lv : Value}
theorem RD.on (h : RD w bm br bs tv lv ts R wx) (hb : Below wx.heap.size wx wy) : RD w bm br bs tv lv ts R wy :=
  ⟨(hb.block _ (lt_of_block h.m)).trans h.m, h.b.trans (hb.mono h.b.size), h.r.below hb, h.s.below hb, h.lr, h.ls⟩
theorem RD.nebs (h : RD w bm br bs tv lv ts R wx) : br ≠ bs := by
  obtain ⟨_, _, h2, _⟩ := h.r
  obtain ⟨_, _, h3, _⟩ := h.s
  exact type_ne h2 h3 (by decide)
theorem RD.put (h : RD w bm br bs tv lv ts R wx) (hn : ts.Nodup) {k : Nat} (hk : k < ts.length) {r : Rt} {ao : Option Addr} {cap : Nat} (hv : IsT wx (.slice ao r.1.length cap) r.1) : RD w bm br bs tv lv ts (setO R (ts.getD k ByteArray.empty) (some r)) ((wx.setCell ⟨br, k, none⟩ (.slice ao r.1.length cap)).setCell ⟨bs, k, none⟩ (.int .i64 r.2)) := by
  have hne := h.nebs
  have hr := h.r.put hn hk hv
  obtain ⟨vs, _, hvr, _⟩ := id h.r
  obtain ⟨ss, _, hss, _⟩ := id h.s
  have hs : SS (wx.setCell ⟨br, k, none⟩ (.slice ao r.1.length cap)) bs ts R := h.s.heap fun b cs hc => Below.heap_setCell _ _ _ _ (type_ne hc hvr (by decide))
  refine ⟨?_, (h.b.setCell h.lr _).setCell h.ls _, ?_, hs.put hn hk r, h.lr, h.ls⟩
  · have n1 : bm ≠ bs := type_ne h.m hss (by decide)
    have n2 : bm ≠ br := type_ne h.m hvr (by decide)
    rw [Below.heap_setCell _ _ _ _ n1, Below.heap_setCell _ _ _ _ n2]
    exact h.m
  · refine hr.heap fun b cs t h1 h2 hc => Below.heap_setCell _ _ _ _ (fun e => ?_)
    have e' : b = bs := e
    have n3 : b ≠ br := fun e2 => hne (e2.symm.trans e')
    rw [Below.heap_setCell _ _ _ _ n3] at hc
    exact type_ne hc hss h1 e'
end
/-- The loops' state. -/
def FixAt (E : ByteArray → ByteArray → Option Int) (R : ByteArray → Option Rt) (x y : ByteArray) : Prop := ∀ r l, R x = some r → E x y = some l → ∃ q, R y = some q ∧ lee q (gone r y l)
structure RL (E : ByteArray → ByteArray → Option Int) (ts : List ByteArray) (a : ByteArray) (R0 : ByteArray → Option Rt) (i k : Nat) (ch : Bool) (R : ByteArray → Option Rt) : Prop where
  bf : BF E (· ∈ ts) a R
  up : ch = true → muR (cands E ts) ts R < muR (cands E ts) ts R0
  dn : ch = false → R = R0 ∧ ∀ x y, (x < i ∧ y < ts.length) ∨ (x = i ∧ y < k) → FixAt E R (ts.getD x ByteArray.empty) (ts.getD y ByteArray.empty)
section
variable {E : ByteArray → ByteArray → Option Int} {ts : List ByteArray} {a : ByteArray} {R0 R : ByteArray → Option Rt} {i k : Nat} {ch : Bool}
theorem RL.start (h : BF E (· ∈ ts) a R0) : RL E ts a R0 0 0 false R0 := ⟨h, fun h => (by cases h), fun _ => ⟨rfl, fun x y h => by omega⟩⟩
theorem RL.skip (h : RL E ts a R0 i k ch R) (hf : FixAt E R (ts.getD i ByteArray.empty) (ts.getD k ByteArray.empty)) : RL E ts a R0 i (k + 1) ch R :=
  ⟨h.bf, h.up, fun hc => ⟨(h.dn hc).1, fun x y hxy => by
    by_cases e : x = i ∧ y = k
    · obtain ⟨rfl, rfl⟩ := e; exact hf
    · exact (h.dn hc).2 x y (by omega)⟩⟩
theorem RL.row (h : RL E ts a R0 i ts.length ch R) : RL E ts a R0 (i + 1) 0 ch R := ⟨h.bf, h.up, fun hc => ⟨(h.dn hc).1, fun x y hxy => (h.dn hc).2 x y (by omega)⟩⟩
theorem RL.put (N : Net_ E) (h : RL E ts a R0 i k ch R) (hk : k < ts.length) {r : Rt} {l : Int} (hr : R (ts.getD i ByteArray.empty) = some r) (he : E (ts.getD i ByteArray.empty) (ts.getD k ByteArray.empty) = some l) (hb : ∀ q, R (ts.getD k ByteArray.empty) = some q → btr (gone r (ts.getD k ByteArray.empty) l) q = true) : RL E ts a R0 i (k + 1) true (setO R (ts.getD k ByteArray.empty) (some (gone r (ts.getD k ByteArray.empty) l))) := by
  obtain ⟨h1, h2, h3⟩ := h.bf.step N hr he (getD_mem hk) hb
  refine ⟨h1, fun _ => ?_, fun hc => (by cases hc)⟩
  have := muR_lt (C := cands E ts) (ts := ts) (getD_mem hk) (cands_mem h3 h2) hb
  cases ch with
  | true => exact Nat.lt_trans this (h.up rfl)
  | false => rw [(h.dn rfl).1] at this ⊢; exact this
theorem RL.fix (h : RL E ts a R0 ts.length 0 false R) : ∀ x y, x ∈ ts → y ∈ ts → FixAt E R x y := fun x y hx hy => by
  obtain ⟨i, hi, rfl⟩ := List.getElem_of_mem hx
  obtain ⟨j, hj, rfl⟩ := List.getElem_of_mem hy
  have := (h.dn rfl).2 i j (.inl ⟨hi, hj⟩)
  simpa [List.getD, hi, hj] using this
theorem RL.sum (N : Net_ E) (h : RL E ts a R0 i k ch R) (h64 : ts.length ≤ 64) {s : ByteArray} {r : Rt} (hr : R s = some r) : 1 ≤ r.1.length ∧ r.1.length ≤ 64 ∧ 0 ≤ r.2 ∧ r.2 ≤ 1099511627776 := by
  obtain ⟨h1, h2⟩ := h.bf.p s r hr
  obtain ⟨h3, h4, h5⟩ := h1.len N
  have h6 := nodup_le h2 h1.all
  exact ⟨h3, by omega, h4, by omega⟩
end
end Go.Proofs.Ytpcapmialdmcaaa

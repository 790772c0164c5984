/- queue: the calls as the law sees them; the fixed example. -/
import Derived.Test.YtonkaodbjohkkaaQuL
namespace Go.Proofs.Ytonkaodbjohkkaa
open Go.RowKit

section
variable {w w' : World} {B b c : Nat} {s : QS}
/-- A queue in blocks from B on. -/
def QB (B : Nat) (w : World) (b : Nat) (s : QS) : Prop := QIs w (B ≤ ·) b s
theorem QB.belowS (h : QB B w b s) (hb : Below w.heap.size w w') : QB B w' b s := QIs.belowS h hb
theorem QB.of_up {P : Nat → Prop} (hP : ∀ k, P k → B ≤ k) (hB : B ≤ w.heap.size) (h : QUp P b s w w') : QB B w' b s ∧ Below B w w' := by
  refine ⟨h.is.mono fun k hk => ?_, h.only.below hB hP⟩
  rcases hk with h | h
  · exact hP k h
  · omega
/-- What a call returns that gives texts. -/
def TxtP (B : Nat) (b : Nat) (s : QS) (l : List ByteArray) (w : World) (e : Ending) (w' : World) : Prop :=
  ∃ ao cap, e = .returned (.slice ao l.length cap) ∧ IsT w' (.slice ao l.length cap) l ∧ QB B w' b s ∧ Below B w w'
def ValP (B : Nat) (b : Nat) (s : QS) (v : Value) (w : World) (e : Ending) (w' : World) : Prop := e = .returned v ∧ QB B w' b s ∧ Below B w w'
theorem b_put (h : QB B w b s) (hB : B ≤ w.heap.size) (g : QGd c s) (hg64 : s.g.length ≤ 64) (hsu : sumI s.r + sumI s.f ≤ 2199023255552) (hc : c ≤ 90000) (k : ByteArray) (z : Int) (hz : -9223372036854775808 ≤ z ∧ z ≤ 9223372036854775807) {R : QS × List ByteArray} (hR : putS s k z = R) :
    Calls Try.prog 13 #[.pointer (some ⟨b, 0, none⟩), .string k, .int .i64 z] w (TxtP B b R.1 R.2 w) := by
  subst hR
  refine (q_put h g hg64 hsu hc k z hz).mono ?_
  rintro e w1 ⟨v, rfl, hT, _, hq⟩
  obtain ⟨h1, h2⟩ := QB.of_up (fun k hk => hk) hB hq
  obtain ⟨ao, cap, rfl, _⟩ := hT.form
  exact ⟨ao, cap, rfl, hT, h1, h2⟩
theorem TxtP.of_new {l : List ByteArray} {e : Ending} (h : QB B w b s) (hB : B ≤ w.heap.size) (hn : NewT l w e w') : TxtP B b s l w e w' := by
  obtain ⟨v, rfl, hT, _, hb⟩ := hn
  obtain ⟨ao, cap, rfl, _⟩ := hT.form
  exact ⟨ao, cap, rfl, hT, h.belowS hb, hb.mono hB⟩
def keysQ (s : QS) : List ByteArray := s.r.map Prod.fst ++ s.f.map Prod.fst
theorem b_keys (h : QB B w b s) (hB : B ≤ w.heap.size) (hl : s.r.length + s.f.length ≤ 100000) {l : List ByteArray} (hR : keysQ s = l) : Calls Try.prog 16 #[.pointer (some ⟨b, 0, none⟩)] w (TxtP B b s l w) := by
  subst hR
  obtain ⟨vr, vf, vg, h1, _⟩ := id h
  exact (q_keys h1 hl).mono fun e w' he => TxtP.of_new h hB he
theorem b_ghosts (h : QB B w b s) (hB : B ≤ w.heap.size) (hl : s.g.length ≤ 100000) {l : List ByteArray} (hR : s.g.map Prod.fst = l) : Calls Try.prog 15 #[.pointer (some ⟨b, 0, none⟩)] w (TxtP B b s l w) := by
  subst hR
  obtain ⟨vr, vf, vg, h1, _⟩ := id h
  exact (q_ghosts h1 hl).mono fun e w' he => TxtP.of_new h hB he
theorem b_has (h : QB B w b s) (hB : B ≤ w.heap.size) (k : ByteArray) : Calls Try.prog 12 #[.pointer (some ⟨b, 0, none⟩), .string k] w (ValP B b s (.bool (hasL s.r k || hasL s.f k)) w) := by
  obtain ⟨vr, vf, vg, h1, _⟩ := id h
  refine (q_has h1 k).mono ?_
  rintro e w' ⟨rfl, hb⟩
  exact ⟨rfl, h.belowS hb, hb.mono hB⟩
theorem b_used (h : QB B w b s) (hB : B ≤ w.heap.size) (g : QGd c s) : Calls Try.prog 26 #[.pointer (some ⟨b, 0, none⟩)] w (ValP B b s (.int .i64 (sumI s.r + sumI s.f)) w) := by
  obtain ⟨vr, vf, vg, h1, _⟩ := id h
  refine (q_used h1 g).mono ?_
  rintro e w' ⟨rfl, hb⟩
  exact ⟨rfl, h.belowS hb, hb.mono hB⟩
theorem b_touch (h : QB B w b s) (hB : B ≤ w.heap.size) (hl : s.f.length ≤ 100000) (k : ByteArray) {R : QS} (hR : TouchS s k = R) : Calls Try.prog 17 #[.pointer (some ⟨b, 0, none⟩), .string k] w (ValP B b R (.bool (hasL s.f k || hasL s.r k)) w) := by
  subst hR
  refine (q_touch h hl k).mono ?_
  rintro e w' ⟨rfl, hq⟩
  exact ⟨rfl, QB.of_up (fun k hk => hk) hB hq⟩
theorem b_remove (h : QB B w b s) (hB : B ≤ w.heap.size) (k : ByteArray) {R : QS} (hR : RemS s k = R) : Calls Try.prog 20 #[.pointer (some ⟨b, 0, none⟩), .string k] w (ValP B b R (.bool (hasL s.r k || hasL s.f k)) w) := by
  subst hR
  refine (q_remove h k).mono ?_
  rintro e w' ⟨rfl, hq⟩
  exact ⟨rfl, QB.of_up (fun k hk => hk) hB hq⟩
theorem b_new (z : Int) (w : World) (h1 : 1 ≤ z) (h2 : z ≤ 1099511627776) : Calls Try.prog 10 #[.int .i64 z] w fun e w' => ∃ b, e = .returned (.tuple #[.pointer (some ⟨b, 0, none⟩), .nilIface]) ∧ QB w.heap.size w' b ⟨z, [], [], []⟩ ∧ Below w.heap.size w w' := q_new z w h1 h2
/-- Texts against a list written out. -/
theorem b_texts {va vb : Value} {a l : List ByteArray} (ha : IsT w va a) (hb : IsT w vb l) {x : Bool} (hx : x = true ↔ a = l) : Calls Try.prog 14 #[va, vb] w fun e w' => e = .returned (.bool x) ∧ Below w.heap.size w w' := by
  refine (texts_any ha hb).mono ?_
  rintro e w' ⟨y, rfl, hy, hb⟩
  have : y = x := by rw [Bool.eq_iff_iff, hy, hx]
  exact ⟨by rw [this], hb⟩
/-- A list of texts written out. -/
theorem lit_texts (w : World) (l : List ByteArray) (n : Nat) (hn : n = l.length) (hl : n ≤ 100) : IsT (w.alloc (.cells (strs l).toArray 9)) (.slice (some ⟨w.heap.size, 0, none⟩) n n) l := by
  subst hn
  exact OL.of_block (cs := strs l) (heap_alloc_new w _) (by simp [strs]) (by unfold maxLen; omega)
end
theorem put_s {s : QS} {k : ByteArray} {z z1 : Int} {s1 : QS} (hm : max z 1 = z1) (hc : ¬ s.cap < z1) (hp : putIn s k z1 = s1) : putS s k z = evict (sizeQ s1) s1 [] := by
  unfold putS
  rw [hm, if_neg hc, hp]
theorem ev_stop {s : QS} {n : Nat} {out : List ByteArray} (h : ¬ s.cap < sumI s.r + sumI s.f) : evict n s out = (s, out) := evict_stop n out (decide_eq_false h)
theorem ev_r {s s2 : QS} {n : Nat} {out : List ByteArray} {k : ByteArray} (h : s.cap < sumI s.r + sumI s.f) (hf : s.cap / 4 < sumI s.r ∨ s.f.length = 0) (hk : (lastI s.r).1 = k) (hs : evR s = s2) : evict (n + 1) s out = evict n s2 (out ++ [k]) := by
  rw [evict, if_pos (show over s = true from decide_eq_true h), if_pos (by unfold fromR; rw [Bool.or_eq_true]; exact hf.imp decide_eq_true decide_eq_true), hk, hs]
theorem ev_f {s s2 : QS} {n : Nat} {out : List ByteArray} {k : ByteArray} (h : s.cap < sumI s.r + sumI s.f) (hf : ¬ s.cap / 4 < sumI s.r ∧ s.f.length ≠ 0) (hk : (lastI s.f).1 = k) (hs : evF s = s2) : evict (n + 1) s out = evict n s2 (out ++ [k]) := by
  rw [evict, if_pos (show over s = true from decide_eq_true h), if_neg (by unfold fromR; rw [decide_eq_false hf.1, decide_eq_false hf.2]; decide), hk, hs]
theorem hasL_nil (k : ByteArray) : hasL [] k = false := rfl
theorem remL_nil (k : ByteArray) : remL [] k = [] := rfl
theorem hasL_cons (x : It) (l : List It) (k : ByteArray) : hasL (x :: l) k = (eqB x.1 k || hasL l k) := by
  unfold hasL idxN
  rw [List.findIdx?_cons]
  cases eqB x.1 k <;> simp
theorem remL_cons (x : It) (l : List It) (k : ByteArray) : remL (x :: l) k = if eqB x.1 k = true then l else x :: remL l k := by
  unfold remL idxN
  rw [List.findIdx?_cons]
  cases eqB x.1 k
  · cases h : List.findIdx? (fun x => eqB x.1 k) l <;> simp
  · simp
theorem aw1 : putS ⟨8, [], [], []⟩ ⟨#[97]⟩ 3 = (⟨8, [(⟨#[97]⟩, 3)], [], []⟩, []) := by
  rw [put_s (z1 := 3) (s1 := ⟨8, [(⟨#[97]⟩, 3)], [], []⟩) (by decide) (by decide) rfl, ev_stop (by decide)]
theorem aw2 : putS ⟨8, [(⟨#[97]⟩, 3)], [], []⟩ ⟨#[98]⟩ 3 = (⟨8, [(⟨#[98]⟩, 3), (⟨#[97]⟩, 3)], [], []⟩, []) := by
  have e1 : eqB ⟨#[97]⟩ ⟨#[98]⟩ = false := eqB_ne (by decide)
  rw [put_s (z1 := 3) (s1 := ⟨8, [(⟨#[98]⟩, 3), (⟨#[97]⟩, 3)], [], []⟩) (by decide) (by decide) (by simp [putIn, often, Go.Proofs.Ytonkaodbjohkkaa.base, hasL_nil, remL_nil, remL_cons, e1]), ev_stop (by decide)]
theorem aw3 : putS ⟨8, [(⟨#[98]⟩, 3), (⟨#[97]⟩, 3)], [], []⟩ ⟨#[99]⟩ 3 = (⟨8, [(⟨#[99]⟩, 3), (⟨#[98]⟩, 3)], [], [(⟨#[97]⟩, 0)]⟩, [⟨#[97]⟩]) := by
  have e1 : eqB ⟨#[97]⟩ ⟨#[99]⟩ = false := eqB_ne (by decide)
  have e2 : eqB ⟨#[98]⟩ ⟨#[99]⟩ = false := eqB_ne (by decide)
  rw [put_s (z1 := 3) (s1 := ⟨8, [(⟨#[99]⟩, 3), (⟨#[98]⟩, 3), (⟨#[97]⟩, 3)], [], []⟩) (by decide) (by decide) (by simp [putIn, often, Go.Proofs.Ytonkaodbjohkkaa.base, hasL_nil, remL_nil, remL_cons, e1, e2])]
  show evict (2 + 1) _ _ = _
  rw [ev_r (k := ⟨#[97]⟩) (s2 := ⟨8, [(⟨#[99]⟩, 3), (⟨#[98]⟩, 3)], [], [(⟨#[97]⟩, 0)]⟩) (by decide) (.inl (by decide)) rfl rfl, ev_stop (by decide)]
  rfl
theorem gd_of {c : Nat} {s : QS} (h1 : 1 ≤ s.cap) (h2 : s.cap ≤ 1099511627776) (hr : ∀ x ∈ s.r, 0 ≤ x.2) (hf : ∀ x ∈ s.f, 0 ≤ x.2) (hs : sumI s.r + sumI s.f ≤ 4398046511104) (hl : s.r.length + s.f.length ≤ c) (hg : s.g.length ≤ 65) : QGd c s := ⟨h1, h2, hr, hf, hs, hl, hg⟩
set_option maxRecDepth 100000 in
set_option maxHeartbeats 1600000 in
theorem awake_any (w : World) : Calls Try.prog 9 #[] w fun e w' => e = .returned (.bool true) ∧ Below w.heap.size w w' := by
  have C1 := Lib.hid (b_new 8 w (by omega) (by omega))
  go_enter Try.func9, Try.ntmps9
  go_wp2_with fail
  refine C1.out.mono ?_
  rintro e w1 ⟨b, rfl, hQ, hB1⟩
  have CP := Lib.hid (b_put (c := 5) hQ hB1.size (gd_of (by decide) (by decide) (by simp) (by simp) (by decide) (by decide) (by decide)) (by decide) (by decide) (by decide) ⟨#[97]⟩ 3 (by decide) aw1)
  clear C1 hQ
  go_wp2_with fail
  refine CP.out.mono ?_
  rintro e w2 ⟨ao2, cap2, rfl, _, hQ, hB2⟩
  have hB2 := hB1.trans hB2
  have CP2 := Lib.hid (b_put (c := 5) hQ hB2.size (gd_of (by decide) (by decide) (by simp) (by simp) (by decide) (by decide) (by decide)) (by decide) (by decide) (by decide) ⟨#[98]⟩ 3 (by decide) aw2)
  clear CP hQ hB1
  go_wp2_with fail
  refine CP2.out.mono ?_
  rintro e w3 ⟨ao3, cap3, rfl, _, hQ, hB3⟩
  have hB3 := hB2.trans hB3
  have CP3 := Lib.hid (b_put (c := 5) hQ hB3.size (gd_of (by decide) (by decide) (by simp) (by simp) (by decide) (by decide) (by decide)) (by decide) (by decide) (by decide) ⟨#[99]⟩ 3 (by decide) aw3)
  clear CP2 hQ hB2
  go_wp2_with fail
  refine CP3.out.mono ?_
  rintro e w4 ⟨ao4, cap4, rfl, hT, hQ, hB4⟩
  have hB4 := hB3.trans hB4
  clear CP3 hB3
  have hA : Below w4.heap.size w4 (w4.alloc (.cells (strs [⟨#[97]⟩]).toArray 9)) := by go_grown
  have CT := Lib.hid (b_texts (x := true) (OL.below hT hA (fun g hg => OL.lt hT g hg)) (lit_texts w4 [⟨#[97]⟩] 1 rfl (by decide)) (by simp))
  have hB5 := hB4.trans (hA.mono hB4.size)
  have hQ5 := hQ.belowS hA
  clear hT hQ hB4 hA
  go_wp2_with fail
  refine CT.out.mono ?_
  rintro e w5 ⟨rfl, hB⟩
  have hB6 := hB5.trans (hB.mono hB5.size)
  have hQ6 := hQ5.belowS hB
  clear CT hB5 hQ5 hB
  have CK := Lib.hid (b_keys hQ6 hB6.size (by decide) (l := [⟨#[99]⟩, ⟨#[98]⟩]) rfl)
  go_wp2_with fail
  refine CK.out.mono ?_
  rintro e w6 ⟨ao6, cap6, rfl, hT, hQ, hB⟩
  have hB7 := hB6.trans hB
  clear CK hB6 hB hQ6
  have hA : Below w6.heap.size w6 (w6.alloc (.cells (strs [⟨#[99]⟩, ⟨#[98]⟩]).toArray 9)) := by go_grown
  have CT := Lib.hid (b_texts (x := true) (OL.below hT hA (fun g hg => OL.lt hT g hg)) (lit_texts w6 [⟨#[99]⟩, ⟨#[98]⟩] 2 rfl (by decide)) (by simp))
  have hB8 := hB7.trans (hA.mono hB7.size)
  have hQ8 := hQ.belowS hA
  clear hT hQ hB7 hA
  go_wp2_with fail
  refine CT.out.mono ?_
  rintro e w7 ⟨rfl, hB⟩
  have hB9 := hB8.trans (hB.mono hB8.size)
  have hQ9 := hQ8.belowS hB
  clear CT hB8 hQ8 hB
  have CG := Lib.hid (b_ghosts hQ9 hB9.size (by decide) (l := [⟨#[97]⟩]) rfl)
  go_wp2_with fail
  refine CG.out.mono ?_
  rintro e w8 ⟨ao8, cap8, rfl, hT, hQ, hB⟩
  have hB10 := hB9.trans hB
  clear CG hB9 hB hQ9
  have hA : Below w8.heap.size w8 (w8.alloc (.cells (strs [⟨#[97]⟩]).toArray 9)) := by go_grown
  have CT := Lib.hid (b_texts (x := true) (OL.below hT hA (fun g hg => OL.lt hT g hg)) (lit_texts w8 [⟨#[97]⟩] 1 rfl (by decide)) (by simp))
  have hB11 := hB10.trans (hA.mono hB10.size)
  clear hT hQ hB10 hA
  go_wp2_with fail
  refine CT.out.mono ?_
  rintro e w9 ⟨rfl, hB⟩
  have hB12 := hB11.trans (hB.mono hB11.size)
  clear CT hB11 hB
  go_wp2
  go_ret
  exact ⟨rfl, hB12⟩
end Go.Proofs.Ytonkaodbjohkkaa

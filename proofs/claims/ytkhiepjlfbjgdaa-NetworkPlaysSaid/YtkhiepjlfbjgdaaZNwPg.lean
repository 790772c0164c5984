/- network: the document's Send. Conditions: the network can be read and is short. -/
import Derived.Test.YtkhiepjlfbjgdaaZNwPf
import Derived.Deep.CutBlock
namespace Go.Proofs.Ytkhiepjlfbjgdaa
open Go.RowKit

/-- The state of a walk of Send. -/
structure SW (Kp : Nat → Prop) (w : World) (bx rx mb : Nat) (m : DL) (q : DNv) (D : DN) (wx : World) : Prop where
  b : BN w bx rx q D wx
  d : DNAt (fun k => Kp k ∨ w.heap.size ≤ k) wx q D
  m : wx.heap[mb]? = some (.cells #[.int .i64 m.t, .string m.a, .string m.b, .string m.d] 75 (0, 0))
/-- Integers that can be read. -/
structure RdI (w : World) (ao : Option Addr) (n b off : Nat) (X : Nat → Int) : Prop where
  ao : 0 < n → ao = some ⟨b, off, none⟩
  lt : 0 < n → b < w.heap.size
  c : ∀ i, i < n → w.cell? ⟨b, off + i, none⟩ = some (.int .i64 (X i))
/-- Delays: they lie below B, or in a row of their own type. -/
def DlV (B : Nat) (L : List Int) (v : Value) (wx : World) : Prop := ∃ ao cp b off X, v = .slice ao L.length cp ∧ RdI wx ao L.length b off X ∧ (∀ i, i < L.length → X i = L.getD i 0) ∧ (0 < L.length → b < B ∨ ∃ cs, wx.heap[b]? = some (.cells cs 3 (0, 0)))
section
variable {Kp K J : Nat → Prop} {w w' wx w0 : World} {q q' : DNv} {D D' : DN} {bx rx mb : Nat} {m : DL} {L : List Int} {v : Value}
theorem SW.bel (h : SW Kp w bx rx mb m q D wx) (hb : Below wx.heap.size wx w') : SW Kp w bx rx mb m q D w' := ⟨h.b.bel hb, h.d.bel hb, (hb.block _ (lt_of_block h.m)).trans h.m⟩
theorem SW.mget (h : SW Kp w bx rx mb m q D wx) : wx.cell? ⟨mb, 0, none⟩ = some (.int .i64 m.t) ∧ wx.cell? ⟨mb, 1, none⟩ = some (.string m.a) ∧ wx.cell? ⟨mb, 2, none⟩ = some (.string m.b) ∧ wx.cell? ⟨mb, 3, none⟩ = some (.string m.d) := (get_row4 h.m).1
theorem SW.set (h : SW Kp w bx rx mb m q D wx) (i : Nat) (v : Value) (he : (dnC q D).setIfInBounds i v = dnC q' D') (hd : DNAt (fun k => Kp k ∨ w.heap.size ≤ k) wx q' D') (hL : D'.lim = D.lim := by rfl) : SW Kp w bx rx mb m q' D' (wx.setCell ⟨bx, i, none⟩ v) ∧ ∀ k, k ≠ bx → (wx.setCell ⟨bx, i, none⟩ v).heap[k]? = wx.heap[k]? := by
  obtain ⟨h1, h2⟩ := h.b.set i v he hL
  have h3 : ∀ k, k ≠ bx → (wx.setCell ⟨bx, i, none⟩ v).heap[k]? = wx.heap[k]? := fun k hk => Below.heap_setCell _ _ _ _ hk
  exact ⟨⟨h1, h2 _ _ _ hd hL, (h3 mb (type_ne h.m h.b.o (by decide))).trans h.m⟩, h3⟩
theorem ints_heap {ao : Option Addr} {n b off : Nat} {X : Nat → Int} (h : RdI wx ao n b off X) (hh : 0 < n → w'.heap[b]? = wx.heap[b]?) (hs : wx.heap.size ≤ w'.heap.size) : RdI w' ao n b off X :=
  ⟨h.ao, fun h0 => Nat.lt_of_lt_of_le (h.lt h0) hs, fun i hn => (World.cell?_of_block (a := ⟨b, off + i, none⟩) (hh (by omega))).trans (h.c i hn)⟩
theorem DlV.bel {B : Nat} (h : DlV B L v wx) (hb : Below wx.heap.size wx w') : DlV B L v w' := by
  obtain ⟨ao, cp, b, off, X, e, hi, hx, ho⟩ := h
  exact ⟨ao, cp, b, off, X, e, ints_heap hi (fun h0 => hb.block b (hi.lt h0)) hb.size, hx, fun h0 => (ho h0).imp (fun h => h) fun ⟨cs, hc⟩ => ⟨cs, (hb.block b (hi.lt h0)).trans hc⟩⟩
theorem DlV.keep {B : Nat} (h : DlV B L v wx) (hB : B ≤ bx) (hk : ∀ k, k ≠ bx → w'.heap[k]? = wx.heap[k]?) (hs : wx.heap.size ≤ w'.heap.size) {cs : Array Value} {fr : Nat × Nat} (hr : wx.heap[bx]? = some (.cells cs tDN fr)) : DlV B L v w' := by
  obtain ⟨ao, cp, b, off, X, e, hi, hx, ho⟩ := h
  have hne : 0 < L.length → b ≠ bx := fun h0 => by
    rcases ho h0 with h1 | ⟨cs, hc⟩
    · omega
    · exact type_ne hc hr (by decide)
  exact ⟨ao, cp, b, off, X, e, ints_heap hi (fun h0 => hk b (hne h0)) hs, hx, fun h0 => (ho h0).imp (fun h => h) fun ⟨cs, hc⟩ => ⟨cs, (hk b (hne h0)).trans hc⟩⟩
theorem DlV.nil (B : Nat) (w : World) : DlV B [] (.slice none 0 0) w := ⟨none, 0, 0, 0, fun _ => 0, rfl, ⟨fun h => absurd h (by simp), fun h => absurd h (by simp), fun i h => absurd h (by simp)⟩, fun i h => absurd h (by simp), fun h => absurd h (by simp)⟩
theorem DlV.one {B g : Nat} {d : Int} (h : wx.heap[g]? = some (.cells #[.int .i64 d] 3 (0, 0))) : DlV B [d] (.slice (some ⟨g, 0, none⟩) 1 1) wx :=
  ⟨_, _, g, 0, fun _ => d, rfl, ⟨fun _ => rfl, fun _ => lt_of_block h, fun i hi => by
    have : i = 0 := by simpa using hi
    subst this
    exact has_cell h 0⟩, fun i hi => by
    have : i = 0 := by simpa using hi
    subst this
    rfl, fun _ => .inr ⟨_, h⟩⟩
theorem infoN8 : (Try.prog.info? 69).map (·.size) = some 8 := by kernel_rfl
theorem dnC_one {a1 a2 a3 a4 a5 : Option Addr} {n1 n2 n3 n4 n5 c1 c2 c3 c4 c5 : Nat} : (dnC ⟨.slice a1 n1 c1, .slice a2 n2 c2, .slice a3 n3 c3, .slice a4 n4 c4, .slice a5 n5 c5⟩ D).all (·.oneCell') = true := by simp [dnC, Value.oneCell']
/-- The result is stored at once. -/
theorem BN.finR (h : BN w bx rx q D wx) (hd : DNAt J wx q D) : DNAt J (wx.setRow rx (dnC q D)) q D ∧ Below w.heap.size w (wx.setRow rx (dnC q D)) ∧ (wx.setRow rx (dnC q D)).heap[rx]? = some (.cells (dnC q D) tDN (0, 0)) :=
  ⟨hd.heapQ (fun b cs t ht hb => setRow_other _ _ _ _ (type_ne hb h.r ht)) (fun g hg => setRow_other _ _ _ _ (by have := h.lim; have := h.lr; omega)) (by simp), below_setRow h.b h.lr _, setRow_heap _ _ _ _ _ _ h.r⟩
set_option maxRecDepth 100000 in
set_option maxHeartbeats 6400000 in
theorem dsend_low (h : DNAt Kp w q D) (x y d : ByteArray) (t : Int) (ht : t < 0) : Calls Try.prog 38 #[dnV q D, .agg #[.int .i64 t, .string x, .string y, .string d]] w (RetN Kp D 1 w) := by
  obtain ⟨au, cu, af, cf, ac, cc, ae, ce, al, cl, rfl, hlu, hlf, hlc, hle, hll⟩ := h.shapes
  have H := Lib.hid h
  obtain ⟨bx, hbx⟩ : ∃ bx, w.heap.size = bx := ⟨_, rfl⟩
  obtain ⟨mb, hmb⟩ : ∃ mb, bx + 1 = mb := ⟨_, rfl⟩
  obtain ⟨rx, hrx⟩ : ∃ rx, mb + 1 = rx := ⟨_, rfl⟩
  have HB0 := BN.start2 w ⟨.slice au D.us.length cu, .slice af D.fs.length cf, .slice ac D.cs.length cc, .slice ae D.se.length ce, .slice al D.ls.length cl⟩ D #[.int .i64 t, .string x, .string y, .string d] 75 h.lm
  rw [hbx, hmb, hrx] at HB0
  have HB := Lib.hid HB0.1
  have HM := Lib.hid HB0.2
  unfold dnV dnC zN tDN at *
  dsimp only at *
  clear h HB0
  go_enter Try.func38, Try.ntmps38
  go_upto_region 1 with fail
  have HBX := Lib.hid hbx
  clear hbx hrx hmb
  generalize ((w.alloc (.cells #[.int .i64 D.dflt, .int .i64 D.present, .int .i64 D.lost, .slice au D.us.length cu, .slice af D.fs.length cf, .slice ac D.cs.length cc, .slice ae D.se.length ce, .slice al D.ls.length cl] 69)).alloc (.cells #[.int .i64 t, .string x, .string y, .string d] 75)).alloc (.cells #[.int .i64 0, .int .i64 0, .int .i64 0, .slice none 0 0, .slice none 0 0, .slice none 0 0, .slice none 0 0, .slice none 0 0] 69) = w1 at *
  obtain ⟨⟨m0, m1, m2, m3⟩, _⟩ := get_row4 HM.out
  have d1 : decide (t < 0) = true := decide_eq_true ht
  have HF := Lib.hid (HB.out.fin (J := fun k => Kp k ∨ w.heap.size ≤ k) ((H.out.bel HB.out.b).more fun g hg => .inl hg))
  obtain ⟨x0, x1, x2, x3, x4, x5, x6, x7⟩ := HB.out.get
  obtain ⟨⟨y0, y1, y2, y3, y4, y5, y6, y7⟩, f0, f1, f2, f3, f4, f5, f6, f7⟩ := HB.out.zero
  repeat (first | go_values | go_skip | go_guarded | go_step | go_upon)
  try simp only [Exit.inBlock, Exit.then]
  refine bodyPost_ret (results_cell2 rfl _ _ rx 69 _ (0, 0) _ rfl HF.out.2.2 Try.underlying69 rfl (by kernel_rfl)) rfl ?_
  exact ⟨_, rfl, HF.out.1, HF.out.2.1⟩
set_option maxRecDepth 100000 in
set_option maxHeartbeats 6400000 in
theorem dsend_high (h : DNAt Kp w q D) (x y d : ByteArray) (t : Int) (ht : 1099511627776 < t) : Calls Try.prog 38 #[dnV q D, .agg #[.int .i64 t, .string x, .string y, .string d]] w (RetN Kp D 1 w) := by
  obtain ⟨au, cu, af, cf, ac, cc, ae, ce, al, cl, rfl, hlu, hlf, hlc, hle, hll⟩ := h.shapes
  have H := Lib.hid h
  obtain ⟨bx, hbx⟩ : ∃ bx, w.heap.size = bx := ⟨_, rfl⟩
  obtain ⟨mb, hmb⟩ : ∃ mb, bx + 1 = mb := ⟨_, rfl⟩
  obtain ⟨rx, hrx⟩ : ∃ rx, mb + 1 = rx := ⟨_, rfl⟩
  have HB0 := BN.start2 w ⟨.slice au D.us.length cu, .slice af D.fs.length cf, .slice ac D.cs.length cc, .slice ae D.se.length ce, .slice al D.ls.length cl⟩ D #[.int .i64 t, .string x, .string y, .string d] 75 h.lm
  rw [hbx, hmb, hrx] at HB0
  have HB := Lib.hid HB0.1
  have HM := Lib.hid HB0.2
  unfold dnV dnC zN tDN at *
  dsimp only at *
  clear h HB0
  go_enter Try.func38, Try.ntmps38
  go_upto_region 1 with fail
  have HBX := Lib.hid hbx
  clear hbx hrx hmb
  generalize ((w.alloc (.cells #[.int .i64 D.dflt, .int .i64 D.present, .int .i64 D.lost, .slice au D.us.length cu, .slice af D.fs.length cf, .slice ac D.cs.length cc, .slice ae D.se.length ce, .slice al D.ls.length cl] 69)).alloc (.cells #[.int .i64 t, .string x, .string y, .string d] 75)).alloc (.cells #[.int .i64 0, .int .i64 0, .int .i64 0, .slice none 0 0, .slice none 0 0, .slice none 0 0, .slice none 0 0, .slice none 0 0] 69) = w1 at *
  obtain ⟨⟨m0, m1, m2, m3⟩, _⟩ := get_row4 HM.out
  have d1 : decide (t < 0) = false := decide_eq_false (by omega)
  have d2 : decide (1099511627776 < t) = true := decide_eq_true ht
  have HF := Lib.hid (HB.out.fin (J := fun k => Kp k ∨ w.heap.size ≤ k) ((H.out.bel HB.out.b).more fun g hg => .inl hg))
  obtain ⟨x0, x1, x2, x3, x4, x5, x6, x7⟩ := HB.out.get
  obtain ⟨⟨y0, y1, y2, y3, y4, y5, y6, y7⟩, f0, f1, f2, f3, f4, f5, f6, f7⟩ := HB.out.zero
  repeat (first | go_values | go_skip | go_guarded | go_step | go_upon)
  try simp only [Exit.inBlock, Exit.then]
  refine bodyPost_ret (results_cell2 rfl _ _ rx 69 _ (0, 0) _ rfl HF.out.2.2 Try.underlying69 rfl (by kernel_rfl)) rfl ?_
  exact ⟨_, rfl, HF.out.1, HF.out.2.1⟩
set_option maxRecDepth 100000 in
set_option maxHeartbeats 6400000 in
theorem dsend_late (h : DNAt Kp w q D) (x y d : ByteArray) (t : Int) (ht : 0 ≤ t) (ht2 : t ≤ 1099511627776) (hp : t < D.present) : Calls Try.prog 38 #[dnV q D, .agg #[.int .i64 t, .string x, .string y, .string d]] w (RetN Kp D 7 w) := by
  obtain ⟨au, cu, af, cf, ac, cc, ae, ce, al, cl, rfl, hlu, hlf, hlc, hle, hll⟩ := h.shapes
  have H := Lib.hid h
  obtain ⟨bx, hbx⟩ : ∃ bx, w.heap.size = bx := ⟨_, rfl⟩
  obtain ⟨mb, hmb⟩ : ∃ mb, bx + 1 = mb := ⟨_, rfl⟩
  obtain ⟨rx, hrx⟩ : ∃ rx, mb + 1 = rx := ⟨_, rfl⟩
  have HB0 := BN.start2 w ⟨.slice au D.us.length cu, .slice af D.fs.length cf, .slice ac D.cs.length cc, .slice ae D.se.length ce, .slice al D.ls.length cl⟩ D #[.int .i64 t, .string x, .string y, .string d] 75 h.lm
  rw [hbx, hmb, hrx] at HB0
  have HB := Lib.hid HB0.1
  have HM := Lib.hid HB0.2
  unfold dnV dnC zN tDN at *
  dsimp only at *
  clear h HB0
  go_enter Try.func38, Try.ntmps38
  go_upto_region 1 with fail
  have HBX := Lib.hid hbx
  clear hbx hrx hmb
  generalize ((w.alloc (.cells #[.int .i64 D.dflt, .int .i64 D.present, .int .i64 D.lost, .slice au D.us.length cu, .slice af D.fs.length cf, .slice ac D.cs.length cc, .slice ae D.se.length ce, .slice al D.ls.length cl] 69)).alloc (.cells #[.int .i64 t, .string x, .string y, .string d] 75)).alloc (.cells #[.int .i64 0, .int .i64 0, .int .i64 0, .slice none 0 0, .slice none 0 0, .slice none 0 0, .slice none 0 0, .slice none 0 0] 69) = w1 at *
  obtain ⟨⟨m0, m1, m2, m3⟩, _⟩ := get_row4 HM.out
  have d1 : decide (t < 0) = false := decide_eq_false (by omega)
  have d2 : decide (1099511627776 < t) = false := decide_eq_false (by omega)
  have d3 : decide (t < D.present) = true := decide_eq_true hp
  have HF := Lib.hid (HB.out.fin (J := fun k => Kp k ∨ w.heap.size ≤ k) ((H.out.bel HB.out.b).more fun g hg => .inl hg))
  obtain ⟨x0, x1, x2, x3, x4, x5, x6, x7⟩ := HB.out.get
  obtain ⟨⟨y0, y1, y2, y3, y4, y5, y6, y7⟩, f0, f1, f2, f3, f4, f5, f6, f7⟩ := HB.out.zero
  repeat (first | go_values | go_skip | go_guarded | go_step | go_upon)
  try simp only [Exit.inBlock, Exit.then]
  refine bodyPost_ret (results_cell2 rfl _ _ rx 69 _ (0, 0) _ rfl HF.out.2.2 Try.underlying69 rfl (by kernel_rfl)) rfl ?_
  exact ⟨_, rfl, HF.out.1, HF.out.2.1⟩
set_option maxRecDepth 100000 in
set_option maxHeartbeats 25600000 in
theorem dsend_ok (h : DNAt Kp w q D) (hlen : D.us.length ≤ 100000 ∧ D.fs.length ≤ 100000 ∧ D.se.length ≤ 100000 ∧ D.ls.length ≤ 1000) (x y d : ByteArray) (t : Int) (ht : 0 ≤ t) (ht2 : t ≤ 1099511627776) (hp : D.present ≤ t) (hlo : 0 ≤ D.lost ∧ D.lost ≤ 100000) (hll4 : (D.list t x y).length ≤ 1000) (hdl : ∀ z ∈ D.list t x y, 0 ≤ z ∧ z ≤ 17179869184) :
    Calls Try.prog 38 #[dnV q D, .agg #[.int .i64 t, .string x, .string y, .string d]] w (RetN Kp (D.send ⟨t, x, y, d⟩) 0 w) := by
  obtain ⟨hlen1, hlen2, hlen3, hlen4⟩ := hlen
  have HDL := Lib.hid hdl
  have HLL := Lib.hid hll4
  clear hdl hll4
  obtain ⟨DS, hDS⟩ : ∃ DS, D.send ⟨t, x, y, d⟩ = DS := ⟨_, rfl⟩
  have HDS0 := Lib.hid hDS
  rw [hDS]
  clear hDS
  obtain ⟨au, cu, af, cf, ac, cc, ae, ce, al, cl, rfl, hlu, hlf, hlc, hle, hll⟩ := h.shapes
  have H := Lib.hid h
  obtain ⟨bx, hbx⟩ : ∃ bx, w.heap.size = bx := ⟨_, rfl⟩
  obtain ⟨mb, hmb⟩ : ∃ mb, bx + 1 = mb := ⟨_, rfl⟩
  obtain ⟨rx, hrx⟩ : ∃ rx, mb + 1 = rx := ⟨_, rfl⟩
  have HB0 := BN.start2 w ⟨.slice au D.us.length cu, .slice af D.fs.length cf, .slice ac D.cs.length cc, .slice ae D.se.length ce, .slice al D.ls.length cl⟩ D #[.int .i64 t, .string x, .string y, .string d] 75 h.lm
  rw [hbx, hmb, hrx] at HB0
  have HB := Lib.hid HB0.1
  have HM := Lib.hid HB0.2
  unfold dnV dnC zN tDN at *
  dsimp only at *
  clear h HB0
  go_enter Try.func38, Try.ntmps38
  go_upto_region 1 with fail
  have HBX := Lib.hid hbx
  clear hbx hrx hmb
  generalize ((w.alloc (.cells #[.int .i64 D.dflt, .int .i64 D.present, .int .i64 D.lost, .slice au D.us.length cu, .slice af D.fs.length cf, .slice ac D.cs.length cc, .slice ae D.se.length ce, .slice al D.ls.length cl] 69)).alloc (.cells #[.int .i64 t, .string x, .string y, .string d] 75)).alloc (.cells #[.int .i64 0, .int .i64 0, .int .i64 0, .slice none 0 0, .slice none 0 0, .slice none 0 0, .slice none 0 0, .slice none 0 0] 69) = w1 at *
  have HS1 : Hid (SW Kp w bx rx mb ⟨t, x, y, d⟩ ⟨.slice au D.us.length cu, .slice af D.fs.length cf, .slice ac D.cs.length cc, .slice ae D.se.length ce, .slice al D.ls.length cl⟩ D w1) := Lib.hid ⟨HB.out, (H.out.bel HB.out.b).more fun g hg => .inl hg, HM.out⟩
  clear HB HM H
  obtain ⟨m0, m1, m2, m3⟩ := HS1.out.mget
  obtain ⟨x0, x1, x2, x3, x4, x5, x6, x7⟩ := HS1.out.b.get
  have d1 : decide (t < 0) = false := decide_eq_false (by omega)
  have d2 : decide (1099511627776 < t) = false := decide_eq_false (by omega)
  have d3 : decide (t < D.present) = false := decide_eq_false (by omega)
  have hck := dcount_any HS1.out.d x y
  unfold dnV dnC at hck
  dsimp only at hck
  have HCK := Lib.hid hck
  obtain ⟨cn, hcn⟩ : ∃ cn, countD D.se x y = cn := ⟨_, rfl⟩
  rw [hcn] at HCK
  have HCN := Lib.hid hcn
  clear hck hcn
  go_wp2_with fail
  refine HCK.out.mono ?_
  rintro e w3 ⟨rfl, hb3⟩
  have HS3 := Lib.hid (HS1.out.bel hb3)
  clear HCK HS1 hb3 m0 m1 m2 m3 x0 x1 x2 x3 x4 x5 x6 x7
  obtain ⟨m0, m1, m2, m3⟩ := HS3.out.mget
  have z1 := HS3.out.b.get.2.1
  have f1 := HS3.out.b.free 1
  have HST := Lib.hid (HS3.out.set (q' := ⟨.slice au D.us.length cu, .slice af D.fs.length cf, .slice ac D.cs.length cc, .slice ae D.se.length ce, .slice al D.ls.length cl⟩) (D' := { D with present := t }) 1 (.int .i64 t) rfl (HS3.out.d.nums D.dflt t D.lost))
  go_upto_region 7 with fail
  have HS4 := Lib.hid HST.out.1
  clear HST HS3 z1 f1 m0 m1 m2 m3
  generalize w3.setCell ⟨bx, 1, none⟩ (.int .i64 t) = w4 at *
  go_cut [] (fun wx => ∃ D2 ae ce, D2 = { D with present := t, se := D.se ++ [⟨t, x, y, d⟩] } ∧ SW Kp w bx rx mb ⟨t, x, y, d⟩ ⟨.slice au D2.us.length cu, .slice af D2.fs.length cf, .slice ac D2.cs.length cc, .slice ae D2.se.length ce, .slice al D2.ls.length cl⟩ D2 wx)
  case first =>
    go_upto_region 7 with fail
    refine AnyZ.start 8 (fun wx : World => wx.cell? ⟨bx, 6, none⟩ = some (.slice ae D.se.length ce) ∧ wx.cell? ⟨mb, 0, none⟩ = some (.int .i64 t) ∧ wx.cell? ⟨mb, 1, none⟩ = some (.string x) ∧ wx.cell? ⟨mb, 2, none⟩ = some (.string y) ∧ wx.cell? ⟨mb, 3, none⟩ = some (.string d)) (by kernel_rfl) ?_
    obtain ⟨w2, hw2⟩ : ∃ w2, w2 = w4.drew := ⟨_, rfl⟩
    have hbd : Below w4.heap.size w4 w2 := by rw [hw2]; exact below_drew _ _
    have HS2 := Lib.hid (HS4.out.bel hbd)
    have HSF : Hid (∀ wx, Below w2.heap.size w2 wx → (fun wx : World => wx.cell? ⟨bx, 6, none⟩ = some (.slice ae D.se.length ce) ∧ wx.cell? ⟨mb, 0, none⟩ = some (.int .i64 t) ∧ wx.cell? ⟨mb, 1, none⟩ = some (.string x) ∧ wx.cell? ⟨mb, 2, none⟩ = some (.string y) ∧ wx.cell? ⟨mb, 3, none⟩ = some (.string d)) wx) := Lib.hid fun wx hb => ⟨(HS2.out.bel hb).b.get.2.2.2.2.2.2.1, (HS2.out.bel hb).mget.1, (HS2.out.bel hb).mget.2.1, (HS2.out.bel hb).mget.2.2.1, (HS2.out.bel hb).mget.2.2.2⟩
    have HRW : Hid (∀ wx, Below w2.heap.size w2 wx → RowsAt 75 4 dC wx (.slice ae D.se.length ce) D.se) := Lib.hid fun wx hb => (HS2.out.bel hb).d.e
    have hH := HSF.out w2 (Below.refl _ _)
    rw [← hw2] at ⊢
    clear hw2 hbd
    have HBX := Lib.hid (Below.refl w2.heap.size w2)
    refine AnyZ.take (i := 1) (v := ?_) rfl (by kernel_rfl) (fun _ _ _ h => h) (by rfl) hH ?_ ?_
    rotate_left
    · intro w hSw
      go_simp
      with_reducible rfl
    try simp only [List.getElem_toArray, List.getElem_cons_succ, List.getElem_cons_zero, Act.put, List.setIfInBounds_toArray, List.set_cons_zero, List.set_cons_succ]
    refine AnyZ.take (i := 2) (v := ?_) rfl (by kernel_rfl) (fun _ _ _ h => h) (by rfl) hH ?_ ?_
    rotate_left
    · intro w hSw
      go_simp
      with_reducible rfl
    try simp only [List.getElem_toArray, List.getElem_cons_succ, List.getElem_cons_zero, Act.put, List.setIfInBounds_toArray, List.set_cons_zero, List.set_cons_succ]
    refine AnyZ.take (i := 4) (v := ?_) rfl (by kernel_rfl) (fun _ _ _ h => h) (by rfl) hH ?_ ?_
    rotate_left
    · intro w hSw
      go_simp
      with_reducible rfl
    try simp only [List.getElem_toArray, List.getElem_cons_succ, List.getElem_cons_zero, Act.put, List.setIfInBounds_toArray, List.set_cons_zero, List.set_cons_succ]
    refine AnyZ.two (i := 0) (j := 5) rfl rfl (by kernel_rfl) rfl rfl (fun K hK => ?_) (fun K hK => ?_)
    · skip
      go_simp
      have hbX := (Below.refl w2.heap.size w2).alloc (Nat.le_refl _) (.cells #[] 75)
      have hqX := heap_alloc_new w2 (.cells #[] 75)
      obtain ⟨gb0, hgX⟩ : ∃ g, w2.heap.size = g := ⟨_, rfl⟩
      have HGE0 : Hid (w2.heap.size ≤ gb0) := Lib.hid (by have := HBX.out.size; omega)
      rw [hgX] at hqX ⊢
      clear hgX
      generalize w2.alloc (.cells #[] 75) = wo0 at *
      have F0 := Lib.hid (hqX)
      have HBX := Lib.hid (HBX.out.trans (hbX.mono HBX.out.size))
      have hHwo0 := HSF.out wo0 HBX.out
      refine hK.out _ _ (.inr hHwo0) ?_
      clear hK K hbX hqX
      refine AnyZ.two (i := 3) (j := 5) rfl rfl (by kernel_rfl) rfl rfl (fun K hK => ?_) (fun K hK => ?_)
      · skip
        obtain ⟨ao1, cp1, wo1, hap, ho1, how1, hbX⟩ := app_fresh 67 _ _ Try.underlying67 infoDD rfl (by omega) F0.out (OL.src (HRW.out _ HBX.out) Try.underlying67 (rowsC_onesIn _ (fun z _ => dC_one z))) (by unfold maxLen; omega) (by omega)
        refine wp_append_run (v := .slice (some ⟨gb0, 0, none⟩) 0 0) (xv := .slice ae D.se.length ce) (.tmp 35) (.tmp 37) 67 67 rfl (by rfl) (by rfl) hap ?_
        have F0 := Lib.hid ((hbX.block _ (lt_of_block F0.out)).trans F0.out)
        have O1 := Lib.hid (ho1)
        have W1 := Lib.hid (grown_fresh HGE0.out HBX.out.size how1)
        have HBX := Lib.hid (HBX.out.trans (hbX.mono HBX.out.size))
        have hHwo1 := HSF.out wo1 HBX.out
        refine hK.out _ _ (.inr hHwo1) ?_
        clear hK K hbX hap ho1
        refine AnyZ.one (i := 5) rfl (by kernel_rfl) rfl (fun K hK => ?_)
        go_simp
        have hbX := (Below.refl wo1.heap.size wo1).alloc (Nat.le_refl _) (.cells #[.int .i64 t, .string x, .string y, .string d] 75)
        have hqX := heap_alloc_new wo1 (.cells #[.int .i64 t, .string x, .string y, .string d] 75)
        obtain ⟨gb5, hgX⟩ : ∃ g, wo1.heap.size = g := ⟨_, rfl⟩
        have HGE5 : Hid (w2.heap.size ≤ gb5) := Lib.hid (by have := HBX.out.size; omega)
        rw [hgX] at hqX ⊢
        clear hgX
        generalize wo1.alloc (.cells #[.int .i64 t, .string x, .string y, .string d] 75) = wo2 at *
        have F0 := Lib.hid ((hbX.block _ (lt_of_block F0.out)).trans F0.out)
        have O1 := Lib.hid (OL.bel O1.out hbX)
        have W1 := Lib.hid (W1.out)
        have F5 := Lib.hid (hqX)
        have HBX := Lib.hid (HBX.out.trans (hbX.mono HBX.out.size))
        have hHwo2 := HSF.out wo2 HBX.out
        refine hK.out _ _ (.inr hHwo2) ?_
        clear hK K hbX hqX
        refine AnyZ.one (i := 6) rfl (by kernel_rfl) rfl (fun K hK => ?_)
        obtain ⟨ao2, cp2, wo3, hap, ho2, hg2, how2⟩ := ol_more 67 _ _ Try.underlying67 infoDD rfl (by omega) O1.out F5.out rfl (dC_one ⟨t, x, y, d⟩) (by omega) (by omega)
        have hbX : Below w2.heap.size w2 wo3 := HBX.out.grown hg2 HBX.out.size W1.out
        have W2 := Lib.hid (grown_own W1.out HBX.out.size how2)
        refine wp_append_run (v := .slice ao1 D.se.length cp1) (xv := .slice (some ⟨gb5, 0, none⟩) 1 1) (.tmp 38) (.tmp 40) 67 67 rfl (by rfl) (by rfl) hap ?_
        have O2 := Lib.hid (rows_snoc (f := dC) (x := ⟨t, x, y, d⟩) ho2)
        have HBX := Lib.hid hbX
        have hHwo3 := HSF.out wo3 hbX
        refine hK.out _ _ (.inr hHwo3) ?_
        clear hK K hap hbX ho2 hg2 how2
        refine AnyZ.take (i := 7) (v := ?_) rfl (by kernel_rfl) (fun _ _ _ h => h) (by rfl) hHwo3 ?_ ?_
        rotate_left
        · intro w hSw
          go_simp
          with_reducible rfl
        try simp only [List.getElem_toArray, List.getElem_cons_succ, List.getElem_cons_zero, Act.put, List.setIfInBounds_toArray, List.set_cons_zero, List.set_cons_succ]
        refine AnyZ.one (i := 8) rfl (by kernel_rfl) rfl (fun K hK => ?_)
        have zz := (HS2.out.bel HBX.out).b.get
        have zc := zz.2.2.2.2.2.2.1
        have fz := (HS2.out.bel HBX.out).b.free 6
        clear zz
        go_simp
        refine hK.out _ _ (.inl rfl) ?_
        clear hK K zc fz
        refine AnyZ.done (by kernel_rfl) ?_ _
        have HST := Lib.hid ((HS2.out.bel HBX.out).set (q' := ⟨.slice au D.us.length cu, .slice af D.fs.length cf, .slice ac D.cs.length cc, .slice ao2 (D.se.length + 1) cp2, .slice al D.ls.length cl⟩) (D' := { D with present := t, se := D.se ++ [⟨t, x, y, d⟩] }) 6 (.slice ao2 (D.se.length + 1) cp2) rfl ((HS2.out.bel HBX.out).d.setS O2.out (fun g hg => .inr (Nat.le_trans HS2.out.b.b.size (W2.out g hg)))))
        have HSN := Lib.hid HST.out.1
        clear HST O2 W2 O1 W1 F0 F5 HS2 HSF HRW
        try clear hH
        generalize wo3.setCell ⟨bx, 6, none⟩ (.slice ao2 (D.se.length + 1) cp2) = w5 at *
        go_wp2_with fail
        go_meet
        case rel => exact ⟨_, ao2, cp2, rfl, by rw [show (D.se ++ [(⟨t, x, y, d⟩ : DL)]).length = D.se.length + 1 from by simp]; exact HSN.out⟩
      · skip
        go_simp
        have hbX := (Below.refl wo0.heap.size wo0).alloc (Nat.le_refl _) (.cells #[.int .i64 t, .string x, .string y, .string d] 75)
        have hqX := heap_alloc_new wo0 (.cells #[.int .i64 t, .string x, .string y, .string d] 75)
        obtain ⟨gb5, hgX⟩ : ∃ g, wo0.heap.size = g := ⟨_, rfl⟩
        have HGE5 : Hid (w2.heap.size ≤ gb5) := Lib.hid (by have := HBX.out.size; omega)
        rw [hgX] at hqX ⊢
        clear hgX
        generalize wo0.alloc (.cells #[.int .i64 t, .string x, .string y, .string d] 75) = wo1 at *
        have F0 := Lib.hid ((hbX.block _ (lt_of_block F0.out)).trans F0.out)
        have F5 := Lib.hid (hqX)
        have HBX := Lib.hid (HBX.out.trans (hbX.mono HBX.out.size))
        have hHwo1 := HSF.out wo1 HBX.out
        refine hK.out _ _ (.inr hHwo1) ?_
        clear hK K hbX hqX
        refine AnyZ.one (i := 3) rfl (by kernel_rfl) rfl (fun K hK => ?_)
        obtain ⟨ao1, cp1, wo2, hap, ho1, how1, hbX⟩ := app_fresh 67 _ _ Try.underlying67 infoDD rfl (by omega) F0.out (OL.src (HRW.out _ HBX.out) Try.underlying67 (rowsC_onesIn _ (fun z _ => dC_one z))) (by unfold maxLen; omega) (by omega)
        refine wp_append_run (v := .slice (some ⟨gb0, 0, none⟩) 0 0) (xv := .slice ae D.se.length ce) (.tmp 35) (.tmp 37) 67 67 rfl (by rfl) (by rfl) hap ?_
        have F0 := Lib.hid ((hbX.block _ (lt_of_block F0.out)).trans F0.out)
        have F5 := Lib.hid ((hbX.block _ (lt_of_block F5.out)).trans F5.out)
        have O1 := Lib.hid (ho1)
        have W1 := Lib.hid (grown_fresh HGE0.out HBX.out.size how1)
        have HBX := Lib.hid (HBX.out.trans (hbX.mono HBX.out.size))
        have hHwo2 := HSF.out wo2 HBX.out
        refine hK.out _ _ (.inr hHwo2) ?_
        clear hK K hbX hap ho1
        refine AnyZ.one (i := 6) rfl (by kernel_rfl) rfl (fun K hK => ?_)
        obtain ⟨ao2, cp2, wo3, hap, ho2, hg2, how2⟩ := ol_more 67 _ _ Try.underlying67 infoDD rfl (by omega) O1.out F5.out rfl (dC_one ⟨t, x, y, d⟩) (by omega) (by omega)
        have hbX : Below w2.heap.size w2 wo3 := HBX.out.grown hg2 HBX.out.size W1.out
        have W2 := Lib.hid (grown_own W1.out HBX.out.size how2)
        refine wp_append_run (v := .slice ao1 D.se.length cp1) (xv := .slice (some ⟨gb5, 0, none⟩) 1 1) (.tmp 38) (.tmp 40) 67 67 rfl (by rfl) (by rfl) hap ?_
        have O2 := Lib.hid (rows_snoc (f := dC) (x := ⟨t, x, y, d⟩) ho2)
        have HBX := Lib.hid hbX
        have hHwo3 := HSF.out wo3 hbX
        refine hK.out _ _ (.inr hHwo3) ?_
        clear hK K hap hbX ho2 hg2 how2
        refine AnyZ.take (i := 7) (v := ?_) rfl (by kernel_rfl) (fun _ _ _ h => h) (by rfl) hHwo3 ?_ ?_
        rotate_left
        · intro w hSw
          go_simp
          with_reducible rfl
        try simp only [List.getElem_toArray, List.getElem_cons_succ, List.getElem_cons_zero, Act.put, List.setIfInBounds_toArray, List.set_cons_zero, List.set_cons_succ]
        refine AnyZ.one (i := 8) rfl (by kernel_rfl) rfl (fun K hK => ?_)
        have zz := (HS2.out.bel HBX.out).b.get
        have zc := zz.2.2.2.2.2.2.1
        have fz := (HS2.out.bel HBX.out).b.free 6
        clear zz
        go_simp
        refine hK.out _ _ (.inl rfl) ?_
        clear hK K zc fz
        refine AnyZ.done (by kernel_rfl) ?_ _
        have HST := Lib.hid ((HS2.out.bel HBX.out).set (q' := ⟨.slice au D.us.length cu, .slice af D.fs.length cf, .slice ac D.cs.length cc, .slice ao2 (D.se.length + 1) cp2, .slice al D.ls.length cl⟩) (D' := { D with present := t, se := D.se ++ [⟨t, x, y, d⟩] }) 6 (.slice ao2 (D.se.length + 1) cp2) rfl ((HS2.out.bel HBX.out).d.setS O2.out (fun g hg => .inr (Nat.le_trans HS2.out.b.b.size (W2.out g hg)))))
        have HSN := Lib.hid HST.out.1
        clear HST O2 W2 O1 W1 F0 F5 HS2 HSF HRW
        try clear hH
        generalize wo3.setCell ⟨bx, 6, none⟩ (.slice ao2 (D.se.length + 1) cp2) = w5 at *
        go_wp2_with fail
        go_meet
        case rel => exact ⟨_, ao2, cp2, rfl, by rw [show (D.se ++ [(⟨t, x, y, d⟩ : DL)]).length = D.se.length + 1 from by simp]; exact HSN.out⟩
    · skip
      go_simp
      have hbX := (Below.refl w2.heap.size w2).alloc (Nat.le_refl _) (.cells #[.int .i64 t, .string x, .string y, .string d] 75)
      have hqX := heap_alloc_new w2 (.cells #[.int .i64 t, .string x, .string y, .string d] 75)
      obtain ⟨gb5, hgX⟩ : ∃ g, w2.heap.size = g := ⟨_, rfl⟩
      have HGE5 : Hid (w2.heap.size ≤ gb5) := Lib.hid (by have := HBX.out.size; omega)
      rw [hgX] at hqX ⊢
      clear hgX
      generalize w2.alloc (.cells #[.int .i64 t, .string x, .string y, .string d] 75) = wo0 at *
      have F5 := Lib.hid (hqX)
      have HBX := Lib.hid (HBX.out.trans (hbX.mono HBX.out.size))
      have hHwo0 := HSF.out wo0 HBX.out
      refine hK.out _ _ (.inr hHwo0) ?_
      clear hK K hbX hqX
      refine AnyZ.one (i := 0) rfl (by kernel_rfl) rfl (fun K hK => ?_)
      go_simp
      have hbX := (Below.refl wo0.heap.size wo0).alloc (Nat.le_refl _) (.cells #[] 75)
      have hqX := heap_alloc_new wo0 (.cells #[] 75)
      obtain ⟨gb0, hgX⟩ : ∃ g, wo0.heap.size = g := ⟨_, rfl⟩
      have HGE0 : Hid (w2.heap.size ≤ gb0) := Lib.hid (by have := HBX.out.size; omega)
      rw [hgX] at hqX ⊢
      clear hgX
      generalize wo0.alloc (.cells #[] 75) = wo1 at *
      have F5 := Lib.hid ((hbX.block _ (lt_of_block F5.out)).trans F5.out)
      have F0 := Lib.hid (hqX)
      have HBX := Lib.hid (HBX.out.trans (hbX.mono HBX.out.size))
      have hHwo1 := HSF.out wo1 HBX.out
      refine hK.out _ _ (.inr hHwo1) ?_
      clear hK K hbX hqX
      refine AnyZ.one (i := 3) rfl (by kernel_rfl) rfl (fun K hK => ?_)
      obtain ⟨ao1, cp1, wo2, hap, ho1, how1, hbX⟩ := app_fresh 67 _ _ Try.underlying67 infoDD rfl (by omega) F0.out (OL.src (HRW.out _ HBX.out) Try.underlying67 (rowsC_onesIn _ (fun z _ => dC_one z))) (by unfold maxLen; omega) (by omega)
      refine wp_append_run (v := .slice (some ⟨gb0, 0, none⟩) 0 0) (xv := .slice ae D.se.length ce) (.tmp 35) (.tmp 37) 67 67 rfl (by rfl) (by rfl) hap ?_
      have F0 := Lib.hid ((hbX.block _ (lt_of_block F0.out)).trans F0.out)
      have F5 := Lib.hid ((hbX.block _ (lt_of_block F5.out)).trans F5.out)
      have O1 := Lib.hid (ho1)
      have W1 := Lib.hid (grown_fresh HGE0.out HBX.out.size how1)
      have HBX := Lib.hid (HBX.out.trans (hbX.mono HBX.out.size))
      have hHwo2 := HSF.out wo2 HBX.out
      refine hK.out _ _ (.inr hHwo2) ?_
      clear hK K hbX hap ho1
      refine AnyZ.one (i := 6) rfl (by kernel_rfl) rfl (fun K hK => ?_)
      obtain ⟨ao2, cp2, wo3, hap, ho2, hg2, how2⟩ := ol_more 67 _ _ Try.underlying67 infoDD rfl (by omega) O1.out F5.out rfl (dC_one ⟨t, x, y, d⟩) (by omega) (by omega)
      have hbX : Below w2.heap.size w2 wo3 := HBX.out.grown hg2 HBX.out.size W1.out
      have W2 := Lib.hid (grown_own W1.out HBX.out.size how2)
      refine wp_append_run (v := .slice ao1 D.se.length cp1) (xv := .slice (some ⟨gb5, 0, none⟩) 1 1) (.tmp 38) (.tmp 40) 67 67 rfl (by rfl) (by rfl) hap ?_
      have O2 := Lib.hid (rows_snoc (f := dC) (x := ⟨t, x, y, d⟩) ho2)
      have HBX := Lib.hid hbX
      have hHwo3 := HSF.out wo3 hbX
      refine hK.out _ _ (.inr hHwo3) ?_
      clear hK K hap hbX ho2 hg2 how2
      refine AnyZ.take (i := 7) (v := ?_) rfl (by kernel_rfl) (fun _ _ _ h => h) (by rfl) hHwo3 ?_ ?_
      rotate_left
      · intro w hSw
        go_simp
        with_reducible rfl
      try simp only [List.getElem_toArray, List.getElem_cons_succ, List.getElem_cons_zero, Act.put, List.setIfInBounds_toArray, List.set_cons_zero, List.set_cons_succ]
      refine AnyZ.one (i := 8) rfl (by kernel_rfl) rfl (fun K hK => ?_)
      have zz := (HS2.out.bel HBX.out).b.get
      have zc := zz.2.2.2.2.2.2.1
      have fz := (HS2.out.bel HBX.out).b.free 6
      clear zz
      go_simp
      refine hK.out _ _ (.inl rfl) ?_
      clear hK K zc fz
      refine AnyZ.done (by kernel_rfl) ?_ _
      have HST := Lib.hid ((HS2.out.bel HBX.out).set (q' := ⟨.slice au D.us.length cu, .slice af D.fs.length cf, .slice ac D.cs.length cc, .slice ao2 (D.se.length + 1) cp2, .slice al D.ls.length cl⟩) (D' := { D with present := t, se := D.se ++ [⟨t, x, y, d⟩] }) 6 (.slice ao2 (D.se.length + 1) cp2) rfl ((HS2.out.bel HBX.out).d.setS O2.out (fun g hg => .inr (Nat.le_trans HS2.out.b.b.size (W2.out g hg)))))
      have HSN := Lib.hid HST.out.1
      clear HST O2 W2 O1 W1 F0 F5 HS2 HSF HRW
      try clear hH
      generalize wo3.setCell ⟨bx, 6, none⟩ (.slice ao2 (D.se.length + 1) cp2) = w5 at *
      go_wp2_with fail
      go_meet
      case rel => exact ⟨_, ao2, cp2, rfl, by rw [show (D.se ++ [(⟨t, x, y, d⟩ : DL)]).length = D.se.length + 1 from by simp]; exact HSN.out⟩
  case rest =>
    clear HS4
    obtain ⟨D2, ae, ce, hD2, hS5⟩ := hcut
    have HD2 := Lib.hid hD2
    have HS5 := Lib.hid hS5
    have hl1 : D2.us.length ≤ 100000 := by rw [hD2]; exact hlen1
    have hl2 : D2.fs.length ≤ 100000 := by rw [hD2]; exact hlen2
    have hl4 : D2.ls.length ≤ 1000 := by rw [hD2]; exact hlen4
    have hlo2 : 0 ≤ D2.lost ∧ D2.lost ≤ 100000 := by rw [hD2]; exact hlo
    obtain ⟨hlo3, hlo4⟩ := hlo2
    have HT0 := Lib.hid ht
    have HLI : Hid (D.list t x y = if cutB D2.cs t x y = true then [] else ((D2.fs.find? (isF x y cn)).map FR.l).getD [usD D2.us D2.dflt x y]) := Lib.hid (by rw [hD2, ← HCN.out]; rfl)
    clear hD2 hS5 hlen1 hlen2 hlen3 hlen4 hlu hlf hlc hle hll hlo hp ht
    have x0 := HS5.out.b.get.1
    go_upto_region 9 with fail
    have hba := (Below.refl wc.heap.size wc).alloc (Nat.le_refl _) (.cells #[.int .i64 D2.dflt] 3)
    have HS6 := Lib.hid (HS5.out.bel hba)
    have HQ0 := Lib.hid (heap_alloc_new wc (.cells #[.int .i64 D2.dflt] 3))
    obtain ⟨g0, hg0⟩ : ∃ g0, wc.heap.size = g0 := ⟨_, rfl⟩
    rw [hg0] at HQ0 ⊢
    clear hg0 hba x0 HS5
    generalize wc.alloc (.cells #[.int .i64 D2.dflt] 3) = w6 at *
    go_upto_block 0 with fail
    go_cut [7] (fun dv wx => ∃ g : Nat, dv = .slice (some ⟨g, 0, none⟩) 1 1 ∧ wx.heap[g]? = some (.cells #[.int .i64 (usD D2.us D2.dflt x y)] 3 (0, 0)) ∧ SW Kp w bx rx mb ⟨t, x, y, d⟩ ⟨.slice au D2.us.length cu, .slice af D2.fs.length cf, .slice ac D2.cs.length cc, .slice ae D2.se.length ce, .slice al D2.ls.length cl⟩ D2 wx)
    case first =>
      go_wp2_with fail
      go_loopw [7, 8] (fun dv iv wr => ∃ (j g : Nat), j ≤ D2.us.length ∧ iv = .int .i64 j ∧ dv = .slice (some ⟨g, 0, none⟩) 1 1 ∧ wr.heap[g]? = some (.cells #[.int .i64 (usD (D2.us.take j) D2.dflt x y)] 3 (0, 0)) ∧ SW Kp w bx rx mb ⟨t, x, y, d⟩ ⟨.slice au D2.us.length cu, .slice af D2.fs.length cf, .slice ac D2.cs.length cc, .slice ae D2.se.length ce, .slice al D2.ls.length cl⟩ D2 wr) (fun _ iv _ => D2.us.length - (intOf iv).toNat)
      case atStart => exact ⟨0, g0, Nat.zero_le _, rfl, rfl, HQ0.out, HS6.out⟩
      case round =>
        clear HS6 HQ0
        obtain ⟨j, g, hj, rfl, rfl, hq, hs⟩ := hrel
        have HQ := Lib.hid hq
        have HS := Lib.hid hs
        obtain ⟨m0, m1, m2, m3⟩ := HS.out.mget
        have x3 := HS.out.b.get.2.2.2.1
        clear hq hs
        by_cases hlt : j < D2.us.length
        · have HU : Hid (usD (D2.us.take (j + 1)) D2.dflt x y = if (D2.us.getD j dUR).1 = x ∧ (D2.us.getD j dUR).2.1 = y then (D2.us.getD j dUR).2.2 else usD (D2.us.take j) D2.dflt x y) := Lib.hid (by
            rw [List.take_succ_eq_append_getElem hlt, usD_snoc]
            simp [List.getD, hlt])
          obtain ⟨gu, ou, hau, c⟩ := HS.out.d.u.at_ uC_len hlt dUR
          subst hau
          have c0 := c 0 (by omega)
          have c1 := c 1 (by omega)
          have c2 := c 2 (by omega)
          clear c
          generalize D2.us.getD j dUR = u at *
          replace c0 : wr.cell? ⟨gu, ou + j * 3, none⟩ = some (.string u.1) := c0
          replace c1 : wr.cell? ⟨gu, ou + j * 3 + 1, none⟩ = some (.string u.2.1) := c1
          replace c2 : wr.cell? ⟨gu, ou + j * 3 + 2, none⟩ = some (.int .i64 u.2.2) := c2
          have dj : decide ((j : Int) < (D2.us.length : Int)) = true := decide_eq_true (by omega)
          have HXW : Hid (∀ n, wr.heap.size = (wr.drewN n).heap.size) := Lib.hid fun n => by simp
          by_cases ha : u.1 = x
          · have e1 : (u.1.toList == x.toList) = true := eqT_iff.2 ha
            by_cases hb : u.2.1 = y
            · have e2 : (u.2.1.toList == y.toList) = true := eqT_iff.2 hb
              rw [if_pos ⟨ha, hb⟩] at HU
              clear ha hb
              go_upto_region 12 with fail
              go_quiet (fail)
              have hbn := below_draw wr.heap.size wr nq
              have HSn := Lib.hid (HS.out.bel hbn)
              have c2n := below_cell hbn c2
              clear HS HQ hbn m0 m1 m2 m3 x3 c0 c1 c2 HXW
              generalize wr.drewN nq = wn at *
              have x3 := HSn.out.b.get.2.2.2.1
              have hba := (Below.refl wn.heap.size wn).alloc (Nat.le_refl _) (.cells #[.int .i64 u.2.2] 3)
              have HSm := Lib.hid (HSn.out.bel hba)
              have HQm := Lib.hid (heap_alloc_new wn (.cells #[.int .i64 u.2.2] 3))
              go_wp2_with fail
              go_roundw
              case rel => exact ⟨j + 1, wn.heap.size, by omega, by go_num, rfl, by rw [HU.out]; exact HQm.out, HSm.out⟩
              case measure => simp [intOf]; omega
            · have e2 : (u.2.1.toList == y.toList) = false := eqT_not hb
              rw [if_neg (fun h => hb h.2)] at HU
              clear ha hb
              go_upto_region 12 with fail
              go_quiet (fail)
              have hbn := below_draw wr.heap.size wr nq
              have HSn := Lib.hid (HS.out.bel hbn)
              have HQn := Lib.hid ((hbn.block _ (lt_of_block HQ.out)).trans HQ.out)
              clear hbn
              go_wp2_with fail
              go_roundw
              case rel => exact ⟨j + 1, g, by omega, by go_num, rfl, by rw [HU.out]; exact HQn.out, HSn.out⟩
              case measure => simp [intOf]; omega
          · have e1 : (u.1.toList == x.toList) = false := eqT_not ha
            rw [if_neg (fun h => ha h.1)] at HU
            clear ha
            go_upto_region 12 with fail
            go_quiet (fail)
            have hbn := below_draw wr.heap.size wr nq
            have HSn := Lib.hid (HS.out.bel hbn)
            have HQn := Lib.hid ((hbn.block _ (lt_of_block HQ.out)).trans HQ.out)
            clear hbn
            go_wp2_with fail
            go_roundw
            case rel => exact ⟨j + 1, g, by omega, by go_num, rfl, by rw [HU.out]; exact HQn.out, HSn.out⟩
            case measure => simp [intOf]; omega
        · obtain rfl : j = D2.us.length := by omega
          rw [List.take_length] at HQ
          have dj : decide ((D2.us.length : Int) < (D2.us.length : Int)) = false := decide_eq_false (by omega)
          go_wp2_with fail
          go_meet
          case rel => exact ⟨g, rfl, HQ.out, HS.out⟩
    case rest =>
      clear HS6 HQ0
      obtain ⟨g, rfl, hq, hs⟩ := hcut
      have HQ := Lib.hid hq
      have HS := Lib.hid hs
      clear hq hs
      obtain ⟨m0, m1, m2, m3⟩ := HS.out.mget
      generalize usD D2.us D2.dflt x y = du at *
      obtain ⟨y0, y1, y2, y3, y4, y5, y6, y7⟩ := HS.out.b.get
      have hcf := dfate_any HS.out.d x y cn
      unfold dnV dnC at hcf
      dsimp only at hcf
      have HCF := Lib.hid hcf
      clear hcf
      go_wp2_with fail
      refine HCF.out.mono ?_
      rintro e w7 ⟨r, rfl, hr, hb7⟩
      have HS7 := Lib.hid (HS.out.bel hb7)
      have HQ7 := Lib.hid ((hb7.block _ (lt_of_block HQ.out)).trans HQ.out)
      have HR := Lib.hid hr
      clear HS HQ hr hb7 HCF m0 m1 m2 m3 y0 y1 y2 y3 y4 y5 y6 y7
      obtain ⟨y0, y1, y2, y3, y4, y5, y6, y7⟩ := HS7.out.b.get
      go_upto_if 88 with fail
      go_cut [7] (fun dv wx => DlV D2.lim (((D2.fs.find? (isF x y cn)).map FR.l).getD [du]) dv wx ∧ SW Kp w bx rx mb ⟨t, x, y, d⟩ ⟨.slice au D2.us.length cu, .slice af D2.fs.length cf, .slice ac D2.cs.length cc, .slice ae D2.se.length ce, .slice al D2.ls.length cl⟩ D2 wx)
      case first =>
        cases HR.out with
        | there k hk hfi =>
          obtain ⟨gf, off, haf, c⟩ := HS7.out.d.f.at_ fC_len hk dFR
          subst haf
          have hm : D2.fs.getD k dFR ∈ D2.fs := by simp [List.getD, hk]
          have hFR := HS7.out.d.r _ hm
          have c3 : w7.cell? ⟨gf, off + k * 4 + 3, none⟩ = some (D2.fs.getD k dFR).v := c 3 (by omega)
          have HL : Hid (((D2.fs.find? (isF x y cn)).map FR.l).getD [du] = (D2.fs.getD k dFR).l) := Lib.hid (by rw [hfi]; rfl)
          obtain ⟨fo, fc, fb, fof, fX, hfv, hfi2, hfx, hfb⟩ := hFR.v
          have HI := Lib.hid (And.intro (show RdI _ _ _ _ _ _ from ⟨hfi2.ao, hfi2.lt, hfi2.c⟩) (And.intro hfx hfb))
          rw [hfv] at c3
          clear hfi2 hfx hfb
          generalize D2.fs.getD k dFR = fr at *
          have dk : decide ((0 : Int) ≤ (k : Int)) = true := decide_eq_true (by omega)
          have HP : Hid (DlV D2.lim (((D2.fs.find? (isF x y cn)).map FR.l).getD [du]) (.slice fo fr.l.length fc) w7) := Lib.hid (by rw [HL.out]; exact ⟨fo, fc, fb, fof, fX, rfl, HI.out.1, HI.out.2.1, fun h0 => .inl (HI.out.2.2 h0)⟩)
          clear c hm hFR hfi hfv HI HL
          generalize fr.l.length = ln at *
          go_wp2_with fail
          go_meet
          case rel => exact ⟨HP.out, HS7.out⟩
        | none hfi =>
          have HP : Hid (DlV D2.lim (((D2.fs.find? (isF x y cn)).map FR.l).getD [du]) (.slice (some ⟨g, 0, none⟩) 1 1) w7) := Lib.hid (by rw [hfi]; exact DlV.one HQ7.out)
          clear hfi
          go_wp2_with fail
          go_meet
          case rel => exact ⟨HP.out, HS7.out⟩
      case rest =>
        obtain ⟨hdl, hs8⟩ := hcut
        have HDLV := Lib.hid hdl
        have HS8 := Lib.hid hs8
        clear HS7 HQ7 HR hdl hs8 y0 y1 y2 y3 y4 y5 y6 y7
        generalize ((D2.fs.find? (isF x y cn)).map FR.l).getD [du] = L1 at *
        obtain ⟨m0, m1, m2, m3⟩ := HS8.out.mget
        obtain ⟨y0, y1, y2, y3, y4, y5, y6, y7⟩ := HS8.out.b.get
        have hcc := dcovered_any HS8.out.d t x y
        unfold dnV dnC at hcc
        dsimp only at hcc
        have HCC := Lib.hid hcc
        clear hcc
        generalize hct : cutB D2.cs t x y = ct at *
        clear hct
        go_wp2_with fail
        refine HCC.out.mono ?_
        rintro e w9 ⟨rfl, hb9⟩
        have HS9 := Lib.hid (HS8.out.bel hb9)
        have HDL9 := Lib.hid (HDLV.out.bel hb9)
        clear HS8 HDLV HCC hb9 m0 m1 m2 m3 y0 y1 y2 y3 y4 y5 y6 y7
        go_upto_if 102 with fail
        go_cut [7] (fun dv wx => DlV D2.lim (if ct = true then [] else L1) dv wx ∧ SW Kp w bx rx mb ⟨t, x, y, d⟩ ⟨.slice au D2.us.length cu, .slice af D2.fs.length cf, .slice ac D2.cs.length cc, .slice ae D2.se.length ce, .slice al D2.ls.length cl⟩ D2 wx)
        case first =>
          cases ct
          · go_wp2_with fail
            go_meet
            case rel => exact ⟨HDL9.out, HS9.out⟩
          · go_wp2_with fail
            go_meet
            case rel => exact ⟨DlV.nil _ _, HS9.out⟩
        case rest =>
          obtain ⟨hdl, hs10⟩ := hcut
          have HS10 := Lib.hid hs10
          obtain ⟨L2, hL2⟩ : ∃ L2, (if ct = true then [] else L1) = L2 := ⟨_, rfl⟩
          rw [hL2] at hdl HLI
          have HDLV := Lib.hid hdl
          have hl2n : L2.length ≤ 1000 := by rw [← HLI.out]; exact HLL.out
          clear HS9 HDL9 hL2 hdl hs10 HLL
          obtain ⟨da, dc, gO, oO, XO, rfl, hO⟩ := HDLV.out
          have HO : Hid (DlV D2.lim L2 (.slice da L2.length dc) wc) := Lib.hid ⟨da, dc, gO, oO, XO, rfl, hO⟩
          have HSB : Hid (D2.lim ≤ bx) := Lib.hid (Nat.le_trans HS10.out.b.lim HS10.out.b.lb)
          clear HDLV hO
          have x2 := HS10.out.b.get.2.2.1
          have f2 := HS10.out.b.free 2
          go_upto_if 105 with fail
          go_cut [] (fun wx => ∃ D3, D3 = { D2 with lost := D2.lost + (if L2.length = 0 then 1 else 0) } ∧ DlV D2.lim L2 (.slice da L2.length dc) wx ∧ SW Kp w bx rx mb ⟨t, x, y, d⟩ ⟨.slice au D3.us.length cu, .slice af D3.fs.length cf, .slice ac D3.cs.length cc, .slice ae D3.se.length ce, .slice al D3.ls.length cl⟩ D3 wx)
          case first =>
            by_cases hz : L2.length = 0
            · have HST := Lib.hid (HS10.out.set (q' := ⟨.slice au D2.us.length cu, .slice af D2.fs.length cf, .slice ac D2.cs.length cc, .slice ae D2.se.length ce, .slice al D2.ls.length cl⟩) (D' := { D2 with lost := D2.lost + 1 }) 2 (.int .i64 (D2.lost + 1)) rfl (HS10.out.d.nums D2.dflt D2.present (D2.lost + 1)))
              have HO2 := Lib.hid (HO.out.keep HSB.out HST.out.2 (by simp) HS10.out.b.o)
              have HS11 := Lib.hid HST.out.1
              have HZ : Hid (D2.lost + (if L2.length = 0 then 1 else 0) = D2.lost + 1) := Lib.hid (by rw [if_pos hz])
              have dz : ((L2.length : Int) == 0) = true := by rw [hz]; rfl
              clear hz HST
              go_wp2_with fail
              go_meet
              case rel => exact ⟨_, rfl, HO2.out, by rw [HZ.out]; exact HS11.out⟩
            · have HZ : Hid (D2.lost + (if L2.length = 0 then 1 else 0) = D2.lost) := Lib.hid (by rw [if_neg hz]; exact Int.add_zero _)
              have dz : ((L2.length : Int) == 0) = false := by rw [beq_eq_false_iff_ne]; omega
              clear hz
              go_wp2_with fail
              go_meet
              case rel => exact ⟨_, rfl, HO.out, by rw [HZ.out]; exact HS10.out⟩
          case rest =>
            obtain ⟨D3, hD3, hdl, hs11⟩ := hcut
            have HD3 := Lib.hid hD3
            have HS11 := Lib.hid hs11
            have HDLV := Lib.hid hdl
            have hl5 : D3.ls.length ≤ 1000 := by rw [hD3]; exact hl4
            clear HO HS10 x2 f2 hD3 hs11 hdl
            go_upto_block 2 with fail
            go_cut [] (fun wx => ∃ (D4 : DN) (al : Option Addr) (cl : Nat), D4 = DS ∧ SW Kp w bx rx mb ⟨t, x, y, d⟩ ⟨.slice au D4.us.length cu, .slice af D4.fs.length cf, .slice ac D4.cs.length cc, .slice ae D4.se.length ce, .slice al D4.ls.length cl⟩ D4 wx)
            case first =>
              go_wp2_with fail
              go_loopw [10] (fun iv wr => ∃ (j : Nat) (D4 : DN) (al : Option Addr) (cl : Nat), j ≤ L2.length ∧ iv = .int .i64 j ∧ D4 = { D3 with ls := D3.ls ++ (L2.take j).map fun k => ⟨t + k, x, y, d⟩ } ∧ DlV D2.lim L2 (.slice da L2.length dc) wr ∧ SW Kp w bx rx mb ⟨t, x, y, d⟩ ⟨.slice au D4.us.length cu, .slice af D4.fs.length cf, .slice ac D4.cs.length cc, .slice ae D4.se.length ce, .slice al D4.ls.length cl⟩ D4 wr) (fun iv _ => L2.length - (intOf iv).toNat)
              case atStart => exact ⟨0, D3, al, cl, Nat.zero_le _, rfl, by simp, HDLV.out, HS11.out⟩
              case round =>
                clear HDLV HS11
                obtain ⟨j, D4, al, cl, hj, rfl, hD4, hdl, hs⟩ := hrel
                have HS := Lib.hid hs
                have HD4 := Lib.hid hD4
                have HDLV := Lib.hid hdl
                have hl6 : D4.ls.length ≤ 2000 := by
                  rw [hD4]
                  show (D3.ls ++ _).length ≤ _
                  rw [List.length_append, List.length_map, List.length_take]
                  omega
                clear hs hD4 hdl
                by_cases hlt : j < L2.length
                · obtain ⟨_, _, gd, od, Xd, hdv, hO, hXd, _⟩ := HDLV.out
                  simp only [Value.slice.injEq, true_and] at hdv
                  obtain ⟨rfl, rfl⟩ := hdv
                  obtain rfl := hO.ao (by omega)
                  have HBD := Lib.hid (HDL.out (L2.getD j 0) (by rw [HLI.out]; simp [List.getD, hlt]))
                  have HNX : Hid ((L2.take (j + 1)).map (fun k => (⟨t + k, x, y, d⟩ : DL)) = (L2.take j).map (fun k => (⟨t + k, x, y, d⟩ : DL)) ++ [⟨t + L2.getD j 0, x, y, d⟩]) := Lib.hid (by
                    rw [List.take_succ_eq_append_getElem hlt, List.map_append]
                    simp [List.getD, hlt])
                  have HCC : Hid (∀ wx, Below wr.heap.size wr wx → wx.cell? ⟨gd, od + j, none⟩ = some (.int .i64 (L2.getD j 0))) := Lib.hid fun wx hb => (below_cell hb (hO.c j hlt)).trans (by rw [hXd j hlt])
                  clear hO hXd
                  generalize L2.getD j 0 = z at *
                  obtain ⟨hz0, hz1⟩ := HBD.out
                  have ht0 : 0 ≤ t := HT0.out
                  have hwr : IntKind.i64.wrap (t + z) = t + z := IntWalk.i64_in _ (by omega)
                  have dj : decide ((j : Int) < (L2.length : Int)) = true := decide_eq_true (by omega)
                  go_upto_region 24 with fail
                  refine AnyZ.start 21 (fun wx : World => wx.cell? ⟨bx, 7, none⟩ = some (.slice al D4.ls.length cl) ∧ wx.cell? ⟨mb, 0, none⟩ = some (.int .i64 t) ∧ wx.cell? ⟨mb, 1, none⟩ = some (.string x) ∧ wx.cell? ⟨mb, 2, none⟩ = some (.string y) ∧ wx.cell? ⟨mb, 3, none⟩ = some (.string d) ∧ wx.cell? ⟨gd, od + j, none⟩ = some (.int .i64 z)) (by kernel_rfl) ?_
                  obtain ⟨w2, hw2⟩ : ∃ w2, w2 = wr.drew := ⟨_, rfl⟩
                  have hbd : Below wr.heap.size wr w2 := by rw [hw2]; exact below_drew _ _
                  have HS2 := Lib.hid (HS.out.bel hbd)
                  have HDLV2 := Lib.hid (HDLV.out.bel hbd)
                  have HSF : Hid (∀ wx, Below w2.heap.size w2 wx → (fun wx : World => wx.cell? ⟨bx, 7, none⟩ = some (.slice al D4.ls.length cl) ∧ wx.cell? ⟨mb, 0, none⟩ = some (.int .i64 t) ∧ wx.cell? ⟨mb, 1, none⟩ = some (.string x) ∧ wx.cell? ⟨mb, 2, none⟩ = some (.string y) ∧ wx.cell? ⟨mb, 3, none⟩ = some (.string d) ∧ wx.cell? ⟨gd, od + j, none⟩ = some (.int .i64 z)) wx) := Lib.hid fun wx hb => ⟨(HS2.out.bel hb).b.get.2.2.2.2.2.2.2, (HS2.out.bel hb).mget.1, (HS2.out.bel hb).mget.2.1, (HS2.out.bel hb).mget.2.2.1, (HS2.out.bel hb).mget.2.2.2, HCC.out wx (hbd.trans (hb.mono hbd.size))⟩
                  have HRW : Hid (∀ wx, Below w2.heap.size w2 wx → RowsAt 75 4 dC wx (.slice al D4.ls.length cl) D4.ls) := Lib.hid fun wx hb => (HS2.out.bel hb).d.l
                  have hH := HSF.out w2 (Below.refl _ _)
                  rw [← hw2] at ⊢
                  clear hw2 hbd
                  have HBX := Lib.hid (Below.refl w2.heap.size w2)
                  refine AnyZ.take (i := 1) (v := ?_) rfl (by kernel_rfl) (fun _ _ _ h => h) (by rfl) hH ?_ ?_
                  rotate_left
                  · intro w hSw
                    go_simp
                    with_reducible rfl
                  try simp only [List.getElem_toArray, List.getElem_cons_succ, List.getElem_cons_zero, Act.put, List.setIfInBounds_toArray, List.set_cons_zero, List.set_cons_succ]
                  refine AnyZ.take (i := 2) (v := ?_) rfl (by kernel_rfl) (fun _ _ _ h => h) (by rfl) hH ?_ ?_
                  rotate_left
                  · intro w hSw
                    go_simp
                    with_reducible rfl
                  try simp only [List.getElem_toArray, List.getElem_cons_succ, List.getElem_cons_zero, Act.put, List.setIfInBounds_toArray, List.set_cons_zero, List.set_cons_succ]
                  refine AnyZ.take (i := 4) (v := ?_) rfl (by kernel_rfl) (fun _ _ _ h => h) (by rfl) hH ?_ ?_
                  rotate_left
                  · intro w hSw
                    go_simp
                    with_reducible rfl
                  try simp only [List.getElem_toArray, List.getElem_cons_succ, List.getElem_cons_zero, Act.put, List.setIfInBounds_toArray, List.set_cons_zero, List.set_cons_succ]
                  refine AnyZ.take (i := 5) (v := ?_) rfl (by kernel_rfl) (fun _ _ _ h => h) (by rfl) hH ?_ ?_
                  rotate_left
                  · intro w hSw
                    go_simp
                    with_reducible rfl
                  try simp only [List.getElem_toArray, List.getElem_cons_succ, List.getElem_cons_zero, Act.put, List.setIfInBounds_toArray, List.set_cons_zero, List.set_cons_succ]
                  refine AnyZ.take (i := 6) (v := ?_) rfl (by kernel_rfl) (fun _ _ _ h => h) (by rfl) hH ?_ ?_
                  rotate_left
                  · intro w hSw
                    go_simp
                    with_reducible rfl
                  try simp only [List.getElem_toArray, List.getElem_cons_succ, List.getElem_cons_zero, Act.put, List.setIfInBounds_toArray, List.set_cons_zero, List.set_cons_succ]
                  refine AnyZ.take (i := 7) (v := ?_) rfl (by kernel_rfl) (fun _ _ _ h => h) (by rfl) hH ?_ ?_
                  rotate_left
                  · intro w hSw
                    go_simp
                    with_reducible rfl
                  try simp only [List.getElem_toArray, List.getElem_cons_succ, List.getElem_cons_zero, Act.put, List.setIfInBounds_toArray, List.set_cons_zero, List.set_cons_succ]
                  refine AnyZ.take (i := 8) (v := ?_) rfl (by kernel_rfl) (fun _ _ _ h => h) (by rfl) hH ?_ ?_
                  rotate_left
                  · intro w hSw
                    go_simp
                    with_reducible rfl
                  try simp only [List.getElem_toArray, List.getElem_cons_succ, List.getElem_cons_zero, Act.put, List.setIfInBounds_toArray, List.set_cons_zero, List.set_cons_succ]
                  refine AnyZ.take (i := 9) (v := ?_) rfl (by kernel_rfl) (fun _ _ _ h => h) (by rfl) hH ?_ ?_
                  rotate_left
                  · intro w hSw
                    go_simp
                    with_reducible rfl
                  try simp only [List.getElem_toArray, List.getElem_cons_succ, List.getElem_cons_zero, Act.put, List.setIfInBounds_toArray, List.set_cons_zero, List.set_cons_succ]
                  refine AnyZ.take (i := 10) (v := ?_) rfl (by kernel_rfl) (fun _ _ _ h => h) (by rfl) hH ?_ ?_
                  rotate_left
                  · intro w hSw
                    go_simp
                    with_reducible rfl
                  try simp only [List.getElem_toArray, List.getElem_cons_succ, List.getElem_cons_zero, Act.put, List.setIfInBounds_toArray, List.set_cons_zero, List.set_cons_succ]
                  refine AnyZ.take (i := 11) (v := ?_) rfl (by kernel_rfl) (fun _ _ _ h => h) (by rfl) hH ?_ ?_
                  rotate_left
                  · intro w hSw
                    go_simp
                    with_reducible rfl
                  try simp only [List.getElem_toArray, List.getElem_cons_succ, List.getElem_cons_zero, Act.put, List.setIfInBounds_toArray, List.set_cons_zero, List.set_cons_succ]
                  refine AnyZ.take (i := 12) (v := ?_) rfl (by kernel_rfl) (fun _ _ _ h => h) (by rfl) hH ?_ ?_
                  rotate_left
                  · intro w hSw
                    go_simp
                    with_reducible rfl
                  try simp only [List.getElem_toArray, List.getElem_cons_succ, List.getElem_cons_zero, Act.put, List.setIfInBounds_toArray, List.set_cons_zero, List.set_cons_succ]
                  refine AnyZ.take (i := 13) (v := ?_) rfl (by kernel_rfl) (fun _ _ _ h => h) (by rfl) hH ?_ ?_
                  rotate_left
                  · intro w hSw
                    go_simp
                    with_reducible rfl
                  try simp only [List.getElem_toArray, List.getElem_cons_succ, List.getElem_cons_zero, Act.put, List.setIfInBounds_toArray, List.set_cons_zero, List.set_cons_succ]
                  refine AnyZ.take (i := 14) (v := ?_) rfl (by kernel_rfl) (fun _ _ _ h => h) (by rfl) hH ?_ ?_
                  rotate_left
                  · intro w hSw
                    go_simp
                    with_reducible rfl
                  try simp only [List.getElem_toArray, List.getElem_cons_succ, List.getElem_cons_zero, Act.put, List.setIfInBounds_toArray, List.set_cons_zero, List.set_cons_succ]
                  refine AnyZ.take (i := 15) (v := ?_) rfl (by kernel_rfl) (fun _ _ _ h => h) (by rfl) hH ?_ ?_
                  rotate_left
                  · intro w hSw
                    go_simp
                    with_reducible rfl
                  try simp only [List.getElem_toArray, List.getElem_cons_succ, List.getElem_cons_zero, Act.put, List.setIfInBounds_toArray, List.set_cons_zero, List.set_cons_succ]
                  refine AnyZ.take (i := 16) (v := ?_) rfl (by kernel_rfl) (fun _ _ _ h => h) (by rfl) hH ?_ ?_
                  rotate_left
                  · intro w hSw
                    go_simp
                    with_reducible rfl
                  try simp only [List.getElem_toArray, List.getElem_cons_succ, List.getElem_cons_zero, Act.put, List.setIfInBounds_toArray, List.set_cons_zero, List.set_cons_succ]
                  refine AnyZ.take (i := 17) (v := ?_) rfl (by kernel_rfl) (fun _ _ _ h => h) (by rfl) hH ?_ ?_
                  rotate_left
                  · intro w hSw
                    go_simp
                    with_reducible rfl
                  try simp only [List.getElem_toArray, List.getElem_cons_succ, List.getElem_cons_zero, Act.put, List.setIfInBounds_toArray, List.set_cons_zero, List.set_cons_succ]
                  refine AnyZ.two (i := 0) (j := 18) rfl rfl (by kernel_rfl) rfl rfl (fun K hK => ?_) (fun K hK => ?_)
                  · skip
                    go_simp
                    have hbX := (Below.refl w2.heap.size w2).alloc (Nat.le_refl _) (.cells #[] 75)
                    have hqX := heap_alloc_new w2 (.cells #[] 75)
                    obtain ⟨gb0, hgX⟩ : ∃ g, w2.heap.size = g := ⟨_, rfl⟩
                    have HGE0 : Hid (w2.heap.size ≤ gb0) := Lib.hid (by have := HBX.out.size; omega)
                    rw [hgX] at hqX ⊢
                    clear hgX
                    generalize w2.alloc (.cells #[] 75) = wo0 at *
                    have F0 := Lib.hid (hqX)
                    have HBX := Lib.hid (HBX.out.trans (hbX.mono HBX.out.size))
                    have hHwo0 := HSF.out wo0 HBX.out
                    refine hK.out _ _ (.inr hHwo0) ?_
                    clear hK K hbX hqX
                    refine AnyZ.two (i := 3) (j := 18) rfl rfl (by kernel_rfl) rfl rfl (fun K hK => ?_) (fun K hK => ?_)
                    · skip
                      obtain ⟨ao1, cp1, wo1, hap, ho1, how1, hbX⟩ := app_fresh 67 _ _ Try.underlying67 infoDD rfl (by omega) F0.out (OL.src (HRW.out _ HBX.out) Try.underlying67 (rowsC_onesIn _ (fun z _ => dC_one z))) (by unfold maxLen; omega) (by omega)
                      refine wp_append_run (v := .slice (some ⟨gb0, 0, none⟩) 0 0) (xv := .slice al D4.ls.length cl) (.tmp 116) (.tmp 118) 67 67 rfl (by rfl) (by rfl) hap ?_
                      have F0 := Lib.hid ((hbX.block _ (lt_of_block F0.out)).trans F0.out)
                      have O1 := Lib.hid (ho1)
                      have W1 := Lib.hid (grown_fresh HGE0.out HBX.out.size how1)
                      have HBX := Lib.hid (HBX.out.trans (hbX.mono HBX.out.size))
                      have hHwo1 := HSF.out wo1 HBX.out
                      refine hK.out _ _ (.inr hHwo1) ?_
                      clear hK K hbX hap ho1
                      refine AnyZ.one (i := 18) rfl (by kernel_rfl) rfl (fun K hK => ?_)
                      go_simp
                      have hbX := (Below.refl wo1.heap.size wo1).alloc (Nat.le_refl _) (.cells #[.int .i64 (t + z), .string x, .string y, .string d] 75)
                      have hqX := heap_alloc_new wo1 (.cells #[.int .i64 (t + z), .string x, .string y, .string d] 75)
                      obtain ⟨gb18, hgX⟩ : ∃ g, wo1.heap.size = g := ⟨_, rfl⟩
                      have HGE18 : Hid (w2.heap.size ≤ gb18) := Lib.hid (by have := HBX.out.size; omega)
                      rw [hgX] at hqX ⊢
                      clear hgX
                      generalize wo1.alloc (.cells #[.int .i64 (t + z), .string x, .string y, .string d] 75) = wo2 at *
                      have F0 := Lib.hid ((hbX.block _ (lt_of_block F0.out)).trans F0.out)
                      have O1 := Lib.hid (OL.bel O1.out hbX)
                      have W1 := Lib.hid (W1.out)
                      have F18 := Lib.hid (hqX)
                      have HBX := Lib.hid (HBX.out.trans (hbX.mono HBX.out.size))
                      have hHwo2 := HSF.out wo2 HBX.out
                      refine hK.out _ _ (.inr hHwo2) ?_
                      clear hK K hbX hqX
                      refine AnyZ.one (i := 19) rfl (by kernel_rfl) rfl (fun K hK => ?_)
                      obtain ⟨ao2, cp2, wo3, hap, ho2, hg2, how2⟩ := ol_more 67 _ _ Try.underlying67 infoDD rfl (by omega) O1.out F18.out rfl (dC_one ⟨t + z, x, y, d⟩) (by omega) (by omega)
                      have hbX : Below w2.heap.size w2 wo3 := HBX.out.grown hg2 HBX.out.size W1.out
                      have W2 := Lib.hid (grown_own W1.out HBX.out.size how2)
                      refine wp_append_run (v := .slice ao1 D4.ls.length cp1) (xv := .slice (some ⟨gb18, 0, none⟩) 1 1) (.tmp 119) (.tmp 134) 67 67 rfl (by rfl) (by rfl) hap ?_
                      have O2 := Lib.hid (rows_snoc (f := dC) (x := ⟨t + z, x, y, d⟩) ho2)
                      have HBX := Lib.hid hbX
                      have hHwo3 := HSF.out wo3 hbX
                      refine hK.out _ _ (.inr hHwo3) ?_
                      clear hK K hap hbX ho2 hg2 how2
                      refine AnyZ.take (i := 20) (v := ?_) rfl (by kernel_rfl) (fun _ _ _ h => h) (by rfl) hHwo3 ?_ ?_
                      rotate_left
                      · intro w hSw
                        go_simp
                        with_reducible rfl
                      try simp only [List.getElem_toArray, List.getElem_cons_succ, List.getElem_cons_zero, Act.put, List.setIfInBounds_toArray, List.set_cons_zero, List.set_cons_succ]
                      refine AnyZ.one (i := 21) rfl (by kernel_rfl) rfl (fun K hK => ?_)
                      have zz := (HS2.out.bel HBX.out).b.get
                      have zc := zz.2.2.2.2.2.2.2
                      have fz := (HS2.out.bel HBX.out).b.free 7
                      clear zz
                      go_simp
                      refine hK.out _ _ (.inl rfl) ?_
                      clear hK K zc fz
                      refine AnyZ.done (by kernel_rfl) ?_ _
                      have HST := Lib.hid ((HS2.out.bel HBX.out).set (q' := ⟨.slice au D4.us.length cu, .slice af D4.fs.length cf, .slice ac D4.cs.length cc, .slice ae D4.se.length ce, .slice ao2 (D4.ls.length + 1) cp2⟩) (D' := { D4 with ls := D4.ls ++ [⟨t + z, x, y, d⟩] }) 7 (.slice ao2 (D4.ls.length + 1) cp2) rfl ((HS2.out.bel HBX.out).d.setL O2.out (fun g hg => .inr (Nat.le_trans HS2.out.b.b.size (W2.out g hg)))))
                      have HDLV3 := Lib.hid ((HDLV2.out.bel HBX.out).keep HSB.out HST.out.2 (by simp) (HS2.out.bel HBX.out).b.o)
                      have HSN := Lib.hid HST.out.1
                      clear HST O2 W2 O1 W1 F0 F18 HS2 HSF HRW
                      try clear hH
                      generalize wo3.setCell ⟨bx, 7, none⟩ (.slice ao2 (D4.ls.length + 1) cp2) = w5 at *
                      have hl5b : (D4.ls ++ [(⟨t + z, x, y, d⟩ : DL)]).length = D4.ls.length + 1 := by simp
                      have HPN : Hid (∃ (D5 : DN) (al : Option Addr) (cl : Nat), D5 = { D3 with ls := D3.ls ++ (L2.take (j + 1)).map fun k => ⟨t + k, x, y, d⟩ } ∧ DlV D2.lim L2 (.slice (some ⟨gd, od, none⟩) L2.length dc) w5 ∧ SW Kp w bx rx mb ⟨t, x, y, d⟩ ⟨.slice au D5.us.length cu, .slice af D5.fs.length cf, .slice ac D5.cs.length cc, .slice ae D5.se.length ce, .slice al D5.ls.length cl⟩ D5 w5) := Lib.hid ⟨{ D4 with ls := D4.ls ++ [⟨t + z, x, y, d⟩] }, ao2, cp2, by rw [HNX.out, ← List.append_assoc, HD4.out], HDLV3.out, by show SW Kp w bx rx mb ⟨t, x, y, d⟩ ⟨.slice au D4.us.length cu, .slice af D4.fs.length cf, .slice ac D4.cs.length cc, .slice ae D4.se.length ce, .slice ao2 (D4.ls ++ [(⟨t + z, x, y, d⟩ : DL)]).length cp2⟩ { D4 with ls := D4.ls ++ [⟨t + z, x, y, d⟩] } w5; rw [hl5b]; exact HSN.out⟩
                      clear hl5b
                      go_wp2_with fail
                      go_roundw
                      case rel => (obtain ⟨D5, al5, cl5, h5⟩ := HPN.out; exact ⟨j + 1, D5, al5, cl5, by omega, by go_num, h5⟩)
                      case measure => simp [intOf]; omega
                    · skip
                      go_simp
                      have hbX := (Below.refl wo0.heap.size wo0).alloc (Nat.le_refl _) (.cells #[.int .i64 (t + z), .string x, .string y, .string d] 75)
                      have hqX := heap_alloc_new wo0 (.cells #[.int .i64 (t + z), .string x, .string y, .string d] 75)
                      obtain ⟨gb18, hgX⟩ : ∃ g, wo0.heap.size = g := ⟨_, rfl⟩
                      have HGE18 : Hid (w2.heap.size ≤ gb18) := Lib.hid (by have := HBX.out.size; omega)
                      rw [hgX] at hqX ⊢
                      clear hgX
                      generalize wo0.alloc (.cells #[.int .i64 (t + z), .string x, .string y, .string d] 75) = wo1 at *
                      have F0 := Lib.hid ((hbX.block _ (lt_of_block F0.out)).trans F0.out)
                      have F18 := Lib.hid (hqX)
                      have HBX := Lib.hid (HBX.out.trans (hbX.mono HBX.out.size))
                      have hHwo1 := HSF.out wo1 HBX.out
                      refine hK.out _ _ (.inr hHwo1) ?_
                      clear hK K hbX hqX
                      refine AnyZ.one (i := 3) rfl (by kernel_rfl) rfl (fun K hK => ?_)
                      obtain ⟨ao1, cp1, wo2, hap, ho1, how1, hbX⟩ := app_fresh 67 _ _ Try.underlying67 infoDD rfl (by omega) F0.out (OL.src (HRW.out _ HBX.out) Try.underlying67 (rowsC_onesIn _ (fun z _ => dC_one z))) (by unfold maxLen; omega) (by omega)
                      refine wp_append_run (v := .slice (some ⟨gb0, 0, none⟩) 0 0) (xv := .slice al D4.ls.length cl) (.tmp 116) (.tmp 118) 67 67 rfl (by rfl) (by rfl) hap ?_
                      have F0 := Lib.hid ((hbX.block _ (lt_of_block F0.out)).trans F0.out)
                      have F18 := Lib.hid ((hbX.block _ (lt_of_block F18.out)).trans F18.out)
                      have O1 := Lib.hid (ho1)
                      have W1 := Lib.hid (grown_fresh HGE0.out HBX.out.size how1)
                      have HBX := Lib.hid (HBX.out.trans (hbX.mono HBX.out.size))
                      have hHwo2 := HSF.out wo2 HBX.out
                      refine hK.out _ _ (.inr hHwo2) ?_
                      clear hK K hbX hap ho1
                      refine AnyZ.one (i := 19) rfl (by kernel_rfl) rfl (fun K hK => ?_)
                      obtain ⟨ao2, cp2, wo3, hap, ho2, hg2, how2⟩ := ol_more 67 _ _ Try.underlying67 infoDD rfl (by omega) O1.out F18.out rfl (dC_one ⟨t + z, x, y, d⟩) (by omega) (by omega)
                      have hbX : Below w2.heap.size w2 wo3 := HBX.out.grown hg2 HBX.out.size W1.out
                      have W2 := Lib.hid (grown_own W1.out HBX.out.size how2)
                      refine wp_append_run (v := .slice ao1 D4.ls.length cp1) (xv := .slice (some ⟨gb18, 0, none⟩) 1 1) (.tmp 119) (.tmp 134) 67 67 rfl (by rfl) (by rfl) hap ?_
                      have O2 := Lib.hid (rows_snoc (f := dC) (x := ⟨t + z, x, y, d⟩) ho2)
                      have HBX := Lib.hid hbX
                      have hHwo3 := HSF.out wo3 hbX
                      refine hK.out _ _ (.inr hHwo3) ?_
                      clear hK K hap hbX ho2 hg2 how2
                      refine AnyZ.take (i := 20) (v := ?_) rfl (by kernel_rfl) (fun _ _ _ h => h) (by rfl) hHwo3 ?_ ?_
                      rotate_left
                      · intro w hSw
                        go_simp
                        with_reducible rfl
                      try simp only [List.getElem_toArray, List.getElem_cons_succ, List.getElem_cons_zero, Act.put, List.setIfInBounds_toArray, List.set_cons_zero, List.set_cons_succ]
                      refine AnyZ.one (i := 21) rfl (by kernel_rfl) rfl (fun K hK => ?_)
                      have zz := (HS2.out.bel HBX.out).b.get
                      have zc := zz.2.2.2.2.2.2.2
                      have fz := (HS2.out.bel HBX.out).b.free 7
                      clear zz
                      go_simp
                      refine hK.out _ _ (.inl rfl) ?_
                      clear hK K zc fz
                      refine AnyZ.done (by kernel_rfl) ?_ _
                      have HST := Lib.hid ((HS2.out.bel HBX.out).set (q' := ⟨.slice au D4.us.length cu, .slice af D4.fs.length cf, .slice ac D4.cs.length cc, .slice ae D4.se.length ce, .slice ao2 (D4.ls.length + 1) cp2⟩) (D' := { D4 with ls := D4.ls ++ [⟨t + z, x, y, d⟩] }) 7 (.slice ao2 (D4.ls.length + 1) cp2) rfl ((HS2.out.bel HBX.out).d.setL O2.out (fun g hg => .inr (Nat.le_trans HS2.out.b.b.size (W2.out g hg)))))
                      have HDLV3 := Lib.hid ((HDLV2.out.bel HBX.out).keep HSB.out HST.out.2 (by simp) (HS2.out.bel HBX.out).b.o)
                      have HSN := Lib.hid HST.out.1
                      clear HST O2 W2 O1 W1 F0 F18 HS2 HSF HRW
                      try clear hH
                      generalize wo3.setCell ⟨bx, 7, none⟩ (.slice ao2 (D4.ls.length + 1) cp2) = w5 at *
                      have hl5b : (D4.ls ++ [(⟨t + z, x, y, d⟩ : DL)]).length = D4.ls.length + 1 := by simp
                      have HPN : Hid (∃ (D5 : DN) (al : Option Addr) (cl : Nat), D5 = { D3 with ls := D3.ls ++ (L2.take (j + 1)).map fun k => ⟨t + k, x, y, d⟩ } ∧ DlV D2.lim L2 (.slice (some ⟨gd, od, none⟩) L2.length dc) w5 ∧ SW Kp w bx rx mb ⟨t, x, y, d⟩ ⟨.slice au D5.us.length cu, .slice af D5.fs.length cf, .slice ac D5.cs.length cc, .slice ae D5.se.length ce, .slice al D5.ls.length cl⟩ D5 w5) := Lib.hid ⟨{ D4 with ls := D4.ls ++ [⟨t + z, x, y, d⟩] }, ao2, cp2, by rw [HNX.out, ← List.append_assoc, HD4.out], HDLV3.out, by show SW Kp w bx rx mb ⟨t, x, y, d⟩ ⟨.slice au D4.us.length cu, .slice af D4.fs.length cf, .slice ac D4.cs.length cc, .slice ae D4.se.length ce, .slice ao2 (D4.ls ++ [(⟨t + z, x, y, d⟩ : DL)]).length cp2⟩ { D4 with ls := D4.ls ++ [⟨t + z, x, y, d⟩] } w5; rw [hl5b]; exact HSN.out⟩
                      clear hl5b
                      go_wp2_with fail
                      go_roundw
                      case rel => (obtain ⟨D5, al5, cl5, h5⟩ := HPN.out; exact ⟨j + 1, D5, al5, cl5, by omega, by go_num, h5⟩)
                      case measure => simp [intOf]; omega
                  · skip
                    go_simp
                    have hbX := (Below.refl w2.heap.size w2).alloc (Nat.le_refl _) (.cells #[.int .i64 (t + z), .string x, .string y, .string d] 75)
                    have hqX := heap_alloc_new w2 (.cells #[.int .i64 (t + z), .string x, .string y, .string d] 75)
                    obtain ⟨gb18, hgX⟩ : ∃ g, w2.heap.size = g := ⟨_, rfl⟩
                    have HGE18 : Hid (w2.heap.size ≤ gb18) := Lib.hid (by have := HBX.out.size; omega)
                    rw [hgX] at hqX ⊢
                    clear hgX
                    generalize w2.alloc (.cells #[.int .i64 (t + z), .string x, .string y, .string d] 75) = wo0 at *
                    have F18 := Lib.hid (hqX)
                    have HBX := Lib.hid (HBX.out.trans (hbX.mono HBX.out.size))
                    have hHwo0 := HSF.out wo0 HBX.out
                    refine hK.out _ _ (.inr hHwo0) ?_
                    clear hK K hbX hqX
                    refine AnyZ.one (i := 0) rfl (by kernel_rfl) rfl (fun K hK => ?_)
                    go_simp
                    have hbX := (Below.refl wo0.heap.size wo0).alloc (Nat.le_refl _) (.cells #[] 75)
                    have hqX := heap_alloc_new wo0 (.cells #[] 75)
                    obtain ⟨gb0, hgX⟩ : ∃ g, wo0.heap.size = g := ⟨_, rfl⟩
                    have HGE0 : Hid (w2.heap.size ≤ gb0) := Lib.hid (by have := HBX.out.size; omega)
                    rw [hgX] at hqX ⊢
                    clear hgX
                    generalize wo0.alloc (.cells #[] 75) = wo1 at *
                    have F18 := Lib.hid ((hbX.block _ (lt_of_block F18.out)).trans F18.out)
                    have F0 := Lib.hid (hqX)
                    have HBX := Lib.hid (HBX.out.trans (hbX.mono HBX.out.size))
                    have hHwo1 := HSF.out wo1 HBX.out
                    refine hK.out _ _ (.inr hHwo1) ?_
                    clear hK K hbX hqX
                    refine AnyZ.one (i := 3) rfl (by kernel_rfl) rfl (fun K hK => ?_)
                    obtain ⟨ao1, cp1, wo2, hap, ho1, how1, hbX⟩ := app_fresh 67 _ _ Try.underlying67 infoDD rfl (by omega) F0.out (OL.src (HRW.out _ HBX.out) Try.underlying67 (rowsC_onesIn _ (fun z _ => dC_one z))) (by unfold maxLen; omega) (by omega)
                    refine wp_append_run (v := .slice (some ⟨gb0, 0, none⟩) 0 0) (xv := .slice al D4.ls.length cl) (.tmp 116) (.tmp 118) 67 67 rfl (by rfl) (by rfl) hap ?_
                    have F0 := Lib.hid ((hbX.block _ (lt_of_block F0.out)).trans F0.out)
                    have F18 := Lib.hid ((hbX.block _ (lt_of_block F18.out)).trans F18.out)
                    have O1 := Lib.hid (ho1)
                    have W1 := Lib.hid (grown_fresh HGE0.out HBX.out.size how1)
                    have HBX := Lib.hid (HBX.out.trans (hbX.mono HBX.out.size))
                    have hHwo2 := HSF.out wo2 HBX.out
                    refine hK.out _ _ (.inr hHwo2) ?_
                    clear hK K hbX hap ho1
                    refine AnyZ.one (i := 19) rfl (by kernel_rfl) rfl (fun K hK => ?_)
                    obtain ⟨ao2, cp2, wo3, hap, ho2, hg2, how2⟩ := ol_more 67 _ _ Try.underlying67 infoDD rfl (by omega) O1.out F18.out rfl (dC_one ⟨t + z, x, y, d⟩) (by omega) (by omega)
                    have hbX : Below w2.heap.size w2 wo3 := HBX.out.grown hg2 HBX.out.size W1.out
                    have W2 := Lib.hid (grown_own W1.out HBX.out.size how2)
                    refine wp_append_run (v := .slice ao1 D4.ls.length cp1) (xv := .slice (some ⟨gb18, 0, none⟩) 1 1) (.tmp 119) (.tmp 134) 67 67 rfl (by rfl) (by rfl) hap ?_
                    have O2 := Lib.hid (rows_snoc (f := dC) (x := ⟨t + z, x, y, d⟩) ho2)
                    have HBX := Lib.hid hbX
                    have hHwo3 := HSF.out wo3 hbX
                    refine hK.out _ _ (.inr hHwo3) ?_
                    clear hK K hap hbX ho2 hg2 how2
                    refine AnyZ.take (i := 20) (v := ?_) rfl (by kernel_rfl) (fun _ _ _ h => h) (by rfl) hHwo3 ?_ ?_
                    rotate_left
                    · intro w hSw
                      go_simp
                      with_reducible rfl
                    try simp only [List.getElem_toArray, List.getElem_cons_succ, List.getElem_cons_zero, Act.put, List.setIfInBounds_toArray, List.set_cons_zero, List.set_cons_succ]
                    refine AnyZ.one (i := 21) rfl (by kernel_rfl) rfl (fun K hK => ?_)
                    have zz := (HS2.out.bel HBX.out).b.get
                    have zc := zz.2.2.2.2.2.2.2
                    have fz := (HS2.out.bel HBX.out).b.free 7
                    clear zz
                    go_simp
                    refine hK.out _ _ (.inl rfl) ?_
                    clear hK K zc fz
                    refine AnyZ.done (by kernel_rfl) ?_ _
                    have HST := Lib.hid ((HS2.out.bel HBX.out).set (q' := ⟨.slice au D4.us.length cu, .slice af D4.fs.length cf, .slice ac D4.cs.length cc, .slice ae D4.se.length ce, .slice ao2 (D4.ls.length + 1) cp2⟩) (D' := { D4 with ls := D4.ls ++ [⟨t + z, x, y, d⟩] }) 7 (.slice ao2 (D4.ls.length + 1) cp2) rfl ((HS2.out.bel HBX.out).d.setL O2.out (fun g hg => .inr (Nat.le_trans HS2.out.b.b.size (W2.out g hg)))))
                    have HDLV3 := Lib.hid ((HDLV2.out.bel HBX.out).keep HSB.out HST.out.2 (by simp) (HS2.out.bel HBX.out).b.o)
                    have HSN := Lib.hid HST.out.1
                    clear HST O2 W2 O1 W1 F0 F18 HS2 HSF HRW
                    try clear hH
                    generalize wo3.setCell ⟨bx, 7, none⟩ (.slice ao2 (D4.ls.length + 1) cp2) = w5 at *
                    have hl5b : (D4.ls ++ [(⟨t + z, x, y, d⟩ : DL)]).length = D4.ls.length + 1 := by simp
                    have HPN : Hid (∃ (D5 : DN) (al : Option Addr) (cl : Nat), D5 = { D3 with ls := D3.ls ++ (L2.take (j + 1)).map fun k => ⟨t + k, x, y, d⟩ } ∧ DlV D2.lim L2 (.slice (some ⟨gd, od, none⟩) L2.length dc) w5 ∧ SW Kp w bx rx mb ⟨t, x, y, d⟩ ⟨.slice au D5.us.length cu, .slice af D5.fs.length cf, .slice ac D5.cs.length cc, .slice ae D5.se.length ce, .slice al D5.ls.length cl⟩ D5 w5) := Lib.hid ⟨{ D4 with ls := D4.ls ++ [⟨t + z, x, y, d⟩] }, ao2, cp2, by rw [HNX.out, ← List.append_assoc, HD4.out], HDLV3.out, by show SW Kp w bx rx mb ⟨t, x, y, d⟩ ⟨.slice au D4.us.length cu, .slice af D4.fs.length cf, .slice ac D4.cs.length cc, .slice ae D4.se.length ce, .slice ao2 (D4.ls ++ [(⟨t + z, x, y, d⟩ : DL)]).length cp2⟩ { D4 with ls := D4.ls ++ [⟨t + z, x, y, d⟩] } w5; rw [hl5b]; exact HSN.out⟩
                    clear hl5b
                    go_wp2_with fail
                    go_roundw
                    case rel => (obtain ⟨D5, al5, cl5, h5⟩ := HPN.out; exact ⟨j + 1, D5, al5, cl5, by omega, by go_num, h5⟩)
                    case measure => simp [intOf]; omega
                · obtain rfl : j = L2.length := by omega
                  rw [List.take_length] at HD4
                  have dj : decide ((L2.length : Int) < (L2.length : Int)) = false := decide_eq_false (by omega)
                  have HFIN : Hid (D4 = DS) := Lib.hid (by
                    rw [← HDS0.out, HD4.out, HD3.out, HD2.out]
                    unfold DN.send
                    dsimp only
                    rw [HLI.out])
                  go_wp2_with fail
                  go_meet
                  case rel => exact ⟨D4, al, cl, HFIN.out, HS.out⟩
            case rest =>
              obtain ⟨D4, al, cl, hD4, hs⟩ := hcut
              have HFIN := Lib.hid hD4
              have HS := Lib.hid hs
              clear hD4 hs
              have HF := Lib.hid (HS.out.b.fin (J := fun k => Kp k ∨ w.heap.size ≤ k) (HS.out.d.more fun g hg => hg))
              obtain ⟨x0, x1, x2, x3, x4, x5, x6, x7⟩ := HS.out.b.get
              obtain ⟨⟨y0, y1, y2, y3, y4, y5, y6, y7⟩, f0, f1, f2, f3, f4, f5, f6, f7⟩ := HS.out.b.zero
              repeat (first | go_values | go_skip | go_guarded | go_step | go_upon)
              try simp only [Exit.inBlock, Exit.then]
              refine bodyPost_ret (results_cell2 rfl _ _ rx 69 _ (0, 0) _ rfl HF.out.2.2 Try.underlying69 rfl (by kernel_rfl)) rfl ?_
              rw [← HFIN.out]
              exact ⟨_, rfl, HF.out.1, HF.out.2.1⟩
end
end Go.Proofs.Ytkhiepjlfbjgdaa

/- network: the document's network in its two boxes; SetDelay. Conditions: the network can be read and is short. -/
import Derived.Test.YtkhiepjlfbjgdaaZNwPc
namespace Go.Proofs.Ytkhiepjlfbjgdaa
open Go.RowKit

def zN : Array Value := #[.int .i64 0, .int .i64 0, .int .i64 0, .slice none 0 0, .slice none 0 0, .slice none 0 0, .slice none 0 0, .slice none 0 0]
/-- The two boxes of a function of the document: the network, the result. -/
structure BN (w : World) (bx rx : Nat) (q : DNv) (s : DN) (wx : World) : Prop where
  o : wx.heap[bx]? = some (.cells (dnC q s) tDN (0, 0))
  r : wx.heap[rx]? = some (.cells zN tDN (0, 0))
  ne : rx ≠ bx
  lb : w.heap.size ≤ bx
  lr : w.heap.size ≤ rx
  b : Below w.heap.size w wx
  lim : s.lim ≤ w.heap.size
/-- What a function leaves that returns a network and a number. -/
def RetN (K : Nat → Prop) (D' : DN) (c : Int) (w : World) (e : Ending) (w' : World) : Prop :=
  ∃ q', e = .returned (.tuple #[dnV q' D', .int .i64 c]) ∧ DNAt (fun k => K k ∨ w.heap.size ≤ k) w' q' D' ∧ Below w.heap.size w w'
section
variable {K J : Nat → Prop} {w w' wx w0 : World} {q : DNv} {D D' : DN} {bx rx : Nat} {vu vf vc vs vl v : Value}
theorem BN.bel (h : BN w bx rx q D wx) (hb : Below wx.heap.size wx w') : BN w bx rx q D w' := ⟨(hb.block _ (lt_of_block h.o)).trans h.o, (hb.block _ (lt_of_block h.r)).trans h.r, h.ne, h.lb, h.lr, h.b.trans (hb.mono h.b.size), h.lim⟩
theorem BN.start (w : World) (q : DNv) (D : DN) (hl : D.lim ≤ w.heap.size) : BN w w.heap.size (w.heap.size + 1) q D ((w.alloc (.cells (dnC q D) tDN)).alloc (.cells zN tDN)) := by
  obtain ⟨k1, k2, k3⟩ := two_boxes w (dnC q D) zN tDN
  exact ⟨k2, k3, by omega, by omega, by omega, k1, hl⟩
theorem BN.get (h : BN w bx rx ⟨vu, vf, vc, vs, vl⟩ D wx) : (wx.cell? ⟨bx, 0, none⟩ = some (.int .i64 D.dflt) ∧ wx.cell? ⟨bx, 1, none⟩ = some (.int .i64 D.present) ∧ wx.cell? ⟨bx, 2, none⟩ = some (.int .i64 D.lost) ∧ wx.cell? ⟨bx, 3, none⟩ = some vu ∧ wx.cell? ⟨bx, 4, none⟩ = some vf ∧ wx.cell? ⟨bx, 5, none⟩ = some vc ∧ wx.cell? ⟨bx, 6, none⟩ = some vs ∧ wx.cell? ⟨bx, 7, none⟩ = some vl) := (get_row8 h.o).1
theorem BN.free (h : BN w bx rx q D wx) (i : Nat) : wx.frozen? ⟨bx, i, none⟩ = false := has_free h.o i
theorem BN.zero (h : BN w bx rx q D wx) : (wx.cell? ⟨rx, 0, none⟩ = some (.int .i64 0) ∧ wx.cell? ⟨rx, 1, none⟩ = some (.int .i64 0) ∧ wx.cell? ⟨rx, 2, none⟩ = some (.int .i64 0) ∧ wx.cell? ⟨rx, 3, none⟩ = some (.slice none 0 0) ∧ wx.cell? ⟨rx, 4, none⟩ = some (.slice none 0 0) ∧ wx.cell? ⟨rx, 5, none⟩ = some (.slice none 0 0) ∧ wx.cell? ⟨rx, 6, none⟩ = some (.slice none 0 0) ∧ wx.cell? ⟨rx, 7, none⟩ = some (.slice none 0 0)) ∧ wx.frozen? ⟨rx, 0, none⟩ = false ∧ wx.frozen? ⟨rx, 1, none⟩ = false ∧ wx.frozen? ⟨rx, 2, none⟩ = false ∧ wx.frozen? ⟨rx, 3, none⟩ = false ∧ wx.frozen? ⟨rx, 4, none⟩ = false ∧ wx.frozen? ⟨rx, 5, none⟩ = false ∧ wx.frozen? ⟨rx, 6, none⟩ = false ∧ wx.frozen? ⟨rx, 7, none⟩ = false := get_row8 h.r
/-- The result is stored. -/
theorem BN.fin (h : BN w bx rx q D wx) (hd : DNAt J wx q D) : DNAt J ((((((((wx.setCell ⟨rx, 0, none⟩ (.int .i64 D.dflt)).setCell ⟨rx, 1, none⟩ (.int .i64 D.present)).setCell ⟨rx, 2, none⟩ (.int .i64 D.lost)).setCell ⟨rx, 3, none⟩ q.vu).setCell ⟨rx, 4, none⟩ q.vf).setCell ⟨rx, 5, none⟩ q.vc).setCell ⟨rx, 6, none⟩ q.vs).setCell ⟨rx, 7, none⟩ q.vl) q D ∧ Below w.heap.size w ((((((((wx.setCell ⟨rx, 0, none⟩ (.int .i64 D.dflt)).setCell ⟨rx, 1, none⟩ (.int .i64 D.present)).setCell ⟨rx, 2, none⟩ (.int .i64 D.lost)).setCell ⟨rx, 3, none⟩ q.vu).setCell ⟨rx, 4, none⟩ q.vf).setCell ⟨rx, 5, none⟩ q.vc).setCell ⟨rx, 6, none⟩ q.vs).setCell ⟨rx, 7, none⟩ q.vl) ∧ ((((((((wx.setCell ⟨rx, 0, none⟩ (.int .i64 D.dflt)).setCell ⟨rx, 1, none⟩ (.int .i64 D.present)).setCell ⟨rx, 2, none⟩ (.int .i64 D.lost)).setCell ⟨rx, 3, none⟩ q.vu).setCell ⟨rx, 4, none⟩ q.vf).setCell ⟨rx, 5, none⟩ q.vc).setCell ⟨rx, 6, none⟩ q.vs).setCell ⟨rx, 7, none⟩ q.vl).heap[rx]? = some (.cells (dnC q D) tDN (0, 0)) := by
  obtain ⟨h1, h2, h3⟩ := set_row8 (show wx.heap[rx]? = some (.cells #[.int .i64 0, .int .i64 0, .int .i64 0, .slice none 0 0, .slice none 0 0, .slice none 0 0, .slice none 0 0, .slice none 0 0] tDN (0, 0)) from h.r) (.int .i64 D.dflt) (.int .i64 D.present) (.int .i64 D.lost) q.vu q.vf q.vc q.vs q.vl
  exact ⟨hd.heapQ (fun b cs t ht hb => h2 b (type_ne hb h.r ht)) (fun g hg => h2 g (by have := h.lim; have := h.lr; omega)) (by simp), h3 _ _ h.lr h.b, h1⟩
/-- A cell of the network is set. -/
theorem BN.set (h : BN w bx rx q D wx) {q' : DNv} {D' : DN} (i : Nat) (v : Value) (he : (dnC q D).setIfInBounds i v = dnC q' D') (hL : D'.lim = D.lim := by rfl) : BN w bx rx q' D' (wx.setCell ⟨bx, i, none⟩ v) ∧ ∀ (K : Nat → Prop) q1 D1, DNAt K wx q1 D1 → D1.lim = D.lim → DNAt K (wx.setCell ⟨bx, i, none⟩ v) q1 D1 := by
  obtain ⟨h1, h2, h3⟩ := set_one (i := i) h.o v
  rw [he] at h1
  exact ⟨⟨h1, (h2 rx h.ne).trans h.r, h.ne, h.lb, h.lr, h3 _ _ h.lb h.b, by rw [hL]; exact h.lim⟩, fun K q1 D1 hd hL1 => hd.heapQ (fun b cs t ht hb => h2 b (type_ne hb h.o ht)) (fun g hg => h2 g (by rw [hL1] at hg; have := h.lim; have := h.lb; omega)) (by simp)⟩
theorem DNAt.setU (h : DNAt K wx q D) {l : List UR} (hr : RowsAt 127 3 uC wx v l) (hk : ∀ g, v.ownBlock = some g → K g) : DNAt K wx { q with vu := v } { D with us := l } :=
  ⟨hr, h.f, h.c, h.e, h.l, hk, h.kf, h.kc, h.ks, h.kl, h.r, h.lm⟩
theorem DNAt.setC (h : DNAt K wx q D) {l : List NCut} (hr : RowsAt 117 4 cC wx v l) (hk : ∀ g, v.ownBlock = some g → K g) : DNAt K wx { q with vc := v } { D with cs := l } :=
  ⟨h.u, h.f, hr, h.e, h.l, h.ku, h.kf, hk, h.ks, h.kl, h.r, h.lm⟩
theorem DNAt.setF (h : DNAt K wx q D) {f : FR} (hf : FRok D.lim wx f) (hr : RowsAt 114 4 fC wx v (D.fs ++ [f])) (hk : ∀ g, v.ownBlock = some g → K g) : DNAt K wx { q with vf := v } { D with fs := D.fs ++ [f] } :=
  ⟨h.u, hr, h.c, h.e, h.l, h.ku, hk, h.kc, h.ks, h.kl, fun x hx => by
    rcases List.mem_append.1 hx with hx | hx
    · exact h.r x hx
    · rw [List.mem_singleton.1 hx]; exact hf, h.lm⟩
theorem DNAt.setS (h : DNAt K wx q D) {l : List DL} (hr : RowsAt 75 4 dC wx v l) (hk : ∀ g, v.ownBlock = some g → K g) : DNAt K wx { q with vs := v } { D with se := l } :=
  ⟨h.u, h.f, h.c, hr, h.l, h.ku, h.kf, h.kc, hk, h.kl, h.r, h.lm⟩
theorem DNAt.setL (h : DNAt K wx q D) {l : List DL} (hr : RowsAt 75 4 dC wx v l) (hk : ∀ g, v.ownBlock = some g → K g) : DNAt K wx { q with vl := v } { D with ls := l } :=
  ⟨h.u, h.f, h.c, h.e, hr, h.ku, h.kf, h.kc, h.ks, hk, h.r, h.lm⟩
theorem DNAt.nums (h : DNAt K wx q D) (a b c : Int) : DNAt K wx q { D with dflt := a, present := b, lost := c } := ⟨h.u, h.f, h.c, h.e, h.l, h.ku, h.kf, h.kc, h.ks, h.kl, h.r, h.lm⟩
theorem uC_one (x : UR) : ∀ u ∈ uC x, u.oneCell' = true := fun u hu => by
  simp only [uC, List.mem_cons, List.not_mem_nil, or_false] at hu
  rcases hu with rfl | rfl | rfl <;> rfl
theorem cC_one (x : NCut) : ∀ u ∈ cC x, u.oneCell' = true := fun u hu => by
  simp only [cC, List.mem_cons, List.not_mem_nil, or_false] at hu
  rcases hu with rfl | rfl | rfl | rfl <;> rfl
theorem dC_one (x : DL) : ∀ u ∈ dC x, u.oneCell' = true := fun u hu => by
  simp only [dC, List.mem_cons, List.not_mem_nil, or_false] at hu
  rcases hu with rfl | rfl | rfl | rfl <;> rfl
theorem fC_one {B : Nat} {x : FR} (h : FRok B wx x) : ∀ u ∈ fC x, u.oneCell' = true := fun u hu => by
  obtain ⟨ao, cap, _, _, _, e, _⟩ := h.v
  simp only [fC, List.mem_cons, List.not_mem_nil, or_false] at hu
  rcases hu with rfl | rfl | rfl | rfl
  · rfl
  · rfl
  · rfl
  · rw [e]; rfl
end
/-- append(append([]T{}, v...), x) in the text's order. -/
theorem app_two {P : Program} {α : Type} {f : α → List Value} {k bytes : Nat} {l : List α} {e t : TypeId} {z : Value} {w : World} {v : Value} (ht : P.underlying t = some (.slice e)) (hinfo : (P.info? e).map (fun i => (i.zero, i.size, i.bytes)) = some (some z, k, bytes)) (hzs : z.cells.size = k) (hk : 0 < k)
    (hf : ∀ x, (f x).length = k) (x : α) (h1 : ∀ y ∈ l, ∀ u ∈ f y, u.oneCell' = true) (hx : ∀ u ∈ f x, u.oneCell' = true) (h : RowsAt e k f w v l) (hl : l.length ≤ 100000) (hb : bytes ≤ 1000) :
    ∃ ao1 cp1 wB, (Builtin.append_ #[t, t] t #[.slice (some ⟨w.heap.size, 0, none⟩) 0 0, v]).run P (w.alloc (.cells #[] e)) = .ok (.slice ao1 l.length cp1) wB ∧
      ∃ ao2 cp2 wC, (Builtin.append_ #[t, t] t #[.slice ao1 l.length cp1, .slice (some ⟨wB.heap.size, 0, none⟩) 1 1]).run P (wB.alloc (.cells (f x).toArray e)) = .ok (.slice ao2 (l.length + 1) cp2) wC ∧
        RowsAt e k f wC (.slice ao2 (l.length + 1) cp2) (l ++ [x]) ∧ (∀ g, (Value.slice ao2 (l.length + 1) cp2).ownBlock = some g → w.heap.size ≤ g) ∧ Below w.heap.size w wC := by
  have hA := heap_alloc_new w (.cells #[] e)
  have hbA := (Below.refl w.heap.size w).alloc (Nat.le_refl _) (.cells #[] e)
  have hbb : l.length * bytes ≤ 100000 * 1000 := Nat.mul_le_mul hl hb
  obtain ⟨ao1, cp1, wB, hap, ho, how, hbB⟩ := app_fresh t z bytes ht hinfo hzs hk hA (OL.src (OL.bel h hbA) ht (rowsC_onesIn l h1)) (by unfold maxLen; omega) (by omega)
  have hbB2 := hbA.trans (hbB.mono hbA.size)
  have hwn := grown_fresh (Nat.le_refl w.heap.size) hbA.size how
  have hC := (Below.refl wB.heap.size wB).alloc (Nat.le_refl _) (.cells (f x).toArray e)
  obtain ⟨ao2, cp2, wC, hap2, ho2, hg2, how2⟩ := ol_more t z bytes ht hinfo hzs hk (OL.bel ho hC) (heap_alloc_new wB (.cells (f x).toArray e)) (hf x) hx (by omega) hb
  have hbC := hbB2.trans (hC.mono hbB2.size)
  refine ⟨ao1, cp1, wB, hap, ao2, cp2, wC, hap2, ?_, grown_own hwn hbC.size how2, hbC.grown hg2 hbC.size hwn⟩
  unfold RowsAt
  rw [List.length_append, rowsC_append, rowsC_one]
  exact ho2
section
variable {K J : Nat → Prop} {w w' wx w0 : World} {q : DNv} {D : DN}
set_option maxRecDepth 100000 in
set_option maxHeartbeats 6400000 in
theorem dsetdelay_bad (h : DNAt K w q D) (hlen : D.us.length ≤ 100000) (x y : ByteArray) (d : Int) (hbad : badD d = true) : Calls Try.prog 41 #[dnV q D, .string x, .string y, .int .i64 d] w (RetN K D 1 w) := by
  obtain ⟨au, cu, af, cf, ac, cc, ae, ce, al, cl, rfl, hlu, hlf, hlc, hle, hll⟩ := h.shapes
  have H := Lib.hid h
  obtain ⟨bx, hbx⟩ : ∃ bx, w.heap.size = bx := ⟨_, rfl⟩
  obtain ⟨rx, hrx⟩ : ∃ rx, w.heap.size + 1 = rx := ⟨_, rfl⟩
  have HB := Lib.hid (BN.start w ⟨.slice au D.us.length cu, .slice af D.fs.length cf, .slice ac D.cs.length cc, .slice ae D.se.length ce, .slice al D.ls.length cl⟩ D h.lm)
  rw [hbx] at HB
  rw [hbx] at hrx
  rw [hrx] at HB
  unfold dnV dnC zN tDN at *
  dsimp only at *
  clear h
  go_enter Try.func41, Try.ntmps41
  go_upto_region 1 with fail
  have HBX := Lib.hid hbx
  clear hbx hrx
  generalize (w.alloc (.cells #[.int .i64 D.dflt, .int .i64 D.present, .int .i64 D.lost, .slice au D.us.length cu, .slice af D.fs.length cf, .slice ac D.cs.length cc, .slice ae D.se.length ce, .slice al D.ls.length cl] 69)).alloc (.cells #[.int .i64 0, .int .i64 0, .int .i64 0, .slice none 0 0, .slice none 0 0, .slice none 0 0, .slice none 0 0, .slice none 0 0] 69) = w1 at *
  have hcd := ddelay_ok d w1
  simp only [hbad, Bool.not_true, Bool.not_false] at hcd
  have CD := Lib.hid hcd
  clear hbad hcd
  go_wp2_with fail
  refine CD.out.mono ?_
  rintro e wz ⟨rfl, hwz⟩
  obtain rfl : w1 = wz := hwz.symm
  clear CD
  go_upto_region 2 with fail
  have HF := Lib.hid (HB.out.fin (J := fun k => K k ∨ w.heap.size ≤ k) ((H.out.bel HB.out.b).more fun g hg => .inl hg))
  obtain ⟨x0, x1, x2, x3, x4, x5, x6, x7⟩ := HB.out.get
  obtain ⟨⟨y0, y1, y2, y3, y4, y5, y6, y7⟩, f0, f1, f2, f3, f4, f5, f6, f7⟩ := HB.out.zero
  repeat (first | go_values | go_skip | go_guarded | go_step | go_upon)
  try simp only [Exit.inBlock, Exit.then]
  refine bodyPost_ret (results_cell2 rfl _ _ rx 69 _ (0, 0) _ rfl HF.out.2.2 Try.underlying69 rfl (by kernel_rfl)) rfl ?_
  exact ⟨_, rfl, HF.out.1, HF.out.2.1⟩
set_option maxRecDepth 100000 in
set_option maxHeartbeats 6400000 in
theorem dsetdelay_ok (h : DNAt K w q D) (hlen : D.us.length ≤ 100000) (x y : ByteArray) (d : Int) (hbad : badD d = false) : Calls Try.prog 41 #[dnV q D, .string x, .string y, .int .i64 d] w (RetN K { D with us := D.us ++ [(x, (y, d))] } 0 w) := by
  obtain ⟨au, cu, af, cf, ac, cc, ae, ce, al, cl, rfl, hlu, hlf, hlc, hle, hll⟩ := h.shapes
  have H := Lib.hid h
  obtain ⟨bx, hbx⟩ : ∃ bx, w.heap.size = bx := ⟨_, rfl⟩
  obtain ⟨rx, hrx⟩ : ∃ rx, w.heap.size + 1 = rx := ⟨_, rfl⟩
  have HB := Lib.hid (BN.start w ⟨.slice au D.us.length cu, .slice af D.fs.length cf, .slice ac D.cs.length cc, .slice ae D.se.length ce, .slice al D.ls.length cl⟩ D h.lm)
  rw [hbx] at HB
  rw [hbx] at hrx
  rw [hrx] at HB
  unfold dnV dnC zN tDN at *
  dsimp only at *
  clear h
  go_enter Try.func41, Try.ntmps41
  go_upto_region 1 with fail
  have HBX := Lib.hid hbx
  clear hbx hrx
  generalize (w.alloc (.cells #[.int .i64 D.dflt, .int .i64 D.present, .int .i64 D.lost, .slice au D.us.length cu, .slice af D.fs.length cf, .slice ac D.cs.length cc, .slice ae D.se.length ce, .slice al D.ls.length cl] 69)).alloc (.cells #[.int .i64 0, .int .i64 0, .int .i64 0, .slice none 0 0, .slice none 0 0, .slice none 0 0, .slice none 0 0, .slice none 0 0] 69) = w1 at *
  have hcd := ddelay_ok d w1
  simp only [hbad, Bool.not_true, Bool.not_false] at hcd
  have CD := Lib.hid hcd
  clear hbad hcd
  go_wp2_with fail
  refine CD.out.mono ?_
  rintro e wz ⟨rfl, hwz⟩
  obtain rfl : w1 = wz := hwz.symm
  clear CD
  have ST := app_two (P := Try.prog) (f := uC) (k := 3) Try.underlying64 infoDU rfl (by omega) uC_len (x, (y, d)) (fun z _ => uC_one z) (uC_one _) (H.out.bel HB.out.b).u hlen (by omega)
  obtain ⟨ao1, cp1, wB, hap1, ao2, cp2, wC, hap2, hr, hw, hb⟩ := ST
  have HAP1 := Lib.hid hap1
  have HAP2 := Lib.hid hap2
  have HR := Lib.hid hr
  have HW := Lib.hid hw
  have HBC := Lib.hid (HB.out.bel hb)
  have HDC := Lib.hid ((H.out.bel HB.out.b).bel hb)
  clear hap1 hap2 hr hw hb
  unfold uC at HAP2
  dsimp only at HAP1 HAP2
  have x3 := (HB.out.bel ((Below.refl w1.heap.size w1).alloc (Nat.le_refl _) (.cells #[] 127))).get.2.2.2.1
  have f3 := HBC.out.free 3
  have z3 := HBC.out.get.2.2.2.1
  go_upto_region 4 with (first
    | (refine wpList_append_run (v := .slice (some ⟨w1.heap.size, 0, none⟩) 0 0) (xv := .slice au D.us.length cu) rfl (.tmp 14) (.tmp 16) _ _ rfl (by rfl) (by rfl) HAP1.out ?_)
    | (refine wpList_append_run (v := .slice ao1 D.us.length cp1) (xv := .slice (some ⟨wB.heap.size, 0, none⟩) 1 1) rfl (.tmp 17) (.tmp 22) _ _ rfl (by rfl) (by rfl) HAP2.out ?_))
  have HS := Lib.hid (HBC.out.set (q' := ⟨.slice ao2 (D.us.length + 1) cp2, .slice af D.fs.length cf, .slice ac D.cs.length cc, .slice ae D.se.length ce, .slice al D.ls.length cl⟩) (D' := { D with us := D.us ++ [(x, (y, d))] }) 3 (.slice ao2 (D.us.length + 1) cp2) rfl)
  have HDS := Lib.hid (HS.out.2 _ _ _ (((HDC.out.more (J := fun k => K k ∨ w.heap.size ≤ k) (fun g hg => .inl hg)).setU HR.out (fun g hg => .inr (Nat.le_trans HB.out.b.size (HW.out g hg))))) rfl)
  have HBS := Lib.hid HS.out.1
  clear HS x3 f3 z3 HAP1 HAP2 HR HW HBC HDC
  generalize wC.setCell ⟨bx, 3, none⟩ (.slice ao2 (D.us.length + 1) cp2) = w4 at *
  have HF := Lib.hid (HBS.out.fin (J := fun k => K k ∨ w.heap.size ≤ k) (HDS.out))
  obtain ⟨x0, x1, x2, x3, x4, x5, x6, x7⟩ := HBS.out.get
  obtain ⟨⟨y0, y1, y2, y3, y4, y5, y6, y7⟩, f0, f1, f2, f3, f4, f5, f6, f7⟩ := HBS.out.zero
  repeat (first | go_values | go_skip | go_guarded | go_step | go_upon)
  try simp only [Exit.inBlock, Exit.then]
  refine bodyPost_ret (results_cell2 rfl _ _ rx 69 _ (0, 0) _ rfl HF.out.2.2 Try.underlying69 rfl (by kernel_rfl)) rfl ?_
  exact ⟨_, rfl, HF.out.1, HF.out.2.1⟩
end
end Go.Proofs.Ytkhiepjlfbjgdaa

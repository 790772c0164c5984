/- network: the document's Receive. Conditions: the network can be read and is short. -/
import Derived.Test.YtkhiepjlfbjgdaaZNwPg
import Derived.Lib.MinMax
import Derived.Laws.CopyOwn
namespace Go.Proofs.Ytkhiepjlfbjgdaa
open Go.RowKit

def zD : Array Value := #[.int .i64 0, .string ⟨#[]⟩, .string ⟨#[]⟩, .string ⟨#[]⟩]
def tDV : TypeId := 75
theorem infoD4 : (Try.prog.info? 75).map (·.size) = some 4 := by kernel_rfl
def RcvP (K : Nat → Prop) (D : DN) (w : World) (e : Ending) (w' : World) : Prop :=
  ∃ q', e = .returned (.tuple #[dnV q' D.recv, .agg (dC (D.ls.getD (bestD D.ls D.ls.length) dDL)).toArray]) ∧ DNAt (fun k => K k ∨ w.heap.size ≤ k) w' q' D.recv ∧ Below w.heap.size w w'
theorem results_cells {P : Program} {fn : Func} {p p' : Tmp} {ty ty' : TypeId} (h : fn.results = #[.cell p ty, .cell p' ty']) (tmps : Array Value) (w : World) (g g' : Nat) (t t' : TypeId) (cs cs' : Array Value) (fr fr' : Nat × Nat) (d d' : TypeDesc)
    (hp : tmps.getD p undef = .pointer (some ⟨g, 0, none⟩)) (hg : w.heap[g]? = some (.cells cs t fr)) (hp' : tmps.getD p' undef = .pointer (some ⟨g', 0, none⟩)) (hg' : w.heap[g']? = some (.cells cs' t' fr'))
    (hu : P.underlying ty = some d) (hd : (match d with | .struct _ | .array _ _ => true | _ => false) = true) (hi : (P.info? ty).map (·.size) = some cs.size)
    (hu' : P.underlying ty' = some d') (hd' : (match d' with | .struct _ | .array _ _ => true | _ => false) = true) (hi' : (P.info? ty').map (·.size) = some cs'.size) :
    (results fn tmps).run P w = .ok (.tuple #[.agg cs, .agg cs']) w := by
  have h1 : tmps[p]?.getD undef = .pointer (some ⟨g, 0, none⟩) := by simpa using hp
  have h2 : tmps[p']?.getD undef = .pointer (some ⟨g', 0, none⟩) := by simpa using hp'
  simp [results, h, h1, h2, asAddr, run_loadVar_row w g t ty cs fr d hg hu hd hi, run_loadVar_row w g' t' ty' cs' fr' d' hg' hu' hd' hi']
section
variable {Kp K J : Nat → Prop} {w w' wx wz w0 : World} {q q' : DNv} {D D' : DN} {bx rx dx mb : Nat}
theorem fin2 (h : BN w bx rx q D wx) (hd : DNAt (fun k => J k ∧ k ≠ dx) wx q D) {cs old : Array Value} (hx : wx.heap[dx]? = some (.cells old tDV (0, 0))) (ld : w.heap.size ≤ dx) (hz : wz = (wx.setRow rx (dnC q D)).setRow dx cs ∨ wz = (wx.setRow dx cs).setRow rx (dnC q D)) :
    DNAt J wz q D ∧ Below w.heap.size w wz ∧ wz.heap[rx]? = some (.cells (dnC q D) tDN (0, 0)) ∧ wz.heap[dx]? = some (.cells cs tDV (0, 0)) := by
  have hne : rx ≠ dx := type_ne h.r hx (by decide)
  have h1 := setRow_heap _ _ _ (dnC q D) _ _ h.r
  have h2 := setRow_heap _ _ _ cs _ _ hx
  have d1 : ∀ {wy : World}, DNAt (fun k => J k ∧ k ≠ dx) wy q D → wy.heap[rx]? = some (.cells zN tDN (0, 0)) → DNAt (fun k => J k ∧ k ≠ dx) (wy.setRow rx (dnC q D)) q D := fun {wy} hy hr => hy.heapQ (fun b cs t ht hb => setRow_other _ _ _ _ (type_ne hb hr ht)) (fun g hg => setRow_other _ _ _ _ (by have := h.lim; have := h.lr; omega)) (by simp)
  have d2 : ∀ {wy : World}, DNAt (fun k => J k ∧ k ≠ dx) wy q D → DNAt (fun k => J k ∧ k ≠ dx) (wy.setRow dx cs) q D := fun {wy} hy => hy.heap (fun g hg _ => setRow_other _ _ _ _ hg.2) (fun g hg => setRow_other _ _ _ _ (by have := h.lim; omega)) (by simp)
  rcases hz with rfl | rfl
  · exact ⟨(d2 (d1 hd h.r)).more fun k hk => hk.1, below_setRow (below_setRow h.b h.lr _) ld _, (setRow_other _ _ _ _ hne).trans h1, setRow_heap _ _ _ _ _ _ ((setRow_other _ _ _ _ hne.symm).trans hx)⟩
  · exact ⟨(d1 (d2 hd) ((setRow_other _ _ _ _ hne).trans h.r)).more fun k hk => hk.1, below_setRow (below_setRow h.b ld _) h.lr _, setRow_heap _ _ _ _ _ _ ((setRow_other _ _ _ _ hne).trans h.r), (setRow_other _ _ _ _ hne.symm).trans h2⟩
theorem BN.start3 (w : World) (q : DNv) (D : DN) (cs : Array Value) (t : TypeId) (hl : D.lim ≤ w.heap.size) : BN w w.heap.size (w.heap.size + 1) q D (((w.alloc (.cells (dnC q D) tDN)).alloc (.cells zN tDN)).alloc (.cells cs t)) ∧ (((w.alloc (.cells (dnC q D) tDN)).alloc (.cells zN tDN)).alloc (.cells cs t)).heap[w.heap.size + 1 + 1]? = some (.cells cs t (0, 0)) :=
  ⟨(BN.start w q D hl).bel ((Below.refl _ _).alloc (Nat.le_refl _) _), heap_at (by simp)⟩
set_option maxRecDepth 100000 in
set_option maxHeartbeats 12800000 in
theorem drecv_any (h : DNAt Kp w q D) (h0 : 0 < D.ls.length) (hl : D.ls.length ≤ 100000) : Calls Try.prog 26 #[dnV q D] w (RcvP Kp D w) := by
  obtain ⟨au, cu, af, cf, ac, cc, ae, ce, al, cl, rfl, hlu, hlf, hlc, hle, hll⟩ := h.shapes
  obtain ⟨_, _, e, hcp, hcm, hao⟩ := OL.shape h.l
  obtain ⟨g, off, e2⟩ := hao h0
  simp only [Value.slice.injEq, true_and] at e
  obtain ⟨e3, rfl⟩ := e
  subst e3
  subst e2
  have H := Lib.hid h
  obtain ⟨bx, hbx⟩ : ∃ bx, w.heap.size = bx := ⟨_, rfl⟩
  obtain ⟨rx, hrx⟩ : ∃ rx, bx + 1 = rx := ⟨_, rfl⟩
  obtain ⟨dx, hdx⟩ : ∃ dx, rx + 1 = dx := ⟨_, rfl⟩
  have HB0 := BN.start3 w ⟨.slice au D.us.length cu, .slice af D.fs.length cf, .slice ac D.cs.length cc, .slice ae D.se.length ce, .slice (some ⟨g, off, none⟩) D.ls.length cl⟩ D zD 75 h.lm
  rw [hbx, hrx, hdx] at HB0
  have HDXL : Hid (w.heap.size ≤ dx) := Lib.hid (by omega)
  have HB := Lib.hid HB0.1
  have HX0 := Lib.hid HB0.2
  have HD : Hid (DNAt (fun k => (Kp k ∨ w.heap.size ≤ k) ∧ k ≠ dx) (((w.alloc (.cells #[.int .i64 D.dflt, .int .i64 D.present, .int .i64 D.lost, .slice au D.us.length cu, .slice af D.fs.length cf, .slice ac D.cs.length cc, .slice ae D.se.length ce, .slice (some ⟨g, off, none⟩) D.ls.length cl] 69)).alloc (.cells #[.int .i64 0, .int .i64 0, .int .i64 0, .slice none 0 0, .slice none 0 0, .slice none 0 0, .slice none 0 0, .slice none 0 0] 69)).alloc (.cells zD 75)) ⟨.slice au D.us.length cu, .slice af D.fs.length cf, .slice ac D.cs.length cc, .slice ae D.se.length ce, .slice (some ⟨g, off, none⟩) D.ls.length cl⟩ D) := Lib.hid ((h.to fun k hk hp => ⟨.inl hp, by omega⟩).bel HB.out.b)
  unfold dnV dnC zN zD tDN at *
  dsimp only at *
  clear h HB0
  go_enter Try.func26, Try.ntmps26
  go_upto_region 1 with fail
  have HBX := Lib.hid hbx
  have HDXW : Hid (dx < (((w.alloc (.cells #[.int .i64 D.dflt, .int .i64 D.present, .int .i64 D.lost, .slice au D.us.length cu, .slice af D.fs.length cf, .slice ac D.cs.length cc, .slice ae D.se.length ce, .slice (some ⟨g, off, none⟩) D.ls.length cl] 69)).alloc (.cells #[.int .i64 0, .int .i64 0, .int .i64 0, .slice none 0 0, .slice none 0 0, .slice none 0 0, .slice none 0 0, .slice none 0 0] 69)).alloc (.cells #[.int .i64 0, .string ⟨#[]⟩, .string ⟨#[]⟩, .string ⟨#[]⟩] 75)).heap.size) := Lib.hid (lt_of_block HX0.out)
  clear hbx hrx hdx
  generalize ((w.alloc (.cells #[.int .i64 D.dflt, .int .i64 D.present, .int .i64 D.lost, .slice au D.us.length cu, .slice af D.fs.length cf, .slice ac D.cs.length cc, .slice ae D.se.length ce, .slice (some ⟨g, off, none⟩) D.ls.length cl] 69)).alloc (.cells #[.int .i64 0, .int .i64 0, .int .i64 0, .slice none 0 0, .slice none 0 0, .slice none 0 0, .slice none 0 0, .slice none 0 0] 69)).alloc (.cells #[.int .i64 0, .string ⟨#[]⟩, .string ⟨#[]⟩, .string ⟨#[]⟩] 75) = w1 at *
  obtain ⟨x0, x1, x2, x3, x4, x5, x6, x7⟩ := HB.out.get
  have hcn := dnext_any HD.out
  unfold dnV dnC at hcn
  dsimp only at hcn
  obtain ⟨i, hi⟩ : ∃ i, bestD D.ls D.ls.length = i := ⟨_, rfl⟩
  have hilt : i < D.ls.length := by rw [← hi]; exact bestD_lt _ _ h0
  rw [show nextI D.ls D.ls.length = (bestD D.ls D.ls.length : Int) from if_neg (by omega), hi] at hcn
  have HCN := Lib.hid hcn
  have HI := Lib.hid hi
  clear hcn hi
  go_wp2_with fail
  refine HCN.out.mono ?_
  rintro e w2 ⟨rfl, hb2⟩
  have HB2 := Lib.hid (HB.out.bel hb2)
  have HD2 := Lib.hid (HD.out.bel hb2)
  have HX2 := Lib.hid ((hb2.block _ (lt_of_block HX0.out)).trans HX0.out)
  have HL2 : Hid (dx < w2.heap.size) := Lib.hid (lt_of_block HX2.out)
  clear HCN HB HD HX0 hb2 x0 x1 x2 x3 x4 x5 x6 x7 HDXW
  have x7 := HB2.out.get.2.2.2.2.2.2.2
  obtain ⟨g', off', he, c⟩ := HD2.out.l.at_ dC_len hilt dDL
  simp only [Option.some.injEq, Addr.mk.injEq, and_true] at he
  obtain ⟨rfl, rfl⟩ := he
  have c0 : w2.cell? ⟨g, off + i * 4, none⟩ = some (.int .i64 (D.ls.getD i dDL).t) := c 0 (by omega)
  have c1 : w2.cell? ⟨g, off + i * 4 + 1, none⟩ = some (.string (D.ls.getD i dDL).a) := c 1 (by omega)
  have c2 : w2.cell? ⟨g, off + i * 4 + 2, none⟩ = some (.string (D.ls.getD i dDL).b) := c 2 (by omega)
  have c3 : w2.cell? ⟨g, off + i * 4 + 3, none⟩ = some (.string (D.ls.getD i dDL).d) := c 3 (by omega)
  have HG : Hid (D.ls.getD i dDL = ⟨(D.ls.getD i dDL).t, (D.ls.getD i dDL).a, (D.ls.getD i dDL).b, (D.ls.getD i dDL).d⟩) := Lib.hid rfl
  clear c
  generalize (D.ls.getD i dDL).t = mt at *
  generalize (D.ls.getD i dDL).a = ma at *
  generalize (D.ls.getD i dDL).b = mb at *
  generalize (D.ls.getD i dDL).d = md at *
  go_upto_region 3 with fail
  have hba := (Below.refl w2.heap.size w2).alloc (Nat.le_refl _) (.cells #[.int .i64 mt, .string ma, .string mb, .string md] 75)
  have HB3 := Lib.hid (HB2.out.bel hba)
  have HD3 := Lib.hid (HD2.out.bel hba)
  have HX3 := Lib.hid ((hba.block _ (lt_of_block HX2.out)).trans HX2.out)
  have HM3 := Lib.hid (heap_alloc_new w2 (.cells #[.int .i64 mt, .string ma, .string mb, .string md] 75))
  obtain ⟨xb, hxb⟩ : ∃ xb, w2.heap.size = xb := ⟨_, rfl⟩
  have HDX2 : Hid (dx ≠ xb) := Lib.hid (by have := HL2.out; omega)
  have HL3 : Hid (dx < (w2.alloc (.cells #[.int .i64 mt, .string ma, .string mb, .string md] 75)).heap.size) := Lib.hid (by simp; have := HL2.out; omega)
  rw [hxb] at HM3 ⊢
  clear hxb hba HB2 HD2 HX2 HL2 c0 c1 c2 c3 x7
  generalize w2.alloc (.cells #[.int .i64 mt, .string ma, .string mb, .string md] 75) = w3 at *
  obtain ⟨m, hm⟩ : ∃ m, m = i + 1 := ⟨_, rfl⟩
  have HE : Hid (rowsC dC (D.ls.take i) ++ rowsC dC (D.ls.drop m) = rowsC dC (D.ls.eraseIdx i)) := Lib.hid (by rw [hm, ← rowsC_append, List.eraseIdx_eq_take_drop_succ])
  have HL : Hid ((D.ls.eraseIdx i).length = i + (D.ls.length - m)) := Lib.hid (by rw [List.length_eraseIdx_of_lt hilt]; omega)
  have hic : i ≤ cl := by omega
  have hil : i ≤ D.ls.length := by omega
  have hml : m ≤ D.ls.length := by omega
  have hwr : IntKind.i64.wrap ((i : Int) + 1) = (m : Int) := by rw [IntWalk.i64_in _ (by omega)]; omega
  clear hm
  refine AnyZ.start 13 (fun wx : World => wx.cell? ⟨bx, 7, none⟩ = some (.slice (some ⟨g, off, none⟩) D.ls.length cl)) (by kernel_rfl) ?_
  obtain ⟨w4, hw4⟩ : ∃ w4, w4 = w3.drew := ⟨_, rfl⟩
  have hbd : Below w3.heap.size w3 w4 := by rw [hw4]; exact below_drew _ _
  have HB4 := Lib.hid (HB3.out.bel hbd)
  have HD4 := Lib.hid (HD3.out.bel hbd)
  have HX4 := Lib.hid ((hbd.block _ (lt_of_block HX3.out)).trans HX3.out)
  have HM4 := Lib.hid ((hbd.block _ (lt_of_block HM3.out)).trans HM3.out)
  have HL4 : Hid (dx < w4.heap.size) := Lib.hid (Nat.lt_of_lt_of_le HL3.out hbd.size)
  have HSF : Hid (∀ wx, Below w4.heap.size w4 wx → wx.cell? ⟨bx, 7, none⟩ = some (.slice (some ⟨g, off, none⟩) D.ls.length cl)) := Lib.hid fun wx hb => (HB4.out.bel hb).get.2.2.2.2.2.2.2
  have hH := HSF.out w4 (Below.refl _ _)
  rw [← hw4] at ⊢
  clear hw4 hbd HB3 HD3 HX3 HM3 HL3
  have HBX2 := Lib.hid (Below.refl w4.heap.size w4)
  refine AnyZ.take (i := 1) (v := ?_) rfl (by kernel_rfl) (fun _ _ _ h => h) (by rfl) hH ?_ ?_
  rotate_left
  · intro w hSw
    go_simp
    with_reducible rfl
  try simp only [List.getElem_toArray, List.getElem_cons_succ, List.getElem_cons_zero, Act.put, List.setIfInBounds_toArray, List.set_cons_zero, List.set_cons_succ]
  refine AnyZ.take (i := 2) (v := ?_) rfl (by kernel_rfl) (fun _ _ _ h => h) (by rfl) hH ?_ ?_
  rotate_left
  · intro w hSw
    go_simp
    with_reducible rfl
  try simp only [List.getElem_toArray, List.getElem_cons_succ, List.getElem_cons_zero, Act.put, List.setIfInBounds_toArray, List.set_cons_zero, List.set_cons_succ]
  refine AnyZ.take (i := 3) (v := ?_) rfl (by kernel_rfl) (fun _ _ _ h => h) (by rfl) hH ?_ ?_
  rotate_left
  · intro w hSw
    go_simp
    with_reducible rfl
  try simp only [List.getElem_toArray, List.getElem_cons_succ, List.getElem_cons_zero, Act.put, List.setIfInBounds_toArray, List.set_cons_zero, List.set_cons_succ]
  refine AnyZ.take (i := 4) (v := ?_) rfl (by kernel_rfl) (fun _ _ _ h => h) (by rfl) hH ?_ ?_
  rotate_left
  · intro w hSw
    go_simp
    with_reducible rfl
  try simp only [List.getElem_toArray, List.getElem_cons_succ, List.getElem_cons_zero, Act.put, List.setIfInBounds_toArray, List.set_cons_zero, List.set_cons_succ]
  refine AnyZ.take (i := 6) (v := ?_) rfl (by kernel_rfl) (fun _ _ _ h => h) (by rfl) hH ?_ ?_
  rotate_left
  · intro w hSw
    go_simp
    with_reducible rfl
  try simp only [List.getElem_toArray, List.getElem_cons_succ, List.getElem_cons_zero, Act.put, List.setIfInBounds_toArray, List.set_cons_zero, List.set_cons_succ]
  refine AnyZ.take (i := 7) (v := ?_) rfl (by kernel_rfl) (fun _ _ _ h => h) (by rfl) hH ?_ ?_
  rotate_left
  · intro w hSw
    go_simp
    with_reducible rfl
  try simp only [List.getElem_toArray, List.getElem_cons_succ, List.getElem_cons_zero, Act.put, List.setIfInBounds_toArray, List.set_cons_zero, List.set_cons_succ]
  refine AnyZ.take (i := 8) (v := ?_) rfl (by kernel_rfl) (fun _ _ _ h => h) (by rfl) hH ?_ ?_
  rotate_left
  · intro w hSw
    go_simp
    with_reducible rfl
  try simp only [List.getElem_toArray, List.getElem_cons_succ, List.getElem_cons_zero, Act.put, List.setIfInBounds_toArray, List.set_cons_zero, List.set_cons_succ]
  refine AnyZ.take (i := 9) (v := ?_) rfl (by kernel_rfl) (fun _ _ _ h => h) (by rfl) hH ?_ ?_
  rotate_left
  · intro w hSw
    go_simp
    with_reducible rfl
  try simp only [List.getElem_toArray, List.getElem_cons_succ, List.getElem_cons_zero, Act.put, List.setIfInBounds_toArray, List.set_cons_zero, List.set_cons_succ]
  refine AnyZ.take (i := 10) (v := ?_) rfl (by kernel_rfl) (fun _ _ _ h => h) (by rfl) hH ?_ ?_
  rotate_left
  · intro w hSw
    go_simp
    with_reducible rfl
  try simp only [List.getElem_toArray, List.getElem_cons_succ, List.getElem_cons_zero, Act.put, List.setIfInBounds_toArray, List.set_cons_zero, List.set_cons_succ]
  refine AnyZ.one (i := 0) rfl (by kernel_rfl) rfl (fun K hK => ?_)
  go_simp
  have hbA := (Below.refl w4.heap.size w4).alloc (Nat.le_refl _) (.cells #[] 75)
  have hqA := heap_alloc_new w4 (.cells #[] 75)
  obtain ⟨ga, hga⟩ : ∃ ga, w4.heap.size = ga := ⟨_, rfl⟩
  have HGA : Hid (w4.heap.size ≤ ga) := Lib.hid (by omega)
  rw [hga] at hqA ⊢
  clear hga
  generalize w4.alloc (.cells #[] 75) = wA at *
  have hHA := HSF.out wA hbA
  refine hK.out _ _ (.inr hHA) ?_
  clear hK K
  refine AnyZ.one (i := 5) rfl (by kernel_rfl) rfl (fun K hK => ?_)
  obtain ⟨ao2, cp2, wB, hap, ho2, how2, hb2⟩ := app_fresh 67 _ _ Try.underlying67 infoDD rfl (by omega) hqA (OL.src ((HD4.out.bel hbA).l.take dC_len hil) Try.underlying67 (rowsC_ones dC_one _)) (by unfold maxLen; omega) (by omega)
  have hbB := hbA.trans (hb2.mono hbA.size)
  have hwB := grown_fresh HGA.out hbA.size how2
  refine wp_append_run (v := .slice (some ⟨ga, 0, none⟩) 0 0) (xv := .slice (some ⟨g, off, none⟩) i cl) (.tmp 13) (.tmp 17) 67 67 rfl (by rfl) (by rfl) hap ?_
  have hHB := HSF.out wB hbB
  refine hK.out _ _ (.inr hHB) ?_
  clear hK K hap how2
  refine AnyZ.one (i := 11) rfl (by kernel_rfl) rfl (fun K hK => ?_)
  obtain ⟨ao4, cp4, wC, hap, ho4, hg4, how4⟩ := ol_app 67 _ _ Try.underlying67 infoDD rfl (by omega) ho2 ((HD4.out.bel hbB).l.drop dC_len hml) (rowsC_ones dC_one _) (by omega) (by omega)
  have hbC : Below w4.heap.size w4 wC := hbB.grown hg4 hbB.size hwB
  have hwC := grown_own hwB hbB.size how4
  rw [HE.out, ← HL.out] at ho4
  rw [← HL.out] at hap hwC
  refine wp_append_run (v := .slice ao2 i cp2) (xv := .slice (if cl = m then some ⟨g, off, none⟩ else some ⟨g, off + m * 4, none⟩) (D.ls.length - m) (cl - m)) (.tmp 18) (.tmp 23) 67 67 rfl (by rfl) (by rfl) hap ?_
  have hHC := HSF.out wC hbC
  refine hK.out _ _ (.inr hHC) ?_
  clear hK K hap how4 hg4
  have O4 : Hid (RowsAt 75 4 dC wC (.slice ao4 (D.ls.eraseIdx i).length cp4) (D.ls.eraseIdx i)) := Lib.hid ho4
  have W4 := Lib.hid hwC
  have HBC := Lib.hid hbC
  clear ho4 hwC hwB hbB ho2 hb2 hHB hHA hqA hbA
  refine AnyZ.take (i := 12) (v := ?_) rfl (by kernel_rfl) (fun _ _ _ h => h) (by rfl) hHC ?_ ?_
  rotate_left
  · intro w hSw
    go_simp
    with_reducible rfl
  try simp only [List.getElem_toArray, List.getElem_cons_succ, List.getElem_cons_zero, Act.put, List.setIfInBounds_toArray, List.set_cons_zero, List.set_cons_succ]
  refine AnyZ.one (i := 13) rfl (by kernel_rfl) rfl (fun K hK => ?_)
  have zc := (HB4.out.bel HBC.out).get.2.2.2.2.2.2.2
  have fz := (HB4.out.bel HBC.out).free 7
  go_simp
  refine hK.out _ _ (.inl rfl) ?_
  clear hK K zc fz
  refine AnyZ.done (by kernel_rfl) ?_ _
  clear hH hHC
  have HST := Lib.hid ((HB4.out.bel HBC.out).set (q' := ⟨.slice au D.us.length cu, .slice af D.fs.length cf, .slice ac D.cs.length cc, .slice ae D.se.length ce, .slice ao4 (D.ls.eraseIdx i).length cp4⟩) (D' := { D with ls := D.ls.eraseIdx i }) 7 (.slice ao4 (D.ls.eraseIdx i).length cp4) rfl)
  have HD5 := Lib.hid (HST.out.2 _ _ _ ((HD4.out.bel HBC.out).setL O4.out fun k hk => ⟨.inr (by have := W4.out k hk; have := HB4.out.b.size; omega), fun e => by have := W4.out k hk; have := HL4.out; omega⟩) rfl)
  have HX5 := Lib.hid ((Below.heap_setCell wC ⟨bx, 7, none⟩ (.slice ao4 (D.ls.eraseIdx i).length cp4) dx (type_ne ((HBC.out.block _ (lt_of_block HX4.out)).trans HX4.out) (HB4.out.bel HBC.out).o (by decide))).trans ((HBC.out.block _ (lt_of_block HX4.out)).trans HX4.out))
  have HM5 := Lib.hid ((Below.heap_setCell wC ⟨bx, 7, none⟩ (.slice ao4 (D.ls.eraseIdx i).length cp4) xb (type_ne ((HBC.out.block _ (lt_of_block HM4.out)).trans HM4.out) (HB4.out.bel HBC.out).o (by decide))).trans ((HBC.out.block _ (lt_of_block HM4.out)).trans HM4.out))
  have HB5 := Lib.hid HST.out.1
  clear HST HB4 HD4 HX4 HM4 HBC O4 W4 HSF HGA HBX2 HL4
  generalize wC.setCell ⟨bx, 7, none⟩ (.slice ao4 (D.ls.eraseIdx i).length cp4) = w5 at *
  have x1 := HB5.out.get.2.1
  have f1 := HB5.out.free 1
  obtain ⟨⟨m0, m1, m2, m3⟩, _⟩ := get_row4 HM5.out
  obtain ⟨mx, hmx⟩ : ∃ mx, max D.present mt = mx := ⟨_, rfl⟩
  have HMX := Lib.hid hmx
  go_upto_region 5 with fail
  try simp only [hmx]
  clear hmx
  have HST := Lib.hid (HB5.out.set (q' := ⟨.slice au D.us.length cu, .slice af D.fs.length cf, .slice ac D.cs.length cc, .slice ae D.se.length ce, .slice ao4 (D.ls.eraseIdx i).length cp4⟩) (D' := { D with ls := D.ls.eraseIdx i, present := mx }) 1 (.int .i64 mx) rfl)
  have HD6 := Lib.hid (HST.out.2 _ _ _ (HD5.out.nums D.dflt mx D.lost) rfl)
  have HB6 := Lib.hid HST.out.1
  have HX6 := Lib.hid ((Below.heap_setCell w5 ⟨bx, 1, none⟩ (.int .i64 mx) dx (type_ne HX5.out HB5.out.o (by decide))).trans HX5.out)
  have HM6 := Lib.hid ((Below.heap_setCell w5 ⟨bx, 1, none⟩ (.int .i64 mx) xb (type_ne HM5.out HB5.out.o (by decide))).trans HM5.out)
  clear HST HB5 HD5 HX5 HM5 x1 f1 m0 m1 m2 m3
  generalize w5.setCell ⟨bx, 1, none⟩ (.int .i64 mx) = w6 at *
  have HSF : Hid (∀ wx, wx.heap[bx]? = w6.heap[bx]? → wx.heap[xb]? = w6.heap[xb]? → (fun wx : World => (wx.cell? ⟨bx, 0, none⟩ = some (.int .i64 D.dflt) ∧ wx.cell? ⟨bx, 1, none⟩ = some (.int .i64 mx) ∧ wx.cell? ⟨bx, 2, none⟩ = some (.int .i64 D.lost) ∧ wx.cell? ⟨bx, 3, none⟩ = some (.slice au D.us.length cu) ∧ wx.cell? ⟨bx, 4, none⟩ = some (.slice af D.fs.length cf) ∧ wx.cell? ⟨bx, 5, none⟩ = some (.slice ac D.cs.length cc) ∧ wx.cell? ⟨bx, 6, none⟩ = some (.slice ae D.se.length ce) ∧ wx.cell? ⟨bx, 7, none⟩ = some (.slice ao4 (D.ls.eraseIdx i).length cp4)) ∧ wx.cell? ⟨xb, 0, none⟩ = some (.int .i64 mt) ∧ wx.cell? ⟨xb, 1, none⟩ = some (.string ma) ∧ wx.cell? ⟨xb, 2, none⟩ = some (.string mb) ∧ wx.cell? ⟨xb, 3, none⟩ = some (.string md)) wx) := Lib.hid fun wx h1 h2 => ⟨(get_row8 (h1.trans HB6.out.o)).1, (get_row4 (h2.trans HM6.out)).1⟩
  have HRN : Hid (rx ≠ bx ∧ rx ≠ xb ∧ dx ≠ bx ∧ dx ≠ xb ∧ rx ≠ dx) := Lib.hid ⟨HB6.out.ne, type_ne HB6.out.r HM6.out (by decide), type_ne HX6.out HB6.out.o (by decide), HDX2.out, type_ne HB6.out.r HX6.out (by decide)⟩
  refine wp_region_held_drew (S := (fun wx : World => (wx.cell? ⟨bx, 0, none⟩ = some (.int .i64 D.dflt) ∧ wx.cell? ⟨bx, 1, none⟩ = some (.int .i64 mx) ∧ wx.cell? ⟨bx, 2, none⟩ = some (.int .i64 D.lost) ∧ wx.cell? ⟨bx, 3, none⟩ = some (.slice au D.us.length cu) ∧ wx.cell? ⟨bx, 4, none⟩ = some (.slice af D.fs.length cf) ∧ wx.cell? ⟨bx, 5, none⟩ = some (.slice ac D.cs.length cc) ∧ wx.cell? ⟨bx, 6, none⟩ = some (.slice ae D.se.length ce) ∧ wx.cell? ⟨bx, 7, none⟩ = some (.slice ao4 (D.ls.eraseIdx i).length cp4)) ∧ wx.cell? ⟨xb, 0, none⟩ = some (.int .i64 mt) ∧ wx.cell? ⟨xb, 1, none⟩ = some (.string ma) ∧ wx.cell? ⟨xb, 2, none⟩ = some (.string mb) ∧ wx.cell? ⟨xb, 3, none⟩ = some (.string md))) (by kernel_rfl) ((HSF.out w6 rfl rfl)) (fun hH => ?_)
  obtain ⟨w7, hw7⟩ : ∃ w7, w7 = w6.drew := ⟨_, rfl⟩
  have hbd : Below w6.heap.size w6 w7 := by rw [hw7]; exact below_drew _ _
  have HB7 := Lib.hid (HB6.out.bel hbd)
  have HD7 := Lib.hid (HD6.out.bel hbd)
  have HX7 := Lib.hid ((hbd.block _ (lt_of_block HX6.out)).trans HX6.out)
  have HM7 := Lib.hid ((hbd.block _ (lt_of_block HM6.out)).trans HM6.out)
  have HQ7 := Lib.hid (And.intro (HB7.out.o.trans HB6.out.o.symm) (HM7.out.trans HM6.out.symm))
  have HR : Hid (D.recv = { D with ls := D.ls.eraseIdx i, present := mx } ∧ D.ls.getD (bestD D.ls D.ls.length) dDL = ⟨mt, ma, mb, md⟩) := Lib.hid (by
    unfold DN.recv
    rw [HI.out]
    refine ⟨?_, HG.out⟩
    rw [HG.out]
    dsimp only
    rw [HMX.out])
  rw [← hw7] at hH ⊢
  clear hw7 hbd
  refine wpAnyH_take (i := 0) (v := ?_) rfl (by kernel_rfl) (by kernel_rfl) (by kernel_rfl) (fun _ _ _ h => h) (Or.inl ⟨by rfl, ?_⟩) hH ?_
  rotate_left
  · intro w hSw
    go_simp
    with_reducible rfl
  try simp only [List.getElem_toArray, List.getElem_cons_zero, Act.put, List.setIfInBounds_toArray, List.set_cons_zero, List.set_cons_succ]
  refine wpAnyH_take (i := 1) (v := ?_) rfl (by kernel_rfl) (by kernel_rfl) (by kernel_rfl) (fun _ _ _ h => h) (Or.inl ⟨by rfl, ?_⟩) hH ?_
  rotate_left
  · intro w hSw
    go_simp
    with_reducible rfl
  try simp only [List.getElem_toArray, List.getElem_cons_succ, List.getElem_cons_zero, Act.put, List.setIfInBounds_toArray, List.set_cons_zero, List.set_cons_succ]
  refine wpAnyH_ready (rs := [2]) (by kernel_rfl) (by simp) ?_
  refine AllReadyH.cons rfl (fun K hK => ?_) AllReadyH.nil
  refine wp_store_row 69 (.tmp 2) (.tmp 32) rfl rx (dnC ⟨.slice au D.us.length cu, .slice af D.fs.length cf, .slice ac D.cs.length cc, .slice ae D.se.length ce, .slice ao4 (D.ls.eraseIdx i).length cp4⟩ { D with ls := D.ls.eraseIdx i, present := mx }) (by rfl) (by rfl) 69 zN HB7.out.r infoN8 rfl dnC_one ?_
  refine hK.out _ _ (HSF.out _ ((setRow_other _ _ _ _ HRN.out.1.symm).trans HQ7.out.1) ((setRow_other _ _ _ _ HRN.out.2.1.symm).trans HQ7.out.2)) (fun hH8 => ?_)
  clear hK K
  refine wpAnyH_ready (rs := [3]) (by kernel_rfl) (by simp) ?_
  refine AllReadyH.cons rfl (fun K hK => ?_) AllReadyH.nil
  refine wp_store_row 75 (.tmp 3) (.tmp 33) rfl dx #[.int .i64 mt, .string ma, .string mb, .string md] (by rfl) (by rfl) 75 zD ((setRow_other _ _ _ _ HRN.out.2.2.2.2.symm).trans HX7.out) infoD4 rfl (by simp [Value.oneCell']) ?_
  refine hK.out _ _ (HSF.out _ ((setRow_other _ _ _ _ HRN.out.2.2.1.symm).trans ((setRow_other _ _ _ _ HRN.out.1.symm).trans HQ7.out.1)) ((setRow_other _ _ _ _ HRN.out.2.2.2.1.symm).trans ((setRow_other _ _ _ _ HRN.out.2.1.symm).trans HQ7.out.2))) (fun hH9 => ?_)
  clear hK K
  refine wpAnyH_done (by kernel_rfl) ?_ _
  clear hH hH8 hH9
  have HF := Lib.hid (fin2 (J := fun k => Kp k ∨ w.heap.size ≤ k) HB7.out HD7.out HX7.out HDXL.out (cs := #[.int .i64 mt, .string ma, .string mb, .string md]) (.inl rfl))
  repeat (first | go_values | go_skip | go_guarded | go_step | go_upon)
  try simp only [Exit.inBlock, Exit.then]
  refine bodyPost_ret (results_cells rfl _ _ rx dx 69 75 _ _ (0, 0) (0, 0) _ _ rfl HF.out.2.2.1 rfl HF.out.2.2.2 Try.underlying69 rfl infoN8 Try.underlying75 rfl infoD4) rfl ?_
  unfold RcvP
  rw [HR.out.1, HR.out.2]
  exact ⟨_, rfl, HF.out.1, HF.out.2.1⟩
end
end Go.Proofs.Ytkhiepjlfbjgdaa

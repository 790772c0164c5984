/- topology: the statement TopologyShorter: the walk. Conditions: the lines can be read. -/
import Derived.Test.YtpcapmialdmcaaaTpWk
import Derived.Test.YtpcapmialdmcaaaTpShP
import Derived.Test.YtpcapmialdmcaaaTpRu
namespace Go.Proofs.Ytpcapmialdmcaaa
open Go.RowKit Go.Maps

section
variable {w : World} {lo : Option Addr} {lc : Nat} {ls : List Ln}
theorem sh_link {w0 w : World} {K : Nat → Prop} {m : Nat} {ts tl : List ByteArray} {L : List TL} {a b : ByteArray} {t : Int} (h : TA w0 K m ts L w) (hts : ∀ x, x ∈ ts ↔ x ∈ tl) (hu : upT L a b t = false) (hl : LB L 40) (z : Int) : Calls Try.prog 19 #[.pointer (some ⟨m, 0, none⟩), .string a, .string b, .int .i64 z] w fun e w' => ∃ L2 ev, e = .returned ev ∧ (∀ i k q, lat L t i k = some q → lat L2 t i k = some q) ∧ LB L2 41 ∧ TA w0 K m ts L2 w' ∧ SameR K w w' :=
  (r_link h hts z).mono fun _ _ hp => ⟨_, _, hp.1, lat_conn hu z, hl.conn tl a b z, hp.2.1, hp.2.2.1⟩
theorem sh_down {w0 w : World} {K : Nat → Prop} {m : Nat} {ts : List ByteArray} {L : List TL} {a b : ByteArray} (h : TA w0 K m ts L w) (za : a.size ≤ 9223372036854775807) (zb : b.size ≤ 9223372036854775807) (hl : LB L 41) (f u : Int) : Calls Try.prog 20 #[.pointer (some ⟨m, 0, none⟩), .string a, .string b, .int .i64 f, .int .i64 u] w fun e w' => ∃ L3 ev, e = .returned ev ∧ (∀ t i k q, lat L3 t i k = some q → lat L t i k = some q) ∧ TA w0 K m ts L3 w' ∧ SameR K w w' :=
  (r_down h za zb (fun q hq => by have := hl.2 q hq; omega) f u).mono fun _ _ hp => ⟨_, _, hp.1, fun t => lat_down f u, hp.2.1, hp.2.2.1⟩
set_option maxRecDepth 100000 in
set_option maxHeartbeats 9600000 in
theorem shorter_walk (h : IsLn w (.slice lo ls.length lc) ls) (T : Int) (hT : 0 ≤ T ∧ T ≤ 255) (la lb : Int) (ld : Bool) (lx ly lt : Int) (hla : 0 ≤ la ∧ la ≤ 255) (hlb : 0 ≤ lb ∧ lb ≤ 255) (a b : Int) (hA : 0 ≤ a ∧ a ≤ 255) (hB : 0 ≤ b ∧ b ≤ 255) : Calls Try.prog 6 #[.agg #[.int .u8 T, .slice lo ls.length lc], .agg #[.int .u8 la, .int .u8 lb, .bool ld, .int .i64 lx, .int .i64 ly, .int .i64 lt], .agg #[.int .u8 a, .int .u8 b]] w (AwP w) := by
  have hW : ∀ wx, wx = ((w.alloc (.cells #[.int .u8 T, .slice lo ls.length lc] 24)).alloc (.cells #[.int .u8 la, .int .u8 lb, .bool ld, .int .i64 lx, .int .i64 ly, .int .i64 lt] 58)).alloc (.cells #[.int .u8 a, .int .u8 b] 59) → Below w.heap.size w wx ∧ wx.heap[w.heap.size]? = some (.cells #[.int .u8 T, .slice lo ls.length lc] 24 (0, 0)) ∧ wx.heap[w.heap.size + 1]? = some (.cells #[.int .u8 la, .int .u8 lb, .bool ld, .int .i64 lx, .int .i64 ly, .int .i64 lt] 58 (0, 0)) ∧ wx.heap[w.heap.size + 2]? = some (.cells #[.int .u8 a, .int .u8 b] 59 (0, 0)) := by
    rintro wx rfl
    have h1 := (Below.refl w.heap.size w).alloc (Nat.le_refl _) (.cells #[.int .u8 T, .slice lo ls.length lc] 24)
    have z1 := World.size_alloc w (.cells #[.int .u8 T, .slice lo ls.length lc] 24)
    have q1 := heap_alloc_new w (.cells #[.int .u8 T, .slice lo ls.length lc] 24)
    generalize w.alloc (.cells #[.int .u8 T, .slice lo ls.length lc] 24) = wA at *
    have h2 := (Below.refl wA.heap.size wA).alloc (Nat.le_refl _) (.cells #[.int .u8 la, .int .u8 lb, .bool ld, .int .i64 lx, .int .i64 ly, .int .i64 lt] 58)
    have z2 := World.size_alloc wA (.cells #[.int .u8 la, .int .u8 lb, .bool ld, .int .i64 lx, .int .i64 ly, .int .i64 lt] 58)
    have q2 := heap_alloc_new wA (.cells #[.int .u8 la, .int .u8 lb, .bool ld, .int .i64 lx, .int .i64 ly, .int .i64 lt] 58)
    generalize wA.alloc (.cells #[.int .u8 la, .int .u8 lb, .bool ld, .int .i64 lx, .int .i64 ly, .int .i64 lt] 58) = wB at *
    have h3 := (Below.refl wB.heap.size wB).alloc (Nat.le_refl _) (.cells #[.int .u8 a, .int .u8 b] 59)
    have q3 := heap_alloc_new wB (.cells #[.int .u8 a, .int .u8 b] 59)
    rw [z1] at q2
    rw [z2, z1] at q3
    exact ⟨h1.trans ((h2.trans (h3.mono (by omega))).mono (by omega)), (h3.block _ (by omega)).trans ((h2.block _ (by omega)).trans q1), (h3.block _ (by omega)).trans q2, q3⟩
  obtain ⟨hB1, hq1, hq2, hq3⟩ := hW _ rfl
  have HH := Lib.hid h
  have HB1 := Lib.hid hB1
  have HQ1 := Lib.hid hq1
  have HQL := Lib.hid hq2
  have HQE := Lib.hid hq3
  clear h hW hB1 hq1 hq2 hq3
  go_enter Try.func6, Try.ntmps6
  go_wp2_with fail
  generalize ((w.alloc (.cells #[.int .u8 T, .slice lo ls.length lc] 24)).alloc (.cells #[.int .u8 la, .int .u8 lb, .bool ld, .int .i64 lx, .int .i64 ly, .int .i64 lt] 58)).alloc (.cells #[.int .u8 a, .int .u8 b] 59) = w1 at *
  refine (awake_any w1).mono ?_
  rintro e w2 ⟨rfl, hb2⟩
  have HQ1 := Lib.hid ((hb2.block _ (lt_of_block HQ1.out)).trans HQ1.out)
  have HQL := Lib.hid ((hb2.block _ (lt_of_block HQL.out)).trans HQL.out)
  have HQE := Lib.hid ((hb2.block _ (lt_of_block HQE.out)).trans HQE.out)
  have HB2 := Lib.hid (HB1.out.trans (hb2.mono HB1.out.size))
  clear hb2 HB1
  have x0 := (has_cell HQ1.out 0).trans (show _ = some (Value.int .u8 T) from rfl)
  have x1 := (has_cell HQ1.out 1).trans (show _ = some (Value.slice lo ls.length lc) from rfl)
  go_wp2_with fail
  refine (small_any T lo ls.length lc w2).mono ?_
  rintro e w3 ⟨rfl, hb3⟩
  have HQ1 := Lib.hid ((hb3.block _ (lt_of_block HQ1.out)).trans HQ1.out)
  have HQL := Lib.hid ((hb3.block _ (lt_of_block HQL.out)).trans HQL.out)
  have HQE := Lib.hid ((hb3.block _ (lt_of_block HQE.out)).trans HQE.out)
  have HB3 := Lib.hid (HB2.out.trans (hb3.mono HB2.out.size))
  clear hb3 HB2 x0 x1
  by_cases hbig : 40 < ls.length
  · have d2 : decide ((ls.length : Int) ≤ 40) = false := decide_eq_false (by omega)
    clear hbig
    go_wp2_with fail
    refine (awake_any w3).mono ?_
    rintro e w4 ⟨rfl, hb4⟩
    have HP : Hid (AwP w (.returned (.bool true)) w4) := Lib.hid ⟨rfl, HB3.out.trans (hb4.mono HB3.out.size)⟩
    clear hb4
    go_wp2
    go_ret
    exact HP.out
  · have d2 : decide ((ls.length : Int) ≤ 40) = true := decide_eq_true (by omega)
    have hl40 : ls.length ≤ 40 := by omega
    clear hbig
    have x0 := (has_cell HQ1.out 0).trans (show _ = some (Value.int .u8 T) from rfl)
    have x1 := (has_cell HQ1.out 1).trans (show _ = some (Value.slice lo ls.length lc) from rfl)
    have CM := Lib.hid (made_any (w := w3) (by
      obtain ⟨ao, cap, e, h1, h2, h3⟩ := HH.out
      refine ⟨ao, cap, e, h1, h2, fun h0 => ?_⟩
      obtain ⟨b, off, e2, h4, h5⟩ := h3 h0
      exact ⟨b, off, e2, Nat.lt_of_lt_of_le h4 HB3.out.size, fun i hi c hc => (HB3.out.cell (p := ⟨b, off + i * 6 + c, none⟩) h4).trans (h5 i hi c hc)⟩) hl40 T hT)
    go_wp2_with fail
    refine CM.out.mono ?_
    rintro e w4 ⟨m, ts, L, tao, tc, rao, rc, KB, rfl, hts, hTA, hRA, _, hLB⟩
    generalize twL (T % 7) (T % 7 + 1).toNat = tl at *
    have HQL := Lib.hid ((hTA.be.block _ (lt_of_block HQL.out)).trans HQL.out)
    have HQE := Lib.hid ((hTA.be.block _ (lt_of_block HQE.out)).trans HQE.out)
    have HTS := Lib.hid hts
    have HLB := Lib.hid hLB
    have hb5 := (Below.refl w4.heap.size w4).alloc (Nat.le_refl _) (.cells #[.slice tao tl.length tc, .slice rao L.length rc] 31)
    have hq5 := heap_alloc_new w4 (.cells #[.slice tao tl.length tc, .slice rao L.length rc] 31)
    have HTA := Lib.hid ((hTA.from HB3.out).bel hb5)
    have HRL := Lib.hid (hRA.2.below hb5)
    have HDM := Lib.hid hq5
    have HQL := Lib.hid ((hb5.block _ (lt_of_block HQL.out)).trans HQL.out)
    have HQE := Lib.hid ((hb5.block _ (lt_of_block HQE.out)).trans HQE.out)
    clear hts hTA CM HB3 HQ1 HH x0 x1 hRA hLB hb5 hq5
    go_upto_region 6 with fail
    generalize w4.alloc (.cells #[.slice tao tl.length tc, .slice rao L.length rc] 31) = w5 at *
    generalize w4.heap.size = dm at *
    have HC1 := Lib.hid (fun wx => name_any a hA wx)
    have HC2 := Lib.hid (fun wx => name_any b hB wx)
    have HN1 := Lib.hid (fun wx => name_any la hla wx)
    have HN2 := Lib.hid (fun wx => name_any lb hlb wx)
    have HYA := Lib.hid (nmB_size la)
    have HYB := Lib.hid (nmB_size lb)
    have hH0 : w5.drew.cell? ⟨w.heap.size + 2, 0, none⟩ = some (.int .u8 a) ∧ w5.drew.cell? ⟨w.heap.size + 2, 1, none⟩ = some (.int .u8 b) := ⟨(has_cell HQE.out 0).trans rfl, (has_cell HQE.out 1).trans rfl⟩
    refine wp_region_held_drew (S := (fun w' : World => w'.cell? ⟨w.heap.size + 2, 0, none⟩ = some (.int .u8 a) ∧ w'.cell? ⟨w.heap.size + 2, 1, none⟩ = some (.int .u8 b))) (by kernel_rfl) (hH0) (fun hH => ?_)
    refine wpAnyH_take (i := 0) (v := ?_) rfl (by kernel_rfl) (by kernel_rfl) (by kernel_rfl) (fun _ _ _ h => h) (Or.inl ⟨by rfl, ?_⟩) hH ?_
    rotate_left
    · intro w hSw
      go_simp
      with_reducible rfl
    try simp only [List.getElem_toArray, List.getElem_cons_zero, Act.put, List.setIfInBounds_toArray, List.set_cons_zero, List.set_cons_succ]
    refine wpAnyH_take (i := 1) (v := ?_) rfl (by kernel_rfl) (by kernel_rfl) (by kernel_rfl) (fun _ _ _ h => h) (Or.inl ⟨by rfl, ?_⟩) hH ?_
    rotate_left
    · intro w hSw
      go_simp
      with_reducible rfl
    try simp only [List.getElem_toArray, List.getElem_cons_succ, List.getElem_cons_zero, Act.put, List.setIfInBounds_toArray, List.set_cons_zero, List.set_cons_succ]
    refine wpAnyH_take (i := 3) (v := ?_) rfl (by kernel_rfl) (by kernel_rfl) (by kernel_rfl) (fun _ _ _ h => h) (Or.inl ⟨by rfl, ?_⟩) hH ?_
    rotate_left
    · intro w hSw
      go_simp
      with_reducible rfl
    try simp only [List.getElem_toArray, List.getElem_cons_succ, List.getElem_cons_zero, Act.put, List.setIfInBounds_toArray, List.set_cons_zero, List.set_cons_succ]
    refine wpAnyH_take (i := 4) (v := ?_) rfl (by kernel_rfl) (by kernel_rfl) (by kernel_rfl) (fun _ _ _ h => h) (Or.inl ⟨by rfl, ?_⟩) hH ?_
    rotate_left
    · intro w hSw
      go_simp
      with_reducible rfl
    try simp only [List.getElem_toArray, List.getElem_cons_succ, List.getElem_cons_zero, Act.put, List.setIfInBounds_toArray, List.set_cons_zero, List.set_cons_succ]
    refine wpAnyH_ready (rs := [2]) (by kernel_rfl) (by simp) ?_
    refine AllReadyH.cons rfl (fun K hK => ?_) AllReadyH.nil
    go_simp
    refine (HC1.out _).mono ?_
    rintro e w6 ⟨rfl, hb6⟩
    go_simp
    have hb6 := (below_drew _ w5).trans hb6
    have HQE := Lib.hid ((hb6.block _ (lt_of_block HQE.out)).trans HQE.out)
    have HQL := Lib.hid ((hb6.block _ (lt_of_block HQL.out)).trans HQL.out)
    have HDM := Lib.hid ((hb6.block _ (lt_of_block HDM.out)).trans HDM.out)
    have HTA := Lib.hid (HTA.out.bel hb6)
    have HRL := Lib.hid (HRL.out.below hb6)
    refine hK.out _ _ ⟨(has_cell HQE.out 0).trans rfl, (has_cell HQE.out 1).trans rfl⟩ (fun hH3 => ?_)
    clear hK K hb6
    refine wpAnyH_ready (rs := [5]) (by kernel_rfl) (by simp) ?_
    refine AllReadyH.cons rfl (fun K hK => ?_) AllReadyH.nil
    go_simp
    refine (HC2.out _).mono ?_
    rintro e w7 ⟨rfl, hb7⟩
    go_simp
    have HQE := Lib.hid ((hb7.block _ (lt_of_block HQE.out)).trans HQE.out)
    have HQL := Lib.hid ((hb7.block _ (lt_of_block HQL.out)).trans HQL.out)
    have HDM := Lib.hid ((hb7.block _ (lt_of_block HDM.out)).trans HDM.out)
    have HTA := Lib.hid (HTA.out.bel hb7)
    have HRL := Lib.hid (HRL.out.below hb7)
    refine hK.out _ _ ⟨(has_cell HQE.out 0).trans rfl, (has_cell HQE.out 1).trans rfl⟩ (fun hH4 => ?_)
    clear hK K hb7
    refine wpAnyH_take (i := 6) (v := ?_) rfl (by kernel_rfl) (by kernel_rfl) (by kernel_rfl) (fun _ _ _ h => h) (Or.inl ⟨by rfl, ?_⟩) hH4 ?_
    rotate_left
    · intro w hSw
      go_simp
      with_reducible rfl
    try simp only [List.getElem_toArray, List.getElem_cons_succ, List.getElem_cons_zero, Act.put, List.setIfInBounds_toArray, List.set_cons_zero, List.set_cons_succ]
    refine wpAnyH_take (i := 7) (v := ?_) rfl (by kernel_rfl) (by kernel_rfl) (by kernel_rfl) (fun _ _ _ h => h) (Or.inl ⟨by rfl, ?_⟩) hH4 ?_
    rotate_left
    · intro w hSw
      go_simp
      with_reducible rfl
    try simp only [List.getElem_toArray, List.getElem_cons_succ, List.getElem_cons_zero, Act.put, List.setIfInBounds_toArray, List.set_cons_zero, List.set_cons_succ]
    refine wpAnyH_done (by kernel_rfl) ?_ _
    clear hH0 hH hH3 hH4 HC1 HC2 HQE
    generalize nmB a = xa at *
    generalize nmB b = xb at *
    generalize nmB la = ya at *
    generalize nmB lb = yb at *
    have CR := Lib.hid (t_route (a := xa) (b := xb) HTA.out lt)
    have x5 := (has_cell HQL.out 5).trans (show _ = some (Value.int .i64 lt) from rfl)
    go_wp2_with fail
    refine CR.out.mono ?_
    rintro e w8 ⟨vr, ⟨rl, rz⟩, code, rfl, _, hR, hTA, hbr⟩
    have HR1 := Lib.hid hR
    have HQL := Lib.hid ((hbr.block _ (lt_of_block HQL.out)).trans HQL.out)
    have HTA := Lib.hid hTA
    have HDM := Lib.hid ((hbr.block _ (lt_of_block HDM.out)).trans HDM.out)
    have HRL := Lib.hid (HRL.out.below hbr)
    clear hR hTA hbr CR x5
    go_upto_region 8 with fail
    have hH0 : w8.drew.cell? ⟨dm, 0, none⟩ = some (Value.slice tao tl.length tc) ∧ w8.drew.cell? ⟨dm, 1, none⟩ = some (Value.slice rao L.length rc) ∧ w8.drew.cell? ⟨w.heap.size + 1, 0, none⟩ = some (Value.int .u8 la) ∧ w8.drew.cell? ⟨w.heap.size + 1, 1, none⟩ = some (Value.int .u8 lb) ∧ w8.drew.cell? ⟨w.heap.size + 1, 5, none⟩ = some (Value.int .i64 lt) := ⟨(has_cell HDM.out 0).trans rfl, (has_cell HDM.out 1).trans rfl, (has_cell HQL.out 0).trans rfl, (has_cell HQL.out 1).trans rfl, (has_cell HQL.out 5).trans rfl⟩
    refine wp_region_held_drew (S := (fun w' : World => w'.cell? ⟨dm, 0, none⟩ = some (Value.slice tao tl.length tc) ∧ w'.cell? ⟨dm, 1, none⟩ = some (Value.slice rao L.length rc) ∧ w'.cell? ⟨w.heap.size + 1, 0, none⟩ = some (Value.int .u8 la) ∧ w'.cell? ⟨w.heap.size + 1, 1, none⟩ = some (Value.int .u8 lb) ∧ w'.cell? ⟨w.heap.size + 1, 5, none⟩ = some (Value.int .i64 lt))) (by kernel_rfl) (hH0) (fun hH => ?_)
    refine wpAnyH_take (i := 0) (v := ?_) rfl (by kernel_rfl) (by kernel_rfl) (by kernel_rfl) (fun _ _ _ h => h) (Or.inl ⟨by rfl, ?_⟩) hH ?_
    rotate_left
    · intro w hSw
      go_simp
      with_reducible rfl
    try simp only [List.getElem_toArray, List.getElem_cons_zero, Act.put, List.setIfInBounds_toArray, List.set_cons_zero, List.set_cons_succ]
    refine wpAnyH_take (i := 1) (v := ?_) rfl (by kernel_rfl) (by kernel_rfl) (by kernel_rfl) (fun _ _ _ h => h) (Or.inl ⟨by rfl, ?_⟩) hH ?_
    rotate_left
    · intro w hSw
      go_simp
      with_reducible rfl
    try simp only [List.getElem_toArray, List.getElem_cons_succ, List.getElem_cons_zero, Act.put, List.setIfInBounds_toArray, List.set_cons_zero, List.set_cons_succ]
    refine wpAnyH_take (i := 2) (v := ?_) rfl (by kernel_rfl) (by kernel_rfl) (by kernel_rfl) (fun _ _ _ h => h) (Or.inl ⟨by rfl, ?_⟩) hH ?_
    rotate_left
    · intro w hSw
      go_simp
      with_reducible rfl
    try simp only [List.getElem_toArray, List.getElem_cons_succ, List.getElem_cons_zero, Act.put, List.setIfInBounds_toArray, List.set_cons_zero, List.set_cons_succ]
    refine wpAnyH_take (i := 4) (v := ?_) rfl (by kernel_rfl) (by kernel_rfl) (by kernel_rfl) (fun _ _ _ h => h) (Or.inl ⟨by rfl, ?_⟩) hH ?_
    rotate_left
    · intro w hSw
      go_simp
      with_reducible rfl
    try simp only [List.getElem_toArray, List.getElem_cons_succ, List.getElem_cons_zero, Act.put, List.setIfInBounds_toArray, List.set_cons_zero, List.set_cons_succ]
    refine wpAnyH_take (i := 5) (v := ?_) rfl (by kernel_rfl) (by kernel_rfl) (by kernel_rfl) (fun _ _ _ h => h) (Or.inl ⟨by rfl, ?_⟩) hH ?_
    rotate_left
    · intro w hSw
      go_simp
      with_reducible rfl
    try simp only [List.getElem_toArray, List.getElem_cons_succ, List.getElem_cons_zero, Act.put, List.setIfInBounds_toArray, List.set_cons_zero, List.set_cons_succ]
    refine wpAnyH_take (i := 7) (v := ?_) rfl (by kernel_rfl) (by kernel_rfl) (by kernel_rfl) (fun _ _ _ h => h) (Or.inl ⟨by rfl, ?_⟩) hH ?_
    rotate_left
    · intro w hSw
      go_simp
      with_reducible rfl
    try simp only [List.getElem_toArray, List.getElem_cons_succ, List.getElem_cons_zero, Act.put, List.setIfInBounds_toArray, List.set_cons_zero, List.set_cons_succ]
    refine wpAnyH_take (i := 8) (v := ?_) rfl (by kernel_rfl) (by kernel_rfl) (by kernel_rfl) (fun _ _ _ h => h) (Or.inl ⟨by rfl, ?_⟩) hH ?_
    rotate_left
    · intro w hSw
      go_simp
      with_reducible rfl
    try simp only [List.getElem_toArray, List.getElem_cons_succ, List.getElem_cons_zero, Act.put, List.setIfInBounds_toArray, List.set_cons_zero, List.set_cons_succ]
    refine wpAnyH_ready (rs := [3]) (by kernel_rfl) (by simp) ?_
    refine AllReadyH.cons rfl (fun K hK => ?_) AllReadyH.nil
    go_simp
    refine (HN1.out _).mono ?_
    rintro e wn0u ⟨rfl, hbn⟩
    go_simp
    have hbn := (below_drew _ w8).trans hbn
    have HQL := Lib.hid ((hbn.block _ (lt_of_block HQL.out)).trans HQL.out)
    have HTA := Lib.hid (HTA.out.bel hbn)
    have HDM := Lib.hid ((hbn.block _ (lt_of_block HDM.out)).trans HDM.out)
    have HRL := Lib.hid (HRL.out.below hbn)
    refine hK.out _ _ ⟨(has_cell HDM.out 0).trans rfl, (has_cell HDM.out 1).trans rfl, (has_cell HQL.out 0).trans rfl, (has_cell HQL.out 1).trans rfl, (has_cell HQL.out 5).trans rfl⟩ (fun hH3 => ?_)
    clear hK K hbn
    refine wpAnyH_ready (rs := [6]) (by kernel_rfl) (by simp) ?_
    refine AllReadyH.cons rfl (fun K hK => ?_) AllReadyH.nil
    go_simp
    refine (HN2.out _).mono ?_
    rintro e wn1u ⟨rfl, hbn⟩
    go_simp
    have HQL := Lib.hid ((hbn.block _ (lt_of_block HQL.out)).trans HQL.out)
    have HTA := Lib.hid (HTA.out.bel hbn)
    have HDM := Lib.hid ((hbn.block _ (lt_of_block HDM.out)).trans HDM.out)
    have HRL := Lib.hid (HRL.out.below hbn)
    refine hK.out _ _ ⟨(has_cell HDM.out 0).trans rfl, (has_cell HDM.out 1).trans rfl, (has_cell HQL.out 0).trans rfl, (has_cell HQL.out 1).trans rfl, (has_cell HQL.out 5).trans rfl⟩ (fun hH4 => ?_)
    clear hK K hbn
    refine wpAnyH_ready (rs := [9]) (by kernel_rfl) (by simp) ?_
    refine AllReadyH.cons rfl (fun K hK => ?_) AllReadyH.nil
    go_simp
    refine (rup_any (a := ya) (b := yb) HRL.out lt).mono ?_
    rintro e w9 ⟨rfl, hb9⟩
    go_simp
    have HQL := Lib.hid ((hb9.block _ (lt_of_block HQL.out)).trans HQL.out)
    have HDM := Lib.hid ((hb9.block _ (lt_of_block HDM.out)).trans HDM.out)
    have HTA := Lib.hid (HTA.out.bel hb9)
    refine hK.out _ _ ⟨(has_cell HDM.out 0).trans rfl, (has_cell HDM.out 1).trans rfl, (has_cell HQL.out 0).trans rfl, (has_cell HQL.out 1).trans rfl, (has_cell HQL.out 5).trans rfl⟩ (fun hH5 => ?_)
    clear hK K hb9 HRL
    refine wpAnyH_take (i := 10) (v := ?_) rfl (by kernel_rfl) (by kernel_rfl) (by kernel_rfl) (fun _ _ _ h => h) (Or.inl ⟨by rfl, ?_⟩) hH5 ?_
    rotate_left
    · intro w hSw
      go_simp
      with_reducible rfl
    try simp only [List.getElem_toArray, List.getElem_cons_succ, List.getElem_cons_zero, Act.put, List.setIfInBounds_toArray, List.set_cons_zero, List.set_cons_succ]
    refine wpAnyH_done (by kernel_rfl) ?_ _
    clear hH0 hH hH3 hH4 hH5 HDM
    cases hu : upT L ya yb lt
    · have HMC := Lib.hid (fun z => lat_conn (ts := tl) hu z)
      go_upto_region 9 with fail
      have hH0 : w9.drew.cell? ⟨w.heap.size + 1, 0, none⟩ = some (Value.int .u8 la) ∧ w9.drew.cell? ⟨w.heap.size + 1, 1, none⟩ = some (Value.int .u8 lb) ∧ w9.drew.cell? ⟨w.heap.size + 1, 3, none⟩ = some (Value.int .i64 lx) := ⟨(has_cell HQL.out 0).trans rfl, (has_cell HQL.out 1).trans rfl, (has_cell HQL.out 3).trans rfl⟩
      refine wp_region_held_drew (S := (fun w' : World => w'.cell? ⟨w.heap.size + 1, 0, none⟩ = some (Value.int .u8 la) ∧ w'.cell? ⟨w.heap.size + 1, 1, none⟩ = some (Value.int .u8 lb) ∧ w'.cell? ⟨w.heap.size + 1, 3, none⟩ = some (Value.int .i64 lx))) (by kernel_rfl) (hH0) (fun hH => ?_)
      refine wpAnyH_take (i := 0) (v := ?_) rfl (by kernel_rfl) (by kernel_rfl) (by kernel_rfl) (fun _ _ _ h => h) (Or.inl ⟨by rfl, ?_⟩) hH ?_
      rotate_left
      · intro w hSw
        go_simp
        with_reducible rfl
      try simp only [List.getElem_toArray, List.getElem_cons_zero, Act.put, List.setIfInBounds_toArray, List.set_cons_zero, List.set_cons_succ]
      refine wpAnyH_take (i := 1) (v := ?_) rfl (by kernel_rfl) (by kernel_rfl) (by kernel_rfl) (fun _ _ _ h => h) (Or.inl ⟨by rfl, ?_⟩) hH ?_
      rotate_left
      · intro w hSw
        go_simp
        with_reducible rfl
      try simp only [List.getElem_toArray, List.getElem_cons_succ, List.getElem_cons_zero, Act.put, List.setIfInBounds_toArray, List.set_cons_zero, List.set_cons_succ]
      refine wpAnyH_take (i := 2) (v := ?_) rfl (by kernel_rfl) (by kernel_rfl) (by kernel_rfl) (fun _ _ _ h => h) (Or.inl ⟨by rfl, ?_⟩) hH ?_
      rotate_left
      · intro w hSw
        go_simp
        with_reducible rfl
      try simp only [List.getElem_toArray, List.getElem_cons_succ, List.getElem_cons_zero, Act.put, List.setIfInBounds_toArray, List.set_cons_zero, List.set_cons_succ]
      refine wpAnyH_take (i := 4) (v := ?_) rfl (by kernel_rfl) (by kernel_rfl) (by kernel_rfl) (fun _ _ _ h => h) (Or.inl ⟨by rfl, ?_⟩) hH ?_
      rotate_left
      · intro w hSw
        go_simp
        with_reducible rfl
      try simp only [List.getElem_toArray, List.getElem_cons_succ, List.getElem_cons_zero, Act.put, List.setIfInBounds_toArray, List.set_cons_zero, List.set_cons_succ]
      refine wpAnyH_take (i := 5) (v := ?_) rfl (by kernel_rfl) (by kernel_rfl) (by kernel_rfl) (fun _ _ _ h => h) (Or.inl ⟨by rfl, ?_⟩) hH ?_
      rotate_left
      · intro w hSw
        go_simp
        with_reducible rfl
      try simp only [List.getElem_toArray, List.getElem_cons_succ, List.getElem_cons_zero, Act.put, List.setIfInBounds_toArray, List.set_cons_zero, List.set_cons_succ]
      refine wpAnyH_take (i := 7) (v := ?_) rfl (by kernel_rfl) (by kernel_rfl) (by kernel_rfl) (fun _ _ _ h => h) (Or.inl ⟨by rfl, ?_⟩) hH ?_
      rotate_left
      · intro w hSw
        go_simp
        with_reducible rfl
      try simp only [List.getElem_toArray, List.getElem_cons_succ, List.getElem_cons_zero, Act.put, List.setIfInBounds_toArray, List.set_cons_zero, List.set_cons_succ]
      refine wpAnyH_take (i := 8) (v := ?_) rfl (by kernel_rfl) (by kernel_rfl) (by kernel_rfl) (fun _ _ _ h => h) (Or.inl ⟨by rfl, ?_⟩) hH ?_
      rotate_left
      · intro w hSw
        go_simp
        with_reducible rfl
      try simp only [List.getElem_toArray, List.getElem_cons_succ, List.getElem_cons_zero, Act.put, List.setIfInBounds_toArray, List.set_cons_zero, List.set_cons_succ]
      refine wpAnyH_take (i := 9) (v := ?_) rfl (by kernel_rfl) (by kernel_rfl) (by kernel_rfl) (fun _ _ _ h => h) (Or.inl ⟨by rfl, ?_⟩) hH ?_
      rotate_left
      · intro w hSw
        go_simp
        with_reducible rfl
      try simp only [List.getElem_toArray, List.getElem_cons_succ, List.getElem_cons_zero, Act.put, List.setIfInBounds_toArray, List.set_cons_zero, List.set_cons_succ]
      refine wpAnyH_take (i := 10) (v := ?_) rfl (by kernel_rfl) (by kernel_rfl) (by kernel_rfl) (fun _ _ _ h => h) (Or.inl ⟨by rfl, ?_⟩) hH ?_
      rotate_left
      · intro w hSw
        go_simp
        with_reducible rfl
      try simp only [List.getElem_toArray, List.getElem_cons_succ, List.getElem_cons_zero, Act.put, List.setIfInBounds_toArray, List.set_cons_zero, List.set_cons_succ]
      refine wpAnyH_ready (rs := [3]) (by kernel_rfl) (by simp) ?_
      refine AllReadyH.cons rfl (fun K hK => ?_) AllReadyH.nil
      go_simp
      refine (HN1.out _).mono ?_
      rintro e wn0l ⟨rfl, hbn⟩
      go_simp
      have hbn := (below_drew _ w9).trans hbn
      have HQL := Lib.hid ((hbn.block _ (lt_of_block HQL.out)).trans HQL.out)
      have HTA := Lib.hid (HTA.out.bel hbn)
      refine hK.out _ _ ⟨(has_cell HQL.out 0).trans rfl, (has_cell HQL.out 1).trans rfl, (has_cell HQL.out 3).trans rfl⟩ (fun hH3 => ?_)
      clear hK K hbn
      refine wpAnyH_ready (rs := [6]) (by kernel_rfl) (by simp) ?_
      refine AllReadyH.cons rfl (fun K hK => ?_) AllReadyH.nil
      go_simp
      refine (HN2.out _).mono ?_
      rintro e wn1l ⟨rfl, hbn⟩
      go_simp
      have HQL := Lib.hid ((hbn.block _ (lt_of_block HQL.out)).trans HQL.out)
      have HTA := Lib.hid (HTA.out.bel hbn)
      refine hK.out _ _ ⟨(has_cell HQL.out 0).trans rfl, (has_cell HQL.out 1).trans rfl, (has_cell HQL.out 3).trans rfl⟩ (fun hH4 => ?_)
      clear hK K hbn
      refine wpAnyH_ready (rs := [11]) (by kernel_rfl) (by simp) ?_
      refine AllReadyH.cons rfl (fun K hK => ?_) AllReadyH.nil
      go_simp
      refine (sh_link (a := ya) (b := yb) HTA.out HTS.out hu HLB.out _).mono ?_
      rintro e w10 ⟨L2, ev2, rfl, hM2, hLB2, hTA, hSR⟩
      go_simp
      have HQL := Lib.hid ((hSR.2 _ _ _ _ (by kernel_rfl) HQL.out).trans HQL.out)
      have HTA := Lib.hid hTA
      have HM2 := Lib.hid hM2
      have HLB := Lib.hid hLB2
      refine hK.out _ _ ⟨(has_cell HQL.out 0).trans rfl, (has_cell HQL.out 1).trans rfl, (has_cell HQL.out 3).trans rfl⟩ (fun hH5 => ?_)
      clear hK K hTA hSR hM2 hLB2 hH0 hH hH3 hH4
      refine wpAnyH_done (by kernel_rfl) ?_ _
      clear hH5
      have CR := Lib.hid (t_route (a := xa) (b := xb) HTA.out lt)
      have x5 := (has_cell HQL.out 5).trans (show _ = some (Value.int .i64 lt) from rfl)
      go_wp2_with fail
      refine CR.out.mono ?_
      rintro e wfn ⟨vs, ⟨sl, sz⟩, f, rfl, _, hR, hTA, hbr⟩
      have HR2 := Lib.hid hR
      have HQL := Lib.hid ((hbr.block _ (lt_of_block HQL.out)).trans HQL.out)
      have HTA := Lib.hid hTA
      clear hR hTA hbr CR x5
      go_upto_region 11 with fail
      have hH0 : wfn.drew.cell? ⟨w.heap.size + 1, 0, none⟩ = some (Value.int .u8 la) ∧ wfn.drew.cell? ⟨w.heap.size + 1, 1, none⟩ = some (Value.int .u8 lb) := ⟨(has_cell HQL.out 0).trans rfl, (has_cell HQL.out 1).trans rfl⟩
      refine wp_region_held_drew (S := (fun w' : World => w'.cell? ⟨w.heap.size + 1, 0, none⟩ = some (Value.int .u8 la) ∧ w'.cell? ⟨w.heap.size + 1, 1, none⟩ = some (Value.int .u8 lb))) (by kernel_rfl) (hH0) (fun hH => ?_)
      refine wpAnyH_take (i := 0) (v := ?_) rfl (by kernel_rfl) (by kernel_rfl) (by kernel_rfl) (fun _ _ _ h => h) (Or.inl ⟨by rfl, ?_⟩) hH ?_
      rotate_left
      · intro w hSw
        go_simp
        with_reducible rfl
      try simp only [List.getElem_toArray, List.getElem_cons_zero, Act.put, List.setIfInBounds_toArray, List.set_cons_zero, List.set_cons_succ]
      refine wpAnyH_take (i := 1) (v := ?_) rfl (by kernel_rfl) (by kernel_rfl) (by kernel_rfl) (fun _ _ _ h => h) (Or.inl ⟨by rfl, ?_⟩) hH ?_
      rotate_left
      · intro w hSw
        go_simp
        with_reducible rfl
      try simp only [List.getElem_toArray, List.getElem_cons_succ, List.getElem_cons_zero, Act.put, List.setIfInBounds_toArray, List.set_cons_zero, List.set_cons_succ]
      refine wpAnyH_take (i := 2) (v := ?_) rfl (by kernel_rfl) (by kernel_rfl) (by kernel_rfl) (fun _ _ _ h => h) (Or.inl ⟨by rfl, ?_⟩) hH ?_
      rotate_left
      · intro w hSw
        go_simp
        with_reducible rfl
      try simp only [List.getElem_toArray, List.getElem_cons_succ, List.getElem_cons_zero, Act.put, List.setIfInBounds_toArray, List.set_cons_zero, List.set_cons_succ]
      refine wpAnyH_take (i := 4) (v := ?_) rfl (by kernel_rfl) (by kernel_rfl) (by kernel_rfl) (fun _ _ _ h => h) (Or.inl ⟨by rfl, ?_⟩) hH ?_
      rotate_left
      · intro w hSw
        go_simp
        with_reducible rfl
      try simp only [List.getElem_toArray, List.getElem_cons_succ, List.getElem_cons_zero, Act.put, List.setIfInBounds_toArray, List.set_cons_zero, List.set_cons_succ]
      refine wpAnyH_take (i := 5) (v := ?_) rfl (by kernel_rfl) (by kernel_rfl) (by kernel_rfl) (fun _ _ _ h => h) (Or.inl ⟨by rfl, ?_⟩) hH ?_
      rotate_left
      · intro w hSw
        go_simp
        with_reducible rfl
      try simp only [List.getElem_toArray, List.getElem_cons_succ, List.getElem_cons_zero, Act.put, List.setIfInBounds_toArray, List.set_cons_zero, List.set_cons_succ]
      refine wpAnyH_ready (rs := [3]) (by kernel_rfl) (by simp) ?_
      refine AllReadyH.cons rfl (fun K hK => ?_) AllReadyH.nil
      go_simp
      refine (HN1.out _).mono ?_
      rintro e wn0dn ⟨rfl, hbn⟩
      go_simp
      have hbn := (below_drew _ wfn).trans hbn
      have HQL := Lib.hid ((hbn.block _ (lt_of_block HQL.out)).trans HQL.out)
      have HTA := Lib.hid (HTA.out.bel hbn)
      refine hK.out _ _ ⟨(has_cell HQL.out 0).trans rfl, (has_cell HQL.out 1).trans rfl⟩ (fun hH3 => ?_)
      clear hK K hbn
      refine wpAnyH_ready (rs := [6]) (by kernel_rfl) (by simp) ?_
      refine AllReadyH.cons rfl (fun K hK => ?_) AllReadyH.nil
      go_simp
      refine (HN2.out _).mono ?_
      rintro e wn1dn ⟨rfl, hbn⟩
      go_simp
      have HQL := Lib.hid ((hbn.block _ (lt_of_block HQL.out)).trans HQL.out)
      have HTA := Lib.hid (HTA.out.bel hbn)
      refine hK.out _ _ ⟨(has_cell HQL.out 0).trans rfl, (has_cell HQL.out 1).trans rfl⟩ (fun hH4 => ?_)
      clear hK K hbn
      refine wpAnyH_ready (rs := [7]) (by kernel_rfl) (by simp) ?_
      refine AllReadyH.cons rfl (fun K hK => ?_) AllReadyH.nil
      go_simp
      refine (sh_down (a := ya) (b := yb) HTA.out HYA.out HYB.out HLB.out 0 1099511627776).mono ?_
      rintro e wen ⟨L3, ev3, rfl, hMO, hTA, hSR⟩
      go_simp
      have HQL := Lib.hid ((hSR.2 _ _ _ _ (by kernel_rfl) HQL.out).trans HQL.out)
      have HTA := Lib.hid hTA
      have HMO := Lib.hid hMO
      refine hK.out _ _ ⟨(has_cell HQL.out 0).trans rfl, (has_cell HQL.out 1).trans rfl⟩ (fun hH7 => ?_)
      clear hK K hTA hSR hMO hH0 hH hH3 hH4
      refine wpAnyH_done (by kernel_rfl) ?_ _
      clear hH7
      have CR := Lib.hid (t_route (a := xa) (b := xb) HTA.out (max 0 (min lt 1099511627775)))
      have x5 := (has_cell HQL.out 5).trans (show _ = some (Value.int .i64 lt) from rfl)
      go_wp2_with fail
      refine (clipB_any lt 0 1099511627775 _).mono ?_
      rintro e wz ⟨rfl, hw⟩
      subst hw
      go_wp2_with fail
      refine CR.out.mono ?_
      rintro e wgn ⟨vu, ⟨ul, uz⟩, g, rfl, _, hR, hTA, hbr⟩
      have HR3 := Lib.hid hR
      have HQL := Lib.hid ((hbr.block _ (lt_of_block HQL.out)).trans HQL.out)
      have HTA := Lib.hid hTA
      clear hR hTA hbr CR x5
      have CR := Lib.hid (t_route (a := xa) (b := xb) HTA.out lt)
      have x5 := (has_cell HQL.out 5).trans (show _ = some (Value.int .i64 lt) from rfl)
      go_wp2_with fail
      refine CR.out.mono ?_
      rintro e whn ⟨vv, ⟨vl, vz⟩, h, rfl, _, hR, hTA, hbr⟩
      have HR4 := Lib.hid hR
      have HQL := Lib.hid ((hbr.block _ (lt_of_block HQL.out)).trans HQL.out)
      have HTA := Lib.hid hTA
      clear hR hTA hbr CR x5
      have HA := Lib.hid (fun (e0 : code = 0) => (show f = 0 ∧ sz ≤ rz from RouteR.emono HM2.out (by have := HR1.out; rwa [e0] at this) HR2.out))
      have HB := Lib.hid (fun (e0 : h = 0) => (show f = 0 ∧ sz ≤ vz from RouteR.emono (HMO.out lt) (by have := HR4.out; rwa [e0] at this) HR2.out))
      have HC := Lib.hid (fun (ht : clipT lt < 1099511627776) => (show g = h ∧ uz = vz from by
        obtain ⟨e1, e2⟩ := RouteR.time (by unfold clipT at *; omega) HR3.out HR4.out
        exact ⟨e1, by rw [Prod.mk.injEq] at e2; exact e2.2⟩))
      have HP : Hid (AwP w (.returned (.bool true)) whn) := Lib.hid ⟨rfl, HTA.out.be⟩
      have x5 := (has_cell HQL.out 5).trans (show _ = some (Value.int .i64 lt) from rfl)
      clear HR1 HR2 HR3 HR4 HMO HM2 HQL HTA HYA HYB HLB HN1 HN2 HTS
      by_cases e0 : code = 0
      · obtain ⟨f0, hle⟩ := HA.out e0
        subst e0
        subst f0
        rw [errV0]
        have d7 : decide (rz < sz) = false := decide_eq_false (by omega)
        clear hle
        go_wp2_with fail
        refine (time_any lt _).mono ?_
        rintro e wz ⟨rfl, hw⟩
        subst hw
        generalize clipT lt = ct at *
        by_cases ht : ct < 1099511627776
        · obtain ⟨e1, e2⟩ := HC.out ht
          rw [e1, e2]
          clear e1 e2
          have dt : decide (ct < 1099511627776) = true := decide_eq_true ht
          have hk2 : (h == h) = true := by simp
          have hk3 : (h != h) = false := by simp
          have hk5 : (vz != vz) = false := by simp
          go_wp2_with fail
          refine (num_any h _).mono ?_
          rintro e wz ⟨rfl, hw⟩
          subst hw
          go_wp2_with fail
          refine (num_any h _).mono ?_
          rintro e wz ⟨rfl, hw⟩
          subst hw
          go_upto_region 18 with fail
          by_cases h0 : h = 0
          · obtain ⟨f0, hle⟩ := HB.out h0
            subst h0
            (try subst f0)
            (try rw [errV0])
            have d9 : decide (sz ≤ vz) = true := decide_eq_true hle
            clear hle
            go_wp2_with fail
            go_ret
            exact HP.out
          · rw [errV_pos h0]
            go_wp2_with fail
            go_ret
            exact HP.out
        · have dt : decide (ct < 1099511627776) = false := decide_eq_false ht
          go_upto_region 18 with fail
          by_cases h0 : h = 0
          · obtain ⟨f0, hle⟩ := HB.out h0
            subst h0
            (try subst f0)
            (try rw [errV0])
            have d9 : decide (sz ≤ vz) = true := decide_eq_true hle
            clear hle
            go_wp2_with fail
            go_ret
            exact HP.out
          · rw [errV_pos h0]
            go_wp2_with fail
            go_ret
            exact HP.out
      · rw [errV_pos e0]
        go_wp2_with fail
        refine (time_any lt _).mono ?_
        rintro e wz ⟨rfl, hw⟩
        subst hw
        generalize clipT lt = ct at *
        by_cases ht : ct < 1099511627776
        · obtain ⟨e1, e2⟩ := HC.out ht
          rw [e1, e2]
          clear e1 e2
          have dt : decide (ct < 1099511627776) = true := decide_eq_true ht
          have hk2 : (h == h) = true := by simp
          have hk3 : (h != h) = false := by simp
          have hk5 : (vz != vz) = false := by simp
          go_wp2_with fail
          refine (num_any h _).mono ?_
          rintro e wz ⟨rfl, hw⟩
          subst hw
          go_wp2_with fail
          refine (num_any h _).mono ?_
          rintro e wz ⟨rfl, hw⟩
          subst hw
          go_upto_region 18 with fail
          by_cases h0 : h = 0
          · obtain ⟨f0, hle⟩ := HB.out h0
            subst h0
            (try subst f0)
            (try rw [errV0])
            have d9 : decide (sz ≤ vz) = true := decide_eq_true hle
            clear hle
            go_wp2_with fail
            go_ret
            exact HP.out
          · rw [errV_pos h0]
            go_wp2_with fail
            go_ret
            exact HP.out
        · have dt : decide (ct < 1099511627776) = false := decide_eq_false ht
          go_upto_region 18 with fail
          by_cases h0 : h = 0
          · obtain ⟨f0, hle⟩ := HB.out h0
            subst h0
            (try subst f0)
            (try rw [errV0])
            have d9 : decide (sz ≤ vz) = true := decide_eq_true hle
            clear hle
            go_wp2_with fail
            go_ret
            exact HP.out
          · rw [errV_pos h0]
            go_wp2_with fail
            go_ret
            exact HP.out
    · have HM2 := Lib.hid (fun (i k : ByteArray) (q : Int) (hx : lat L lt i k = some q) => hx)
      have HLB := Lib.hid (HLB.out.up (show 40 ≤ 41 by omega))
      have CR := Lib.hid (t_route (a := xa) (b := xb) HTA.out lt)
      have x5 := (has_cell HQL.out 5).trans (show _ = some (Value.int .i64 lt) from rfl)
      go_wp2_with fail
      refine CR.out.mono ?_
      rintro e wfy ⟨vs, ⟨sl, sz⟩, f, rfl, _, hR, hTA, hbr⟩
      have HR2 := Lib.hid hR
      have HQL := Lib.hid ((hbr.block _ (lt_of_block HQL.out)).trans HQL.out)
      have HTA := Lib.hid hTA
      clear hR hTA hbr CR x5
      go_upto_region 11 with fail
      have hH0 : wfy.drew.cell? ⟨w.heap.size + 1, 0, none⟩ = some (Value.int .u8 la) ∧ wfy.drew.cell? ⟨w.heap.size + 1, 1, none⟩ = some (Value.int .u8 lb) := ⟨(has_cell HQL.out 0).trans rfl, (has_cell HQL.out 1).trans rfl⟩
      refine wp_region_held_drew (S := (fun w' : World => w'.cell? ⟨w.heap.size + 1, 0, none⟩ = some (Value.int .u8 la) ∧ w'.cell? ⟨w.heap.size + 1, 1, none⟩ = some (Value.int .u8 lb))) (by kernel_rfl) (hH0) (fun hH => ?_)
      refine wpAnyH_take (i := 0) (v := ?_) rfl (by kernel_rfl) (by kernel_rfl) (by kernel_rfl) (fun _ _ _ h => h) (Or.inl ⟨by rfl, ?_⟩) hH ?_
      rotate_left
      · intro w hSw
        go_simp
        with_reducible rfl
      try simp only [List.getElem_toArray, List.getElem_cons_zero, Act.put, List.setIfInBounds_toArray, List.set_cons_zero, List.set_cons_succ]
      refine wpAnyH_take (i := 1) (v := ?_) rfl (by kernel_rfl) (by kernel_rfl) (by kernel_rfl) (fun _ _ _ h => h) (Or.inl ⟨by rfl, ?_⟩) hH ?_
      rotate_left
      · intro w hSw
        go_simp
        with_reducible rfl
      try simp only [List.getElem_toArray, List.getElem_cons_succ, List.getElem_cons_zero, Act.put, List.setIfInBounds_toArray, List.set_cons_zero, List.set_cons_succ]
      refine wpAnyH_take (i := 2) (v := ?_) rfl (by kernel_rfl) (by kernel_rfl) (by kernel_rfl) (fun _ _ _ h => h) (Or.inl ⟨by rfl, ?_⟩) hH ?_
      rotate_left
      · intro w hSw
        go_simp
        with_reducible rfl
      try simp only [List.getElem_toArray, List.getElem_cons_succ, List.getElem_cons_zero, Act.put, List.setIfInBounds_toArray, List.set_cons_zero, List.set_cons_succ]
      refine wpAnyH_take (i := 4) (v := ?_) rfl (by kernel_rfl) (by kernel_rfl) (by kernel_rfl) (fun _ _ _ h => h) (Or.inl ⟨by rfl, ?_⟩) hH ?_
      rotate_left
      · intro w hSw
        go_simp
        with_reducible rfl
      try simp only [List.getElem_toArray, List.getElem_cons_succ, List.getElem_cons_zero, Act.put, List.setIfInBounds_toArray, List.set_cons_zero, List.set_cons_succ]
      refine wpAnyH_take (i := 5) (v := ?_) rfl (by kernel_rfl) (by kernel_rfl) (by kernel_rfl) (fun _ _ _ h => h) (Or.inl ⟨by rfl, ?_⟩) hH ?_
      rotate_left
      · intro w hSw
        go_simp
        with_reducible rfl
      try simp only [List.getElem_toArray, List.getElem_cons_succ, List.getElem_cons_zero, Act.put, List.setIfInBounds_toArray, List.set_cons_zero, List.set_cons_succ]
      refine wpAnyH_ready (rs := [3]) (by kernel_rfl) (by simp) ?_
      refine AllReadyH.cons rfl (fun K hK => ?_) AllReadyH.nil
      go_simp
      refine (HN1.out _).mono ?_
      rintro e wn0dy ⟨rfl, hbn⟩
      go_simp
      have hbn := (below_drew _ wfy).trans hbn
      have HQL := Lib.hid ((hbn.block _ (lt_of_block HQL.out)).trans HQL.out)
      have HTA := Lib.hid (HTA.out.bel hbn)
      refine hK.out _ _ ⟨(has_cell HQL.out 0).trans rfl, (has_cell HQL.out 1).trans rfl⟩ (fun hH3 => ?_)
      clear hK K hbn
      refine wpAnyH_ready (rs := [6]) (by kernel_rfl) (by simp) ?_
      refine AllReadyH.cons rfl (fun K hK => ?_) AllReadyH.nil
      go_simp
      refine (HN2.out _).mono ?_
      rintro e wn1dy ⟨rfl, hbn⟩
      go_simp
      have HQL := Lib.hid ((hbn.block _ (lt_of_block HQL.out)).trans HQL.out)
      have HTA := Lib.hid (HTA.out.bel hbn)
      refine hK.out _ _ ⟨(has_cell HQL.out 0).trans rfl, (has_cell HQL.out 1).trans rfl⟩ (fun hH4 => ?_)
      clear hK K hbn
      refine wpAnyH_ready (rs := [7]) (by kernel_rfl) (by simp) ?_
      refine AllReadyH.cons rfl (fun K hK => ?_) AllReadyH.nil
      go_simp
      refine (sh_down (a := ya) (b := yb) HTA.out HYA.out HYB.out HLB.out 0 1099511627776).mono ?_
      rintro e wey ⟨L3, ev3, rfl, hMO, hTA, hSR⟩
      go_simp
      have HQL := Lib.hid ((hSR.2 _ _ _ _ (by kernel_rfl) HQL.out).trans HQL.out)
      have HTA := Lib.hid hTA
      have HMO := Lib.hid hMO
      refine hK.out _ _ ⟨(has_cell HQL.out 0).trans rfl, (has_cell HQL.out 1).trans rfl⟩ (fun hH7 => ?_)
      clear hK K hTA hSR hMO hH0 hH hH3 hH4
      refine wpAnyH_done (by kernel_rfl) ?_ _
      clear hH7
      have CR := Lib.hid (t_route (a := xa) (b := xb) HTA.out (max 0 (min lt 1099511627775)))
      have x5 := (has_cell HQL.out 5).trans (show _ = some (Value.int .i64 lt) from rfl)
      go_wp2_with fail
      refine (clipB_any lt 0 1099511627775 _).mono ?_
      rintro e wz ⟨rfl, hw⟩
      subst hw
      go_wp2_with fail
      refine CR.out.mono ?_
      rintro e wgy ⟨vu, ⟨ul, uz⟩, g, rfl, _, hR, hTA, hbr⟩
      have HR3 := Lib.hid hR
      have HQL := Lib.hid ((hbr.block _ (lt_of_block HQL.out)).trans HQL.out)
      have HTA := Lib.hid hTA
      clear hR hTA hbr CR x5
      have CR := Lib.hid (t_route (a := xa) (b := xb) HTA.out lt)
      have x5 := (has_cell HQL.out 5).trans (show _ = some (Value.int .i64 lt) from rfl)
      go_wp2_with fail
      refine CR.out.mono ?_
      rintro e why ⟨vv, ⟨vl, vz⟩, h, rfl, _, hR, hTA, hbr⟩
      have HR4 := Lib.hid hR
      have HQL := Lib.hid ((hbr.block _ (lt_of_block HQL.out)).trans HQL.out)
      have HTA := Lib.hid hTA
      clear hR hTA hbr CR x5
      have HA := Lib.hid (fun (e0 : code = 0) => (show f = 0 ∧ sz ≤ rz from RouteR.emono HM2.out (by have := HR1.out; rwa [e0] at this) HR2.out))
      have HB := Lib.hid (fun (e0 : h = 0) => (show f = 0 ∧ sz ≤ vz from RouteR.emono (HMO.out lt) (by have := HR4.out; rwa [e0] at this) HR2.out))
      have HC := Lib.hid (fun (ht : clipT lt < 1099511627776) => (show g = h ∧ uz = vz from by
        obtain ⟨e1, e2⟩ := RouteR.time (by unfold clipT at *; omega) HR3.out HR4.out
        exact ⟨e1, by rw [Prod.mk.injEq] at e2; exact e2.2⟩))
      have HP : Hid (AwP w (.returned (.bool true)) why) := Lib.hid ⟨rfl, HTA.out.be⟩
      have x5 := (has_cell HQL.out 5).trans (show _ = some (Value.int .i64 lt) from rfl)
      clear HR1 HR2 HR3 HR4 HMO HM2 HQL HTA HYA HYB HLB HN1 HN2 HTS
      by_cases e0 : code = 0
      · obtain ⟨f0, hle⟩ := HA.out e0
        subst e0
        subst f0
        rw [errV0]
        have d7 : decide (rz < sz) = false := decide_eq_false (by omega)
        clear hle
        go_wp2_with fail
        refine (time_any lt _).mono ?_
        rintro e wz ⟨rfl, hw⟩
        subst hw
        generalize clipT lt = ct at *
        by_cases ht : ct < 1099511627776
        · obtain ⟨e1, e2⟩ := HC.out ht
          rw [e1, e2]
          clear e1 e2
          have dt : decide (ct < 1099511627776) = true := decide_eq_true ht
          have hk2 : (h == h) = true := by simp
          have hk3 : (h != h) = false := by simp
          have hk5 : (vz != vz) = false := by simp
          go_wp2_with fail
          refine (num_any h _).mono ?_
          rintro e wz ⟨rfl, hw⟩
          subst hw
          go_wp2_with fail
          refine (num_any h _).mono ?_
          rintro e wz ⟨rfl, hw⟩
          subst hw
          go_upto_region 18 with fail
          by_cases h0 : h = 0
          · obtain ⟨f0, hle⟩ := HB.out h0
            subst h0
            (try subst f0)
            (try rw [errV0])
            have d9 : decide (sz ≤ vz) = true := decide_eq_true hle
            clear hle
            go_wp2_with fail
            go_ret
            exact HP.out
          · rw [errV_pos h0]
            go_wp2_with fail
            go_ret
            exact HP.out
        · have dt : decide (ct < 1099511627776) = false := decide_eq_false ht
          go_upto_region 18 with fail
          by_cases h0 : h = 0
          · obtain ⟨f0, hle⟩ := HB.out h0
            subst h0
            (try subst f0)
            (try rw [errV0])
            have d9 : decide (sz ≤ vz) = true := decide_eq_true hle
            clear hle
            go_wp2_with fail
            go_ret
            exact HP.out
          · rw [errV_pos h0]
            go_wp2_with fail
            go_ret
            exact HP.out
      · rw [errV_pos e0]
        go_wp2_with fail
        refine (time_any lt _).mono ?_
        rintro e wz ⟨rfl, hw⟩
        subst hw
        generalize clipT lt = ct at *
        by_cases ht : ct < 1099511627776
        · obtain ⟨e1, e2⟩ := HC.out ht
          rw [e1, e2]
          clear e1 e2
          have dt : decide (ct < 1099511627776) = true := decide_eq_true ht
          have hk2 : (h == h) = true := by simp
          have hk3 : (h != h) = false := by simp
          have hk5 : (vz != vz) = false := by simp
          go_wp2_with fail
          refine (num_any h _).mono ?_
          rintro e wz ⟨rfl, hw⟩
          subst hw
          go_wp2_with fail
          refine (num_any h _).mono ?_
          rintro e wz ⟨rfl, hw⟩
          subst hw
          go_upto_region 18 with fail
          by_cases h0 : h = 0
          · obtain ⟨f0, hle⟩ := HB.out h0
            subst h0
            (try subst f0)
            (try rw [errV0])
            have d9 : decide (sz ≤ vz) = true := decide_eq_true hle
            clear hle
            go_wp2_with fail
            go_ret
            exact HP.out
          · rw [errV_pos h0]
            go_wp2_with fail
            go_ret
            exact HP.out
        · have dt : decide (ct < 1099511627776) = false := decide_eq_false ht
          go_upto_region 18 with fail
          by_cases h0 : h = 0
          · obtain ⟨f0, hle⟩ := HB.out h0
            subst h0
            (try subst f0)
            (try rw [errV0])
            have d9 : decide (sz ≤ vz) = true := decide_eq_true hle
            clear hle
            go_wp2_with fail
            go_ret
            exact HP.out
          · rw [errV_pos h0]
            go_wp2_with fail
            go_ret
            exact HP.out
end
end Go.Proofs.Ytpcapmialdmcaaa

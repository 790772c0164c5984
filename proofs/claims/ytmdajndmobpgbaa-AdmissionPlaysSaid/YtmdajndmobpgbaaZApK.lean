/- The document's Submit. Conditions: the admission can be read; its queues are short. -/
import Derived.Test.YtmdajndmobpgbaaZApI
namespace Go.Proofs.Ytmdajndmobpgbaa
open Go.RowKit
open Go.Proofs.Ytmdajndmobpgbaa.Fq
open Go.Proofs.Ytmdajndmobpgbaa.Bk

/-- Five of a box's eight cells are written: its queue. -/
theorem setQ8 {wx : World} {bx : Nat} {t : TypeId} {a0 a1 a2 a3 a4 a5 a6 a7 : Value} (h : wx.heap[bx]? = some (.cells #[a0, a1, a2, a3, a4, a5, a6, a7] t (0, 0))) (x2 x3 x4 x5 x6 : Value) :
    (((((wx.setCell ⟨bx, 2, none⟩ x2).setCell ⟨bx, 3, none⟩ x3).setCell ⟨bx, 4, none⟩ x4).setCell ⟨bx, 5, none⟩ x5).setCell ⟨bx, 6, none⟩ x6).heap[bx]? = some (.cells #[a0, a1, x2, x3, x4, x5, x6, a7] t (0, 0)) :=
  setCell_heap_self (o := 6) (u := x6) (setCell_heap_self (o := 5) (u := x5) (setCell_heap_self (o := 4) (u := x4) (setCell_heap_self (o := 3) (u := x3) (setCell_heap_self (o := 2) (u := x2) h))))
section
variable {K : Nat → Prop} {w wx : World} {lv : List Value} {a : DA} {q : DQ} {bx rx : Nat} {cs zs : Array Value}
theorem BA.setQ {a0 a1 a2 a3 a4 a5 a6 a7 : Value} (h : BA w bx rx #[a0, a1, a2, a3, a4, a5, a6, a7] zs wx) (x2 x3 x4 x5 x6 : Value) :
    BA w bx rx #[a0, a1, x2, x3, x4, x5, x6, a7] zs (((((wx.setCell ⟨bx, 2, none⟩ x2).setCell ⟨bx, 3, none⟩ x3).setCell ⟨bx, 4, none⟩ x4).setCell ⟨bx, 5, none⟩ x5).setCell ⟨bx, 6, none⟩ x6) :=
  ((((h.set 2 x2).set 3 x3).set 4 x4).set 5 x5).set 6 x6
theorem DAt.setQ (h : DAt K wx q lv a) (hb : wx.heap[bx]? = some (.cells cs tDA (0, 0))) (x2 x3 x4 x5 x6 : Value) :
    DAt K (((((wx.setCell ⟨bx, 2, none⟩ x2).setCell ⟨bx, 3, none⟩ x3).setCell ⟨bx, 4, none⟩ x4).setCell ⟨bx, 5, none⟩ x5).setCell ⟨bx, 6, none⟩ x6) q lv a := by
  have h1 := setCell_heap_self (o := 2) (u := x2) hb
  have h2 := setCell_heap_self (o := 3) (u := x3) h1
  have h3 := setCell_heap_self (o := 4) (u := x4) h2
  have h4 := setCell_heap_self (o := 5) (u := x5) h3
  exact ((((h.cellB hb 2 x2).cellB h1 3 x3).cellB h2 4 x4).cellB h3 5 x5).cellB h4 6 x6
/-- A queue is put in. -/
theorem DAt.withF {J : Nat → Prop} {w' : World} {q : DQ} {vq vd vl : Value} {lv2 : List Value} {f : FQ} (h : DAt K w q lv a) (hb : Below w.heap.size w w') (hK : ∀ k, K k → J k) (hr : RQK J w' vq vd vl lv2 f) : DAt J w' ⟨q.b, vq, vd, vl, q.r⟩ lv2 { a with f := f } :=
  ⟨h.b.bel hb, hr, h.r.bel hb, fun k hk => hK k (h.kb k hk), fun k hk => hK k (h.kr k hk)⟩
end
open Classical in
noncomputable def rsubE (a : DA) (t id c : Int) : Int := if (putE a.f t id c = 0 ∨ putE a.f t id c = 10) ∧ plB a.run id = true then 4 else putE a.f t id c
noncomputable def rsubS (a : DA) (t id c : Int) : DA := if rsubE a t id c = 0 then { a with f := putS a.f t id c } else a
section
variable {K : Nat → Prop} {w : World} {lv : List Value} {a : DA} {ab aq ad al ar : Option Addr} {nb cb nq cq nd cd nl cl nr cr : Nat}
set_option maxRecDepth 100000 in
set_option maxHeartbeats 6400000 in
theorem rsubmit_ex (h : DAt K w ⟨.slice ab nb cb, .slice aq nq cq, .slice ad nd cd, .slice al nl cl, .slice ar nr cr⟩ lv a) (h1 : 1 ≤ a.f.m) (hm : a.f.m ≤ 1000) (hsh : Short a.f) (hnr : a.run.length ≤ 1000) (t id c : Int) :
    Calls Try.prog 28 #[.agg #[.int .i64 a.slots, .slice ab nb cb, .slice aq nq cq, .slice ad nd cd, .slice al nl cl, .int .i64 a.f.cur, .bool a.f.begun, .slice ar nr cr], .int .i64 t, .int .i64 id, .int .i64 c] w (RetA K (rsubS a t id c) (.int .i64 (rsubE a t id c)) w) := by
  have H := Lib.hid h
  have HB0 := BA.start w #[.int .i64 a.slots, .slice ab nb cb, .slice aq nq cq, .slice ad nd cd, .slice al nl cl, .int .i64 a.f.cur, .bool a.f.begun, .slice ar nr cr] #[.int .i64 0, .slice none 0 0, .slice none 0 0, .slice none 0 0, .slice none 0 0, .int .i64 0, .bool false, .slice none 0 0]
  unfold tDA at HB0
  have CP := Lib.hid (fun (wx : World) (hb : Below w.heap.size w wx) => rplace_any (h.bel hb) (by omega) id)
  have CQ := Lib.hid (fun (wx : World) (hb : Below w.heap.size w wx) => rput_any (h.bel hb).f h1 hm hsh t id c)
  unfold daV daC at CP
  unfold rqV at CQ
  dsimp only at CP CQ
  clear h h1 hm hsh
  obtain ⟨bx, hbx⟩ : ∃ bx, w.heap.size = bx := ⟨_, rfl⟩
  obtain ⟨rx, hrx⟩ : ∃ rx, bx + 1 = rx := ⟨_, rfl⟩
  rw [hbx, hrx] at HB0
  go_enter Try.func28, Try.ntmps28
  go_upto_region 1 with fail
  generalize (w.alloc (.cells #[.int .i64 a.slots, .slice ab nb cb, .slice aq nq cq, .slice ad nd cd, .slice al nl cl, .int .i64 a.f.cur, .bool a.f.begun, .slice ar nr cr] 57)).alloc (.cells #[.int .i64 0, .slice none 0 0, .slice none 0 0, .slice none 0 0, .slice none 0 0, .int .i64 0, .bool false, .slice none 0 0] 57) = w1 at *
  have HB := Lib.hid HB0
  clear HB0 hbx hrx
  obtain ⟨⟨x0, x1, x2, x3, x4, x5, x6, x7⟩, _⟩ := get8 HB.out.o
  go_wp2_with fail
  refine (CQ.out w1 HB.out.b).mono ?_
  rintro e w2 ⟨vq2, vd2, vl2, lv2, rfl, hr2, hb2⟩
  clear x0 x1 x2 x3 x4 x5 x6 x7 CQ
  have HB2 := Lib.hid (HB.out.bel hb2)
  obtain ⟨qo2, qc2, rfl, _⟩ := hr2.a.q.shape
  obtain ⟨eo2, ec2, rfl, _⟩ := hr2.a.d.shape
  obtain ⟨lo2, lc2, rfl, _⟩ := hr2.a.l.shape
  have HBW := Lib.hid hb2
  have HR2 : Hid (RQK (fun j => K j ∨ w.heap.size ≤ j) w2 _ _ _ lv2 (putS a.f t id c)) := Lib.hid (hr2.more fun k hk => hk.imp (fun x => x) (fun x => Nat.le_trans HB.out.b.size x))
  have HBX := Lib.hid HB.out.b
  clear hb2 hr2 HB
  have HE : Hid (rsubE a t id c = if (putE a.f t id c = 0 ∨ putE a.f t id c = 10) ∧ plB a.run id = true then 4 else putE a.f t id c) := Lib.hid rfl
  have HSE : Hid (rsubS a t id c = if rsubE a t id c = 0 then { a with f := putS a.f t id c } else a) := Lib.hid rfl
  generalize rsubE a t id c = E at *
  generalize rsubS a t id c = A' at *
  generalize putS a.f t id c = f' at *
  generalize putE a.f t id c = p at *
  generalize plB a.run id = pl at *
  unfold rqV
  go_upto_region 2 with fail
  have hba := (Below.refl w2.heap.size w2).alloc (Nat.le_refl _) (.cells #[.slice qo2 f'.m qc2, .slice eo2 f'.m ec2, .slice lo2 f'.m lc2, .int .i64 f'.cur, .bool f'.begun] 55)
  have hqa := heap_alloc_new w2 (.cells #[.slice qo2 f'.m qc2, .slice eo2 f'.m ec2, .slice lo2 f'.m lc2, .int .i64 f'.cur, .bool f'.begun] 55)
  obtain ⟨qb, hqb⟩ : ∃ qb, w2.heap.size = qb := ⟨_, rfl⟩
  rw [hqb] at hqa ⊢
  generalize w2.alloc (.cells #[.slice qo2 f'.m qc2, .slice eo2 f'.m ec2, .slice lo2 f'.m lc2, .int .i64 f'.cur, .bool f'.begun] 55) = w3 at *
  have HB3 := Lib.hid (HB2.out.bel hba)
  have HR3 := Lib.hid (HR2.out.bel hba)
  have HQB := Lib.hid hqa
  clear hba hqa hqb HB2 HR2
  have hpcase : (p = 0 ∨ p = 10) ∨ (p ≠ 0 ∧ p ≠ 10) := by omega
  rcases hpcase with hp | ⟨hp1, hp2⟩
  · have HP := Lib.hid hp
    cases pl
    · have hE : E = p := by rw [HE.out, if_neg (by simp)]
      rcases hp with rfl | rfl
      · -- it is put in
        obtain rfl : A' = { a with f := f' } := by rw [HSE.out, if_pos hE]
        subst hE
        clear HP HSE HE
        go_wp2_with (first | (refine wpList_load_row rfl 57 (.tmp 4) rfl bx (by rfl) 57 #[.int .i64 a.slots, .slice ab nb cb, .slice aq nq cq, .slice ad nd cd, .slice al nl cl, .int .i64 a.f.cur, .bool a.f.begun, .slice ar nr cr] (0, 0) _ HB3.out.o Try.underlying57 rfl infoDA ?_))
        refine (CP.out w3 HB3.out.b).mono ?_
        rintro e w4 ⟨rfl, hb4⟩
        have HB4 := Lib.hid (HB3.out.bel hb4)
        
        clear HB3
        have HR4 := Lib.hid (HR3.out.bel hb4)
        have HQ4 := Lib.hid ((hb4.block qb (lt_of_block HQB.out)).trans HQB.out)
        have HBW4 := Lib.hid HB4.out.b
        clear hb4 HR3 HQB CP HBW HBX
        obtain ⟨⟨y0, y1, y2, y3, y4⟩, _⟩ := row5 HQ4.out
        obtain ⟨⟨x0, x1, x2, x3, x4, x5, x6, x7⟩, z⟩ := get8 HB4.out.o
        have HB5 := Lib.hid (HB4.out.setQ (.slice qo2 f'.m qc2) (.slice eo2 f'.m ec2) (.slice lo2 f'.m lc2) (.int .i64 f'.cur) (.bool f'.begun))
        have HA5 := Lib.hid (((H.out.withF HB4.out.b (fun k hk => .inl hk) HR4.out)).setQ HB4.out.o (.slice qo2 f'.m qc2) (.slice eo2 f'.m ec2) (.slice lo2 f'.m lc2) (.int .i64 f'.cur) (.bool f'.begun))
        go_upto_region 9 with fail
        clear x0 x1 x2 x3 x4 x5 x6 x7 z y0 y1 y2 y3 y4 HB4 HR4 HQ4
        generalize ((((w4.setCell ⟨bx, 2, none⟩ (.slice qo2 f'.m qc2)).setCell ⟨bx, 3, none⟩ (.slice eo2 f'.m ec2)).setCell ⟨bx, 4, none⟩ (.slice lo2 f'.m lc2)).setCell ⟨bx, 5, none⟩ (.int .i64 f'.cur)).setCell ⟨bx, 6, none⟩ (.bool f'.begun) = w5 at *
        have HFR := Lib.hid (setRow_heap _ _ _ #[.int .i64 a.slots, .slice ab nb cb, .slice qo2 f'.m qc2, .slice eo2 f'.m ec2, .slice lo2 f'.m lc2, .int .i64 f'.cur, .bool f'.begun, .slice ar nr cr] _ _ HB5.out.r)
        go_wp2_with (first
          | (refine wpList_load_row rfl 57 (.tmp 4) rfl bx (by rfl) 57 #[.int .i64 a.slots, .slice ab nb cb, .slice qo2 f'.m qc2, .slice eo2 f'.m ec2, .slice lo2 f'.m lc2, .int .i64 f'.cur, .bool f'.begun, .slice ar nr cr] (0, 0) _ HB5.out.o Try.underlying57 rfl infoDA ?_)
          | (refine wpList_store_row rfl 57 (.tmp 8) (.tmp 43) rfl rx #[.int .i64 a.slots, .slice ab nb cb, .slice qo2 f'.m qc2, .slice eo2 f'.m ec2, .slice lo2 f'.m lc2, .int .i64 f'.cur, .bool f'.begun, .slice ar nr cr] (by rfl) (by rfl) 57 _ HB5.out.r infoDA rfl (by simp [Value.oneCell']) ?_))
        try simp only [Exit.inBlock, Exit.then]
        refine bodyPost_ret (results_cell2 rfl _ _ rx 57 _ (0, 0) _ rfl HFR.out Try.underlying57 rfl infoDA) rfl ?_
        exact ⟨⟨.slice ab nb cb, .slice qo2 f'.m qc2, .slice eo2 f'.m ec2, .slice lo2 f'.m lc2, .slice ar nr cr⟩, lv2, rfl, (HA5.out).rowB HB5.out.r _, HB5.out.fin _⟩
      · -- full
        obtain rfl : a = A' := by rw [HSE.out, if_neg (by omega)]
        subst hE
        clear HP HSE HE
        go_wp2_with (first | (refine wpList_load_row rfl 57 (.tmp 4) rfl bx (by rfl) 57 #[.int .i64 a.slots, .slice ab nb cb, .slice aq nq cq, .slice ad nd cd, .slice al nl cl, .int .i64 a.f.cur, .bool a.f.begun, .slice ar nr cr] (0, 0) _ HB3.out.o Try.underlying57 rfl infoDA ?_))
        refine (CP.out w3 HB3.out.b).mono ?_
        rintro e w4 ⟨rfl, hb4⟩
        have HB4 := Lib.hid (HB3.out.bel hb4)
        
        clear HB3 CP
        have HBB := Lib.hid (HB4.out.b)
        clear hb4
        have HFR := Lib.hid (setRow_heap _ _ _ #[.int .i64 a.slots, .slice ab nb cb, .slice aq nq cq, .slice ad nd cd, .slice al nl cl, .int .i64 a.f.cur, .bool a.f.begun, .slice ar nr cr] _ _ HB4.out.r)
        go_wp2_with (first
          | (refine wpList_load_row rfl 57 (.tmp 4) rfl bx (by rfl) 57 #[.int .i64 a.slots, .slice ab nb cb, .slice aq nq cq, .slice ad nd cd, .slice al nl cl, .int .i64 a.f.cur, .bool a.f.begun, .slice ar nr cr] (0, 0) _ HB4.out.o Try.underlying57 rfl infoDA ?_)
          | (refine wpList_store_row rfl 57 (.tmp 8) (.tmp 39) rfl rx #[.int .i64 a.slots, .slice ab nb cb, .slice aq nq cq, .slice ad nd cd, .slice al nl cl, .int .i64 a.f.cur, .bool a.f.begun, .slice ar nr cr] (by rfl) (by rfl) 57 _ HB4.out.r infoDA rfl (by simp [Value.oneCell']) ?_))
        try simp only [Exit.inBlock, Exit.then]
        refine bodyPost_ret (results_cell2 rfl _ _ rx 57 _ (0, 0) _ rfl HFR.out Try.underlying57 rfl infoDA) rfl ?_
        exact ⟨⟨.slice ab nb cb, .slice aq nq cq, .slice ad nd cd, .slice al nl cl, .slice ar nr cr⟩, lv, rfl, ((H.out.bel HBB.out).to fun _ _ hk => .inl hk).rowB HB4.out.r _, HB4.out.fin _⟩
    · have hE : E = 4 := by rw [HE.out, if_pos ⟨hp, rfl⟩]
      obtain rfl : a = A' := by rw [HSE.out, if_neg (by omega)]
      subst hE
      rcases hp with rfl | rfl
      all_goals
        clear HP HSE HE
        go_wp2_with (first | (refine wpList_load_row rfl 57 (.tmp 4) rfl bx (by rfl) 57 #[.int .i64 a.slots, .slice ab nb cb, .slice aq nq cq, .slice ad nd cd, .slice al nl cl, .int .i64 a.f.cur, .bool a.f.begun, .slice ar nr cr] (0, 0) _ HB3.out.o Try.underlying57 rfl infoDA ?_))
        refine (CP.out w3 HB3.out.b).mono ?_
        rintro e w4 ⟨rfl, hb4⟩
        have HB4 := Lib.hid (HB3.out.bel hb4)
        
        clear HB3 CP
        have HBB := Lib.hid (HB4.out.b)
        clear hb4
        have HFR := Lib.hid (setRow_heap _ _ _ #[.int .i64 a.slots, .slice ab nb cb, .slice aq nq cq, .slice ad nd cd, .slice al nl cl, .int .i64 a.f.cur, .bool a.f.begun, .slice ar nr cr] _ _ HB4.out.r)
        go_wp2_with (first
          | (refine wpList_load_row rfl 57 (.tmp 4) rfl bx (by rfl) 57 #[.int .i64 a.slots, .slice ab nb cb, .slice aq nq cq, .slice ad nd cd, .slice al nl cl, .int .i64 a.f.cur, .bool a.f.begun, .slice ar nr cr] (0, 0) _ HB4.out.o Try.underlying57 rfl infoDA ?_)
          | (refine wpList_store_row rfl 57 (.tmp 8) (.tmp 36) rfl rx #[.int .i64 a.slots, .slice ab nb cb, .slice aq nq cq, .slice ad nd cd, .slice al nl cl, .int .i64 a.f.cur, .bool a.f.begun, .slice ar nr cr] (by rfl) (by rfl) 57 _ HB4.out.r infoDA rfl (by simp [Value.oneCell']) ?_))
        try simp only [Exit.inBlock, Exit.then]
        refine bodyPost_ret (results_cell2 rfl _ _ rx 57 _ (0, 0) _ rfl HFR.out Try.underlying57 rfl infoDA) rfl ?_
        exact ⟨⟨.slice ab nb cb, .slice aq nq cq, .slice ad nd cd, .slice al nl cl, .slice ar nr cr⟩, lv, rfl, ((H.out.bel HBB.out).to fun _ _ hk => .inl hk).rowB HB4.out.r _, HB4.out.fin _⟩
  · have hE : E = p := by rw [HE.out, if_neg (by rintro ⟨h | h, _⟩ <;> omega)]
    obtain rfl : a = A' := by rw [HSE.out, if_neg (by omega)]
    subst hE
    have e1 : (E == 0) = false := by rw [beq_eq_false_iff_ne]; exact hp1
    have e2 : (E == 10) = false := by rw [beq_eq_false_iff_ne]; exact hp2
    have e3 : (E != 0) = true := by rw [bne_iff_ne]; exact hp1
    have HBB := Lib.hid (HB3.out.b)
    clear hp1 hp2 HSE HE CP
    have HFR := Lib.hid (setRow_heap _ _ _ #[.int .i64 a.slots, .slice ab nb cb, .slice aq nq cq, .slice ad nd cd, .slice al nl cl, .int .i64 a.f.cur, .bool a.f.begun, .slice ar nr cr] _ _ HB3.out.r)
    go_wp2_with (first
      | (refine wpList_load_row rfl 57 (.tmp 4) rfl bx (by rfl) 57 #[.int .i64 a.slots, .slice ab nb cb, .slice aq nq cq, .slice ad nd cd, .slice al nl cl, .int .i64 a.f.cur, .bool a.f.begun, .slice ar nr cr] (0, 0) _ HB3.out.o Try.underlying57 rfl infoDA ?_)
      | (refine wpList_store_row rfl 57 (.tmp 8) (.tmp 39) rfl rx #[.int .i64 a.slots, .slice ab nb cb, .slice aq nq cq, .slice ad nd cd, .slice al nl cl, .int .i64 a.f.cur, .bool a.f.begun, .slice ar nr cr] (by rfl) (by rfl) 57 _ HB3.out.r infoDA rfl (by simp [Value.oneCell']) ?_))
    try simp only [Exit.inBlock, Exit.then]
    refine bodyPost_ret (results_cell2 rfl _ _ rx 57 _ (0, 0) _ rfl HFR.out Try.underlying57 rfl infoDA) rfl ?_
    exact ⟨⟨.slice ab nb cb, .slice aq nq cq, .slice ad nd cd, .slice al nl cl, .slice ar nr cr⟩, lv, rfl, ((H.out.bel HBB.out).to fun _ _ hk => .inl hk).rowB HB3.out.r _, HB3.out.fin _⟩
end
end Go.Proofs.Ytmdajndmobpgbaa

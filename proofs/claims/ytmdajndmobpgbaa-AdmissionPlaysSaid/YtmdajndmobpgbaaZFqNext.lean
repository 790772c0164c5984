/- The next entry: Next. Conditions: the queue lies in memory as 'FqAt' says, and its numbers are in their bounds ('Gd'). -/
import Derived.Test.YtmdajndmobpgbaaZFqChoose
import Derived.StillTailTactics
namespace Go.Proofs.Ytmdajndmobpgbaa
open Go.RowKit
open Go.Proofs.Ytmdajndmobpgbaa.Fq

def FQ.setL (s : FQ) (t : Nat) (l : List Ent) : FQ := { s with lists := s.lists.set t l }
theorem setL_m (s : FQ) (t : Nat) (l : List Ent) : (FQ.setL s t l).m = s.m := by show (s.lists.set t l).length = _; rw [List.length_set]; rfl
theorem setL_lst_self {s : FQ} {t : Nat} (h : t < s.m) (l : List Ent) : (FQ.setL s t l).lst t = l := by unfold FQ.lst FQ.setL; exact Fq.getD_set_self (show t < s.lists.length from h)
theorem setL_lst_ne {s : FQ} {t t' : Nat} (h : t ≠ t') (l : List Ent) : (FQ.setL s t l).lst t' = s.lst t' := by unfold FQ.lst FQ.setL; exact Fq.getD_set_ne h
theorem qv_set_self {vals : List Value} {t : Nat} (h : t < vals.length) (v : Value) : qv (vals.set t v) t = v := by unfold qv; exact Fq.getD_set_self h
theorem qv_set_ne {vals : List Value} {t t' : Nat} (h : t ≠ t') (v : Value) : qv (vals.set t v) t' = qv vals t' := by unfold qv; exact Fq.getD_set_ne h

section
variable {w w1 : World} {b bq cq bd cd bl : Nat} {xt : List Value} {vals : List Value} {s : FQ}
/-- The queue of one tenant is replaced: its row may have been written, or a new one made. -/
theorem FqAt.setVal (h : FqAt w b bq cq bd cd xt bl vals s) {t : Nat} (ht : t < s.m) (hg : w.grownBy w1 (qv vals t).ownBlock) {v' : Value} {l' : List Ent} (ho : OL w1 147 2 v' l'.length (entCells l'))
    (hown : ∀ g, v'.ownBlock = some g → (qv vals t).ownBlock = some g ∨ w.heap.size ≤ g) :
    FqAt (w1.setCell ⟨bl, t, none⟩ v') b bq cq bd cd xt bl (vals.set t v') (FQ.setL s t l') := by
  have hlt : t < vals.length := by rw [h.lv]; exact ht
  have old : ∀ k, k < w.heap.size → (∀ g, (qv vals t).ownBlock = some g → k ≠ g) → k ≠ bl → (w1.setCell ⟨bl, t, none⟩ v').heap[k]? = w.heap[k]? := fun k hk hn hb =>
    (Below.heap_setCell _ _ _ _ hb).trans (hg.block k hk (fun e => by
      rcases hv : (qv vals t).ownBlock with _ | g
      · rw [hv] at e; cases e
      · rw [hv] at e; exact hn g hv (Option.some.inj e)))
  have hbl1 : w1.heap[bl]? = some (.cells vals.toArray 145 (0, 0)) := by
    rw [hg.block bl (has_lt h.hl) (fun e => (h.row_ne e.symm).2.2.2 rfl)]; exact h.hl
  have hm := setL_m s t l'
  exact {
    hb := by rw [hm]; exact (old b (has_lt h.hb) (fun g hgv e => (h.row_ne hgv).1 e.symm) h.b_bl).trans h.hb
    hq := by rw [hm]; exact h.hq.heap fun g hgv => by simp [Value.ownBlock] at hgv; subst hgv; exact old _ (h.hq.lt _ rfl) (fun g hgv e => (h.row_ne hgv).2.1 e.symm) h.bq_bl
    hd := (old bd (has_lt h.hd) (fun g hgv e => (h.row_ne hgv).2.2.1 e.symm) h.bd_bl).trans h.hd
    hl := by
      have := setCell_heap_self (o := t) (u := v') hbl1
      rw [this, List.setIfInBounds_toArray]
    hls := fun t' ht' => by
      rw [hm] at ht'
      by_cases e : t' = t
      · subst e
        rw [qv_set_self hlt, setL_lst_self ht]
        refine ho.heap fun g hgv => Below.heap_setCell _ _ _ _ (fun e => ?_)
        obtain ⟨cur, hc⟩ := ho.elem g hgv
        have e' : g = bl := e
        rw [e', hbl1] at hc; simp at hc
      · rw [qv_set_ne (fun x => e x.symm), setL_lst_ne (fun x => e x.symm)]
        refine (h.hls t' ht').heap fun g hgv => old g ((h.hls t' ht').lt g hgv) (fun g' hg' x => ?_) (h.row_ne hgv).2.2.2
        subst x
        exact h.ap t' t g e hgv hg'
    lq := by rw [hm]; exact h.lq
    ld := by rw [hm]; exact h.ld
    lv := by rw [hm, List.length_set]; exact h.lv
    ne := h.ne
    ap := fun t1 t2 g hne h1 h2 => by
      by_cases e1 : t1 = t
      · subst e1
        rw [qv_set_self hlt] at h1
        rw [qv_set_ne hne] at h2
        rcases hown g h1 with h3 | h3
        · exact h.ap t1 t2 g hne h3 h2
        · have := (h.hls t2 (by rw [← h.lv]; exact qv_lt h2)).lt g h2; omega
      · rw [qv_set_ne (fun x => e1 x.symm)] at h1
        by_cases e2 : t2 = t
        · subst e2
          rw [qv_set_self hlt] at h2
          rcases hown g h2 with h3 | h3
          · exact h.ap t1 t2 g hne h1 h3
          · have := (h.hls t1 (by rw [← h.lv]; exact qv_lt h1)).lt g h1; omega
        · rw [qv_set_ne (fun x => e2 x.symm)] at h2
          exact h.ap t1 t2 g hne h1 h2 }
end

/-- The values behind a Next: the chosen tenant's is cut. -/
def NextSome (b bq cq bd cd : Nat) (xt : List Value) (bl : Nat) (vals : List Value) (s : FQ) (w : World) (e : Ending) (w' : World) : Prop :=
  ∃ (s1 : FQ) (en : Ent) (r : List Ent) (v' : Value), Chs s s1 ∧ s1.lst s1.cur = en :: r ∧ e = .returned (.tuple #[.int .i64 s1.cur, .int .i64 en.1, .nilIface]) ∧
    FqAt w' b bq cq bd cd xt bl (vals.set s1.cur v') s1.pop ∧ (∀ g, v'.ownBlock = some g → (qv vals s1.cur).ownBlock = some g) ∧ Only (fun k => k = b ∨ k = bd ∨ k = bl) w w'
theorem next_nil (w : World) : Calls Try.prog 45 #[.pointer none] w fun e w' => e = .returned (.tuple #[.int .i64 0, .int .i64 0, .iface 33 (.int .i64 3)]) ∧ w' = w := by
  go_enter Try.func45, Try.ntmps45
  go_wp2
  go_ret3
  exact ⟨rfl, rfl⟩
theorem next_none {b bq cq bd cd bl : Nat} {xt : List Value} {vals : List Value} {s : FQ} (w : World) (h : FqAt w b bq cq bd cd xt bl vals s) (g : Gd s) (ha : anyB s = false) :
    Calls Try.prog 45 #[.pointer (some ⟨b, 0, none⟩)] w fun e w' => e = .returned (.tuple #[.int .i64 0, .int .i64 0, .iface 33 (.int .i64 3)]) ∧ ∃ n, w' = w.drewN n := by
  have CC := Lib.hid (choose_none w h g ha)
  clear h g ha
  go_enter Try.func45, Try.ntmps45
  go_wp2_with fail
  refine CC.out.mono ?_
  rintro e w' ⟨rfl, n, rfl⟩
  go_wp2
  go_ret3
  exact ⟨rfl, n, rfl⟩

set_option maxRecDepth 100000 in
set_option maxHeartbeats 2000000 in
theorem next_some {b bq cq bd cd bl : Nat} {xt : List Value} {vals : List Value} {s : FQ} (w : World) (h : FqAt w b bq cq bd cd xt bl vals s) (g : Gd s) {t0 : Nat} (ht0 : t0 < s.m) (hne : s.lst t0 ≠ []) :
    Calls Try.prog 45 #[.pointer (some ⟨b, 0, none⟩)] w (NextSome b bq cq bd cd xt bl vals s w) := by
  have CC := Lib.hid (choose_some w h g ht0 hne)
  have HG := Lib.hid g
  clear h g ht0 hne
  go_enter Try.func45, Try.ntmps45
  go_wp2_with fail
  refine CC.out.mono ?_
  rintro e w1 ⟨rfl, s1, hch, hat, hon⟩
  obtain ⟨g1, ⟨en, r, hl, hle⟩, hx1, hx2, hbg⟩ := hch.gd HG.out
  clear hx1 hx2
  have hc := g1.cur
  have c1 := hat.c1
  have c2 := hat.c2
  have c3 := hat.c3
  have cl := hat.cL hc
  have cdf := hat.cD hc
  have zl := has_free hat.hl
  have zd := has_free hat.hd
  have m2 := g1.m2
  have hO := hat.hls s1.cur hc
  obtain ⟨gg, off, cap, hv, hcap, _, hgg⟩ := hO.form (by rw [hl]; simp)
  have hrow := hat.row_ne (t := s1.cur) (g := gg) (by rw [hv]; rfl)
  rw [hv] at cl hO
  rw [hl] at hO hcap cl
  have n2 : gg ≠ b := hrow.1
  have n3 : gg ≠ bd := hrow.2.2.1
  have n4 : gg ≠ bl := hrow.2.2.2
  have n5 := hat.b_bd
  have n6 := hat.b_bl
  have n7 := hat.bd_bl
  have e0 : w1.cell? ⟨gg, off, none⟩ = some (.int .i64 en.1) := by
    have := hO.cell 0 (by simp); simpa [entCells] using this
  have e1 : w1.cell? ⟨gg, off + 1, none⟩ = some (.int .i64 en.2) := by
    have := hO.cell 1 (by simp; omega); simpa [entCells] using this
  have hlen : 1 ≤ (en :: r).length := by simp
  have d2 := g1.d2
  have sz := g1.sz s1.cur hc en (by rw [hl]; simp)
  have HV := Lib.hid hv
  have HL := Lib.hid hl
  have HT := Lib.hid (hO.tail 1 (by simp))
  have HA := Lib.hid hat
  have HR := Lib.hid (And.intro hch hon)
  have lt0 := has_lt hat.hb
  have lt1 := has_lt hat.hd
  have lt2 := has_lt hat.hl
  generalize hnl : (en :: r).length = nl at cl hcap hlen HT
  have HNL := Lib.hid hnl
  clear hat hch hon hv hl hO hrow CC hnl hbg
  go_wp2_with fail
  go_region
  have hbx : (w1.alloc (Obj.cells #[Value.int IntKind.i64 en.1, Value.int IntKind.i64 en.2] 147)).heap[w1.heap.size]? = some (.cells #[.int .i64 en.1, .int .i64 en.2] 147 (0, 0)) := heap_alloc_new w1 _
  have HA2 := Lib.hid (show FqAt (w1.alloc (Obj.cells #[Value.int IntKind.i64 en.1, Value.int IntKind.i64 en.2] 147)) b bq cq bd cd xt bl vals s1 from HA.out.belowS (by go_grown))
  have HO2 := Lib.hid (HT.out.alloc (Obj.cells #[Value.int IntKind.i64 en.1, Value.int IntKind.i64 en.2] 147))
  have HR2 := Lib.hid (show Only (fun k => k = b ∨ k = bd ∨ k = bl) w (w1.alloc (Obj.cells #[Value.int IntKind.i64 en.1, Value.int IntKind.i64 en.2] 147)) from (HR.out.2.mono (fun k h => h.elim .inl (fun h => .inr (.inl h)))).alloc _)
  clear c1 c2 c3 cl cdf zl zd e0 e1 HA HT
  generalize w1.heap.size = bx at hgg lt0 lt1 lt2 hbx ⊢
  generalize w1.alloc (Obj.cells #[Value.int IntKind.i64 en.1, Value.int IntKind.i64 en.2] 147) = w2 at hbx HA2 HO2 HR2 ⊢
  have c1 := HA2.out.c1
  have c2 := HA2.out.c2
  have c3 := HA2.out.c3
  have cl := HA2.out.cL hc
  rw [HV.out, HL.out, HNL.out] at cl
  have cdf := HA2.out.cD hc
  have zl := has_free HA2.out.hl
  have zd := has_free HA2.out.hd
  have b0 := has_cell hbx 0
  have b1 := has_cell hbx 1
  have hnr : nl = r.length + 1 := by rw [← HNL.out]; simp
  have HNR := Lib.hid hnr
  clear hnr
  by_cases hc1 : cap = 1
  case' pos =>
    subst hc1
    have HO3 := Lib.hid (show OL w2 147 2 (.slice (some ⟨gg, off, none⟩) 0 0) r.length (entCells r) from by
      have h1 := HO2.out
      have h2 := HNR.out
      rw [if_pos rfl] at h1
      have e3 : nl - 1 = 0 := by omega
      have e4 : r.length = 0 := by omega
      rw [e3] at h1
      rw [e4]
      exact h1)
    have HW := Lib.hid (show ∀ g, (Value.slice (some ⟨gg, off, none⟩) 0 0).ownBlock = some g → (qv vals s1.cur).ownBlock = some g from fun g hg => by rw [HV.out]; simpa [Value.ownBlock] using hg)
    clear HO2
    go_wp2_with fail
    go_region
    have S1 := Lib.hid (HA2.out.setVal hc (grownBy_rfl w2 _) HO3.out (fun g hg => .inl (HW.out g hg)))
    have S2 := Lib.hid (HR2.out.setCell (p := ⟨bl, s1.cur, none⟩) (.inl (.inr (.inr rfl))) (.slice (some ⟨gg, off, none⟩) 0 0))
    generalize Value.slice (some ⟨gg, off, none⟩) 0 0 = v' at S1 S2 HW ⊢
    clear HO3
  case' neg =>
    have HO3 := Lib.hid (show OL w2 147 2 (.slice (some ⟨gg, off + 2, none⟩) (nl - 1) (cap - 1)) r.length (entCells r) from by
      have h1 := HO2.out
      have h2 := HNR.out
      rw [if_neg hc1] at h1
      have e4 : r.length = nl - 1 := by omega
      rw [e4]
      exact h1)
    have HW := Lib.hid (show ∀ g, (Value.slice (some ⟨gg, off + 2, none⟩) (nl - 1) (cap - 1)).ownBlock = some g → (qv vals s1.cur).ownBlock = some g from fun g hg => by rw [HV.out]; simpa [Value.ownBlock] using hg)
    clear HO2
    go_wp2_with fail
    go_region
    have S1 := Lib.hid (HA2.out.setVal hc (grownBy_rfl w2 _) HO3.out (fun g hg => .inl (HW.out g hg)))
    have S2 := Lib.hid (HR2.out.setCell (p := ⟨bl, s1.cur, none⟩) (.inl (.inr (.inr rfl))) (.slice (some ⟨gg, off + 2, none⟩) (nl - 1) (cap - 1)))
    generalize Value.slice (some ⟨gg, off + 2, none⟩) (nl - 1) (cap - 1) = v' at S1 S2 HW ⊢
    clear HO3
  all_goals
    clear c1 c2 c3 cl cdf zl zd
    have b0' : (w2.setCell ⟨bl, s1.cur, none⟩ v').heap[bx]? = some (.cells #[.int .i64 en.1, .int .i64 en.2] 147 (0, 0)) := (Below.heap_setCell _ _ _ _ (by simp; omega)).trans hbx
    clear b0 b1 hbx
    generalize w2.setCell ⟨bl, s1.cur, none⟩ v' = w3 at S1 S2 b0' ⊢
    as_aux_lemma =>
      have c1 := S1.out.c1
      rw [setL_m] at c1
      have c3 : w3.cell? ⟨b, 3, none⟩ = some (.int .i64 s1.cur) := S1.out.c3
      have cdf : w3.cell? ⟨bd, s1.cur, none⟩ = some (.int .i64 (s1.df s1.cur)) := S1.out.cD (t := s1.cur) (by rw [setL_m]; exact hc)
      have zd := has_free S1.out.hd
      have b0 := has_cell b0' 0
      have b1 := has_cell b0' 1
      go_wp2_with fail
      have f1 : w3.drew.drew.cell? ⟨b, 1, none⟩ = _ := c1
      have f3 : w3.drew.drew.cell? ⟨b, 3, none⟩ = _ := c3
      have fd : w3.drew.drew.cell? ⟨bd, s1.cur, none⟩ = _ := cdf
      have fb : w3.drew.drew.cell? ⟨bx, 1, none⟩ = some (.int .i64 en.2) := b1
      have fz : ∀ i, w3.drew.drew.frozen? ⟨bd, i, none⟩ = false := zd
      have fb0 : w3.drew.drew.cell? ⟨bx, 0, none⟩ = some (.int .i64 en.1) := b0
      have S3 : Hid (FqAt w3.drew.drew b bq cq bd cd xt bl (vals.set s1.cur v') (FQ.setL s1 s1.cur r)) := Lib.hid (S1.out.same fun _ _ => rfl)
      have S4 := Lib.hid (S2.out.drew.drew)
      clear c1 c3 cdf b1 b0 zd S1 S2 b0'
      generalize w3.drew.drew = w4 at f1 f3 fd fb fz fb0 S3 S4 ⊢
      have HK := Lib.hid (And.intro n2 (And.intro n3 (And.intro n4 (And.intro n6 (And.intro n7 (And.intro hgg (And.intro lt0 (And.intro lt1 lt2))))))))
      have HCH := Lib.hid HR.out.1
      clear n2 n3 n4 n6 n7 hgg lt0 lt1 lt2 hlen hcap HR HV HA2 HR2 HNL HNR
      as_aux_lemma =>
        go_region
        as_aux_lemma =>
          have S5 := Lib.hid (show FqAt (w4.setCell ⟨bd, s1.cur, none⟩ (.int .i64 (s1.df s1.cur - en.2))) b bq cq bd cd xt bl (vals.set s1.cur v') s1.pop from by
            rw [pop_eq HL.out]; exact S3.out.setDef s1.cur (by rw [setL_m]; exact hc) _)
          have S6 := Lib.hid (S4.out.setCell (p := ⟨bd, s1.cur, none⟩) (.inl (.inr (.inl rfl))) (.int .i64 (s1.df s1.cur - en.2)))
          have hz := HK.out
          have g1' : (w4.setCell ⟨bd, s1.cur, none⟩ (.int .i64 (s1.df s1.cur - en.2))).cell? ⟨bx, 0, none⟩ = some (.int .i64 en.1) := by
            rw [World.cell?_of_block (w := w4) (a := ⟨bx, 0, none⟩) (Below.heap_setCell _ _ _ _ (by simp; omega))]; exact fb0
          have g3' : (w4.setCell ⟨bd, s1.cur, none⟩ (.int .i64 (s1.df s1.cur - en.2))).cell? ⟨b, 3, none⟩ = some (.int .i64 s1.cur) := by
            rw [World.cell?_of_block (w := w4) (a := ⟨b, 3, none⟩) (Below.heap_setCell _ _ _ _ n5)]; exact f3
          clear hz f1 f3 fd fb fb0 fz S3 S4 HK
          generalize w4.setCell ⟨bd, s1.cur, none⟩ (.int .i64 (s1.df s1.cur - en.2)) = w5 at S5 S6 g1' g3' ⊢
          have g1 : w5.drew.cell? ⟨bx, 0, none⟩ = _ := g1'
          have g3 : w5.drew.cell? ⟨b, 3, none⟩ = _ := g3'
          clear g1' g3' hle d2 m2 sz n5
          have S7 := Lib.hid S5.out.drew
          have S8 := Lib.hid S6.out.drew
          clear S5 S6
          generalize w5.drew = w6 at g1 g3 S7 S8 ⊢
          go_wp2_with fail
          as_aux_lemma =>
            go_quiet (fail)
            go_wp2
            go_ret3
            exact ⟨s1, en, r, v', HCH.out, HL.out, rfl, S7.out.drewN _, HW.out, S8.out.drewN _⟩
end Go.Proofs.Ytmdajndmobpgbaa

/- admission: New. Conditions: the shares can be read, at most 1000 of them. -/
import Derived.Test.YtmdajndmobpgbaaZHeld2
namespace Go.Proofs.Ytmdajndmobpgbaa
open Go.RowKit
open Go.Proofs.Ytmdajndmobpgbaa.Fq
open Go.Proofs.Ytmdajndmobpgbaa.Bk

def ANewP (sh : List Shr) (slots : Int) (w : World) (e : Ending) (w' : World) : Prop :=
  (adOk sh slots ∧ ∃ b m, e = .returned (.tuple #[.pointer (some ⟨b, 0, none⟩), .nilIface]) ∧ AdAt w' b m (AS.init sh slots) ∧ (∀ k, Fa b m k → w.heap.size ≤ k) ∧ Below w.heap.size w w') ∨
  (¬ adOk sh slots ∧ e = .returned (.tuple #[.pointer none, .iface 33 (.int .i64 1)]) ∧ Below w.heap.size w w')
def New0 (w : World) (sh : List Shr) (slots : Int) (v6 : Value) (wx : World) : Prop := ∃ b bl vs, v6 = .pointer (some ⟨b, 0, none⟩) ∧ NewM w sh slots b bl vs (.slice none 0 0) (.slice none 0 0) [] (.slice none 0 0) 0 wx
def NewI1 (w : World) (sh : List Shr) (slots : Int) (b bl : Nat) (vs : Value) (bkb : List Nat) (i : Nat) (v7 : Value) (wx : World) : Prop := ∃ vb, NewM w sh slots b bl vs vb vb bkb v7 i wx
def NewL (w : World) (sh : List Shr) (slots : Int) (b bl : Nat) (vs : Value) (iv v7 : Value) (wr : World) : Prop :=
  ∃ (i : Nat) (vb : Value) (bkb : List Nat), iv = .int .i64 i ∧ i ≤ sh.length ∧ bkb.length = i ∧ NewM w sh slots b bl vs vb vb bkb v7 i wr ∧ ∀ t, t < i → bkGood (shD sh t)
theorem OL.shapeA {w : World} {e : TypeId} {size n : Nat} {v : Value} {xs : List Value} (h : OL w e size v n xs) : ∃ ao cap, v = .slice ao n cap := by
  rcases h.forms with ⟨rfl, rfl⟩ | ⟨g, off, cap, rfl, _⟩
  · exact ⟨none, 0, rfl⟩
  · exact ⟨_, cap, rfl⟩
theorem quant_snoc {w : World} {ao : Option Addr} {i cap : Nat} {l : List Int} {q : Int} (hl : l.length = i) (h : OL w 3 1 (.slice ao (i + 1) cap) (i + 1) (ints l ++ ints [q])) : IsI w (.slice ao (i + 1) cap) (l ++ [q]) := by
  show OL w _ 1 _ (l ++ [q]).length (ints (l ++ [q]))
  rw [List.length_append, hl]
  unfold ints at h ⊢
  rw [List.map_append]
  exact h
section
variable {w0 w : World} {sh : List Shr} {slots : Int} {b bl i : Nat} {vs cv vb vq : Value} {bkb : List Nat}
def aoB : Option Addr → Nat
  | some a => a.block
  | none => 0
def aoO : Option Addr → Nat
  | some a => a.off
  | none => 0
theorem ints_of {w : World} {qao : Option Addr} {l : List Int} {cap : Nat} {n : Nat} {Q : Nat → Int} (hl : l.length = n) (h : IsI w (.slice qao n cap) l) (hQ : ∀ j, j < n → l.getD j 0 = Q j ∧ -9223372036854775808 ≤ Q j ∧ Q j ≤ 9223372036854775807) :
    IsInts w qao n (aoB qao) (aoO qao) Q := by
  subst hl
  rcases OL.forms h with ⟨e, e0⟩ | ⟨g, off, cp, e, _, _, hlt⟩
  · exact ⟨fun h0 => by omega, fun h0 => by omega, fun i hi => by omega, fun i hi => by omega⟩
  · simp only [Value.slice.injEq] at e
    obtain ⟨rfl, _, rfl⟩ := e
    exact ⟨fun _ => rfl, fun _ => hlt, fun i hi => by rw [← (hQ i hi).1]; exact IsI.at_ h rfl hi, fun i hi => (hQ i hi).2⟩
theorem snap (M : NewM w0 sh slots b bl vs cv vb bkb vq i w) {dx : Nat} {B T K q : Int} (D : w.heap[dx]? = some (.cells #[.int .i64 B, .int .i64 T, .int .i64 K, .int .i64 q] 29 (0, 0))) :
    w.cell? ⟨b, 1, none⟩ = some cv ∧ w.cell? ⟨dx, 3, none⟩ = some (.int .i64 q) := ⟨M.hb.cell (i := 1) (by simp), has_cell D 3⟩
theorem shD_at {t : Nat} (ht : t < sh.length) : sh[t] = shD sh t := by
  unfold shD
  rw [List.getD_eq_getElem?_getD, List.getElem?_eq_getElem ht]
  rfl
theorem NewM.lt (h : NewM w0 sh slots b bl vs cv vb bkb vq i w) {k : Nat} (hk : k ∈ bkb) : k < w.heap.size := by
  obtain ⟨cs, hc⟩ := bk_at h hk
  exact lt_of_block hc
end
theorem NewM.undrew {w0 w : World} {sh : List Shr} {slots : Int} {b bl i : Nat} {vs cv vb vq : Value} {bkb : List Nat} (h : NewM w0.drew sh slots b bl vs cv vb bkb vq i w) : NewM w0 sh slots b bl vs cv vb bkb vq i w :=
  { h with nw := h.nw, be := (below_drew w0.heap.size w0).trans h.be }
theorem newM_start {w w1 : World} {v1 : Value} {sh : List Shr} {slots : Int} (hv : IsS w1 v1 sh) (hn : ∀ k, v1.ownBlock = some k → w.heap.size ≤ k) (hb : Below w.heap.size w w1) :
    NewM w sh slots (w1.heap.size + 1) w1.heap.size v1 (.slice none 0 0) (.slice none 0 0) [] (.slice none 0 0) 0 ((w1.alloc (.cells (madeCells #[.slice none 0 0] sh.length) 98)).alloc (.cells #[v1, .slice none 0 0, .int .i64 slots, .pointer none, .slice (some ⟨w1.heap.size, 0, none⟩) sh.length sh.length, .slice none 0 0] 89)) := by
  have b1 : Below w1.heap.size w1 (w1.alloc (.cells (madeCells #[.slice none 0 0] sh.length) 98)) := by go_grown
  have b2 : Below w1.heap.size w1 ((w1.alloc (.cells (madeCells #[.slice none 0 0] sh.length) 98)).alloc (.cells #[v1, .slice none 0 0, .int .i64 slots, .pointer none, .slice (some ⟨w1.heap.size, 0, none⟩) sh.length sh.length, .slice none 0 0] 89)) := by go_grown
  have hs := hb.size
  exact {
    hb := heap_at (by simp)
    hs := hv.belowS b2
    hl := (Row.made (heap_alloc_new w1 _)).alloc _
    hp := OL.nil _ _ _
    hk := fun t ht => by simp at ht
    kd := List.nodup_nil
    hq := (show IsI _ _ [] from OL.nil _ _ _)
    nw := fun k hk => by
      rcases hk with hk | hk | hk | hk | hk | hk
      · omega
      · exact hn k hk
      · simp [Value.ownBlock] at hk
      · cases hk
      · omega
      · simp [Value.ownBlock] at hk
    be := hb.trans (b2.mono hb.size) }
theorem newM_start2 {w w1 : World} {v1 : Value} {sh : List Shr} {slots : Int} (hv : IsS w1 v1 sh) (hn : ∀ k, v1.ownBlock = some k → (w.alloc (.cells (madeCells #[.slice none 0 0] sh.length) 98)).heap.size ≤ k) (hb : Below (w.alloc (.cells (madeCells #[.slice none 0 0] sh.length) 98)).heap.size (w.alloc (.cells (madeCells #[.slice none 0 0] sh.length) 98)) w1) :
    NewM w sh slots w1.heap.size w.heap.size v1 (.slice none 0 0) (.slice none 0 0) [] (.slice none 0 0) 0 (w1.alloc (.cells #[v1, .slice none 0 0, .int .i64 slots, .pointer none, .slice (some ⟨w.heap.size, 0, none⟩) sh.length sh.length, .slice none 0 0] 89)) := by
  have b1 : Below w.heap.size w (w.alloc (.cells (madeCells #[.slice none 0 0] sh.length) 98)) := by go_grown
  have b2 : Below w1.heap.size w1 (w1.alloc (.cells #[v1, .slice none 0 0, .int .i64 slots, .pointer none, .slice (some ⟨w.heap.size, 0, none⟩) sh.length sh.length, .slice none 0 0] 89)) := by go_grown
  have hs := hb.size
  rw [World.size_alloc] at hs
  exact {
    hb := heap_alloc_new w1 _
    hs := hv.belowS b2
    hl := Row.belowS ((Row.made (heap_alloc_new w _)).belowS hb) b2
    hp := OL.nil _ _ _
    hk := fun t ht => by simp at ht
    kd := List.nodup_nil
    hq := (show IsI _ _ [] from OL.nil _ _ _)
    nw := fun k hk => by
      rcases hk with hk | hk | hk | hk | hk | hk
      · omega
      · have := hn k hk; rw [World.size_alloc] at this; omega
      · simp [Value.ownBlock] at hk
      · cases hk
      · omega
      · simp [Value.ownBlock] at hk
    be := (b1.trans (hb.mono b1.size)).trans (b2.mono (by omega)) }
theorem init_q (sh : List Shr) (slots : Int) (t : Nat) : (AS.init sh slots).q t = [] := by
  unfold AS.q AS.init
  by_cases h : t < sh.length <;> simp [List.getD, h]
theorem init_bkt (sh : List Shr) (slots : Int) {t : Nat} (h : t < sh.length) : (AS.init sh slots).bkt t = ((shD sh t).b * (shD sh t).k, 0) := by
  unfold AS.bkt AS.init shD
  simp [List.getD, h]
theorem qv_nil (n t : Nat) : qv (List.replicate n nilS) t = nilS := by
  unfold qv
  by_cases h : t < n <;> simp [List.getD, h]
/-- What New has made at last. -/
theorem NewM.done {w0 w w2 : World} {sh : List Shr} {slots : Int} {b bl i : Nat} {vs vb vq : Value} {bkb : List Nat} (M : NewM w0 sh slots b bl vs vb vb bkb vq i w) (hl : bkb.length = sh.length) {bf fbq fcq fbd fbl : Nat}
    (hA : FqAt w2 bf fbq fcq fbd sh.length [] fbl (List.replicate sh.length nilS) (FQ.init (fun j => (shD sh j).q) sh.length)) (hb : Below w.heap.size w w2) (hf : w.heap.size ≤ bf ∧ w.heap.size ≤ fbq ∧ w.heap.size ≤ fbd ∧ w.heap.size ≤ fbl) :
    ∃ m, AdAt (w2.setCell ⟨b, 3, none⟩ (.pointer (some ⟨bf, 0, none⟩))) b m (AS.init sh slots) ∧ (∀ k, Fa b m k → w0.heap.size ≤ k) ∧ Below w0.heap.size w0 (w2.setCell ⟨b, 3, none⟩ (.pointer (some ⟨bf, 0, none⟩))) := by
  have M2 := M.belowS hb
  have hb0 := M.be.size
  have hbl : b < w.heap.size := lt_of_block M.hb
  have hb1 : w2.heap[b]? = some (.cells [vs, vb, .int .i64 slots, .pointer none, .slice (some ⟨bl, 0, none⟩) sh.length sh.length, .slice none 0 0].toArray 89 (0, 0)) := M2.hb
  have hh : ∀ {k : Nat} {cs : Array Value} {t : TypeId}, w2.heap[k]? = some (.cells cs t (0, 0)) → t ≠ 89 → (w2.setCell ⟨b, 3, none⟩ (.pointer (some ⟨bf, 0, none⟩))).heap[k]? = w2.heap[k]? := fun hk hn => setCell_other fun e => type_ne hk hb1 hn e
  have fp : ∀ k, Go.Proofs.Ytmdajndmobpgbaa.Fp bf fbq fbd fbl (List.replicate sh.length nilS) k → w.heap.size ≤ k := fun k hk => by
    rcases hk with rfl | rfl | rfl | rfl | ⟨t, ht⟩
    · exact hf.1
    · exact hf.2.1
    · exact hf.2.2.1
    · exact hf.2.2.2
    · rw [qv_nil] at ht; simp [nilS, Value.ownBlock] at ht
  refine ⟨⟨vs, vb, bkb, bf, bl, List.replicate sh.length nilS, .slice none 0 0, fbq, fcq, fbd, sh.length, [], fbl, List.replicate sh.length nilS⟩, ?_, ?_, ?_⟩
  · exact {
      hb := Row.set (cs := [vs, vb, .int .i64 slots, .pointer none, .slice (some ⟨bl, 0, none⟩) sh.length sh.length, .slice none 0 0]) hb1 3 _
      hs := OL.heap M2.hs fun g hg => by obtain ⟨cs, hc⟩ := OL.elem M2.hs g hg; exact hh hc (by decide)
      hp := by
        have h1 := M2.hp
        rw [hl] at h1
        exact OL.heap h1 fun g hg => by obtain ⟨cs, hc⟩ := OL.elem h1 g hg; exact hh hc (by decide)
      hk := fun t ht => by
        rw [init_bkt sh slots ht]
        have h1 := M2.hk t (by rw [hl]; exact ht)
        exact (hh h1 (by decide)).trans h1
      hl := (hh M2.hl (by decide)).trans M2.hl
      hq := fun t ht => by rw [init_q]; show IsQ _ (qv (List.replicate sh.length nilS) t) []; rw [qv_nil]; exact OL.nil _ _ _
      hr := (show IsI _ _ [] from OL.nil _ _ _)
      hf := hA.same fun k hk => setCell_other fun e => by have := fp k hk; omega
      lq := by show (List.replicate sh.length ([] : List Ent)).length = _; simp; rfl
      lk := by show (sh.map _).length = _; rw [List.length_map]; rfl
      lb := hl
      lv := by show (List.replicate sh.length nilS).length = _; simp; rfl
      lf := init_m _ _
      ap := fun t t' g _ h1 => by
        have h1 : (qv (List.replicate sh.length nilS) t).ownBlock = some g := h1
        rw [qv_nil] at h1; simp [nilS, Value.ownBlock] at h1
      kd := M2.kd
      rf := fun g hg => by simp [Value.ownBlock] at hg }
  · rintro k (hk | hk | hk | hk | hk | ⟨t, hk⟩ | hk | hk)
    · exact M.nw k (.inl hk)
    · exact M.nw k (.inr (.inl hk))
    · exact M.nw k (.inr (.inr (.inl hk)))
    · exact M.nw k (.inr (.inr (.inr (.inl hk))))
    · exact M.nw k (.inr (.inr (.inr (.inr (.inl hk)))))
    · have hk : (qv (List.replicate sh.length nilS) t).ownBlock = some k := hk
      rw [qv_nil] at hk; simp [nilS, Value.ownBlock] at hk
    · simp [Value.ownBlock] at hk
    · have := fp k hk; omega
  · exact (M.be.trans (hb.mono hb0)).setCell (M.nw b (.inl rfl)) _
set_option maxRecDepth 100000 in
set_option maxHeartbeats 3200000 in
theorem a_new {w : World} {v : Value} {sh : List Shr} (h : IsS w v sh) (hn : sh.length ≤ 1000) (hqb : ∀ s ∈ sh, -9223372036854775808 ≤ s.q ∧ s.q ≤ 9223372036854775807) (slots : Int) : Calls Try.prog 11 #[v, .int .i64 slots] w (ANewP sh slots w) := by
  obtain ⟨ao, c, rfl, hao, _⟩ := h.form
  by_cases hs : 1 ≤ slots ∧ slots ≤ 256
  · have hs1 := hs.1
    have hs2 := hs.2
    have CC := Lib.hid (fun w1 (hb : Below w.heap.size w w1) => as_clone (h.belowS hb) (by omega))
    have hmk := fun w => run_make_row' (P := Try.prog) 85 98 (.slice none 0 0) 24 Try.underlying85 (by kernel_rfl) rfl .i64 .i64 sh.length (by omega) (by omega) w
    have H := Lib.hid h
    have HAO := Lib.hid hao
    have HSL := Lib.hid hs
    have HLE : Hid (sh.length ≤ 1000) := Lib.hid hn
    clear h hao hs
    go_enter Try.func11, Try.ntmps11
    go_upto_region 3 with fail
    go_cut [6] (fun v6 wx => New0 w sh slots v6 wx)
    case first =>
      have hT : (fun _ : World => True) w.drew := trivial
      refine AnyZ.start 8 (fun _ : World => True) (by kernel_rfl) ?_
      refine AnyZ.take (i := 0) (v := ?_) rfl (by kernel_rfl) (fun _ _ _ h => h) (by rfl) hT ?_ ?_
      rotate_left
      · intro w hSw
        go_simp
        with_reducible rfl
      try simp only [List.getElem_toArray, List.getElem_cons_zero, Act.put, List.setIfInBounds_toArray, List.set_cons_zero, List.set_cons_succ]
      refine AnyZ.take (i := 2) (v := ?_) rfl (by kernel_rfl) (fun _ _ _ h => h) (by rfl) hT ?_ ?_
      rotate_left
      · intro w hSw
        go_simp
        with_reducible rfl
      try simp only [List.getElem_toArray, List.getElem_cons_succ, List.getElem_cons_zero, Act.put, List.setIfInBounds_toArray, List.set_cons_zero, List.set_cons_succ]
      refine AnyZ.take (i := 3) (v := ?_) rfl (by kernel_rfl) (fun _ _ _ h => h) (by rfl) hT ?_ ?_
      rotate_left
      · intro w hSw
        go_simp
        with_reducible rfl
      try simp only [List.getElem_toArray, List.getElem_cons_succ, List.getElem_cons_zero, Act.put, List.setIfInBounds_toArray, List.set_cons_zero, List.set_cons_succ]
      refine AnyZ.take (i := 4) (v := ?_) rfl (by kernel_rfl) (fun _ _ _ h => h) (by rfl) hT ?_ ?_
      rotate_left
      · intro w hSw
        go_simp
        with_reducible rfl
      try simp only [List.getElem_toArray, List.getElem_cons_succ, List.getElem_cons_zero, Act.put, List.setIfInBounds_toArray, List.set_cons_zero, List.set_cons_succ]
      refine AnyZ.two (i := 1) (j := 5) rfl rfl (by kernel_rfl) rfl rfl (fun K hK => ?_) (fun K hK => ?_)
      · go_simp
        refine (CC.out _ (below_drew _ w)).mono ?_
        rintro e w1 ⟨v1, rfl, hv1, hn1, hb1⟩
        obtain ⟨ao1, c1, hve⟩ := OL.shapeA hv1
        subst hve
        go_simp
        refine hK.out _ _ (.inr trivial) ?_
        clear hK K
        refine AnyZ.one (i := 5) rfl (by kernel_rfl) rfl (fun K hK => ?_)
        go_simp
        refine hK.out _ _ (.inr trivial) ?_
        clear hK K
        refine AnyZ.take (i := 6) (v := ?_) rfl (by kernel_rfl) (fun _ _ _ h => h) (by rfl) trivial ?_ ?_
        rotate_left
        · intro w hSw
          go_simp
          with_reducible rfl
        try simp only [List.getElem_toArray, List.getElem_cons_succ, List.getElem_cons_zero, Act.put, List.setIfInBounds_toArray, List.set_cons_zero, List.set_cons_succ]
        refine AnyZ.one (i := 7) rfl (by kernel_rfl) rfl (fun K hK => ?_)
        go_simp
        refine hK.out _ _ (.inr trivial) ?_
        clear hK K
        refine AnyZ.one (i := 8) rfl (by kernel_rfl) rfl (fun K hK => ?_)
        go_simp
        refine hK.out _ _ (.inl rfl) ?_
        clear hK K
        refine AnyZ.done (by kernel_rfl) ?_ _
        have HM := Lib.hid (newM_start (w := w) (slots := slots) hv1 hn1 ((below_drew w.heap.size w).trans hb1))
        clear hv1 hn1 hb1 hmk
        go_wp2_with fail
        go_meet
        case rel => exact ⟨_, _, _, rfl, HM.out⟩
      · go_simp
        refine hK.out _ _ (.inr trivial) ?_
        clear hK K
        refine AnyZ.one (i := 1) rfl (by kernel_rfl) rfl (fun K hK => ?_)
        go_simp
        refine (CC.out _ (((below_drew w.heap.size w).alloc (by exact Nat.le_refl _) _))).mono ?_
        rintro e w1 ⟨v1, rfl, hv1, hn1, hb1⟩
        obtain ⟨ao1, c1, hve⟩ := OL.shapeA hv1
        subst hve
        go_simp
        refine hK.out _ _ (.inr trivial) ?_
        clear hK K
        refine AnyZ.take (i := 6) (v := ?_) rfl (by kernel_rfl) (fun _ _ _ h => h) (by rfl) trivial ?_ ?_
        rotate_left
        · intro w hSw
          go_simp
          with_reducible rfl
        try simp only [List.getElem_toArray, List.getElem_cons_succ, List.getElem_cons_zero, Act.put, List.setIfInBounds_toArray, List.set_cons_zero, List.set_cons_succ]
        refine AnyZ.one (i := 7) rfl (by kernel_rfl) rfl (fun K hK => ?_)
        go_simp
        refine hK.out _ _ (.inr trivial) ?_
        clear hK K
        refine AnyZ.one (i := 8) rfl (by kernel_rfl) rfl (fun K hK => ?_)
        go_simp
        refine hK.out _ _ (.inl rfl) ?_
        clear hK K
        refine AnyZ.done (by kernel_rfl) ?_ _
        have HM := Lib.hid ((newM_start2 (w := w.drew) (slots := slots) hv1 hn1 hb1).undrew)
        clear hv1 hn1 hb1 hmk
        go_wp2_with fail
        go_meet
        case rel => exact ⟨_, _, _, rfl, HM.out⟩
    case rest =>
      obtain ⟨b, bl, vs, rfl, hM⟩ := hcut
      clear hmk CC
      go_wp2_with fail
      go_loopw [30, 7] (fun iv v7 wr => NewL w sh slots b bl vs iv v7 wr) (fun iv _ _ => sh.length - (intOf iv).toNat)
      case atStart => exact ⟨0, _, [], rfl, Nat.zero_le _, rfl, hM, fun t ht => by omega⟩
      case round =>
        clear hM
        obtain ⟨i, vb, bkb, rfl, hi, hlb, hM, hgd⟩ := hrel
        have M0 := Lib.hid hM
        have HGD := Lib.hid hgd
        obtain ⟨pao, pcap, hvb⟩ := OL.shapeA hM.hp
        rw [hlb] at hvb
        obtain ⟨qao, qcap, hvq⟩ := OL.shapeA hM.hq
        have hql : ((sh.take i).map Shr.q).length = i := by rw [List.length_map, List.length_take]; omega
        rw [hql] at hvq
        subst hvb hvq
        have HL := Lib.hid hlb
        have HQL := Lib.hid hql
        have hbe := hM.be
        clear hM hgd hlb hql
        by_cases hlt : i < sh.length
        · obtain ⟨gs, os, rfl⟩ := HAO.out (by omega)
          obtain ⟨c0, c1, c2, c3⟩ := (H.out.belowS hbe).at_ hlt rfl
          rw [shD_at hlt] at c0 c1 c2 c3
          have HSH : Hid (∃ s, shD sh i = s) := Lib.hid ⟨_, rfl⟩
          have HIL := Lib.hid hlt
          have iI : (i : Int) < (sh.length : Int) := by omega
          have iI0 : (0 : Int) ≤ (i : Int) := by omega
          by_cases hg : bkGood (shD sh i)
          · obtain ⟨⟨b1, b2⟩, ⟨t1, t2⟩, ⟨k1, k2⟩⟩ := hg
            have HG := Lib.hid (show bkGood (shD sh i) from ⟨⟨b1, b2⟩, ⟨t1, t2⟩, ⟨k1, k2⟩⟩)
            obtain ⟨B, hB⟩ : ∃ B, (shD sh i).b = B := ⟨_, rfl⟩
            obtain ⟨T, hT⟩ : ∃ T, (shD sh i).t = T := ⟨_, rfl⟩
            obtain ⟨K, hK⟩ : ∃ K, (shD sh i).k = K := ⟨_, rfl⟩
            obtain ⟨q, hq⟩ : ∃ q, (shD sh i).q = q := ⟨_, rfl⟩
            rw [hB] at c0 b1 b2
            rw [hT] at c1 t1 t2
            rw [hK] at c2 k1 k2
            rw [hq] at c3
            have CN := Lib.hid (fun w1 => new_any B T K w1 b1 b2 t1 t2 k1 k2)
            have hal1 : Below wr.heap.size wr (wr.alloc (.cells #[.int .i64 B, .int .i64 T, .int .i64 K, .int .i64 q] 29)) := by go_grown
            have hal2 : Below wr.heap.size wr ((wr.alloc (.cells #[.int .i64 B, .int .i64 T, .int .i64 K, .int .i64 q] 29)).alloc (.cells #[.int .i64 B, .int .i64 T, .int .i64 K, .int .i64 (B * K), .int .i64 0] 137)) := by go_grown
            have M2 := Lib.hid (M0.out.belowS hal2)
            have B2 : Hid (IsBk ((wr.alloc (.cells #[.int .i64 B, .int .i64 T, .int .i64 K, .int .i64 q] 29)).alloc (.cells #[.int .i64 B, .int .i64 T, .int .i64 K, .int .i64 (B * K), .int .i64 0] 137)) (wr.heap.size + 1) (shD sh i).b (shD sh i).t (shD sh i).k ((shD sh i).b * (shD sh i).k) 0) := Lib.hid (by
              rw [hB, hT, hK]
              exact heap_at (by simp))
            have D2 : Hid (((wr.alloc (.cells #[.int .i64 B, .int .i64 T, .int .i64 K, .int .i64 q] 29)).alloc (.cells #[.int .i64 B, .int .i64 T, .int .i64 K, .int .i64 (B * K), .int .i64 0] 137)).heap[wr.heap.size]? = some (.cells #[.int .i64 B, .int .i64 T, .int .i64 K, .int .i64 q] 29 (0, 0))) := Lib.hid (has_alloc (heap_alloc_new wr _) _)
            have HXN : Hid (wr.heap.size + 1 ∉ bkb) := Lib.hid (fun hm => by have := M0.out.lt hm; omega)
            have HX0 : Hid (w.heap.size ≤ wr.heap.size + 1) := Lib.hid (by have := hbe.size; omega)
            have x0 := (has_cell (heap_alloc_new wr (.cells #[.int .i64 B, .int .i64 T, .int .i64 K, .int .i64 q] 29)) 0).trans (show _ = some (Value.int .i64 B) from rfl)
            have x1 := (has_cell (heap_alloc_new wr (.cells #[.int .i64 B, .int .i64 T, .int .i64 K, .int .i64 q] 29)) 1).trans (show _ = some (Value.int .i64 T) from rfl)
            have x2 := (has_cell (heap_alloc_new wr (.cells #[.int .i64 B, .int .i64 T, .int .i64 K, .int .i64 q] 29)) 2).trans (show _ = some (Value.int .i64 K) from rfl)
            have HSQ : Hid ((shD sh i).q = q) := Lib.hid hq
            clear hbe hal1 hal2 hB hT hK hq M0 HSH
            go_wp2_with fail
            refine (CN.out _).mono ?_
            rintro e w2 ⟨rfl, hw2⟩
            rw [← hw2] at M2 B2 D2
            clear hw2 CN x0 x1 x2
            go_upto_region 11 with fail
            generalize wr.heap.size + 1 = x at *
            generalize wr.heap.size = dx at *
            have hpl : (0 : Int) ≤ (i : Int) := by omega
            have Mw3 := Lib.hid (M2.out.belowS (below_drew _ w2))
            have Bw3 := Lib.hid (show IsBk w2.drew x _ _ _ _ _ from B2.out)
            have Dw3 := Lib.hid (show w2.drew.heap[dx]? = _ from D2.out)
            refine AnyL.start [15, 16] (fun w' : World => w'.cell? ⟨b, 1, none⟩ = some (.slice pao i pcap) ∧ w'.cell? ⟨dx, 3, none⟩ = some (.int .i64 q)) (by kernel_rfl) ?_
            clear M2 B2 D2
            generalize w2.drew = w3 at *
            have hS3 := snap Mw3.out Dw3.out
            refine AnyL.take (i := 0) (v := ?_) rfl (by kernel_rfl) (fun _ _ _ h => h) (by rfl) hS3 ?_ ?_
            rotate_left
            · intro w hSw
              go_simp
              with_reducible rfl
            try simp only [List.getElem_toArray, List.getElem_cons_zero, Act.put, List.setIfInBounds_toArray, List.set_cons_zero, List.set_cons_succ]
            refine AnyL.take (i := 1) (v := ?_) rfl (by kernel_rfl) (fun _ _ _ h => h) (by rfl) hS3 ?_ ?_
            rotate_left
            · intro w hSw
              go_simp
              with_reducible rfl
            try simp only [List.getElem_toArray, List.getElem_cons_succ, List.getElem_cons_zero, Act.put, List.setIfInBounds_toArray, List.set_cons_zero, List.set_cons_succ]
            refine AnyL.take (i := 2) (v := ?_) rfl (by kernel_rfl) (fun _ _ _ h => h) (by rfl) hS3 ?_ ?_
            rotate_left
            · intro w hSw
              go_simp
              with_reducible rfl
            try simp only [List.getElem_toArray, List.getElem_cons_succ, List.getElem_cons_zero, Act.put, List.setIfInBounds_toArray, List.set_cons_zero, List.set_cons_succ]
            refine AnyL.take (i := 3) (v := ?_) rfl (by kernel_rfl) (fun _ _ _ h => h) (by rfl) hS3 ?_ ?_
            rotate_left
            · intro w hSw
              go_simp
              with_reducible rfl
            try simp only [List.getElem_toArray, List.getElem_cons_succ, List.getElem_cons_zero, Act.put, List.setIfInBounds_toArray, List.set_cons_zero, List.set_cons_succ]
            refine AnyL.take (i := 4) (v := ?_) rfl (by kernel_rfl) (fun _ _ _ h => h) (by rfl) hS3 ?_ ?_
            rotate_left
            · intro w hSw
              go_simp
              with_reducible rfl
            try simp only [List.getElem_toArray, List.getElem_cons_succ, List.getElem_cons_zero, Act.put, List.setIfInBounds_toArray, List.set_cons_zero, List.set_cons_succ]
            refine AnyL.take (i := 5) (v := ?_) rfl (by kernel_rfl) (fun _ _ _ h => h) (by rfl) hS3 ?_ ?_
            rotate_left
            · intro w hSw
              go_simp
              with_reducible rfl
            try simp only [List.getElem_toArray, List.getElem_cons_succ, List.getElem_cons_zero, Act.put, List.setIfInBounds_toArray, List.set_cons_zero, List.set_cons_succ]
            refine AnyL.takeP [12] (i := 8) (v := ?_) rfl (by kernel_rfl) (fun _ _ _ h => h) (by rfl) hS3 ?_ ?_
            rotate_left
            · intro w hSw
              go_simp
              with_reducible rfl
            try simp only [List.getElem_toArray, List.getElem_cons_succ, List.getElem_cons_zero, Act.put, List.setIfInBounds_toArray, List.set_cons_zero, List.set_cons_succ]
            refine AnyL.takeP [12,11,10] (i := 9) (v := ?_) rfl (by kernel_rfl) (fun _ _ _ h => h) (by rfl) hS3 ?_ ?_
            rotate_left
            · intro w hSw
              go_simp
              with_reducible rfl
            try simp only [List.getElem_toArray, List.getElem_cons_succ, List.getElem_cons_zero, Act.put, List.setIfInBounds_toArray, List.set_cons_zero, List.set_cons_succ]
            refine AnyL.takeP [12,11] (i := 10) (v := ?_) rfl (by kernel_rfl) (fun _ _ _ h => h) (by rfl) hS3 ?_ ?_
            rotate_left
            · intro w hSw
              go_simp
              with_reducible rfl
            try simp only [List.getElem_toArray, List.getElem_cons_succ, List.getElem_cons_zero, Act.put, List.setIfInBounds_toArray, List.set_cons_zero, List.set_cons_succ]
            refine AnyL.two (i := 6) (j := 11) rfl rfl (by kernel_rfl) rfl rfl (fun K hK => ?_) (fun K hK => ?_)
            · skip
              go_simp
              have hal : Below w3.heap.size w3 (w3.alloc (.cells #[.pointer (some ⟨x, 0, none⟩)] 90)) := by go_grown
              have Mw4 := Lib.hid (Mw3.out.belowS hal)
              have Bw4 := Lib.hid (show IsBk _ x _ _ _ _ _ from below_ats hal Bw3.out)
              have Dw4 := Lib.hid (below_ats hal Dw3.out)
              have Pw4 := Lib.hid (heap_alloc_new w3 (.cells #[.pointer (some ⟨x, 0, none⟩)] 90))
              have hSw4 := snap (Mw4.out) Dw4.out
              refine hK.out _ _ (.inr hSw4) ?_
              clear hK K
              clear hal
              generalize w3.alloc (.cells #[.pointer (some ⟨x, 0, none⟩)] 90) = w4 at *
              generalize w3.heap.size = xp at *
              refine AnyL.two (i := 7) (j := 11) rfl rfl (by kernel_rfl) rfl rfl (fun K hK => ?_) (fun K hK => ?_)
              · skip
                obtain ⟨aoP, capP, w5, hap, hol, hgr, hown⟩ := app_at Mw4.out.hp 86 _ 8 Try.underlying86 infoP rfl (by omega) [ptrV x] rfl (fun u hu => by rw [List.mem_singleton] at hu; subst hu; rfl) (by rw [HL.out]; omega) (by omega) Pw4.out
                have Mw5 := Lib.hid (Mw4.out.appP (by rw [HL.out]; exact Bw4.out) HXN.out HX0.out hgr hol hown)
                have Dw5 := Lib.hid (show w5.heap[dx]? = _ from (hgr.block dx (lt_of_block Dw4.out) fun e => by obtain ⟨cs, hc⟩ := OL.elem Mw4.out.hp dx e.symm; exact type_ne Dw4.out hc (by decide) rfl).trans Dw4.out)
                rw [HL.out] at hap Mw5
                refine wp_append_run (v := .slice pao i pcap) (xv := .slice (some ⟨xp, 0, none⟩) 1 1) (.tmp 51) (.tmp 53) 86 86 rfl (by rfl) (by rfl) hap ?_
                have hSw5 := snap (Mw5.out) Dw5.out
                refine hK.out _ _ (.inr hSw5) ?_
                clear hK K
                clear hap hol hgr hown
                refine AnyL.one (i := 11) rfl (by kernel_rfl) rfl (fun K hK => ?_)
                go_simp
                have hal : Below w5.heap.size w5 (w5.alloc (.cells #[.int .i64 q] 3)) := by go_grown
                have Mw6 := Lib.hid (Mw5.out.belowS hal)
                skip
                have Dw6 := Lib.hid (below_ats hal Dw5.out)
                have Qw6 := Lib.hid (heap_alloc_new w5 (.cells #[.int .i64 q] 3))
                have hSw6 := snap (Mw6.out) Dw6.out
                refine hK.out _ _ (.inr hSw6) ?_
                clear hK K
                clear hal
                generalize w5.alloc (.cells #[.int .i64 q] 3) = w6 at *
                generalize w5.heap.size = xq at *
                refine AnyL.one (i := 12) rfl (by kernel_rfl) rfl (fun K hK => ?_)
                obtain ⟨aoQ, capQ, w7, hap, hol, hgr, hown⟩ := app_at Mw6.out.hq 37 _ 8 Try.underlying37 infoI rfl (by omega) (ints [q]) rfl (ints_oneA _) (by simp; omega) (by omega) Qw6.out
                rw [HQL.out] at hap hown hol
                have Mw7 := Lib.hid (Mw6.out.appQ HIL.out hgr (show IsI _ _ _ from by rw [HSQ.out]; exact quant_snoc HQL.out hol) hown)
                have Dw7 := Lib.hid (show w7.heap[dx]? = _ from (hgr.block dx (lt_of_block Dw6.out) fun e => by obtain ⟨cs, hc⟩ := OL.elem Mw6.out.hq dx e.symm; exact type_ne Dw6.out hc (by decide) rfl).trans Dw6.out)
                refine wp_append_run (v := .slice qao i qcap) (xv := .slice (some ⟨xq, 0, none⟩) 1 1) (.tmp 55) (.tmp 58) 37 37 rfl (by rfl) (by rfl) hap ?_
                have hSw7 := snap (Mw7.out) Dw7.out
                refine hK.out _ _ (.inr hSw7) ?_
                clear hK K
                clear hap hol hgr hown
                refine AnyL.takeP [14] (i := 13) (v := ?_) rfl (by kernel_rfl) (fun _ _ _ h => h) (by rfl) hSw7 ?_ ?_
                rotate_left
                · intro w hSw
                  go_simp
                  with_reducible rfl
                try simp only [List.getElem_toArray, List.getElem_cons_succ, List.getElem_cons_zero, Act.put, List.setIfInBounds_toArray, List.set_cons_zero, List.set_cons_succ]
                refine AnyL.take (i := 14) (v := ?_) rfl (by kernel_rfl) (fun _ _ _ h => h) (by rfl) hSw7 ?_ ?_
                rotate_left
                · intro w hSw
                  go_simp
                  with_reducible rfl
                try simp only [List.getElem_toArray, List.getElem_cons_succ, List.getElem_cons_zero, Act.put, List.setIfInBounds_toArray, List.set_cons_zero, List.set_cons_succ]
                have hfz := Mw7.out.hb.free 1
                refine AnyL.one (i := 15) rfl (by kernel_rfl) rfl (fun K hK => ?_)
                go_simp
                refine hK.out _ _ (.inl (by simp)) ?_
                clear hK K
                refine AnyL.one (i := 16) rfl (by kernel_rfl) rfl (fun K hK => ?_)
                go_simp
                have M9 := Lib.hid (Mw7.out.set)
                clear hSw7 hfz
                refine hK.out _ _ (.inl (by simp)) ?_
                clear hK K
                refine AnyL.done (by kernel_rfl) ?_ _
                go_wp2_with fail
                go_roundw
                case rel => exact ⟨i + 1, _, bkb ++ [x], by go_num, HIL.out, by rw [List.length_append, HL.out]; rfl, M9.out, fun t ht => by
                    by_cases e : t = i
                    · subst e; exact HG.out
                    · exact HGD.out t (by omega)⟩
                case measure => simp [intOf]; omega
              · skip
                go_simp
                have hal : Below w4.heap.size w4 (w4.alloc (.cells #[.int .i64 q] 3)) := by go_grown
                have Mw5 := Lib.hid (Mw4.out.belowS hal)
                have Bw5 := Lib.hid (show IsBk _ x _ _ _ _ _ from below_ats hal Bw4.out)
                have Dw5 := Lib.hid (below_ats hal Dw4.out)
                have Pw5 := Lib.hid (below_ats hal Pw4.out)
                have Qw5 := Lib.hid (heap_alloc_new w4 (.cells #[.int .i64 q] 3))
                have hSw5 := snap (Mw5.out) Dw5.out
                refine hK.out _ _ (.inr hSw5) ?_
                clear hK K
                clear hal
                generalize w4.alloc (.cells #[.int .i64 q] 3) = w5 at *
                generalize w4.heap.size = xq at *
                refine AnyL.one (i := 7) rfl (by kernel_rfl) rfl (fun K hK => ?_)
                obtain ⟨aoP, capP, w6, hap, hol, hgr, hown⟩ := app_at Mw5.out.hp 86 _ 8 Try.underlying86 infoP rfl (by omega) [ptrV x] rfl (fun u hu => by rw [List.mem_singleton] at hu; subst hu; rfl) (by rw [HL.out]; omega) (by omega) Pw5.out
                have Mw6 := Lib.hid (Mw5.out.appP (by rw [HL.out]; exact Bw5.out) HXN.out HX0.out hgr hol hown)
                have Dw6 := Lib.hid (show w6.heap[dx]? = _ from (hgr.block dx (lt_of_block Dw5.out) fun e => by obtain ⟨cs, hc⟩ := OL.elem Mw5.out.hp dx e.symm; exact type_ne Dw5.out hc (by decide) rfl).trans Dw5.out)
                have Qw6 := Lib.hid (show w6.heap[xq]? = _ from (hgr.block xq (lt_of_block Qw5.out) fun e => by obtain ⟨cs, hc⟩ := OL.elem Mw5.out.hp xq e.symm; exact type_ne Qw5.out hc (by decide) rfl).trans Qw5.out)
                rw [HL.out] at hap Mw6
                refine wp_append_run (v := .slice pao i pcap) (xv := .slice (some ⟨xp, 0, none⟩) 1 1) (.tmp 51) (.tmp 53) 86 86 rfl (by rfl) (by rfl) hap ?_
                have hSw6 := snap (Mw6.out) Dw6.out
                refine hK.out _ _ (.inr hSw6) ?_
                clear hK K
                clear hap hol hgr hown
                refine AnyL.one (i := 12) rfl (by kernel_rfl) rfl (fun K hK => ?_)
                obtain ⟨aoQ, capQ, w7, hap, hol, hgr, hown⟩ := app_at Mw6.out.hq 37 _ 8 Try.underlying37 infoI rfl (by omega) (ints [q]) rfl (ints_oneA _) (by simp; omega) (by omega) Qw6.out
                rw [HQL.out] at hap hown hol
                have Mw7 := Lib.hid (Mw6.out.appQ HIL.out hgr (show IsI _ _ _ from by rw [HSQ.out]; exact quant_snoc HQL.out hol) hown)
                have Dw7 := Lib.hid (show w7.heap[dx]? = _ from (hgr.block dx (lt_of_block Dw6.out) fun e => by obtain ⟨cs, hc⟩ := OL.elem Mw6.out.hq dx e.symm; exact type_ne Dw6.out hc (by decide) rfl).trans Dw6.out)
                refine wp_append_run (v := .slice qao i qcap) (xv := .slice (some ⟨xq, 0, none⟩) 1 1) (.tmp 55) (.tmp 58) 37 37 rfl (by rfl) (by rfl) hap ?_
                have hSw7 := snap (Mw7.out) Dw7.out
                refine hK.out _ _ (.inr hSw7) ?_
                clear hK K
                clear hap hol hgr hown
                refine AnyL.takeP [14] (i := 13) (v := ?_) rfl (by kernel_rfl) (fun _ _ _ h => h) (by rfl) hSw7 ?_ ?_
                rotate_left
                · intro w hSw
                  go_simp
                  with_reducible rfl
                try simp only [List.getElem_toArray, List.getElem_cons_succ, List.getElem_cons_zero, Act.put, List.setIfInBounds_toArray, List.set_cons_zero, List.set_cons_succ]
                refine AnyL.take (i := 14) (v := ?_) rfl (by kernel_rfl) (fun _ _ _ h => h) (by rfl) hSw7 ?_ ?_
                rotate_left
                · intro w hSw
                  go_simp
                  with_reducible rfl
                try simp only [List.getElem_toArray, List.getElem_cons_succ, List.getElem_cons_zero, Act.put, List.setIfInBounds_toArray, List.set_cons_zero, List.set_cons_succ]
                have hfz := Mw7.out.hb.free 1
                refine AnyL.one (i := 15) rfl (by kernel_rfl) rfl (fun K hK => ?_)
                go_simp
                refine hK.out _ _ (.inl (by simp)) ?_
                clear hK K
                refine AnyL.one (i := 16) rfl (by kernel_rfl) rfl (fun K hK => ?_)
                go_simp
                have M9 := Lib.hid (Mw7.out.set)
                clear hSw7 hfz
                refine hK.out _ _ (.inl (by simp)) ?_
                clear hK K
                refine AnyL.done (by kernel_rfl) ?_ _
                go_wp2_with fail
                go_roundw
                case rel => exact ⟨i + 1, _, bkb ++ [x], by go_num, HIL.out, by rw [List.length_append, HL.out]; rfl, M9.out, fun t ht => by
                    by_cases e : t = i
                    · subst e; exact HG.out
                    · exact HGD.out t (by omega)⟩
                case measure => simp [intOf]; omega
            · skip
              go_simp
              have hal : Below w3.heap.size w3 (w3.alloc (.cells #[.int .i64 q] 3)) := by go_grown
              have Mw4 := Lib.hid (Mw3.out.belowS hal)
              have Bw4 := Lib.hid (show IsBk _ x _ _ _ _ _ from below_ats hal Bw3.out)
              have Dw4 := Lib.hid (below_ats hal Dw3.out)
              have Qw4 := Lib.hid (heap_alloc_new w3 (.cells #[.int .i64 q] 3))
              have hSw4 := snap (Mw4.out) Dw4.out
              refine hK.out _ _ (.inr hSw4) ?_
              clear hK K
              clear hal
              generalize w3.alloc (.cells #[.int .i64 q] 3) = w4 at *
              generalize w3.heap.size = xq at *
              refine AnyL.one (i := 6) rfl (by kernel_rfl) rfl (fun K hK => ?_)
              go_simp
              have hal : Below w4.heap.size w4 (w4.alloc (.cells #[.pointer (some ⟨x, 0, none⟩)] 90)) := by go_grown
              have Mw5 := Lib.hid (Mw4.out.belowS hal)
              have Bw5 := Lib.hid (show IsBk _ x _ _ _ _ _ from below_ats hal Bw4.out)
              have Dw5 := Lib.hid (below_ats hal Dw4.out)
              have Qw5 := Lib.hid (below_ats hal Qw4.out)
              have Pw5 := Lib.hid (heap_alloc_new w4 (.cells #[.pointer (some ⟨x, 0, none⟩)] 90))
              have hSw5 := snap (Mw5.out) Dw5.out
              refine hK.out _ _ (.inr hSw5) ?_
              clear hK K
              clear hal
              generalize w4.alloc (.cells #[.pointer (some ⟨x, 0, none⟩)] 90) = w5 at *
              generalize w4.heap.size = xp at *
              refine AnyL.one (i := 7) rfl (by kernel_rfl) rfl (fun K hK => ?_)
              obtain ⟨aoP, capP, w6, hap, hol, hgr, hown⟩ := app_at Mw5.out.hp 86 _ 8 Try.underlying86 infoP rfl (by omega) [ptrV x] rfl (fun u hu => by rw [List.mem_singleton] at hu; subst hu; rfl) (by rw [HL.out]; omega) (by omega) Pw5.out
              have Mw6 := Lib.hid (Mw5.out.appP (by rw [HL.out]; exact Bw5.out) HXN.out HX0.out hgr hol hown)
              have Dw6 := Lib.hid (show w6.heap[dx]? = _ from (hgr.block dx (lt_of_block Dw5.out) fun e => by obtain ⟨cs, hc⟩ := OL.elem Mw5.out.hp dx e.symm; exact type_ne Dw5.out hc (by decide) rfl).trans Dw5.out)
              have Qw6 := Lib.hid (show w6.heap[xq]? = _ from (hgr.block xq (lt_of_block Qw5.out) fun e => by obtain ⟨cs, hc⟩ := OL.elem Mw5.out.hp xq e.symm; exact type_ne Qw5.out hc (by decide) rfl).trans Qw5.out)
              rw [HL.out] at hap Mw6
              refine wp_append_run (v := .slice pao i pcap) (xv := .slice (some ⟨xp, 0, none⟩) 1 1) (.tmp 51) (.tmp 53) 86 86 rfl (by rfl) (by rfl) hap ?_
              have hSw6 := snap (Mw6.out) Dw6.out
              refine hK.out _ _ (.inr hSw6) ?_
              clear hK K
              clear hap hol hgr hown
              refine AnyL.one (i := 12) rfl (by kernel_rfl) rfl (fun K hK => ?_)
              obtain ⟨aoQ, capQ, w7, hap, hol, hgr, hown⟩ := app_at Mw6.out.hq 37 _ 8 Try.underlying37 infoI rfl (by omega) (ints [q]) rfl (ints_oneA _) (by simp; omega) (by omega) Qw6.out
              rw [HQL.out] at hap hown hol
              have Mw7 := Lib.hid (Mw6.out.appQ HIL.out hgr (show IsI _ _ _ from by rw [HSQ.out]; exact quant_snoc HQL.out hol) hown)
              have Dw7 := Lib.hid (show w7.heap[dx]? = _ from (hgr.block dx (lt_of_block Dw6.out) fun e => by obtain ⟨cs, hc⟩ := OL.elem Mw6.out.hq dx e.symm; exact type_ne Dw6.out hc (by decide) rfl).trans Dw6.out)
              refine wp_append_run (v := .slice qao i qcap) (xv := .slice (some ⟨xq, 0, none⟩) 1 1) (.tmp 55) (.tmp 58) 37 37 rfl (by rfl) (by rfl) hap ?_
              have hSw7 := snap (Mw7.out) Dw7.out
              refine hK.out _ _ (.inr hSw7) ?_
              clear hK K
              clear hap hol hgr hown
              refine AnyL.takeP [14] (i := 13) (v := ?_) rfl (by kernel_rfl) (fun _ _ _ h => h) (by rfl) hSw7 ?_ ?_
              rotate_left
              · intro w hSw
                go_simp
                with_reducible rfl
              try simp only [List.getElem_toArray, List.getElem_cons_succ, List.getElem_cons_zero, Act.put, List.setIfInBounds_toArray, List.set_cons_zero, List.set_cons_succ]
              refine AnyL.take (i := 14) (v := ?_) rfl (by kernel_rfl) (fun _ _ _ h => h) (by rfl) hSw7 ?_ ?_
              rotate_left
              · intro w hSw
                go_simp
                with_reducible rfl
              try simp only [List.getElem_toArray, List.getElem_cons_succ, List.getElem_cons_zero, Act.put, List.setIfInBounds_toArray, List.set_cons_zero, List.set_cons_succ]
              have hfz := Mw7.out.hb.free 1
              refine AnyL.one (i := 15) rfl (by kernel_rfl) rfl (fun K hK => ?_)
              go_simp
              refine hK.out _ _ (.inl (by simp)) ?_
              clear hK K
              refine AnyL.one (i := 16) rfl (by kernel_rfl) rfl (fun K hK => ?_)
              go_simp
              have M9 := Lib.hid (Mw7.out.set)
              clear hSw7 hfz
              refine hK.out _ _ (.inl (by simp)) ?_
              clear hK K
              refine AnyL.done (by kernel_rfl) ?_ _
              go_wp2_with fail
              go_roundw
              case rel => exact ⟨i + 1, _, bkb ++ [x], by go_num, HIL.out, by rw [List.length_append, HL.out]; rfl, M9.out, fun t ht => by
                  by_cases e : t = i
                  · subst e; exact HG.out
                  · exact HGD.out t (by omega)⟩
              case measure => simp [intOf]; omega
          · have CN := Lib.hid (fun w1 => bnew_bad (shD sh i) w1 (not_good hg))
            have HP : Hid (∀ w', Below w.heap.size w w' → ANewP sh slots w (.returned (.tuple #[.pointer none, .iface 33 (.int .i64 1)])) w') := Lib.hid (fun w' hb' => .inr ⟨fun hh => hg (hh.2.1 _ (by rw [← shD_at HIL.out]; exact List.getElem_mem _)), rfl, hb'⟩)
            have hB1 : Below w.heap.size w (wr.alloc (.cells #[.int .i64 (shD sh i).b, .int .i64 (shD sh i).t, .int .i64 (shD sh i).k, .int .i64 (shD sh i).q] 29)) := hbe.alloc hbe.size _
            have HB1 := Lib.hid hB1
            have x0 := (has_cell (heap_alloc_new wr (.cells #[.int .i64 (shD sh i).b, .int .i64 (shD sh i).t, .int .i64 (shD sh i).k, .int .i64 (shD sh i).q] 29)) 0).trans (show _ = some (Value.int .i64 (shD sh i).b) from rfl)
            have x1 := (has_cell (heap_alloc_new wr (.cells #[.int .i64 (shD sh i).b, .int .i64 (shD sh i).t, .int .i64 (shD sh i).k, .int .i64 (shD sh i).q] 29)) 1).trans (show _ = some (Value.int .i64 (shD sh i).t) from rfl)
            have x2 := (has_cell (heap_alloc_new wr (.cells #[.int .i64 (shD sh i).b, .int .i64 (shD sh i).t, .int .i64 (shD sh i).k, .int .i64 (shD sh i).q] 29)) 2).trans (show _ = some (Value.int .i64 (shD sh i).k) from rfl)
            clear hg hbe M0 HSH hB1
            go_wp2_with fail
            refine (CN.out _).mono ?_
            rintro e w2 ⟨rfl, hw2⟩
            rw [← hw2] at HB1
            clear hw2 CN x0 x1 x2
            go_wp2
            go_ret2
            exact HP.out _ HB1.out
        · have hin : i = sh.length := by omega
          have HIN := Lib.hid hin
          subst hin
          have hII : IsInts wr qao sh.length (aoB qao) (aoO qao) (fun j => (shD sh j).q) := ints_of (cap := qcap) (n := sh.length) (l := sh.map Shr.q) (List.length_map ..) (by have := M0.out.hq; rw [List.take_length] at this; exact this) (fun j hj => ⟨by simp [shD, List.getD, hj], hqb (shD sh j) (by rw [← shD_at hj]; exact List.getElem_mem _)⟩)
          have hx1 := has_cell M0.out.hb 3
          have hfz := M0.out.hb.free 3
          have hbl := lt_of_block M0.out.hb
          by_cases hok : newOk (fun j => (shD sh j).q) sh.length
          · have CN := Lib.hid (new_ok (c := qcap) wr hII hok)
            have HOK : Hid (adOk sh slots) := Lib.hid ⟨HSL.out, fun s hs => by
              obtain ⟨t, ht, rfl⟩ := List.getElem_of_mem hs
              rw [shD_at ht]; exact HGD.out t ht, ⟨hok.1, hok.2.1⟩, fun s hs => by
              obtain ⟨t, ht, rfl⟩ := List.getElem_of_mem hs
              rw [shD_at ht]; exact hok.2.2 t ht⟩
            clear hII hok hbe hqb
            go_wp2_with fail
            refine CN.out.mono ?_
            rintro e w2 ⟨bf, fbq, fcq, fbd, fbl, rfl, hA, hb2, hf⟩
            have hx2 : w2.cell? ⟨b, 3, none⟩ = some (.pointer none) := (hb2.cell (p := ⟨b, 3, none⟩) hbl).trans hx1
            have hz2 : w2.frozen? ⟨b, 3, none⟩ = false := (hb2.frozen (p := ⟨b, 3, none⟩) hbl).trans hfz
            obtain ⟨m, h1, h2, h3⟩ := M0.out.done HL.out hA hb2 hf
            have HP : Hid (ANewP sh slots w (.returned (.tuple #[.pointer (some ⟨b, 0, none⟩), .nilIface])) (w2.setCell ⟨b, 3, none⟩ (.pointer (some ⟨bf, 0, none⟩)))) := Lib.hid (.inl ⟨HOK.out, b, m, rfl, h1, h2, h3⟩)
            clear hA hb2 hf h1 h2 h3 hx1 hfz CN
            go_wp2
            go_ret2
            exact HP.out
          · have HNO : Hid (∀ w', Below w.heap.size w w' → ANewP sh slots w (.returned (.tuple #[.pointer none, .iface 33 (.int .i64 1)])) w') := Lib.hid (fun w' hb' => .inr ⟨fun hh => hok ⟨hh.2.2.1.1, hh.2.2.1.2, fun t ht => hh.2.2.2 _ (by rw [← shD_at ht]; exact List.getElem_mem _)⟩, rfl, hb'⟩)
            have CN : Hid (Calls Try.prog 33 #[.slice qao sh.length qcap] wr (NewBad wr)) := Lib.hid (by
              by_cases hsz : sh.length < 1 ∨ 16 < sh.length
              · exact new_short wr (by omega) hsz
              · obtain ⟨i0, hi0, hbad⟩ : ∃ i0, i0 < sh.length ∧ ¬ (1 ≤ (shD sh i0).q ∧ (shD sh i0).q ≤ 65536) := by
                  apply Classical.byContradiction
                  intro hno
                  exact hok ⟨by omega, by omega, fun j hj => Classical.byContradiction fun hb => hno ⟨j, hj, hb⟩⟩
                exact new_bad wr hII (by omega) (by omega) hi0 hbad)
            have HBE : Hid (Below w.heap.size w (wr.setCell ⟨b, 3, none⟩ (.pointer none))) := Lib.hid (hbe.setCell (M0.out.nw b (.inl rfl)) _)
            clear hII hok hbe hqb
            go_wp2_with fail
            refine CN.out.mono ?_
            rintro e w2 ⟨rfl, hw2⟩
            obtain rfl : wr = w2 := hw2.symm
            clear CN
            go_wp2
            go_ret2
            exact HNO.out _ HBE.out
  · have HP : Hid (ANewP sh slots w (.returned (.tuple #[.pointer none, .iface 33 (.int .i64 1)])) w) := Lib.hid (.inr ⟨fun hh => hs hh.1, rfl, Below.refl _ _⟩)
    clear h hao
    by_cases h1 : slots < 1
    · clear hs
      go_enter Try.func11, Try.ntmps11
      go_wp2
      go_ret2
      exact HP.out
    · have h2 : 256 < slots := by omega
      clear hs
      go_enter Try.func11, Try.ntmps11
      go_wp2
      go_ret2
      exact HP.out
end Go.Proofs.Ytmdajndmobpgbaa

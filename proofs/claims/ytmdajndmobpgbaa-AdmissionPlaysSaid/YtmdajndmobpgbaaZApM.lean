/- The document's New. Conditions: the tenants can be read. -/
import Derived.Test.YtmdajndmobpgbaaZApK
import Derived.Test.YtmdajndmobpgbaaZApS
import Derived.Test.YtmdajndmobpgbaaZAdRunA
namespace Go.Proofs.Ytmdajndmobpgbaa
open Go.RowKit
open Go.Proofs.Ytmdajndmobpgbaa.Fq
open Go.Proofs.Ytmdajndmobpgbaa.Bk

def dbS (s : Shr) : DB := ⟨s.b, s.t, s.k, s.b * s.k, 0⟩
theorem docOf_init (sh : List Shr) (slots : Int) : docOf (AS.init sh slots) = ⟨slots, sh.map dbS, FQ.init (fun i => (shD sh i).q) sh.length, []⟩ := by
  have hb : (docOf (AS.init sh slots)).bks = sh.map dbS := by
    symm
    refine bks_ext (by rw [List.length_map]; rfl) fun t ht => ?_
    have ht : t < sh.length := ht
    rw [List.getElem?_map, List.getElem?_eq_getElem ht]
    unfold dbOf
    rw [init_bkt sh slots ht, init_shr, ← shD_at ht]
    rfl
  have hr : sortI ([] : List Int) = [] := List.eq_nil_of_length_eq_zero (sortI_len [])
  rw [← hb, ← hr]
  rfl
def RdNewP (sh : List Shr) (slots : Int) (w : World) (e : Ending) (w' : World) : Prop :=
  (adOk sh slots ∧ ∃ q lv, e = .returned (.tuple #[daV q (docOf (AS.init sh slots)), .int .i64 0]) ∧ DAt (fun k => w.heap.size ≤ k) w' q lv (docOf (AS.init sh slots)) ∧ Below w.heap.size w w') ∨
  (¬ adOk sh slots ∧ e = .returned (.tuple #[.agg zDA, .int .i64 1]) ∧ Below w.heap.size w w')
theorem isInts_of {w : World} {ao : Option Addr} {n c : Nat} {l : List Int} (h : OL w 3 1 (.slice ao n c) n (ints l)) (hl : l.length = n) (hb : ∀ x ∈ l, -9223372036854775808 ≤ x ∧ x ≤ 9223372036854775807) : ∃ b off, IsInts w ao n b off (fun i => l.getD i 0) := by
  have hbd : ∀ i, i < n → -9223372036854775808 ≤ l.getD i 0 ∧ l.getD i 0 ≤ 9223372036854775807 := fun i hi => hb _ (by
    rw [show l.getD i 0 = l[i]'(by omega) by simp [List.getD, show i < l.length by omega]]
    exact List.getElem_mem _)
  rcases OL.forms h with ⟨hv, h0⟩ | ⟨g, off, cap, hv, h1, h2, h3⟩
  · exact ⟨0, 0, ⟨fun h => by omega, fun h => by omega, fun i hi => by omega, hbd⟩⟩
  · simp only [Value.slice.injEq, true_and] at hv
    obtain ⟨rfl, rfl⟩ := hv
    exact ⟨g, off, ⟨fun _ => rfl, fun _ => OL.lt h g rfl, fun i hi => (OL.cell h i (by omega)).trans (ints_get l i (by omega)), hbd⟩⟩
section
variable {w : World} {ao : Option Addr} {n b off cap : Nat} {X : Nat → Nat → Int}
set_option maxRecDepth 100000 in
set_option maxHeartbeats 6400000 in
theorem rdnew_any (slots : Int) (w : World) (h : IsSh w ao n b off X) (hn : n ≤ 1000) : Calls Try.prog 22 #[.slice ao n cap, .int .i64 slots] w (RdNewP (shOf X n) slots w) := by
  have HX := Lib.hid (fun (wx : World) (hb : Below w.heap.size w wx) => h.below hb (Nat.le_refl _))
  have HBD := Lib.hid (fun i (hi : i < n) j (hj : j < 4) => h.bd hi hj)
  have HAO := Lib.hid h.ao
  clear h
  obtain ⟨hb0, hx0, hr0⟩ := two_boxes w #[.int .i64 0, .slice none 0 0, .slice none 0 0, .slice none 0 0, .slice none 0 0, .int .i64 0, .bool false, .slice none 0 0] #[.int .i64 slots, .slice none 0 0, .slice none 0 0, .slice none 0 0, .slice none 0 0, .int .i64 0, .bool false, .slice none 0 0] 57
  have HB0 : Hid (BA w (w.heap.size + 1) w.heap.size #[.int .i64 slots, .slice none 0 0, .slice none 0 0, .slice none 0 0, .slice none 0 0, .int .i64 0, .bool false, .slice none 0 0] #[.int .i64 0, .slice none 0 0, .slice none 0 0, .slice none 0 0, .slice none 0 0, .int .i64 0, .bool false, .slice none 0 0] ((w.alloc (.cells #[.int .i64 0, .slice none 0 0, .slice none 0 0, .slice none 0 0, .slice none 0 0, .int .i64 0, .bool false, .slice none 0 0] 57)).alloc (.cells #[.int .i64 slots, .slice none 0 0, .slice none 0 0, .slice none 0 0, .slice none 0 0, .int .i64 0, .bool false, .slice none 0 0] 57))) := Lib.hid ⟨hr0, hx0, by omega, Nat.le_succ _, Nat.le_refl _, hb0⟩
  clear hb0 hx0 hr0
  obtain ⟨rx, hrx⟩ : ∃ rx, w.heap.size = rx := ⟨_, rfl⟩
  obtain ⟨bx, hbx⟩ : ∃ bx, rx + 1 = bx := ⟨_, rfl⟩
  rw [hrx, hbx] at HB0
  go_enter Try.func22, Try.ntmps22
  go_upto_region 3 with fail
  clear hrx hbx
  generalize (w.alloc (.cells #[.int .i64 0, .slice none 0 0, .slice none 0 0, .slice none 0 0, .slice none 0 0, .int .i64 0, .bool false, .slice none 0 0] 57)).alloc (.cells #[.int .i64 slots, .slice none 0 0, .slice none 0 0, .slice none 0 0, .slice none 0 0, .int .i64 0, .bool false, .slice none 0 0] 57) = w1 at *
  go_wp2_with fail
  go_loopw [7, 18] (fun qv iv wr => ∃ (k : Nat) (vb : Value), k ≤ n ∧ iv = .int .i64 k ∧ BA w bx rx #[.int .i64 slots, vb, .slice none 0 0, .slice none 0 0, .slice none 0 0, .int .i64 0, .bool false, .slice none 0 0] #[.int .i64 0, .slice none 0 0, .slice none 0 0, .slice none 0 0, .slice none 0 0, .int .i64 0, .bool false, .slice none 0 0] wr ∧ RowsAt 114 5 dbC wr vb ((shOf X k).map dbS) ∧ (∀ g, vb.ownBlock = some g → w.heap.size ≤ g) ∧ IsI wr qv ((shOf X k).map (·.q)) ∧ (∀ g, qv.ownBlock = some g → w.heap.size ≤ g) ∧ (∀ s ∈ shOf X k, bkGood s)) (fun _ iv _ => n - (intOf iv).toNat)
  case atStart => exact ⟨0, .slice none 0 0, Nat.zero_le _, rfl, HB0.out, OL.nil _ _ _, fun g hg => by simp [Value.ownBlock] at hg, OL.nil _ _ _, fun g hg => by simp [Value.ownBlock] at hg, fun s hs => by simp [shOf] at hs⟩
  case round =>
    clear HB0
    obtain ⟨k, vb, hk, rfl, hB, hR, hRo, hI, hIo, hG⟩ := hrel
    have HB := Lib.hid hB
    have HR := Lib.hid hR
    have HRo := Lib.hid hRo
    have HI := Lib.hid hI
    have HIo := Lib.hid hIo
    have HG := Lib.hid hG
    have hls : (shOf X k).length = k := shOf_len X k
    obtain ⟨vbo, vbc, hvb, hvb1, hvb2, _⟩ := OL.shape (show OL wr 114 5 vb _ _ from hR)
    obtain ⟨vqo, vqc, hvq, hvq1, hvq2, _⟩ := OL.shape hI
    rw [List.length_map, hls] at hvb hvq hvb1 hvq1
    subst hvb hvq
    have HLS := Lib.hid hls
    clear hB hR hRo hI hIo hG hls
    by_cases hlt : k < n
    · obtain rfl := HAO.out (by omega)
      obtain ⟨c0, c1, c2, c3⟩ := (HX.out wr HB.out.b).cells hlt
      have q0 := HBD.out k hlt 0 (by omega)
      have q1 := HBD.out k hlt 1 (by omega)
      have q2 := HBD.out k hlt 2 (by omega)
      have q3 := HBD.out k hlt 3 (by omega)
      have HSX : Hid (shX X k = ⟨X k 0, X k 1, X k 2, X k 3⟩) := Lib.hid rfl
      generalize X k 0 = x0 at *
      generalize X k 1 = x1 at *
      generalize X k 2 = x2 at *
      generalize X k 3 = x3 at *
      have dk : decide ((k : Int) < (n : Int)) = true := decide_eq_true (by omega)
      have hba := (Below.refl wr.heap.size wr).alloc (Nat.le_refl _) (.cells #[.int .i64 x0, .int .i64 x1, .int .i64 x2, .int .i64 x3] 77)
      have HSB := Lib.hid (heap_alloc_new wr (.cells #[.int .i64 x0, .int .i64 x1, .int .i64 x2, .int .i64 x3] 77))
      have HB2 := Lib.hid (HB.out.bel hba)
      have HR2 := Lib.hid (HR.out.bel hba)
      have HI2 := Lib.hid (OL.bel HI.out hba)
      clear hba HB HR HI
      go_upto_region 6 with fail
      clear c0 c1 c2 c3
      generalize wr.alloc (.cells #[.int .i64 x0, .int .i64 x1, .int .i64 x2, .int .i64 x3] 77) = w2 at *
      generalize wr.heap.size = sb at *
      have a0 := (has_cell HSB.out 0).trans (show _ = some (Value.int .i64 x0) from rfl)
      have a1 := (has_cell HSB.out 1).trans (show _ = some (Value.int .i64 x1) from rfl)
      have a2 := (has_cell HSB.out 2).trans (show _ = some (Value.int .i64 x2) from rfl)
      by_cases hg : bkGood (shX X k)
      · have HGK := Lib.hid hg
        have CB : Hid (Calls Try.prog 50 #[.int .i64 x0, .int .i64 x1, .int .i64 x2] w2 (BkRet (.tuple #[bkV x0 x1 x2 (x0 * x2) 0, .int .i64 0]) w2)) := Lib.hid (by
          obtain ⟨⟨b1, b2⟩, ⟨t1, t2⟩, ⟨k1, k2⟩⟩ := hg
          rw [HSX.out] at b1 b2 t1 t2 k1 k2
          exact rnewb_ok b1 b2 t1 t2 k1 k2 w2)
        unfold bkV bkA at CB
        clear hg
        go_wp2_with fail
        refine CB.out.mono ?_
        rintro e w3 ⟨rfl, hb3⟩
        clear a0 a1 a2 CB
        have HDB : Hid (dbC (dbS (shX X k)) = [.int .i64 x0, .int .i64 x1, .int .i64 x2, .int .i64 (x0 * x2), .int .i64 0]) := Lib.hid (by rw [HSX.out]; rfl)
        generalize x0 * x2 = xp at *
        have hba := hb3.trans (((Below.refl w3.heap.size w3).alloc (Nat.le_refl _) (.cells #[.int .i64 x0, .int .i64 x1, .int .i64 x2, .int .i64 xp, .int .i64 0] 114)).mono hb3.size)
        have HBB := Lib.hid (heap_alloc_new w3 (.cells #[.int .i64 x0, .int .i64 x1, .int .i64 x2, .int .i64 xp, .int .i64 0] 114))
        have HB4 := Lib.hid (HB2.out.bel hba)
        have HR4 := Lib.hid (HR2.out.bel hba)
        have HI4 := Lib.hid (OL.bel HI2.out hba)
        have HSB4 := Lib.hid ((hba.block sb (lt_of_block HSB.out)).trans HSB.out)
        clear hb3 hba HB2 HR2 HI2 HSB
        go_upto_region 9 with fail
        generalize w3.alloc (.cells #[.int .i64 x0, .int .i64 x1, .int .i64 x2, .int .i64 xp, .int .i64 0] 114) = w4 at *
        generalize w3.heap.size = bb at *
        obtain ⟨⟨y0, y1, y2, y3, y4⟩, _⟩ := row5 HBB.out
        have e1 := (has_cell HB4.out.o 1).trans (show _ = some (Value.slice vbo k vbc) from rfl)
        have hr4 := HR4.out
        unfold RowsAt at hr4
        rw [List.length_map, HLS.out] at hr4
        obtain ⟨ao5, cap5, w5, hap, ho5, hg5, hown5⟩ := one_append hr4 52 _ 40 Try.underlying52 infoDB rfl (by omega) [.int .i64 x0, .int .i64 x1, .int .i64 x2, .int .i64 xp, .int .i64 0] rfl (fun u hu => dbC_one (dbS (shX X k)) u (by rw [HDB.out]; exact hu)) (by omega) (by omega)
        have hR5 : RowsAt 114 5 dbC w5 (.slice ao5 (k + 1) cap5) ((shOf X (k + 1)).map dbS) := by
          unfold RowsAt
          rw [List.length_map, shOf_len, shOf_snoc, List.map_append, rowsC_append, List.map_cons, List.map_nil, rowsC_one, HDB.out]
          exact ho5
        have HRo5 : Hid (∀ g, (Value.slice ao5 (k + 1) cap5).ownBlock = some g → w.heap.size ≤ g) := Lib.hid fun g hg => (hown5 g hg).elim (HRo.out g) fun hx => Nat.le_trans HB4.out.b.size hx
        have hty : ∀ (b : Nat) (cs : Array Value) (t : TypeId), t ≠ 114 → w4.heap[b]? = some (Obj.cells cs t (0, 0)) → w5.heap[b]? = w4.heap[b]? := fun b cs t ht hc => hg5.block b (lt_of_block hc) fun e => by
          obtain ⟨cur, hc'⟩ := OL.elem hr4 b e.symm
          exact type_ne hc hc' ht rfl
        have HB5 : Hid (BA w bx rx #[.int .i64 slots, .slice vbo k vbc, .slice none 0 0, .slice none 0 0, .slice none 0 0, .int .i64 0, .bool false, .slice none 0 0] #[.int .i64 0, .slice none 0 0, .slice none 0 0, .slice none 0 0, .slice none 0 0, .int .i64 0, .bool false, .slice none 0 0] w5) := Lib.hid ⟨(hty bx _ _ (by decide) HB4.out.o).trans HB4.out.o, (hty rx _ _ (by decide) HB4.out.r).trans HB4.out.r, HB4.out.ne, HB4.out.lb, HB4.out.lr, HB4.out.b.grown hg5 HB4.out.b.size HRo.out⟩
        have hI5 : IsI w5 (.slice vqo k vqc) ((shOf X k).map (·.q)) := OL.heap HI4.out fun g hg => by
          obtain ⟨cur, hc⟩ := OL.elem HI4.out g hg
          exact hty g _ _ (by decide) hc
        have HSB5 := Lib.hid ((hty sb _ _ (by decide) HSB4.out).trans HSB4.out)
        have HB6 : Hid (BA w bx rx #[.int .i64 slots, .slice ao5 (k + 1) cap5, .slice none 0 0, .slice none 0 0, .slice none 0 0, .int .i64 0, .bool false, .slice none 0 0] #[.int .i64 0, .slice none 0 0, .slice none 0 0, .slice none 0 0, .slice none 0 0, .int .i64 0, .bool false, .slice none 0 0] (w5.setCell ⟨bx, 1, none⟩ (.slice ao5 (k + 1) cap5))) := Lib.hid (HB5.out.set 1 (.slice ao5 (k + 1) cap5))
        have hh6 : ∀ (b : Nat) (cs : Array Value) (t : TypeId), t ≠ 57 → w5.heap[b]? = some (Obj.cells cs t (0, 0)) → (w5.setCell ⟨bx, 1, none⟩ (.slice ao5 (k + 1) cap5)).heap[b]? = w5.heap[b]? := fun b cs t ht hc => Below.heap_setCell _ _ _ _ (type_ne hc HB5.out.o ht)
        have HR6 : Hid (RowsAt 114 5 dbC (w5.setCell ⟨bx, 1, none⟩ (.slice ao5 (k + 1) cap5)) (.slice ao5 (k + 1) cap5) ((shOf X (k + 1)).map dbS)) := Lib.hid (OL.heap hR5 fun g hg => by
          obtain ⟨cur, hc⟩ := OL.elem hR5 g hg
          exact hh6 g _ _ (by decide) hc)
        have HI6 : Hid (IsI (w5.setCell ⟨bx, 1, none⟩ (.slice ao5 (k + 1) cap5)) (.slice vqo k vqc) ((shOf X k).map (·.q))) := Lib.hid (OL.heap hI5 fun g hg => by
          obtain ⟨cur, hc⟩ := OL.elem hI5 g hg
          exact hh6 g _ _ (by decide) hc)
        have HSB6 := Lib.hid ((hh6 sb _ _ (by decide) HSB5.out).trans HSB5.out)
        have e5 := (has_cell HB5.out.o 1).trans (show _ = some (Value.slice vbo k vbc) from rfl)
        have z5 := has_free HB5.out.o 1
        have HAP := Lib.hid hap
        clear hap hr4 ho5 hg5 hown5 hR5 hty hI5 hh6 HB4 HR4 HI4 HSB4 HBB
        go_upto_region 10 with (refine wpList_append_run (v := .slice vbo k vbc) (xv := .slice (some ⟨w4.heap.size, 0, none⟩) 1 1) rfl (.tmp 37) (.tmp 39) _ _ rfl (by rfl) (by rfl) HAP.out ?_)
        clear e1 e5 z5 y0 y1 y2 y3 y4 HAP HB5 HSB5
        generalize w5.setCell ⟨bx, 1, none⟩ (.slice ao5 (k + 1) cap5) = w6 at *
        have a3 := (has_cell HSB6.out 3).trans (show _ = some (Value.int .i64 x3) from rfl)
        obtain ⟨ao7, cap7, w7, hap, hi7, hg7, hown7⟩ := int_append HI6.out (by rw [List.length_map, HLS.out]; omega) x3
        rw [List.length_map, HLS.out] at hap hi7 hown7
        have HI7 : Hid (IsI w7 (.slice ao7 (k + 1) cap7) ((shOf X (k + 1)).map (·.q))) := Lib.hid (by
          rw [shOf_snoc, List.map_append, List.map_cons, List.map_nil, HSX.out]
          exact hi7)
        have hty : ∀ (b : Nat) (cs : Array Value) (t : TypeId), t ≠ 3 → w6.heap[b]? = some (Obj.cells cs t (0, 0)) → w7.heap[b]? = w6.heap[b]? := fun b cs t ht hc => hg7.block b (lt_of_block hc) fun e => by
          obtain ⟨cur, hc'⟩ := OL.elem HI6.out b e.symm
          exact type_ne hc hc' ht rfl
        have HB7 : Hid (BA w bx rx #[.int .i64 slots, .slice ao5 (k + 1) cap5, .slice none 0 0, .slice none 0 0, .slice none 0 0, .int .i64 0, .bool false, .slice none 0 0] #[.int .i64 0, .slice none 0 0, .slice none 0 0, .slice none 0 0, .slice none 0 0, .int .i64 0, .bool false, .slice none 0 0] w7) := Lib.hid ⟨(hty bx _ _ (by decide) HB6.out.o).trans HB6.out.o, (hty rx _ _ (by decide) HB6.out.r).trans HB6.out.r, HB6.out.ne, HB6.out.lb, HB6.out.lr, HB6.out.b.grown hg7 HB6.out.b.size HIo.out⟩
        have HR7 : Hid (RowsAt 114 5 dbC w7 (.slice ao5 (k + 1) cap5) ((shOf X (k + 1)).map dbS)) := Lib.hid (OL.heap HR6.out fun g hg => by
          obtain ⟨cur, hc⟩ := OL.elem HR6.out g hg
          exact hty g _ _ (by decide) hc)
        have HIo7 : Hid (∀ g, (Value.slice ao7 (k + 1) cap7).ownBlock = some g → w.heap.size ≤ g) := Lib.hid fun g hg => (hown7 g hg).elim (HIo.out g) fun hx => Nat.le_trans HB6.out.b.size hx
        have HG7 : Hid (∀ s ∈ shOf X (k + 1), bkGood s) := Lib.hid fun s hs => by
          rw [shOf_snoc] at hs
          rcases List.mem_append.1 hs with hs | hs
          · exact HG.out s hs
          · rw [List.mem_singleton] at hs; subst hs; exact HGK.out
        have HAP := Lib.hid hap
        clear hap hi7 hg7 hown7 hty HB6 HR6 HI6 HSB6
        go_wp2_with (refine wpList_append_run (v := .slice vqo k vqc) (xv := .slice (some ⟨w6.heap.size, 0, none⟩) 1 1) rfl (.tmp 42) (.tmp 45) _ _ rfl (by rfl) (by rfl) HAP.out ?_)
        go_roundw
        case rel => exact ⟨k + 1, _, by omega, by go_num, HB7.out, HR7.out, HRo5.out, HI7.out, HIo7.out, HG7.out⟩
        case measure => simp [intOf]; omega
      · have CB : Hid (Calls Try.prog 50 #[.int .i64 x0, .int .i64 x1, .int .i64 x2] w2 (BkRet (.tuple #[bkV 0 0 0 0 0, .int .i64 1]) w2)) := Lib.hid (rnewb_bad (fun hx => hg (by rw [HSX.out]; exact ⟨hx.1.1, hx.1.2, hx.2⟩)) w2)
        have HNO : Hid (¬ adOk (shOf X n) slots) := Lib.hid fun ha => hg (ha.2.1 _ (List.mem_map.2 ⟨k, List.mem_range.2 hlt, rfl⟩))
        unfold bkV bkA at CB
        clear hg
        go_wp2_with fail
        refine CB.out.mono ?_
        rintro e w3 ⟨rfl, hb3⟩
        have hba := hb3.trans (((Below.refl w3.heap.size w3).alloc (Nat.le_refl _) (.cells #[.int .i64 0, .int .i64 0, .int .i64 0, .int .i64 0, .int .i64 0] 114)).mono hb3.size)
        have HB4 := Lib.hid (HB2.out.bel hba)
        clear hb3 hba a0 a1 a2 CB
        go_upto_region 8 with fail
        generalize w3.alloc (.cells #[.int .i64 0, .int .i64 0, .int .i64 0, .int .i64 0, .int .i64 0] 114) = w4 at *
        have HFR := Lib.hid (setRow_heap _ _ _ #[.int .i64 0, .slice none 0 0, .slice none 0 0, .slice none 0 0, .slice none 0 0, .int .i64 0, .bool false, .slice none 0 0] _ _ HB4.out.r)
        have HFB := Lib.hid (HB4.out.fin #[.int .i64 0, .slice none 0 0, .slice none 0 0, .slice none 0 0, .slice none 0 0, .int .i64 0, .bool false, .slice none 0 0])
        go_wp2_with (first
          | (refine wpList_store_row rfl 57 (.tmp 4) (.tmp 34) rfl rx #[.int .i64 0, .slice none 0 0, .slice none 0 0, .slice none 0 0, .slice none 0 0, .int .i64 0, .bool false, .slice none 0 0] (by rfl) (by rfl) 57 _ HB4.out.r infoDA rfl (by simp [Value.oneCell']) ?_))
        try simp only [Exit.inBlock, Exit.then]
        refine bodyPost_ret (results_cell2 rfl _ _ rx 57 _ (0, 0) _ rfl HFR.out Try.underlying57 rfl infoDA) rfl ?_
        exact .inr ⟨HNO.out, rfl, HFB.out⟩
    · obtain rfl : k = n := by omega
      have dk : decide ((k : Int) < (k : Int)) = false := decide_eq_false (by omega)
      obtain ⟨ib, io, hii⟩ := isInts_of (by have h := HI.out; unfold IsI at h; rw [List.length_map, HLS.out] at h; exact h) (by rw [List.length_map, HLS.out]) (fun x hx => by
        obtain ⟨s, hs, rfl⟩ := List.mem_map.1 hx
        obtain ⟨i, hi, rfl⟩ := List.mem_map.1 hs
        exact HBD.out i (List.mem_range.1 hi) 3 (by omega))
      have hQ : (fun i => ((shOf X k).map (·.q)).getD i 0) = fun i => (shD (shOf X k) i).q := funext fun i => by
        unfold shD
        rcases Nat.lt_or_ge i (shOf X k).length with h | h
        · simp [List.getD, h]
        · simp [List.getD, List.getElem?_eq_none h]
      rw [hQ] at hii
      have HII := Lib.hid hii
      clear hii hQ
      by_cases hnw : newOk (fun i => (shD (shOf X k) i).q) k
      · have HNW := Lib.hid hnw
        have CN := Lib.hid (rnew_ok (c := vqc) HII.out hnw)
        clear hnw
        go_wp2_with fail
        refine CN.out.mono ?_
        rintro e w3 ⟨vq, vd, vl, lv, rfl, hrk, hb3⟩
        obtain ⟨qo, qc, rfl, _⟩ := hrk.a.q.shape
        obtain ⟨eo, ec, rfl, _⟩ := hrk.a.d.shape
        obtain ⟨lo, lc, rfl, _⟩ := hrk.a.l.shape
        have HFI : Hid (docOf (AS.init (shOf X k) slots) = ⟨slots, (shOf X k).map dbS, FQ.init (fun i => (shD (shOf X k) i).q) k, []⟩) := Lib.hid (by rw [docOf_init, shOf_len])
        generalize FQ.init (fun i => (shD (shOf X k) i).q) k = f at *
        unfold rqV
        have hba := hb3.trans (((Below.refl w3.heap.size w3).alloc (Nat.le_refl _) (.cells #[.slice qo f.m qc, .slice eo f.m ec, .slice lo f.m lc, .int .i64 f.cur, .bool f.begun] 55)).mono hb3.size)
        have HQB := Lib.hid (heap_alloc_new w3 (.cells #[.slice qo f.m qc, .slice eo f.m ec, .slice lo f.m lc, .int .i64 f.cur, .bool f.begun] 55))
        have HB4 := Lib.hid (HB.out.bel hba)
        have HR4 := Lib.hid (HR.out.bel hba)
        have HK4 := Lib.hid ((hrk.bel ((Below.refl w3.heap.size w3).alloc (Nat.le_refl _) (.cells #[.slice qo f.m qc, .slice eo f.m ec, .slice lo f.m lc, .int .i64 f.cur, .bool f.begun] 55))).more (J := fun j => w.heap.size ≤ j) fun j hj => Nat.le_trans HB.out.b.size hj)
        clear hrk hb3 hba HB HR HI CN HII
        go_upto_region 13 with fail
        generalize w3.alloc (.cells #[.slice qo f.m qc, .slice eo f.m ec, .slice lo f.m lc, .int .i64 f.cur, .bool f.begun] 55) = w4 at *
        generalize w3.heap.size = qb at *
        by_cases hs : 1 ≤ slots ∧ slots ≤ 256
        · have d1 : decide (slots < 1) = false := decide_eq_false (by omega)
          have d2 : decide (256 < slots) = false := decide_eq_false (by omega)
          have HOK : Hid (adOk (shOf X k) slots) := Lib.hid ⟨hs, HG.out, by rw [shOf_len]; exact ⟨HNW.out.1, HNW.out.2.1⟩, fun s hs => by
            obtain ⟨i, hi, rfl⟩ := List.mem_map.1 hs
            have := HNW.out.2.2 i (List.mem_range.1 hi)
            have this : 1 ≤ (shD (shOf X k) i).q ∧ (shD (shOf X k) i).q ≤ 65536 := this
            rw [shOf_get (List.mem_range.1 hi)] at this
            exact this⟩
          obtain ⟨⟨y0, y1, y2, y3, y4⟩, _⟩ := row5 HQB.out
          obtain ⟨⟨x0, x1, x2, x3, x4, x5, x6, x7⟩, z⟩ := get8 HB4.out.o
          have HB5 := Lib.hid (HB4.out.setQ (.slice qo f.m qc) (.slice eo f.m ec) (.slice lo f.m lc) (.int .i64 f.cur) (.bool f.begun))
          have hD4 : DAt (fun j => w.heap.size ≤ j) w4 ⟨.slice vbo k vbc, .slice qo f.m qc, .slice eo f.m ec, .slice lo f.m lc, .slice none 0 0⟩ lv ⟨slots, (shOf X k).map dbS, f, []⟩ := ⟨HR4.out, HK4.out, OL.nil _ _ _, HRo.out, fun j hj => by simp [Value.ownBlock] at hj⟩
          have HD5 := Lib.hid (hD4.setQ HB4.out.o (.slice qo f.m qc) (.slice eo f.m ec) (.slice lo f.m lc) (.int .i64 f.cur) (.bool f.begun))
          clear hs hD4
          go_upto_region 16 with fail
          clear x0 x1 x2 x3 x4 x5 x6 x7 z y0 y1 y2 y3 y4
          generalize (((((w4.setCell ⟨bx, 2, none⟩ (.slice qo f.m qc)).setCell ⟨bx, 3, none⟩ (.slice eo f.m ec)).setCell ⟨bx, 4, none⟩ (.slice lo f.m lc)).setCell ⟨bx, 5, none⟩ (.int .i64 f.cur)).setCell ⟨bx, 6, none⟩ (.bool f.begun)) = w5 at *
          have HFR := Lib.hid (setRow_heap _ _ _ #[.int .i64 slots, .slice vbo k vbc, .slice qo f.m qc, .slice eo f.m ec, .slice lo f.m lc, .int .i64 f.cur, .bool f.begun, .slice none 0 0] _ _ HB5.out.r)
          go_wp2_with (first
            | (refine wpList_load_row rfl 57 (.tmp 6) rfl bx (by rfl) 57 #[.int .i64 slots, .slice vbo k vbc, .slice qo f.m qc, .slice eo f.m ec, .slice lo f.m lc, .int .i64 f.cur, .bool f.begun, .slice none 0 0] (0, 0) _ HB5.out.o Try.underlying57 rfl infoDA ?_)
            | (refine wpList_store_row rfl 57 (.tmp 4) (.tmp 66) rfl rx #[.int .i64 slots, .slice vbo k vbc, .slice qo f.m qc, .slice eo f.m ec, .slice lo f.m lc, .int .i64 f.cur, .bool f.begun, .slice none 0 0] (by rfl) (by rfl) 57 _ HB5.out.r infoDA rfl (by simp [Value.oneCell']) ?_))
          try simp only [Exit.inBlock, Exit.then]
          refine bodyPost_ret (results_cell2 rfl _ _ rx 57 _ (0, 0) _ rfl HFR.out Try.underlying57 rfl infoDA) rfl ?_
          refine .inl ⟨HOK.out, ⟨.slice vbo k vbc, .slice qo f.m qc, .slice eo f.m ec, .slice lo f.m lc, .slice none 0 0⟩, lv, ?_, ?_, HB5.out.fin _⟩
          · rw [HFI.out]; rfl
          · rw [HFI.out]; exact HD5.out.rowB HB5.out.r _
        · have HNO : Hid (¬ adOk (shOf X k) slots) := Lib.hid fun ha => hs ha.1
          by_cases h1 : slots < 1
          · have d1 : decide (slots < 1) = true := decide_eq_true h1
            clear hs h1
            go_upto_region 14 with fail
            have HFR := Lib.hid (setRow_heap _ _ _ #[.int .i64 0, .slice none 0 0, .slice none 0 0, .slice none 0 0, .slice none 0 0, .int .i64 0, .bool false, .slice none 0 0] _ _ HB4.out.r)
            have HFB := Lib.hid (HB4.out.fin #[.int .i64 0, .slice none 0 0, .slice none 0 0, .slice none 0 0, .slice none 0 0, .int .i64 0, .bool false, .slice none 0 0])
            go_wp2_with (first
              | (refine wpList_store_row rfl 57 (.tmp 4) (.tmp 63) rfl rx #[.int .i64 0, .slice none 0 0, .slice none 0 0, .slice none 0 0, .slice none 0 0, .int .i64 0, .bool false, .slice none 0 0] (by rfl) (by rfl) 57 _ HB4.out.r infoDA rfl (by simp [Value.oneCell']) ?_))
            try simp only [Exit.inBlock, Exit.then]
            refine bodyPost_ret (results_cell2 rfl _ _ rx 57 _ (0, 0) _ rfl HFR.out Try.underlying57 rfl infoDA) rfl ?_
            exact .inr ⟨HNO.out, rfl, HFB.out⟩
          · have d1 : decide (slots < 1) = false := decide_eq_false h1
            have d2 : decide (256 < slots) = true := decide_eq_true (by omega)
            clear hs h1
            go_upto_region 14 with fail
            have HFR := Lib.hid (setRow_heap _ _ _ #[.int .i64 0, .slice none 0 0, .slice none 0 0, .slice none 0 0, .slice none 0 0, .int .i64 0, .bool false, .slice none 0 0] _ _ HB4.out.r)
            have HFB := Lib.hid (HB4.out.fin #[.int .i64 0, .slice none 0 0, .slice none 0 0, .slice none 0 0, .slice none 0 0, .int .i64 0, .bool false, .slice none 0 0])
            go_wp2_with (first
              | (refine wpList_store_row rfl 57 (.tmp 4) (.tmp 63) rfl rx #[.int .i64 0, .slice none 0 0, .slice none 0 0, .slice none 0 0, .slice none 0 0, .int .i64 0, .bool false, .slice none 0 0] (by rfl) (by rfl) 57 _ HB4.out.r infoDA rfl (by simp [Value.oneCell']) ?_))
            try simp only [Exit.inBlock, Exit.then]
            refine bodyPost_ret (results_cell2 rfl _ _ rx 57 _ (0, 0) _ rfl HFR.out Try.underlying57 rfl infoDA) rfl ?_
            exact .inr ⟨HNO.out, rfl, HFB.out⟩
      · have CN := Lib.hid (rnew_bad (c := vqc) HII.out (by omega) hnw)
        have HNO : Hid (¬ adOk (shOf X k) slots) := Lib.hid fun ha => hnw ⟨by have := ha.2.2.1.1; rw [shOf_len] at this; exact this, by have := ha.2.2.1.2; rw [shOf_len] at this; exact this, fun i hi => by
          show 1 ≤ (shD (shOf X k) i).q ∧ (shD (shOf X k) i).q ≤ 65536
          rw [shOf_get hi]
          exact ha.2.2.2 _ (List.mem_map.2 ⟨i, List.mem_range.2 hi, rfl⟩)⟩
        clear hnw
        go_wp2_with fail
        refine CN.out.mono ?_
        rintro e w3 ⟨rfl, hb3⟩
        have hba := hb3.trans (((Below.refl w3.heap.size w3).alloc (Nat.le_refl _) (.cells #[.slice none 0 0, .slice none 0 0, .slice none 0 0, .int .i64 0, .bool false] 55)).mono hb3.size)
        have HB4 := Lib.hid (HB.out.bel hba)
        clear hb3 hba CN HII
        go_upto_region 14 with fail
        generalize w3.alloc (.cells #[.slice none 0 0, .slice none 0 0, .slice none 0 0, .int .i64 0, .bool false] 55) = w4 at *
        have HFR := Lib.hid (setRow_heap _ _ _ #[.int .i64 0, .slice none 0 0, .slice none 0 0, .slice none 0 0, .slice none 0 0, .int .i64 0, .bool false, .slice none 0 0] _ _ HB4.out.r)
        have HFB := Lib.hid (HB4.out.fin #[.int .i64 0, .slice none 0 0, .slice none 0 0, .slice none 0 0, .slice none 0 0, .int .i64 0, .bool false, .slice none 0 0])
        go_wp2_with (first
          | (refine wpList_store_row rfl 57 (.tmp 4) (.tmp 63) rfl rx #[.int .i64 0, .slice none 0 0, .slice none 0 0, .slice none 0 0, .slice none 0 0, .int .i64 0, .bool false, .slice none 0 0] (by rfl) (by rfl) 57 _ HB4.out.r infoDA rfl (by simp [Value.oneCell']) ?_))
        try simp only [Exit.inBlock, Exit.then]
        refine bodyPost_ret (results_cell2 rfl _ _ rx 57 _ (0, 0) _ rfl HFR.out Try.underlying57 rfl infoDA) rfl ?_
        exact .inr ⟨HNO.out, rfl, HFB.out⟩
end
end Go.Proofs.Ytmdajndmobpgbaa

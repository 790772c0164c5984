/- topology: the law's made. Conditions: the lines can be read, there are at most 40. -/
import Derived.Test.YtpcapmialdmcaaaTpZ
namespace Go.Proofs.Ytpcapmialdmcaaa
open Go.RowKit Go.Maps

theorem nm_town {n : Int} (h : 0 ≤ n ∧ n ≤ 7) : TownP (nmB n) := by
  have : n = 0 ∨ n = 1 ∨ n = 2 ∨ n = 3 ∨ n = 4 ∨ n = 5 ∨ n = 6 ∨ n = 7 := by omega
  rcases this with rfl | rfl | rfl | rfl | rfl | rfl | rfl | rfl <;> exact townP_one (.inr (.inr (.inr (by decide))))
theorem twL_okN {k : Int} (h : 0 ≤ k ∧ k ≤ 6) : okN (twL k (k + 1).toNat) := by
  refine ⟨by rw [twL_len]; omega, fun x hx => ?_, ?_⟩
  · unfold twL at hx
    obtain ⟨i, _, rfl⟩ := List.mem_map.1 hx
    exact nm_town (by omega)
  · have : k = 0 ∨ k = 1 ∨ k = 2 ∨ k = 3 ∨ k = 4 ∨ k = 5 ∨ k = 6 := by omega
    rcases this with rfl | rfl | rfl | rfl | rfl | rfl | rfl <;> exact of_decide_eq_true (by kernel_rfl)
theorem TA.from {w0 w1 w : World} {K : Nat → Prop} {m : Nat} {ts : List ByteArray} {L : List TL} (h : TA w1 K m ts L w) (hb : Below w0.heap.size w0 w1) : TA w0 K m ts L w := by
  obtain ⟨g, h1, h2, h3, h4⟩ := h
  exact ⟨g, h1, fun k hk => ⟨Nat.le_trans hb.size (h2 k hk).1, (h2 k hk).2⟩, hb.trans (h3.mono hb.size), h4⟩
/-- The state in made's loop. -/
structure MdS (w : World) (K : Nat → Prop) (m : Nat) (ts tl : List ByteArray) (tao : Option Addr) (tc dm j : Nat) (L : List TL) (wr : World) : Prop where
  ta : TA w K m ts L wr
  tb : wr.heap[w.heap.size + 1]? = some (.cells #[.slice none 0 0, .slice none 0 0] 31 (0, 0))
  db : ∃ lao lc, wr.heap[dm]? = some (.cells #[.slice tao tl.length tc, .slice lao L.length lc] 31 (0, 0)) ∧ RefAt wr (.slice tao tl.length tc) (.slice lao L.length lc) tl L
  ow : ∀ k, (Value.slice tao tl.length tc).ownBlock = some k → K k
  lb : LB L j
section
variable {w0 w w' : World} {K : Nat → Prop} {m : Nat} {ts tl : List ByteArray} {tao lao : Option Addr} {tc lc dm j : Nat} {L : List TL}
theorem MdS.bel (h : MdS w0 K m ts tl tao tc dm j L w) (hb : Below w.heap.size w w') : MdS w0 K m ts tl tao tc dm j L w' where
  ta := h.ta.bel hb
  tb := (hb.block _ (lt_of_block h.tb)).trans h.tb
  db := by
    obtain ⟨lao, lc, h1, h2⟩ := h.db
    exact ⟨lao, lc, (hb.block _ (lt_of_block h1)).trans h1, h2.below hb⟩
  ow := h.ow
  lb := h.lb
/-- The document's map is stored. -/
theorem MdS.put {x y : Value} (hta : TA w0 K m ts L w) (htb : w.heap[w0.heap.size + 1]? = some (.cells #[.slice none 0 0, .slice none 0 0] 31 (0, 0))) (hdm : w.heap[dm]? = some (.cells #[x, y] 31 (0, 0))) (hd : w0.heap.size + 1 < dm)
    (hKD : ∀ k, K k → k < dm) (hRT : RT w (.slice tao tl.length tc) tl) (hRL : RefL w (.slice lao L.length lc) L) (how : ∀ k, (Value.slice tao tl.length tc).ownBlock = some k → K k) (hlb : LB L j) :
    MdS w0 K m ts tl tao tc dm j L ((w.setCell ⟨dm, 0, none⟩ (.slice tao tl.length tc)).setCell ⟨dm, 1, none⟩ (.slice lao L.length lc)) := by
  have hne : ∀ k, k ≠ dm → ((w.setCell ⟨dm, 0, none⟩ (.slice tao tl.length tc)).setCell ⟨dm, 1, none⟩ (.slice lao L.length lc)).heap[k]? = w.heap[k]? := fun k hk => by rw [Below.heap_setCell _ _ _ _ hk, Below.heap_setCell _ _ _ _ hk]
  have hsz : ((w.setCell ⟨dm, 0, none⟩ (.slice tao tl.length tc)).setCell ⟨dm, 1, none⟩ (.slice lao L.length lc)).heap.size = w.heap.size := by rw [World.size_setCell, World.size_setCell]
  refine { ta := ?_, tb := (hne _ (by omega)).trans htb, db := ⟨lao, lc, ?_, ?_, ?_⟩, ow := how, lb := hlb }
  · obtain ⟨g, h1, h2, h3, h4⟩ := hta
    refine ⟨g, h1.same fun k hk => hne k fun e => ?_, h2, (h3.setCell (p := ⟨dm, 0, none⟩) (by show w0.heap.size ≤ dm; omega) _).setCell (p := ⟨dm, 1, none⟩) (by show w0.heap.size ≤ dm; omega) _, fun k hk => by rw [hsz]; exact h4 k hk⟩
    subst e
    have h5 := h1.notRef hk hdm
    exact absurd h5 (by decide)
  · rw [setCell_heap_self (setCell_heap_self hdm)]
    rfl
  · obtain ⟨ao, cap, e, h1, h2⟩ := hRT
    refine ⟨ao, cap, e, h1, fun h0 => ?_⟩
    obtain ⟨b, off, e2, h3, h4⟩ := h2 h0
    have hk : K b := how b (by rw [e, e2]; rfl)
    exact ⟨b, off, e2, by rw [hsz]; exact h3, fun i hi => (World.cell?_of_block (w := w) (a := ⟨b, off + i, none⟩) (hne b (by have := hKD b hk; omega))).trans (h4 i hi)⟩
  · obtain ⟨vs, h1, h2, h3, h4⟩ := hRL
    exact ⟨vs, h1, OL.heap h2 fun k hk => hne k (by obtain ⟨cur, hc⟩ := OL.elem h2 k hk; exact type_ne hc hdm (by decide)), h3, fun i hi => OL.heap (h4 i hi) fun k hk => hne k (by obtain ⟨cur, hc⟩ := OL.elem (h4 i hi) k hk; exact type_ne hc hdm (by decide))⟩
end
/-- Cells of another block of the document. -/
theorem set2 {w0 w : World} {K : Nat → Prop} {m q : Nat} {ts tl : List ByteArray} {L : List TL} {x y tv lv : Value} (hta : TA w0 K m ts L w) (hdm : w.heap[q]? = some (.cells #[x, y] 31 (0, 0))) (hd : w0.heap.size ≤ q) (hK : ¬ K q)
    (hRA : RefAt w tv lv tl L) (how : ∀ k, tv.ownBlock = some k → K k) (u v : Value) : TA w0 K m ts L ((w.setCell ⟨q, 0, none⟩ u).setCell ⟨q, 1, none⟩ v) ∧ RefAt ((w.setCell ⟨q, 0, none⟩ u).setCell ⟨q, 1, none⟩ v) tv lv tl L ∧ ((w.setCell ⟨q, 0, none⟩ u).setCell ⟨q, 1, none⟩ v).heap[q]? = some (.cells #[u, v] 31 (0, 0)) := by
  have hne : ∀ k, k ≠ q → ((w.setCell ⟨q, 0, none⟩ u).setCell ⟨q, 1, none⟩ v).heap[k]? = w.heap[k]? := fun k hk => by rw [Below.heap_setCell _ _ _ _ hk, Below.heap_setCell _ _ _ _ hk]
  have hsz : ((w.setCell ⟨q, 0, none⟩ u).setCell ⟨q, 1, none⟩ v).heap.size = w.heap.size := by rw [World.size_setCell, World.size_setCell]
  refine ⟨?_, ⟨?_, ?_⟩, ?_⟩
  · obtain ⟨g, h1, h2, h3, h4⟩ := hta
    refine ⟨g, h1.same fun k hk => hne k fun e => ?_, h2, (h3.setCell (p := ⟨q, 0, none⟩) hd _).setCell (p := ⟨q, 1, none⟩) hd _, fun k hk => by rw [hsz]; exact h4 k hk⟩
    subst e
    have h5 := h1.notRef hk hdm
    exact absurd h5 (by decide)
  · obtain ⟨ao, cap, e, h1, h2⟩ := hRA.1
    refine ⟨ao, cap, e, h1, fun h0 => ?_⟩
    obtain ⟨b, off, e2, h3, h4⟩ := h2 h0
    have hk : K b := how b (by rw [e, e2]; rfl)
    exact ⟨b, off, e2, by rw [hsz]; exact h3, fun i hi => (World.cell?_of_block (w := w) (a := ⟨b, off + i, none⟩) (hne b (fun e3 => hK (e3 ▸ hk)))).trans (h4 i hi)⟩
  · obtain ⟨vs, h1, h2, h3, h4⟩ := hRA.2
    exact ⟨vs, h1, OL.heap h2 fun k hk => hne k (by obtain ⟨cur, hc⟩ := OL.elem h2 k hk; exact type_ne hc hdm (by decide)), h3, fun i hi => OL.heap (h4 i hi) fun k hk => hne k (by obtain ⟨cur, hc⟩ := OL.elem (h4 i hi) k hk; exact type_ne hc hdm (by decide))⟩
  · rw [setCell_heap_self (setCell_heap_self hdm)]
    rfl
/-- What made leaves. -/
def MadeP (tl : List ByteArray) (w : World) (e : Ending) (w' : World) : Prop := ∃ m ts L tao tc lao lc K, e = .returned (.tuple #[.pointer (some ⟨m, 0, none⟩), .agg #[.slice tao tl.length tc, .slice lao L.length lc], .bool true]) ∧ (∀ x, x ∈ ts ↔ x ∈ tl) ∧ TA w K m ts L w' ∧ RefAt w' (.slice tao tl.length tc) (.slice lao L.length lc) tl L ∧ (∀ k, (Value.slice tao tl.length tc).ownBlock = some k → K k) ∧ LB L 40
section
variable {w : World} {lo : Option Addr} {lc : Nat} {ls : List Ln}
set_option maxRecDepth 100000 in
set_option maxHeartbeats 6400000 in
theorem made_any (h : IsLn w (.slice lo ls.length lc) ls) (hn : ls.length ≤ 40) (T : Int) (hT : 0 ≤ T ∧ T ≤ 255) : Calls Try.prog 11 #[.agg #[.int .u8 T, .slice lo ls.length lc]] w (MadeP (twL (T % 7) (T % 7 + 1).toNat) w) := by
  have hok := twL_okN (k := T % 7) (by omega)
  have HT1 := Lib.hid (fun wx => towns_any T hT lo ls.length lc wx)
  have HT0 : Hid (0 < (twL (T % 7) (T % 7 + 1).toNat).length) := Lib.hid (by rw [twL_len]; omega)
  generalize twL (T % 7) (T % 7 + 1).toNat = tl at *
  have HOK := Lib.hid hok
  have HH := Lib.hid h
  have hW : ∀ wx, wx = (w.alloc (.cells #[.int .u8 T, .slice lo ls.length lc] 24)).alloc (.cells #[.slice none 0 0, .slice none 0 0] 31) → Below w.heap.size w wx ∧ wx.heap[w.heap.size]? = some (.cells #[.int .u8 T, .slice lo ls.length lc] 24 (0, 0)) ∧ wx.heap[w.heap.size + 1]? = some (.cells #[.slice none 0 0, .slice none 0 0] 31 (0, 0)) ∧ wx.heap.size = w.heap.size + 2 := by
    rintro wx rfl
    have h1 := (Below.refl w.heap.size w).alloc (Nat.le_refl _) (.cells #[.int .u8 T, .slice lo ls.length lc] 24)
    have z1 := World.size_alloc w (.cells #[.int .u8 T, .slice lo ls.length lc] 24)
    have q1 := heap_alloc_new w (.cells #[.int .u8 T, .slice lo ls.length lc] 24)
    generalize w.alloc (.cells #[.int .u8 T, .slice lo ls.length lc] 24) = wA at *
    have h2 := (Below.refl wA.heap.size wA).alloc (Nat.le_refl _) (.cells #[.slice none 0 0, .slice none 0 0] 31)
    have z2 := World.size_alloc wA (.cells #[.slice none 0 0, .slice none 0 0] 31)
    have q2 := heap_alloc_new wA (.cells #[.slice none 0 0, .slice none 0 0] 31)
    rw [z1] at q2
    exact ⟨h1.trans (h2.mono (by omega)), (h2.block _ (by omega)).trans q1, q2, by omega⟩
  obtain ⟨hB1, hq1, hq2, hz1⟩ := hW _ rfl
  have x0 := (has_cell hq1 0).trans (show _ = some (Value.int .u8 T) from rfl)
  have x1 := (has_cell hq1 1).trans (show _ = some (Value.slice lo ls.length lc) from rfl)
  have d40 : decide ((40 : Int) < (ls.length : Int)) = false := decide_eq_false (by omega)
  have HB1 := Lib.hid hB1
  have HQ1 := Lib.hid hq1
  have HQ2 := Lib.hid hq2
  have HZ1 := Lib.hid hz1
  clear h hok hW hB1 hq1 hq2 hz1
  go_enter Try.func11, Try.ntmps11
  go_wp2_with fail
  generalize (w.alloc (.cells #[.int .u8 T, .slice lo ls.length lc] 24)).alloc (.cells #[.slice none 0 0, .slice none 0 0] 31) = w1 at *
  clear x0 x1
  refine (HT1.out w1).mono ?_
  rintro e w2 ⟨v1, rfl, hI1, _, hb2⟩
  have HB2 := Lib.hid (HB1.out.trans (hb2.mono HB1.out.size))
  have HQ1 := Lib.hid ((hb2.block w.heap.size (by have := HZ1.out; omega)).trans HQ1.out)
  have HQ2 := Lib.hid ((hb2.block (w.heap.size + 1) (by have := HZ1.out; omega)).trans HQ2.out)
  have CN := Lib.hid (t_new hI1.rt (fun x hx => (HOK.out.2.1 x hx).sz))
  rw [newE_ok HOK.out] at CN
  obtain ⟨ao1, cp1, rfl, _⟩ := hI1.form
  have x0 := (has_cell HQ1.out 0).trans (show _ = some (Value.int .u8 T) from rfl)
  have x1 := (has_cell HQ1.out 1).trans (show _ = some (Value.slice lo ls.length lc) from rfl)
  clear hI1 hb2
  go_wp2_with fail
  refine CN.out.mono ?_
  rintro e w3 ⟨hb3, hR⟩
  rw [if_pos trivial] at hR
  obtain ⟨m, ts, rfl, hp, hT3⟩ := hR
  have HM : Hid (∀ x, x ∈ ts ↔ x ∈ tl) := Lib.hid fun x => hp.mem_iff
  have HT3 := Lib.hid (hT3.from HB2.out)
  have HL2 := Lib.hid (And.intro (lt_of_block HQ1.out) (lt_of_block HQ2.out))
  have HQ1 := Lib.hid ((hb3.block w.heap.size HL2.out.1).trans HQ1.out)
  have HQ2 := Lib.hid ((hb3.block (w.heap.size + 1) HL2.out.2).trans HQ2.out)
  clear hb3 hp hT3 CN x0 x1 HB1 HB2 HZ1 HL2
  have x0 := (has_cell HQ1.out 0).trans (show _ = some (Value.int .u8 T) from rfl)
  have x1 := (has_cell HQ1.out 1).trans (show _ = some (Value.slice lo ls.length lc) from rfl)
  go_wp2_with fail
  refine (HT1.out w3).mono ?_
  rintro e w4 ⟨v2, rfl, hI4, _, hb4⟩
  obtain ⟨ao2, cp2, rfl, _, hcp2, _⟩ := hI4.form
  have CN := Lib.hid (rnew_any hI4.rt hcp2 (fun x hx => (HOK.out.2.1 x hx).sz))
  unfold RNewP at CN
  rw [newE_ok HOK.out] at CN
  have HT4 := Lib.hid (HT3.out.bel hb4)
  have HL2 := Lib.hid (And.intro (lt_of_block HQ1.out) (lt_of_block HQ2.out))
  have HQ1 := Lib.hid ((hb4.block w.heap.size HL2.out.1).trans HQ1.out)
  have HQ2 := Lib.hid ((hb4.block (w.heap.size + 1) HL2.out.2).trans HQ2.out)
  clear hI4 hb4 x0 x1 HL2 HT3 HT1 hcp2
  go_wp2_with fail
  refine CN.out.mono ?_
  rintro e w5 ⟨tao, tn, tc, rfl, hrt, hb5⟩
  obtain ⟨hrt, how⟩ := hrt trivial
  obtain ⟨_, _, etn, _⟩ := id hrt
  obtain rfl : tn = tl.length := by simp at etn; exact etn.2.1
  clear etn
  have HT5 := Lib.hid ((HT4.out.add (J := fun k => w4.heap.size ≤ k ∧ k < w5.heap.size) hb5 (fun k hk => hk)).less (J := fun k => w4.heap.size ≤ k ∧ k < w5.heap.size) (fun k hk => .inr hk))
  have HOW : Hid (∀ k, (Value.slice tao tl.length tc).ownBlock = some k → w4.heap.size ≤ k ∧ k < w5.heap.size) := Lib.hid fun k hk => ⟨how k hk, by
    obtain ⟨ao', cap', e', _, h2⟩ := hrt
    simp at e'
    obtain ⟨rfl, _, rfl⟩ := e'
    obtain ⟨b, off, e2, h3, _⟩ := h2 HT0.out
    subst e2
    have e3 : b = k := Option.some.inj hk
    omega⟩
  have HL2 := Lib.hid (And.intro (lt_of_block HQ1.out) (lt_of_block HQ2.out))
  have HK0 : Hid (w.heap.size + 1 < w4.heap.size) := Lib.hid HL2.out.2
  have HQ1 := Lib.hid ((hb5.block w.heap.size HL2.out.1).trans HQ1.out)
  have HQ2 := Lib.hid ((hb5.block (w.heap.size + 1) HL2.out.2).trans HQ2.out)
  have HR5 := Lib.hid hrt
  clear CN hrt how hb5 HT4 HL2
  go_upto_region 3 with fail
  have hb6 := (Below.refl w5.heap.size w5).alloc (Nat.le_refl _) (.cells #[.slice tao tl.length tc, .slice none 0 0] 31)
  have hq6 := heap_alloc_new w5 (.cells #[.slice tao tl.length tc, .slice none 0 0] 31)
  generalize w5.alloc (.cells #[.slice tao tl.length tc, .slice none 0 0] 31) = w6 at *
  have HL2 := Lib.hid (And.intro (lt_of_block HQ1.out) (lt_of_block HQ2.out))
  have HQ1 := Lib.hid ((hb6.block w.heap.size HL2.out.1).trans HQ1.out)
  have HMD : Hid (MdS w (fun k => w4.heap.size ≤ k ∧ k < w5.heap.size) m ts tl tao tc w5.heap.size 0 [] w6) := Lib.hid {
    ta := HT5.out.bel hb6
    tb := (hb6.block (w.heap.size + 1) HL2.out.2).trans HQ2.out
    db := ⟨none, 0, hq6, RefAt.nil (HR5.out.belowS hb6)⟩
    ow := HOW.out
    lb := LB.nil 0 }
  have HDM : Hid (w.heap.size + 1 < w5.heap.size) := Lib.hid HL2.out.2
  have x1 := (has_cell HQ1.out 1).trans (show _ = some (Value.slice lo ls.length lc) from rfl)
  have HKN : Hid (¬ (fun k => w4.heap.size ≤ k ∧ k < w5.heap.size) (w.heap.size + 1)) := Lib.hid fun h => by
    have h1 := h.1
    have h2 := HK0.out
    omega
  have HKD : Hid (∀ k, (fun k => w4.heap.size ≤ k ∧ k < w5.heap.size) k → k < w5.heap.size) := Lib.hid fun k hk => hk.2
  clear hb6 hq6 HL2 HQ1 HQ2 HT5 HR5 HOW HT0 HOK
  generalize (fun k => w4.heap.size ≤ k ∧ k < w5.heap.size) = KB at *
  generalize w5.heap.size = dm at *
  go_wp2_with fail
  clear x1
  go_loopw [6, 8, 41] (fun ev cv iv wr => ∃ (j : Nat) (k : Int) (L : List TL), j ≤ ls.length ∧ ev = errV k ∧ cv = .int .i64 k ∧ iv = .int .i64 j ∧ MdS w KB m ts tl tao tc dm j L wr) (fun _ _ iv _ => ls.length - (intOf iv).toNat)
  case atStart => exact ⟨0, 0, [], Nat.zero_le _, errV0.symm, rfl, rfl, HMD.out⟩
  case round =>
    obtain ⟨j, k, L, hj, rfl, rfl, rfl, hS⟩ := hrel
    have HS := Lib.hid hS
    clear hS
    generalize errV k = ev at *
    by_cases hlt : j < ls.length
    · obtain ⟨ao', cap', e, _, hbd, hcc⟩ := HH.out
      obtain ⟨rfl, _, rfl⟩ : lo = ao' ∧ True ∧ lc = cap' := by simpa using e
      obtain ⟨b, off, rfl, hb, hc⟩ := hcc (by omega)
      have hc := hc j hlt
      have hbd := hbd (ls.getD j dLn) (show ls.getD j dLn ∈ ls from by
        have e : ls.getD j dLn = ls[j] := by simp [List.getD, hlt]
        rw [e]
        exact List.getElem_mem hlt)
      clear hcc e
      generalize ls.getD j dLn = l at *
      have hcw : ∀ c, c < 6 → wr.cell? ⟨b, off + j * 6 + c, none⟩ = some (lnV l c) := fun c hc6 => (HS.out.ta.be.cell (p := ⟨b, off + j * 6 + c, none⟩) hb).trans (hc c hc6)
      have c0 : wr.cell? ⟨b, off + j * 6, none⟩ = some (.int .u8 l.a) := hcw 0 (by omega)
      have c1 : wr.cell? ⟨b, off + j * 6 + 1, none⟩ = some (.int .u8 l.b) := hcw 1 (by omega)
      have c2 : wr.cell? ⟨b, off + j * 6 + 2, none⟩ = some (.bool l.dn) := hcw 2 (by omega)
      have c3 : wr.cell? ⟨b, off + j * 6 + 3, none⟩ = some (.int .i64 l.x) := hcw 3 (by omega)
      have c4 : wr.cell? ⟨b, off + j * 6 + 4, none⟩ = some (.int .i64 l.y) := hcw 4 (by omega)
      have c5 : wr.cell? ⟨b, off + j * 6 + 5, none⟩ = some (.int .i64 l.t) := hcw 5 (by omega)
      have HBD := Lib.hid hbd
      clear hc hcw hbd hb
      go_upto_region 8 with fail
      have hbA := (Below.refl wr.heap.size wr).alloc (Nat.le_refl _) (.cells #[.int .u8 l.a, .int .u8 l.b, .bool l.dn, .int .i64 l.x, .int .i64 l.y, .int .i64 l.t] 58)
      have hqA := heap_alloc_new wr (.cells #[.int .u8 l.a, .int .u8 l.b, .bool l.dn, .int .i64 l.x, .int .i64 l.y, .int .i64 l.t] 58)
      generalize wr.alloc (.cells #[.int .u8 l.a, .int .u8 l.b, .bool l.dn, .int .i64 l.x, .int .i64 l.y, .int .i64 l.t] 58) = wa at *
      have HBA := Lib.hid hbA
      have HQA := Lib.hid hqA
      clear c0 c1 c2 c3 c4 c5 hbA hqA
      have HC1 := Lib.hid (fun wx => name_any l.a HBD.out.1 wx)
      have HC2 := Lib.hid (fun wx => name_any l.b HBD.out.2 wx)
      have hH0 : wa.drew.cell? ⟨wr.heap.size, 0, none⟩ = some (.int .u8 l.a) ∧ wa.drew.cell? ⟨wr.heap.size, 1, none⟩ = some (.int .u8 l.b) := ⟨(has_cell HQA.out 0).trans rfl, (has_cell HQA.out 1).trans rfl⟩
      refine wp_region_held_drew (S := (fun w' : World => w'.cell? ⟨wr.heap.size, 0, none⟩ = some (.int .u8 l.a) ∧ w'.cell? ⟨wr.heap.size, 1, none⟩ = some (.int .u8 l.b))) (by kernel_rfl) (hH0) (fun hH => ?_)
      refine wpAnyH_take (i := 0) (v := ?_) rfl (by kernel_rfl) (by kernel_rfl) (by kernel_rfl) (fun _ _ _ h => h) (Or.inl ⟨by rfl, ?_⟩) hH ?_
      rotate_left
      · intro w hSw
        go_simp
        with_reducible rfl
      try simp only [List.getElem_toArray, List.getElem_cons_zero, Act.put, List.setIfInBounds_toArray, List.set_cons_zero, List.set_cons_succ]
      refine wpAnyH_take (i := 1) (v := ?_) rfl (by kernel_rfl) (by kernel_rfl) (by kernel_rfl) (fun _ _ _ h => h) (Or.inl ⟨by rfl, ?_⟩) hH ?_
      rotate_left
      · intro w hSw
        go_simp
        with_reducible rfl
      try simp only [List.getElem_toArray, List.getElem_cons_succ, List.getElem_cons_zero, Act.put, List.setIfInBounds_toArray, List.set_cons_zero, List.set_cons_succ]
      refine wpAnyH_take (i := 3) (v := ?_) rfl (by kernel_rfl) (by kernel_rfl) (by kernel_rfl) (fun _ _ _ h => h) (Or.inl ⟨by rfl, ?_⟩) hH ?_
      rotate_left
      · intro w hSw
        go_simp
        with_reducible rfl
      try simp only [List.getElem_toArray, List.getElem_cons_succ, List.getElem_cons_zero, Act.put, List.setIfInBounds_toArray, List.set_cons_zero, List.set_cons_succ]
      refine wpAnyH_take (i := 4) (v := ?_) rfl (by kernel_rfl) (by kernel_rfl) (by kernel_rfl) (fun _ _ _ h => h) (Or.inl ⟨by rfl, ?_⟩) hH ?_
      rotate_left
      · intro w hSw
        go_simp
        with_reducible rfl
      try simp only [List.getElem_toArray, List.getElem_cons_succ, List.getElem_cons_zero, Act.put, List.setIfInBounds_toArray, List.set_cons_zero, List.set_cons_succ]
      refine wpAnyH_ready (rs := [2]) (by kernel_rfl) (by simp) ?_
      refine AllReadyH.cons rfl (fun K hK => ?_) AllReadyH.nil
      go_simp
      refine (HC1.out _).mono ?_
      rintro e wb ⟨rfl, hbb⟩
      go_simp
      have HBB := Lib.hid (HBA.out.trans (((below_drew wa.heap.size wa).trans hbb).mono HBA.out.size))
      have HQB := Lib.hid ((hbb.block wr.heap.size (lt_of_block HQA.out)).trans HQA.out)
      refine hK.out _ _ ⟨(has_cell HQB.out 0).trans rfl, (has_cell HQB.out 1).trans rfl⟩ (fun hH3 => ?_)
      clear hK K
      refine wpAnyH_ready (rs := [5]) (by kernel_rfl) (by simp) ?_
      refine AllReadyH.cons rfl (fun K hK => ?_) AllReadyH.nil
      go_simp
      refine (HC2.out _).mono ?_
      rintro e wc ⟨rfl, hbc⟩
      go_simp
      have HBC := Lib.hid (HBB.out.trans (hbc.mono HBB.out.size))
      have HQC := Lib.hid ((hbc.block wr.heap.size (lt_of_block HQB.out)).trans HQB.out)
      refine hK.out _ _ ⟨(has_cell HQC.out 0).trans rfl, (has_cell HQC.out 1).trans rfl⟩ (fun hH4 => ?_)
      clear hK K
      refine wpAnyH_take (i := 6) (v := ?_) rfl (by kernel_rfl) (by kernel_rfl) (by kernel_rfl) (fun _ _ _ h => h) (Or.inl ⟨by rfl, ?_⟩) hH4 ?_
      rotate_left
      · intro w hSw
        go_simp
        with_reducible rfl
      try simp only [List.getElem_toArray, List.getElem_cons_succ, List.getElem_cons_zero, Act.put, List.setIfInBounds_toArray, List.set_cons_zero, List.set_cons_succ]
      refine wpAnyH_take (i := 7) (v := ?_) rfl (by kernel_rfl) (by kernel_rfl) (by kernel_rfl) (fun _ _ _ h => h) (Or.inl ⟨by rfl, ?_⟩) hH4 ?_
      rotate_left
      · intro w hSw
        go_simp
        with_reducible rfl
      try simp only [List.getElem_toArray, List.getElem_cons_succ, List.getElem_cons_zero, Act.put, List.setIfInBounds_toArray, List.set_cons_zero, List.set_cons_succ]
      refine wpAnyH_done (by kernel_rfl) ?_ _
      have HMC := Lib.hid (HS.out.bel HBC.out)
      clear hH0 hH hH3 hH4 hbb hbc HBB HBC HQB HQA HBA HS HC1 HC2
      cases hdn : l.dn
      · have d2 := (has_cell HQC.out 2).trans (show _ = some (Value.bool false) from by rw [← hdn]; rfl)
        have d3 := (has_cell HQC.out 3).trans (show _ = some (Value.int .i64 l.x) from rfl)
        obtain ⟨lao, lcx, hdm, hRA⟩ := HMC.out.db
        have HRA := Lib.hid (And.intro hdm hRA)
        have CL := Lib.hid (r_link (a := nmB l.a) (b := nmB l.b) HMC.out.ta HM.out l.x)
        clear hdm hRA
        go_wp2_with fail
        refine CL.out.mono ?_
        rintro e wd ⟨rfl, hTd, hSR, hzd⟩
        have HQD := (hSR.2 _ _ _ _ (by kernel_rfl) HQC.out).trans HQC.out
        have hdmD := (hSR.2 _ _ _ _ (by kernel_rfl) HRA.out.1).trans HRA.out.1
        have htbD := (hSR.2 _ _ _ _ (by kernel_rfl) HMC.out.tb).trans HMC.out.tb
        have hRD := HRA.out.2.sameR HMC.out.ow hSR hzd
        have CR := Lib.hid (rconn_any (a := nmB l.a) (b := nmB l.b) hRD (by have := HMC.out.lb.1; omega) l.x)
        have HRT := Lib.hid hRD.1
        have HDD := Lib.hid (And.intro hdmD htbD)
        have HTD := Lib.hid hTd
        clear d2 d3 CL HRA hSR hzd hRD hTd
        have d3 := (has_cell HQD 3).trans (show _ = some (Value.int .i64 l.x) from rfl)
        have y0 := (has_cell hdmD 0).trans (show _ = some (Value.slice tao tl.length tc) from rfl)
        have y1 := (has_cell hdmD 1).trans (show _ = some (Value.slice lao L.length lcx) from rfl)
        clear HQD hdmD htbD
        go_wp2_with fail
        refine CR.out.mono ?_
        rintro e we ⟨lao', lc', rfl, hRL, hbe⟩
        have hdmE := (hbe.block _ (lt_of_block HDD.out.1)).trans HDD.out.1
        have HMF := Lib.hid (MdS.put (HTD.out.bel hbe) ((hbe.block _ (lt_of_block HDD.out.2)).trans HDD.out.2) hdmE HDM.out HKD.out (HRT.out.belowS hbe) hRL HMC.out.ow (HMC.out.lb.conn tl (nmB l.a) (nmB l.b) l.x))
        have p0 := (has_cell hdmE 0).trans (show _ = some (Value.slice tao tl.length tc) from rfl)
        have p1 := (has_cell hdmE 1).trans (show _ = some (Value.slice lao L.length lcx) from rfl)
        have f0 := has_free hdmE 0
        have f1 := has_free hdmE 1
        clear d3 y0 y1 CR hdmE hRL hbe HDD HTD HRT
        generalize (connS tl L (nmB l.a) (nmB l.b) l.x).2 = code at *
        generalize (connS tl L (nmB l.a) (nmB l.b) l.x).1 = L' at *
        have hk2 : (code == code) = true := by simp
        have hk3 : (code != code) = false := by simp
        go_upto_region 14 with fail
        generalize (we.setCell ⟨dm, 0, none⟩ (.slice tao tl.length tc)).setCell ⟨dm, 1, none⟩ (.slice lao' L'.length lc') = wf at *
        clear p0 p1 f0 f1
        go_wp2_with fail
        refine (num_any code wf).mono ?_
        rintro e wx ⟨rfl, hw⟩
        obtain rfl : wf = wx := hw.symm
        go_wp2_with fail
        go_roundw
        case rel => exact ⟨j + 1, code, L', by omega, rfl, rfl, by go_num, HMF.out⟩
        case measure => simp [intOf]; omega
      · have d2 := (has_cell HQC.out 2).trans (show _ = some (Value.bool true) from by rw [← hdn]; rfl)
        have d3 := (has_cell HQC.out 3).trans (show _ = some (Value.int .i64 l.x) from rfl)
        have d4 := (has_cell HQC.out 4).trans (show _ = some (Value.int .i64 l.y) from rfl)
        obtain ⟨lao, lcx, hdm, hRA⟩ := HMC.out.db
        have HRA := Lib.hid (And.intro hdm hRA)
        have CL := Lib.hid (r_down (a := nmB l.a) (b := nmB l.b) HMC.out.ta (nmB_size _) (nmB_size _) (fun q hq => by have := HMC.out.lb.2 q hq; omega) l.x l.y)
        clear hdm hRA
        go_wp2_with fail
        refine CL.out.mono ?_
        rintro e wd ⟨rfl, hTd, hSR, hzd⟩
        have HQD := (hSR.2 _ _ _ _ (by kernel_rfl) HQC.out).trans HQC.out
        have hdmD := (hSR.2 _ _ _ _ (by kernel_rfl) HRA.out.1).trans HRA.out.1
        have htbD := (hSR.2 _ _ _ _ (by kernel_rfl) HMC.out.tb).trans HMC.out.tb
        have hRD := HRA.out.2.sameR HMC.out.ow hSR hzd
        have CR := Lib.hid (rdown_any (a := nmB l.a) (b := nmB l.b) hRD (by have := HMC.out.lb.1; omega) (fun q hq => by have := HMC.out.lb.2 q hq; omega) l.x l.y)
        have HRT := Lib.hid hRD.1
        have HDD := Lib.hid (And.intro hdmD htbD)
        have HTD := Lib.hid hTd
        clear d2 d3 d4 CL HRA hSR hzd hRD hTd
        have d3 := (has_cell HQD 3).trans (show _ = some (Value.int .i64 l.x) from rfl)
        have d4 := (has_cell HQD 4).trans (show _ = some (Value.int .i64 l.y) from rfl)
        have y0 := (has_cell hdmD 0).trans (show _ = some (Value.slice tao tl.length tc) from rfl)
        have y1 := (has_cell hdmD 1).trans (show _ = some (Value.slice lao L.length lcx) from rfl)
        clear HQD hdmD htbD
        go_wp2_with fail
        refine CR.out.mono ?_
        rintro e we ⟨lao', lc', rfl, hRL, hbe⟩
        have hdmE := (hbe.block _ (lt_of_block HDD.out.1)).trans HDD.out.1
        have HMF := Lib.hid (MdS.put (HTD.out.bel hbe) ((hbe.block _ (lt_of_block HDD.out.2)).trans HDD.out.2) hdmE HDM.out HKD.out (HRT.out.belowS hbe) hRL HMC.out.ow (HMC.out.lb.down (nmB l.a) (nmB l.b) l.x l.y))
        have p0 := (has_cell hdmE 0).trans (show _ = some (Value.slice tao tl.length tc) from rfl)
        have p1 := (has_cell hdmE 1).trans (show _ = some (Value.slice lao L.length lcx) from rfl)
        have f0 := has_free hdmE 0
        have f1 := has_free hdmE 1
        clear d3 d4 y0 y1 CR hdmE hRL hbe HDD HTD HRT
        generalize (downS L (nmB l.a) (nmB l.b) l.x l.y).2 = code at *
        generalize (downS L (nmB l.a) (nmB l.b) l.x l.y).1 = L' at *
        have hk2 : (code == code) = true := by simp
        have hk3 : (code != code) = false := by simp
        go_upto_region 14 with fail
        generalize (we.setCell ⟨dm, 0, none⟩ (.slice tao tl.length tc)).setCell ⟨dm, 1, none⟩ (.slice lao' L'.length lc') = wf at *
        clear p0 p1 f0 f1
        go_wp2_with fail
        refine (num_any code wf).mono ?_
        rintro e wx ⟨rfl, hw⟩
        obtain rfl : wf = wx := hw.symm
        go_wp2_with fail
        go_roundw
        case rel => exact ⟨j + 1, code, L', by omega, rfl, rfl, by go_num, HMF.out⟩
        case measure => simp [intOf]; omega
    · obtain rfl : j = ls.length := by omega
      obtain ⟨lao, lcx, hdm, hRA⟩ := HS.out.db
      have y0 := (has_cell hdm 0).trans (show _ = some (Value.slice tao tl.length tc) from rfl)
      have y1 := (has_cell hdm 1).trans (show _ = some (Value.slice lao L.length lcx) from rfl)
      have p0 := (has_cell HS.out.tb 0).trans (show _ = some (Value.slice none 0 0) from rfl)
      have p1 := (has_cell HS.out.tb 1).trans (show _ = some (Value.slice none 0 0) from rfl)
      have f0 := has_free HS.out.tb 0
      have f1 := has_free HS.out.tb 1
      have HF := Lib.hid (set2 (HS.out.ta.bel (below_drew _ wr)) HS.out.tb (by omega) HKN.out (hRA.below (below_drew _ wr)) HS.out.ow (.slice tao tl.length tc) (.slice lao L.length lcx))
      clear hdm hRA
      go_upto_region 17 with fail
      go_region
      go_wp2_with fail
      try simp only [Exit.inBlock, Exit.then]
      refine bodyPost_ret (results_cell3 rfl _ _ (w.heap.size + 1) 31 _ (0, 0) _ rfl HF.out.2.2 Try.underlying31 rfl (by kernel_rfl)) rfl ?_
      exact ⟨m, ts, L, tao, tc, lao, lcx, KB, rfl, HM.out, HF.out.1, HF.out.2.1, HS.out.ow, HS.out.lb.up (by omega)⟩
end
end Go.Proofs.Ytpcapmialdmcaaa

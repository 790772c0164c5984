/- network: Send is accepted. Conditions: the data can be read; the numbers are in range. -/
import Derived.Test.YtkhiepjlfbjgdaaZNwQ
import Derived.Test.YtkhiepjlfbjgdaaZHeld
namespace Go.Proofs.Ytkhiepjlfbjgdaa
open Go.RowKit

section
variable {w : World} {P : Nat → Prop} {b : Nat} {s : Net}
noncomputable def Net.base (s : Net) (t : Int) (x y : ByteArray) : Net :=
  { s.setL x y { s.get x y with sent := (s.get x y).sent + 1 } with present := t, msgs := s.msgs + 1, lost := s.lost + (if (s.list t x y).length = 0 then 1 else 0) }
def Net.more (S : Net) (t : Int) (x y : ByteArray) (data : List Int) (l : List Int) (k : Nat) : Net := { S with arr := S.arr ++ news t x y data S.msgs l k }
theorem more_zero (S : Net) (t : Int) (x y : ByteArray) (data l : List Int) : S.more t x y data l 0 = S := by simp [Net.more, news]
theorem more_succ (S : Net) (t : Int) (x y : ByteArray) (data l : List Int) (k : Nat) : (S.more t x y data l k).push ⟨t + l.getD k 0, x, y, data, S.msgs, k⟩ = S.more t x y data l (k + 1) := by simp [Net.more, Net.push, news_succ]
theorem IsBytes.cellsOnly {wr : World} {ao : Option Addr} {n bk off : Nat} {X : Nat → Int} (h : IsBytes w ao n bk off X) (ho : Only P w wr) (hne : 0 < n → ¬ P bk) : Cells wr ao n (bys (lst n X)) where
  nil := h.cells.nil
  len := h.cells.len
  at_ a ha j u hu := by
    have hj : j < n := by have := (List.getElem?_eq_some_iff.1 hu).1; rwa [bys_len, lst_len] at this
    have h1 := h.cells.at_ a ha j u hu
    have h2 := h.ao (by omega)
    rw [ha] at h2
    obtain rfl := Option.some.inj h2
    rw [Addr.add_lit] at h1 ⊢
    rw [← h1]
    exact World.cell?_of_block (ho.block _ (h.lt (by omega)) (hne (by omega)))
  one := h.cells.one
/-- The state of Send's loop after k deliveries. -/
structure SendR (P : Nat → Prop) (b : Nat) (S : Net) (t : Int) (x y : ByteArray) (data : List Int) (lv : Value) (l : List Int) (w : World) (k : Nat) (wr : World) : Prop where
  s : NS wr (grow P w) b (S.more t x y data l k)
  o : Only P w wr
  l : OL wr 3 1 lv l.length (ints l)
  p0 : wr.heap[w.heap.size]? = some (Obj.cells #[.int .i64 t] 3 (0, 0))
  p1 : wr.heap[w.heap.size + 1]? = some (Obj.cells #[.string x] 9 (0, 0))
  p2 : wr.heap[w.heap.size + 2]? = some (Obj.cells #[.string y] 9 (0, 0))
/-- What the list holds behind the cuts. -/
structure ListS (w5 : World) (c : Value) (l : List Int) (w6 : World) : Prop where
  w : w6 = w5
  v : ∃ ao cap, c = .slice ao l.length cap
  l : OL w5 3 1 c l.length (ints l)
/-- What the list holds ahead of the cuts. -/
structure ListR (w3 : World) (c : Value) (l : List Int) (w4 : World) : Prop where
  b : Below w3.heap.size w3 w4
  v : ∃ ao cap, c = .slice ao l.length cap
  l : OL w4 3 1 c l.length (ints l)
theorem NAl.lt0 {q : NG} {s : Net} {p m l : Int} {k : Nat} (hk : NAl b q { s with present := p, msgs := m, lost := l } k) : NAl b q s k := hk.nums
theorem NetAt.fateOL {q : NG} {x y : ByteArray} {L : Line} (h : NetAt w b q s) (hl : s.lines x y = some L) {i : Int} {l : List Int} (hf : L.fates i = some l) : OL w 3 1 (q.V x y i) l.length (ints l) := (h.l x y L hl).o i l hf
set_option maxRecDepth 100000 in
set_option maxHeartbeats 1600000 in
theorem send_ok {ao : Option Addr} {n cp bk off cn : Nat} {X : Nat → Int} (h : NS w P b s) (g : NGd cn s) (hcn : cn ≤ 1000) (hPlt : ∀ k, P k → k < w.heap.size) {x y : ByteArray} (hx : x.size ≤ maxLen) (hy : y.size ≤ maxLen) {t : Int} (ht : 0 ≤ t) (ht2 : t ≤ 1099511627776) (hp : s.present ≤ t)
    (hX : IsBytes w ao n bk off X) (hXP : 0 < n → ¬ P bk) (hn : n ≤ 100000) :
    Calls Try.prog 17 #[.pointer (some ⟨b, 0, none⟩), .int .i64 t, .string x, .string y, .slice ao n cp] w (NPost P b .nilIface (s.sent t x y (lst n X)) w) := by
  have hB : Below w.heap.size w (((w.alloc (.cells #[.int .i64 t] 3)).alloc (.cells #[.string x] 9)).alloc (.cells #[.string y] 9)) := by go_grown
  obtain ⟨q, hN, hA⟩ := h
  have hN1 := hN.belowS hB
  have c1 := has_cell hN1.c 1
  have f1 := has_free hN1.c 1
  have d : decide (t < 0) = false := by simp; omega
  have d2 : decide ((1099511627776 : Int) < t) = false := by simp; omega
  have d3 : decide (t < s.present) = false := by simp; omega
  have HX := Lib.hid hX
  have HXP := Lib.hid hXP
  have HA := Lib.hid hA
  have HP := Lib.hid hPlt
  have HG := Lib.hid g
  have HN1 := Lib.hid hN1
  have HB := Lib.hid hB
  clear hN hX hXP hA hPlt g hN1 hB
  go_enter Try.func17, Try.ntmps17
  go_wp2_with fail
  go_region
  go_upto_region 8 with fail
  generalize hw2 : World.drew _ = w2
  have W2 : Hid (NetAt w2 b q { s with present := t } ∧ Only P w w2 ∧ w2.heap[w.heap.size]? = some (Obj.cells #[.int .i64 t] 3 (0, 0)) ∧ w2.heap[w.heap.size + 1]? = some (Obj.cells #[.string x] 9 (0, 0)) ∧ w2.heap[w.heap.size + 2]? = some (Obj.cells #[.string y] 9 (0, 0)) ∧ w.heap.size + 3 ≤ w2.heap.size) := Lib.hid (by
    have hb : b < w.heap.size := HP.out b (HA.out b (.b rfl))
    have h0 := heap_alloc_new w (.cells #[.int .i64 t] 3)
    have h1 := heap_alloc_new (w.alloc (.cells #[.int .i64 t] 3)) (.cells #[.string x] 9)
    have h2 := heap_alloc_new ((w.alloc (.cells #[.int .i64 t] 3)).alloc (.cells #[.string x] 9)) (.cells #[.string y] 9)
    have h0' := has_alloc (has_alloc h0 (.cells #[.string x] 9)) (.cells #[.string y] 9)
    have h1' := has_alloc h1 (.cells #[.string y] 9)
    simp only [World.size_alloc] at h1' h2
    rw [← hw2]
    refine ⟨(HN1.out.nums (w' := World.setCell _ ⟨b, 1, none⟩ (.int .i64 t)) t s.msgs s.lost ?_ fun k hk hne => setCell_other hne).same fun _ _ => rfl, ?_, ?_, ?_, ?_, ?_⟩
    · rw [setCell_heap_self HN1.out.c]; rfl
    · exact (((((Only.refl P w).alloc _).alloc _).alloc _).setCell (.inl (HA.out b (.b rfl))) _).drew
    · rw [drew_heap, setCell_other (by omega)]; exact h0'
    · rw [drew_heap, setCell_other (by omega)]; exact h1'
    · rw [drew_heap, setCell_other (by omega)]; exact h2
    · rw [drew_heap, World.size_setCell]; simp)
  clear hw2 c1 f1
  have k0 := has_cell W2.out.2.2.1 0
  have k1 := has_cell W2.out.2.2.2.1 0
  have k2 := has_cell W2.out.2.2.2.2.1 0
  have CL := Lib.hid (line_any W2.out.1 hx hy)
  go_wp2_with fail
  refine CL.out.mono ?_
  rintro e w3 ⟨q', rfl, hN3, hA3, hO3⟩
  have hl := Net.setL_at { s with present := t } x y (Net.get { s with present := t } x y)
  have hL := hN3.l x y _ hl
  have c0 := has_cell hL.c 0
  have c1 := has_cell hL.c 1
  have c2 := has_cell hL.c 2
  have c3 := has_cell hN3.c 3
  have W3 : Hid (Only P w w3 ∧ w3.heap[w.heap.size]? = some (Obj.cells #[.int .i64 t] 3 (0, 0)) ∧ w3.heap[w.heap.size + 1]? = some (Obj.cells #[.string x] 9 (0, 0)) ∧ w3.heap[w.heap.size + 2]? = some (Obj.cells #[.string y] 9 (0, 0)) ∧ w.heap.size + 3 ≤ w3.heap.size) := Lib.hid (by
    obtain ⟨_, g1, g2, g3, g4, g5⟩ := W2.out
    have nal : ∀ k, w.heap.size ≤ k → ¬ NAl b q { s with present := t } k := fun k hk h => by
      have := HP.out k (HA.out k h.nums); omega
    have hs := hO3.size
    exact ⟨g1.trans (hO3.mono fun k hk => HA.out k hk.nums) (fun _ _ h => h), (hO3.block _ (by omega) (nal _ (by omega))).trans g2, (hO3.block _ (by omega) (nal _ (by omega))).trans g3, (hO3.block _ (by omega) (nal _ (by omega))).trans g4, by omega⟩)
  have HA3 : Hid (∀ k, NAl b q' (Net.setL { s with present := t } x y (Net.get { s with present := t } x y)) k → P k ∨ w.heap.size ≤ k) := Lib.hid fun k hk => (hA3 k hk).imp (fun h => HA.out k h.nums) fun h => by have := W2.out.2.2.2.2.2; omega
  have gg := HG.out.get x y
  obtain ⟨lv0, ok, hlk, HLV⟩ : ∃ (lv0 : Value) (ok : Bool), (Instr.lookup 90 (.map (some (q'.F x y))) (.int .i64 (s.get x y).sent) true).run Try.prog w3.drew = .ok (.tuple #[lv0, .bool ok]) w3.drew ∧
      Hid ((ok = true → ∃ l, (s.get x y).fates (s.get x y).sent = some l ∧ OL w3 3 1 lv0 l.length (ints l)) ∧ (ok = false → (s.get x y).fates (s.get x y).sent = none)) :=
    ⟨_, _, hL.look (i := (s.get x y).sent) (by omega) w3.drew rfl, Lib.hid ⟨fun hk => by
      obtain ⟨l, hl2⟩ := Option.isSome_iff_exists.1 hk
      exact ⟨l, hl2, by have := hL.o _ l hl2; rw [show (Net.get { s with present := t } x y).fates (s.get x y).sent = some l from hl2]; exact this⟩, fun hk => Option.isNone_iff_eq_none.1 (by rw [← Option.not_isSome]; exact congrArg (! ·) hk)⟩⟩
  have HN3 := Lib.hid (And.intro hN3 (And.intro hl hL))
  clear W2 k0 k1 k2 CL hN3 hA3 hO3 hl hL gg HA HN1
  have e0 : (Net.get { s with present := t } x y) = s.get x y := rfl
  rw [e0] at c0 c1 c2
  clear e0
  go_wp2_with fail
  go_region
  go_upto_if 57 with fail
  go_cut [12] (fun c12 w4 => ListR w3 c12 (((s.get x y).fates (s.get x y).sent).getD [(s.get x y).delay]) w4)
  case first =>
    cases ok
    · have hz := HLV.out.2 rfl
      go_wp2_with fail
      go_meet
      case rel =>
        rw [hz]
        exact ⟨(below_drew _ _).alloc (Nat.le_refl _) _, ⟨_, _, rfl⟩, OL.of_block (cs := ints [(s.get x y).delay]) (heap_alloc_new w3.drew _) rfl (by simp [maxLen])⟩
    · obtain ⟨l, hz, ho⟩ := HLV.out.1 rfl
      go_wp2_with fail
      go_meet
      case rel =>
        rw [hz]
        exact ⟨below_drew _ _, (by rcases ho.forms with ⟨e, e0⟩ | ⟨g, off, cap, e, _⟩ <;> first | exact ⟨none, 0, by rw [e, Option.getD_some, e0]⟩ | exact ⟨_, cap, e⟩), ho⟩
  case rest =>
    obtain ⟨hb4, ⟨ao1, cap1, rfl⟩, ho4⟩ := hcut
    have e0 : (Net.get { s with present := t } x y) = s.get x y := rfl
    have HB4 := Lib.hid hb4
    have CC := Lib.hid (contains_cuts (HN3.out.1.belowS hb4).k (has_cell (below_ats hb4 W3.out.2.1) 0) (has_cell (below_ats hb4 W3.out.2.2.1) 0) (has_cell (below_ats hb4 W3.out.2.2.2.1) 0) (by have := hb4.size; have := W3.out.2.2.2.2; omega) (by have := hb4.size; have := W3.out.2.2.2.2; omega) (by have := hb4.size; have := W3.out.2.2.2.2; omega))
    have HL4 := Lib.hid ho4
    clear hlk HLV c0 c1 c2 ho4
    have c3 := has_cell (HN3.out.1.belowS hb4).c 3
    clear hb4
    go_wp2_with fail
    refine CC.out.mono ?_
    rintro e w5 ⟨rfl, hb5⟩
    have hb5' : Below w3.heap.size w3 w5 := HB4.out.trans (hb5.mono HB4.out.size)
    have HL5 := Lib.hid (HL4.out.below hb5 (fun g hg => HL4.out.lt g hg))
    have hcb : cutB (Net.setL { s with present := t } x y (Net.get { s with present := t } x y)).cuts t x y = cutB s.cuts t x y := rfl
    rw [hcb]
    clear hcb
    generalize hcb : cutB s.cuts t x y = cb
    have HCB := Lib.hid hcb
    clear hcb c3 CC
    go_upto_if 68 with fail
    go_cut [12] (fun c12 w6 => ListS w5 c12 (s.list t x y) w6)
    case first =>
      cases cb
      · go_wp2_with fail
        go_meet
        case rel =>
          rw [show s.list t x y = ((s.get x y).fates (s.get x y).sent).getD [(s.get x y).delay] by unfold Net.list; rw [HCB.out]; exact if_neg (by decide)]
          exact ⟨rfl, ⟨_, _, rfl⟩, HL5.out⟩
      · go_wp2_with fail
        go_meet
        case rel =>
          rw [show s.list t x y = [] by unfold Net.list; rw [HCB.out]; exact if_pos rfl]
          exact ⟨rfl, ⟨_, _, rfl⟩, OL.nil _ _ _⟩
    case rest =>
      obtain ⟨rfl, ⟨ao2, cap2, rfl⟩, ho6⟩ := hcut
      have hN5 := HN3.out.1.belowS hb5'
      have hL5 := below_ats hb5' HN3.out.2.2.c
      rw [e0] at hL5
      have c1 := has_cell hL5 1
      have f1 := has_free hL5 1
      have hne : q'.G x y ≠ b := type_ne hL5 hN5.c (by decide)
      have hS := hN5.setLine (L' := { s.get x y with sent := (s.get x y).sent + 1 }) (w' := World.setCell _ ⟨q'.G x y, 1, none⟩ (.int .i64 ((s.get x y).sent + 1))) HN3.out.2.1 rfl (by rw [setCell_heap_self hL5]; rfl) (fun k hk hk2 => setCell_other hk2)
      have hM := hS.1.nums (w' := World.setCell _ ⟨b, 5, none⟩ (.int .i64 (s.msgs + 1))) t (s.msgs + 1) s.lost (by rw [setCell_heap_self hS.1.c]; rfl) (fun k hk hk2 => setCell_other hk2)
      rw [Net.setL_setL] at hM
      have c5 := (has_cell hS.1.c 5).trans (show _ = some (Value.int .i64 s.msgs) from rfl)
      have f5 := has_free hS.1.c 5
      have c6 := (has_cell hM.c 6).trans (show _ = some (Value.int .i64 s.lost) from rfl)
      have f6 := has_free hM.c 6
      have hR := hM.nums (w' := World.setCell _ ⟨b, 6, none⟩ (.int .i64 (s.lost + 1))) t (s.msgs + 1) (s.lost + 1) (by rw [setCell_heap_self hM.c]; rfl) (fun k hk hk2 => setCell_other hk2)
      have O5 : Only P w wc := W3.out.1.trans (Only.of_below hb5' (S := P) fun k h1 h2 => by omega) (fun _ _ h => h)
      have pG : P (q'.G x y) ∨ w.heap.size ≤ q'.G x y := HA3.out _ (.G x y (by rw [HN3.out.2.1]; simp) rfl)
      have pb : P b ∨ w.heap.size ≤ b := HA3.out _ (.b rfl)
      have OM := (O5.setCell (p := ⟨q'.G x y, 1, none⟩) pG (.int .i64 ((s.get x y).sent + 1))).setCell (p := ⟨b, 5, none⟩) pb (.int .i64 (s.msgs + 1))
      have OR := OM.setCell (p := ⟨b, 6, none⟩) pb (.int .i64 (s.lost + 1))
      have nS : ∀ k, NAl b q' ((Net.setL { s with present := t } x y (Net.get { s with present := t } x y)).setL x y { s.get x y with sent := (s.get x y).sent + 1 }) k → P k ∨ w.heap.size ≤ k := fun k hk => HA3.out k (hS.2 k hk)
      rw [Net.setL_setL] at nS
      have kp : ∀ (k : Nat) (t : TypeId) (cs : Array Value), wc.heap[k]? = some (Obj.cells cs t (0, 0)) → t ≠ 92 → t ≠ 86 → k ≠ q'.G x y ∧ k ≠ b := fun k t cs hk t1 t2 => ⟨type_ne hk hL5 t1, type_ne hk hN5.c t2⟩
      have P0 := below_ats hb5' W3.out.2.1
      have P1 := below_ats hb5' W3.out.2.2.1
      have P2 := below_ats hb5' W3.out.2.2.2.1
      have K0 := kp _ _ _ P0 (by decide) (by decide)
      have K1 := kp _ _ _ P1 (by decide) (by decide)
      have K2 := kp _ _ _ P2 (by decide) (by decide)
      have KL : ∀ k, (Value.slice ao2 (s.list t x y).length cap2).ownBlock = some k → k ≠ q'.G x y ∧ k ≠ b := fun k hk => by
        obtain ⟨cur, hc⟩ := ho6.elem k hk
        exact kp _ _ _ hc (by decide) (by decide)
      have HM := Lib.hid (show (s.list t x y).length ≠ 0 → SendR P b (s.base t x y) t x y (lst n X) (.slice ao2 (s.list t x y).length cap2) (s.list t x y) w 0 _ from fun hz =>
        { s := ⟨q', by
            rw [more_zero, show s.base t x y = { s.setL x y { s.get x y with sent := (s.get x y).sent + 1 } with present := t, msgs := s.msgs + 1, lost := s.lost } by unfold Net.base; rw [if_neg hz, Int.add_zero]]
            exact hM, fun k hk => by
            rw [more_zero, show s.base t x y = { s.setL x y { s.get x y with sent := (s.get x y).sent + 1 } with present := t, msgs := s.msgs + 1, lost := s.lost } by unfold Net.base; rw [if_neg hz, Int.add_zero]] at hk
            exact nS k (NAl.nums (s := Net.setL { s with present := t } x y { s.get x y with sent := (s.get x y).sent + 1 }) hk)⟩
          o := OM
          l := ho6.heap fun k hk => (setCell_other (KL k hk).2).trans (setCell_other (KL k hk).1)
          p0 := ((setCell_other K0.2).trans (setCell_other K0.1)).trans P0
          p1 := ((setCell_other K1.2).trans (setCell_other K1.1)).trans P1
          p2 := ((setCell_other K2.2).trans (setCell_other K2.1)).trans P2 })
      have HR := Lib.hid (show (s.list t x y).length = 0 → SendR P b (s.base t x y) t x y (lst n X) (.slice ao2 (s.list t x y).length cap2) (s.list t x y) w 0 _ from fun hz =>
        { s := ⟨q', by
            rw [more_zero, show s.base t x y = { s.setL x y { s.get x y with sent := (s.get x y).sent + 1 } with present := t, msgs := s.msgs + 1, lost := s.lost + 1 } by unfold Net.base; rw [if_pos hz]]
            exact hR, fun k hk => by
            rw [more_zero, show s.base t x y = { s.setL x y { s.get x y with sent := (s.get x y).sent + 1 } with present := t, msgs := s.msgs + 1, lost := s.lost + 1 } by unfold Net.base; rw [if_pos hz]] at hk
            exact nS k (NAl.nums (s := Net.setL { s with present := t } x y { s.get x y with sent := (s.get x y).sent + 1 }) hk)⟩
          o := OR
          l := ho6.heap fun k hk => (setCell_other (KL k hk).2).trans ((setCell_other (KL k hk).2).trans (setCell_other (KL k hk).1))
          p0 := ((setCell_other K0.2).trans ((setCell_other K0.2).trans (setCell_other K0.1))).trans P0
          p1 := ((setCell_other K1.2).trans ((setCell_other K1.2).trans (setCell_other K1.1))).trans P1
          p2 := ((setCell_other K2.2).trans ((setCell_other K2.2).trans (setCell_other K2.1))).trans P2 })
      have hg3 : 0 ≤ (s.get x y).sent ∧ (s.get x y).sent ≤ 1000 := by obtain ⟨_, h1, h2, _⟩ := HG.out.get x y; omega
      have hgm := HG.out.m0
      have hgm2 : s.msgs ≤ 1000 := by have := HG.out.m1; omega
      have hgl := HG.out.o0
      have hgl2 : s.lost ≤ 1000 := by have := HG.out.o1; omega
      have HLL := Lib.hid (HG.out.list t x y)
      clear hR hM hS hN5 hL5 hne OM OR O5 pG pb nS kp P0 P1 P2 K0 K1 K2 KL e0 ho6
      go_upto_if 85 with fail
      go_cut [] (fun w7 => SendR P b (s.base t x y) t x y (lst n X) (.slice ao2 (s.list t x y).length cap2) (s.list t x y) w 0 w7)
      case first =>
        by_cases hz : (s.list t x y).length = 0
        · have dz : (((s.list t x y).length : Int) == 0) = true := by rw [hz]; rfl
          have HR2 := HR.out hz
          clear HR HM hz
          go_wp2_with fail
          go_meet
          case rel => exact HR2
        · have dz : (((s.list t x y).length : Int) == 0) = false := by rw [beq_eq_false_iff_ne]; omega
          have HR2 := HM.out hz
          clear HR HM hz
          go_wp2_with fail
          go_meet
          case rel => exact HR2
      case rest =>
        have HS := Lib.hid hcut
        clear HM HR hcut
        go_wp2_with fail
        go_loopw [95] (fun i wr => ∃ k : Nat, k ≤ (s.list t x y).length ∧ i = .int .i64 k ∧ SendR P b (s.base t x y) t x y (lst n X) (.slice ao2 (s.list t x y).length cap2) (s.list t x y) w k wr) (fun i _ => (s.list t x y).length - (intOf i).toNat)
        case atStart => exact ⟨0, Nat.zero_le _, rfl, HS.out⟩
        case round =>
          obtain ⟨k, hk, rfl, hR⟩ := hrel
          by_cases hlt : k < (s.list t x y).length
          · have HRR := Lib.hid hR
            obtain ⟨qk, hNk, hAk⟩ := hR.s
            obtain ⟨aov, capv, hva⟩ := hNk.vaform
            obtain ⟨g2, off2, cp2, he, _⟩ := hR.l.form (by omega)
            simp only [Value.slice.injEq, true_and] at he
            obtain ⟨rfl, rfl⟩ := he
            have a0 := (hR.l.cell k (by omega)).trans (ints_get _ k hlt)
            have hbd := bad_bd (HLL.out.2 ((s.list t x y).getD k 0) (by simp [List.getD, hlt]))
            have r0 := has_cell hR.p0 0
            have r1 := has_cell hR.p1 0
            have r2 := has_cell hR.p2 0
            have r4 := (has_cell hNk.c 4).trans (show _ = some (Value.slice aov qk.A.length capv) from by rw [← hva]; rfl)
            have r5 := (has_cell hNk.c 5).trans (show _ = some (Value.int .i64 (s.msgs + 1)) from rfl)
            have r6 : IntKind.i64.wrap (t + (s.list t x y).getD k 0) = t + (s.list t x y).getD k 0 := IntWalk.i64_in _ (by omega)
            have hlen : qk.A.length ≤ 1000000 := by
              have h1 := congrArg List.length hNk.a
              have h2 := HG.out.a
              rw [List.length_map] at h1
              have h3 : ((s.base t x y).more t x y (lst n X) (s.list t x y) k).arr.length = s.arr.length + k := by
                show (s.arr ++ news t x y (lst n X) _ (s.list t x y) k).length = _
                rw [List.length_append]; simp [news]
              have h4 := HLL.out.1
              omega
            have CX := Lib.hid (HX.out.cellsOnly hR.o HXP.out)
            have CN := Lib.hid (fun (w' : World) (hb : Below wr.heap.size wr w') => clone_bytes (c := cp) (CX.out.belowS hb) (show n ≤ 1000000 by omega))
            have HNk := Lib.hid (And.intro hNk hAk)
            have HVA := Lib.hid (And.intro hva hlen)
            have z0 : Below wr.heap.size wr wr := Below.refl _ _
            clear hNk hAk hva hlen CX hR
            generalize hdk : (s.list t x y).getD k 0 = dk at *
            have HDK := Lib.hid hdk
            clear hdk
            go_wp2_with fail
            have hHeld : (fun w' : World => w'.cell? ⟨w.heap.size, 0, none⟩ = some (.int .i64 t) ∧ w'.cell? ⟨w.heap.size + 1, 0, none⟩ = some (.string x) ∧ w'.cell? ⟨w.heap.size + 1 + 1, 0, none⟩ = some (.string y) ∧ w'.cell? ⟨b, 4, none⟩ = some (.slice aov qk.A.length capv) ∧ w'.cell? ⟨b, 5, none⟩ = some (.int .i64 (s.msgs + 1))) wr.drew := ⟨r0, r1, r2, r4, r5⟩
            refine AnyZ.start 23 (fun w' => w'.cell? ⟨w.heap.size, 0, none⟩ = some (.int .i64 t) ∧ w'.cell? ⟨w.heap.size + 1, 0, none⟩ = some (.string x) ∧ w'.cell? ⟨w.heap.size + 1 + 1, 0, none⟩ = some (.string y) ∧ w'.cell? ⟨b, 4, none⟩ = some (.slice aov qk.A.length capv) ∧ w'.cell? ⟨b, 5, none⟩ = some (.int .i64 (s.msgs + 1))) (by kernel_rfl) ?_
            refine AnyZ.take (i := 0) (v := ?_) rfl (by kernel_rfl) (fun _ _ _ h => h) (by rfl) hHeld ?_ ?_
            rotate_left
            · intro w hSw
              go_simp
              with_reducible rfl
            refine AnyZ.take (i := 1) (v := ?_) rfl (by kernel_rfl) (fun _ _ _ h => h) (by rfl) hHeld ?_ ?_
            rotate_left
            · intro w hSw
              go_simp
              with_reducible rfl
            refine AnyZ.take (i := 2) (v := ?_) rfl (by kernel_rfl) (fun _ _ _ h => h) (by rfl) hHeld ?_ ?_
            rotate_left
            · intro w hSw
              go_simp
              with_reducible rfl
            refine AnyZ.take (i := 3) (v := ?_) rfl (by kernel_rfl) (fun _ _ _ h => h) (by rfl) hHeld ?_ ?_
            rotate_left
            · intro w hSw
              go_simp
              with_reducible rfl
            refine AnyZ.take (i := 4) (v := ?_) rfl (by kernel_rfl) (fun _ _ _ h => h) (by rfl) hHeld ?_ ?_
            rotate_left
            · intro w hSw
              go_simp
              with_reducible rfl
            refine AnyZ.take (i := 5) (v := ?_) rfl (by kernel_rfl) (fun _ _ _ h => h) (by rfl) hHeld ?_ ?_
            rotate_left
            · intro w hSw
              go_simp
              with_reducible rfl
            refine AnyZ.take (i := 6) (v := ?_) rfl (by kernel_rfl) (fun _ _ _ h => h) (by rfl) hHeld ?_ ?_
            rotate_left
            · intro w hSw
              go_simp
              with_reducible rfl
            refine AnyZ.take (i := 7) (v := ?_) rfl (by kernel_rfl) (fun _ _ _ h => h) (by rfl) hHeld ?_ ?_
            rotate_left
            · intro w hSw
              go_simp
              with_reducible rfl
            refine AnyZ.take (i := 8) (v := ?_) rfl (by kernel_rfl) (fun _ _ _ h => h) (by rfl) hHeld ?_ ?_
            rotate_left
            · intro w hSw
              go_simp
              with_reducible rfl
            refine AnyZ.take (i := 9) (v := ?_) rfl (by kernel_rfl) (fun _ _ _ h => h) (by rfl) hHeld ?_ ?_
            rotate_left
            · intro w hSw
              go_simp
              with_reducible rfl
            refine AnyZ.take (i := 10) (v := ?_) rfl (by kernel_rfl) (fun _ _ _ h => h) (by rfl) hHeld ?_ ?_
            rotate_left
            · intro w hSw
              go_simp
              with_reducible rfl
            refine AnyZ.take (i := 13) (v := ?_) rfl (by kernel_rfl) (fun _ _ _ h => h) (by rfl) hHeld ?_ ?_
            rotate_left
            · intro w hSw
              go_simp
              with_reducible rfl
            refine AnyZ.take (i := 14) (v := ?_) rfl (by kernel_rfl) (fun _ _ _ h => h) (by rfl) hHeld ?_ ?_
            rotate_left
            · intro w hSw
              go_simp
              with_reducible rfl
            refine AnyZ.take (i := 15) (v := ?_) rfl (by kernel_rfl) (fun _ _ _ h => h) (by rfl) hHeld ?_ ?_
            rotate_left
            · intro w hSw
              go_simp
              with_reducible rfl
            refine AnyZ.take (i := 16) (v := ?_) rfl (by kernel_rfl) (fun _ _ _ h => h) (by rfl) hHeld ?_ ?_
            rotate_left
            · intro w hSw
              go_simp
              with_reducible rfl
            refine AnyZ.take (i := 17) (v := ?_) rfl (by kernel_rfl) (fun _ _ _ h => h) (by rfl) hHeld ?_ ?_
            rotate_left
            · intro w hSw
              go_simp
              with_reducible rfl
            simp only [List.getElem_toArray, List.getElem_cons_succ, List.getElem_cons_zero, Act.put, List.setIfInBounds_toArray, List.set_cons_zero, List.set_cons_succ]
            refine AnyZ.one (i := 11) rfl (by kernel_rfl) rfl (fun K hK => ?_)
            go_simp
            refine (CN.out _ (z0.trans (below_drew _ _))).mono ?_
            rintro e w3 ⟨ao3, cap3, rfl, ho3, hf3, hb3⟩
            go_simp
            have z3 : Below wr.heap.size wr w3 := (below_drew _ _).trans hb3
            obtain ⟨w4, g4, o4, d4, hpu⟩ := (HNk.out.1.belowS z3).pushed ⟨t + dk, x, y, lst n X, s.msgs + 1, k⟩ (.slice ao3 n cap3) (show OL w3 5 1 (.slice ao3 n cap3) (lst n X).length (bys (lst n X)) from by rw [lst_len]; exact ho3) (fun g hg z hz e => by have h1 := hf3 g hg; have h2 := HNk.out.1.al_lt (.d z hz e); have h3 : wr.heap.size ≤ g := h1; omega) HVA.out.2 HVA.out.1
            have hH3 : (fun w' : World => w'.cell? ⟨w.heap.size, 0, none⟩ = some (.int .i64 t) ∧ w'.cell? ⟨w.heap.size + 1, 0, none⟩ = some (.string x) ∧ w'.cell? ⟨w.heap.size + 1 + 1, 0, none⟩ = some (.string y) ∧ w'.cell? ⟨b, 4, none⟩ = some (.slice aov qk.A.length capv) ∧ w'.cell? ⟨b, 5, none⟩ = some (.int .i64 (s.msgs + 1))) w3 :=
              ⟨has_cell (below_ats z3 HRR.out.p0) 0, has_cell (below_ats z3 HRR.out.p1) 0, has_cell (below_ats z3 HRR.out.p2) 0, (z3.cell (p := ⟨b, 4, none⟩) (HNk.out.1.al_lt (.b rfl))).trans r4, (z3.cell (p := ⟨b, 5, none⟩) (HNk.out.1.al_lt (.b rfl))).trans r5⟩
            refine hK.out _ _ (.inr hH3) ?_
            clear hK K hHeld
            have HPU := Lib.hid hpu
            have HAP := Lib.hid hpu.1
            have m0 := hpu.2.1
            obtain ⟨u4, m4⟩ := m0
            have f4 := hpu.2.2.1
            have h3b : Below w3.heap.size w3 (w3.alloc (.cells #[.int .i64 (t + dk), .string x, .string y, .slice ao3 n cap3, .int .i64 (s.msgs + 1), .int .i64 k] 98)) := by go_grown
            have z5 := z3.trans (h3b.mono z3.size)
            have hH5 : (fun w' : World => w'.cell? ⟨w.heap.size, 0, none⟩ = some (.int .i64 t) ∧ w'.cell? ⟨w.heap.size + 1, 0, none⟩ = some (.string x) ∧ w'.cell? ⟨w.heap.size + 1 + 1, 0, none⟩ = some (.string y) ∧ w'.cell? ⟨b, 4, none⟩ = some (.slice aov qk.A.length capv) ∧ w'.cell? ⟨b, 5, none⟩ = some (.int .i64 (s.msgs + 1))) (w3.alloc (.cells #[.int .i64 (t + dk), .string x, .string y, .slice ao3 n cap3, .int .i64 (s.msgs + 1), .int .i64 k] 98)) :=
              ⟨has_cell (below_ats z5 HRR.out.p0) 0, has_cell (below_ats z5 HRR.out.p1) 0, has_cell (below_ats z5 HRR.out.p2) 0, (z5.cell (p := ⟨b, 4, none⟩) (HNk.out.1.al_lt (.b rfl))).trans r4, (z5.cell (p := ⟨b, 5, none⟩) (HNk.out.1.al_lt (.b rfl))).trans r5⟩
            have hH4 : (fun w' : World => w'.cell? ⟨w.heap.size, 0, none⟩ = some (.int .i64 t) ∧ w'.cell? ⟨w.heap.size + 1, 0, none⟩ = some (.string x) ∧ w'.cell? ⟨w.heap.size + 1 + 1, 0, none⟩ = some (.string y) ∧ w'.cell? ⟨b, 4, none⟩ = some (.slice aov qk.A.length capv) ∧ w'.cell? ⟨b, 5, none⟩ = some (.int .i64 (s.msgs + 1))) w4 :=
              ⟨has_cell ((hpu.2.2.2.2.2.2.2 _ _ _ _ (below_ats z3 HRR.out.p0) (by decide)).trans (below_ats z3 HRR.out.p0)) 0, has_cell ((hpu.2.2.2.2.2.2.2 _ _ _ _ (below_ats z3 HRR.out.p1) (by decide)).trans (below_ats z3 HRR.out.p1)) 0, has_cell ((hpu.2.2.2.2.2.2.2 _ _ _ _ (below_ats z3 HRR.out.p2) (by decide)).trans (below_ats z3 HRR.out.p2)) 0, (World.cell?_of_block (a := ⟨b, 4, none⟩) (hpu.2.2.2.2.2.2.2 _ _ _ _ (below_ats z3 HNk.out.1.c) (by decide))).trans hH3.2.2.2.1, (World.cell?_of_block (a := ⟨b, 5, none⟩) (hpu.2.2.2.2.2.2.2 _ _ _ _ (below_ats z3 HNk.out.1.c) (by decide))).trans hH3.2.2.2.2⟩
            clear hpu r0 r1 r2 r4 r5
            refine AnyZ.take (i := 12) (v := ?_) rfl (by kernel_rfl) (fun _ _ _ h => h) (by rfl) hH3 ?_ ?_
            rotate_left
            · intro w hSw
              go_simp
              with_reducible rfl
            refine AnyZ.take (i := 18) (v := ?_) rfl (by kernel_rfl) (fun _ _ _ h => h) (by rfl) hH3 ?_ ?_
            rotate_left
            · intro w hSw
              go_simp
              with_reducible rfl
            simp only [List.getElem_toArray, List.getElem_cons_succ, List.getElem_cons_zero, Act.put, List.setIfInBounds_toArray, List.set_cons_zero, List.set_cons_succ]
            refine AnyZ.one (i := 19) rfl (by kernel_rfl) rfl (fun K hK => ?_)
            go_simp
            refine hK.out _ _ (.inr hH5) ?_
            clear hK K hH3
            refine AnyZ.one (i := 20) rfl (by kernel_rfl) rfl (fun K hK => ?_)
            refine wp_append_run (v := .slice aov qk.A.length capv) (xv := .slice (some ⟨w3.heap.size, 0, none⟩) 1 1) (.tmp 104) (.tmp 119) 84 84 rfl (by rfl) (by rfl) HAP.out ?_
            refine hK.out _ _ (.inr hH4) ?_
            clear hK K hH5
            refine AnyZ.one (i := 21) rfl (by kernel_rfl) rfl (fun K hK => ?_)
            go_simp
            refine hK.out _ _ (.inr hH4) ?_
            clear hK K
            refine AnyZ.take (i := 22) (v := ?_) rfl (by kernel_rfl) (fun _ _ _ h => h) (by rfl) hH4 ?_ ?_
            rotate_left
            · intro w hSw
              go_simp
              with_reducible rfl
            simp only [List.getElem_toArray, List.getElem_cons_succ, List.getElem_cons_zero, Act.put, List.setIfInBounds_toArray, List.set_cons_zero, List.set_cons_succ]
            refine AnyZ.one (i := 23) rfl (by kernel_rfl) rfl (fun K hK => ?_)
            go_simp
            refine hK.out _ _ (.inl rfl) ?_
            clear hK K hH4
            refine AnyZ.done (by kernel_rfl) ?_ _
            have hn : NS (w4.setCell ⟨b, 4, none⟩ (.slice (some ⟨g4, o4, none⟩) (qk.A.length + 1) d4)) (grow P w) b ((s.base t x y).more t x y (lst n X) (s.list t x y) (k + 1)) := ⟨_, by rw [← more_succ, HDK.out]; exact HPU.out.2.2.2.1, fun j hj => by
              rw [← more_succ, HDK.out] at hj
              rcases HPU.out.2.2.2.2.1 j hj with h | h | h
              · exact HNk.out.2 j h
              · have h1 := hf3 j h
                have h2 : wr.heap.size ≤ j := h1
                exact .inr (Nat.le_trans HRR.out.o.size h2)
              · exact .inr (Nat.le_trans (Nat.le_trans HRR.out.o.size z3.size) h)⟩
            have hE := Lib.hid (show SendR P b (s.base t x y) t x y (lst n X) (.slice (some ⟨g2, off2, none⟩) (s.list t x y).length cap2) (s.list t x y) w (k + 1) (w4.setCell ⟨b, 4, none⟩ (.slice (some ⟨g4, o4, none⟩) (qk.A.length + 1) d4)) from
              { s := hn
                o := (HRR.out.o.trans (Only.of_below z3 (S := P) fun k h1 h2 => by omega) (fun _ _ h => h)).trans (HPU.out.2.2.2.2.2.1.mono HNk.out.2) (fun i hi h => h.elim id (fun h => by omega))
                l := HRR.out.l.heap fun j hj => by
                  obtain ⟨cur, hc⟩ := HRR.out.l.elem j hj
                  exact (HPU.out.2.2.2.2.2.2.1 _ _ _ _ (below_ats z3 hc) (by decide) (by decide)).trans (z3.block j (lt_of_block hc))
                p0 := (HPU.out.2.2.2.2.2.2.1 _ _ _ _ (below_ats z3 HRR.out.p0) (by decide) (by decide)).trans (below_ats z3 HRR.out.p0)
                p1 := (HPU.out.2.2.2.2.2.2.1 _ _ _ _ (below_ats z3 HRR.out.p1) (by decide) (by decide)).trans (below_ats z3 HRR.out.p1)
                p2 := (HPU.out.2.2.2.2.2.2.1 _ _ _ _ (below_ats z3 HRR.out.p2) (by decide) (by decide)).trans (below_ats z3 HRR.out.p2) })
            have hl4 := HLL.out.1
            clear hn HPU HAP HNk HVA HRR CN z0 z3 z5 h3b ho3 hf3 hb3 m4 f4
            go_wp2_with fail
            go_roundw
            case rel => exact ⟨k + 1, by omega, by go_num, hE.out⟩
            case measure => simp [intOf]; omega
          · obtain rfl : k = (s.list t x y).length := by omega
            have hE := Lib.hid (show NPost P b .nilIface (s.sent t x y (lst n X)) w (.returned .nilIface) wr from ⟨rfl, hR.s, hR.o⟩)
            clear hR HS
            go_wp2_with fail
            go_ret
            exact hE.out
end
end Go.Proofs.Ytkhiepjlfbjgdaa

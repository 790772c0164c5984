/- The document's admission in memory. No code is walked here. Conditions: each its own. The document's place. Conditions: the admission can be read. -/
import Derived.Test.YtmdajndmobpgbaaZApC
namespace Go.Proofs.Ytmdajndmobpgbaa
open Go.RowKit
open Go.Proofs.Ytmdajndmobpgbaa.Fq
open Go.Proofs.Ytmdajndmobpgbaa.Bk

/-- A bucket of the document's: burst, tokens, ticks, have, last. -/
structure DB where
  b : Int
  t : Int
  k : Int
  p : Int
  l : Int
def nilDB : DB := ⟨0, 0, 0, 0, 0⟩
def dbC (x : DB) : List Value := [.int .i64 x.b, .int .i64 x.t, .int .i64 x.k, .int .i64 x.p, .int .i64 x.l]
theorem dbC_len (x : DB) : (dbC x).length = 5 := rfl
theorem dbC_one (x : DB) : ∀ u ∈ dbC x, u.oneCell' = true := fun u hu => by
  simp only [dbC, List.mem_cons, List.not_mem_nil, or_false] at hu
  rcases hu with rfl | rfl | rfl | rfl | rfl <;> rfl
/-- The document's admission. -/
structure DA where
  slots : Int
  bks : List DB
  f : FQ
  run : List Int
/-- The values of its slices. -/
structure DQ where
  b : Value
  q : Value
  d : Value
  l : Value
  r : Value
def tDA : TypeId := 57
def daC (q : DQ) (a : DA) : Array Value := #[.int .i64 a.slots, q.b, q.q, q.d, q.l, .int .i64 a.f.cur, .bool a.f.begun, q.r]
def daV (q : DQ) (a : DA) : Value := .agg (daC q a)
def zDA : Array Value := #[.int .i64 0, .slice none 0 0, .slice none 0 0, .slice none 0 0, .slice none 0 0, .int .i64 0, .bool false, .slice none 0 0]
theorem infoDA : (Try.prog.info? 57).map (·.size) = some 8 := by kernel_rfl
theorem infoDB : (Try.prog.info? 114).map (fun i => (i.zero, i.size, i.bytes)) = some (some (.agg #[.int .i64 0, .int .i64 0, .int .i64 0, .int .i64 0, .int .i64 0]), 5, 40) := by kernel_rfl
/-- It lies in memory, in blocks of K. -/
structure DAt (K : Nat → Prop) (w : World) (q : DQ) (lv : List Value) (a : DA) : Prop where
  b : RowsAt 114 5 dbC w q.b a.bks
  f : RQK K w q.q q.d q.l lv a.f
  r : OL w 3 1 q.r a.run.length (ints a.run)
  kb : ∀ k, q.b.ownBlock = some k → K k
  kr : ∀ k, q.r.ownBlock = some k → K k
section
variable {K J : Nat → Prop} {w w' : World} {q : DQ} {lv : List Value} {a : DA}
theorem DAt.bel (h : DAt K w q lv a) (hb : Below w.heap.size w w') : DAt K w' q lv a := ⟨h.b.bel hb, h.f.bel hb, h.r.bel hb, h.kb, h.kr⟩
theorem DAt.to (h : DAt K w q lv a) (hJ : ∀ k, k < w.heap.size → K k → J k) : DAt J w q lv a :=
  ⟨h.b, h.f.to hJ, h.r, fun k hk => hJ k (OL.lt h.b k hk) (h.kb k hk), fun k hk => hJ k (OL.lt h.r k hk) (h.kr k hk)⟩
theorem DAt.same (h : DAt K w q lv a) (hs : SameK K w w') : DAt K w' q lv a := ⟨OL.heap h.b fun k hk => hs.1 k (h.kb k hk), h.f.same hs, OL.heap h.r fun k hk => hs.1 k (h.kr k hk), h.kb, h.kr⟩
theorem DAt.shapes (h : DAt K w q lv a) : ∃ ab cb aq cq ad cd al cl ar cr, q = ⟨.slice ab a.bks.length cb, .slice aq a.f.m cq, .slice ad a.f.m cd, .slice al a.f.m cl, .slice ar a.run.length cr⟩ ∧ (a.bks.length ≤ cb ∧ cb ≤ 9223372036854775807) ∧ (a.f.m ≤ cl ∧ cl ≤ 9223372036854775807) ∧ (a.run.length ≤ cr ∧ cr ≤ 9223372036854775807) := by
  obtain ⟨ab, cb, e1, h1, h2, _⟩ := OL.shape h.b
  obtain ⟨aq, cq, e2, _⟩ := OL.shape h.f.a.q
  obtain ⟨ad, cd, e3, _⟩ := OL.shape h.f.a.d
  obtain ⟨al, cl, e4, h3, h4, _⟩ := OL.shape h.f.a.l
  obtain ⟨ar, cr, e5, h5, h6, _⟩ := OL.shape h.r
  obtain ⟨vb, vq, vd, vl, vr⟩ := q
  subst e1 e2 e3 e4 e5
  exact ⟨ab, cb, aq, cq, ad, cd, al, cl, ar, cr, rfl, ⟨h1, h2⟩, ⟨h3, h4⟩, h5, h6⟩
/-- A box of 8 cells. -/
theorem get8 {wx : World} {rb : Nat} {t : TypeId} {a0 a1 a2 a3 a4 a5 a6 a7 : Value} (h : wx.heap[rb]? = some (.cells #[a0, a1, a2, a3, a4, a5, a6, a7] t (0, 0))) :
    (wx.cell? ⟨rb, 0, none⟩ = some a0 ∧ wx.cell? ⟨rb, 1, none⟩ = some a1 ∧ wx.cell? ⟨rb, 2, none⟩ = some a2 ∧ wx.cell? ⟨rb, 3, none⟩ = some a3 ∧ wx.cell? ⟨rb, 4, none⟩ = some a4 ∧ wx.cell? ⟨rb, 5, none⟩ = some a5 ∧ wx.cell? ⟨rb, 6, none⟩ = some a6 ∧ wx.cell? ⟨rb, 7, none⟩ = some a7) ∧ ∀ i, wx.frozen? ⟨rb, i, none⟩ = false :=
  ⟨⟨(has_cell h 0).trans rfl, (has_cell h 1).trans rfl, (has_cell h 2).trans rfl, (has_cell h 3).trans rfl, (has_cell h 4).trans rfl, (has_cell h 5).trans rfl, (has_cell h 6).trans rfl, (has_cell h 7).trans rfl⟩, fun i => has_free h i⟩
end
/-- The place of an id among ascending ids. -/
def plN (l : List Int) (id : Int) : Nat := (l.takeWhile fun x => decide (x < id)).length
def plB (l : List Int) (id : Int) : Bool := decide (l[plN l id]? = some id)
theorem plN_le (l : List Int) (id : Int) : plN l id ≤ l.length := by
  unfold plN
  exact (List.takeWhile_prefix _).length_le
theorem plN_at {l : List Int} {id : Int} {k : Nat} (h1 : ∀ j, j < k → l.getD j 0 < id) (hk : k ≤ l.length) (h2 : k < l.length → ¬ l.getD k 0 < id) : plN l id = k := by
  induction l generalizing k with
  | nil => simp at hk; subst hk; rfl
  | cons x l ih =>
    unfold plN
    match k with
    | 0 =>
      have := h2 (by simp)
      have h3 : ¬ x < id := this
      simp [List.takeWhile_cons, h3]
    | k + 1 =>
      have h3 : x < id := h1 0 (by omega)
      have h4 := ih (k := k) (fun j hj => h1 (j + 1) (by omega)) (by simpa using hk) (fun hlt => h2 (by simpa using hlt))
      unfold plN at h4
      simp [List.takeWhile_cons, h3, h4]
end Go.Proofs.Ytmdajndmobpgbaa

namespace Go.Proofs.Ytmdajndmobpgbaa
open Go.RowKit
open Go.Proofs.Ytmdajndmobpgbaa.Fq
open Go.Proofs.Ytmdajndmobpgbaa.Bk

section
variable {K : Nat → Prop} {w : World} {lv : List Value} {a : DA} {ab aq ad al ar : Option Addr} {nb cb nq cq nd cd nl cl nr cr : Nat}
def PlaceP (k : Nat) (x : Bool) (w : World) (e : Ending) (w' : World) : Prop := e = .returned (.tuple #[.int .i64 k, .bool x]) ∧ Below w.heap.size w w'
set_option maxRecDepth 100000 in
set_option maxHeartbeats 1600000 in
theorem rplace_ex (h : OL w 3 1 (.slice ar nr cr) nr (ints a.run)) (hn : a.run.length = nr) (hnr : nr ≤ 1000000) (id : Int) :
    Calls Try.prog 56 #[.agg #[.int .i64 a.slots, .slice ab nb cb, .slice aq nq cq, .slice ad nd cd, .slice al nl cl, .int .i64 a.f.cur, .bool a.f.begun, .slice ar nr cr], .int .i64 id] w (PlaceP (plN a.run id) (plB a.run id) w) := by
  have hb0 := (Below.refl w.heap.size w).alloc (Nat.le_refl _) (.cells #[.int .i64 a.slots, .slice ab nb cb, .slice aq nq cq, .slice ad nd cd, .slice al nl cl, .int .i64 a.f.cur, .bool a.f.begun, .slice ar nr cr] 57)
  have hx0 := heap_alloc_new w (.cells #[.int .i64 a.slots, .slice ab nb cb, .slice aq nq cq, .slice ad nd cd, .slice al nl cl, .int .i64 a.f.cur, .bool a.f.begun, .slice ar nr cr] 57)
  have HO := Lib.hid (h.bel hb0)
  have HN := Lib.hid hn
  obtain ⟨_, _, ecr, hcr, hcr2, _⟩ := OL.shape h
  simp only [Value.slice.injEq] at ecr
  obtain ⟨-, -, rfl⟩ := ecr
  clear h hn
  obtain ⟨bx, hbx⟩ : ∃ bx, w.heap.size = bx := ⟨_, rfl⟩
  rw [hbx] at hx0
  go_enter Try.func56, Try.ntmps56
  go_upto_region 1 with fail
  generalize w.alloc (.cells #[.int .i64 a.slots, .slice ab nb cb, .slice aq nq cq, .slice ad nd cd, .slice al nl cl, .int .i64 a.f.cur, .bool a.f.begun, .slice ar nr cr] 57) = w1 at *
  have HB := Lib.hid hb0
  clear hb0 hbx
  obtain ⟨⟨x0, x1, x2, x3, x4, x5, x6, x7⟩, _⟩ := get8 hx0
  clear hx0 x0 x1 x2 x3 x4 x5 x6
  have HC : Hid (∀ k, k < nr → ∃ g o, ar = some ⟨g, o, none⟩ ∧ w1.cell? ⟨g, o + k, none⟩ = some (.int .i64 (a.run.getD k 0))) := Lib.hid fun k hk => by
    obtain ⟨g, o, c, e, _⟩ := HO.out.form (by omega)
    simp only [Value.slice.injEq] at e
    obtain ⟨rfl, _, rfl⟩ := e
    have hc := HO.out.cell k (by omega)
    rw [ints_get _ _ (by rw [HN.out]; exact hk)] at hc
    exact ⟨g, o, rfl, hc⟩
  go_wp2_with fail
  go_loopw [6] (fun kv wr => ∃ k : Nat, k ≤ nr ∧ kv = .int .i64 k ∧ (∀ j, j < k → a.run.getD j 0 < id) ∧ wr = w1) (fun kv _ => nr - (intOf kv).toNat)
  case atStart => exact ⟨0, Nat.zero_le _, rfl, fun j hj => by omega, rfl⟩
  case round =>
    obtain ⟨k, hk, rfl, hA, rfl⟩ := hrel
    have HA := Lib.hid hA
    clear hA
    by_cases hlt : k < nr
    · obtain ⟨g, o, rfl, hc⟩ := HC.out k hlt
      by_cases hid : a.run.getD k 0 < id
      · have dd : decide (a.run.getD k 0 < id) = true := decide_eq_true hid
        have dj : decide ((k : Int) < (nr : Int)) = true := decide_eq_true (by omega)
        have HI := Lib.hid hid
        clear hid
        have HV : Hid (∀ j, j < k + 1 → a.run.getD j 0 < id) := Lib.hid fun j hj => by
          by_cases e : j = k
          · subst e; exact HI.out
          · exact HA.out j (by omega)
        generalize a.run.getD k 0 = v at *
        go_wp2_with fail
        case roundEnd => exact ⟨⟨k + 1, by omega, by go_num, HV.out, by first | rfl | trivial⟩, by simp [intOf]; omega⟩
      · have dd : decide (a.run.getD k 0 < id) = false := decide_eq_false hid
        have dj : decide ((k : Int) < (nr : Int)) = true := decide_eq_true (by omega)
        have HP : Hid (plN a.run id = k) := Lib.hid (plN_at HA.out (by rw [HN.out]; omega) fun _ => hid)
        have HG : Hid (a.run[k]? = some (a.run.getD k 0)) := Lib.hid (by simp [List.getD, show k < a.run.length by rw [HN.out]; exact hlt])
        clear hid
        obtain ⟨v, hv⟩ : ∃ v, a.run.getD k 0 = v := ⟨_, rfl⟩
        rw [hv] at dd HG hc
        clear hv
        by_cases he : v = id
        · have de : (v == id) = true := by rw [beq_iff_eq]; exact he
          have HBL : Hid (plB a.run id = true) := Lib.hid (by unfold plB; rw [HP.out, HG.out, he]; simp)
          clear he
          go_wp2_with fail
          go_quiet (fail)
          go_wp2
          go_ret2
          exact ⟨by rw [HP.out, HBL.out]; rfl, HB.out.trans ((below_draw _ _ _).mono HB.out.size)⟩
        · have de : (v == id) = false := by rw [beq_eq_false_iff_ne]; exact he
          have HBL : Hid (plB a.run id = false) := Lib.hid (by unfold plB; rw [HP.out, HG.out]; simp [he])
          clear he
          go_wp2_with fail
          go_quiet (fail)
          go_wp2
          go_ret2
          exact ⟨by rw [HP.out, HBL.out]; rfl, HB.out.trans ((below_draw _ _ _).mono HB.out.size)⟩
    · obtain rfl : k = nr := by omega
      have dj : decide ((k : Int) < (k : Int)) = false := decide_eq_false (by omega)
      have HP : Hid (plN a.run id = k) := Lib.hid (plN_at HA.out (by rw [HN.out]; omega) fun h => absurd h (by rw [HN.out]; omega))
      have HBL : Hid (plB a.run id = false) := Lib.hid (by unfold plB; rw [HP.out, List.getElem?_eq_none (by rw [HN.out]; omega)]; simp)
      go_wp2_with fail
      go_quiet (fail)
      go_wp2
      go_ret2
      exact ⟨by rw [HP.out, HBL.out]; rfl, HB.out.trans ((below_draw _ _ _).mono HB.out.size)⟩
theorem rplace_any {q : DQ} (h : DAt K w q lv a) (hl : a.run.length ≤ 1000000) (id : Int) : Calls Try.prog 56 #[daV q a, .int .i64 id] w (PlaceP (plN a.run id) (plB a.run id) w) := by
  obtain ⟨ab, cb, aq, cq, ad, cd, al, cl, ar, cr, rfl, -⟩ := h.shapes
  exact rplace_ex h.r rfl hl id
end
end Go.Proofs.Ytmdajndmobpgbaa

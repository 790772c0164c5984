/- admission: the statement AdmissionOrders: the walk. Conditions: the arguments can be read; the script's bytes are within the reach. -/
import Derived.Test.YtmdajndmobpgbaaAdRun
namespace Go.Proofs.Ytmdajndmobpgbaa
open Go.RowKit Go.Maps
open Go.Proofs.Ytmdajndmobpgbaa.Fq
open Go.Proofs.Ytmdajndmobpgbaa.Bk

/-- The last place of each tenant among the first k. -/
def LastF (l : List Bg) (k : Nat) (f : Value → Option Value) : Prop := ∀ v x, f v = some x → ∃ i : Nat, i < k ∧ v = .int .i64 (bgAt l i).t ∧ x = .int .i64 (bgAt l i).pl
theorem LastF.nil (l : List Bg) : LastF l 0 (fun _ => none) := fun v x h => by cases h
theorem LastF.put {l : List Bg} {k : Nat} {f : Value → Option Value} (h : LastF l k f) : LastF l (k + 1) (fput f (.int .i64 (bgAt l k).t) (.int .i64 (bgAt l k).pl)) := fun v x hf => by
  by_cases e : v = .int .i64 (bgAt l k).t
  · subst e
    rw [fput_same] at hf
    exact ⟨k, by omega, rfl, (Option.some.inj hf).symm⟩
  · rw [fput_other e] at hf
    obtain ⟨i, h1, h2, h3⟩ := h v x hf
    exact ⟨i, by omega, h2, h3⟩
theorem bgAt_get {l : List Bg} {i : Nat} (h : i < l.length) : bgAt l i = l[i] := by simp [bgAt, List.getD, h]
theorem LastF.lt {l : List Bg} {k : Nat} {f : Value → Option Value} (h : LastF l k f) (hk : k < l.length) (ho : l.Pairwise fun b b' => b.t = b'.t → b.pl < b'.pl) {x : Value} (hf : f (.int .i64 (bgAt l k).t) = some x) : ∃ p : Int, x = .int .i64 p ∧ p < (bgAt l k).pl := by
  obtain ⟨i, h1, h2, h3⟩ := h _ _ hf
  refine ⟨_, h3, ?_⟩
  have e : (bgAt l k).t = (bgAt l i).t := by simpa using h2
  have := List.pairwise_iff_getElem.1 ho i k (by omega) hk h1
  rw [bgAt_get (by omega : i < l.length), bgAt_get hk] at *
  exact this e.symm
/-- The frame's block and what lies behind: the setup's cells. -/
structure SetAt (w : World) (aos : Option Addr) (ns caps : Nat) (slots : Int) (sb : Nat) (w1 : World) : Prop where
  be : Below w.heap.size w w1
  c0 : w1.cell? ⟨sb, 0, none⟩ = some (.slice aos ns caps)
  c1 : w1.cell? ⟨sb, 1, none⟩ = some (.int .i64 slots)
theorem SetAt.on {w w1 w2 : World} {aos : Option Addr} {ns caps sb : Nat} {slots : Int} (h : SetAt w aos ns caps slots sb w1) (hb : Below w1.heap.size w1 w2) : SetAt w aos ns caps slots sb w2 :=
  ⟨h.be.trans (hb.mono h.be.size), (hb.cell (p := ⟨sb, 0, none⟩) (World.block_lt_of_cell? _ _ h.c0)).trans h.c0, (hb.cell (p := ⟨sb, 1, none⟩) (World.block_lt_of_cell? _ _ h.c1)).trans h.c1⟩
section
variable {ao aos : Option Addr} {n b0 off cap ns bs offs caps : Nat} {X Y : Nat → Nat → Int}
theorem set_at (w : World) (slots : Int) {w1 : World} (hb : Below (w.heap.size + 1) (w.alloc (Obj.cells #[.slice aos ns caps, .int .i64 slots] 48)) w1) : SetAt w aos ns caps slots w.heap.size w1 := by
  have h := (hb.block w.heap.size (by omega)).trans (heap_alloc_new w (Obj.cells #[.slice aos ns caps, .int .i64 slots] 48))
  have h0 : Below w.heap.size w (w.alloc (Obj.cells #[.slice aos ns caps, .int .i64 slots] 48)) := by go_grown
  exact ⟨h0.trans (hb.mono (Nat.le_succ _)), (has_cell h 0).trans rfl, (has_cell h 1).trans rfl⟩
set_option maxRecDepth 100000 in
set_option maxHeartbeats 3200000 in
theorem orders_walk (slots : Int) (w : World) (hX : IsSh w aos ns bs offs X) (hY : IsSc w ao n b0 off Y) (hns : ns ≤ 9223372036854775807) (hn : n ≤ 4398046511104) :
    Calls Try.prog 7 #[setupV aos ns caps slots, .slice ao n cap] w (AwP w) := by
  have HX := Lib.hid hX
  have HY := Lib.hid hY
  clear hX hY
  have HS := Lib.hid (fun (w1 : World) (hb : Below (w.heap.size + 1) (w.alloc (Obj.cells #[.slice aos ns caps, .int .i64 slots] 48)) w1) => set_at w slots hb)
  have hz : (w.alloc (Obj.cells #[.slice aos ns caps, .int .i64 slots] 48)).heap.size = w.heap.size + 1 := by simp
  have HZ := Lib.hid hz
  have S0 := Lib.hid (HS.out (w.alloc (Obj.cells #[.slice aos ns caps, .int .i64 slots] 48)) (Below.refl _ _))
  obtain ⟨_, x0, x1⟩ := S0.out
  have LG := Lib.hid (fun (w1 : World) (h : SetAt w aos ns caps slots w.heap.size w1) => long_any (cap := cap) (caps := caps) slots w1 (HX.out.below h.be (Nat.le_refl _)) (HY.out.below h.be (Nat.le_refl _)) hns hn)
  unfold setupV at LG ⊢
  by_cases hl : longA X ns Y n = true
  · rw [hl] at LG
    go_enter Try.func7, Try.ntmps7
    go_wp2_with fail
    refine (LG.out _ S0.out).mono ?_
    rintro e w1 ⟨rfl, hb1⟩
    have hb1' := hb1.mono (Nat.le_of_eq HZ.out.symm)
    obtain ⟨_, y0, y1⟩ := HS.out w1 hb1'
    have HB1 := Lib.hid hb1'
    clear hb1 hb1' hz x0 x1
    go_wp2_with fail
    refine (LG.out _ (HS.out _ HB1.out)).mono ?_
    rintro e w2 ⟨rfl, hb2⟩
    have hb2' : Below (w.heap.size + 1) w1 w2 := hb2.mono (by rw [← HZ.out]; exact HB1.out.size)
    have HP : Hid (AwP w (.returned (.bool true)) w2) := Lib.hid ⟨rfl, (HS.out w2 (HB1.out.trans hb2')).be⟩
    clear hb2 hb2' y0 y1 LG HB1 HS
    go_wp2
    go_ret
    exact HP.out
  · have hl' : longA X ns Y n = false := by simpa using hl
    obtain ⟨hn5, hs2⟩ := longA_false hl'
    rw [hl'] at LG
    go_enter Try.func7, Try.ntmps7
    go_wp2_with fail
    refine (LG.out _ S0.out).mono ?_
    rintro e w1 ⟨rfl, hb1⟩
    have HB1 := Lib.hid (hb1.mono (Nat.le_of_eq HZ.out.symm))
    clear hb1 hz x0 x1 hl hl' LG
    go_wp2_with fail
    refine (awake_any w1).mono ?_
    rintro e w2 ⟨rfl, hb2⟩
    have HB2 := Lib.hid (HB1.out.trans (hb2.mono (by rw [← HZ.out]; exact HB1.out.size)))
    obtain ⟨be2, y0, y1⟩ := HS.out w2 HB2.out
    have RN := Lib.hid (run_any (caps := caps) (cap := cap) slots w2 (HX.out.below be2 (Nat.le_refl _)) (HY.out.below be2 (Nat.le_refl _)) hs2 hn5)
    unfold setupV at RN
    clear hb2 HB1 be2
    go_wp2_with fail
    refine RN.out.mono ?_
    rintro e w3 ⟨v, out, rfl, hG, hgood, hb3⟩
    obtain ⟨va, vc, rfl⟩ := OL.shape hG
    have HB3 : Hid (Below w.heap.size w w3) := Lib.hid (HS.out w3 (HB2.out.trans (hb3.mono (by rw [← HZ.out]; exact HB2.out.size)))).be
    have HG := Lib.hid hG
    have HO := Lib.hid hgood.oo
    have HOB := Lib.hid hgood.ob
    have hln := hgood.ln
    have hmm := @run_makeMap Try.prog
    clear hb3 hG hgood RN HB2 HS HX HY HZ y0 y1
    go_wp2_with fail
    clear hmm
    obtain ⟨mb, hmb⟩ : ∃ mb, w3.heap.size = mb := ⟨_, rfl⟩
    have hm0 : MapF Try.prog 3 (w3.alloc (.map #[] 0)) mb (fun _ => none) := by rw [← hmb]; exact MapF.new _ _ _
    have hb4 : Below w3.heap.size w3 (w3.alloc (.map #[] 0)) := (Below.refl _ _).alloc (Nat.le_refl _) _
    rw [hmb]
    generalize w3.alloc (.map #[] 0) = w4 at hm0 hb4 ⊢
    have hlen := HG.out
    go_loopw [31] (fun iv wr => ∃ (k : Nat) (f : Value → Option Value), k ≤ out.length ∧ iv = .int .i64 k ∧ MapF Try.prog 3 wr mb f ∧ LastF out k f ∧ Below w3.heap.size w3 wr) (fun iv _ => out.length - (intOf iv).toNat)
    case atStart => exact ⟨0, _, Nat.zero_le _, rfl, hm0, LastF.nil _, hb4⟩
    case round =>
      clear hm0 hb4 hlen
      obtain ⟨k, f, hk, rfl, hm, hf, hb⟩ := hrel
      by_cases hlt : k < out.length
      · obtain ⟨gv, offv, rfl⟩ : ∃ g off, va = some ⟨g, off, none⟩ := by
          obtain ⟨a, c', e, h2, _⟩ := HG.out.form
          cases e
          exact h2 (by omega)
        obtain ⟨c0, c1, c2, c3⟩ := (HG.out.belowS hb).at_ hlt rfl
        have hrow := fun (x : Value) => LastF.lt hf hlt HO.out (x := x)
        have HPUT := Lib.hid hf.put
        have hk64 := kInt64 (show -9223372036854775808 ≤ (bgAt out k).t ∧ (bgAt out k).t ≤ 9223372036854775807 from (by obtain ⟨⟨t, q0, q1⟩, _⟩ := HOB.out _ (bgAt_mem hlt); omega))
        generalize (bgAt out k).t = t at *
        generalize (bgAt out k).p = p at *
        generalize (bgAt out k).at_ = a at *
        generalize (bgAt out k).pl = pl at *
        have hba : Below wr.heap.size wr (wr.alloc (.cells #[.int .i64 t, .int .i64 p, .int .i64 a, .int .i64 pl] 76)) := by go_grown
        have hm1 := hm.belowS hba
        have hlk := hm1.look (Maps.int_keyed Try.underlying3) Try.underlying78 (show (zeroValue 3).run Try.prog _ = .ok (.int .i64 0) _ by kernel_rfl) hk64 true
        obtain ⟨w6, hst, hm6, hg6⟩ := hm1.store (Maps.int_keyed Try.underlying3) Try.underlying78 hk64 (.int .i64 pl)
        have HR : Hid (MapF Try.prog 3 w6 mb (fput f (.int .i64 t) (.int .i64 pl)) ∧ Below w3.heap.size w3 w6) := Lib.hid ⟨hm6, (hb.alloc hb.size _).grown hg6 (hb.alloc hb.size _).size fun g e => by rw [← Option.some.inj e, ← hmb]; exact Nat.le_refl _⟩
        clear hba hm hm1 hb hm6 hg6 hf
        cases hfv : f (.int .i64 t) with
        | none =>
          rw [hfv] at hlk
          have hlk' : (Instr.lookup 78 (.map (some mb)) (.int .i64 t) true).run Try.prog (wr.alloc (.cells #[.int .i64 t, .int .i64 p, .int .i64 a, .int .i64 pl] 76)) = .ok (.tuple #[.int .i64 0, .bool false]) _ := hlk
          clear hlk hrow
          go_wp2_with fail
          go_roundw
          case rel => exact ⟨k + 1, _, by omega, by go_num, HR.out.1, HPUT.out, HR.out.2⟩
          case measure => simp [intOf]; omega
        | some x =>
          obtain ⟨q, rfl, hq⟩ := hrow _ hfv
          rw [hfv] at hlk
          have hlk' : (Instr.lookup 78 (.map (some mb)) (.int .i64 t) true).run Try.prog (wr.alloc (.cells #[.int .i64 t, .int .i64 p, .int .i64 a, .int .i64 pl] 76)) = .ok (.tuple #[.int .i64 q, .bool true]) _ := hlk
          have dq : decide (pl ≤ q) = false := decide_eq_false (by omega)
          clear hlk hrow
          go_wp2_with fail
          go_roundw
          case rel => exact ⟨k + 1, _, by omega, by go_num, HR.out.1, HPUT.out, HR.out.2⟩
          case measure => simp [intOf]; omega
      · have HP : Hid (AwP w (.returned (.bool true)) wr) := Lib.hid ⟨rfl, HB3.out.trans (hb.mono HB3.out.size)⟩
        clear hm hf hb
        obtain rfl : k = out.length := by omega
        go_wp2
        go_ret
        exact HP.out
end
end Go.Proofs.Ytmdajndmobpgbaa

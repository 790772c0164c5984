/- network: the walk of the statement NetworkFates. Conditions: the list can be read. -/
import Derived.Test.YtkhiepjlfbjgdaaNwFateP
namespace Go.Proofs.Ytkhiepjlfbjgdaa
open Go.RowKit

def IsI (w : World) (v : Value) (l : List Int) : Prop := OL w 3 1 v l.length (ints l)
theorem IsI.form {w : World} {v : Value} {l : List Int} (h : IsI w v l) : ∃ ao cap, v = .slice ao l.length cap ∧ (0 < l.length → ∃ g off, ao = some ⟨g, off, none⟩) := by
  rcases OL.forms h with ⟨e, e0⟩ | ⟨g, off, cp, e, h1, h2, _⟩
  · exact ⟨none, 0, by rw [e, e0], fun h => by omega⟩
  · exact ⟨_, cp, e, fun _ => ⟨g, off, rfl⟩⟩
theorem IsI.at_ {w : World} {l : List Int} {g off n cp : Nat} (h : IsI w (.slice (some ⟨g, off, none⟩) n cp) l) (hn : n = l.length) {q : Nat} (hq : q < n) : w.cell? ⟨g, off + q, none⟩ = some (.int .i64 (l.getD q 0)) := by
  subst hn
  exact (OL.cell h q (by omega)).trans (ints_get l q hq)
theorem ints_one (l : List Int) : ∀ u ∈ ints l, u.oneCell' = true := by
  intro u hu
  obtain ⟨x, _, rfl⟩ := List.mem_map.1 hu
  rfl
/-- append(l, x) of a list of numbers. -/
theorem app1 {w : World} {v vx : Value} {l : List Int} {x : Int} (h : IsI w v l) (hx : OL w 3 1 vx 1 (ints [x])) (hl : l.length ≤ 100000) :
    ∃ ao cp w', (Builtin.append_ #[35, 35] 35 #[v, vx]).run Try.prog w = .ok (.slice ao (l.length + 1) cp) w' ∧ IsI w' (.slice ao (l.length + 1) cp) (l ++ [x]) ∧ w.grownBy w' v.ownBlock ∧ ((Value.slice ao (l.length + 1) cp).ownBlock = v.ownBlock ∨ (Value.slice ao (l.length + 1) cp).ownBlock = some w.heap.size) := by
  obtain ⟨ti, hi, iz, is, ib⟩ := info_parts infoI
  obtain ⟨vn, wm, hap, ho, hgr, hown⟩ := OL.append h (P := Try.prog) 35 35 35 ti _ 8 Try.underlying35 hi iz is ib rfl (by omega) (OL.src hx Try.underlying35 (ints_one [x])) (by unfold maxLen; omega) (by omega)
  have ho2 : IsI wm vn (l ++ [x]) := by
    show OL wm _ 1 vn (l ++ [x]).length (ints (l ++ [x]))
    rw [List.length_append]
    simpa [ints] using ho
  obtain ⟨ao, cp, rfl, _⟩ := ho2.form
  rw [List.length_append] at hap ho2 hown
  exact ⟨ao, cp, wm, hap, ho2, hgr, hown⟩
theorem clip3 (n lo hi : Int) (w : World) : Calls Try.prog 22 #[.int .i64 n, .int .i64 lo, .int .i64 hi] w fun e w' => e = .returned (.int .i64 (max lo (min n hi))) ∧ w' = w := by
  go_enter Try.func22, Try.ntmps22
  go_wp2
  go_ret
  exact ⟨rfl, rfl⟩
/-- Are the first j of n numbers delays, and no more than four? -/
def gd (n : Nat) (X : Nat → Int) (j : Nat) : Bool := decide (n ≤ 4) && firstBad j X
theorem gd_zero (n : Nat) (X : Nat → Int) : gd n X 0 = decide (n ≤ 4) := by
  unfold gd firstBad
  simp
theorem gd_succ (n : Nat) (X : Nat → Int) (j : Nat) : gd n X (j + 1) = (gd n X j && !badD (X j)) := by
  have : firstBad (j + 1) X = (firstBad j X && !badD (X j)) := by
    unfold firstBad
    rw [Bool.eq_iff_iff]
    simp only [decide_eq_true_eq, Bool.and_eq_true, Bool.not_eq_true']
    constructor
    · intro h
      exact ⟨fun i hi => h i (by omega), h j (by omega)⟩
    · rintro ⟨h1, h2⟩ i hi
      by_cases e : i = j
      · subst e; exact h2
      · exact h1 i (by omega)
  unfold gd
  rw [this, Bool.and_assoc]
/-- What was found of each number. -/
def fnd (R : List Arr) : List Int := (List.range 5).map fun i => (cntD R i : Int)
theorem fnd_len (R : List Arr) : (fnd R).length = 5 := by simp [fnd]
theorem fnd_get (R : List Arr) {i : Nat} (hi : i < 5) : (fnd R).getD i 0 = (cntD R i : Int) := by simp [fnd, List.getD, hi]
theorem fnd_snoc (R : List Arr) {z : Arr} {i : Nat} (hi : i < 5) (hz : z.data = [(i : Int)]) : fnd (R ++ [z]) = (fnd R).set i ((cntD R i : Int) + 1) := by
  apply List.ext_getElem
  · simp [fnd]
  · intro j h1 h2
    have hj : j < 5 := by simpa [fnd] using h1
    have e2 : (fnd R)[j]'(by rw [fnd_len]; exact hj) = (cntD R j : Int) := by simp [fnd]
    rw [show (fnd (R ++ [z]))[j]'h1 = (cntD (R ++ [z]) j : Int) by simp [fnd], List.getElem_set, cntD_snoc, hz]
    by_cases e : i = j
    · subst e; simp
    · rw [if_neg e, if_neg (by simp; omega), e2]; simp
theorem grow_set (w : World) (g o : Nat) (v : Value) : w.grownBy (w.setCell ⟨g, o, none⟩ v) (some g) := grownBy_setCells w g o [v]
def lenN (w : World) (b : Nat) : Nat := match w.cell? ⟨b, 4, none⟩ with
  | some (.slice _ n _) => n
  | _ => 0
theorem NS.lenN {w : World} {P : Nat → Prop} {b : Nat} {s : Net} (h : NS w P b s) : lenN w b = s.arr.length := by
  obtain ⟨q, hN, _⟩ := h
  obtain ⟨ao, cap, hv⟩ := hN.vaform
  unfold Go.Proofs.Ytkhiepjlfbjgdaa.lenN
  rw [show w.cell? ⟨b, 4, none⟩ = some q.va from has_cell hN.c 4, hv]
  exact hN.alen
/-- Between deliveries. -/
def RcR (w0 : World) (b fb c : Nat) (at_ : Int) (k : Nat) (l : List Int) (tv : Value) (wr : World) : Prop := ∃ (R : List Arr) (s : Net) (ao : Option Addr) (m cp : Nat), tv = .slice ao m cp ∧ m = (timesD at_ k R).length ∧ m ≤ R.length ∧
  CN w0 (fun j => j = fb ∨ (Value.slice ao m cp).ownBlock = some j) b c s wr ∧ (R ++ s.arr).Perm (fullA at_ k l) ∧ IsRow wr 3 fb (fnd R) ∧ IsI wr (.slice ao m cp) (timesD at_ k R) ∧ (∀ g, (Value.slice ao m cp).ownBlock = some g → w0.heap.size ≤ g ∧ g ≠ fb)
/-- Ahead of message i, or behind the last one. -/
def SdR (w0 : World) (b : Nat) (at_ : Int) (k : Nat) (L : List Int) (i : Nat) (wr : World) : Prop := ∃ s : Net, CN w0 (fun _ => False) b i s wr ∧ (i ≤ k → FtS at_ k L i s) ∧ (i = k + 1 → FtE at_ k L s)
set_option maxRecDepth 100000 in
set_option maxHeartbeats 3200000 in
theorem fates_walk {ao : Option Addr} {n cp bk off : Nat} {X : Nat → Int} {x0 t : Int} (w : World) (h0 : 0 ≤ x0 ∧ x0 ≤ 255) (hX : IsInts w ao n bk off X) (hn : n ≤ 9223372036854775807) :
    Calls Try.prog 6 #[.int .u8 x0, .slice ao n cp, .int .i64 t] w (AwP w) := by
  have CA := Lib.hid (awake_any w)
  by_cases hbig : 40 < n
  · have d : decide ((40 : Int) < (n : Int)) = true := by simp; omega
    clear hX
    go_enter Try.func6, Try.ntmps6
    go_wp2_with fail
    refine CA.out.mono ?_
    rintro e w1 ⟨rfl, hB1⟩
    have CA2 := Lib.hid (awake_any w1)
    go_wp2_with fail
    refine CA2.out.mono ?_
    rintro e w2 ⟨rfl, hB2⟩
    have hB := hB1.trans (hB2.mono hB1.size)
    go_wp2
    go_ret
    exact ⟨rfl, hB⟩
  · have d : decide ((40 : Int) < (n : Int)) = false := by simp; omega
    have HX := Lib.hid hX
    obtain ⟨k, q1, hk⟩ : ∃ k : Nat, x0.tmod 5 = (k : Int) ∧ k < 5 := ⟨(x0 % 5).toNat, by rw [Int.tmod_eq_emod_of_nonneg h0.1]; omega, by omega⟩
    have q2 : IntKind.u8.wrap (k : Int) = (k : Int) := IntWalk.u8_in _ (by omega)
    have q3 : IntKind.i64.wrap (k : Int) = (k : Int) := IntWalk.i64_in _ (by omega)
    have CC := Lib.hid (fun w => clip3 t 0 1099511627776 w)
    have hat : 0 ≤ max 0 (min t 1099511627776) ∧ max 0 (min t 1099511627776) ≤ 1099511627776 := by omega
    obtain ⟨at_, hate⟩ : ∃ a, max 0 (min t 1099511627776) = a := ⟨_, rfl⟩
    rw [hate] at hat CC
    have hle : decide ((n : Int) ≤ 4) = gd n X 0 := by rw [gd_zero]; simp; omega
    clear hX h0 hate
    go_enter Try.func6, Try.ntmps6
    go_wp2_with fail
    refine CA.out.mono ?_
    rintro e w1 ⟨rfl, hB1⟩
    clear CA
    have CN0 := Lib.hid (cn_new 0 (by decide) w1)
    go_wp2_with fail
    refine CN0.out.mono ?_
    rintro e w2 ⟨b, rfl, hC⟩
    have hC2 : CN w (fun _ => False) b 0 (Net.init 0) w2 := ⟨hC.t.mono fun j hj => ⟨Nat.le_trans hB1.size hj.1, fun f => f⟩, hC.g, hB1.trans (hC.be.mono hB1.size), fun _ f => f.elim⟩
    clear CN0 hC hB1
    go_wp2_with fail
    refine (CC.out w2).mono ?_
    rintro e w2' ⟨rfl, hw2⟩
    obtain rfl : w2 = w2' := hw2.symm
    clear CC
    by_cases hg : gd n X n = true
    · have hn4 : n ≤ 4 := by
        unfold gd at hg
        rw [Bool.and_eq_true, decide_eq_true_eq] at hg
        exact hg.1
      have hfb : firstBad n X = true := by
        unfold gd at hg
        rw [Bool.and_eq_true] at hg
        exact hg.2
      have hgv := hg
      have CF := Lib.hid (cn_fate (cp := cp) hC2 (x := aA) (y := aB) (by simp [aA, maxLen, ByteArray.size]) (by simp [aB, maxLen, ByteArray.size]) (i := (k : Int)) (HX.out.below hC2.be (Nat.le_refl _)) (fun h => .inr (HX.out.lt h)) (by omega) (by omega) hn4 hfb)
      rw [fts_e0, fts_s0, errV0] at CF
      have hF0 := fts_start (at_ := at_) hat.1 k (lst n X)
      have hbk := back_get k (lst n X)
      have hll : (lst n X).length = n := by simp [lst]
      have HLL : Hid (∀ j, j < n → (lst n X).getD j 0 = X j) := Lib.hid fun j hj => by simp [lst, List.getD, hj]
      have HBD : Hid (∀ j, j < n → 0 ≤ (lst n X).getD j 0 ∧ (lst n X).getD j 0 ≤ 17179869184) := Lib.hid fun j hj => by
        rw [HLL.out j hj]
        exact bad_bd (of_decide_eq_true hfb j hj)
      have HXX := Lib.hid HX.out
      generalize (Net.init 0).fate aA aB k (lst n X) = s0 at *
      generalize lst n X = L at *
      clear hC2 hg hfb
      go_wp2_with fail
      refine CF.out.mono ?_
      rintro e w3 ⟨rfl, hC3, _⟩
      clear CF
      have HBX := Lib.hid hC3.be
      go_wp2_with fail
      go_loopw [12, 11] (fun v g wr => ∃ j : Nat, j ≤ n ∧ v = .int .i64 j ∧ g = .bool (gd n X j) ∧ wr = w3) (fun v _ _ => n - (intOf v).toNat)
      case atStart => exact ⟨0, Nat.zero_le _, rfl, rfl, rfl⟩
      case round =>
        obtain ⟨j, hj, rfl, rfl, rfl⟩ := hrel
        have HG := Lib.hid (gd_succ n X j)
        by_cases hlt : j < n
        · cases hgj : gd n X j
          · rw [hgj] at HG
            go_wp2_with fail
            go_roundw
            case rel => exact ⟨j + 1, by omega, by go_num, by rw [HG.out]; rfl, by first | rfl | trivial⟩
            case measure => simp [intOf]; omega
          · rw [hgj] at HG
            have hXr := HX.out.below HBX.out (Nat.le_refl _)
            obtain rfl := hXr.ao (by omega)
            have a0 := hXr.c j hlt
            clear hXr
            generalize X j = xj at *
            by_cases h1 : 0 ≤ xj
            · have d1 : decide (0 ≤ xj) = true := decide_eq_true h1
              by_cases h2 : xj ≤ 17179869184
              · have d2 : decide (xj ≤ 17179869184) = true := decide_eq_true h2
                have HE := Lib.hid (show (true && !badD xj) = true by unfold badD; simp; omega)
                go_wp2_with fail
                go_roundw
                case rel => exact ⟨j + 1, by omega, by go_num, by rw [HG.out, HE.out], by first | rfl | trivial⟩
                case measure => simp [intOf]; omega
              · have d2 : decide (xj ≤ 17179869184) = false := decide_eq_false h2
                have HE := Lib.hid (show (true && !badD xj) = false by unfold badD; simp; omega)
                go_wp2_with fail
                go_roundw
                case rel => exact ⟨j + 1, by omega, by go_num, by rw [HG.out, HE.out], by first | rfl | trivial⟩
                case measure => simp [intOf]; omega
            · have d1 : decide (0 ≤ xj) = false := decide_eq_false h1
              have HE := Lib.hid (show (true && !badD xj) = false by unfold badD; simp; omega)
              go_wp2_with fail
              go_roundw
              case rel => exact ⟨j + 1, by omega, by go_num, by rw [HG.out, HE.out], by first | rfl | trivial⟩
              case measure => simp [intOf]; omega
        · obtain rfl : n = j := by omega
          rw [hgv]
          clear HG
          have CF := Lib.hid (cn_fate (cp := 0) hC3 (x := aA) (y := aB) (by simp [aA, maxLen, ByteArray.size]) (by simp [aB, maxLen, ByteArray.size]) (i := (k : Int)) (nil_ints wr) (fun h => by omega) (by omega) (by omega) (Nat.zero_le _) (decide_eq_true fun i hi => by omega))
          rw [show lst 0 (fun _ => (0 : Int)) = [] from rfl, (hF0.again []).1, (hF0.again []).2, show errV 4 = .iface 48 (.int .i64 4) from errV_pos (by decide)] at CF
          have hF1 := hF0.touch aA aB
          clear hC3 hF0 HX
          generalize s0.touch aA aB = s1 at *
          go_wp2_with fail
          refine CF.out.mono ?_
          rintro e w4 ⟨rfl, hC4, _⟩
          clear CF
          have CI := Lib.hid (is_same 4 (by decide) w4)
          go_wp2_with fail
          refine CI.out.mono ?_
          rintro e w4' ⟨rfl, hw4⟩
          obtain rfl : w4 = w4' := hw4.symm
          clear CI
          have CF := Lib.hid (cn_fate (cp := 0) hC4 (x := aB) (y := aA) (by simp [aB, maxLen, ByteArray.size]) (by simp [aA, maxLen, ByteArray.size]) (i := (k : Int)) (nil_ints w4) (fun h => by omega) (by omega) (by omega) (Nat.zero_le _) (decide_eq_true fun i hi => by omega))
          rw [show lst 0 (fun _ => (0 : Int)) = [] from rfl, (hF1.back hbk).1, errV0] at CF
          have hF2 := (hF1.back hbk).2
          clear hC4 hF1 hbk
          generalize fateS s1 aB aA k [] = s2 at *
          go_wp2_with fail
          refine CF.out.mono ?_
          rintro e w5 ⟨rfl, hC5, _⟩
          clear CF
          go_wp2_with fail
          go_loopw [13] (fun v wr => ∃ i : Nat, i ≤ k + 1 ∧ v = .int .i64 i ∧ SdR w b at_ k L i wr) (fun v _ => k + 1 - (intOf v).toNat)
          case atStart => exact ⟨0, Nat.zero_le _, rfl, s2, hC5, fun _ => hF2, fun h => by omega⟩
          case round =>
            clear hC5 hF2
            obtain ⟨i, hi, rfl, s, hC, hS, hE⟩ := hrel
            by_cases hlt : i ≤ k
            · have hS := hS hlt
              have p1 : IntKind.u8.wrap (i : Int) = (i : Int) := IntWalk.u8_in _ (by omega)
              have hik : (i : Int) ≤ (k : Int) := by omega
              have dik : decide ((i : Int) ≤ (k : Int)) = true := decide_eq_true hik
              have hal : Below wr.heap.size wr (wr.alloc (.cells #[.int .u8 i] 5)) := by go_grown
              have hC1 := hC.add (J := fun j => j = wr.heap.size) hal (fun j hj => by simp; omega)
              have hXb : IsBytes (wr.alloc (.cells #[.int .u8 i] 5)) (some ⟨wr.heap.size, 0, none⟩) 1 wr.heap.size 0 (fun j => [(i : Int)].getD j 0) := bys_bytes (l := [(i : Int)]) (heap_alloc_new wr _) (fun x hx => by simp at hx; omega)
              have CS := Lib.hid (cn_send (cp := 1) hC1 (by omega) (x := aA) (y := aB) (by simp [aA, maxLen, ByteArray.size]) (by simp [aB, maxLen, ByteArray.size]) hat.1 hat.2 hS.p hXb (fun _ => .inl (.inr rfl)) (by omega))
              rw [show lst 1 (fun j => [(i : Int)].getD j 0) = [(i : Int)] from lst_self [(i : Int)]] at CS
              have HN : Hid ((i + 1 ≤ k → FtS at_ k L (i + 1) (s.sent at_ aA aB [(i : Int)])) ∧ (i + 1 = k + 1 → FtE at_ k L (s.sent at_ aA aB [(i : Int)])) ∧ fateE (s.sent at_ aA aB [(i : Int)]) aA aB i = 4 ∧ fateS (s.sent at_ aA aB [(i : Int)]) aA aB i [] = (s.sent at_ aA aB [(i : Int)]).touch aA aB) := Lib.hid (by
                by_cases e : i = k
                · subst e
                  exact ⟨fun h => by omega, fun _ => hS.last, (hS.last.late []).1, (hS.last.late []).2⟩
                · exact ⟨fun _ => hS.sent e, fun h => by omega, ((hS.sent e).late []).1, ((hS.sent e).late []).2⟩)
              clear hC hS hE hal hC1 hXb
              generalize s.sent at_ aA aB [(i : Int)] = s3 at *
              go_wp2_with fail
              refine CS.out.mono ?_
              rintro e w6 ⟨rfl, hC6, _⟩
              clear CS
              have hC6 := hC6.less (J := fun _ => False) fun _ f => f.elim
              have CF := Lib.hid (cn_fate (cp := 0) hC6 (x := aA) (y := aB) (by simp [aA, maxLen, ByteArray.size]) (by simp [aB, maxLen, ByteArray.size]) (i := (i : Int)) (nil_ints w6) (fun h => by omega) (by omega) (by omega) (Nat.zero_le _) (decide_eq_true fun i hi => by omega))
              rw [show lst 0 (fun _ => (0 : Int)) = [] from rfl, HN.out.2.2.1, HN.out.2.2.2, show errV 4 = .iface 48 (.int .i64 4) from errV_pos (by decide)] at CF
              clear hC6
              go_wp2_with fail
              refine CF.out.mono ?_
              rintro e w7 ⟨rfl, hC7, _⟩
              clear CF
              have CI := Lib.hid (is_same 4 (by decide) w7)
              go_wp2_with fail
              refine CI.out.mono ?_
              rintro e w7' ⟨rfl, hw7⟩
              obtain rfl : w7 = w7' := hw7.symm
              clear CI
              go_wp2_with fail
              go_roundw
              case rel => exact ⟨i + 1, by omega, by go_num, _, hC7, fun h => (HN.out.1 h).touch _ _, fun h => (HN.out.2.1 h).touch _ _⟩
              case measure => simp [intOf]; omega
            · obtain rfl : i = k + 1 := by omega
              have hE := hE rfl
              have hlen : s.arr.length = k + L.length := by rw [hE.arr, full_len]
              have CP := Lib.hid (cn_pend hC)
              have CL := Lib.hid (cn_lost hC)
              rw [hlen, hll] at CP
              rw [hE.z, hll] at CL
              have hR0 : (([] : List Arr) ++ s.arr).Perm (fullA at_ k L) := by rw [hE.arr]; exact List.Perm.refl _
              have dik : decide (((k + 1 : Nat) : Int) ≤ (k : Int)) = false := by simp; omega
              obtain ⟨lv, hlv⟩ : ∃ lv : Int, (if n = 0 then (1 : Int) else 0) = lv := ⟨_, rfl⟩
              have d1 : (lv == 1) = ((n : Int) == 0) := by
                rw [← hlv]
                by_cases e : n = 0
                · subst e; rfl
                · rw [if_neg e]; simp; omega
              rw [hlv] at CL
              have hmk : ∀ w, (Instr.makeSlice 35 (.int .i64 5) (.int .i64 5)).run Try.prog w = .ok (.slice (some ⟨w.heap.size, 0, none⟩) 5 5) (w.alloc (.cells #[.int .i64 0, .int .i64 0, .int .i64 0, .int .i64 0, .int .i64 0] 3)) := fun _ => by kernel_rfl
              have hal : Below wr.heap.size wr (wr.alloc (.cells #[.int .i64 0, .int .i64 0, .int .i64 0, .int .i64 0, .int .i64 0] 3)) := by go_grown
              have hC9 := (hC.add (J := fun j => j = wr.heap.size) hal (fun j hj => by simp; omega)).less (J := fun j => j = wr.heap.size ∨ (Value.slice none 0 0).ownBlock = some j) (by
                rintro j (h | h)
                · exact .inr h
                · cases h)
              have hrow9 : IsRow (wr.alloc (.cells #[.int .i64 0, .int .i64 0, .int .i64 0, .int .i64 0, .int .i64 0] 3)) 3 wr.heap.size (fnd []) := heap_alloc_new wr _
              have hfb0 := hC.be.size
              clear hC hS hE hlen hlv hal
              go_wp2_with fail
              refine CP.out.mono ?_
              rintro e w8 ⟨rfl, hw8⟩
              obtain rfl : wr = w8 := hw8.symm
              go_wp2_with fail
              refine CL.out.mono ?_
              rintro e w8 ⟨rfl, hw8⟩
              obtain rfl : wr = w8 := hw8.symm
              clear CP CL
              go_wp2_with fail
              clear hmk d1
              generalize hfe : wr.heap.size = fb at *
              generalize wr.alloc (.cells #[.int .i64 0, .int .i64 0, .int .i64 0, .int .i64 0, .int .i64 0] 3) = w9 at *
              clear hfe
              go_loopw [15] (fun tv wr => RcR w b fb (k + 1) at_ k L tv wr) (fun _ wr => lenN wr b)
              case atStart => exact ⟨[], s, none, 0, 0, rfl, rfl, Nat.le_refl _, hC9, hR0, hrow9, OL.nil _ _ _, fun g hg => (by cases hg)⟩
              case round =>
                clear hC9 hR0 hrow9
                obtain ⟨R, s, ao', m, cp', rfl, hm, hmR, hC, hP, hrow, hti, hown⟩ := hrel
                have HM := Lib.hid hm
                clear hm
                have CP := Lib.hid (cn_pend hC)
                by_cases h0 : 0 < s.arr.length
                · have d0 : decide ((0 : Int) < (s.arr.length : Int)) = true := by simp; omega
                  have hPl := hP.length_eq
                  rw [List.length_append, full_len, hll] at hPl
                  obtain ⟨i, hik, hzd, _, hzt⟩ := full_mem (hP.subset (List.mem_append_right R (best_mem h0)))
                  have hP2 := recv_perm hP h0
                  have hlr : s.recv.arr.length = s.arr.length - 1 := by
                    have := hP2.length_eq
                    rw [List.length_append, List.length_append, full_len, hll] at this
                    simp at this
                    omega
                  have hzb : at_ ≤ (s.at_ (bestN s s.arr.length)).t ∧ (s.at_ (bestN s s.arr.length)).t ≤ at_ + 17179869184 := by
                    rcases hzt with e | ⟨j, hj, e⟩
                    · omega
                    · have := HBD.out j (by omega); omega
                  have CR := Lib.hid (cn_recv hC (by omega) h0 (by omega) (by omega))
                  have HLW : Hid (lenN wr b = s.arr.length) := Lib.hid hC.t.lenN
                  have hcb : cntD R i ≤ R.length := List.countP_le_length
                  have hti0 := OL.lt hti
                  have hwb := hC.be.size
                  have hrl := lt_of_block hrow
                  clear hC hP hzt
                  generalize s.at_ (bestN s s.arr.length) = z at *
                  unfold CNR at CR
                  rw [hzd] at CR
                  obtain ⟨zt, za, zb, zd, zm, zc⟩ := z
                  simp only at hzd hzb CR
                  subst hzd
                  go_wp2_with fail
                  refine CP.out.mono ?_
                  rintro e w4 ⟨rfl, hw4⟩
                  obtain rfl : wr = w4 := hw4.symm
                  clear CP
                  go_wp2_with fail
                  refine CR.out.mono ?_
                  rintro e w4 ⟨vo, vc, rfl, ho, hC4, hs4⟩
                  have ho : OL w4 5 1 (.slice vo 1 vc) 1 (bys [(i : Int)]) := ho
                  obtain ⟨g, off, rfl, hgl⟩ : ∃ g off, vo = some ⟨g, off, none⟩ ∧ g < w4.heap.size := by
                    obtain ⟨g, off, cap, e, _, _, hl⟩ := OL.form ho (by omega)
                    cases e
                    exact ⟨g, off, rfl, hl⟩
                  have b4 : w4.cell? ⟨g, off, none⟩ = some (.int .u8 i) := OL.cell ho 0 (by omega)
                  have hrow4 : IsRow w4 3 fb (fnd R) := (hs4 fb (.inl rfl)).trans hrow
                  have hti4 : IsI w4 _ _ := OL.heap hti fun j hj => hs4 j (.inr hj)
                  have hfg : fb ≠ g := by
                    obtain ⟨cur, hcur⟩ := OL.elem ho g rfl
                    exact type_ne hrow4 hcur (by decide)
                  have hal : Below w4.heap.size w4 (w4.alloc (.cells #[.int .i64 zt, .string za, .string zb, .slice (some ⟨g, off, none⟩) 1 vc] 43)) := by go_grown
                  have hfl : fb < w4.heap.size := lt_of_block hrow4
                  have hx4 := heap_alloc_new w4 (.cells #[.int .i64 zt, .string za, .string zb, .slice (some ⟨g, off, none⟩) 1 vc] 43)
                  have hrow5 : IsRow (w4.alloc (.cells #[.int .i64 zt, .string za, .string zb, .slice (some ⟨g, off, none⟩) 1 vc] 43)) 3 fb (fnd R) := has_alloc hrow4 _
                  have b5 : (w4.alloc (.cells #[.int .i64 zt, .string za, .string zb, .slice (some ⟨g, off, none⟩) 1 vc] 43)).cell? ⟨g, off, none⟩ = some (.int .u8 i) := (hal.cell (p := ⟨g, off, none⟩) hgl).trans b4
                  have x0' := (has_cell hx4 0).trans (show _ = some (Value.int .i64 zt) from rfl)
                  have x3' := (has_cell hx4 3).trans (show _ = some (Value.slice (some ⟨g, off, none⟩) 1 vc) from rfl)
                  have hcell := IsRow.cell hrow5 (i := i) (by rw [fnd_len]; omega)
                  rw [fnd_get R (by omega)] at hcell
                  have hfree : (w4.alloc (.cells #[.int .i64 zt, .string za, .string zb, .slice (some ⟨g, off, none⟩) 1 vc] 43)).frozen? ⟨fb, i, none⟩ = false := has_free hrow5 i
                  have hg6 := grow_set w4 fb i (.int .i64 ((cntD R i : Int) + 1))
                  have hal6 : Below (w4.setCell ⟨fb, i, none⟩ (.int .i64 ((cntD R i : Int) + 1))).heap.size (w4.setCell ⟨fb, i, none⟩ (.int .i64 ((cntD R i : Int) + 1))) ((w4.setCell ⟨fb, i, none⟩ (.int .i64 ((cntD R i : Int) + 1))).alloc (.cells #[.int .i64 zt, .string za, .string zb, .slice (some ⟨g, off, none⟩) 1 vc] 43)) := by go_grown
                  have hrow6 : IsRow ((w4.setCell ⟨fb, i, none⟩ (.int .i64 ((cntD R i : Int) + 1))).alloc (.cells #[.int .i64 zt, .string za, .string zb, .slice (some ⟨g, off, none⟩) 1 vc] 43)) 3 fb (fnd (R ++ [⟨zt, za, zb, [(i : Int)], zm, zc⟩])) := by
                    rw [fnd_snoc R (i := i) (by omega) rfl]
                    exact has_alloc (hrow4.set i _) _
                  have hx6 := heap_alloc_new (w4.setCell ⟨fb, i, none⟩ (.int .i64 ((cntD R i : Int) + 1))) (.cells #[.int .i64 zt, .string za, .string zb, .slice (some ⟨g, off, none⟩) 1 vc] 43)
                  rw [World.size_setCell] at hx6
                  have b6 : ((w4.setCell ⟨fb, i, none⟩ (.int .i64 ((cntD R i : Int) + 1))).alloc (.cells #[.int .i64 zt, .string za, .string zb, .slice (some ⟨g, off, none⟩) 1 vc] 43)).cell? ⟨g, off, none⟩ = some (.int .u8 i) := (hal6.cell (p := ⟨g, off, none⟩) (by rw [World.size_setCell]; exact hgl)).trans ((World.cell?_of_block (a := ⟨g, off, none⟩) (setCell_other (Ne.symm hfg))).trans b4)
                  have hC6 := ((hC4.less (J := fun j => j = fb ∨ (Value.slice ao' m cp').ownBlock = some j) fun j hj => .inl hj).grown hg6 (fun j hj => by obtain rfl := Option.some.inj hj; exact ⟨.inl rfl, hfb0⟩)).bel hal6
                  have hti6 : IsI ((w4.setCell ⟨fb, i, none⟩ (.int .i64 ((cntD R i : Int) + 1))).alloc (.cells #[.int .i64 zt, .string za, .string zb, .slice (some ⟨g, off, none⟩) 1 vc] 43)) _ _ := OL.alloc (OL.kept hti4 hg6 fun j hj e => (hown j hj).2 (Option.some.inj e)) _
                  have HSN := Lib.hid (timesD_snoc (at_ := at_) (k := k) R ⟨zt, za, zb, [(i : Int)], zm, zc⟩)
                  have hik4 : (i : Int) ≤ 4 := by omega
                  have d4 : decide ((4 : Int) < (i : Int)) = false := decide_eq_false (by omega)
                  have i0 : (0 : Int) ≤ (i : Int) := by omega
                  have i5 : (i : Int) < 5 := by omega
                  have i5n : i < 5 := by omega
                  have hcb2 : (0 : Int) ≤ (cntD R i : Int) ∧ (cntD R i : Int) ≤ 100 := by omega
                  clear CR ho hs4 hrow4 hti4 hx4 hC4 hal hrow5 hg6 hal6 hrow b4 hti
                  generalize hcn : (cntD R i : Int) = cn at *
                  go_upto_region 31 with fail
                  clear hcell hfree b5 x0' x3' hcn
                  generalize (w4.setCell ⟨fb, i, none⟩ (.int .i64 (cn + 1))).alloc (.cells #[.int .i64 zt, .string za, .string zb, .slice (some ⟨g, off, none⟩) 1 vc] 43) = w6 at *
                  generalize w4.heap.size = bx at *
                  have x0 := (has_cell hx6 0).trans (show _ = some (Value.int .i64 zt) from rfl)
                  have x3 := (has_cell hx6 3).trans (show _ = some (Value.slice (some ⟨g, off, none⟩) 1 vc) from rfl)
                  by_cases hie : i = k
                  · have dk : ((i : Int) == (k : Int)) = true := by rw [hie]; simp
                    have HTS : Hid (timesD at_ k (R ++ [⟨zt, za, zb, [(i : Int)], zm, zc⟩]) = timesD at_ k R ++ [zt - at_]) := Lib.hid (HSN.out.trans (if_pos (by rw [hie])))
                    have hal : Below w6.heap.size w6 (w6.alloc (.cells #[.int .i64 (zt - at_)] 3)) := by go_grown
                    have hv0 : OL (w6.alloc (.cells #[.int .i64 (zt - at_)] 3)) 3 1 (.slice (some ⟨w6.heap.size, 0, none⟩) 1 1) 1 (ints [zt - at_]) := OL.of_block (cs := ints [zt - at_]) (heap_alloc_new w6 _) rfl (by simp [maxLen])
                    obtain ⟨aon, cpn, wn, hap, htn, hgn, hownn⟩ := app1 (show IsI (w6.alloc (.cells #[.int .i64 (zt - at_)] 3)) _ _ from OL.alloc hti6 _) hv0 (by have := HM.out; omega)
                    rw [← HM.out] at hap htn hownn
                    have hw6 := hC6.be.size
                    have hfl6 : fb < w6.heap.size := lt_of_block hrow6
                    have hCn := ((hC6.bel hal).grownAdd (J := fun j => (Value.slice aon (m + 1) cpn).ownBlock = some j) hgn (fun j hj => ⟨.inr hj, (hown j hj).1⟩) (fun j hj => by
                      rcases hownn with e | e
                      · rw [e] at hj; exact .inl (.inr hj)
                      · rw [e] at hj
                        have e1 : (w6.alloc (.cells #[.int .i64 (zt - at_)] 3)).heap.size = j := Option.some.inj hj
                        have e2 := OL.lt htn j (e.trans hj)
                        exact .inr ⟨by omega, e2⟩)).less (J := fun j => j = fb ∨ (Value.slice aon (m + 1) cpn).ownBlock = some j) fun j hj => hj.elim (fun h => .inl (.inl h)) .inr
                    have hrown : IsRow wn 3 fb (fnd (R ++ [⟨zt, za, zb, [(i : Int)], zm, zc⟩])) := (hgn.block fb (by rw [World.size_alloc]; omega) (fun e => (hown fb e.symm).2 rfl)).trans (has_alloc hrow6 _)
                    have hown' : ∀ j, (Value.slice aon (m + 1) cpn).ownBlock = some j → w.heap.size ≤ j ∧ j ≠ fb := fun j hj => by
                      rcases hownn with e | e
                      · exact hown j (e.symm.trans hj)
                      · have e1 : (w6.alloc (.cells #[.int .i64 (zt - at_)] 3)).heap.size = j := Option.some.inj (e.symm.trans hj)
                        rw [World.size_alloc] at e1
                        exact ⟨by omega, by omega⟩
                    rw [← HTS.out] at htn
                    have HR : Hid (RcR w b fb (k + 1) at_ k L (.slice aon (m + 1) cpn) wn) := Lib.hid ⟨R ++ [⟨zt, za, zb, [(i : Int)], zm, zc⟩], s.recv, aon, m + 1, cpn, rfl, by rw [HTS.out, List.length_append, ← HM.out]; rfl, by rw [List.length_append]; show m + 1 ≤ R.length + 1; omega, hCn, hP2, hrown, htn, hown'⟩
                    have HLN : Hid (lenN wn b = s.arr.length - 1) := Lib.hid (hCn.t.lenN.trans hlr)
                    have HAP := Lib.hid hap
                    clear HSN hal hv0 hap htn hgn hownn hCn hrown hown' hP2 hC6 hti6 hrow6
                    go_wp2_with (refine wpList_append_run (v := .slice ao' m cp') (xv := .slice (some ⟨w6.heap.size, 0, none⟩) 1 1) rfl (.tmp 163) (.tmp 168) _ _ rfl (by rfl) (by rfl) HAP.out ?_)
                    go_roundw
                    case rel => exact HR.out
                    case measure => rw [HLN.out, HLW.out]; omega
                  · have dk : ((i : Int) == (k : Int)) = false := by simp; omega
                    have HTS : Hid (timesD at_ k (R ++ [⟨zt, za, zb, [(i : Int)], zm, zc⟩]) = timesD at_ k R) := Lib.hid (HSN.out.trans (if_neg (by simp; omega)))
                    have HR : Hid (RcR w b fb (k + 1) at_ k L (.slice ao' m cp') w6) := Lib.hid ⟨R ++ [⟨zt, za, zb, [(i : Int)], zm, zc⟩], s.recv, ao', m, cp', rfl, by rw [HTS.out]; exact HM.out, by rw [List.length_append]; omega, hC6, hP2, hrow6, by rw [HTS.out]; exact hti6, hown⟩
                    have HLN : Hid (lenN w6 b = s.arr.length - 1) := Lib.hid (hC6.t.lenN.trans hlr)
                    clear HSN hP2 hC6 hti6 hrow6 HTS
                    go_wp2_with fail
                    go_roundw
                    case rel => exact HR.out
                    case measure => rw [HLN.out, HLW.out]; omega
                · have hs0 : s.arr = [] := List.eq_nil_of_length_eq_zero (by omega)
                  rw [hs0, List.append_nil] at hP
                  rw [show s.arr.length = 0 by rw [hs0]; rfl] at CP
                  have hcnt : ∀ i, cntD R i = if i < k then 1 else if i = k then L.length else 0 := fun i => by
                    rw [← full_cnt at_ k L i]
                    exact hP.countP_eq _
                  have HTM := Lib.hid (fun j (hj : j < L.length) => full_time hP hj)
                  have HCN := Lib.hid hcnt
                  have hm9 : m ≤ 100 := by
                    have := hP.length_eq
                    rw [full_len, hll] at this
                    omega
                  have hbe := hC.be
                  have HTI := Lib.hid hti
                  have HRO := Lib.hid hrow
                  clear hC hP hrow hti hown hcnt h0 hs0
                  go_wp2_with fail
                  refine CP.out.mono ?_
                  rintro e w4 ⟨rfl, hw4⟩
                  obtain rfl : wr = w4 := hw4.symm
                  clear CP
                  go_wp2_with fail
                  go_loopw [18] (fun v w' => ∃ i : Nat, i ≤ 5 ∧ v = .int .i64 i ∧ w' = wr) (fun v _ => 5 - (intOf v).toNat)
                  case atStart => exact ⟨0, Nat.zero_le _, rfl, rfl⟩
                  case round =>
                    obtain ⟨i, hi5, rfl, rfl⟩ := hrel
                    by_cases hlt5 : i < 5
                    · have hcell := IsRow.cell HRO.out (i := i) (by rw [fnd_len]; exact hlt5)
                      rw [fnd_get R hlt5, HCN.out i] at hcell
                      have i5 : (i : Int) < 5 := by omega
                      have i0 : (0 : Int) ≤ (i : Int) := by omega
                      by_cases h1 : i < k
                      · rw [if_pos h1] at hcell
                        have e1 : decide ((i : Int) < (k : Int)) = true := by simp; omega
                        have e2 : ((i : Int) == (k : Int)) = false := by simp; omega
                        have e3 : decide ((k : Int) < (i : Int)) = false := by simp; omega
                        go_wp2_with fail
                        go_roundw
                        case rel => exact ⟨i + 1, by omega, by go_num, by first | rfl | trivial⟩
                        case measure => simp [intOf]; omega
                      · by_cases h2 : i = k
                        · rw [if_neg h1, if_pos h2, hll] at hcell
                          have e1 : decide ((i : Int) < (k : Int)) = false := by simp; omega
                          have e2 : ((i : Int) == (k : Int)) = true := by simp; omega
                          have e3 : decide ((k : Int) < (i : Int)) = false := by simp; omega
                          clear h2
                          go_wp2_with fail
                          go_roundw
                          case rel => exact ⟨i + 1, by omega, by go_num, by first | rfl | trivial⟩
                          case measure => simp [intOf]; omega
                        · rw [if_neg h1, if_neg h2] at hcell
                          have e1 : decide ((i : Int) < (k : Int)) = false := by simp; omega
                          have e2 : ((i : Int) == (k : Int)) = false := by simp; omega
                          have e3 : decide ((k : Int) < (i : Int)) = true := by simp; omega
                          go_wp2_with fail
                          go_roundw
                          case rel => exact ⟨i + 1, by omega, by go_num, by first | rfl | trivial⟩
                          case measure => simp [intOf]; omega
                    · obtain rfl : i = 5 := by omega
                      have HTf := Lib.hid (fun (h : 0 < m) => show ∃ g off, ao' = some ⟨g, off, none⟩ from by
                        obtain ⟨a, c', e, h2⟩ := HTI.out.form
                        cases e
                        exact h2 (by rw [← HM.out]; exact h))
                      go_wp2_with fail
                      go_loopw [19] (fun v w' => ∃ j : Nat, j ≤ n ∧ v = .int .i64 j ∧ IsI w' (.slice ao' m cp') (timesD at_ k R) ∧ Below w.heap.size w w') (fun v _ => n - (intOf v).toNat)
                      case atStart => exact ⟨0, Nat.zero_le _, rfl, HTI.out, hbe⟩
                      case round =>
                        obtain ⟨j, hj, rfl, hti, hbe⟩ := hrel
                        by_cases hlj : j < n
                        · have HXJ := Lib.hid (HLL.out j hlj)
                          have HTJ := Lib.hid (HTM.out j (by rw [hll]; exact hlj))
                          rw [HXJ.out] at HTJ
                          have hj0 : (0 : Int) ≤ (j : Int) := by omega
                          have hjn : (j : Int) < (n : Int) := by omega
                          go_wp2_with fail
                          go_loopw [21, 20] (fun v t w' => ∃ q : Nat, q ≤ m ∧ v = .int .i64 q ∧ t = .bool (decide (X j ∈ (timesD at_ k R).take q)) ∧ IsI w' (.slice ao' m cp') (timesD at_ k R) ∧ Below w.heap.size w w') (fun v _ _ => m - (intOf v).toNat)
                          case atStart => exact ⟨0, Nat.zero_le _, rfl, by simp, hti, hbe⟩
                          case round =>
                            clear hti hbe
                            obtain ⟨q, hq, rfl, rfl, hti, hbe⟩ := hrel
                            by_cases hlq : q < m
                            · obtain ⟨gt, ot, rfl⟩ := HTf.out (by omega)
                              have hqt : q < (timesD at_ k R).length := by rw [← HM.out]; exact hlq
                              have a0 := hti.at_ HM.out hlq
                              have hXr := HXX.out.below hbe (Nat.le_refl _)
                              obtain rfl := hXr.ao (by omega)
                              have a1 := hXr.c j hlj
                              have hgq : (timesD at_ k R).getD q 0 = (timesD at_ k R)[q] := by rw [List.getD_eq_getElem?_getD, List.getElem?_eq_getElem hqt]; rfl
                              rw [hgq] at a0
                              have HNX : Hid (decide (X j ∈ (timesD at_ k R).take (q + 1)) = (decide (X j ∈ (timesD at_ k R).take q) || decide ((timesD at_ k R)[q] = X j))) := Lib.hid (by
                                rw [List.take_succ_eq_append_getElem hqt, Bool.eq_iff_iff]
                                simp only [List.mem_append, List.mem_singleton, decide_eq_true_eq, Bool.or_eq_true]
                                exact ⟨fun h => h.imp id Eq.symm, fun h => h.imp id Eq.symm⟩)
                              have HR := Lib.hid (And.intro (fun p => show IsI (wr.drewN p) (.slice (some ⟨gt, ot, none⟩) m cp') (timesD at_ k R) from OL.heap hti fun _ _ => rfl) (fun p => hbe.trans (below_draw w.heap.size wr p)))
                              have q0 : (0 : Int) ≤ (q : Int) := by omega
                              have qm : (q : Int) < (m : Int) := by omega
                              clear hti hbe hXr hgq
                              generalize (timesD at_ k R)[q] = tq at *
                              generalize X j = xj at *
                              cases hin : decide (xj ∈ (timesD at_ k R).take q)
                              · rw [hin] at HNX
                                by_cases he : tq = xj
                                · have e1 : (tq == xj) = true := by rw [beq_iff_eq]; exact he
                                  rw [decide_eq_true he] at HNX
                                  clear he hin
                                  go_wp2_with fail
                                  go_quiet (fail)
                                  go_wp2
                                  go_roundw
                                  case rel => exact ⟨q + 1, by omega, by go_num, by rw [HNX.out]; rfl, HR.out.1 _, HR.out.2 _⟩
                                  case measure => simp [intOf]; omega
                                · have e1 : (tq == xj) = false := by rw [beq_eq_false_iff_ne]; exact he
                                  rw [decide_eq_false he] at HNX
                                  clear he hin
                                  go_wp2_with fail
                                  go_quiet (fail)
                                  go_wp2
                                  go_roundw
                                  case rel => exact ⟨q + 1, by omega, by go_num, by rw [HNX.out]; rfl, HR.out.1 _, HR.out.2 _⟩
                                  case measure => simp [intOf]; omega
                              · rw [hin] at HNX
                                clear hin
                                go_wp2_with fail
                                go_quiet (fail)
                                go_wp2
                                go_roundw
                                case rel => exact ⟨q + 1, by omega, by go_num, by rw [HNX.out]; rfl, HR.out.1 _, HR.out.2 _⟩
                                case measure => simp [intOf]; omega
                            · obtain rfl : q = m := by omega
                              rw [show (timesD at_ k R).take q = timesD at_ k R by rw [HM.out, List.take_length], decide_eq_true HTJ.out]
                              have HR := Lib.hid (And.intro hti hbe)
                              clear hti hbe
                              go_wp2_with fail
                              go_roundw
                              case rel => exact ⟨j + 1, by omega, by go_num, HR.out.1, HR.out.2⟩
                              case measure => simp [intOf]; omega
                        · obtain rfl : n = j := by omega
                          clear hti
                          go_wp2
                          go_ret
                          exact ⟨rfl, hbe⟩
    · have hgv : gd n X n = false := by simpa using hg
      have CF : Hid (Calls Try.prog 12 #[.pointer (some ⟨b, 0, none⟩), .string aA, .string aB, .int .i64 k, .slice ao n cp] w2 fun e w' => e = .returned (.iface 48 (.int .i64 1)) ∧ w' = w2) := Lib.hid (by
        by_cases h4 : 4 < n
        · exact fate_many b aA aB k ao n cp w2 (by omega) h4
        · refine fate_bad b aA aB k w2 (HX.out.below hC2.be (Nat.le_refl _)) (by omega) (by omega) ?_
          unfold gd at hgv
          rw [decide_eq_true (by omega), Bool.true_and] at hgv
          exact hgv)
      have HBX := Lib.hid hC2.be
      clear hC2 hg
      go_wp2_with fail
      refine CF.out.mono ?_
      rintro e w3 ⟨rfl, hw3⟩
      obtain rfl : w2 = w3 := hw3.symm
      clear CF
      go_wp2_with fail
      go_loopw [12, 11] (fun v g wr => ∃ j : Nat, j ≤ n ∧ v = .int .i64 j ∧ g = .bool (gd n X j) ∧ wr = w2) (fun v _ _ => n - (intOf v).toNat)
      case atStart => exact ⟨0, Nat.zero_le _, rfl, rfl, rfl⟩
      case round =>
        obtain ⟨j, hj, rfl, rfl, rfl⟩ := hrel
        have HG := Lib.hid (gd_succ n X j)
        by_cases hlt : j < n
        · cases hgj : gd n X j
          · rw [hgj] at HG
            go_wp2_with fail
            go_roundw
            case rel => exact ⟨j + 1, by omega, by go_num, by rw [HG.out]; rfl, by first | rfl | trivial⟩
            case measure => simp [intOf]; omega
          · rw [hgj] at HG
            have hXr := HX.out.below HBX.out (Nat.le_refl _)
            obtain rfl := hXr.ao (by omega)
            have a0 := hXr.c j hlt
            clear hXr
            generalize X j = xj at *
            by_cases h1 : 0 ≤ xj
            · have d1 : decide (0 ≤ xj) = true := decide_eq_true h1
              by_cases h2 : xj ≤ 17179869184
              · have d2 : decide (xj ≤ 17179869184) = true := decide_eq_true h2
                have HE := Lib.hid (show (true && !badD xj) = true by unfold badD; simp; omega)
                go_wp2_with fail
                go_roundw
                case rel => exact ⟨j + 1, by omega, by go_num, by rw [HG.out, HE.out], by first | rfl | trivial⟩
                case measure => simp [intOf]; omega
              · have d2 : decide (xj ≤ 17179869184) = false := decide_eq_false h2
                have HE := Lib.hid (show (true && !badD xj) = false by unfold badD; simp; omega)
                go_wp2_with fail
                go_roundw
                case rel => exact ⟨j + 1, by omega, by go_num, by rw [HG.out, HE.out], by first | rfl | trivial⟩
                case measure => simp [intOf]; omega
            · have d1 : decide (0 ≤ xj) = false := decide_eq_false h1
              have HE := Lib.hid (show (true && !badD xj) = false by unfold badD; simp; omega)
              go_wp2_with fail
              go_roundw
              case rel => exact ⟨j + 1, by omega, by go_num, by rw [HG.out, HE.out], by first | rfl | trivial⟩
              case measure => simp [intOf]; omega
        · obtain rfl : n = j := by omega
          rw [hgv]
          clear HG
          have CI := Lib.hid (is_same 1 (by decide) wr)
          go_wp2_with fail
          refine CI.out.mono ?_
          rintro e w4 ⟨rfl, hw4⟩
          subst hw4
          have hbe := HBX.out
          go_wp2
          go_ret
          exact ⟨rfl, hbe⟩
end Go.Proofs.Ytkhiepjlfbjgdaa

/- topology: the walk of the fixed example. Conditions: none. -/
import Derived.Test.YtpcapmialdmcaaaTpL
namespace Go.Proofs.Ytpcapmialdmcaaa
open Go.RowKit Go.Maps

section
variable {w0 w w' : World} {K : Nat → Prop} {m : Nat} {ts ts' : List ByteArray} {L L' : List TL} {a b : ByteArray}
/-- A Link of which the outcome is known. -/
theorem t_link_to (h : TA w0 K m ts L w) (hp : ∀ x, x ∈ ts ↔ x ∈ ts') {l : Int} {c : Int} (hc : connS ts' L a b l = (L', c)) : Calls Try.prog 19 #[.pointer (some ⟨m, 0, none⟩), .string a, .string b, .int .i64 l] w fun e w' => e = .returned (errV c) ∧ TA w0 K m ts L' w' ∧ SameK K w w' := by
  have := t_link h (a := a) (b := b) l
  rw [connS_congr hp, hc] at this
  exact this
theorem rt_block {l : List ByteArray} (hl : l.length ≤ 1000000) (o : Nat) (h : w.heap[o]? = some (.cells (strs l).toArray 9 (0, 0))) : RT w (.slice (some ⟨o, 0, none⟩) l.length l.length) l :=
  (show IsT w _ l from OL.of_block (cs := strs l) (size := 1) h (by rw [strs_len, Nat.mul_one]) (by unfold maxLen; omega)).rt
set_option maxRecDepth 100000 in
set_option maxHeartbeats 3200000 in
theorem awake_any (w : World) : Calls Try.prog 9 #[] w (AwP w) := by
  have hb0 : Below w.heap.size w (w.alloc (.cells (strs awT).toArray 9)) := by go_grown
  have hS := rt_block (l := awT) (by simp [awT]) _ (heap_alloc_new w (.cells (strs awT).toArray 9))
  have CN := Lib.hid (t_new hS (fun x hx => (aw_okN.2.1 x hx).sz))
  rw [newE_ok aw_okN] at CN
  have HB0 := Lib.hid hb0
  clear hS hb0
  go_enter Try.func9, Try.ntmps9
  go_wp2_with fail
  refine CN.out.mono ?_
  rintro e w1 ⟨hb1, hR⟩
  rw [if_pos trivial] at hR
  obtain ⟨m, ts, rfl, hp, hT⟩ := hR
  have HM : Hid (∀ x, x ∈ ts ↔ x ∈ awT) := Lib.hid fun x => hp.mem_iff
  have HBW : Hid (∀ wx, Below (w.alloc (.cells (strs awT).toArray 9)).heap.size (w.alloc (.cells (strs awT).toArray 9)) wx → Below w.heap.size w wx) := Lib.hid fun wx hb => HB0.out.trans (hb.mono HB0.out.size)
  generalize w.alloc (.cells (strs awT).toArray 9) = wb at *
  have C1 := Lib.hid (t_link_to hT HM.out aw1)
  rw [errV0] at C1
  clear CN hp hT hb1 HB0
  go_wp2_with fail
  refine C1.out.mono ?_
  rintro e w2 ⟨rfl, hT, _⟩
  have C2 := Lib.hid (t_link_to hT HM.out aw2)
  rw [errV0] at C2
  clear C1 hT
  go_wp2_with fail
  refine C2.out.mono ?_
  rintro e w3 ⟨rfl, hT, _⟩
  have C3 := Lib.hid (t_link_to hT HM.out aw3)
  rw [errV0] at C3
  clear C2 hT
  go_wp2_with fail
  refine C3.out.mono ?_
  rintro e w4 ⟨rfl, hT, _⟩
  have C4 := Lib.hid (t_route (a := sA) (b := sC) hT 0)
  clear C3 hT
  go_wp2_with fail
  refine C4.out.mono ?_
  rintro e w5 ⟨v, r, code, rfl, hRT, hRR, hT, _⟩
  obtain ⟨rfl, rfl⟩ := aw_route (hRR.congr HM.out)
  have hal : Below w5.heap.size w5 (w5.alloc (.cells (strs awT).toArray 9)) := by go_grown
  have CT := Lib.hid (texts_any (hRT.belowS hal) (rt_block (l := awT) (by simp [awT]) _ (heap_alloc_new w5 (.cells (strs awT).toArray 9))))
  have HBX := Lib.hid (HBW.out _ (hT.be.trans (hal.mono hT.be.size)))
  obtain ⟨vao, vcp, rfl, _⟩ := hRT
  rw [errV0]
  clear C4 hT hRR hal
  go_wp2_with fail
  refine CT.out.mono ?_
  rintro e w6 ⟨x, rfl, hx, hb6⟩
  obtain rfl : x = true := hx.2 rfl
  have HP : Hid (AwP w (.returned (.bool true)) w6) := Lib.hid ⟨rfl, HBX.out.trans (hb6.mono HBX.out.size)⟩
  clear hb6 CT hx
  go_wp2
  go_ret
  exact HP.out
end
/-- Texts of the statement Flaps. -/
def sX : ByteArray := ⟨#[120]⟩
def sY : ByteArray := ⟨#[121]⟩
def sZ : ByteArray := ⟨#[122]⟩
def flT : List ByteArray := [sX, sY, sZ]
def flL (l : Int) (cs : List (Int × Int)) : List TL := [⟨sX, sY, l, cs⟩]
theorem fl_okN : okN flT := ⟨by simp [flT], fun x hx => by
  simp [flT] at hx
  rcases hx with rfl | rfl | rfl
  · exact townP_one (.inr (.inr (.inr (by decide))))
  · exact townP_one (.inr (.inr (.inr (by decide))))
  · exact townP_one (.inr (.inr (.inr (by decide)))), by decide⟩
theorem sXY : sX ≠ sY := by decide
theorem sXZ : sX ≠ sZ := by decide
theorem fl_fnd (l : Int) (cs : List (Int × Int)) : fnd (flL l cs) sX sY = some 0 ∧ fnd (flL l cs) sY sX = some 0 ∧ fnd (flL l cs) sX sZ = none ∧ fnd (flL l cs) sZ sX = none ∧ fnd (flL l cs) sY sZ = none ∧ fnd (flL l cs) sZ sY = none := by
  have h : ∀ a b, isL a b ⟨sX, sY, l, cs⟩ = isL a b ⟨sX, sY, 0, []⟩ := fun a b => rfl
  unfold fnd flL
  simp only [List.findIdx?_cons, List.findIdx?_nil, h]
  rw [show isL sX sY ⟨sX, sY, 0, []⟩ = true by kernel_rfl, show isL sY sX ⟨sX, sY, 0, []⟩ = true by kernel_rfl, show isL sX sZ ⟨sX, sY, 0, []⟩ = false by kernel_rfl, show isL sZ sX ⟨sX, sY, 0, []⟩ = false by kernel_rfl, show isL sY sZ ⟨sX, sY, 0, []⟩ = false by kernel_rfl, show isL sZ sY ⟨sX, sY, 0, []⟩ = false by kernel_rfl]
  simp
theorem fl_link : connS flT [] sX sY 3 = (flL 3 [], 0) := by
  rw [connS_new ⟨by simp [flT], by simp [flT], sXY⟩ (by omega) rfl]
  kernel_rfl
theorem fl_again (cs : List (Int × Int)) : connS flT (flL 3 cs) sY sX 4 = (flL 4 cs, 0) := by
  rw [connS_old ⟨by simp [flT], by simp [flT], fun e => sXY e.symm⟩ (by omega) (fl_fnd 3 cs).2.1]
  rfl
theorem fl_down (l : Int) (cs : List (Int × Int)) (f t : Int) : downS (flL l cs) sX sY f t = (if t < f then (flL l cs, 7) else (flL l (cs ++ [(clipT f, clipT t)]), 0)) ∧ downS (flL l cs) sY sX f t = (if t < f then (flL l cs, 7) else (flL l (cs ++ [(clipT f, clipT t)]), 0)) := by
  unfold downS
  rw [(fl_fnd l cs).1, (fl_fnd l cs).2.1]
  exact ⟨rfl, rfl⟩
theorem fl_up (l : Int) (cs : List (Int × Int)) (t : Int) : upT (flL l cs) sX sY t = (cs.all fun c => !(decide (c.1 ≤ clipT t) && decide (clipT t < c.2))) ∧ upT (flL l cs) sY sX t = (cs.all fun c => !(decide (c.1 ≤ clipT t) && decide (clipT t < c.2))) ∧ upT (flL l cs) sX sZ t = false := by
  unfold upT
  rw [(fl_fnd l cs).1, (fl_fnd l cs).2.1, (fl_fnd l cs).2.2.1]
  exact ⟨rfl, rfl, rfl⟩
theorem fl_none (l : Int) (cs : List (Int × Int)) (f t : Int) : downS (flL l cs) sX sZ f t = (flL l cs, 3) := by
  unfold downS
  rw [(fl_fnd l cs).2.2.1]
theorem fl_lat {l : Int} {cs : List (Int × Int)} {t : Int} {i k : ByteArray} {q : Int} (h : lat (flL l cs) t i k = some q) : q = l ∧ upT (flL l cs) sX sY t = true := by
  unfold lat at h
  cases hf : fnd (flL l cs) i k with
  | none => rw [hf] at h; cases h
  | some j =>
    have hj : j < 1 := (fnd_some hf).1
    obtain rfl : j = 0 := by omega
    rw [hf] at h
    have h1 : (if upL (lk (flL l cs) 0) (clipT t) = true then some (lk (flL l cs) 0).lat else none) = some q := h
    by_cases hu : upL (lk (flL l cs) 0) (clipT t) = true
    · rw [if_pos hu] at h1
      exact ⟨(Option.some.inj h1).symm, by unfold upT; rw [(fl_fnd l cs).1]; exact hu⟩
    · rw [if_neg hu] at h1; cases h1
theorem fl_route {cs : List (Int × Int)} {t code : Int} {r : Rt} (h : RouteR flT (flL 4 cs) t sX sY code r) : (upT (flL 4 cs) sX sY t = true → code = 0 ∧ r.2 = 4) ∧ (upT (flL 4 cs) sX sY t = false → code = 3) := by
  rcases h with ⟨h1, _⟩ | ⟨h1, ⟨h2, h3⟩ | ⟨h2, h3, h4⟩⟩
  · exact absurd ⟨by simp [flT], by simp [flT]⟩ h1
  · have key : ∀ {s : ByteArray} {p : Rt}, Pth (lat (flL 4 cs) t) (· ∈ flT) sX s p → s = sY → upT (flL 4 cs) sX sY t = true ∧ 4 ≤ p.2 := fun {s p} hp hs => by
      cases hp with
      | one _ => exact absurd hs sXY
      | @snoc i r k l hp he hv =>
        obtain ⟨rfl, hu⟩ := fl_lat he
        have N : ∀ {s p}, Pth (lat (flL 4 cs) t) (· ∈ flT) sX s p → 0 ≤ p.2 := fun {s p} hp => by
          induction hp with
          | one _ => exact Int.le_refl _
          | @snoc i r k l hp he hv ih =>
            have := (fl_lat he).1
            show 0 ≤ r.2 + l
            omega
        have := N hp
        exact ⟨hu, by show 4 ≤ r.2 + 4; omega⟩
    obtain ⟨k1, k2⟩ := key h3.1 rfl
    refine ⟨fun hu => ⟨h2, ?_⟩, fun hu => by rw [k1] at hu; cases hu⟩
    obtain ⟨i, hi, hl⟩ := upT_some hu
    rw [(fl_fnd 4 cs).1] at hi
    obtain rfl := Option.some.inj hi
    have hp : Pth (lat (flL 4 cs) t) (· ∈ flT) sX sY (gone ([sX], 0) sY 4) := .snoc (.one (by simp [flT])) hl (by simp [flT])
    have h5 : r.2 ≤ (gone ([sX], 0) sY 4).2 := lee_sum (h3.2 _ hp)
    have h6 : (gone ([sX], 0) sY 4).2 = 4 := rfl
    omega
  · refine ⟨fun hu => ?_, fun _ => h2⟩
    obtain ⟨i, hi, hl⟩ := upT_some hu
    exact absurd (.snoc (.one (by simp [flT])) hl (by simp [flT])) (h4 (gone ([sX], 0) sY (lk (flL 4 cs) i).lat))
end Go.Proofs.Ytpcapmialdmcaaa

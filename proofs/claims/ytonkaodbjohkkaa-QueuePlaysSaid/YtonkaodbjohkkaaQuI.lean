/- queue: Touch; the eviction in plain words. Conditions: the lists are short. -/
import Derived.Test.YtonkaodbjohkkaaQuH
namespace Go.Proofs.Ytonkaodbjohkkaa
open Go.RowKit

def TouchS (s : QS) (k : ByteArray) : QS := match idxN s.f k with
  | some i => { s with f := s.f.getD i dIt :: remL s.f k }
  | none => s
section
variable {w w' : World} {b c : Nat} {s : QS} {vr vf vg : Value} {P : Nat → Prop}
theorem QUp.rebase {Al : Nat → Prop} {w2 : World} (hb : Below w.heap.size w w2) (h : QUp Al b s w2 w') (hA : ∀ k, Al k → P k) : QUp P b s w w' := by
  obtain ⟨vr, vf, vg, h, ha, ho⟩ := h
  exact ⟨vr, vf, vg, h, fun k hk => (ha k hk).imp (hA k) (fun h => Nat.le_trans hb.size h), (Only.of_below hb (S := P) fun k h1 h2 => by omega).trans (ho.mono hA) (fun _ _ h => h)⟩
theorem remL_len (l : List It) (k : ByteArray) : (remL l k).length ≤ l.length := by
  unfold remL
  cases idxN l k with
  | none => exact Nat.le_refl _
  | some i => exact List.length_eraseIdx_le ..
set_option maxRecDepth 100000 in
set_option maxHeartbeats 800000 in
theorem q_touch (h : QIs w P b s) (hl : s.f.length ≤ 100000) (k : ByteArray) : Calls Try.prog 17 #[.pointer (some ⟨b, 0, none⟩), .string k] w (QPost P b (.bool (hasL s.f k || hasL s.r k)) (TouchS s k) w) := by
  obtain ⟨vr, vf, vg, h, ha⟩ := h.bound
  obtain ⟨⟨ar, cr, hr⟩, ⟨af, cf, hf⟩, _⟩ := h.forms
  have c2 := has_cell h.c 2
  have CF := Lib.hid (index_any (k := k) h.f)
  have HQ := Lib.hid (And.intro h ha)
  unfold idxI at CF
  unfold TouchS
  cases hi : idxN s.f k with
  | none =>
    have e0 : hasL s.f k = false := by unfold hasL; rw [hi]; rfl
    rw [hi] at CF
    rw [e0]
    have CR := Lib.hid (fun (w1 : World) (hb : Below w.heap.size w w1) => index_b (h.belowS hb).r k)
    have HC := Lib.hid (fun (w1 : World) (hb : Below w.heap.size w w1) => has_cell (h.belowS hb).c 1)
    subst hr hf
    clear h ha hi e0
    simp only [Bool.false_or] at *
    go_enter Try.func17, Try.ntmps17
    go_wp2_with fail
    refine CF.out.mono ?_
    rintro e w1 ⟨rfl, hb1⟩
    have c1 := HC.out w1 hb1
    have CR1 := Lib.hid (CR.out w1 hb1)
    clear CF CR HC c2
    go_wp2_with fail
    refine CR1.out.mono ?_
    rintro e w2 ⟨z, rfl, hz, hb2⟩
    have HZ := Lib.hid hz
    have HU := Lib.hid ((QIs.up (P := P) ⟨_, _, _, HQ.out.1, fun k hk => (HQ.out.2 k hk).1⟩).below (hb1.trans (hb2.mono hb1.size)))
    clear hz CR1
    go_wp2
    go_ret
    exact ⟨by rw [← HZ.out]; rfl, HU.out⟩
  | some i =>
    have e0 : hasL s.f k = true := by unfold hasL; rw [hi]; rfl
    have hj := idxN_lt hi
    rw [hi] at CF
    rw [e0]
    obtain ⟨_, _, _, hff, _⟩ := h.f.form
    subst hr hf
    obtain ⟨g, off, rfl, hgl⟩ : ∃ g off, af = some ⟨g, off, none⟩ ∧ g < w.heap.size := by
      obtain ⟨ao, cp, e, he, _⟩ := h.f.form
      simp only [Value.slice.injEq, true_and] at e
      obtain ⟨rfl, rfl⟩ := e
      exact he (by omega)
    obtain ⟨q0, q1⟩ := itCells_get s.f i hj
    have e1 : s.f[i] = s.f.getD i dIt := by simp [List.getD, hj]
    rw [e1] at q0 q1
    have a0 := (OL.cell h.f (i * 2) (by omega)).trans q0
    have a1 := (OL.cell h.f (i * 2 + 1) (by omega)).trans q1
    rw [← Nat.add_assoc] at a1
    have hji : (i : Int) < (s.f.length : Int) := by omega
    clear h ha hi e0 hff q0 q1 e1
    generalize hgx : s.f.getD i dIt = x at a0 a1 ⊢
    have HGX := Lib.hid hgx
    clear hgx
    simp only [Bool.true_or] at *
    go_enter Try.func17, Try.ntmps17
    go_wp2_with fail
    refine CF.out.mono ?_
    rintro e w1 ⟨rfl, hb1⟩
    have c2' := has_cell (HQ.out.1.belowS hb1).c 2
    have a0' := (hb1.cell (p := ⟨g, off + i * 2, none⟩) hgl).trans a0
    have a1' := (hb1.cell (p := ⟨g, off + i * 2 + 1, none⟩) hgl).trans a1
    have hbx : Below w1.heap.size w1 (w1.alloc (.cells #[.string x.1, .int .i64 x.2] 65)) := by go_grown
    have HB := Lib.hid (hb1.trans (hbx.mono hb1.size))
    have hxn := heap_alloc_new w1 (.cells #[.string x.1, .int .i64 x.2] 65)
    have HX := Lib.hid hxn
    have hxl : w1.heap.size < (w1.alloc (.cells #[.string x.1, .int .i64 x.2] 65)).heap.size := lt_of_block hxn
    have HS1 := Lib.hid hb1.size
    clear CF c2 a0 a1 hb1 hbx hxn
    go_upto_region 6 with fail
    have h2 := HQ.out.1.belowS HB.out
    have CR := Lib.hid (remove_any h2.in2 k)
    have HF : Hid (∀ e w', RemP b 2 _ _ s.f k _ e w' → QUp (fun k => P k ∧ k < w.heap.size) b { s with f := remL s.f k } (w1.alloc (.cells #[.string x.1, .int .i64 x.2] 65)) w') := Lib.hid (fun e w' he => QUp.chg2 h2 (fun j hj => .inl (HQ.out.2 j hj)) (Only.refl _ _) he.2)
    have HX2 : Hid (∀ e w', RemP b 2 #[.int .i64 s.cap, .slice ar s.r.length cr, .slice (some ⟨g, off, none⟩) s.f.length cf, vg] (.slice (some ⟨g, off, none⟩) s.f.length cf) s.f k (w1.alloc (.cells #[.string x.1, .int .i64 x.2] 65)) e w' → w'.heap[w1.heap.size]? = some (.cells #[.string x.1, .int .i64 x.2] 65 (0, 0))) := Lib.hid (fun e w' he => by
      obtain ⟨_, v', _, _, _, ho⟩ := he
      refine (ho.block _ hxl (fun e => ?_)).trans HX.out
      have hbl := HQ.out.1.lt (.inl rfl)
      have := HS1.out
      rcases e with e | e
      · omega
      · have e2 : g = w1.heap.size := Option.some.inj e
        omega)
    clear h2 c2' a0' a1'
    have hxl2 := hxl
    clear hxl
    generalize w1.alloc (.cells #[.string x.1, .int .i64 x.2] 65) = w2 at *
    go_wp2_with fail
    refine CR.out.mono ?_
    intro e w3 he
    have hq := HF.out e w3 he
    have hx3 := HX2.out e w3 he
    obtain ⟨rfl, _⟩ := he
    obtain ⟨vr3, vf3, vg3, h3, ha3, ho3⟩ := hq
    have CP := Lib.hid (push_any (x := x) ((h3.belowS (below_drew _ _)).in2) (by have := remL_len s.f k; show (remL s.f k).length ≤ _; omega))
    have HP : Hid (∀ e w', PushP b 2 #[.int .i64 s.cap, vr3, vf3, vg3] vf3 (remL s.f k) x w3.drew e w' → e = .returned (.tuple #[]) ∧ QUp (fun k => P k ∧ k < w.heap.size) b { s with f := x :: remL s.f k } w2 w' ∧ w'.heap[w1.heap.size]? = some (.cells #[.string x.1, .int .i64 x.2] 65 (0, 0))) := Lib.hid (fun e w' he => ⟨he.1, QUp.chg2 (s := { s with f := remL s.f k }) (h3.belowS (below_drew _ _)) ha3 ho3.drew he.2, by
      obtain ⟨_, v', _, _, _, ho⟩ := he
      refine (ho.block _ (lt_of_block hx3) (fun e => ?_)).trans hx3
      have hbl := HQ.out.1.lt (.inl rfl)
      have := HS1.out
      rcases e with e | e
      · omega
      · rcases ha3 _ (.inr (.inr (.inl e))) with h | h <;> omega⟩)
    have x0 := has_cell hx3 0
    have x1 := has_cell hx3 1
    clear h3 ha3 ho3 CR HF HX2 hx3
    go_wp2_with fail
    go_region_held3 (fun w' => w'.cell? ⟨w1.heap.size, 0, none⟩ = some (.string x.1) ∧ w'.cell? ⟨w1.heap.size, 1, none⟩ = some (.int .i64 x.2)) (go_keep)
      ((go_at_call 30; refine CP.out.mono ?_; intro e w4 he; obtain ⟨rfl, hq4, hx4⟩ := HP.out e w4 he; have x0 := has_cell hx4 0; have x1 := has_cell hx4 1))
    clear CP HP x0 x1 hx4
    go_wp2
    go_ret
    exact ⟨rfl, by rw [HGX.out]; exact hq4.rebase HB.out (fun k hk => hk.1)⟩
end
end Go.Proofs.Ytonkaodbjohkkaa

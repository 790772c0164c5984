/- admission: price and find. Conditions: the admission lies in memory as 'AdAt' says. -/
import Derived.Test.YtmdajndmobpgbaaZAdMath
import Derived.Lib.MinMax
namespace Go.Proofs.Ytmdajndmobpgbaa
open Go.RowKit
open Go.Proofs.Ytmdajndmobpgbaa.Fq
open Go.Proofs.Ytmdajndmobpgbaa.Bk

/-- What may become of the blocks of an admission. -/
def AStep (b : Nat) (m : AM) (w : World) (m' : AM) (w' : World) : Prop := (∀ k, Fa b m' k → Fa b m k ∨ w.heap.size ≤ k) ∧ Only (Fa b m) w w'
/-- What a call leaves of an admission. -/
def AUp (b : Nat) (m : AM) (w : World) (s' : AS) (w' : World) : Prop := ∃ m', AdAt w' b m' s' ∧ AStep b m w m' w'
section
variable {w w' w1 w2 : World} {b : Nat} {m m1 m2 : AM} {s s' s2 : AS}
theorem AStep.refl (b : Nat) (m : AM) (w : World) : AStep b m w m w := ⟨fun _ hk => .inl hk, Only.refl _ _⟩
theorem AStep.of_below (h : Below w.heap.size w w1) : AStep b m w m w1 := ⟨fun _ hk => .inl hk, Only.of_below h fun k h1 h2 => by omega⟩
theorem AStep.trans (h : AStep b m w m1 w1) (h2 : AStep b m1 w1 m2 w2) : AStep b m w m2 w2 := by
  obtain ⟨f1, o1⟩ := h
  obtain ⟨f2, o2⟩ := h2
  have hs := o1.size
  refine ⟨fun k hk => ?_, o1.trans o2 fun k hk h => (f1 k h).elim id fun h => by omega⟩
  rcases f2 k hk with h | h
  · exact f1 k h
  · exact .inr (by omega)
theorem AStep.below (h : AStep b m w m1 w1) (hb : Below w1.heap.size w1 w2) : AStep b m w m1 w2 := h.trans (AStep.of_below hb)
theorem AdAt.up (h : AdAt w b m s) : AUp b m w s w := ⟨m, h, AStep.refl _ _ _⟩
theorem AUp.below (h : AUp b m w s' w1) (hb : Below w1.heap.size w1 w2) : AUp b m w s' w2 := by
  obtain ⟨m', h1, h2⟩ := h
  exact ⟨m', h1.belowS hb, h2.below hb⟩
theorem AdAt.upd (h : AdAt w b m s) {f' : FQ} (hm : f'.m = s.f.m) (hu : Upd m.bf m.fbq m.fcq m.fbd m.fcd m.fxt m.fbl m.fvals f' w w') : ∃ fv, AdAt w' b (m.setF fv) (s.setF f') ∧ AStep b m w (m.setF fv) w' := by
  obtain ⟨fv, hA, hfp, ho⟩ := hu
  exact ⟨fv, h.fair hA hm ho hfp, AdAt.fair_fa hfp, ho.mono fun k hk => .inr (.inr (.inr (.inr (.inr (.inr (.inr hk))))))⟩
theorem AdAt.row_step (h : AdAt w b m s) {t : Nat} (ht : t < s.m) {v' : Value} (hg : w.grownBy w1 (qv m.vals t).ownBlock) (hown : ∀ g, v'.ownBlock = some g → (qv m.vals t).ownBlock = some g ∨ w.heap.size ≤ g) : AStep b m w (m.setV t v') (w1.setCell ⟨m.bl, t, none⟩ v') :=
  ⟨h.row_fa ht hown, ((Only.refl _ _).grown hg fun k hk => .inl (.inr (.inr (.inr (.inr (.inr (.inl ⟨t, hk⟩))))))).setCell (.inl (.inr (.inr (.inr (.inr (.inl rfl)))))) _⟩
theorem AdAt.runs_step {v' : Value} (hg : w.grownBy w1 m.vr.ownBlock) (hown : ∀ g, v'.ownBlock = some g → m.vr.ownBlock = some g ∨ w.heap.size ≤ g) : AStep b m w (m.setR v') (w1.setCell ⟨b, 5, none⟩ v') :=
  ⟨AdAt.runs_fa hown, ((Only.refl _ _).grown hg fun k hk => .inl (.inr (.inr (.inr (.inr (.inr (.inr (.inl hk)))))))).setCell (.inl (.inl rfl)) _⟩
theorem AdAt.buck_step (h : AdAt w b m s) {t : Nat} (ht : t < s.m) (hg : w.grownBy w' (some (m.bkb.getD t 0))) : AStep b m w m w' :=
  ⟨fun _ hk => .inl hk, (Only.refl _ _).grown hg fun k hk => by obtain rfl := Option.some.inj hk; exact .inl (.inr (.inr (.inr (.inl (h.bk_in ht)))))⟩
theorem AdAt.cells (h : AdAt w b m s) : w.cell? ⟨b, 0, none⟩ = some m.vs ∧ w.cell? ⟨b, 1, none⟩ = some m.vb ∧ w.cell? ⟨b, 2, none⟩ = some (.int .i64 s.slots) ∧ w.cell? ⟨b, 3, none⟩ = some (.pointer (some ⟨m.bf, 0, none⟩)) ∧ w.cell? ⟨b, 4, none⟩ = some (.slice (some ⟨m.bl, 0, none⟩) s.m s.m) ∧ w.cell? ⟨b, 5, none⟩ = some m.vr :=
  ⟨has_cell h.hb 0, has_cell h.hb 1, has_cell h.hb 2, has_cell h.hb 3, has_cell h.hb 4, has_cell h.hb 5⟩
theorem AdAt.cq (h : AdAt w b m s) {t : Nat} (ht : t < s.m) : w.cell? ⟨m.bl, t, none⟩ = some (qv m.vals t) := by
  rw [has_cell h.hl t, List.getElem?_toArray]
  simp [qv, List.getD, h.lv, ht]
theorem shr_at (s : AS) {t : Nat} (ht : t < s.m) : s.sh[t]'ht = s.shr t := by
  unfold AS.shr
  rw [List.getD_eq_getElem?_getD, List.getElem?_eq_getElem ht]
  rfl
set_option maxRecDepth 100000 in
set_option maxHeartbeats 800000 in
theorem price_any (h : AdAt w b m s) {t : Nat} (ht : t < s.m) (hm : s.m ≤ 16) {en : Ent} {r : List Ent} (hq : s.q t = en :: r) (hl : (s.q t).length ≤ 1000000) :
    Calls Try.prog 44 #[.pointer (some ⟨b, 0, none⟩), .int .i64 t] w fun e w' => e = .returned (.int .i64 (priceOf s t)) ∧ ∃ n, w' = w.drewN n := by
  obtain ⟨c0, _, _, _, c4, _⟩ := h.cells
  have cq := h.cq ht
  have hQ := h.hq t ht
  obtain ⟨gq, oq, kq, hvq, hkq, _, _⟩ := OL.form hQ (by rw [hq]; simp)
  rw [hvq] at cq hQ
  have q1 := (IsQ.at_ hQ (q := 0) (by rw [hq]; simp) rfl).2
  rw [Nat.zero_mul, Nat.add_zero] at q1
  obtain ⟨gs, os, ks, hvs, hks, _, _⟩ := OL.form h.hs (by show 0 < s.m; omega)
  have hS := h.hs
  rw [hvs] at c0 hS
  have s0 := (IsS.at_ hS (q := t) ht rfl).1
  rw [shr_at s ht] at s0
  have HP : Hid (priceOf s t = min en.2 (s.shr t).b) := Lib.hid (by unfold priceOf; rw [hq])
  have e0 : (s.q t)[0]'(by rw [hq]; simp) = en := by simp [hq]
  rw [e0] at q1
  have hl0 : 0 < (s.q t).length := by rw [hq]; simp
  have htI : (t : Int) < (s.m : Int) := by omega
  have ht0 : (0 : Int) ≤ (t : Int) := by omega
  have hlI : (0 : Int) < ((s.q t).length : Int) := by omega
  change w.cell? ⟨b, 0, none⟩ = some (.slice (some ⟨gs, os, none⟩) s.m ks) at c0
  clear hQ hS hvq hvs e0 hq h
  generalize (s.q t).length = nq at *
  generalize (s.shr t).b = sb at *
  obtain ⟨z, hz⟩ : ∃ z, en.2 = z := ⟨_, rfl⟩
  rw [hz] at q1 HP
  clear hz
  go_enter Try.func44, Try.ntmps44
  go_wp2_with fail
  go_quiet (fail)
  go_wp2
  go_ret
  rw [HP.out]
  exact ⟨rfl, _, rfl⟩
/-- Where an id is among the requests. -/
def AFind (s : AS) (id : Int) : Option (Nat × Nat) → Prop
  | none => ∀ t, t < s.m → ∀ e ∈ s.q t, e.1 ≠ id
  | some (t, i) => t < s.m ∧ (∃ e, (s.q t)[i]? = some e ∧ e.1 = id) ∧ (∀ j, j < i → ∀ e', (s.q t)[j]? = some e' → e'.1 ≠ id) ∧ ∀ t', t' < t → ∀ e ∈ s.q t', e.1 ≠ id
def afindV : Option (Nat × Nat) → Value
  | none => .tuple #[.int .i64 (-1), .int .i64 (-1)]
  | some (t, i) => .tuple #[.int .i64 t, .int .i64 i]
def AFindP (s : AS) (id : Int) (w : World) (e : Ending) (w' : World) : Prop := ∃ r, e = .returned (afindV r) ∧ AFind s id r ∧ Below w.heap.size w w'
set_option maxRecDepth 100000 in
set_option maxHeartbeats 800000 in
theorem afind_any (id : Int) (h : AdAt w b m s) (hm : s.m ≤ 16) (hsh : ∀ t, t < s.m → (s.q t).length ≤ 1000000) :
    Calls Try.prog 34 #[.pointer (some ⟨b, 0, none⟩), .int .i64 id] w (AFindP s id w) := by
  have c4 := h.cells.2.2.2.2.1
  have H := Lib.hid h
  have hb0 := has_lt h.hb
  have hbl := has_lt h.hl
  have c4' : (w.alloc (.cells #[.int .i64 id] 3)).cell? ⟨b, 4, none⟩ = some (.slice (some ⟨m.bl, 0, none⟩) s.m s.m) := (World.cell?_of_block (w := w) (a := ⟨b, 4, none⟩) (Below.heap_alloc w _ b hb0)).trans c4
  have HS := Lib.hid hsh
  clear h hsh c4
  go_enter Try.func34, Try.ntmps34
  go_wp2_with fail
  have hB0 : Below w.heap.size w (w.alloc (.cells #[.int .i64 id] 3)) := by go_grown
  have hX : (w.alloc (.cells #[.int .i64 id] 3)).cell? ⟨w.heap.size, 0, none⟩ = some (.int .i64 id) := has_cell (heap_alloc_new w _) 0
  have hsz : w.heap.size < (w.alloc (.cells #[.int .i64 id] 3)).heap.size := by simp
  generalize w.alloc (.cells #[.int .i64 id] 3) = w1 at hB0 hX hsz c4' ⊢
  generalize hbx : w.heap.size = bx at hX hsz ⊢
  have HBX := Lib.hid hbx
  clear hbx
  go_loopw [14] (fun i wr => ∃ (k : Nat), k ≤ s.m ∧ i = .int .i64 k ∧ (∀ t, t < k → ∀ e ∈ s.q t, e.1 ≠ id) ∧ Below w1.heap.size w1 wr) (fun i _ => s.m - (intOf i).toNat)
  case atStart => exact ⟨0, Nat.zero_le _, rfl, by omega, Below.refl _ _⟩
  case round =>
    obtain ⟨k, hk, rfl, hno, hB⟩ := hrel
    have HN := Lib.hid hno
    clear hno
    have hB2 := hB0.trans (hB.mono hB0.size)
    have hW := H.out.belowS hB2
    by_cases hlt : k < s.m
    · have cl := hW.cq hlt
      have hxr := (hB.cell (p := ⟨bx, 0, none⟩) hsz).trans hX
      have CE := Lib.hid (aq_index _ (s.q k) id bx wr (hW.hq k hlt) (HS.out k hlt) hxr)
      have hf := OL.forms (hW.hq k hlt)
      clear hW
      have hv : ∃ ao n' cap', qv m.vals k = .slice ao n' cap' := by
        rcases hf with ⟨hv, _⟩ | ⟨g, off, cap, hv, _⟩
        · exact ⟨_, _, _, hv⟩
        · exact ⟨_, _, _, hv⟩
      obtain ⟨ao, n', cap', hv⟩ := hv
      rw [hv] at cl CE
      clear hv hf
      go_wp2_with fail
      refine CE.out.mono ?_
      rintro e w' ⟨r, rfl, hr, hb'⟩
      rcases hr with ⟨rfl, hnone⟩ | ⟨i, en, rfl, hi1, hi2, hi3⟩
      · have HNO := Lib.hid hnone
        clear hnone
        go_wp2
        go_roundw
        case rel => exact ⟨k + 1, by omega, by go_num, fun t ht => by
          by_cases htk : t = k
          · rw [htk]; exact HNO.out
          · exact HN.out t (by omega), hB.trans (hb'.mono hB.size)⟩
        case measure => simp [intOf]; omega
      · have HI := Lib.hid (And.intro hi1 (And.intro hi2 hi3))
        clear hi1 hi2 hi3
        go_wp2
        go_ret2
        exact ⟨some (k, i), rfl, ⟨hlt, ⟨en, HI.out.1, HI.out.2.1⟩, HI.out.2.2, HN.out⟩, hB2.trans (hb'.mono hB2.size)⟩
    · obtain rfl : k = s.m := by omega
      go_wp2
      go_ret2
      exact ⟨none, rfl, HN.out, hB2⟩
end
end Go.Proofs.Ytmdajndmobpgbaa

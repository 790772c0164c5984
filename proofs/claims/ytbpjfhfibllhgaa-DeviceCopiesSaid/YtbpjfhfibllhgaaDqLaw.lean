/- The device's contracts as the statements use them: a device that lies in blocks of P. Conditions: each contract names its own. -/
import Derived.Test.YtbpjfhfibllhgaaDqI
namespace Go.Proofs.Ytbpjfhfibllhgaa
open Go.RowKit
open Go.Proofs.Ytbpjfhfibllhgaa.Dv
variable {Qp : Nat → Prop}

/-- Blocks outside P and blocks of bytes are as they were. -/
structure Stay (P : Nat → Prop) (w w' : World) : Prop where
  on : Only P w w'
  by_ : Byt w w'
def grow (P : Nat → Prop) (w : World) (k : Nat) : Prop := P k ∨ w.heap.size ≤ k
/-- The device s lies at block b, all of it but its bytes in blocks of P. -/
def DS (Qp : Nat → Prop) (w : World) (P : Nat → Prop) (b n p : Nat) (s : Dev) : Prop := ∃ vd ds vn ns vp ps, DevAt Qp w b vd ds vn ns vp ps s ∧ Gd n p s ∧ ∀ k, Al b vd ds vn ns vp k → P k
section
variable {w w1 w' : World} {P Q : Nat → Prop} {b n p : Nat} {s s' : Dev}
theorem Stay.of_below (h : Below w.heap.size w w') : Stay P w w' := ⟨only_below h, Byt.of_below h⟩
theorem Stay.refl (w : World) : Stay P w w := Stay.of_below (Below.refl _ _)
theorem Stay.trans (h : Stay P w w1) (h' : Stay (grow P w) w1 w') : Stay P w w' := ⟨h.on.trans h'.on fun k hk hs => hs.elim id (fun h => by omega), h.by_.trans h'.by_⟩
theorem Stay.trans' (h : Stay P w w1) (h' : Stay P w1 w') : Stay P w w' := ⟨h.on.trans h'.on fun _ _ hs => hs, h.by_.trans h'.by_⟩
theorem Stay.mono (h : Stay P w w') (hP : ∀ k, P k → Q k) : Stay Q w w' := ⟨h.on.mono hP, h.by_⟩
theorem Stay.below {B : Nat} (h : Stay (B ≤ ·) w w') (hB : B ≤ w.heap.size) : Below B w w' := h.on.below hB (fun _ h => h)
theorem DS.mono (h : DS Qp w P b n p s) (hP : ∀ k, P k → Q k) : DS Qp w Q b n p s := by
  obtain ⟨vd, ds, vn, ns, vp, ps, hD, g, hA⟩ := h
  exact ⟨vd, ds, vn, ns, vp, ps, hD, g, fun k hk => hP k (hA k hk)⟩
theorem DS.gd (h : DS Qp w P b n p s) : Gd n p s := by obtain ⟨_, _, _, _, _, _, _, g, _⟩ := h; exact g
theorem DS.belowS (h : DS Qp w P b n p s) (hb : Below w.heap.size w w') : DS Qp w' P b n p s := by
  obtain ⟨vd, ds, vn, ns, vp, ps, hD, g, hA⟩ := h
  exact ⟨vd, ds, vn, ns, vp, ps, hD.belowS hb, g, hA⟩
/-- Another device's call leaves it. -/
theorem DS.apart (h : DS Qp w P b n p s) (hs : Stay Q w w') (hd : ∀ k, P k → ¬ Q k) : DS Qp w' P b n p s := by
  obtain ⟨vd, ds, vn, ns, vp, ps, hD, g, hA⟩ := h
  exact ⟨vd, ds, vn, ns, vp, ps, hD.same hs.by_ fun k hk => hs.on.block k (hD.al_lt k hk) (hd k (hA k hk)), g, hA⟩
theorem DS.lt (h : DS Qp w P b n p s) : b < w.heap.size ∧ P b := by
  obtain ⟨vd, ds, vn, ns, vp, ps, hD, g, hA⟩ := h
  exact ⟨has_lt hD.hb, hA b (.inl (.inl rfl))⟩
theorem DS.of_up {vd : Value} {ds : List Value} {vn : Value} {ns : List Value} {vp : Value} (hA : ∀ k, Al b vd ds vn ns vp k → P k) (h : DUp Qp b vd ds vn ns vp s' w w') (g : Gd n p s') : DS Qp w' (grow P w) b n p s' ∧ Stay P w w' := by
  obtain ⟨vd', ds', vn', ns', vp', ps', hD, hA', hO, hB⟩ := h
  exact ⟨⟨vd', ds', vn', ns', vp', ps', hD, g, fun k hk => (hA' k hk).imp (hA k) id⟩, ⟨hO.mono hA, hB⟩⟩
/-- What a call leaves that returns v. -/
def DPost (Qp : Nat → Prop) (P : Nat → Prop) (b n p : Nat) (v : Value) (s' : Dev) (w : World) (e : Ending) (w' : World) : Prop := e = .returned v ∧ DS Qp w' (grow P w) b n p s' ∧ Stay P w w'
theorem DPost.quiet {v : Value} (h : DS Qp w P b n p s) (hb : Below w.heap.size w w') {e : Ending} (he : e = .returned v) : DPost Qp P b n p v s w e w' := ⟨he, (h.belowS hb).mono fun _ => .inl, Stay.of_below hb⟩
theorem pageE_cases (n p : Nat) (i k : Int) : (pageE n p i k = 1 ∧ ¬ ((0 ≤ i ∧ i < n) ∧ (0 ≤ k ∧ k < p))) ∨ (pageE n p i k = 0 ∧ (0 ≤ i ∧ i < n) ∧ (0 ≤ k ∧ k < p)) := by
  unfold pageE
  by_cases h : (0 ≤ i ∧ i < n) ∧ (0 ≤ k ∧ k < p)
  · exact .inr ⟨if_pos h, h⟩
  · exact .inl ⟨if_neg h, h⟩
theorem progS_of (s : Dev) (i k : Int) (l : List Int) {x : Int} (h : progE n p s i k l.length = x) (h11 : x ≠ 11) (h0 : x ≠ 0) : progS n p s i k l = s := by
  unfold progS; rw [h, if_neg h11, if_neg h0]
theorem d_prog {ao : Option Addr} {cap : Nat} {l : List Int} (i k : Int) (h : DS Qp w P b n p s) (hpl : s.pending.length ≤ 1000000) (hd : ∀ w', Stay P w w' → BySrc w' (.slice ao l.length cap) l) (hQ : ∀ k, w.heap.size ≤ k → Qp k) :
    Calls Try.prog 13 #[.pointer (some ⟨b, 0, none⟩), .int .i64 i, .int .i64 k, .slice ao l.length cap] w (DPost Qp P b n p (errV (progE n p s i k l.length)) (progS n p s i k l) w) := by
  have h' := h
  obtain ⟨vd, ds, vn, ns, vp, ps, hD, g, hA⟩ := h
  have bad : ∀ x, progE n p s i k l.length = x → x ≠ 11 → x ≠ 0 → ∀ e w', ErrP x w e w' → DPost Qp P b n p (errV (progE n p s i k l.length)) (progS n p s i k l) w e w' := fun x hx h11 h0 e w' ⟨he, hb⟩ => by
    rw [progS_of s i k l hx h11 h0, hx]
    exact DPost.quiet h' hb he
  rcases pageE_cases n p i k with ⟨hp, _⟩ | ⟨hp, hi, hk⟩
  · exact (prog_range hD g (.slice ao l.length cap) hp).mono (bad 1 (by unfold progE; rw [if_pos hp]) (by decide) (by decide))
  · by_cases h5 : 512 < l.length
    · exact (prog_large hD g hp h5).mono (bad 5 (by unfold progE; rw [if_neg (by rw [hp]; decide), if_pos h5]) (by decide) (by decide))
    · obtain ⟨i, rfl⟩ := Int.eq_ofNat_of_zero_le hi.1
      by_cases h6 : (pgN (s.blk i) : Int) = k
      · obtain rfl : k = (pgN (s.blk i) : Nat) := h6.symm
        have hk' : pgN (s.blk i) < p := by omega
        cases hpw : s.pow.2
        · have hE : progE n p s i (pgN (s.blk i) : Nat) l.length = 11 := by unfold progE; rw [if_neg (by rw [hp]; decide), if_neg h5, Int.toNat_natCast, if_neg (by simp), if_pos hpw]
          have hS : progS n p s i (pgN (s.blk i) : Nat) l = s.pow.1 := by unfold progS; rw [if_pos hE]
          rw [hE, hS]
          refine (prog_down hD g (by omega) hk' (by omega) rfl hpw).mono ?_
          rintro e w' ⟨he, hu⟩
          exact ⟨he, DS.of_up hA hu g.pow⟩
        · have hE : progE n p s i (pgN (s.blk i) : Nat) l.length = 0 := by unfold progE; rw [if_neg (by rw [hp]; decide), if_neg h5, Int.toNat_natCast, if_neg (by simp), if_neg (by rw [hpw]; decide)]
          have hS : progS n p s i (pgN (s.blk i) : Nat) l = s.pow.1.prog i (pgN (s.blk i)) l := by unfold progS; rw [if_neg (by rw [hE]; decide), if_pos hE]; simp
          rw [hE, hS]
          refine (prog_ok hD g (by omega) hk' (by omega) rfl hpw hpl (fun w' ho hb => hd w' ⟨ho.mono hA, hb⟩) hQ).mono ?_
          rintro e w' ⟨he, hu⟩
          exact ⟨he, DS.of_up hA hu (g.pow.prog (by omega) hk' l)⟩
      · exact (prog_state hD g (by omega) hk (by omega) h6).mono (bad 6 (by unfold progE; rw [if_neg (by rw [hp]; decide), if_neg h5, Int.toNat_natCast, if_pos h6]) (by decide) (by decide))
def eraseE (n : Nat) (s : Dev) (i : Int) : Int := if ¬ (0 ≤ i ∧ i < n) then 1 else if s.pow.2 = false then 11 else 0
def eraseS (n : Nat) (s : Dev) (i : Int) : Dev := if ¬ (0 ≤ i ∧ i < n) then s else if s.pow.2 = false then s.pow.1 else s.pow.1.erase i.toNat
theorem d_erase (i : Int) (h : DS Qp w P b n p s) (hpl : s.pending.length ≤ 1000000) :
    Calls Try.prog 18 #[.pointer (some ⟨b, 0, none⟩), .int .i64 i] w (DPost Qp P b n p (errV (eraseE n s i)) (eraseS n s i) w) := by
  have h' := h
  obtain ⟨vd, ds, vn, ns, vp, ps, hD, g, hA⟩ := h
  by_cases hi : 0 ≤ i ∧ i < n
  · obtain ⟨i, rfl⟩ := Int.eq_ofNat_of_zero_le hi.1
    cases hpw : s.pow.2
    · have hE : eraseE n s i = 11 := by unfold eraseE; rw [if_neg (by omega), if_pos hpw]
      have hS : eraseS n s i = s.pow.1 := by unfold eraseS; rw [if_neg (by omega), if_pos hpw]
      rw [hE, hS]
      refine (erase_down hD g (by omega) hpw).mono ?_
      rintro e w' ⟨he, hu⟩
      exact ⟨he, DS.of_up hA hu g.pow⟩
    · have hE : eraseE n s i = 0 := by unfold eraseE; rw [if_neg (by omega), if_neg (by rw [hpw]; decide)]
      have hS : eraseS n s i = s.pow.1.erase i := by unfold eraseS; rw [if_neg (by omega), if_neg (by rw [hpw]; decide)]; simp
      rw [hE, hS]
      refine (erase_ok hD g (by omega) hpw hpl).mono ?_
      rintro e w' ⟨he, hu⟩
      exact ⟨he, DS.of_up hA hu (g.pow.erase (by omega))⟩
  · have hE : eraseE n s i = 1 := if_pos hi
    have hS : eraseS n s i = s := if_pos hi
    rw [hE, hS]
    refine (erase_range hD g hi).mono ?_
    rintro e w' ⟨he, hb⟩
    exact DPost.quiet h' hb he
def syncE (s : Dev) : Int := if s.pow.2 = false then 11 else 0
def syncS (s : Dev) : Dev := if s.pow.2 = false then s.pow.1 else s.pow.1.sync
theorem d_sync (h : DS Qp w P b n p s) : Calls Try.prog 24 #[.pointer (some ⟨b, 0, none⟩)] w (DPost Qp P b n p (errV (syncE s)) (syncS s) w) := by
  obtain ⟨vd, ds, vn, ns, vp, ps, hD, g, hA⟩ := h
  cases hpw : s.pow.2
  · have hE : syncE s = 11 := if_pos hpw
    have hS : syncS s = s.pow.1 := if_pos hpw
    rw [hE, hS]
    refine (sync_down hD g hpw).mono ?_
    rintro e w' ⟨he, hu⟩
    exact ⟨he, DS.of_up hA hu g.pow⟩
  · have hE : syncE s = 0 := if_neg (by rw [hpw]; decide)
    have hS : syncS s = s.pow.1.sync := if_neg (by rw [hpw]; decide)
    rw [hE, hS]
    refine (sync_ok hD g hpw).mono ?_
    rintro e w' ⟨he, hu⟩
    exact ⟨he, DS.of_up hA hu g.pow.sync⟩
theorem d_fail (i : Int) (hi : i ≤ 9223372036854775807) (h : DS Qp w P b n p s) : Calls Try.prog 23 #[.pointer (some ⟨b, 0, none⟩), .int .i64 i] w (DPost Qp P b n p (.tuple #[]) (s.plan i) w) := by
  obtain ⟨vd, ds, vn, ns, vp, ps, hD, g, hA⟩ := h
  refine (fail_any hD i).mono ?_
  rintro e w' ⟨he, hD', ho⟩
  exact ⟨he, ⟨vd, ds, vn, ns, vp, ps, hD', g.plan hi, fun k hk => .inl (hA k hk)⟩, ⟨(only_al ho).mono hA, byt_only hD ho⟩⟩
theorem Dv.Gd.crash (g : Gd n p s) (K : Nat → Int) : Gd n p (s.crash K) := by
  have key : ∀ (os : List Deed) (st : List Blk × List Bool) (j : Nat), st.1.length = n → (∀ i, i < n → (st.1.getD i nilB).pages.length = p) → (crashN K st j os).1.length = n ∧ ∀ i, i < n → ((crashN K st j os).1.getD i nilB).pages.length = p := by
    intro os
    induction os with
    | nil => intro st j h1 h2; exact ⟨h1, h2⟩
    | cons o os ih =>
      intro st j h1 h2
      have hset : ∀ (x : Blk), x.pages.length = p ∨ ¬ o.block < n → (st.1.set o.block x).length = n ∧ ∀ i, i < n → ((st.1.set o.block x).getD i nilB).pages.length = p := fun x hx => by
        refine ⟨by rw [List.length_set]; exact h1, fun i hi => ?_⟩
        by_cases hb : o.block < n
        · rw [getD_set (by rw [h1]; exact hb)]
          by_cases e : i = o.block
          · rw [if_pos e]; exact hx.elim id (fun h => absurd hb h)
          · rw [if_neg e]; exact h2 i hi
        · rw [getD_set_ne (by omega)]; exact h2 i hi
      have hpb : o.block < n → (st.1.getD o.block nilB).pages.length = p := fun hb => h2 _ hb
      have : (crash1 K st j o).1.length = n ∧ ∀ i, i < n → ((crash1 K st j o).1.getD i nilB).pages.length = p := by
        unfold crash1
        split
        · exact ⟨h1, h2⟩
        · split
          · split
            · exact hset _ (by by_cases hb : o.block < n; exact .inl (by show (List.replicate _ _).length = p; rw [List.length_replicate]; exact hpb hb); exact .inr hb)
            · exact ⟨h1, h2⟩
          · split
            · exact hset _ (by by_cases hb : o.block < n; exact .inl (by show ((st.1.getD o.block nilB).pages.set _ _).length = p; rw [List.length_set]; exact hpb hb); exact .inr hb)
            · exact ⟨h1, h2⟩
      exact ih _ _ this.1 this.2
  obtain ⟨k1, k2⟩ := key s.pending (s.durable, List.replicate s.durable.length false) 0 g.ld g.pd
  have l1 : ((crashN K (s.durable, List.replicate s.durable.length false) 0 s.pending).1.map mendB).length = n := by rw [List.length_map]; exact k1
  have l2 : ∀ i, i < n → (((crashN K (s.durable, List.replicate s.durable.length false) 0 s.pending).1.map mendB).getD i nilB).pages.length = p := fun i hi => by
    have := k2 i hi
    have hi' : i < (crashN K (s.durable, List.replicate s.durable.length false) 0 s.pending).1.length := by omega
    have e : ((crashN K (s.durable, List.replicate s.durable.length false) 0 s.pending).1.map mendB).getD i nilB = mendB ((crashN K (s.durable, List.replicate s.durable.length false) 0 s.pending).1.getD i nilB) := by simp [List.getD, hi']
    rw [e]
    show (mend _).length = p
    rw [mend_len]; exact this
  exact { n1 := g.n1, n2 := g.n2, p1 := g.p1, p2 := g.p2, ln := l1, ld := l1, pn := l2, pd := l2, op := fun _ h => (by cases h), l0 := by simp [Dev.crash], l1 := by simp [Dev.crash] }
theorem d_crash {ao : Option Addr} {nk ck bk offk : Nat} {K : Nat → Int} (h : DS Qp w P b n p s) (hK : IsInts w ao nk bk offk K) (hnk : nk ≤ 9223372036854775807) (hQ : ∀ k, w.heap.size ≤ k → Qp k) :
    Calls Try.prog 14 #[.pointer (some ⟨b, 0, none⟩), .slice ao nk ck] w (DPost Qp P b n p (.tuple #[]) (s.crash (kf nk K)) w) := by
  obtain ⟨vd, ds, vn, ns, vp, ps, hD, g, hA⟩ := h
  refine (crash_any hD g hK hnk hQ).mono ?_
  rintro e w' ⟨he, hu⟩
  exact ⟨he, DS.of_up hA hu (g.crash _)⟩
theorem IsInts.none (w : World) : IsInts w none 0 0 0 (fun _ => 0) := ⟨by omega, by omega, by omega, by omega⟩
theorem d_crash0 (h : DS Qp w P b n p s) (hQ : ∀ k, w.heap.size ≤ k → Qp k) : Calls Try.prog 14 #[.pointer (some ⟨b, 0, none⟩), .slice none 0 0] w (DPost Qp P b n p (.tuple #[]) (s.crash (fun _ => 0)) w) := by
  have := d_crash (ck := 0) h (IsInts.none w) (by omega) hQ
  rw [show kf 0 (fun _ => 0) = fun _ => 0 from funext fun j => if_neg (by omega)] at this
  exact this
/-- Next, whatever the block. -/
def nextE (n : Nat) (i : Int) : Int := if 0 ≤ i ∧ i < n then 0 else 1
def nextI (n : Nat) (s : Dev) (i : Int) : Int := if 0 ≤ i ∧ i < n then pgN (s.blk i.toNat) else 0
def wornI (n : Nat) (s : Dev) (i : Int) : Int := if 0 ≤ i ∧ i < n then (s.blk i.toNat).worn else 0
theorem d_next (i : Int) (h : DS Qp w P b n p s) : Calls Try.prog 15 #[.pointer (some ⟨b, 0, none⟩), .int .i64 i] w fun e w' => e = .returned (.tuple #[.int .i64 (nextI n s i), errV (nextE n i)]) ∧ Below w.heap.size w w' := by
  obtain ⟨vd, ds, vn, ns, vp, ps, hD, g, hA⟩ := h
  by_cases hi : 0 ≤ i ∧ i < n
  · rw [show nextE n i = 0 from if_pos hi, show nextI n s i = pgN (s.blk i.toNat) from if_pos hi]
    obtain ⟨i, rfl⟩ := Int.eq_ofNat_of_zero_le hi.1
    exact (next_ok hD g (by omega)).mono fun e w' h => h
  · rw [show nextE n i = 1 from if_neg hi, show nextI n s i = 0 from if_neg hi]
    exact (next_bad hD g hi).mono fun e w' ⟨he, hw⟩ => ⟨he, by rw [hw]; exact Below.refl _ _⟩
theorem d_worn (i : Int) (h : DS Qp w P b n p s) : Calls Try.prog 20 #[.pointer (some ⟨b, 0, none⟩), .int .i64 i] w fun e w' => e = .returned (.tuple #[.int .i64 (wornI n s i), errV (nextE n i)]) ∧ w' = w := by
  obtain ⟨vd, ds, vn, ns, vp, ps, hD, g, hA⟩ := h
  by_cases hi : 0 ≤ i ∧ i < n
  · rw [show nextE n i = 0 from if_pos hi, show wornI n s i = (s.blk i.toNat).worn from if_pos hi]
    obtain ⟨i, rfl⟩ := Int.eq_ofNat_of_zero_le hi.1
    exact worn_ok hD g (by omega)
  · rw [show nextE n i = 1 from if_neg hi, show wornI n s i = 0 from if_neg hi]
    exact worn_bad hD g hi
theorem d_blocks (h : DS Qp w P b n p s) : Calls Try.prog 21 #[.pointer (some ⟨b, 0, none⟩)] w fun e w' => e = .returned (.int .i64 n) ∧ w' = w := by
  obtain ⟨vd, ds, vn, ns, vp, ps, hD, g, hA⟩ := h
  exact blocks_any hD g
theorem d_pages (h : DS Qp w P b n p s) : Calls Try.prog 22 #[.pointer (some ⟨b, 0, none⟩)] w fun e w' => e = .returned (.int .i64 p) ∧ w' = w := by
  obtain ⟨vd, ds, vn, ns, vp, ps, hD, g, hA⟩ := h
  exact pages_any hD g
theorem d_read {i k : Nat} (h : DS Qp w P b n p s) (hi : i < n) (hk : k < p) : Calls Try.prog 16 #[.pointer (some ⟨b, 0, none⟩), .int .i64 i, .int .i64 k] w (ReadOk (look ((s.blk i).pages.getD k none)) w) := by
  obtain ⟨vd, ds, vn, ns, vp, ps, hD, g, hA⟩ := h
  exact read_ok hD g hi hk
theorem d_read_bad {i k : Int} (h : DS Qp w P b n p s) (hi : pageE n p i k = 1) : Calls Try.prog 16 #[.pointer (some ⟨b, 0, none⟩), .int .i64 i, .int .i64 k] w fun e w' => e = .returned (.tuple #[.slice none 0 0, errV 1]) ∧ w' = w := by
  obtain ⟨vd, ds, vn, ns, vp, ps, hD, g, hA⟩ := h
  exact read_bad hD g hi
theorem d_new (w : World) {n p : Nat} (h1 : 1 ≤ n) (h2 : n ≤ 64) (h3 : 1 ≤ p) (h4 : p ≤ 32) : Calls Try.prog 12 #[.int .i64 n, .int .i64 p] w fun e w' =>
    ∃ b, e = .returned (.tuple #[.pointer (some ⟨b, 0, none⟩), errV 0]) ∧ DS Qp w' (w.heap.size ≤ ·) b n p (Dev.init n p) ∧ Below w.heap.size w w' := by
  refine (new_ok (Qp := Qp) w h1 h2 h3 h4).mono ?_
  rintro e w' ⟨b, vd, ds, vn, ns, vp, ps, he, hD, hA, hb⟩
  exact ⟨b, he, ⟨vd, ds, vn, ns, vp, ps, hD, Gd.init h1 h2 h3 h4, hA⟩, hb⟩
/-- The device of a call's own. -/
theorem DPost.own {B : Nat} {v : Value} {e : Ending} (h : DPost Qp (B ≤ ·) b n p v s' w e w') (hB : B ≤ w.heap.size) : e = .returned v ∧ DS Qp w' (B ≤ ·) b n p s' ∧ Below B w w' ∧ Byt w w' :=
  ⟨h.1, h.2.1.mono fun k hk => hk.elim id (fun h => by omega), h.2.2.below hB, h.2.2.by_⟩
end
end Go.Proofs.Ytbpjfhfibllhgaa

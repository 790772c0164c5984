/- topology: Route. Conditions: the map is whole. -/
import Derived.Test.YtpcapmialdmcaaaTpJ
namespace Go.Proofs.Ytpcapmialdmcaaa
open Go.RowKit Go.Maps

/-- What Route says. -/
def RouteR (ts : List ByteArray) (L : List TL) (t : Int) (a b : ByteArray) (code : Int) (r : Rt) : Prop :=
  (¬ (a ∈ ts ∧ b ∈ ts) ∧ code = 8 ∧ r = ([], 0)) ∨ ((a ∈ ts ∧ b ∈ ts) ∧ ((code = 0 ∧ Best (lat L t) (· ∈ ts) a b r) ∨ (code = 3 ∧ r = ([], 0) ∧ ∀ r', ¬ Pth (lat L t) (· ∈ ts) a b r')))
theorem RouteR.unique {ts : List ByteArray} {L : List TL} {t : Int} {a b : ByteArray} {c c' : Int} {r r' : Rt} (h : RouteR ts L t a b c r) (h' : RouteR ts L t a b c' r') : c = c' ∧ r = r' := by
  rcases h with ⟨h1, h2, h3⟩ | ⟨h1, ⟨h2, h3⟩ | ⟨h2, h3, h4⟩⟩ <;> rcases h' with ⟨k1, k2, k3⟩ | ⟨k1, ⟨k2, k3⟩ | ⟨k2, k3, k4⟩⟩
  · exact ⟨h2.trans k2.symm, h3.trans k3.symm⟩
  · exact absurd k1 h1
  · exact absurd k1 h1
  · exact absurd h1 k1
  · exact ⟨h2.trans k2.symm, h3.unique k3⟩
  · exact absurd h3.1 (k4 _)
  · exact absurd h1 k1
  · exact absurd k3.1 (h4 _)
  · exact ⟨h2.trans k2.symm, h3.trans k3.symm⟩
theorem RouteR.congr {ts ts' : List ByteArray} (hts : ∀ x, x ∈ ts ↔ x ∈ ts') {L : List TL} {t : Int} {a b : ByteArray} {c : Int} {r : Rt} (h : RouteR ts L t a b c r) : RouteR ts' L t a b c r := by
  have e : (fun x => x ∈ ts) = fun x => x ∈ ts' := funext fun x => propext (hts x)
  unfold RouteR at *
  rw [← hts a, ← hts b, ← e]
  exact h
section
variable {w w' : World} {m : Nat} {ts : List ByteArray} {L : List TL} {g : MG} {a b : ByteArray}
def RouteP (ts : List ByteArray) (L : List TL) (t : Int) (a b : ByteArray) (w : World) (e : Ending) (w' : World) : Prop :=
  ∃ v r code, e = .returned (.tuple #[v, .int .i64 r.2, errV code]) ∧ RT w' v r.1 ∧ RouteR ts L t a b code r ∧ Below w.heap.size w w'
theorem rt_nil (w : World) : RT w (.slice none 0 0) [] := ⟨none, 0, rfl, by simp, fun h => by simp at h⟩
set_option maxRecDepth 100000 in
set_option maxHeartbeats 3200000 in
theorem route_any (h : MapAt w m ts L g) (t : Int) : Calls Try.prog 12 #[ptrV m, .string a, .string b, .int .i64 t] w (RouteP ts L t a b w) := by
  have CA := Lib.hid (has_any h a)
  have CB := Lib.hid (has_any h b)
  by_cases hab : a ∈ ts ∧ b ∈ ts
  · rw [inL_of hab.1] at CA
    rw [inL_of hab.2] at CB
    have CR := Lib.hid (routes_any h hab.1 t)
    have zb := (h.tz b hab.2).sz
    have HAB := Lib.hid hab
    unfold ptrV at CA CB CR ⊢
    clear h hab
    go_enter Try.func12, Try.ntmps12
    go_wp2_with fail
    refine CA.out.mono ?_
    rintro e w1 ⟨rfl, hw⟩
    obtain rfl : w = w1 := hw.symm
    go_wp2_with fail
    refine CB.out.mono ?_
    rintro e w1 ⟨rfl, hw⟩
    obtain rfl : w = w1 := hw.symm
    clear CA CB
    go_wp2_with fail
    refine CR.out.mono ?_
    rintro e w1 ⟨db, D, V, rfl, hm, hV, hb, hB⟩
    have hlk := rt_look hm zb
    cases hD : D b with
    | none =>
      rw [hD] at hlk
      have hlk' : (Instr.lookup 79 (.map (some db)) (.string b) true).run Try.prog w1 = .ok (.tuple #[.agg #[.slice none 0 0, .int .i64 0], .bool false]) w1 := hlk
      have HP : Hid (RouteP ts L t a b w (.returned (.tuple #[.slice none 0 0, .int .i64 0, .iface 54 (.int .i64 3)])) (w1.alloc (.cells #[.slice none 0 0, .int .i64 0] 77))) := Lib.hid ⟨_, ([], 0), 3, rfl, rt_nil _, .inr ⟨HAB.out, .inr ⟨rfl, rfl, (hB b).2.1 hD⟩⟩, hb.alloc hb.size _⟩
      clear hlk hm hV hb hB hD CR
      go_wp2_with fail
      go_ret3
      exact HP.out
    | some r =>
      rw [hD] at hlk
      obtain ⟨vao, vcp, hve, _⟩ := (hV b r hD).form
      rw [hve] at hlk
      have hlk' : (Instr.lookup 79 (.map (some db)) (.string b) true).run Try.prog w1 = .ok (.tuple #[.agg #[.slice vao r.1.length vcp, .int .i64 r.2], .bool true]) w1 := hlk
      have hba := hb.alloc hb.size (.cells #[.slice vao r.1.length vcp, .int .i64 r.2] 77)
      have hr : RT (w1.alloc (.cells #[.slice vao r.1.length vcp, .int .i64 r.2] 77)) (.slice vao r.1.length vcp) r.1 := by
        rw [← hve]
        exact (hV b r hD).rt.belowS ((Below.refl _ _).alloc (Nat.le_refl _) _)
      have HP : Hid (∀ n, RouteP ts L t a b w (.returned (.tuple #[.slice vao r.1.length vcp, .int .i64 r.2, .nilIface])) ((w1.alloc (.cells #[.slice vao r.1.length vcp, .int .i64 r.2] 77)).drewN n)) := Lib.hid fun n => ⟨_, r, 0, rfl, hr.belowS (below_draw _ _ _), .inr ⟨HAB.out, .inl ⟨rfl, ((hB b).1 r).1 hD⟩⟩, hba.trans (below_draw _ _ _)⟩
      clear hlk hm hV hb hB hD CR hr hba hve
      generalize r.1.length = lr at *
      generalize r.2 = rs at *
      go_wp2_with fail
      go_quiet (fail)
      go_wp2
      go_ret3
      exact HP.out _
  · have HP : Hid (RouteP ts L t a b w (.returned (.tuple #[.slice none 0 0, .int .i64 0, .iface 54 (.int .i64 8)])) w) := Lib.hid ⟨_, ([], 0), 8, rfl, rt_nil _, .inl ⟨hab, rfl, rfl⟩, Below.refl _ _⟩
    unfold ptrV at CA CB ⊢
    clear h
    cases ha : inL a ts
    · rw [ha] at CA
      clear hab ha
      go_enter Try.func12, Try.ntmps12
      go_wp2_with fail
      refine CA.out.mono ?_
      rintro e w1 ⟨rfl, hw⟩
      obtain rfl : w = w1 := hw.symm
      go_wp2_with fail
      go_ret3
      exact HP.out
    · have hb : inL b ts = false := by
        cases hb : inL b ts
        · rfl
        · exact absurd ⟨inL_iff.1 ha, inL_iff.1 hb⟩ hab
      rw [ha] at CA
      rw [hb] at CB
      clear hab ha hb
      go_enter Try.func12, Try.ntmps12
      go_wp2_with fail
      refine CA.out.mono ?_
      rintro e w1 ⟨rfl, hw⟩
      obtain rfl : w = w1 := hw.symm
      go_wp2_with fail
      refine CB.out.mono ?_
      rintro e w1 ⟨rfl, hw⟩
      obtain rfl : w = w1 := hw.symm
      go_wp2_with fail
      go_ret3
      exact HP.out
end
/-- A map that the caller made of new blocks: K the blocks that are not its own. -/
def TA (w0 : World) (K : Nat → Prop) (m : Nat) (ts : List ByteArray) (L : List TL) (w : World) : Prop :=
  ∃ g, MapAt w m ts L g ∧ (∀ k, Fm m g L k → w0.heap.size ≤ k ∧ ¬ K k) ∧ Below w0.heap.size w0 w ∧ ∀ k, K k → k < w.heap.size
def SameK (K : Nat → Prop) (w w' : World) : Prop := ∀ k, K k → w'.heap[k]? = w.heap[k]?
section
variable {w0 w w' : World} {K J : Nat → Prop} {m : Nat} {ts : List ByteArray} {L L' : List TL} {a b : ByteArray}
theorem TA.be (h : TA w0 K m ts L w) : Below w0.heap.size w0 w := by obtain ⟨g, _, _, hb, _⟩ := h; exact hb
theorem TA.bel (h : TA w0 K m ts L w) (hb : Below w.heap.size w w') : TA w0 K m ts L w' := by
  obtain ⟨g, h1, h2, h3, h4⟩ := h
  exact ⟨g, h1.bel hb, h2, h3.trans (hb.mono h3.size), fun k hk => Nat.lt_of_lt_of_le (h4 k hk) hb.size⟩
theorem TA.ok (h : TA w0 K m ts L w) : LOk (· ∈ ts) L := by obtain ⟨g, h1, _⟩ := h; exact h1.ok
theorem TA.tz (h : TA w0 K m ts L w) : ∀ x ∈ ts, TownP x := by obtain ⟨g, h1, _⟩ := h; exact h1.tz
/-- A call that turns the links. -/
theorem TA.turn (h : TA w0 K m ts L w) {g : MG} {code : Int} {e : Ending} (hg : MapAt w m ts L g) (hf : ∀ k, Fm m g L k → w0.heap.size ≤ k ∧ ¬ K k) (hp : MapP m ts L L' g code w e w') : e = .returned (errV code) ∧ TA w0 K m ts L' w' ∧ SameK K w w' := by
  obtain ⟨g1, _, _, hb, hl⟩ := h
  obtain ⟨he, g', h1, h2, h3⟩ := hp
  refine ⟨he, ⟨g', h1, fun k hk => ?_, ?_, fun k hk => Nat.lt_of_lt_of_le (hl k hk) h2.size⟩, fun k hk => h2.block k (hl k hk) fun hn => (hf k hn).2 hk⟩
  · rcases h3 k hk with h4 | h4
    · exact hf k h4
    · exact ⟨Nat.le_trans hb.size h4, fun hk => by have := hl k hk; omega⟩
  · exact ⟨h2.os.trans hb.os, h2.tape.trans hb.tape, h2.output.trans hb.output, Nat.le_trans hb.size h2.size, fun k hk => (h2.block k (Nat.lt_of_lt_of_le hk hb.size) fun hn => by have := (hf k hn).1; omega).trans (hb.block k hk)⟩
/-- The calls, as the statements see them. -/
theorem t_link (h : TA w0 K m ts L w) (l : Int) : Calls Try.prog 19 #[.pointer (some ⟨m, 0, none⟩), .string a, .string b, .int .i64 l] w fun e w' => e = .returned (errV (connS ts L a b l).2) ∧ TA w0 K m ts (connS ts L a b l).1 w' ∧ SameK K w w' := by
  obtain ⟨g, h1, h2, h3⟩ := id h
  exact (link_any h1 l).mono fun e w' hp => h.turn h1 h2 hp
theorem t_down (h : TA w0 K m ts L w) (za : a.size ≤ 9223372036854775807) (zb : b.size ≤ 9223372036854775807) (hc : ∀ l ∈ L, l.cuts.length ≤ 1000000) (f t : Int) : Calls Try.prog 20 #[.pointer (some ⟨m, 0, none⟩), .string a, .string b, .int .i64 f, .int .i64 t] w fun e w' => e = .returned (errV (downS L a b f t).2) ∧ TA w0 K m ts (downS L a b f t).1 w' ∧ SameK K w w' := by
  obtain ⟨g, h1, h2, h3⟩ := id h
  exact (down_any h1 za zb hc f t).mono fun e w' hp => h.turn h1 h2 hp
theorem t_up (h : TA w0 K m ts L w) (za : a.size ≤ 9223372036854775807) (zb : b.size ≤ 9223372036854775807) (t : Int) : Calls Try.prog 17 #[.pointer (some ⟨m, 0, none⟩), .string a, .string b, .int .i64 t] w fun e w' => e = .returned (.bool (upT L a b t)) ∧ TA w0 K m ts L w' ∧ Below w.heap.size w w' := by
  obtain ⟨g, h1, h2, h3⟩ := id h
  exact (up_any h1 za zb t).mono fun e w' hp => ⟨hp.1, h.bel hp.2, hp.2⟩
theorem t_route (h : TA w0 K m ts L w) (t : Int) : Calls Try.prog 12 #[.pointer (some ⟨m, 0, none⟩), .string a, .string b, .int .i64 t] w fun e w' => ∃ v r code, e = .returned (.tuple #[v, .int .i64 r.2, errV code]) ∧ RT w' v r.1 ∧ RouteR ts L t a b code r ∧ TA w0 K m ts L w' ∧ Below w.heap.size w w' := by
  obtain ⟨g, h1, h2, h3⟩ := id h
  refine (route_any h1 t).mono fun e w' hp => ?_
  obtain ⟨v, r, code, p1, p2, p3, p4⟩ := hp
  exact ⟨v, r, code, p1, p2, p3, h.bel p4, p4⟩
theorem t_new {l : List ByteArray} {v : Value} (h : RT w v l) (hz : ∀ x ∈ l, x.size ≤ 9223372036854775807) : Calls Try.prog 18 #[v] w fun e w' => Below w.heap.size w w' ∧
    if newE l = 0 then ∃ m ts, e = .returned (.tuple #[.pointer (some ⟨m, 0, none⟩), .nilIface]) ∧ ts.Perm l ∧ TA w (fun _ => False) m ts [] w' else e = .returned (.tuple #[.pointer none, errV (newE l)]) := by
  refine (new_any h hz).mono fun e w' hp => ⟨hp.1, ?_⟩
  obtain ⟨hb, hp⟩ := hp
  by_cases hn : newE l = 0
  · rw [if_pos hn] at hp ⊢
    obtain ⟨m, ts, g, h1, h2, h3, h4⟩ := hp
    exact ⟨m, ts, h1, h2, g, h3, fun k hk => ⟨h4 k hk, id⟩, hb, fun k hk => hk.elim⟩
  · rw [if_neg hn] at hp ⊢
    exact hp
end
end Go.Proofs.Ytpcapmialdmcaaa

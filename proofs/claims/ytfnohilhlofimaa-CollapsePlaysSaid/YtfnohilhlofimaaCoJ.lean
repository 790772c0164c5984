/- collapse: the statements' helpers key, play, awake; what a play makes. Conditions: each contract names its own. -/
import Derived.Test.YtfnohilhlofimaaCoI
namespace Go.Proofs.Ytfnohilhlofimaa
open Go.RowKit

/-- The keys of the scripts. -/
def keyC (n : Int) : ByteArray := ([⟨#[97]⟩, ⟨#[98]⟩, ⟨#[99]⟩, ⟨#[97, 47, 98]⟩, ⟨#[]⟩] : List ByteArray).getD (n % 5).toNat ⟨#[]⟩
def c5 : List ByteArray := [⟨#[97]⟩, ⟨#[98]⟩, ⟨#[99]⟩, ⟨#[97, 47, 98]⟩, ⟨#[]⟩]
theorem c5_cU {k : ByteArray} (h : k ∈ c5) : k ∈ cU := by
  unfold c5 at h
  unfold cU
  simp only [List.mem_cons, List.not_mem_nil, or_false] at h ⊢
  rcases h with h | h | h | h | h <;> simp [h]
theorem keyC_c5 (n : Int) : keyC n ∈ c5 := by
  unfold keyC
  have h : (n % 5).toNat < 5 := by omega
  generalize (n % 5).toNat = r at h
  match r, h with
  | 0, _ => simp [c5]
  | 1, _ => simp [c5]
  | 2, _ => simp [c5]
  | 3, _ => simp [c5]
  | 4, _ => simp [c5]
theorem keyC_cU (n : Int) : keyC n ∈ cU := c5_cU (keyC_c5 n)
theorem key_any (n : Int) (hn : 0 ≤ n ∧ n ≤ 255) (w : World) : Calls Try.prog 18 #[.int .u8 n] w fun e w' => e = .returned (.string (keyC n)) ∧ Below w.heap.size w w' := by
  have hB : Below w.heap.size w (w.alloc (.cells #[.string ⟨#[97]⟩, .string ⟨#[98]⟩, .string ⟨#[99]⟩, .string ⟨#[97, 47, 98]⟩, .string ⟨#[]⟩] 9)) := by go_grown
  have hr : (n % 5).toNat < 5 := by omega
  have hc : (w.alloc (.cells #[.string ⟨#[97]⟩, .string ⟨#[98]⟩, .string ⟨#[99]⟩, .string ⟨#[97, 47, 98]⟩, .string ⟨#[]⟩] 9)).cell? ⟨w.heap.size, (n % 5).toNat, none⟩ = some (.string (keyC n)) := by
    rw [has_cell (heap_alloc_new w _)]
    unfold keyC
    generalize (n % 5).toNat = r at hr
    match r, hr with
    | 0, _ => rfl
    | 1, _ => rfl
    | 2, _ => rfl
    | 3, _ => rfl
    | 4, _ => rfl
  obtain ⟨k, rfl⟩ : ∃ k : Nat, n = (k : Int) := ⟨n.toNat, by omega⟩
  obtain ⟨r, hm⟩ : ∃ r : Nat, (k : Int) % 5 = (r : Int) ∧ ((k : Int) % 5).toNat = r := ⟨k % 5, by omega, by omega⟩
  rw [hm.2] at hc hr
  replace hm := hm.1
  generalize keyC (k : Int) = v at hc ⊢
  go_enter Try.func18, Try.ntmps18
  go_wp2
  go_ret
  exact ⟨rfl, hB⟩
/-- What a step makes of a table. -/
noncomputable def playS (s : Tb) (x0 x1 x2 x3 : Int) : Tb :=
  if x0 % 9 = 5 then DoneT s (keyC x1) else if x0 % 9 = 6 then FailS s (keyC x1) else if x0 % 9 = 7 then RemS s x2 else if x0 % 9 = 8 then MarkS s (keyC x1) x3 else AskS s (keyC x1) x2 x3
/-- What scripts alone make: few keys, small ids. -/
structure Sm (s : Tb) : Prop where
  l : ∀ k, s.L k ≠ [] → k ∈ c5
  m : ∀ k, s.M k ≠ none → k ∈ c5
  i : ∀ k n, n ∈ s.L k → -128 ≤ n ∧ n ≤ 127
theorem Sm.start : Sm tb0 := ⟨fun _ h => absurd rfl h, fun _ h => absurd rfl h, fun _ _ h => (by cases h)⟩
theorem Sm.rem {s : Tb} (h : Sm s) (n : Int) : Sm (RemS s n) := by
  unfold RemS
  split
  · exact h
  · rename_i k hk
    refine ⟨fun x hx => ?_, h.m, fun x m hm => ?_⟩
    · have hx : upd s.L k ((s.L k).erase n) x ≠ [] := hx
      by_cases ex : x = k
      · subst ex
        rw [upd_same] at hx
        exact h.l x fun e => hx (by rw [e]; rfl)
      · rw [upd_other ex] at hx; exact h.l x hx
    · have hm : m ∈ upd s.L k ((s.L k).erase n) x := hm
      by_cases ex : x = k
      · subst ex; rw [upd_same] at hm; exact h.i x m (List.mem_of_mem_erase hm)
      · rw [upd_other ex] at hm; exact h.i x m hm
theorem Sm.ask {s : Tb} (h : Sm s) {k : ByteArray} (hk : k ∈ c5) {n : Int} (hn : -128 ≤ n ∧ n ≤ 127) (now : Int) : Sm (AskS s k n now) := by
  unfold AskS
  split
  · exact h
  · refine ⟨fun x hx => ?_, h.m, fun x m hm => ?_⟩
    · have hx : upd s.L k (s.L k ++ [n]) x ≠ [] := hx
      by_cases ex : x = k
      · subst ex; exact hk
      · rw [upd_other ex] at hx; exact h.l x hx
    · have hm : m ∈ upd s.L k (s.L k ++ [n]) x := hm
      by_cases ex : x = k
      · subst ex
        rw [upd_same, List.mem_append, List.mem_singleton] at hm
        rcases hm with hm | rfl
        · exact h.i x m hm
        · exact hn
      · rw [upd_other ex] at hm; exact h.i x m hm
theorem Sm.mark {s : Tb} (h : Sm s) {k : ByteArray} (hk : k ∈ c5) (n : Int) : Sm (MarkS s k n) :=
  ⟨h.l, fun x hx => by
    have hx : upd s.M k (some n) x ≠ none := hx
    by_cases ex : x = k
    · subst ex; exact hk
    · rw [upd_other ex] at hx; exact h.m x hx, h.i⟩
theorem Sm.done {s : Tb} (h : Sm s) (k : ByteArray) : Sm (DoneT s k) := by
  unfold DoneT
  split
  · exact h
  · refine ⟨fun x hx => h.l x (upd_nil hx).2, h.m, fun x m hm => ?_⟩
    have hm : m ∈ upd s.L k [] x := hm
    by_cases ex : x = k
    · subst ex; rw [upd_same] at hm; cases hm
    · rw [upd_other ex] at hm; exact h.i x m hm
theorem Sm.fail {s : Tb} {N : Nat} (h : Sm s) (ho : TbOk N s) (k : ByteArray) : Sm (FailS s k) := by
  cases hl : s.L k with
  | nil => unfold FailS; rw [hl]; exact h
  | cons x r => rw [ho.fail_eq hl]; exact h.rem x
theorem Sm.play {s : Tb} {N : Nat} (h : Sm s) (ho : TbOk N s) (x0 x1 : Int) {x2 x3 : Int} (h2 : -128 ≤ x2 ∧ x2 ≤ 127) : Sm (playS s x0 x1 x2 x3) := by
  unfold playS
  repeat' split
  · exact h.done _
  · exact h.fail ho _
  · exact h.rem _
  · exact h.mark (keyC_c5 _) _
  · exact h.ask (keyC_c5 _) h2 _
section
variable {w0 w w' : World} {K J : Nat → Prop} {b N : Nat} {s : Tb}
/-- New blocks are kept from here on. -/
theorem CT.add (h : CT w0 K b N s w) (hb : Below w.heap.size w w') (hJ : ∀ k, J k → w.heap.size ≤ k ∧ k < w'.heap.size) : CT w0 (fun k => K k ∨ J k) b N s w' :=
  have h' := h.bel hb
  ⟨(h.t.bound.belowS hb).mono fun k hk => ⟨hk.1.1, fun hK => by
    rcases hK with hK | hK
    · exact hk.1.2 hK
    · have := hJ k hK; have := hk.2; omega⟩, h.ok, h'.be, fun k hk => by
    rcases hk with hk | hk
    · exact h'.lt k hk
    · exact (hJ k hk).2⟩
theorem cell_sameK {x : Nat} (hs : Same K w w') (hx : K x) (i : Nat) : w'.cell? ⟨x, i, none⟩ = w.cell? ⟨x, i, none⟩ := World.cell?_of_block (a := ⟨x, i, none⟩) (hs x hx)
set_option maxRecDepth 100000 in
set_option maxHeartbeats 1600000 in
theorem play_any (h : CT w0 K b N s w) (hN : N ≤ 1000) {x0 x1 x2 x3 : Int} (h0 : 0 ≤ x0 ∧ x0 ≤ 255) (h1 : 0 ≤ x1 ∧ x1 ≤ 255) (h2 : -128 ≤ x2 ∧ x2 ≤ 127) (h3 : -128 ≤ x3 ∧ x3 ≤ 127) :
    Calls Try.prog 12 #[.pointer (some ⟨b, 0, none⟩), .agg #[.int .u8 x0, .int .u8 x1, .int .i8 x2, .int .i8 x3]] w (CP w0 K b (N + 1) (playS s x0 x1 x2 x3) (.tuple #[]) w) := by
  have q0 : x0.tmod 9 = x0 % 9 := Int.tmod_eq_emod_of_nonneg h0.1
  have q1 : IntKind.u8.wrap (x0 % 9) = x0 % 9 := IntWalk.u8_in _ (by omega)
  have q2 : IntKind.i64.wrap x2 = x2 := IntWalk.i64_in _ (by omega)
  have q3 : IntKind.i64.wrap x3 = x3 := IntWalk.i64_in _ (by omega)
  have hn2 : -9223372036854775808 ≤ x2 ∧ x2 ≤ 9223372036854775807 := by omega
  have CK := Lib.hid (key_any x1 h1)
  have hkU := keyC_cU x1
  have hba : Below w.heap.size w (w.alloc (.cells #[.int .u8 x0, .int .u8 x1, .int .i8 x2, .int .i8 x3] 28)) := by go_grown
  have hx := heap_alloc_new w (.cells #[.int .u8 x0, .int .u8 x1, .int .i8 x2, .int .i8 x3] 28)
  have ha := h.add (J := fun k => k = w.heap.size) hba (fun k hk => by simp; omega)
  have HM := Lib.hid (h.same hba)
  have fin : Hid (∀ {s' : Tb} {M : Nat} {w2 : World}, M ≤ N + 1 → CT w0 (fun k => K k ∨ k = w.heap.size) b M s' w2 → Same (fun k => K k ∨ k = w.heap.size) (w.alloc (.cells #[.int .u8 x0, .int .u8 x1, .int .i8 x2, .int .i8 x3] 28)) w2 → CP w0 K b (N + 1) s' (.tuple #[]) w (.returned (.tuple #[])) w2) :=
    Lib.hid fun hM hc hs => ⟨rfl, ⟨(hc.less fun k hk => .inl hk).t, hc.ok.mono hM, hc.be, fun k hk => hc.lt k (.inl hk)⟩, HM.out.trans (hs.mono fun k hk => .inl hk)⟩
  have HC0 : ∀ w1, Same (fun k => K k ∨ k = w.heap.size) (w.alloc (.cells #[.int .u8 x0, .int .u8 x1, .int .i8 x2, .int .i8 x3] 28)) w1 → w1.heap[w.heap.size]? = some (.cells #[.int .u8 x0, .int .u8 x1, .int .i8 x2, .int .i8 x3] 28 (0, 0)) := fun w1 hs => (hs _ (.inr rfl)).trans hx
  have HC := Lib.hid HC0
  have HA := Lib.hid ha
  have c1 := (has_cell hx 1).trans (show _ = some (Value.int .u8 x1) from rfl)
  have c2 := (has_cell hx 2).trans (show _ = some (Value.int .i8 x2) from rfl)
  have c3 := (has_cell hx 3).trans (show _ = some (Value.int .i8 x3) from rfl)
  clear h hba hx ha HM HC0 h0 h1
  by_cases e5 : x0 % 9 = 5
  · rw [show playS s x0 x1 x2 x3 = DoneT s (keyC x1) from if_pos e5]
    go_enter Try.func12, Try.ntmps12
    go_wp2_with fail
    refine (CK.out _).mono ?_
    rintro e w1 ⟨rfl, hb1⟩
    have CD := Lib.hid (c_done (HA.out.bel hb1) hN hkU)
    generalize (if s.L (keyC x1) = [] then (3 : Int) else 0) = er at CD
    go_wp2_with fail
    refine CD.out.mono ?_
    rintro e w2 ⟨ao, cp, rfl, _, hT, hS⟩
    clear CD
    go_wp2
    first | go_end0 | refine bodyPost_ret (results_none rfl _ _ _) rfl ?_
    exact fin.out (Nat.le_succ _) hT ((HA.out.same hb1).trans hS)
  · by_cases e6 : x0 % 9 = 6
    · rw [show playS s x0 x1 x2 x3 = FailS s (keyC x1) from (if_neg e5).trans (if_pos e6)]
      clear e5
      go_enter Try.func12, Try.ntmps12
      go_wp2_with fail
      refine (CK.out _).mono ?_
      rintro e w1 ⟨rfl, hb1⟩
      have CD := Lib.hid (c_fail (HA.out.bel hb1) hkU)
      go_wp2_with fail
      refine CD.out.mono ?_
      rintro e w2 ⟨rfl, hT, hS⟩
      clear CD
      go_wp2
      first | go_end0 | refine bodyPost_ret (results_none rfl _ _ _) rfl ?_
      exact fin.out (Nat.le_succ _) hT ((HA.out.same hb1).trans hS)
    · by_cases e7 : x0 % 9 = 7
      · rw [show playS s x0 x1 x2 x3 = RemS s x2 from (if_neg e5).trans ((if_neg e6).trans (if_pos e7))]
        clear e5 e6
        have CD := Lib.hid (c_leave HA.out hN hn2)
        go_enter Try.func12, Try.ntmps12
        go_wp2_with fail
        refine CD.out.mono ?_
        rintro e w2 ⟨rfl, hT, hS⟩
        clear CD
        go_wp2
        first | go_end0 | refine bodyPost_ret (results_none rfl _ _ _) rfl ?_
        exact fin.out (Nat.le_succ _) hT hS
      · by_cases e8 : x0 % 9 = 8
        · rw [show playS s x0 x1 x2 x3 = MarkS s (keyC x1) x3 from (if_neg e5).trans ((if_neg e6).trans ((if_neg e7).trans (if_pos e8)))]
          clear e5 e6 e7
          go_enter Try.func12, Try.ntmps12
          go_wp2_with fail
          go_region_held3 (fun w' => w'.cell? ⟨w.heap.size, 1, none⟩ = some (.int .u8 x1) ∧ w'.cell? ⟨w.heap.size, 3, none⟩ = some (.int .i8 x3)) (go_keep)
            (first
              | (go_at_call 18; refine (CK.out _).mono ?_; rintro e w1 ⟨rfl, hb1⟩; have HA1 := Lib.hid (HA.out.bel ⟨hb1.os, hb1.tape, hb1.output, hb1.size, hb1.block⟩); have HS1 := Lib.hid (HA.out.same ⟨hb1.os, hb1.tape, hb1.output, hb1.size, hb1.block⟩); have c1 := (has_cell (HC.out _ HS1.out) 1).trans (show _ = some (Value.int .u8 x1) from rfl); have c3 := (has_cell (HC.out _ HS1.out) 3).trans (show _ = some (Value.int .i8 x3) from rfl))
              | (go_at_call 20; refine (c_mark HA1.out hkU x3).mono ?_; rintro e w2 ⟨rfl, hT2, hS2⟩; have HS2 := Lib.hid (HS1.out.trans hS2); have c1 := (has_cell (HC.out _ HS2.out) 1).trans (show _ = some (Value.int .u8 x1) from rfl); have c3 := (has_cell (HC.out _ HS2.out) 3).trans (show _ = some (Value.int .i8 x3) from rfl)))
          go_wp2
          first | go_end0 | refine bodyPost_ret (results_none rfl _ _ _) rfl ?_
          exact fin.out (Nat.le_succ _) hT2 HS2.out
        · rw [show playS s x0 x1 x2 x3 = AskS s (keyC x1) x2 x3 from (if_neg e5).trans ((if_neg e6).trans ((if_neg e7).trans (if_neg e8)))]
          have d5 : (x0 % 9 == 5) = false := by simp; omega
          have d6 : (x0 % 9 == 6) = false := by simp; omega
          have d7 : (x0 % 9 == 7) = false := by simp; omega
          have d8 : (x0 % 9 == 8) = false := by simp; omega
          clear e5 e6 e7 e8
          go_enter Try.func12, Try.ntmps12
          go_wp2_with fail
          go_region_held3 (fun w' => w'.cell? ⟨w.heap.size, 1, none⟩ = some (.int .u8 x1) ∧ w'.cell? ⟨w.heap.size, 2, none⟩ = some (.int .i8 x2) ∧ w'.cell? ⟨w.heap.size, 3, none⟩ = some (.int .i8 x3)) (go_keep)
            (first
              | (go_at_call 18; refine (CK.out _).mono ?_; rintro e w1 ⟨rfl, hb1⟩; have HA1 := Lib.hid (HA.out.bel ⟨hb1.os, hb1.tape, hb1.output, hb1.size, hb1.block⟩); have HS1 := Lib.hid (HA.out.same ⟨hb1.os, hb1.tape, hb1.output, hb1.size, hb1.block⟩); have c1 := (has_cell (HC.out _ HS1.out) 1).trans (show _ = some (Value.int .u8 x1) from rfl); have c2 := (has_cell (HC.out _ HS1.out) 2).trans (show _ = some (Value.int .i8 x2) from rfl); have c3 := (has_cell (HC.out _ HS1.out) 3).trans (show _ = some (Value.int .i8 x3) from rfl))
              | (go_at_call 13; refine (c_ask HA1.out hN hkU hn2 x3).mono ?_; rintro e w2 ⟨rfl, hT2, hS2⟩; have HS2 := Lib.hid (HS1.out.trans hS2); have c1 := (has_cell (HC.out _ HS2.out) 1).trans (show _ = some (Value.int .u8 x1) from rfl); have c2 := (has_cell (HC.out _ HS2.out) 2).trans (show _ = some (Value.int .i8 x2) from rfl); have c3 := (has_cell (HC.out _ HS2.out) 3).trans (show _ = some (Value.int .i8 x3) from rfl)))
          go_wp2
          first | go_end0 | refine bodyPost_ret (results_none rfl _ _ _) rfl ?_
          exact fin.out (Nat.le_refl _) hT2 HS2.out
end
theorem ask_new {s : Tb} {k : ByteArray} {n now : Int} (hi : s.I n = none) (hm : markB s k now = false) : AskS s k n now = { s with I := upd s.I n (some k), L := upd s.L k (s.L k ++ [n]) } :=
  if_neg (by rw [hi, hm]; decide)
theorem ask_n {s : Tb} {k : ByteArray} {n now : Int} (hi : s.I n = none) (hm : markB s k now = false) : askN s k n now = if s.L k = [] then 1 else 2 := by
  unfold askN
  rw [if_neg (by rw [hi]; decide), if_neg (by rw [hm]; decide)]
theorem awake_any (w : World) : Calls Try.prog 10 #[] w fun e w' => e = .returned (.bool true) ∧ Below w.heap.size w w' := by
  have CN := Lib.hid (c_new w)
  have e1 : askN tb0 ⟨#[107]⟩ 1 0 = 1 := by rw [ask_n rfl rfl]; exact if_pos rfl
  have E1 : askE tb0 1 = 0 := rfl
  have hs := ask_new (s := tb0) (k := ⟨#[107]⟩) (n := 1) (now := 0) rfl rfl
  have hi2 : (AskS tb0 ⟨#[107]⟩ 1 0).I 2 = none := by rw [hs]; exact upd_other (by decide)
  have e2 : askN (AskS tb0 ⟨#[107]⟩ 1 0) ⟨#[107]⟩ 2 0 = 2 := by
    rw [ask_n hi2 (by rw [hs]; rfl)]
    refine if_neg ?_
    rw [hs]
    show upd tb0.L _ _ _ ≠ []
    rw [upd_same]
    decide
  have E2 : askE (AskS tb0 ⟨#[107]⟩ 1 0) 2 = 0 := by unfold askE; rw [hi2]; rfl
  go_enter Try.func10, Try.ntmps10
  go_wp2_with fail
  refine CN.out.mono ?_
  rintro e w1 ⟨b, rfl, h⟩
  have CA := Lib.hid (c_ask h (by omega) (k := ⟨#[107]⟩) (by simp [cU]) (n := 1) (by decide) 0)
  rw [e1, E1] at CA
  clear CN h
  go_wp2_with fail
  refine CA.out.mono ?_
  rintro e w2 ⟨rfl, h, _⟩
  have CB := Lib.hid (c_ask h (by omega) (k := ⟨#[107]⟩) (by simp [cU]) (n := 2) (by decide) 0)
  rw [e2, E2] at CB
  rw [errV0] at *
  clear CA h
  go_wp2_with fail
  refine CB.out.mono ?_
  rintro e w3 ⟨rfl, h, _⟩
  have hbe := h.be
  clear CB h
  go_wp2
  go_ret
  exact ⟨rfl, hbe⟩
end Go.Proofs.Ytfnohilhlofimaa

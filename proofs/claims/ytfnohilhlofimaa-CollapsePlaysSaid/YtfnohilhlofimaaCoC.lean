/- collapse: what a call leaves; New, Marked, Mark, Leader, Waiters. Conditions: each contract names its own. -/
import Derived.Test.YtfnohilhlofimaaCoB
namespace Go.Proofs.Ytfnohilhlofimaa
open Go.RowKit

/-- From w on, in blocks of Al and new ones: at w' the table at b is s, and lies at a. -/
structure TS (Al : Nat → Prop) (w : World) (b : Nat) (a : TA) (s : Tb) (w' : World) : Prop where
  t : TbAt w' b a s
  al : ∀ k, TAl b a s k → Al k ∨ w.heap.size ≤ k
  o : Only Al w w'
/-- The table s lies at block b, all of it in blocks of P. -/
def TIs (w : World) (P : Nat → Prop) (b : Nat) (s : Tb) : Prop := ∃ a, TbAt w b a s ∧ ∀ k, TAl b a s k → P k
def TUp (Al : Nat → Prop) (b : Nat) (s : Tb) (w w' : World) : Prop := ∃ a, TS Al w b a s w'
def TPost (P : Nat → Prop) (b : Nat) (v : Value) (s' : Tb) (w : World) (e : Ending) (w' : World) : Prop := e = .returned v ∧ TUp P b s' w w'
def grow (P : Nat → Prop) (w : World) (k : Nat) : Prop := P k ∨ w.heap.size ≤ k
section
variable {w w1 w2 w' : World} {b : Nat} {s s' : Tb} {a : TA} {Al P Q : Nat → Prop} {k : ByteArray} {n : Int}
theorem TIs.up (h : TIs w P b s) : TUp P b s w w := by
  obtain ⟨a, h, ha⟩ := h
  exact ⟨a, h, fun k hk => .inl (ha k hk), Only.refl _ _⟩
theorem TIs.mono (h : TIs w P b s) (hP : ∀ k, P k → Q k) : TIs w Q b s := by obtain ⟨a, h, ha⟩ := h; exact ⟨a, h, fun k hk => hP k (ha k hk)⟩
theorem TIs.belowS (h : TIs w P b s) (hb : Below w.heap.size w w') : TIs w' P b s := by obtain ⟨a, h, ha⟩ := h; exact ⟨a, h.belowS hb, ha⟩
theorem TIs.bound (h : TIs w P b s) : TIs w (fun k => P k ∧ k < w.heap.size) b s := by obtain ⟨a, h, ha⟩ := h; exact ⟨a, h, fun k hk => ⟨ha k hk, h.lt hk⟩⟩
theorem TUp.is (h : TUp Al b s w w') : TIs w' (grow Al w) b s := by obtain ⟨a, h⟩ := h; exact ⟨a, h.t, h.al⟩
theorem TUp.only (h : TUp Al b s w w') : Only Al w w' := by obtain ⟨a, h⟩ := h; exact h.o
theorem TS.start (h : TIs w P b s) : ∃ a, TS P w b a s w := by obtain ⟨a, h, ha⟩ := h; exact ⟨a, h, fun k hk => .inl (ha k hk), Only.refl _ _⟩
theorem TS.belowS (h : TS Al w b a s w1) (hb : Below w1.heap.size w1 w2) : TS Al w b a s w2 := ⟨h.t.belowS hb, h.al, h.o.trans (Only.of_below hb (S := Al) fun k h1 h2 => by omega) (fun _ _ h => h)⟩
theorem TS.drew (h : TS Al w b a s w1) : TS Al w b a s w1.drew := h.belowS (below_drew _ _)
theorem TS.grown (h : TS Al w b a s w1) {j : Nat} (hg : w1.grownBy w2 (some j)) (hj : TAl b a s j) : Only Al w w2 :=
  h.o.grown hg fun k hk => by rw [← Option.some.inj hk]; exact h.al j hj
theorem TAl.sub {s' : Tb} (hL : ∀ x, s'.L x ≠ [] → s.L x ≠ []) {j : Nat} (h : TAl b a s' j) : TAl b a s j := by
  cases h with
  | b => exact .b
  | k => exact .k
  | i => exact .i
  | m => exact .m
  | l h1 h2 => exact .l (hL _ h1) h2
theorem TS.putI (h : TS Al w b a s w1) (hn : IsK Try.prog 3 (.int .i64 n)) (k : ByteArray) : ∃ w2, (Instr.mapUpdate 75 (.map (some a.ib)) (.int .i64 n) (.string k)).run Try.prog w1 = .ok () w2 ∧ TS Al w b a { s with I := upd s.I n (some k) } w2 := by
  obtain ⟨w2, h1, h2, h3⟩ := h.t.putI hn k
  exact ⟨w2, h1, h2, fun j hj => h.al j (TAl.sub (s := s) (s' := { s with I := upd s.I n (some k) }) (fun _ h => h) hj), h.grown h3 .i⟩
theorem TS.delI (h : TS Al w b a s w1) (hn : IsK Try.prog 3 (.int .i64 n)) (ty : TypeId) : ∃ w2, (Builtin.delete_ #[75, 3] ty #[.map (some a.ib), .int .i64 n]).run Try.prog w1 = .ok (.tuple #[]) w2 ∧ TS Al w b a { s with I := upd s.I n none } w2 ∧ w1.grownBy w2 (some a.ib) := by
  obtain ⟨w2, h1, h2, h3⟩ := h.t.delI hn ty
  exact ⟨w2, h1, ⟨h2, fun j hj => h.al j (TAl.sub (s := s) (s' := { s with I := upd s.I n none }) (fun _ h => h) hj), h.grown h3 .i⟩, h3⟩
theorem TS.putM (h : TS Al w b a s w1) (hk : IsK Try.prog 9 (.string k)) (n : Int) : ∃ w2, (Instr.mapUpdate 76 (.map (some a.mb)) (.string k) (.int .i64 n)).run Try.prog w1 = .ok () w2 ∧ TS Al w b a { s with M := upd s.M k (some n) } w2 := by
  obtain ⟨w2, h1, h2, h3⟩ := h.t.putM hk n
  exact ⟨w2, h1, h2, fun j hj => h.al j (TAl.sub (s := s) (s' := { s with M := upd s.M k (some n) }) (fun _ h => h) hj), h.grown h3 .m⟩
theorem TS.dropK (h : TS Al w b a s w1) (hk : IsK Try.prog 9 (.string k)) (ty : TypeId) : ∃ w2, (Builtin.delete_ #[74, 9] ty #[.map (some a.kb), .string k]).run Try.prog w1 = .ok (.tuple #[]) w2 ∧ TS Al w b a { s with L := upd s.L k [] } w2 ∧ w1.grownBy w2 (some a.kb) := by
  obtain ⟨w2, h1, h2, h3⟩ := h.t.dropK hk ty
  exact ⟨w2, h1, ⟨h2, fun j hj => h.al j (TAl.sub (s := s) (fun x hx => (upd_nil hx).2) hj), h.grown h3 .k⟩, h3⟩
theorem TS.putK {r : Option Nat} {wm : World} {v : Value} {l : List Int} (h : TS Al w b a s w1) (hk : IsK Try.prog 9 (.string k)) (hl : l ≠ []) (hg1 : w1.grownBy wm r) (hr : ∀ g, r = some g → (s.L k ≠ [] ∧ (a.vs k).ownBlock = some g) ∨ w1.heap.size ≤ g)
    (hv : ∀ g, v.ownBlock = some g → (s.L k ≠ [] ∧ (a.vs k).ownBlock = some g) ∨ w1.heap.size ≤ g) (ho : IsI wm v l) :
    ∃ w2, (Instr.mapUpdate 74 (.map (some a.kb)) (.string k) v).run Try.prog wm = .ok () w2 ∧ TS Al w b { a with vs := upd a.vs k v } { s with L := upd s.L k l } w2 := by
  obtain ⟨w2, h1, h2, h3⟩ := h.t.putK hk hl hg1 hr hv ho
  have hs := h.o.size
  refine ⟨w2, h1, h2, fun j hj => ?_, (h.o.grown hg1 fun g hg => ?_).grown h3 fun g hg => by rw [← Option.some.inj hg]; exact h.al _ .k⟩
  · cases hj with
    | b => exact h.al _ .b
    | k => exact h.al _ .k
    | i => exact h.al _ .i
    | m => exact h.al _ .m
    | @l x g e1 e2 =>
      have e1 : upd s.L k l x ≠ [] := e1
      have e2 : (upd a.vs k v x).ownBlock = some j := e2
      by_cases e : x = k
      · subst e
        rw [upd_same] at e2
        rcases hv j e2 with ⟨h4, h5⟩ | h4
        · exact h.al j (.l h4 h5)
        · exact .inr (by omega)
      · rw [upd_other e] at e1 e2
        exact h.al j (.l e1 e2)
  · rcases hr g hg with ⟨h4, h5⟩ | h4
    · exact h.al g (.l h4 h5)
    · exact .inr (by omega)
def tb0 : Tb := ⟨fun _ => [], fun _ => none, fun _ => none⟩
theorem t_new (w : World) : Calls Try.prog 11 #[] w fun e w' => ∃ b, e = .returned (.pointer (some ⟨b, 0, none⟩)) ∧ TIs w' (w.heap.size ≤ ·) b tb0 ∧ Below w.heap.size w w' := by
  have HQ : ∀ w0 : World, w0.heap = w.heap → Hid (TIs ((((w0.alloc (.map #[] 0)).alloc (.map #[] 0)).alloc (.map #[] 0)).alloc (.cells #[.map (some w0.heap.size), .map (some (w0.heap.size + 1)), .map (some (w0.heap.size + 1 + 1))] 78)) (w.heap.size ≤ ·) (w0.heap.size + 1 + 1 + 1) tb0) := fun w0 hw0 => Lib.hid (by
    refine ⟨⟨w0.heap.size, w0.heap.size + 1, w0.heap.size + 1 + 1, fun _ => .slice none 0 0⟩, ⟨?_, ?_, ?_, ?_, fun k hk => absurd rfl hk, fun k _ _ hk => absurd rfl hk, by show w0.heap.size ≠ w0.heap.size + 1; omega, by show w0.heap.size ≠ w0.heap.size + 1 + 1; omega, by show w0.heap.size + 1 ≠ w0.heap.size + 1 + 1; omega⟩, fun j hj => ?_⟩
    · exact heap_at (by simp)
    · have h1 := MapF.new Try.prog 9 w0
      have h2 : kF tb0.L (fun _ => .slice none 0 0) = fun _ => none := funext fun x => by unfold kF tb0; cases x <;> simp
      show MapF _ _ _ w0.heap.size (kF tb0.L fun _ => .slice none 0 0)
      rw [h2]
      have h1 := h1.belowS ((Below.refl _ _).alloc (Nat.le_refl _) (.map #[] 0))
      have h1 := h1.belowS ((Below.refl _ _).alloc (Nat.le_refl _) (.map #[] 0))
      exact h1.belowS ((Below.refl _ _).alloc (Nat.le_refl _) _)
    · have h1 := MapF.new Try.prog 3 (w0.alloc (.map #[] 0))
      have h2 : iF tb0.I = fun _ => none := funext fun x => by unfold iF tb0; split <;> rfl
      show MapF _ _ _ (w0.heap.size + 1) (iF tb0.I)
      rw [h2]
      rw [show (w0.alloc (.map #[] 0)).heap.size = w0.heap.size + 1 by simp] at h1
      have h1 := h1.belowS ((Below.refl _ _).alloc (Nat.le_refl _) (.map #[] 0))
      exact h1.belowS ((Below.refl _ _).alloc (Nat.le_refl _) _)
    · have h1 := MapF.new Try.prog 9 ((w0.alloc (.map #[] 0)).alloc (.map #[] 0))
      have h2 : mF tb0.M = fun _ => none := funext fun x => by unfold mF tb0; cases x <;> rfl
      show MapF _ _ _ (w0.heap.size + 1 + 1) (mF tb0.M)
      rw [h2]
      rw [show ((w0.alloc (.map #[] 0)).alloc (.map #[] 0)).heap.size = w0.heap.size + 1 + 1 by simp] at h1
      exact h1.belowS ((Below.refl _ _).alloc (Nat.le_refl _) _)
    · rw [← hw0]
      cases hj with
      | b => omega
      | k => exact Nat.le_refl _
      | i => show w0.heap.size ≤ w0.heap.size + 1; omega
      | m => show w0.heap.size ≤ w0.heap.size + 1 + 1; omega
      | l h1 h2 => exact absurd rfl h1)
  have hmm := @run_makeMap Try.prog
  go_enter Try.func11, Try.ntmps11
  go_wp2
  clear hmm
  go_ret
  exact ⟨_, rfl, (HQ w rfl).out, ((((Below.refl _ w).alloc (Nat.le_refl _) _).alloc (by simp) _).alloc (by simp; omega) _).alloc (by simp; omega) _⟩
theorem sl_forms (h : TbAt w b a s) (k : ByteArray) : ∃ ao cp, sl a s k = .slice ao (s.L k).length cp ∧ (0 < (s.L k).length → ∃ g off, ao = some ⟨g, off, none⟩) ∧ (s.L k).length ≤ cp ∧ cp ≤ 9223372036854775807 := h.slForm k
def markB (s : Tb) (k : ByteArray) (now : Int) : Bool := match s.M k with
  | some u => decide (now < u)
  | none => false
theorem t_marked (h : TbAt w b a s) (hk : k.size ≤ maxLen) (now : Int) : Calls Try.prog 19 #[.pointer (some ⟨b, 0, none⟩), .string k, .int .i64 now] w fun e w' => e = .returned (.bool (markB s k now)) ∧ w' = w := by
  have c2 := has_cell h.c 2
  have hlk := h.lookM (k := k) (kStr hk)
  unfold markB
  cases hm : s.M k with
  | none =>
    rw [hm] at hlk
    clear h hm
    go_enter Try.func19, Try.ntmps19
    go_wp2
    go_ret
    exact ⟨rfl, rfl⟩
  | some u =>
    rw [hm] at hlk
    clear h hm
    go_enter Try.func19, Try.ntmps19
    go_wp2
    go_ret
    exact ⟨rfl, rfl⟩
theorem t_mark (h : TIs w P b s) (hk : k.size ≤ maxLen) (n : Int) : Calls Try.prog 20 #[.pointer (some ⟨b, 0, none⟩), .string k, .int .i64 n] w (TPost P b (.tuple #[]) { s with M := upd s.M k (some n) } w) := by
  obtain ⟨a, h⟩ := TS.start h
  have c2 := has_cell h.t.c 2
  obtain ⟨w2, hst, h2⟩ := h.putM (kStr hk) n
  have H2 := Lib.hid h2
  clear h h2
  go_enter Try.func20, Try.ntmps20
  go_wp2
  first | go_end0 | refine bodyPost_ret (results_none rfl _ _ _) rfl ?_
  exact ⟨rfl, _, H2.out⟩
def leadV (s : Tb) (k : ByteArray) : Value := .tuple #[.int .i64 ((s.L k).headD 0), .bool (!(s.L k).isEmpty)]
theorem t_leader (h : TbAt w b a s) (hk : k.size ≤ maxLen) : Calls Try.prog 17 #[.pointer (some ⟨b, 0, none⟩), .string k] w fun e w' => e = .returned (leadV s k) ∧ w' = w := by
  have c0 := has_cell h.c 0
  have hlk := h.lookK (kStr hk)
  have hol := h.slOL k
  obtain ⟨ao, cp, hf, hao, h1, h2⟩ := h.slForm k
  rw [hf] at hlk hol
  unfold leadV
  cases hl : s.L k with
  | nil =>
    rw [hl] at hlk
    clear h hl hol hao hf h1 h2
    go_enter Try.func17, Try.ntmps17
    go_wp2
    go_ret2
    exact ⟨rfl, rfl⟩
  | cons x r =>
    rw [hl] at hlk hao hol h1
    obtain ⟨g, off, rfl⟩ := hao (by simp)
    have a0 := (show IsI w (.slice (some ⟨g, off, none⟩) (x :: r).length cp) (x :: r) from hol).at_ rfl (q := 0) (by simp)
    rw [List.length_cons] at hlk h1
    rw [show (x :: r).getD 0 0 = x from rfl, Nat.add_zero] at a0
    clear h hl hol hf hao hk
    show Calls Try.prog 17 #[.pointer (some ⟨b, 0, none⟩), .string k] w fun e w' => e = .returned (.tuple #[.int .i64 x, .bool true]) ∧ w' = w
    generalize hN : r.length + 1 = N at *
    have d0 : ((N : Int) == 0) = false := by simp; omega
    have d1 : (0 : Int) < N := by omega
    clear hN
    go_enter Try.func17, Try.ntmps17
    go_wp2
    go_ret2
    exact ⟨rfl, rfl⟩
theorem t_waiters (h : TbAt w b a s) (hk : k.size ≤ maxLen) (hn : (s.L k).length ≤ 1000000) : Calls Try.prog 22 #[.pointer (some ⟨b, 0, none⟩), .string k] w (NewI (s.L k).tail w) := by
  have c0 := has_cell h.c 0
  have hlk := h.lookK (kStr hk)
  have hol := h.slOL k
  obtain ⟨ao, cp, hf, hao, h1, h2⟩ := h.slForm k
  rw [hf] at hlk hol
  cases hl : s.L k with
  | nil =>
    rw [hl] at hlk
    clear h hl hol hao hf h1 h2
    go_enter Try.func22, Try.ntmps22
    go_wp2
    go_ret
    exact ⟨_, rfl, OL.nil _ _ _, fun k hk => by simp [Value.ownBlock] at hk, Below.refl _ _⟩
  | cons x r =>
    rw [hl] at hlk hao hol h1 hn
    obtain ⟨g, off, rfl⟩ := hao (by simp)
    have ht := OL.tail hol 1 (by simp)
    rw [List.length_cons] at hlk h1 hn ht
    rw [Nat.add_sub_cancel, Nat.one_mul, show (ints (x :: r)).drop 1 = ints r from rfl] at ht
    have HT := Lib.hid (clone_any ht (by omega))
    clear h hl hol hf hao hk ht
    show Calls Try.prog 22 #[.pointer (some ⟨b, 0, none⟩), .string k] w (NewI r w)
    rw [show r.length = r.length + 1 - 1 from rfl] at HT
    generalize hN : r.length + 1 = N at *
    have d0 : ((N : Int) == 0) = false := by simp; omega
    have d1 : 1 ≤ N := by omega
    have d2 : 1 ≤ cp := by omega
    clear hN
    by_cases hc : cp = 1
    · subst hc
      obtain rfl : N = 1 := by omega
      rw [if_pos rfl] at HT
      go_enter Try.func22, Try.ntmps22
      go_wp2_with fail
      refine HT.out.mono ?_
      intro e w' hN
      obtain ⟨v, rfl, hN2⟩ := hN
      go_wp2
      go_ret
      exact ⟨_, rfl, hN2⟩
    · rw [if_neg hc] at HT
      go_enter Try.func22, Try.ntmps22
      go_wp2_with fail
      refine HT.out.mono ?_
      intro e w' hN
      obtain ⟨v, rfl, hN2⟩ := hN
      go_wp2
      go_ret
      exact ⟨_, rfl, hN2⟩
end
end Go.Proofs.Ytfnohilhlofimaa

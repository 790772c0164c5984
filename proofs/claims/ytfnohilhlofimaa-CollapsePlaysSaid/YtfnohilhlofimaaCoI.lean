/- collapse: the calls as the statements see them: a table of new blocks apart from those that are kept. Conditions: each contract names its own. -/
import Derived.Test.YtfnohilhlofimaaCoH
namespace Go.Proofs.Ytfnohilhlofimaa
open Go.RowKit

/-- Blocks K are as they were. -/
def Same (K : Nat → Prop) (w w' : World) : Prop := ∀ k, K k → w'.heap[k]? = w.heap[k]?
/-- Since w0 the table s was made at b, in blocks of its own that are not of K. -/
structure CT (w0 : World) (K : Nat → Prop) (b N : Nat) (s : Tb) (w : World) : Prop where
  t : TIs w (fun k => w0.heap.size ≤ k ∧ ¬ K k) b s
  ok : TbOk N s
  be : Below w0.heap.size w0 w
  lt : ∀ k, K k → k < w.heap.size
def CP (w0 : World) (K : Nat → Prop) (b N : Nat) (s : Tb) (v : Value) (w : World) (e : Ending) (w' : World) : Prop := e = .returned v ∧ CT w0 K b N s w' ∧ Same K w w'
/-- A call that gives a new list and leaves the table as it is. -/
def CI (w0 : World) (K : Nat → Prop) (b N : Nat) (s : Tb) (l : List Int) (w : World) (e : Ending) (w' : World) : Prop :=
  ∃ ao cp, e = .returned (.slice ao l.length cp) ∧ IsI w' (.slice ao l.length cp) l ∧ CT w0 (fun k => K k ∨ (Value.slice ao l.length cp).ownBlock = some k) b N s w' ∧ Below w.heap.size w w'
def CK (w0 : World) (K : Nat → Prop) (b N : Nat) (s : Tb) (l : List ByteArray) (w : World) (e : Ending) (w' : World) : Prop :=
  ∃ ao cp, e = .returned (.slice ao l.length cp) ∧ IsT w' (.slice ao l.length cp) l ∧ CT w0 (fun k => K k ∨ (Value.slice ao l.length cp).ownBlock = some k) b N s w' ∧ Below w.heap.size w w'
section
variable {w0 w w1 w' : World} {K J : Nat → Prop} {b N : Nat} {s s' : Tb} {k : ByteArray} {n now : Int}
theorem Same.refl (K : Nat → Prop) (w : World) : Same K w w := fun _ _ => rfl
theorem Same.trans (h : Same K w w1) (h' : Same K w1 w') : Same K w w' := fun k hk => (h' k hk).trans (h k hk)
theorem Same.mono (h : Same K w w') (hJ : ∀ k, J k → K k) : Same J w w' := fun k hk => h k (hJ k hk)
theorem CT.bel (h : CT w0 K b N s w) (hb : Below w.heap.size w w') : CT w0 K b N s w' :=
  ⟨h.t.belowS hb, h.ok, h.be.trans (hb.mono h.be.size), fun k hk => Nat.lt_of_lt_of_le (h.lt k hk) hb.size⟩
theorem CT.same (h : CT w0 K b N s w) (hb : Below w.heap.size w w') : Same K w w' := fun k hk => hb.block k (h.lt k hk)
theorem CT.less (h : CT w0 K b N s w) (hJ : ∀ k, J k → K k) : CT w0 J b N s w := ⟨h.t.mono fun k hk => ⟨hk.1, fun h => hk.2 (hJ k h)⟩, h.ok, h.be, fun k hk => h.lt k (hJ k hk)⟩
theorem CT.up {N' : Nat} (h : CT w0 K b N s w) (hu : TUp (fun k => w0.heap.size ≤ k ∧ ¬ K k) b s' w w') (ho : TbOk N' s') : CT w0 K b N' s' w' ∧ Same K w w' :=
  ⟨⟨hu.is.mono fun k hk => by
      rcases hk with hk | hk
      · exact hk
      · exact ⟨Nat.le_trans h.be.size hk, fun hK => by have := h.lt k hK; omega⟩, ho, h.be.trans (hu.only.below h.be.size fun k hk => hk.1), fun k hk => Nat.lt_of_lt_of_le (h.lt k hk) hu.only.size⟩,
    fun k hk => hu.only.block k (h.lt k hk) fun e => e.2 hk⟩
theorem CT.newI {l : List Int} {e : Ending} (h : CT w0 K b N s w) (hn : NewI l w e w') : CI w0 K b N s l w e w' := by
  obtain ⟨v, rfl, hv, hf, hb⟩ := hn
  obtain ⟨ao, cp, rfl, _⟩ := hv.form
  have h' := h.bel hb
  exact ⟨ao, cp, rfl, hv, ⟨(h.t.bound.belowS hb).mono fun k hk => ⟨hk.1.1, fun hK => by
    rcases hK with hK | hK
    · exact hk.1.2 hK
    · have := hf k hK; have := hk.2; omega⟩, h.ok, h'.be, fun k hk => by
    rcases hk with hk | hk
    · exact h'.lt k hk
    · exact OL.lt hv k hk⟩, hb⟩
theorem IsT.form {v : Value} {l : List ByteArray} (h : IsT w v l) : ∃ ao cap, v = .slice ao l.length cap ∧ (0 < l.length → ∃ g off, ao = some ⟨g, off, none⟩) ∧ l.length ≤ cap ∧ cap ≤ 9223372036854775807 := by
  rcases OL.forms h with ⟨e, e0⟩ | ⟨g, off, cp, e, h1, h2, _⟩
  · exact ⟨none, 0, by rw [e, e0], fun h => by omega, by omega, by omega⟩
  · exact ⟨_, cp, e, fun _ => ⟨g, off, rfl⟩, h1, h2⟩
theorem CT.newT {l : List ByteArray} {e : Ending} (h : CT w0 K b N s w) (hn : NewT l w e w') : CK w0 K b N s l w e w' := by
  obtain ⟨v, rfl, hv, hf, hb⟩ := hn
  obtain ⟨ao, cp, rfl, _⟩ := hv.form
  have h' := h.bel hb
  exact ⟨ao, cp, rfl, hv, ⟨(h.t.bound.belowS hb).mono fun k hk => ⟨hk.1.1, fun hK => by
    rcases hK with hK | hK
    · exact hk.1.2 hK
    · have := hf k hK; have := hk.2; omega⟩, h.ok, h'.be, fun k hk => by
    rcases hk with hk | hk
    · exact h'.lt k hk
    · exact OL.lt hv k hk⟩, hb⟩
theorem TbOk.isK (h : TbOk N s) (k : ByteArray) : ∀ x ∈ s.L k, IsK Try.prog 3 (.int .i64 x) := fun x hx => kInt (h.bd k x hx)
theorem c_new (w : World) : Calls Try.prog 11 #[] w fun e w' => ∃ b, e = .returned (.pointer (some ⟨b, 0, none⟩)) ∧ CT w (fun _ => False) b 0 tb0 w' :=
  (t_new w).mono fun e w' ⟨b, he, h, hb⟩ => ⟨b, he, h.mono fun k hk => ⟨hk, fun f => f⟩, tb0_ok, hb, fun _ f => f.elim⟩
theorem c_ask (h : CT w0 K b N s w) (hN : N ≤ 1000) (hk : k ∈ cU) (hn : -9223372036854775808 ≤ n ∧ n ≤ 9223372036854775807) (now : Int) :
    Calls Try.prog 13 #[.pointer (some ⟨b, 0, none⟩), .string k, .int .i64 n, .int .i64 now] w (CP w0 K b (N + 1) (AskS s k n now) (.tuple #[.int .i64 (askN s k n now), errV (askE s n)]) w) := by
  have hok := h.ok.ask (now := now) hk hn
  have hl := h.ok.ln k
  cases hi : (s.I n).isSome with
  | true =>
    have e1 : AskS s k n now = s := if_pos (.inl hi)
    have e2 : askN s k n now = 0 := if_pos hi
    have e3 : askE s n = 4 := if_pos hi
    rw [e1] at hok
    rw [e1, e2, e3]
    exact (t_ask_there h.t (kInt hn) hi k now).mono fun e w' ⟨he, hw⟩ => ⟨he, by rw [hw]; exact ⟨⟨h.t, hok, h.be, h.lt⟩, Same.refl _ _⟩⟩
  | false =>
    have e3 : askE s n = 0 := if_neg (by rw [hi]; decide)
    rw [e3]
    cases hm : markB s k now with
    | true =>
      have e1 : AskS s k n now = s := if_pos (.inr hm)
      have e2 : askN s k n now = 3 := by unfold askN; rw [if_neg (by rw [hi]; decide), if_pos hm]
      rw [e1] at hok
      rw [e1, e2]
      exact (t_ask_pass h.t (cU_size hk) (kInt hn) hi hm).mono fun e w' ⟨he, hw⟩ => ⟨he, by rw [hw]; exact ⟨⟨h.t, hok, h.be, h.lt⟩, Same.refl _ _⟩⟩
    | false =>
      have e1 : AskS s k n now = { s with I := upd s.I n (some k), L := upd s.L k (s.L k ++ [n]) } := if_neg (by rw [hi, hm]; decide)
      rw [e1] at hok
      rw [e1]
      exact (t_ask_new h.t (cU_size hk) (kInt hn) (by omega) hi hm).mono fun e w' ⟨he, hu⟩ => ⟨he, h.up hu hok⟩
theorem c_mark (h : CT w0 K b N s w) (hk : k ∈ cU) (n : Int) : Calls Try.prog 20 #[.pointer (some ⟨b, 0, none⟩), .string k, .int .i64 n] w (CP w0 K b N (MarkS s k n) (.tuple #[]) w) :=
  (t_mark h.t (cU_size hk) n).mono fun e w' ⟨he, hu⟩ => ⟨he, h.up hu h.ok.mark⟩
theorem c_marked (h : CT w0 K b N s w) (hk : k ∈ cU) (now : Int) : Calls Try.prog 19 #[.pointer (some ⟨b, 0, none⟩), .string k, .int .i64 now] w fun e w' => e = .returned (.bool (markB s k now)) ∧ w' = w := by
  obtain ⟨a, h, _⟩ := h.t
  exact t_marked h (cU_size hk) now
theorem c_leader (h : CT w0 K b N s w) (hk : k ∈ cU) : Calls Try.prog 17 #[.pointer (some ⟨b, 0, none⟩), .string k] w fun e w' => e = .returned (leadV s k) ∧ w' = w := by
  obtain ⟨a, h, _⟩ := h.t
  exact t_leader h (cU_size hk)
theorem c_waiters (h : CT w0 K b N s w) (hN : N ≤ 1000) (hk : k ∈ cU) : Calls Try.prog 22 #[.pointer (some ⟨b, 0, none⟩), .string k] w (CI w0 K b N s (s.L k).tail w) := by
  obtain ⟨a, ht, _⟩ := id h.t
  have := h.ok.ln k
  exact (t_waiters ht (cU_size hk) (by omega)).mono fun _ _ hn => h.newI hn
open Classical in
noncomputable def keysS (s : Tb) : List ByteArray := cU.filter fun k => decide (s.L k ≠ [])
theorem keysS_asc (s : Tb) : Asc (keysS s) := List.Pairwise.filter _ cU_asc
theorem keysS_mem (h : TbOk N s) (k : ByteArray) : s.L k ≠ [] ↔ k ∈ keysS s := by
  unfold keysS
  rw [List.mem_filter, decide_eq_true_eq]
  exact ⟨fun hk => ⟨h.un k hk, hk⟩, fun hk => hk.2⟩
theorem keysS_len (s : Tb) : (keysS s).length ≤ 8 := List.length_filter_le _ _
theorem c_keys (h : CT w0 K b N s w) : Calls Try.prog 21 #[.pointer (some ⟨b, 0, none⟩)] w (CK w0 K b N s (keysS s) w) := by
  obtain ⟨a, ht, _⟩ := id h.t
  exact (t_keys ht (keysS_asc s) (keysS_mem h.ok) (by have := keysS_len s; omega)).mono fun _ _ hn => h.newT hn
theorem c_fail (h : CT w0 K b N s w) (hk : k ∈ cU) : Calls Try.prog 14 #[.pointer (some ⟨b, 0, none⟩), .string k] w (CP w0 K b N (FailS s k) (.tuple #[.int .i64 (failN s k), .bool (failOk s k), errV (failE s k)]) w) :=
  (t_fail h.t (cU_size hk) (h.ok.isK k)).mono fun e w' ⟨he, hu⟩ => ⟨he, h.up hu h.ok.fail⟩
/-- What Done gives. -/
def CD (w0 : World) (K : Nat → Prop) (b N : Nat) (s : Tb) (l : List Int) (er : Int) (w : World) (e : Ending) (w' : World) : Prop :=
  ∃ ao cp, e = .returned (.tuple #[.slice ao l.length cp, errV er]) ∧ IsI w' (.slice ao l.length cp) l ∧ CT w0 K b N s w' ∧ Same K w w'
theorem c_done (h : CT w0 K b N s w) (hN : N ≤ 1000) (hk : k ∈ cU) : Calls Try.prog 16 #[.pointer (some ⟨b, 0, none⟩), .string k] w (CD w0 K b N (DoneT s k) (s.L k).tail (if s.L k = [] then 3 else 0) w) := by
  have := h.ok.ln k
  refine (t_done h.t (cU_size hk) (h.ok.isK k) (by omega)).mono ?_
  rintro e w' ⟨v, rfl, hv, _, hu⟩
  obtain ⟨ao, cp, rfl, _⟩ := hv.form
  exact ⟨ao, cp, rfl, hv, h.up hu h.ok.done⟩
open Classical in
/-- What Leave returns. -/
noncomputable def leaveN (s : Tb) (n : Int) : Int := match s.I n with
  | none => 0
  | some k => if (s.L k).head? = some n then failN s k else 0
open Classical in
noncomputable def leaveOk (s : Tb) (n : Int) : Bool := match s.I n with
  | none => false
  | some k => if (s.L k).head? = some n then failOk s k else false
def leaveE (s : Tb) (n : Int) : Int := if (s.I n).isSome = true then 0 else 3
theorem c_leave (h : CT w0 K b N s w) (hN : N ≤ 1000) (hn : -9223372036854775808 ≤ n ∧ n ≤ 9223372036854775807) :
    Calls Try.prog 23 #[.pointer (some ⟨b, 0, none⟩), .int .i64 n] w (CP w0 K b N (RemS s n) (.tuple #[.int .i64 (leaveN s n), .bool (leaveOk s n), errV (leaveE s n)]) w) := by
  have hok := h.ok.rem (n := n)
  unfold leaveN leaveOk leaveE
  cases hi : s.I n with
  | none =>
    have e1 : RemS s n = s := by unfold RemS; rw [hi]
    rw [e1]
    exact (t_leave_none h.t (kInt hn) hi).mono fun e w' ⟨he, hu⟩ => ⟨he, h.up hu h.ok⟩
  | some k =>
    have hm := (h.ok.iL n k).1 hi
    have hku := h.ok.un k (List.ne_nil_of_mem hm)
    cases hl : s.L k with
    | nil => rw [hl] at hm; cases hm
    | cons x r =>
      by_cases hx : x = n
      · subst hx
        rw [← h.ok.fail_eq hl] at hok ⊢
        have e : ((x :: r).head? = some x) := rfl
        rw [← hl] at e
        simp only [e, if_true]
        have := t_leave_lead h.t (kInt hn) hi (cU_size hku) hl (h.ok.isK k)
        rw [show failE s k = 0 by unfold failE; rw [hl]; rfl] at this
        exact this.mono fun e w' ⟨he, hu⟩ => ⟨he, h.up hu hok⟩
      · have e : ¬ ((x :: r).head? = some n) := fun e => hx (Option.some.inj e)
        rw [← hl] at e
        simp only [e, if_false]
        have hi2 : (s.L k).idxOf n < (s.L k).length := List.idxOf_lt_length_of_mem hm
        have hg : (s.L k)[(s.L k).idxOf n]'hi2 = n := List.getElem_idxOf hi2
        have e2 : RemS s n = { s with I := upd s.I n none, L := upd s.L k ((s.L k).take ((s.L k).idxOf n) ++ (s.L k).drop ((s.L k).idxOf n + 1)) } := by
          have e3 : (s.L k).erase n = (s.L k).take ((s.L k).idxOf n) ++ (s.L k).drop ((s.L k).idxOf n + 1) := by
            rw [List.erase_eq_eraseIdx_of_idxOf rfl, List.eraseIdx_eq_take_drop_succ]
          rw [← e3]
          unfold RemS
          rw [hi]
        rw [e2] at hok ⊢
        have hlk := h.ok.ln k
        refine (t_leave_wait (i := (s.L k).idxOf n) h.t (kInt hn) hi (cU_size hku) hi2 ?_ ?_ ?_ (by omega)).mono fun e w' ⟨he, hu⟩ => ⟨he, h.up hu hok⟩
        · intro e0
          have : (s.L k).idxOf n = 0 := e0
          simp only [this] at hg
          simp only [hl, List.getElem_cons_zero] at hg
          exact hx hg
        · rw [List.getD_eq_getElem?_getD, List.getElem?_eq_getElem hi2]; exact hg
        · intro j hj
          have hjl : j < (s.L k).length := by omega
          rw [List.getD_eq_getElem?_getD, List.getElem?_eq_getElem hjl]
          intro e
          have := List.not_of_lt_findIdx hj
          simp at this
          exact this e
end
end Go.Proofs.Ytfnohilhlofimaa

/- collapse: the plain law of CollapseFollows: what a crowd makes of a table. Conditions: each its own. -/
import Derived.Test.YtfnohilhlofimaaCoSee
namespace Go.Proofs.Ytfnohilhlofimaa
open Go.RowKit

def RtP (w : World) (e : Ending) (w' : World) : Prop := e = .returned (.bool true) ∧ Below w.heap.size w w'
/-- Between the rounds of a script: so many steps are done. -/
def PlR (w0 : World) (b j : Nat) (wr : World) : Prop := ∃ s, CT w0 (fun _ => False) b j s wr ∧ Sm s
theorem PlR.be {w0 w : World} {b j : Nat} (h : PlR w0 b j w) : Below w0.heap.size w0 w := by obtain ⟨s, h, _⟩ := h; exact h.be
def kc : ByteArray := ⟨#[99, 114, 111, 119, 100]⟩
theorem kc_cU : kc ∈ cU := by simp [kc, cU]
theorem kc_c5 : kc ∉ c5 := by simp [kc, c5]
section
variable {s : Tb} {N n i j : Nat} {m : Int} {k : ByteArray}
theorem Sm.noL (h : Sm s) (hk : k ∉ c5) : s.L k = [] := Classical.byContradiction fun e => hk (h.l k e)
theorem Sm.noM (h : Sm s) (hk : k ∉ c5) : s.M k = none := Classical.byContradiction fun e => hk (h.m k e)
theorem Sm.noI (h : Sm s) (ho : TbOk N s) (hm : 127 < m) : s.I m = none := by
  cases e : s.I m with
  | none => rfl
  | some k => have := h.i k m ((ho.iL m k).1 e); omega
theorem mark_none (h : s.M k = none) (now : Int) : markB s k now = false := by unfold markB; rw [h]
def crowd (i : Nat) : List Int := (List.range i).map fun (j : Nat) => 1000 + (j : Int)
theorem crowd_len (i : Nat) : (crowd i).length = i := by simp [crowd]
theorem crowd_succ (i : Nat) : crowd (i + 1) = crowd i ++ [1000 + (i : Int)] := by simp [crowd, List.range_succ]
theorem crowd_get (h : j < n) : (crowd n).getD j 0 = 1000 + (j : Int) := by simp [crowd, List.getD, h]
theorem crowd_nil : crowd i = [] ↔ i = 0 := by rw [← List.length_eq_zero_iff, crowd_len]
structure Cr (i : Nat) (s : Tb) : Prop where
  l : s.L kc = crowd i
  i : ∀ m, 1000 + (i : Int) ≤ m → s.I m = none
  m : s.M kc = none
theorem Cr.start (h : Sm s) (ho : TbOk N s) : Cr 0 s := ⟨h.noL kc_c5, fun m hm => h.noI ho (by omega), h.noM kc_c5⟩
theorem Cr.ask (h : Cr i s) : Cr (i + 1) (AskS s kc (1000 + (i : Int)) 0) := by
  rw [ask_new (h.i _ (Int.le_refl _)) (mark_none h.m 0)]
  refine ⟨?_, fun m hm => ?_, h.m⟩
  · show upd s.L kc _ kc = _
    rw [upd_same, h.l, crowd_succ]
  · show upd s.I _ _ m = none
    rw [upd_other (by omega)]
    exact h.i m (by omega)
theorem Cr.nn (h : Cr i s) : askN s kc (1000 + (i : Int)) 0 = if i = 0 then 1 else 2 := by
  rw [ask_n (h.i _ (Int.le_refl _)) (mark_none h.m 0), h.l]
  simp only [crowd_nil]
theorem Cr.e (h : Cr i s) : askE s (1000 + (i : Int)) = 0 := by unfold askE; rw [h.i _ (Int.le_refl _)]; rfl
theorem fail_L (s : Tb) (k : ByteArray) : (FailS s k).L k = (s.L k).tail := by
  unfold FailS
  cases h : s.L k with
  | nil => exact h
  | cons x r => show upd s.L k r k = r; rw [upd_same]
theorem done_L (s : Tb) (k : ByteArray) : (DoneT s k).L k = [] := by
  unfold DoneT
  split
  · assumption
  · exact upd_same
theorem drop_tail (l : List Int) (j : Nat) : (l.drop j).tail = l.drop (j + 1) := by simp
theorem drop_head (hj : j < n) : ((crowd n).drop j).headD 0 = 1000 + (j : Int) := by
  have := crowd_get hj
  rw [List.getD_eq_getElem?_getD] at this
  rw [List.headD_eq_head?_getD, List.head?_drop]
  exact this
theorem fl_ok (h : s.L kc = (crowd n).drop j) (hj : j + 1 < n) : failN s kc = 1001 + (j : Int) ∧ failOk s kc = true ∧ failE s kc = 0 := by
  refine ⟨?_, ?_, ?_⟩
  · unfold failN; rw [h, drop_tail, drop_head hj]; omega
  · unfold failOk; rw [h, drop_tail]; simp [crowd_len]; omega
  · unfold failE; rw [h, if_neg (by simp [crowd_len]; omega)]
theorem fl_last (h : s.L kc = (crowd n).drop j) (hj : j + 1 = n) : failN s kc = 0 ∧ failOk s kc = false ∧ failE s kc = 0 := by
  have e : (crowd n).drop (j + 1) = [] := by rw [List.drop_eq_nil_iff, crowd_len]; omega
  refine ⟨?_, ?_, ?_⟩
  · unfold failN; rw [h, drop_tail, e]; rfl
  · unfold failOk; rw [h, drop_tail, e]; rfl
  · unfold failE; rw [h, if_neg (by simp [crowd_len]; omega)]
theorem fl_none (h : s.L kc = []) : failN s kc = 0 ∧ failOk s kc = false ∧ failE s kc = 3 := by
  refine ⟨?_, ?_, ?_⟩
  · unfold failN; rw [h]; rfl
  · unfold failOk; rw [h]; rfl
  · unfold failE; rw [h]; rfl
end
/-- So many of the crowd have asked. -/
def CrR (w0 : World) (b N i : Nat) (wr : World) : Prop := ∃ s, CT w0 (fun _ => False) b (N + i) s wr ∧ Cr i s
/-- So many leaders of n have failed. -/
def FlR (w0 : World) (b N n j : Nat) (wr : World) : Prop := ∃ s, CT w0 (fun _ => False) b N s wr ∧ s.L kc = (crowd n).drop j
theorem CrR.be {w0 w : World} {b N i : Nat} (h : CrR w0 b N i w) : Below w0.heap.size w0 w := by obtain ⟨s, h, _⟩ := h; exact h.be
theorem FlR.be {w0 w : World} {b N n i : Nat} (h : FlR w0 b N n i w) : Below w0.heap.size w0 w := by obtain ⟨s, h, _⟩ := h; exact h.be
end Go.Proofs.Ytfnohilhlofimaa

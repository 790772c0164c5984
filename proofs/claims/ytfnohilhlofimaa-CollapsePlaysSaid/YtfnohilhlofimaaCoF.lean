/- collapse: Done. Conditions: the key is short, the ids of its list are ints, the list is short. -/
import Derived.Test.YtfnohilhlofimaaCoC
namespace Go.Proofs.Ytfnohilhlofimaa
open Go.RowKit

/-- The ids of a list are taken away. -/
noncomputable def delAll (I : Int → Option ByteArray) (l : List Int) : Int → Option ByteArray := l.foldl (fun I x => upd I x none) I
theorem delAll_in {I : Int → Option ByteArray} {l : List Int} {x : Int} (h : x ∈ l ∨ I x = none) : delAll I l x = none := by
  induction l generalizing I with
  | nil => exact h.resolve_left (by simp)
  | cons y l ih =>
    refine ih ?_
    by_cases e : x = y
    · exact .inr (e ▸ upd_same)
    · show x ∈ l ∨ upd I y none x = none
      rw [upd_other e]
      rcases h with h | h
      · exact .inl ((List.mem_cons.1 h).resolve_left e)
      · exact .inr h
theorem delAll_out {I : Int → Option ByteArray} {l : List Int} {x : Int} (h : x ∉ l) : delAll I l x = I x := by
  induction l generalizing I with
  | nil => rfl
  | cons y l ih =>
    rw [List.mem_cons, not_or] at h
    show delAll (upd I y none) l x = I x
    rw [ih h.2, upd_other h.1]
theorem delAll_step {I : Int → Option ByteArray} {l : List Int} {i : Nat} (h : i < l.length) : upd (delAll I (l.take i)) (l.getD i 0) none = delAll I (l.take (i + 1)) := by
  unfold delAll
  rw [List.take_add_one, List.foldl_append]
  simp [List.getD, List.getElem?_eq_getElem h]
noncomputable def DoneS (s : Tb) (k : ByteArray) : Tb := { s with I := delAll s.I (s.L k), L := upd s.L k [] }
def DPost (P : Nat → Prop) (b : Nat) (l : List Int) (er : Int) (s' : Tb) (w : World) (e : Ending) (w' : World) : Prop :=
  ∃ v, e = .returned (.tuple #[v, errV er]) ∧ IsI w' v l ∧ (∀ k, v.ownBlock = some k → w.heap.size ≤ k) ∧ TUp P b s' w w'
section
variable {w w1 w2 w' wr : World} {b : Nat} {s s' : Tb} {a : TA} {P : Nat → Prop} {k : ByteArray} {x y : Int} {r : List Int}
theorem t_done_none (h : TIs w P b s) (hk : k.size ≤ maxLen) (h0 : s.L k = []) : Calls Try.prog 16 #[.pointer (some ⟨b, 0, none⟩), .string k] w (DPost P b [] 3 s w) := by
  have HU := Lib.hid h.up
  obtain ⟨a, h, _⟩ := h
  have c0 := has_cell h.c 0
  have hlk := h.lookK (kStr hk)
  obtain ⟨ao, cp, hf, _⟩ := h.slForm k
  rw [hf, h0] at hlk
  clear h hf h0
  go_enter Try.func16, Try.ntmps16
  go_wp2
  go_ret2
  exact ⟨_, rfl, OL.nil _ _ _, fun k hk => by simp [Value.ownBlock] at hk, HU.out⟩
/-- Behind the loop: the key goes, its list still lies. -/
theorem TS.doneTail {g off N cp : Nat} (h : TS P w b a s wr) (hk : IsK Try.prog 9 (.string k)) (hl : s.L k = x :: r) (hsl : sl a s k = .slice (some ⟨g, off, none⟩) N cp) (hN : N = r.length + 1) (ty : TypeId) :
    ∃ w3, (Builtin.delete_ #[74, 9] ty #[.map (some a.kb), .string k]).run Try.prog wr = .ok (.tuple #[]) w3 ∧ TS P w b a { s with L := upd s.L k [] } w3 ∧
      IsI w3 (.slice (if cp = 1 then some ⟨g, off, none⟩ else some ⟨g, off + 1, none⟩) (N - 1) (cp - 1)) r := by
  obtain ⟨w3, h1, h2, h3⟩ := h.dropK hk ty
  have ho := h.t.slOL k
  rw [hsl, hl] at ho
  have ho3 := OL.kept ho h3 (fun g' hg' e => h.t.k.neOL ho (by rw [hg']; exact e))
  subst hN
  have ht := OL.tail ho3 1 (by simp)
  exact ⟨w3, h1, h2, ht⟩
set_option maxRecDepth 100000 in
set_option maxHeartbeats 1600000 in
theorem t_done_s {g off cp : Nat} (h : TS P w b a s w) (hk : k.size ≤ maxLen) (hn : ∀ x ∈ s.L k, IsK Try.prog 3 (.int .i64 x)) (hl : s.L k = x :: r) (hlen : (s.L k).length ≤ 1000000)
    (hsl : sl a s k = .slice (some ⟨g, off, none⟩) (s.L k).length cp) (hle : (s.L k).length ≤ cp) (hcp : cp ≤ 9223372036854775807) (hc : cp = 1) :
    Calls Try.prog 16 #[.pointer (some ⟨b, 0, none⟩), .string k] w (DPost P b r 0 { s with I := delAll s.I (s.L k), L := upd s.L k [] } w) := by
  have hkk := kStr hk
  have hlk0 := h.t.lookK hkk
  have c0 := (has_cell h.t.c 0).trans (show _ = some (Value.map (some a.kb)) from rfl)
  rw [hsl] at hlk0
  have H0 : Hid (TS P w b a { s with I := delAll s.I ((s.L k).take 0) } w) := Lib.hid h
  have HR : Hid (∀ (i : Nat) (wr : World), TS P w b a { s with I := delAll s.I ((s.L k).take i) } wr → i < (s.L k).length → ∃ w2, (Builtin.delete_ #[75, 3] 0 #[.map (some a.ib), .int .i64 ((s.L k).getD i 0)]).run Try.prog wr = .ok (.tuple #[]) w2 ∧ TS P w b a { s with I := delAll s.I ((s.L k).take (i + 1)) } w2 ∧ wr.cell? ⟨g, off + i, none⟩ = some (.int .i64 ((s.L k).getD i 0)) ∧ wr.cell? ⟨b, 0, none⟩ = some (.map (some a.kb)) ∧ wr.cell? ⟨b, 1, none⟩ = some (.map (some a.ib))) := Lib.hid fun i wr ht hi => by
    have hx : IsK Try.prog 3 (.int .i64 ((s.L k).getD i 0)) := hn _ (by rw [List.getD_eq_getElem?_getD, List.getElem?_eq_getElem hi]; exact List.getElem_mem ..)
    obtain ⟨w2, h1, h2, _⟩ := ht.delI hx 0
    have h2 : TS P w b a { s with I := upd (delAll s.I ((s.L k).take i)) ((s.L k).getD i 0) none } w2 := h2
    rw [delAll_step hi] at h2
    have ho := ht.t.slOL k
    rw [show sl a { s with I := delAll s.I ((s.L k).take i) } k = sl a s k from rfl, hsl] at ho
    exact ⟨w2, h1, h2, (show IsI wr (.slice (some ⟨g, off, none⟩) (s.L k).length cp) (s.L k) from ho).at_ rfl hi, has_cell ht.t.c 0, has_cell ht.t.c 1⟩
  have HE : Hid (∀ wr, TS P w b a { s with I := delAll s.I ((s.L k).take (s.L k).length) } wr → wr.cell? ⟨b, 0, none⟩ = some (.map (some a.kb)) ∧ ∃ w3, (Builtin.delete_ #[74, 9] 0 #[.map (some a.kb), .string k]).run Try.prog wr = .ok (.tuple #[]) w3 ∧
      Calls Try.prog 34 #[.slice (some ⟨g, off, none⟩) 0 0] w3 fun e w' => ∃ v, e = .returned v ∧ IsI w' v r ∧ (∀ k, v.ownBlock = some k → w.heap.size ≤ k) ∧ TUp P b { s with I := delAll s.I (s.L k), L := upd s.L k [] } w w') := Lib.hid fun wr ht => by
    rw [List.take_length] at ht
    obtain ⟨w3, h1, h2, h3⟩ := ht.doneTail hkk (x := x) (r := r) hl (show sl a { s with I := delAll s.I (s.L k) } k = _ from hsl) (by rw [hl]; rfl) 0
    refine ⟨has_cell ht.t.c 0, w3, h1, ?_⟩
    subst hc
    rw [if_pos rfl] at h3
    rw [show (s.L k).length - 1 = 0 by omega, Nat.sub_self] at h3
    refine (clone_any h3 (by have := hlen; rw [hl, List.length_cons] at this; omega)).mono ?_
    rintro e w' ⟨v, rfl, hv, hf, hb⟩
    exact ⟨v, rfl, hv, fun j hj => Nat.le_trans h2.o.size (hf j hj), _, h2.belowS hb⟩
  have hN1 : 1 ≤ (s.L k).length := by rw [hl]; simp
  generalize hNN : (s.L k).length = N at *
  have d0 : ((N : Int) == 0) = false := by simp; omega
  have d1 : (1 : Int) ≤ N := by omega
  have d2 : 1 ≤ cp := by omega
  subst hc
  clear h hl hsl hkk hk hNN hn
  go_enter Try.func16, Try.ntmps16
  go_wp2_with fail
  go_loopw [30] (fun iv wr => ∃ i : Nat, i ≤ N ∧ iv = .int .i64 i ∧ Hid (TS P w b a { s with I := delAll s.I ((s.L k).take i) } wr)) (fun iv _ => N - (intOf iv).toNat)
  case atStart => exact ⟨0, Nat.zero_le _, rfl, H0⟩
  case round =>
    obtain ⟨i, hi, rfl, HT⟩ := hrel
    by_cases hiN : i = N
    · subst hiN
      obtain ⟨hc0, w3, hdl, HC⟩ := HE.out _ HT.out
      have HC := Lib.hid HC
      go_wp2_with fail
      refine HC.out.mono ?_
      rintro e wx ⟨v, rfl, hv, hf, hu⟩
      have HQ := Lib.hid (And.intro hv (And.intro hf hu))
      clear hv hf hu
      go_wp2
      go_ret2
      exact ⟨_, rfl, HQ.out⟩
    · have hlt : i < N := by omega
      obtain ⟨w2, hdl, ht2, hcx, hc0, hc1⟩ := HR.out i _ HT.out hlt
      have HT2 := Lib.hid ht2
      clear ht2
      generalize (s.L k).getD i 0 = xx at *
      have dlt : decide ((i : Int) < N) = true := by simp; omega
      go_wp2
      go_roundw
      case rel => exact ⟨i + 1, by omega, by go_num, HT2⟩
      case measure => simp [intOf]; omega
set_option maxRecDepth 100000 in
set_option maxHeartbeats 1600000 in
theorem t_done_l {g off cp : Nat} (h : TS P w b a s w) (hk : k.size ≤ maxLen) (hn : ∀ x ∈ s.L k, IsK Try.prog 3 (.int .i64 x)) (hl : s.L k = x :: r) (hlen : (s.L k).length ≤ 1000000)
    (hsl : sl a s k = .slice (some ⟨g, off, none⟩) (s.L k).length cp) (hle : (s.L k).length ≤ cp) (hcp : cp ≤ 9223372036854775807) (hc : ¬ cp = 1) :
    Calls Try.prog 16 #[.pointer (some ⟨b, 0, none⟩), .string k] w (DPost P b r 0 { s with I := delAll s.I (s.L k), L := upd s.L k [] } w) := by
  have hkk := kStr hk
  have hlk0 := h.t.lookK hkk
  have c0 := (has_cell h.t.c 0).trans (show _ = some (Value.map (some a.kb)) from rfl)
  rw [hsl] at hlk0
  have H0 : Hid (TS P w b a { s with I := delAll s.I ((s.L k).take 0) } w) := Lib.hid h
  have HR : Hid (∀ (i : Nat) (wr : World), TS P w b a { s with I := delAll s.I ((s.L k).take i) } wr → i < (s.L k).length → ∃ w2, (Builtin.delete_ #[75, 3] 0 #[.map (some a.ib), .int .i64 ((s.L k).getD i 0)]).run Try.prog wr = .ok (.tuple #[]) w2 ∧ TS P w b a { s with I := delAll s.I ((s.L k).take (i + 1)) } w2 ∧ wr.cell? ⟨g, off + i, none⟩ = some (.int .i64 ((s.L k).getD i 0)) ∧ wr.cell? ⟨b, 0, none⟩ = some (.map (some a.kb)) ∧ wr.cell? ⟨b, 1, none⟩ = some (.map (some a.ib))) := Lib.hid fun i wr ht hi => by
    have hx : IsK Try.prog 3 (.int .i64 ((s.L k).getD i 0)) := hn _ (by rw [List.getD_eq_getElem?_getD, List.getElem?_eq_getElem hi]; exact List.getElem_mem ..)
    obtain ⟨w2, h1, h2, _⟩ := ht.delI hx 0
    have h2 : TS P w b a { s with I := upd (delAll s.I ((s.L k).take i)) ((s.L k).getD i 0) none } w2 := h2
    rw [delAll_step hi] at h2
    have ho := ht.t.slOL k
    rw [show sl a { s with I := delAll s.I ((s.L k).take i) } k = sl a s k from rfl, hsl] at ho
    exact ⟨w2, h1, h2, (show IsI wr (.slice (some ⟨g, off, none⟩) (s.L k).length cp) (s.L k) from ho).at_ rfl hi, has_cell ht.t.c 0, has_cell ht.t.c 1⟩
  have HE : Hid (∀ wr, TS P w b a { s with I := delAll s.I ((s.L k).take (s.L k).length) } wr → wr.cell? ⟨b, 0, none⟩ = some (.map (some a.kb)) ∧ ∃ w3, (Builtin.delete_ #[74, 9] 0 #[.map (some a.kb), .string k]).run Try.prog wr = .ok (.tuple #[]) w3 ∧
      Calls Try.prog 34 #[.slice (some ⟨g, off + 1, none⟩) ((s.L k).length - 1) (cp - 1)] w3 fun e w' => ∃ v, e = .returned v ∧ IsI w' v r ∧ (∀ k, v.ownBlock = some k → w.heap.size ≤ k) ∧ TUp P b { s with I := delAll s.I (s.L k), L := upd s.L k [] } w w') := Lib.hid fun wr ht => by
    rw [List.take_length] at ht
    obtain ⟨w3, h1, h2, h3⟩ := ht.doneTail hkk (x := x) (r := r) hl (show sl a { s with I := delAll s.I (s.L k) } k = _ from hsl) (by rw [hl]; rfl) 0
    refine ⟨has_cell ht.t.c 0, w3, h1, ?_⟩
    skip
    rw [if_neg hc] at h3
    skip
    refine (clone_any h3 (by have := hlen; rw [hl, List.length_cons] at this; omega)).mono ?_
    rintro e w' ⟨v, rfl, hv, hf, hb⟩
    exact ⟨v, rfl, hv, fun j hj => Nat.le_trans h2.o.size (hf j hj), _, h2.belowS hb⟩
  have hN1 : 1 ≤ (s.L k).length := by rw [hl]; simp
  generalize hNN : (s.L k).length = N at *
  have d0 : ((N : Int) == 0) = false := by simp; omega
  have d1 : (1 : Int) ≤ N := by omega
  have d2 : 1 ≤ cp := by omega
  skip
  clear h hl hsl hkk hk hNN hn
  go_enter Try.func16, Try.ntmps16
  go_wp2_with fail
  go_loopw [30] (fun iv wr => ∃ i : Nat, i ≤ N ∧ iv = .int .i64 i ∧ Hid (TS P w b a { s with I := delAll s.I ((s.L k).take i) } wr)) (fun iv _ => N - (intOf iv).toNat)
  case atStart => exact ⟨0, Nat.zero_le _, rfl, H0⟩
  case round =>
    obtain ⟨i, hi, rfl, HT⟩ := hrel
    by_cases hiN : i = N
    · subst hiN
      obtain ⟨hc0, w3, hdl, HC⟩ := HE.out _ HT.out
      have HC := Lib.hid HC
      go_wp2_with fail
      refine HC.out.mono ?_
      rintro e wx ⟨v, rfl, hv, hf, hu⟩
      have HQ := Lib.hid (And.intro hv (And.intro hf hu))
      clear hv hf hu
      go_wp2
      go_ret2
      exact ⟨_, rfl, HQ.out⟩
    · have hlt : i < N := by omega
      obtain ⟨w2, hdl, ht2, hcx, hc0, hc1⟩ := HR.out i _ HT.out hlt
      have HT2 := Lib.hid ht2
      clear ht2
      generalize (s.L k).getD i 0 = xx at *
      have dlt : decide ((i : Int) < N) = true := by simp; omega
      go_wp2
      go_roundw
      case rel => exact ⟨i + 1, by omega, by go_num, HT2⟩
      case measure => simp [intOf]; omega
/-- What Done leaves and returns. -/
theorem t_done (h : TIs w P b s) (hk : k.size ≤ maxLen) (hn : ∀ x ∈ s.L k, IsK Try.prog 3 (.int .i64 x)) (hlen : (s.L k).length ≤ 1000000) :
    Calls Try.prog 16 #[.pointer (some ⟨b, 0, none⟩), .string k] w (DPost P b (s.L k).tail (if s.L k = [] then 3 else 0) (if s.L k = [] then s else DoneS s k) w) := by
  cases hl : s.L k with
  | nil => rw [if_pos rfl, if_pos rfl]; exact t_done_none h hk hl
  | cons x r =>
    rw [if_neg (List.cons_ne_nil _ _), if_neg (List.cons_ne_nil _ _)]
    obtain ⟨a, h⟩ := TS.start h
    obtain ⟨ao, cp, hsl, hao, hle, hcm⟩ := h.t.slForm k
    obtain ⟨g, off, rfl⟩ := hao (by rw [hl]; simp)
    by_cases hc : cp = 1
    · exact t_done_s h hk hn hl hlen hsl hle hcm hc
    · exact t_done_l h hk hn hl hlen hsl hle hcm hc
end
end Go.Proofs.Ytfnohilhlofimaa

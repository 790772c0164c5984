/- collapse: plain: what the document's functions give is what the program's give. Conditions: the document's rows and marks are the table's. -/
import Derived.Test.YtfnohilhlofimaaCoDh
namespace Go.Proofs.Ytfnohilhlofimaa
open Go.RowKit

/-- The document's table is the table s. -/
structure Sim (s : Tb) (T : List TR) (M : List (ByteArray × Int)) : Prop where
  r : fgt T = rowsL s.L
  m : markOf M = s.M
section
variable {s : Tb} {N : Nat} {T T' : List TR} {M : List (ByteArray × Int)} {k : ByteArray} {id now a b nx : Int} {ok : Bool}
theorem getD_of {α : Type} {l : List α} {i : Nat} {x d : α} (h : l[i]? = some x) : l.getD i d = x := by simp [List.getD, h]
theorem erase_at {x : Int} : ∀ {l : List Int} {j : Nat}, l.Nodup → l[j]? = some x → l.eraseIdx j = l.erase x
  | [], j, _, h => by simp at h
  | y :: l, 0, _, h => by
    have : y = x := by simpa using h
    subst this
    simp
  | y :: l, j + 1, hn, h => by
    have h1 : l[j]? = some x := by simpa using h
    rw [List.nodup_cons] at hn
    have hne : y ≠ x := fun e => hn.1 (by rw [e]; exact List.mem_of_getElem? h1)
    rw [List.eraseIdx_cons_succ, List.erase_cons_tail (by simpa using hne), erase_at hn.2 h1]
theorem toList_self (k : ByteArray) : (k.toList == k.toList) = true := beq_self_eq_true _
theorem Sim.there (h : Sim s T M) (hk : k ∈ cU) (hl : s.L k ≠ []) : thereD (fgt T) k = true ∧ (T.getD (placeD (fgt T) k) dTR).1 = k ∧ (T.getD (placeD (fgt T) k) dTR).2.1 = s.L k := by
  have h1 := (rows_with hk hl []).2
  have h2 := fgt_get T (placeD (fgt T) k)
  rw [h.r] at h2 ⊢
  rw [getD_of h1] at h2
  refine ⟨?_, (congrArg Prod.fst h2).symm, (congrArg Prod.snd h2).symm⟩
  unfold thereD
  rw [h1]
  exact toList_self k
theorem Sim.gone (h : Sim s T M) (hk : k ∈ cU) (hl : s.L k = []) : thereD (fgt T) k = false := by
  have h1 := (rows_new hk hl (ids := [0]) (by simp)).2.2
  rw [h.r]
  unfold thereD
  cases h2 : (rowsL s.L)[placeD (rowsL s.L) k]? with
  | none => rfl
  | some r =>
    show (r.1.toList == k.toList) = false
    cases h3 : (r.1.toList == k.toList)
    · rfl
    · exact absurd (eqT_iff.1 h3) (h1 r h2)
theorem Sim.marked (h : Sim s T M) (k : ByteArray) (now : Int) : markedD M k now = markB s k now := by
  unfold markedD markB
  rw [h.m]
  cases s.M k <;> rfl
theorem Sim.find_none (h : Sim s T M) (ho : TbOk N s) (hf : FindR T id none) : s.I id = none := by
  cases hf with
  | none hn =>
    cases hi : s.I id with
    | none => rfl
    | some k =>
      obtain ⟨_, _, h3, h4, _⟩ := rows_id ho hi
      have h5 := fgt_get T (placeD (rowsL s.L) k)
      rw [h.r, getD_of h3] at h5
      have hlt : placeD (rowsL s.L) k < T.length := by
        rw [← fgt_len T, h.r]
        exact (List.getElem?_eq_some_iff.1 h3).1
      have e2 : s.L k = (T.getD (placeD (rowsL s.L) k) dTR).2.1 := congrArg Prod.snd h5
      exact absurd (by rw [← e2]; exact h4) (hn _ hlt)
theorem Sim.find_some (h : Sim s T M) (ho : TbOk N s) {i j : Nat} (hf : FindR T id (some (i, j))) : ∃ k, s.I id = some k ∧ k ∈ cU ∧ s.L k ≠ [] ∧ i = placeD (fgt T) k ∧ (T.getD i dTR).1 = k ∧ (T.getD i dTR).2.1 = s.L k ∧ (s.L k)[j]? = some id := by
  cases hf with
  | some i j hi hj hb hr =>
    have hm : id ∈ (T.getD i dTR).2.1 := List.mem_of_getElem? hj
    cases hI : s.I id with
    | none =>
      have h1 := rows_noid ho hI ((fgt T).getD i dRow) (by
        rw [← h.r]
        have : i < (fgt T).length := by rw [fgt_len]; exact hi
        simp [List.getD, this])
      rw [fgt_get] at h1
      exact absurd hm h1
    | some k =>
      obtain ⟨h1, h2, h3, h4, h5⟩ := rows_id ho hI
      have h6 := h5 i ((T.getD i dTR).1, (T.getD i dTR).2.1) (by
        rw [← h.r, ← fgt_get]
        have : i < (fgt T).length := by rw [fgt_len]; exact hi
        simp [List.getD, this]) hm
      have h7 := fgt_get T i
      rw [h.r, h6, getD_of h3] at h7
      rw [← h6] at h7
      refine ⟨k, rfl, h1, h2, by rw [h.r]; exact h6, (congrArg Prod.fst h7).symm, (congrArg Prod.snd h7).symm, ?_⟩
      have e2 : s.L k = (T.getD i dTR).2.1 := congrArg Prod.snd h7
      rw [e2]
      exact hj
theorem Sim.ask (h : Sim s T M) (ho : TbOk N s) (hk : k ∈ cU)
    (hr : (∃ o, FindR T id (some o) ∧ fgt T' = fgt T ∧ a = 0 ∧ b = 4) ∨ (FindR T id none ∧ ((markedD M k now = true ∧ fgt T' = fgt T ∧ a = 3 ∧ b = 0) ∨ (markedD M k now = false ∧
      ((thereD (fgt T) k = true ∧ fgt T' = withD (fgt T) (placeD (fgt T) k) ((T.getD (placeD (fgt T) k) dTR).2.1 ++ [id]) ∧ a = 2 ∧ b = 0) ∨
       (thereD (fgt T) k = false ∧ fgt T' = (fgt T).take (placeD (fgt T) k) ++ (k, [id]) :: (fgt T).drop (placeD (fgt T) k) ∧ a = 1 ∧ b = 0)))))) :
    Sim (AskS s k id now) T' M ∧ a = askN s k id now ∧ b = askE s id := by
  rcases hr with ⟨⟨i, j⟩, hf, h1, rfl, rfl⟩ | ⟨hf, hr⟩
  · obtain ⟨k', hI, _⟩ := h.find_some ho hf
    have hs : (s.I id).isSome = true := by rw [hI]; rfl
    have e : AskS s k id now = s := if_pos (.inl hs)
    rw [e]
    exact ⟨⟨h1.trans h.r, h.m⟩, (if_pos hs).symm, (if_pos hs).symm⟩
  · have hI := h.find_none ho hf
    have hs : ¬ (s.I id).isSome = true := by rw [hI]; decide
    have eE : askE s id = 0 := if_neg hs
    rcases hr with ⟨hm, h1, rfl, rfl⟩ | ⟨hm, hr⟩
    · rw [h.marked] at hm
      have e : AskS s k id now = s := if_pos (.inr hm)
      rw [e]
      exact ⟨⟨h1.trans h.r, h.m⟩, by unfold askN; rw [if_neg hs, if_pos hm], eE.symm⟩
    · rw [h.marked] at hm
      have hm' : ¬ markB s k now = true := by rw [hm]; decide
      have e : AskS s k id now = { s with I := upd s.I id (some k), L := upd s.L k (s.L k ++ [id]) } := if_neg (fun h => h.elim hs hm')
      rw [e]
      by_cases hl : s.L k = []
      · have h0 := h.gone hk hl
        rcases hr with ⟨h1, _⟩ | ⟨_, h2, rfl, rfl⟩
        · rw [h0] at h1; cases h1
        · refine ⟨⟨?_, h.m⟩, by unfold askN; rw [if_neg hs, if_neg hm', if_pos hl], eE.symm⟩
          rw [h2, h.r, (rows_new hk hl (ids := [id]) (by simp)).1, hl]
          rfl
      · obtain ⟨h0, _, h0'⟩ := h.there hk hl
        rcases hr with ⟨_, h2, rfl, rfl⟩ | ⟨h1, _⟩
        · refine ⟨⟨?_, h.m⟩, by unfold askN; rw [if_neg hs, if_neg hm', if_neg hl], eE.symm⟩
          rw [h2, h0', h.r, (rows_with hk hl (s.L k ++ [id])).1]
        · rw [h0] at h1; cases h1
theorem Sim.done (h : Sim s T M) (hk : k ∈ cU) {v : Value} {w' : World} {K : Nat → Prop}
    (hr : (thereD (fgt T) k = true ∧ fgt T' = withD (fgt T) (placeD (fgt T) k) [] ∧ IsI w' v (T.getD (placeD (fgt T) k) dTR).2.1.tail ∧ (∀ g, v.ownBlock = some g → K g) ∧ b = 0) ∨ (thereD (fgt T) k = false ∧ fgt T' = fgt T ∧ v = nilV ∧ b = 3)) :
    Sim (DoneT s k) T' M ∧ IsI w' v (s.L k).tail ∧ b = (if s.L k = [] then 3 else 0) ∧ ∀ g, v.ownBlock = some g → K g := by
  by_cases hl : s.L k = []
  · have h0 := h.gone hk hl
    rcases hr with ⟨h1, _⟩ | ⟨_, h2, rfl, rfl⟩
    · rw [h0] at h1; cases h1
    · have e : DoneT s k = s := if_pos hl
      rw [e, hl]
      exact ⟨⟨h2.trans h.r, h.m⟩, OL.nil _ _ _, (if_pos rfl).symm, fun g hg => by simp [nilV, Value.ownBlock] at hg⟩
  · obtain ⟨h0, _, h0'⟩ := h.there hk hl
    rcases hr with ⟨_, h2, h3, h4, rfl⟩ | ⟨h1, _⟩
    · have e : DoneT s k = DoneS s k := if_neg hl
      rw [e]
      exact ⟨⟨by rw [h2, h.r, (rows_with hk hl []).1]; rfl, h.m⟩, by rw [← h0']; exact h3, (if_neg hl).symm, h4⟩
    · rw [h0] at h1; cases h1
theorem Sim.fail (h : Sim s T M) (hk : k ∈ cU) (hr : FailR T k T' nx ok b) : Sim (FailS s k) T' M ∧ nx = failN s k ∧ ok = failOk s k ∧ b = failE s k := by
  unfold FailR at hr
  by_cases hl : s.L k = []
  · have h0 := h.gone hk hl
    rcases hr with ⟨h1, _⟩ | ⟨_, h2, rfl, rfl, rfl⟩
    · rw [h0] at h1; cases h1
    · have e : FailS s k = s := by unfold FailS; rw [hl]
      rw [e]
      unfold failN failOk failE
      rw [hl]
      exact ⟨⟨h2.trans h.r, h.m⟩, rfl, rfl, rfl⟩
  · obtain ⟨h0, _, h0'⟩ := h.there hk hl
    rcases hr with ⟨_, h2, h3, h4, rfl⟩ | ⟨h1, _⟩
    · rw [h0'] at h2 h3 h4
      obtain ⟨x, r, hx⟩ := List.exists_cons_of_ne_nil hl
      have e : FailS s k = { s with I := upd s.I x none, L := upd s.L k r } := by unfold FailS; rw [hx]
      rw [e]
      unfold failN failOk failE
      rw [h3, h4]
      rw [hx] at h2 ⊢
      refine ⟨⟨?_, h.m⟩, rfl, by cases r <;> simp, rfl⟩
      rw [h2, h.r, (rows_with hk hl _).1]
      rfl
    · rw [h0] at h1; cases h1
open Classical in
theorem Sim.leave (h : Sim s T M) (ho : TbOk N s)
    (hr : (FindR T id none ∧ fgt T' = fgt T ∧ nx = 0 ∧ ok = false ∧ b = 3) ∨ (∃ i j, FindR T id (some (i, j)) ∧ ((j = 0 ∧ FailR T (T.getD i dTR).1 T' nx ok b) ∨ (j ≠ 0 ∧ fgt T' = withD (fgt T) i ((T.getD i dTR).2.1.eraseIdx j) ∧ nx = 0 ∧ ok = false ∧ b = 0)))) :
    Sim (RemS s id) T' M ∧ nx = leaveN s id ∧ ok = leaveOk s id ∧ b = leaveE s id := by
  rcases hr with ⟨hf, h1, rfl, rfl, rfl⟩ | ⟨i, j, hf, hr⟩
  · have hI := h.find_none ho hf
    unfold RemS leaveN leaveOk leaveE
    rw [hI]
    exact ⟨⟨h1.trans h.r, h.m⟩, rfl, rfl, rfl⟩
  · obtain ⟨k, hI, hk, hl, hi, h2, h3, h4⟩ := h.find_some ho hf
    obtain ⟨x, r, hx⟩ := List.exists_cons_of_ne_nil hl
    have hE : leaveE s id = 0 := by unfold leaveE; rw [hI]; rfl
    rcases hr with ⟨rfl, hr⟩ | ⟨hj, h5, rfl, rfl, rfl⟩
    · rw [h2] at hr
      obtain ⟨g1, g2, g3, g4⟩ := h.fail hk hr
      have hxi : x = id := by rw [hx] at h4; simpa using h4
      rw [ho.fail_eq hx, hxi] at g1
      have hh : (s.L k).head? = some id := by rw [hx, hxi]; rfl
      refine ⟨g1, ?_, ?_, ?_⟩
      · rw [g2]; unfold leaveN; rw [hI]; exact (if_pos hh).symm
      · rw [g3]; unfold leaveOk; rw [hI]; exact (if_pos hh).symm
      · rw [g4, hE]; unfold failE; rw [hx]; rfl
    · have hh : ¬ (s.L k).head? = some id := fun e => by
        have e2 : (s.L k)[0]? = some id := by rw [← e]; cases s.L k <;> rfl
        obtain ⟨a1, a2⟩ := List.getElem?_eq_some_iff.1 e2
        obtain ⟨b1, b2⟩ := List.getElem?_eq_some_iff.1 h4
        have := (List.getElem_inj (ho.nd k)).1 (a2.trans b2.symm)
        omega
      have he : (s.L k).eraseIdx j = (s.L k).erase id := by
        exact erase_at (ho.nd k) h4
      refine ⟨?_, ?_, ?_, hE.symm⟩
      · unfold RemS
        rw [hI]
        refine ⟨?_, h.m⟩
        rw [h5, h3, he, hi, h.r, (rows_with hk hl _).1]
      · unfold leaveN; rw [hI]; exact (if_neg hh).symm
      · unfold leaveOk; rw [hI]; exact (if_neg hh).symm
theorem Sim.mark (h : Sim s T M) (k : ByteArray) (u : Int) : Sim (MarkS s k u) T (setMarkD M k u) := ⟨h.r, by rw [markOf_set, h.m]; rfl⟩
theorem Sim.keys (h : Sim s T M) : T.map Prod.fst = keysS s := by
  have h1 : (fgt T).map Prod.fst = T.map Prod.fst := by unfold fgt; rw [List.map_map]; rfl
  rw [← h1, h.r]
  unfold rowsL keysS
  rw [List.map_map]
  exact (List.map_congr_left fun x _ => rfl).trans (List.map_id _)
theorem Sim.ids (h : Sim s T M) (hk : k ∈ cU) {w : World} {K : Nat → Prop} {v : Value} (hr : DR K w v T) : IsI w (idsV T k) (s.L k) ∧ ∀ g, (idsV T k).ownBlock = some g → K g := by
  unfold idsV
  by_cases hl : s.L k = []
  · rw [h.gone hk hl, if_neg (by decide), hl]
    exact ⟨OL.nil _ _ _, fun g hg => by simp [nilV, Value.ownBlock] at hg⟩
  · obtain ⟨h1, h2, h3⟩ := h.there hk hl
    rw [h1, if_pos rfl]
    have hlt : placeD (fgt T) k < T.length := by rw [← fgt_len T]; exact there_lt h1
    have hm : T.getD (placeD (fgt T) k) dTR ∈ T := by simp [List.getD, hlt]
    have := hr.r _ hm
    rw [← h3]
    exact ⟨this.i, this.k⟩
theorem Sim.rows (h : Sim s T M) (ho : TbOk N s) : T.length ≤ 8 ∧ ∀ t ∈ T, t.2.1 ≠ [] ∧ t.2.1.length ≤ N := by
  refine ⟨by rw [← fgt_len T, h.r]; exact rows_len _, fun t ht => ?_⟩
  have h1 : (t.1, t.2.1) ∈ rowsL s.L := by
    rw [← h.r]
    exact List.mem_map.2 ⟨t, ht, rfl⟩
  have h2 := rows_mem h1
  exact ⟨h2.2.1, by rw [show t.2.1 = s.L t.1 from h2.1]; exact ho.ln _⟩
end
end Go.Proofs.Ytfnohilhlofimaa

/- network: slices.Delete of a delivery; Receive. Conditions: there is a delivery. network: Receive. Conditions: the deliveries are few. -/
import Derived.Test.YtkhiepjlfbjgdaaZNwR
import Derived.Test.YtkhiepjlfbjgdaaZDel
namespace Go.Proofs.Ytkhiepjlfbjgdaa
open Go.RowKit

def zArr : List Value := [.int .i64 0, .string ByteArray.empty, .string ByteArray.empty, .slice none 0 0, .int .i64 0, .int .i64 0]
theorem zArrC : (Builtin.zeroCells (Value.agg #[.int .i64 0, .string ByteArray.empty, .string ByteArray.empty, .slice none 0 0, .int .i64 0, .int .i64 0]).cells 1).toList = zArr := by
  have hc : (Value.agg #[.int .i64 0, .string ByteArray.empty, .string ByteArray.empty, .slice none 0 0, .int .i64 0, .int .i64 0]).cells = #[.int .i64 0, .string ByteArray.empty, .string ByteArray.empty, .slice none 0 0, .int .i64 0, .int .i64 0] := rfl
  rw [hc]
  simp [Builtin.zeroCells, zArr]
  rfl
theorem zArrV (w : World) : (zeroValue 98).run Try.prog w = .ok (.agg #[.int .i64 0, .string ByteArray.empty, .string ByteArray.empty, .slice none 0 0, .int .i64 0, .int .i64 0]) w := by kernel_rfl
def DelPost (g off cap n i : Nat) (xs : List Value) (w : World) (e : Ending) (w' : World) : Prop :=
  e = .returned (.slice (some ⟨g, off, none⟩) (n - 1) cap) ∧ OL w' 98 6 (.slice (some ⟨g, off, none⟩) (n - 1) cap) (n - 1) (xs.take (i * 6) ++ xs.drop ((i + 1) * 6)) ∧ w.grownBy w' (some g)
set_option maxRecDepth 100000 in
set_option maxHeartbeats 1000000 in
theorem delete_any {g off cap n i : Nat} {xs : List Value} (w : World) (h : OL w 98 6 (.slice (some ⟨g, off, none⟩) n cap) n xs) (hone : ∀ u ∈ xs, u.oneCell' = true) (hi : i < n) (j : Int) (hij : j = i + 1) :
    Calls Try.prog 32 #[.slice (some ⟨g, off, none⟩) n cap, .int .i64 i, .int .i64 j] w (DelPost g off cap n i xs w) := by
  obtain ⟨A, W1, W2, hR⟩ := h.del (P := Try.prog) (t := 84) hi hone _ zArr 80 Try.underlying84 infoArr zArrC rfl (by simp [zArr]; decide) zArrV
  obtain ⟨j, rfl⟩ : ∃ k : Nat, j = (k : Int) := ⟨i + 1, by omega⟩
  obtain ⟨hA, hap, hcl, hol, hgr, hnc, hcm⟩ := hR
  unfold DelPost
  have HP := Lib.hid (And.intro hol hgr)
  have hij2 : i + 1 = j := by omega
  clear hij
  rw [hij2] at hA hap
  have HAP := Lib.hid hap
  clear hol hgr hap h hone
  obtain ⟨m, rfl⟩ : ∃ m, n = m + 1 := ⟨n - 1, by omega⟩
  rw [Nat.add_sub_cancel] at *
  have hcm' : ¬ cap = m := by omega
  unfold maxLen at hcm
  have hle : i ≤ m := by omega
  have hic : i ≤ cap := by omega
  have hjc : j ≤ cap := by omega
  have hjm : j ≤ m + 1 := by omega
  have hjn : ¬ i = j := by omega
  have hij' : i ≤ j := by omega
  clear hij2
  have hjI : (j : Int) ≤ (m : Int) + 1 := by omega
  by_cases hc : cap = j
  · rw [if_pos hc] at hA
    obtain rfl := Option.some.inj hA
    clear hA
    subst hc
    have h0 : m + 1 - cap = 0 := by omega
    rw [Nat.sub_self, h0] at HAP
    clear h0 hjc
    go_enter Try.func32, Try.ntmps32
    go_wp2_with fail
    go_region_law (refine step_append_run (v := .slice (some ⟨g, off, none⟩) i cap) (xv := .slice (some ⟨g, off, none⟩) 0 0) rfl (.tmp 22) (.tmp 25) 84 84 rfl (by simp [Act.eval, Act.put]) (by simp [Act.eval, Act.put]) HAP.out ?_)
    go_wp2
    go_ret
    exact ⟨rfl, HP.out⟩
  · rw [if_neg hc] at hA
    obtain rfl := Option.some.inj hA
    clear hA
    go_enter Try.func32, Try.ntmps32
    go_wp2_with fail
    go_region_law (refine step_append_run (v := .slice (some ⟨g, off, none⟩) i cap) (xv := .slice (some ⟨g, off + j * 6, none⟩) (m + 1 - j) (cap - j)) rfl (.tmp 22) (.tmp 25) 84 84 rfl (by simp [Act.eval, Act.put]) (by simp [Act.eval, Act.put]) HAP.out ?_)
    go_wp2
    go_ret
    exact ⟨rfl, HP.out⟩
end Go.Proofs.Ytkhiepjlfbjgdaa

namespace Go.Proofs.Ytkhiepjlfbjgdaa
open Go.RowKit

theorem arrCells_erase (l : List (Arr × Value)) (i : Nat) : arrCells (l.eraseIdx i) = (arrCells l).take (i * 6) ++ (arrCells l).drop ((i + 1) * 6) := by
  rw [List.eraseIdx_eq_take_drop_succ, arrCells_append, arrCells_take, arrCells_drop]
def Net.pop (s : Net) (i : Nat) : Net := { s with arr := s.arr.eraseIdx i }
section
variable {w : World} {b : Nat} {q : NG} {s : Net}
theorem NetAt.one (h : NetAt w b q s) : ∀ u ∈ arrCells q.A, u.oneCell' = true := by
  have hd : ∀ l : List (Arr × Value), (∀ x ∈ l, x.2.oneCell' = true) → ∀ u ∈ arrCells l, u.oneCell' = true := fun l => by
    induction l with
    | nil => intro _ u hu; simp [arrCells] at hu
    | cons x r ih =>
      intro hx u hu
      simp only [arrCells, List.mem_cons] at hu
      rcases hu with rfl | rfl | rfl | rfl | rfl | rfl | hu
      · rfl
      · rfl
      · rfl
      · exact hx x List.mem_cons_self
      · rfl
      · rfl
      · exact ih (fun y hy => hx y (List.mem_cons_of_mem _ hy)) u hu
  exact hd q.A fun x hx => by rcases (h.d x hx).forms with ⟨e, _⟩ | ⟨_, _, _, e, _⟩ <;> rw [e] <;> rfl
theorem NetAt.popped (h : NetAt w b q s) {g off cap i : Nat} (hv : q.va = .slice (some ⟨g, off, none⟩) q.A.length cap) (hi : i < q.A.length) {w3 : World} (ho : OL w3 98 6 (.slice (some ⟨g, off, none⟩) (q.A.length - 1) cap) (q.A.length - 1) ((arrCells q.A).take (i * 6) ++ (arrCells q.A).drop ((i + 1) * 6)))
    (hg : w.grownBy w3 (some g)) :
    w3.heap[b]? = w.heap[b]? ∧ NetAt (w3.setCell ⟨b, 4, none⟩ (.slice (some ⟨g, off, none⟩) (q.A.length - 1) cap)) b { q with va := (.slice (some ⟨g, off, none⟩) (q.A.length - 1) cap), A := q.A.eraseIdx i } (s.pop i) := by
  obtain ⟨cg, hcg⟩ := h.r.elem g (by rw [hv]; rfl)
  have hb' : w3.heap[b]? = w.heap[b]? := hg.block b (lt_of_block h.c) (fun e => type_ne h.c hcg (by decide) (Option.some.inj e))
  have hb2 := hb'.trans h.c
  have hlen : (q.A.eraseIdx i).length = q.A.length - 1 := List.length_eraseIdx_of_lt hi
  have oth : ∀ k, k < w.heap.size → k ≠ b → q.va.ownBlock ≠ some k → (w3.setCell ⟨b, 4, none⟩ (Value.slice (some ⟨g, off, none⟩) (q.A.length - 1) cap)).heap[k]? = w.heap[k]? := fun k hk h1 h2 => (setCell_other h1).trans (hg.block k hk (fun e => h2 (by rw [hv]; exact e.symm)))
  have cell : ∀ {e : TypeId} {size n : Nat} {v : Value} {xs : List Value} {k : Nat}, OL w e size v n xs → v.ownBlock = some k → e ≠ 86 → e ≠ 98 → (w3.setCell ⟨b, 4, none⟩ (Value.slice (some ⟨g, off, none⟩) (q.A.length - 1) cap)).heap[k]? = w.heap[k]? := fun ho hk t1 t2 => by
    obtain ⟨cur, hc⟩ := ho.elem _ hk
    exact oth _ (lt_of_block hc) (type_ne hc h.c t1) (fun e => by rw [hv] at e; obtain rfl := Option.some.inj e; exact type_ne hc hcg t2 rfl)
  refine ⟨hb', h.re (q' := { q with va := (Value.slice (some ⟨g, off, none⟩) (q.A.length - 1) cap), A := q.A.eraseIdx i }) (s' := s.pop i) (fun k hk e1 _ e3 => oth k hk e1 e3) rfl rfl rfl rfl rfl (setCell_heap_self hb2) (h.k.heap fun k hk => cell h.k hk (by decide) (by decide)) ?_ ?_ ?_ ?_⟩
  · show OL _ _ 6 _ (q.A.eraseIdx i).length (arrCells (q.A.eraseIdx i))
    rw [hlen, arrCells_erase]
    exact ho.heap fun k hk => setCell_other (fun e => by
      have : g = k := Option.some.inj hk
      rw [← this] at e
      exact type_ne h.c hcg (by decide) e.symm)
  · show (q.A.eraseIdx i).map Prod.fst = s.arr.eraseIdx i
    rw [← h.a]; simp [List.eraseIdx_eq_take_drop_succ]
  · intro z hz
    have hz' := (List.eraseIdx_sublist q.A i).mem hz
    exact (h.d z hz').heap fun k hk => cell (h.d z hz') hk (by decide) (by decide)
  · exact h.i.sublist (List.eraseIdx_sublist q.A i)
/-- The blocks of the network without delivery i. -/
theorem NetAt.pop_al (h : NetAt w b q s) {g off cap i : Nat} (hv : q.va = .slice (some ⟨g, off, none⟩) q.A.length cap) (hi : i < q.A.length) {k : Nat} (hk : NAl b { q with va := (.slice (some ⟨g, off, none⟩) (q.A.length - 1) cap), A := q.A.eraseIdx i } (s.pop i) k) :
    NAl b q s k ∧ q.A[i].2.ownBlock ≠ some k := by
  have hd := h.d q.A[i] (List.getElem_mem hi)
  have cellT : ∀ {t : TypeId} {cs : Array Value} {fr : Nat × Nat}, w.heap[k]? = some (.cells cs t fr) → t ≠ 5 → q.A[i].2.ownBlock ≠ some k := fun hc ht e => by
    obtain ⟨cur, hcur⟩ := hd.elem k e
    exact type_ne hc hcur ht rfl
  have mp : ∀ {t : TypeId} {f : Value → Option Value}, MapF Try.prog t w k f → q.A[i].2.ownBlock ≠ some k := fun hm e => by
    obtain ⟨cur, hcur⟩ := hd.elem k e
    exact hm.ne hcur rfl
  cases hk with
  | b e => subst e; exact ⟨.b rfl, cellT h.c (by decide)⟩
  | m e => obtain ⟨f, hm, _⟩ := h.m; rw [show q.mb = k from e.symm] at hm; exact ⟨.m e, mp hm⟩
  | c e => obtain ⟨cur, hc⟩ := h.k.elem k e; exact ⟨.c e, cellT hc (by decide)⟩
  | r e =>
    have e' : q.va.ownBlock = some k := by rw [hv]; exact e
    obtain ⟨cur, hc⟩ := h.r.elem k e'
    exact ⟨.r e', cellT hc (by decide)⟩
  | G x y hn e =>
    cases hl : s.lines x y with
    | none => exact absurd hl hn
    | some L => subst e; exact ⟨.G x y hn rfl, cellT (h.l x y L hl).c (by decide)⟩
  | F x y hn e =>
    cases hl : s.lines x y with
    | none => exact absurd hl hn
    | some L => obtain ⟨f, hm, _⟩ := (h.l x y L hl).m; rw [show q.F x y = k from e.symm] at hm; exact ⟨.F x y hn e, mp hm⟩
  | V x y L j hl hj e =>
    cases hf : L.fates j with
    | none => exact absurd hf hj
    | some l => obtain ⟨cur, hc⟩ := ((h.l x y L hl).o j l hf).elem k e; exact ⟨.V x y L j hl hj e, cellT hc (by decide)⟩
  | d z hz e =>
    refine ⟨.d z ((List.eraseIdx_sublist q.A i).mem hz) e, fun e2 => ?_⟩
    obtain ⟨j, hj, hji, rfl⟩ : ∃ j, ∃ hj : j < q.A.length, j ≠ i ∧ q.A[j] = z := by
      obtain ⟨j, hj0, hz2⟩ := List.getElem_of_mem hz
      have hj : j < (q.A.eraseIdx i).length := hj0
      rw [List.getElem_eraseIdx] at hz2
      have hlen : (q.A.eraseIdx i).length = q.A.length - 1 := List.length_eraseIdx_of_lt hi
      split at hz2
      · exact ⟨j, by omega, by omega, hz2⟩
      · exact ⟨j + 1, by omega, by omega, hz2⟩
    rcases Nat.lt_or_gt_of_ne hji with hlt | hlt
    · exact List.pairwise_iff_getElem.1 h.i j i hj hi hlt k e e2
    · exact List.pairwise_iff_getElem.1 h.i i j hi hj hlt k e2 e
end
end Go.Proofs.Ytkhiepjlfbjgdaa

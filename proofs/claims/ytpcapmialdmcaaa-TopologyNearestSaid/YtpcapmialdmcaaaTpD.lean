/- topology: Link, Down, Up. Conditions: each contract names its own. -/
import Derived.Test.YtpcapmialdmcaaaTpC
namespace Go.Proofs.Ytpcapmialdmcaaa
open Go.RowKit Go.Maps

section
variable {w w' w4 w5 : World} {m : Nat} {ts : List ByteArray} {L : List TL} {g : MG} {a b : ByteArray}
/-- What a call leaves that turns the links. -/
def MapP (m : Nat) (ts : List ByteArray) (L L' : List TL) (g : MG) (code : Int) (w : World) (e : Ending) (w' : World) : Prop :=
  e = .returned (errV code) ∧ ∃ g', MapAt w' m ts L' g' ∧ Only (Fm m g L) w w' ∧ ∀ k, Fm m g' L' k → Fm m g L k ∨ w.heap.size ≤ k
theorem MapP.stay (h : MapAt w m ts L g) (code : Int) (hb : Below w.heap.size w w') : MapP m ts L L g code w (.returned (errV code)) w' :=
  ⟨rfl, g, h.bel hb, Only.of_below hb fun k h1 h2 => by omega, fun k hk => .inl hk⟩
theorem minS_sz (ha : a.size ≤ 9223372036854775807) (hb : b.size ≤ 9223372036854775807) : (Lib.minS a b).size ≤ 9223372036854775807 := (minS_or a b).elim (fun e => by rw [e]; exact ha) fun e => by rw [e]; exact hb
theorem maxS_sz (ha : a.size ≤ 9223372036854775807) (hb : b.size ≤ 9223372036854775807) : (Lib.maxS a b).size ≤ 9223372036854775807 := (maxS_or a b).elim (fun e => by rw [e]; exact ha) fun e => by rw [e]; exact hb
/-- A link's pointer. -/
def lkV (P : Nat → Nat) : Option Nat → Value
  | none => .pointer none
  | some i => ptrV (P i)
theorem zeroLk (w : World) : (zeroValue 87).run Try.prog w = .ok (.pointer none) w := by kernel_rfl
theorem MapAt.look (h : MapAt w m ts L g) (ha : a.size ≤ 9223372036854775807) (hb : b.size ≤ 9223372036854775807) :
    (Instr.lookup 88 (.map (some g.lb)) (.agg #[.string (Lib.minS a b), .string (Lib.maxS a b)]) false).run Try.prog w = .ok (lkV g.P (fnd L a b)) w := by
  have h1 := h.mp.look pairK Try.underlying88 (zeroLk w) (isK2 (minS_sz ha hb) (maxS_sz ha hb)) false
  rw [linkF_key] at h1
  refine h1.trans ?_
  cases fnd L a b <;> rfl
theorem MapAt.c0 (h : MapAt w m ts L g) : w.cell? ⟨m, 0, none⟩ = some g.tv := (has_cell h.row 0).trans rfl
theorem MapAt.c1 (h : MapAt w m ts L g) : w.cell? ⟨m, 1, none⟩ = some (.map (some g.lb)) := (has_cell h.row 1).trans rfl
/-- A link is no other block of the map. -/
theorem MapAt.apart (h : MapAt w m ts L g) {i : Nat} (hi : i < L.length) : g.P i ≠ m ∧ g.tv.ownBlock ≠ some (g.P i) ∧ g.P i ≠ g.lb ∧ ∀ j, j < L.length → (g.sv j).ownBlock ≠ some (g.P i) := by
  have hp := h.pr i hi
  refine ⟨type_ne hp h.row (by decide), fun e => ?_, fun e => h.mp.ne hp e.symm, fun j hj e => ?_⟩
  · obtain ⟨cur, hc⟩ := OL.elem h.tw _ e
    exact type_ne hp hc (by decide) rfl
  · obtain ⟨cur, hc⟩ := OL.elem (h.cu j hj) _ e
    exact type_ne hp hc (by decide) rfl
theorem MapAt.setLat (h : MapAt w m ts L g) {i : Nat} (hi : i < L.length) {l : Int} (hok : LOk (· ∈ ts) (L.set i { lk L i with lat := l })) : MapAt (w.setCell ⟨g.P i, 0, none⟩ (.int .i64 l)) m ts (L.set i { lk L i with lat := l }) g := by
  obtain ⟨a1, a2, a3, a4⟩ := h.apart hi
  have ho : ∀ k, k ≠ g.P i → (w.setCell ⟨g.P i, 0, none⟩ (.int .i64 l)).heap[k]? = w.heap[k]? := fun k hk => Below.heap_setCell _ _ _ _ hk
  have el : ∀ j, (lk (L.set i { lk L i with lat := l }) j).cuts = (lk L j).cuts := fun j => by
    by_cases e : i = j
    · subst e; rw [lk_set_self hi]
    · rw [lk_set_ne e]
  exact { h with
    row := (ho m a1.symm).trans h.row
    tw := OL.heap h.tw fun k hk => ho k fun e => a2 (e ▸ hk)
    mp := by
      have e : linkF (L.set i { lk L i with lat := l }) g.P = linkF L g.P := linkF_set (x := { lk L i with lat := l }) hi rfl rfl
      rw [e]
      exact h.mp.at (ho _ a3.symm)
    pr := fun j hj => by
      rw [List.length_set] at hj
      by_cases e : i = j
      · subst e
        rw [lk_set_self hi, setCell_heap_self (h.pr i hi)]
        rfl
      · rw [lk_set_ne e, ho _ (h.pi j i hj hi fun e' => e e'.symm)]
        exact h.pr j hj
    cu := fun j hj => by
      rw [List.length_set] at hj
      rw [el]
      exact OL.heap (h.cu j hj) fun k hk => ho k fun e => a4 j hj (e ▸ hk)
    pi := fun j k hj hk => by rw [List.length_set] at hj hk; exact h.pi j k hj hk
    si := fun j k hj hk => by rw [List.length_set] at hj hk; exact h.si j k hj hk
    ok := hok }
/-- A further link. -/
theorem MapAt.add (h : MapAt w m ts L g) (hb : Below w.heap.size w w4) {q : Nat} {x : TL} (hx : x.cuts = []) (hq : w4.heap[q]? = some (.cells #[.int .i64 x.lat, .slice none 0 0] 94 (0, 0))) (hq0 : w.heap.size ≤ q)
    (hn : ∀ l ∈ L, ¬ (l.a = x.a ∧ l.b = x.b)) (hm : MapF Try.prog 91 w5 g.lb (fput (linkF L g.P) (keyV x.a x.b) (ptrV q))) (hg : w4.grownBy w5 (some g.lb)) (hok : LOk (· ∈ ts) (L ++ [x])) :
    ∃ g', MapAt w5 m ts (L ++ [x]) g' ∧ Only (Fm m g L) w w5 ∧ ∀ k, Fm m g' (L ++ [x]) k → Fm m g L k ∨ w.heap.size ≤ k := by
  have hlt := h.mp.lt
  have ho : ∀ k, k < w4.heap.size → k ≠ g.lb → w5.heap[k]? = w4.heap[k]? := fun k hk hne => hg.block k hk fun e => hne (Option.some.inj e)
  have ho1 : ∀ k, k < w.heap.size → k ≠ g.lb → w5.heap[k]? = w.heap[k]? := fun k hk hne => (ho k (Nat.lt_of_lt_of_le hk hb.size) hne).trans (hb.block k hk)
  have lk1 : ∀ i, i < L.length → lk (L ++ [x]) i = lk L i := fun i hi => by simp [lk, List.getD, List.getElem?_append_left hi]
  have lk2 : lk (L ++ [x]) L.length = x := by simp [lk, List.getD]
  refine ⟨{ g with P := fun i => if i = L.length then q else g.P i, sv := fun i => if i = L.length then .slice none 0 0 else g.sv i }, ?_, ?_, ?_⟩
  · exact { h with
      row := (ho1 m (lt_of_block h.row) fun e => h.mp.ne h.row e.symm).trans h.row
      tw := OL.heap h.tw fun k hk => ho1 k (OL.lt h.tw k hk) fun e => by
        obtain ⟨cur, hc⟩ := OL.elem h.tw k hk
        exact h.mp.ne hc e.symm
      mp := by rw [linkF_snoc hn]; exact hm
      pr := fun i hi => by
        rw [List.length_append, List.length_singleton] at hi
        by_cases e : i = L.length
        · subst e
          rw [lk2]
          simp only [if_true]
          rw [ho q (lt_of_block hq) (by omega)]
          exact hq
        · have hi' : i < L.length := by omega
          rw [lk1 i hi']
          simp only [if_neg e]
          rw [ho1 _ (lt_of_block (h.pr i hi')) (h.apart hi').2.2.1]
          exact h.pr i hi'
      cu := fun i hi => by
        rw [List.length_append, List.length_singleton] at hi
        by_cases e : i = L.length
        · subst e
          rw [lk2, hx]
          simp only [if_true]
          exact OL.nil _ _ _
        · have hi' : i < L.length := by omega
          rw [lk1 i hi']
          simp only [if_neg e]
          exact OL.heap (h.cu i hi') fun k hk => ho1 k (OL.lt (h.cu i hi') k hk) fun e => by
            obtain ⟨cur, hc⟩ := OL.elem (h.cu i hi') k hk
            exact h.mp.ne hc e.symm
      pi := fun i j hi hj hne => by
        rw [List.length_append, List.length_singleton] at hi hj
        show (if i = L.length then q else g.P i) ≠ (if j = L.length then q else g.P j)
        by_cases e1 : i = L.length
        · rw [if_pos e1, if_neg (by omega)]
          have := lt_of_block (h.pr j (by omega))
          omega
        · rw [if_neg e1]
          by_cases e2 : j = L.length
          · rw [if_pos e2]
            have := lt_of_block (h.pr i (by omega))
            omega
          · rw [if_neg e2]
            exact h.pi i j (by omega) (by omega) hne
      si := fun i j hi hj hne k hk => by
        rw [List.length_append, List.length_singleton] at hi hj
        have hk : (if i = L.length then Value.slice none 0 0 else g.sv i).ownBlock = some k := hk
        show (if j = L.length then Value.slice none 0 0 else g.sv j).ownBlock ≠ some k
        by_cases e1 : i = L.length
        · rw [if_pos e1] at hk; simp [Value.ownBlock] at hk
        · rw [if_neg e1] at hk
          by_cases e2 : j = L.length
          · rw [if_pos e2]; simp [Value.ownBlock]
          · rw [if_neg e2]
            exact h.si i j (by omega) (by omega) hne k hk
      ok := hok }
  · exact ⟨hg.os.trans hb.os, hg.tape.trans hb.tape, hg.output.trans hb.output, Nat.le_trans hb.size hg.size, fun k hk hn => ho1 k hk fun e => hn (.inr (.inr (.inl e)))⟩
  · rintro k (e | hk | e | ⟨i, hi, hk⟩)
    · exact .inl (.inl e)
    · exact .inl (.inr (.inl hk))
    · exact .inl (.inr (.inr (.inl e)))
    · rw [List.length_append, List.length_singleton] at hi
      have hk : k = (if i = L.length then q else g.P i) ∨ (if i = L.length then Value.slice none 0 0 else g.sv i).ownBlock = some k := hk
      by_cases e : i = L.length
      · rw [if_pos e, if_pos e] at hk
        rcases hk with hk | hk
        · exact .inr (by omega)
        · simp [Value.ownBlock] at hk
      · rw [if_neg e, if_neg e] at hk
        exact .inl (.inr (.inr (.inr ⟨i, by omega, hk⟩)))
/-- A further interruption. -/
theorem MapAt.cut (h : MapAt w m ts L g) {i : Nat} (hi : i < L.length) {c : Int × Int} {v : Value} (hg : w.grownBy w4 (g.sv i).ownBlock) (hv : IsP w4 v ((lk L i).cuts ++ [c])) (hown : ∀ k, v.ownBlock = some k → (g.sv i).ownBlock = some k ∨ w.heap.size ≤ k)
    (hok : LOk (· ∈ ts) (L.set i { lk L i with cuts := (lk L i).cuts ++ [c] })) :
    ∃ g', MapAt (w4.setCell ⟨g.P i, 1, none⟩ v) m ts (L.set i { lk L i with cuts := (lk L i).cuts ++ [c] }) g' ∧ Only (Fm m g L) w (w4.setCell ⟨g.P i, 1, none⟩ v) ∧ ∀ k, Fm m g' (L.set i { lk L i with cuts := (lk L i).cuts ++ [c] }) k → Fm m g L k ∨ w.heap.size ≤ k := by
  obtain ⟨a1, a2, a3, a4⟩ := h.apart hi
  have ho : ∀ k, k < w.heap.size → k ≠ g.P i → (g.sv i).ownBlock ≠ some k → (w4.setCell ⟨g.P i, 1, none⟩ v).heap[k]? = w.heap[k]? := fun k hk h1 h2 => (Below.heap_setCell _ _ _ _ h1).trans (hg.block k hk fun e => h2 e.symm)
  have ne_sv : ∀ {k : Nat} {cs : Array Value} {t : TypeId}, w.heap[k]? = some (.cells cs t (0, 0)) → t ≠ 51 → (g.sv i).ownBlock ≠ some k := fun hk hne e => by
    obtain ⟨cur, hc⟩ := OL.elem (h.cu i hi) _ e
    exact type_ne hk hc hne rfl
  have hpi : w4.heap[g.P i]? = some (.cells #[.int .i64 (lk L i).lat, g.sv i] 94 (0, 0)) := (hg.block _ (lt_of_block (h.pr i hi)) fun e => ne_sv (h.pr i hi) (by decide) e.symm).trans (h.pr i hi)
  refine ⟨{ g with sv := fun j => if j = i then v else g.sv j }, ?_, ?_, ?_⟩
  · exact { h with
      row := (ho m (lt_of_block h.row) a1.symm (ne_sv h.row (by decide))).trans h.row
      tw := OL.heap h.tw fun k hk => ho k (OL.lt h.tw k hk) (fun e => a2 (e ▸ hk)) (by
        obtain ⟨cur, hc⟩ := OL.elem h.tw k hk
        exact ne_sv hc (by decide))
      mp := by
        have e : linkF (L.set i { lk L i with cuts := (lk L i).cuts ++ [c] }) g.P = linkF L g.P := linkF_set (x := { lk L i with cuts := (lk L i).cuts ++ [c] }) hi rfl rfl
        show MapF _ _ _ g.lb (linkF _ g.P)
        rw [e]
        refine h.mp.at (ho _ h.mp.lt a3.symm fun e => ?_)
        obtain ⟨cur, hc⟩ := OL.elem (h.cu i hi) _ e
        exact h.mp.ne hc rfl
      pr := fun j hj => by
        rw [List.length_set] at hj
        show _ = some (Obj.cells #[_, if j = i then v else g.sv j] _ _)
        by_cases e : i = j
        · subst e
          rw [lk_set_self hi, if_pos rfl, setCell_heap_self hpi]
          rfl
        · rw [lk_set_ne e, if_neg fun e' => e e'.symm, ho _ (lt_of_block (h.pr j hj)) (h.pi j i hj hi fun e' => e e'.symm) (ne_sv (h.pr j hj) (by decide))]
          exact h.pr j hj
      cu := fun j hj => by
        rw [List.length_set] at hj
        show IsP _ (if j = i then v else g.sv j) _
        by_cases e : i = j
        · subst e
          rw [lk_set_self hi, if_pos rfl]
          refine OL.heap hv fun k hk => Below.heap_setCell _ _ _ _ fun e => ?_
          obtain ⟨cur, hc⟩ := OL.elem hv k hk
          have e' : k = g.P i := e
          rw [e'] at hc
          exact type_ne hc hpi (by decide) rfl
        · rw [lk_set_ne e, if_neg fun e' => e e'.symm]
          exact OL.heap (h.cu j hj) fun k hk => ho k (OL.lt (h.cu j hj) k hk) (fun e' => a4 j hj (e' ▸ hk)) fun e' => h.si i j hi hj e k e' hk
      pi := fun j k hj hk => by rw [List.length_set] at hj hk; exact h.pi j k hj hk
      si := fun j k hj hk hne q hq => by
        rw [List.length_set] at hj hk
        have hq : (if j = i then v else g.sv j).ownBlock = some q := hq
        show (if k = i then v else g.sv k).ownBlock ≠ some q
        by_cases e1 : j = i
        · rw [if_pos e1] at hq
          rw [if_neg fun e2 => hne (e1.trans e2.symm)]
          intro hq2
          rcases hown q hq with h1 | h1
          · exact h.si i k hi hk (fun e => hne (e1.trans e)) q h1 hq2
          · have := OL.lt (h.cu k hk) q hq2; omega
        · rw [if_neg e1] at hq
          by_cases e2 : k = i
          · rw [if_pos e2]
            intro hq2
            rcases hown q hq2 with h1 | h1
            · exact h.si i j hi hj (fun e => e1 e.symm) q h1 hq
            · have := OL.lt (h.cu j hj) q hq; omega
          · rw [if_neg e2]
            exact h.si j k hj hk hne q hq
      ok := hok }
  · exact ⟨hg.os, hg.tape, hg.output, by rw [World.size_setCell]; exact hg.size, fun k hk hn => ho k hk (fun e => hn (.inr (.inr (.inr ⟨i, hi, .inl e⟩)))) fun e => hn (.inr (.inr (.inr ⟨i, hi, .inr e⟩)))⟩
  · rintro k (e | hk | e | ⟨j, hj, hk⟩)
    · exact .inl (.inl e)
    · exact .inl (.inr (.inl hk))
    · exact .inl (.inr (.inr (.inl e)))
    · rw [List.length_set] at hj
      have hk : k = g.P j ∨ (if j = i then v else g.sv j).ownBlock = some k := hk
      rcases hk with hk | hk
      · exact .inl (.inr (.inr (.inr ⟨j, hj, .inl hk⟩)))
      · by_cases e : j = i
        · rw [if_pos e] at hk
          rcases hown k hk with h1 | h1
          · exact .inl (.inr (.inr (.inr ⟨i, hi, .inr h1⟩)))
          · exact .inr h1
        · rw [if_neg e] at hk
          exact .inl (.inr (.inr (.inr ⟨j, hj, .inr hk⟩)))
end
end Go.Proofs.Ytpcapmialdmcaaa

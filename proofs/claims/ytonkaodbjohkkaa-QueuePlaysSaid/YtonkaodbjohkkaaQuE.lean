/- queue: slices.Delete; remove from a list that a field holds. Conditions: the list is short. -/
import Derived.Test.YtonkaodbjohkkaaQuD
namespace Go.Proofs.Ytonkaodbjohkkaa
open Go.RowKit

def zIt : List Value := [.string ByteArray.empty, .int .i64 0]
theorem zItC : (Builtin.zeroCells (Value.agg #[.string ByteArray.empty, .int .i64 0]).cells 1).toList = zIt := by
  have hc : (Value.agg #[.string ByteArray.empty, .int .i64 0]).cells = #[.string ByteArray.empty, .int .i64 0] := rfl
  rw [hc]
  simp [Builtin.zeroCells, zIt]
  rfl
theorem zItV (w : World) : (zeroValue 65).run Try.prog w = .ok (.agg #[.string ByteArray.empty, .int .i64 0]) w := by kernel_rfl
def DelPost (g off cap n i : Nat) (xs : List Value) (w : World) (e : Ending) (w' : World) : Prop :=
  e = .returned (.slice (some ⟨g, off, none⟩) (n - 1) cap) ∧ OL w' 65 2 (.slice (some ⟨g, off, none⟩) (n - 1) cap) (n - 1) (xs.take (i * 2) ++ xs.drop ((i + 1) * 2)) ∧ w.grownBy w' (some g)
set_option maxRecDepth 100000 in
set_option maxHeartbeats 1000000 in
theorem delete_any {g off cap n i : Nat} {xs : List Value} (w : World) (h : OL w 65 2 (.slice (some ⟨g, off, none⟩) n cap) n xs) (hone : ∀ u ∈ xs, u.oneCell' = true) (hi : i < n) (j : Int) (hij : j = i + 1) :
    Calls Try.prog 42 #[.slice (some ⟨g, off, none⟩) n cap, .int .i64 i, .int .i64 j] w (DelPost g off cap n i xs w) := by
  obtain ⟨A, W1, W2, hR⟩ := h.del (P := Try.prog) (t := 59) hi hone _ zIt 24 Try.underlying59 infoIt zItC rfl (by simp [zIt]; decide) zItV
  obtain ⟨j, rfl⟩ : ∃ k : Nat, j = (k : Int) := ⟨i + 1, by omega⟩
  obtain ⟨hA, hap, hcl, hol, hgr, hnc, hcm⟩ := hR
  unfold DelPost
  have HP := Lib.hid (And.intro hol hgr)
  have hij2 : i + 1 = j := by omega
  clear hij
  rw [hij2] at hA hap
  have HAP := Lib.hid hap
  clear hol hgr hap h hone
  obtain ⟨m, rfl⟩ : ∃ m, n = m + 1 := ⟨n - 1, by omega⟩
  rw [Nat.add_sub_cancel] at *
  have hcm' : ¬ cap = m := by omega
  unfold maxLen at hcm
  have hle : i ≤ m := by omega
  have hic : i ≤ cap := by omega
  have hjc : j ≤ cap := by omega
  have hjm : j ≤ m + 1 := by omega
  have hjn : ¬ i = j := by omega
  have hij' : i ≤ j := by omega
  clear hij2
  have hjI : (j : Int) ≤ (m : Int) + 1 := by omega
  by_cases hc : cap = j
  · rw [if_pos hc] at hA
    obtain rfl := Option.some.inj hA
    clear hA
    subst hc
    have h0 : m + 1 - cap = 0 := by omega
    rw [Nat.sub_self, h0] at HAP
    clear h0 hjc
    go_enter Try.func42, Try.ntmps42
    go_wp2_with fail
    go_region_law (refine step_append_run (v := .slice (some ⟨g, off, none⟩) i cap) (xv := .slice (some ⟨g, off, none⟩) 0 0) rfl (.tmp 22) (.tmp 25) 59 59 rfl (by simp [Act.eval, Act.put]) (by simp [Act.eval, Act.put]) HAP.out ?_)
    go_wp2
    go_ret
    exact ⟨rfl, HP.out⟩
  · rw [if_neg hc] at hA
    obtain rfl := Option.some.inj hA
    clear hA
    go_enter Try.func42, Try.ntmps42
    go_wp2_with fail
    go_region_law (refine step_append_run (v := .slice (some ⟨g, off, none⟩) i cap) (xv := .slice (some ⟨g, off + j * 2, none⟩) (m + 1 - j) (cap - j)) rfl (.tmp 22) (.tmp 25) 59 59 rfl (by simp [Act.eval, Act.put]) (by simp [Act.eval, Act.put]) HAP.out ?_)
    go_wp2
    go_ret
    exact ⟨rfl, HP.out⟩
/-- What a change of the list in field i of block b leaves. -/
def LP (b i : Nat) (cs : Array Value) (v : Value) (l' : List It) (w w' : World) : Prop :=
  ∃ v', w'.heap[b]? = some (.cells (cs.setIfInBounds i v') 61 (0, 0)) ∧ IsL w' v' l' ∧ (∀ k, v'.ownBlock = some k → v.ownBlock = some k ∨ w.heap.size ≤ k) ∧ Only (fun k => k = b ∨ v.ownBlock = some k) w w'
/-- The list in field i of block b. -/
structure InF (w : World) (b i : Nat) (cs : Array Value) (v : Value) (l : List It) : Prop where
  b : w.heap[b]? = some (.cells cs 61 (0, 0))
  i : cs[i]? = some v
  l : IsL w v l
section
variable {w w' : World} {b i : Nat} {cs : Array Value} {v : Value} {l : List It}
theorem IsL.ne (h : IsL w v l) {c : Array Value} {k : Nat} (hb : w.heap[k]? = some (.cells c 61 (0, 0))) : v.ownBlock ≠ some k := fun e => by
  obtain ⟨cur, hc⟩ := OL.elem h k e
  exact type_ne hc hb (by decide) rfl
theorem InF.below (h : InF w b i cs v l) (hb : Below w.heap.size w w') : InF w' b i cs v l :=
  ⟨below_ats hb h.b, h.i, OL.below h.l hb (fun g hg => OL.lt h.l g hg)⟩
theorem InF.same (h : InF w b i cs v l) (hb : Below w.heap.size w w') : LP b i cs v l w w' :=
  ⟨v, by
    have : cs.setIfInBounds i v = cs := by
      apply Array.ext_getElem?
      intro j
      rw [Array.getElem?_setIfInBounds]
      split
      · rename_i e; subst e
        split
        · exact h.i.symm
        · rename_i hlt; rw [Array.getElem?_eq_none (by omega)]
      · rfl
    rw [this]; exact below_ats hb h.b, (h.below hb).l, fun k hk => .inl hk, Only.of_below hb fun k h1 h2 => by omega⟩
/-- A call that only makes memory, then a change. -/
theorem LP.after {l' : List It} {w1 : World} (hb : Below w.heap.size w w1) (h : LP b i cs v l' w1 w') : LP b i cs v l' w w' := by
  obtain ⟨v', h1, h2, h3, h4⟩ := h
  exact ⟨v', h1, h2, fun k hk => (h3 k hk).imp id (fun h => Nat.le_trans hb.size h), (Only.of_below hb (S := fun k => k = b ∨ v.ownBlock = some k) fun k h1 h2 => by omega).trans h4 (fun _ _ h => h)⟩
def remL (l : List It) (k : ByteArray) : List It := match idxN l k with
  | some i => l.eraseIdx i
  | none => l
def hasL (l : List It) (k : ByteArray) : Bool := (idxN l k).isSome
def RemP (b i : Nat) (cs : Array Value) (v : Value) (l : List It) (k : ByteArray) (w : World) (e : Ending) (w' : World) : Prop := e = .returned (.bool (hasL l k)) ∧ LP b i cs v (remL l k) w w'
set_option maxRecDepth 100000 in
theorem remove_any (h : InF w b i cs v l) (k : ByteArray) : Calls Try.prog 29 #[.pointer (some ⟨b, i, none⟩), .string k] w (RemP b i cs v l k w) := by
  have CI := Lib.hid (index_any (k := k) h.l)
  have c0 := (has_cell h.b i).trans h.i
  obtain ⟨ao, cap, rfl, hao, hcp, hcm⟩ := h.l.form
  have H := Lib.hid h
  unfold idxI at CI
  unfold RemP hasL remL
  clear h
  cases hi : idxN l k with
  | none =>
    rw [hi] at CI
    simp only [Option.isSome_none] at *
    clear hi hao
    go_enter Try.func29, Try.ntmps29
    go_wp2_with fail
    refine CI.out.mono ?_
    rintro e w1 ⟨rfl, hb⟩
    go_wp2
    go_ret
    exact ⟨rfl, H.out.same hb⟩
  | some j =>
    rw [hi] at CI
    have hj := idxN_lt hi
    obtain ⟨g, off, rfl, _⟩ := hao (by omega)
    simp only [Option.isSome_some] at *
    clear hi hao
    go_enter Try.func29, Try.ntmps29
    go_wp2_with fail
    refine CI.out.mono ?_
    rintro e w1 ⟨rfl, hb⟩
    have h1 := H.out.below hb
    have c1 := (has_cell h1.b i).trans h1.i
    have CD := Lib.hid (delete_any w1 h1.l (itCells_one l) hj (j + 1) rfl)
    have hne : b ≠ g := fun e => h1.l.ne h1.b (by rw [e]; rfl)
    have HB := Lib.hid hb
    clear CI c0 hb
    go_wp2_with fail
    refine CD.out.mono ?_
    rintro e w2 ⟨rfl, ho, hg⟩
    have hb2 := (hg.block b (lt_of_block h1.b) (fun e => hne (Option.some.inj e))).trans h1.b
    have f2 := has_free hb2 i
    have c2 := (has_cell hb2 i).trans h1.i
    have HL : Hid (LP b i cs (.slice (some ⟨g, off, none⟩) l.length cap) (l.eraseIdx j) w1 (w2.setCell ⟨b, i, none⟩ (.slice (some ⟨g, off, none⟩) (l.length - 1) cap))) := Lib.hid ⟨_, setCell_heap_self hb2, by
      show OL _ _ 2 _ (l.eraseIdx j).length (itCells (l.eraseIdx j))
      rw [List.length_eraseIdx_of_lt hj, itCells_erase]
      exact ho.heap fun k hk => setCell_other (fun e => hne (by rw [← e]; exact (Option.some.inj hk).symm)), fun k hk => .inl hk, ((Only.refl _ w1).grown hg (fun k hk => .inl (.inr hk))).setCell (p := ⟨b, i, none⟩) (.inl (.inl rfl)) _⟩
    clear ho hg hb2 CD h1 c1
    go_wp2
    go_ret
    exact ⟨rfl, HL.out.after HB.out⟩
end
end Go.Proofs.Ytonkaodbjohkkaa

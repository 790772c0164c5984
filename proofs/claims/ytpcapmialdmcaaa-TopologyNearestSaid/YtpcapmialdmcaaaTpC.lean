/- topology: a map of towns in memory: where it lies, how writes change it; whether a town is there. Conditions: each lemma names its own. -/
import Derived.Test.YtpcapmialdmcaaaTpB
namespace Go.Proofs.Ytpcapmialdmcaaa
open Go.RowKit Go.Maps

def ptrV (b : Nat) : Value := .pointer (some ⟨b, 0, none⟩)
section
open Classical
/-- The value is the link's key. -/
noncomputable def isKV (v : Value) (l : TL) : Bool := decide (v = keyV l.a l.b)
theorem isKV_iff {v : Value} {l : TL} : isKV v l = true ↔ v = keyV l.a l.b := decide_eq_true_iff
end
theorem isKV_no {v : Value} {l : TL} (h : v ≠ keyV l.a l.b) : isKV v l = false := by
  cases e : isKV v l
  · rfl
  · exact absurd (isKV_iff.1 e) h
/-- Where the links lie, as a map. -/
noncomputable def linkF (L : List TL) (P : Nat → Nat) : Value → Option Value := fun v => (L.findIdx? (isKV v)).map fun i => ptrV (P i)
theorem linkF_key (L : List TL) (P : Nat → Nat) (a b : ByteArray) : linkF L P (keyV (Lib.minS a b) (Lib.maxS a b)) = (fnd L a b).map fun i => ptrV (P i) := by
  unfold linkF fnd
  congr 2
  funext l
  cases h : isL a b l
  · refine isKV_no fun e => ?_
    rw [keyV_inj] at e
    rw [isL_iff.2 ⟨e.1.symm, e.2.symm⟩] at h
    cases h
  · rw [isL_iff] at h
    exact isKV_iff.2 (by rw [h.1, h.2])
theorem linkF_nil (P : Nat → Nat) : linkF [] P = fun _ => none := rfl
theorem findIdx_map_congr {p : TL → Bool} {L L' : List TL} (hl : L.length = L'.length) (h : ∀ i, i < L.length → p (lk L i) = p (lk L' i)) : L.findIdx? p = L'.findIdx? p := by
  induction L generalizing L' with
  | nil =>
    cases L' with
    | nil => rfl
    | cons _ _ => simp at hl
  | cons x r ih =>
    cases L' with
    | nil => simp at hl
    | cons y r' =>
      have h0 : p x = p y := h 0 (by simp)
      rw [List.findIdx?_cons, List.findIdx?_cons, h0, ih (by simpa using hl) fun i hi => h (i + 1) (by simpa using hi)]
theorem lk_set_self {L : List TL} {i : Nat} {x : TL} (h : i < L.length) : lk (L.set i x) i = x := by simp [lk, List.getD, h]
theorem lk_set_ne {L : List TL} {i j : Nat} {x : TL} (h : i ≠ j) : lk (L.set i x) j = lk L j := by simp [lk, List.getD, List.getElem?_set_ne h]
theorem linkF_set {L : List TL} {P : Nat → Nat} {i : Nat} {x : TL} (hi : i < L.length) (ha : x.a = (lk L i).a) (hb : x.b = (lk L i).b) : linkF (L.set i x) P = linkF L P := by
  funext v
  unfold linkF
  congr 1
  refine findIdx_map_congr (by simp) fun j hj => ?_
  by_cases e : i = j
  · subst e
    rw [lk_set_self hi]
    unfold isKV
    rw [ha, hb]
  · rw [lk_set_ne e]
theorem linkF_snoc {L : List TL} {P : Nat → Nat} {x : TL} {q : Nat} (h : ∀ l ∈ L, ¬ (l.a = x.a ∧ l.b = x.b)) : linkF (L ++ [x]) (fun i => if i = L.length then q else P i) = fput (linkF L P) (keyV x.a x.b) (ptrV q) := by
  funext v
  by_cases e : v = keyV x.a x.b
  · subst e
    rw [fput_same]
    unfold linkF
    have hn : L.findIdx? (isKV (keyV x.a x.b)) = none := by
      rw [List.findIdx?_eq_none_iff]
      intro l hl
      refine isKV_no fun e => ?_
      rw [keyV_inj] at e
      exact h l hl ⟨e.1.symm, e.2.symm⟩
    rw [List.findIdx?_append, hn]
    simp [List.findIdx?_cons, isKV_iff.2]
  · rw [fput_other e]
    unfold linkF
    rw [List.findIdx?_append]
    cases hf : L.findIdx? (isKV v) with
    | none => simp [List.findIdx?_cons, isKV_no e]
    | some i =>
      have hi : i < L.length := by
        rw [List.findIdx?_eq_some_iff_getElem] at hf
        exact hf.1
      simp [show i ≠ L.length by omega]
/-- Interruptions as cells. -/
def prs : List (Int × Int) → List Value
  | [] => []
  | c :: l => .int .i64 c.1 :: .int .i64 c.2 :: prs l
theorem prs_append (l : List (Int × Int)) (c : Int × Int) : prs (l ++ [c]) = prs l ++ prs [c] := by
  induction l with
  | nil => rfl
  | cons a r ih => simp [prs, ih]
theorem prs_get : ∀ (l : List (Int × Int)) (i : Nat), i < l.length → (prs l)[i * 2]? = some (.int .i64 (l.getD i (0, 0)).1) ∧ (prs l)[i * 2 + 1]? = some (.int .i64 (l.getD i (0, 0)).2)
  | [], i, h => by simp at h
  | c :: l, 0, _ => by simp [prs]
  | c :: l, i + 1, h => by
    have := prs_get l i (by simpa using h)
    rw [Nat.add_mul, Nat.one_mul]
    exact ⟨by simpa [prs] using this.1, by simpa [prs] using this.2⟩
theorem prs_one (l : List (Int × Int)) : ∀ u ∈ prs l, u.oneCell' = true := by
  induction l with
  | nil => simp [prs]
  | cons x r ih => simp only [prs, List.mem_cons]; rintro u (rfl | rfl | h); rfl; rfl; exact ih u h
def IsP (w : World) (v : Value) (l : List (Int × Int)) : Prop := OL w 51 2 v l.length (prs l)
theorem infoP : (Try.prog.info? 51).map (fun i => (i.zero, i.size, i.bytes)) = some (some (.agg #[.int .i64 0, .int .i64 0]), 2, 16) := by kernel_rfl
section
variable {w w' : World} {v : Value} {l : List (Int × Int)}
theorem IsP.form (h : IsP w v l) : ∃ ao cap, v = .slice ao l.length cap ∧ (0 < l.length → ∃ g off, ao = some ⟨g, off, none⟩) ∧ l.length ≤ cap ∧ cap ≤ 9223372036854775807 := by
  rcases OL.forms h with ⟨e, e0⟩ | ⟨g, off, cp, e, h1, h2, _⟩
  · exact ⟨none, 0, by rw [e, e0], fun h => by omega, by omega, by omega⟩
  · exact ⟨_, cp, e, fun _ => ⟨g, off, rfl⟩, h1, h2⟩
theorem IsP.at_ {g off n cp : Nat} (h : IsP w (.slice (some ⟨g, off, none⟩) n cp) l) {q : Nat} (hq : q < l.length) (hn : n = l.length) : w.cell? ⟨g, off + q * 2, none⟩ = some (.int .i64 (l.getD q (0, 0)).1) ∧ w.cell? ⟨g, off + q * 2 + 1, none⟩ = some (.int .i64 (l.getD q (0, 0)).2) := by
  subst hn
  have hc := prs_get l q hq
  exact ⟨(OL.cell h (q * 2) (by omega)).trans hc.1, (OL.cell h (q * 2 + 1) (by omega)).trans hc.2⟩
end
theorem tp_alloc (w : World) (r : Option Nat) (o : Obj) : w.grownBy (w.alloc o) r := ⟨rfl, rfl, rfl, by rw [World.size_alloc]; omega, fun k hk hr => Below.heap_alloc _ _ _ hk⟩
theorem tp_trans {a w c : World} {r : Option Nat} (h : a.grownBy w r) (k : w.grownBy c r) : a.grownBy c r :=
  ⟨k.os.trans h.os, k.tape.trans h.tape, k.output.trans h.output, Nat.le_trans h.size k.size, fun i hi hr => (k.block i (by have := h.size; omega) hr).trans (h.block i hi hr)⟩
/-- A slice of one element is appended. -/
theorem tp_append {w : World} {e : TypeId} {size : Nat} {v : Value} {n : Nat} {xs : List Value} (h : OL w e size v n xs) (t : TypeId) (z : Value) (bytes : Nat) (ht : Try.prog.underlying t = some (.slice e)) (hinfo : (Try.prog.info? e).map (fun i => (i.zero, i.size, i.bytes)) = some (some z, size, bytes))
    (hzs : z.cells.size = size) (hsz : 0 < size) (cs : List Value) (hcs : cs.length = size) (h1 : ∀ u ∈ cs, u.oneCell' = true) (hn : n ≤ 1000000) (hby : bytes ≤ 64) :
    ∃ ao cap w', (Builtin.append_ #[t, t] t #[v, .slice (some ⟨w.heap.size, 0, none⟩) 1 1]).run Try.prog (w.alloc (.cells cs.toArray e)) = .ok (.slice ao (n + 1) cap) w' ∧ OL w' e size (.slice ao (n + 1) cap) (n + 1) (xs ++ cs) ∧ w.grownBy w' v.ownBlock ∧
      (∀ g, (Value.slice ao (n + 1) cap).ownBlock = some g → v.ownBlock = some g ∨ w.heap.size ≤ g) := by
  obtain ⟨ti, hi, iz, is, ib⟩ := info_parts hinfo
  have hb0 : (w.alloc (.cells cs.toArray e)).heap[w.heap.size]? = some (.cells cs.toArray e (0, 0)) := heap_alloc_new w _
  have hsrc : Src Try.prog size t (.slice (some ⟨w.heap.size, 0, none⟩) 1 1) 1 cs (w.alloc (.cells cs.toArray e)) :=
    Src.ofSlice (size := size) _ ht ⟨w.heap.size, 0, none⟩ 1 1 _ (by omega) (fun j u hu => by
      rw [Addr.add_lit]
      show (w.alloc _).cell? ⟨w.heap.size, 0 + j, none⟩ = _
      rw [has_cell hb0, Nat.zero_add, List.getElem?_toArray]
      exact hu) h1
  have hB : (n + 1) * bytes ≤ 140737488355328 := by
    have := Nat.mul_le_mul (show n + 1 ≤ 1000001 by omega) hby
    omega
  obtain ⟨v', w2, hap, ho2, hg2, hown⟩ := (OL.alloc h (.cells cs.toArray e)).append (P := Try.prog) t t t ti _ bytes ht hi iz is ib hzs hsz hsrc (by unfold maxLen; omega) hB
  obtain ⟨g', off', cap', rfl, _, _, _⟩ := ho2.form (by omega)
  refine ⟨_, cap', w2, hap, ho2, tp_trans (tp_alloc w _ _) hg2, fun g hg => ?_⟩
  rcases hown with e | e
  · exact .inl (e ▸ hg)
  · rw [e] at hg
    exact .inr (by have := Option.some.inj hg; simp at this; omega)
/-- The ghost of a map: the towns' slice, the links' map, their blocks and slices. -/
structure MG where
  tv : Value
  lb : Nat
  P : Nat → Nat
  sv : Nat → Value
structure MapAt (w : World) (m : Nat) (ts : List ByteArray) (L : List TL) (g : MG) : Prop where
  row : w.heap[m]? = some (.cells #[g.tv, .map (some g.lb)] 90 (0, 0))
  tw : IsT w g.tv ts
  mp : MapF Try.prog 91 w g.lb (linkF L g.P)
  pr : ∀ i, i < L.length → w.heap[g.P i]? = some (.cells #[.int .i64 (lk L i).lat, g.sv i] 94 (0, 0))
  cu : ∀ i, i < L.length → IsP w (g.sv i) (lk L i).cuts
  pi : ∀ i j, i < L.length → j < L.length → i ≠ j → g.P i ≠ g.P j
  si : ∀ i j, i < L.length → j < L.length → i ≠ j → ∀ k, (g.sv i).ownBlock = some k → (g.sv j).ownBlock ≠ some k
  ok : LOk (· ∈ ts) L
  nd : ts.Nodup
  tl : ts.length ≤ 64
  tz : ∀ x ∈ ts, TownP x
def Fm (m : Nat) (g : MG) (L : List TL) (k : Nat) : Prop := k = m ∨ g.tv.ownBlock = some k ∨ k = g.lb ∨ ∃ i, i < L.length ∧ (k = g.P i ∨ (g.sv i).ownBlock = some k)
section
variable {w w' : World} {m : Nat} {ts : List ByteArray} {L : List TL} {g : MG}
theorem MapAt.lt (h : MapAt w m ts L g) {k : Nat} (hk : Fm m g L k) : k < w.heap.size := by
  rcases hk with rfl | hk | rfl | ⟨i, hi, rfl | hk⟩
  · exact lt_of_block h.row
  · exact OL.lt h.tw k hk
  · exact h.mp.lt
  · exact lt_of_block (h.pr i hi)
  · exact OL.lt (h.cu i hi) k hk
theorem MapAt.same (h : MapAt w m ts L g) (hs : ∀ k, Fm m g L k → w'.heap[k]? = w.heap[k]?) : MapAt w' m ts L g :=
  { h with
    row := (hs m (.inl rfl)).trans h.row
    tw := OL.heap h.tw fun k hk => hs k (.inr (.inl hk))
    mp := h.mp.at (hs _ (.inr (.inr (.inl rfl))))
    pr := fun i hi => (hs _ (.inr (.inr (.inr ⟨i, hi, .inl rfl⟩)))).trans (h.pr i hi)
    cu := fun i hi => OL.heap (h.cu i hi) fun k hk => hs k (.inr (.inr (.inr ⟨i, hi, .inr hk⟩))) }
theorem MapAt.bel (h : MapAt w m ts L g) (hb : Below w.heap.size w w') : MapAt w' m ts L g := h.same fun k hk => hb.block k (h.lt hk)
theorem TownP.sz {s : ByteArray} (h : TownP s) : s.size ≤ 9223372036854775807 := by have := h.2.2; omega
set_option maxHeartbeats 800000 in
theorem has_any (h : MapAt w m ts L g) (s : ByteArray) : Calls Try.prog 31 #[ptrV m, .string s] w fun e w' => e = .returned (.bool (inL s ts)) ∧ w' = w := by
  have CC := Lib.hid (contains_any h.tw.rt s)
  have c0 := has_cell h.row 0
  have c0' : w.cell? ⟨m, 0, none⟩ = some g.tv := c0.trans rfl
  clear c0 h
  unfold ptrV
  go_enter Try.func31, Try.ntmps31
  go_wp2_with fail
  refine CC.out.mono ?_
  rintro e w1 ⟨rfl, rfl⟩
  go_wp2
  go_ret
  exact ⟨rfl, rfl⟩
end
end Go.Proofs.Ytpcapmialdmcaaa

/- collapse: the model of a table, and how it lies in memory. -/
import Derived.Test.YtfnohilhlofimaaDel
import Derived.Test.YtfnohilhlofimaaErr
import Derived.Test.YtfnohilhlofimaaMapL
import Derived.Test.YtfnohilhlofimaaHeld
namespace Go.Proofs.Ytfnohilhlofimaa
open Go.RowKit

/-- A table: the ids of each key (none: the key is not there), the key of each id, the marks. -/
structure Tb where
  L : ByteArray → List Int
  I : Int → Option ByteArray
  M : ByteArray → Option Int
open Classical in
noncomputable def upd {α β : Type} (f : α → β) (k : α) (v : β) : α → β := fun x => if x = k then v else f x
section
variable {α β : Type} {f : α → β} {k x : α} {v : β}
theorem upd_same : upd f k v k = v := if_pos rfl
theorem upd_other (h : x ≠ k) : upd f k v x = f x := if_neg h
end
open Classical in
noncomputable def kF (L : ByteArray → List Int) (vs : ByteArray → Value) : Value → Option Value
  | .string k => if L k = [] then none else some (vs k)
  | _ => none
def iF (I : Int → Option ByteArray) : Value → Option Value
  | .int .i64 n => (I n).map Value.string
  | _ => none
def mF (M : ByteArray → Option Int) : Value → Option Value
  | .string k => (M k).map (Value.int .i64)
  | _ => none
section
variable {L : ByteArray → List Int} {vs : ByteArray → Value} {I : Int → Option ByteArray} {M : ByteArray → Option Int} {k : ByteArray} {l : List Int} {v : Value} {n m : Int}
theorem kF_put (hl : l ≠ []) : fput (kF L vs) (.string k) v = kF (upd L k l) (upd vs k v) := funext fun x => by
  by_cases e : x = .string k
  · subst e
    rw [fput_same]
    show _ = if upd L k l k = [] then none else some (upd vs k v k)
    rw [upd_same, upd_same, if_neg hl]
  · rw [fput_other e]
    cases x with
    | string x =>
      have : x ≠ k := fun h => e (by rw [h])
      show (if L x = [] then none else some (vs x)) = if upd L k l x = [] then none else some (upd vs k v x)
      rw [upd_other this, upd_other this]
    | _ => rfl
theorem kF_del : fdel (kF L vs) (.string k) = kF (upd L k []) vs := funext fun x => by
  by_cases e : x = .string k
  · subst e
    rw [fdel_same]
    show _ = if upd L k [] k = [] then none else some (vs k)
    rw [upd_same, if_pos rfl]
  · rw [fdel_other e]
    cases x with
    | string x =>
      have : x ≠ k := fun h => e (by rw [h])
      show (if L x = [] then none else some (vs x)) = if upd L k [] x = [] then none else some (vs x)
      rw [upd_other this]
    | _ => rfl
theorem iF_put : fput (iF I) (.int .i64 n) (.string k) = iF (upd I n (some k)) := funext fun x => by
  by_cases e : x = .int .i64 n
  · subst e
    rw [fput_same]
    show _ = (upd I n (some k) n).map Value.string
    rw [upd_same]; rfl
  · rw [fput_other e]
    unfold iF
    split
    · rename_i a
      have : a ≠ n := fun h => e (by rw [h])
      rw [upd_other this]
    · rfl
theorem iF_del : fdel (iF I) (.int .i64 n) = iF (upd I n none) := funext fun x => by
  by_cases e : x = .int .i64 n
  · subst e
    rw [fdel_same]
    show _ = (upd I n none n).map Value.string
    rw [upd_same]; rfl
  · rw [fdel_other e]
    unfold iF
    split
    · rename_i a
      have : a ≠ n := fun h => e (by rw [h])
      rw [upd_other this]
    · rfl
theorem mF_put : fput (mF M) (.string k) (.int .i64 n) = mF (upd M k (some n)) := funext fun x => by
  by_cases e : x = .string k
  · subst e
    rw [fput_same]
    show _ = (upd M k (some n) k).map (Value.int .i64)
    rw [upd_same]; rfl
  · rw [fput_other e]
    cases x with
    | string x =>
      have : x ≠ k := fun h => e (by rw [h])
      show (M x).map _ = (upd M k (some n) x).map _
      rw [upd_other this]
    | _ => rfl
end
/-- Where a table lies. -/
structure TA where
  kb : Nat
  ib : Nat
  mb : Nat
  vs : ByteArray → Value
structure TbAt (w : World) (b : Nat) (a : TA) (s : Tb) : Prop where
  c : w.heap[b]? = some (.cells #[.map (some a.kb), .map (some a.ib), .map (some a.mb)] 78 (0, 0))
  k : MapF Try.prog 9 w a.kb (kF s.L a.vs)
  i : MapF Try.prog 3 w a.ib (iF s.I)
  m : MapF Try.prog 9 w a.mb (mF s.M)
  l : ∀ k, s.L k ≠ [] → OL w 3 1 (a.vs k) (s.L k).length (ints (s.L k))
  sep : ∀ k k' g, s.L k ≠ [] → s.L k' ≠ [] → (a.vs k).ownBlock = some g → (a.vs k').ownBlock = some g → k = k'
  ki : a.kb ≠ a.ib
  km : a.kb ≠ a.mb
  im : a.ib ≠ a.mb
/-- The blocks of a table. -/
inductive TAl (b : Nat) (a : TA) (s : Tb) : Nat → Prop
  | b : TAl b a s b
  | k : TAl b a s a.kb
  | i : TAl b a s a.ib
  | m : TAl b a s a.mb
  | l {x : ByteArray} {g : Nat} : s.L x ≠ [] → (a.vs x).ownBlock = some g → TAl b a s g
theorem MapF.neOL {P : Program} {k e : TypeId} {w : World} {b size n : Nat} {f : Value → Option Value} {v : Value} {xs : List Value} (h : MapF P k w b f) (ho : OL w e size v n xs) : v.ownBlock ≠ some b := fun hv => by
  obtain ⟨cur, hc⟩ := OL.elem ho b hv
  exact h.ne hc rfl
section
variable {w w1 w2 w' : World} {b : Nat} {a : TA} {s : Tb} {k : ByteArray} {l : List Int} {v : Value} {n : Int}
theorem TbAt.lt (h : TbAt w b a s) {j : Nat} (hj : TAl b a s j) : j < w.heap.size := by
  cases hj with
  | b => exact lt_of_block h.c
  | k => exact h.k.lt
  | i => exact h.i.lt
  | m => exact h.m.lt
  | l h1 h2 => exact OL.lt (h.l _ h1) _ h2
theorem TbAt.same (h : TbAt w b a s) (hh : ∀ j, TAl b a s j → w'.heap[j]? = w.heap[j]?) : TbAt w' b a s :=
  ⟨(hh _ .b).trans h.c, h.k.at (hh _ .k), h.i.at (hh _ .i), h.m.at (hh _ .m), fun k hk => OL.heap (h.l k hk) fun g hg => hh g (.l hk hg), h.sep, h.ki, h.km, h.im⟩
theorem TbAt.belowS (h : TbAt w b a s) (hb : Below w.heap.size w w') : TbAt w' b a s := h.same fun j hj => hb.block j (h.lt hj)
/-- The keys' map is written, lists stay where they lie. -/
theorem TbAt.bK (h : TbAt w b a s) : a.kb ≠ b := fun e => h.k.ne h.c e
theorem TbAt.bI (h : TbAt w b a s) : a.ib ≠ b := fun e => h.i.ne h.c e
theorem TbAt.bM (h : TbAt w b a s) : a.mb ≠ b := fun e => h.m.ne h.c e
theorem TbAt.setI {I : Int → Option ByteArray} (h : TbAt w b a s) (hg : w.grownBy w' (some a.ib)) (hm : MapF Try.prog 3 w' a.ib (iF I)) : TbAt w' b a { s with I := I } :=
  have st : ∀ j, TAl b a s j → j ≠ a.ib → w'.heap[j]? = w.heap[j]? := fun j hj hne => hg.block j (h.lt hj) fun e => hne (Option.some.inj e)
  ⟨(st _ .b (Ne.symm h.bI)).trans h.c, h.k.at (st _ .k h.ki), hm, h.m.at (st _ .m (Ne.symm h.im)), fun k hk => OL.heap (h.l k hk) fun g hg => st g (.l hk hg) fun e => h.i.neOL (h.l k hk) (e ▸ hg), h.sep, h.ki, h.km, h.im⟩
theorem TbAt.setM {M : ByteArray → Option Int} (h : TbAt w b a s) (hg : w.grownBy w' (some a.mb)) (hm : MapF Try.prog 9 w' a.mb (mF M)) : TbAt w' b a { s with M := M } :=
  have st : ∀ j, TAl b a s j → j ≠ a.mb → w'.heap[j]? = w.heap[j]? := fun j hj hne => hg.block j (h.lt hj) fun e => hne (Option.some.inj e)
  ⟨(st _ .b (Ne.symm h.bM)).trans h.c, h.k.at (st _ .k h.km), h.i.at (st _ .i h.im), hm, fun k hk => OL.heap (h.l k hk) fun g hg => st g (.l hk hg) fun e => h.m.neOL (h.l k hk) (e ▸ hg), h.sep, h.ki, h.km, h.im⟩
theorem upd_nil {x : ByteArray} (h : upd s.L k [] x ≠ []) : x ≠ k ∧ s.L x ≠ [] := by
  have hne : x ≠ k := fun e => h (by rw [e, upd_same])
  exact ⟨hne, by rwa [upd_other hne] at h⟩
theorem TbAt.delK (h : TbAt w b a s) (hg : w.grownBy w' (some a.kb)) (hm : MapF Try.prog 9 w' a.kb (kF (upd s.L k []) a.vs)) : TbAt w' b a { s with L := upd s.L k [] } :=
  have st : ∀ j, TAl b a s j → j ≠ a.kb → w'.heap[j]? = w.heap[j]? := fun j hj hne => hg.block j (h.lt hj) fun e => hne (Option.some.inj e)
  ⟨(st _ .b (Ne.symm h.bK)).trans h.c, hm, h.i.at (st _ .i (Ne.symm h.ki)), h.m.at (st _ .m (Ne.symm h.km)), fun x hx => by
    obtain ⟨h1, h2⟩ := upd_nil hx
    show OL w' 3 1 (a.vs x) (upd s.L k [] x).length (ints (upd s.L k [] x))
    rw [upd_other h1]
    exact OL.heap (h.l x h2) fun g hg => st g (.l h2 hg) fun e => h.k.neOL (h.l x h2) (e ▸ hg), fun x x' g hx hx' => h.sep x x' g (upd_nil hx).2 (upd_nil hx').2, h.ki, h.km, h.im⟩
/-- The list of key k turns: the blocks that are written are its own, and new ones; then the keys' map is written. -/
theorem TbAt.setK {r : Option Nat} (h : TbAt w b a s) (hg1 : w.grownBy w1 r) (hr : ∀ g, r = some g → (s.L k ≠ [] ∧ (a.vs k).ownBlock = some g) ∨ w.heap.size ≤ g)
    (hv : ∀ g, v.ownBlock = some g → (s.L k ≠ [] ∧ (a.vs k).ownBlock = some g) ∨ w.heap.size ≤ g) (ho : OL w1 3 1 v l.length (ints l))
    (hg2 : w1.grownBy w2 (some a.kb)) (hm : MapF Try.prog 9 w2 a.kb (kF (upd s.L k l) (upd a.vs k v))) : TbAt w2 b { a with vs := upd a.vs k v } { s with L := upd s.L k l } := by
  have nr : ∀ j, TAl b a s j → (∀ g, s.L k ≠ [] → (a.vs k).ownBlock = some g → j ≠ g) → w1.heap[j]? = w.heap[j]? := fun j hj hne => hg1.block j (h.lt hj) fun e => by
    rcases hr j e.symm with ⟨h1, h2⟩ | h1
    · exact hne j h1 h2 rfl
    · have := h.lt hj; omega
  have st : ∀ j, TAl b a s j → j ≠ a.kb → (∀ g, s.L k ≠ [] → (a.vs k).ownBlock = some g → j ≠ g) → w2.heap[j]? = w.heap[j]? := fun j hj hne hn => (hg2.block j (Nat.lt_of_lt_of_le (h.lt hj) hg1.size) fun e => hne (Option.some.inj e)).trans (nr j hj hn)
  have hs1 := hg1.size
  refine ⟨(st _ .b (Ne.symm h.bK) fun g h1 h2 e => by obtain ⟨cur, hc⟩ := OL.elem (h.l k h1) g h2; exact type_ne h.c hc (by decide) e).trans h.c, hm, h.i.at (st _ .i (Ne.symm h.ki) fun g h1 h2 e => h.i.neOL (h.l k h1) (e ▸ h2)), h.m.at (st _ .m (Ne.symm h.km) fun g h1 h2 e => h.m.neOL (h.l k h1) (e ▸ h2)), fun x hx => ?_, fun x x' g hx hx' hxg hxg' => ?_, h.ki, h.km, h.im⟩
  · show OL w2 3 1 (upd a.vs k v x) (upd s.L k l x).length (ints (upd s.L k l x))
    by_cases e : x = k
    · subst e
      rw [upd_same, upd_same]
      refine OL.heap ho fun g hg => hg2.block g (OL.lt ho g hg) fun e => ?_
      have e := Option.some.inj e
      rcases hv g hg with ⟨h1, h2⟩ | h1
      · exact h.k.neOL (h.l x h1) (e ▸ h2)
      · have := h.k.lt; omega
    · have hx' : s.L x ≠ [] := by have := hx; rwa [show ({ s with L := upd s.L k l } : Tb).L x = upd s.L k l x from rfl, upd_other e] at this
      rw [upd_other e, upd_other e]
      exact OL.heap (h.l x hx') fun g hg => st g (.l hx' hg) (fun e => h.k.neOL (h.l x hx') (e ▸ hg)) fun g' h1 h2 e' => e (h.sep x k g hx' h1 hg (e' ▸ h2))
  · have px : upd s.L k l x ≠ [] := hx
    have px' : upd s.L k l x' ≠ [] := hx'
    have pg : (upd a.vs k v x).ownBlock = some g := hxg
    have pg' : (upd a.vs k v x').ownBlock = some g := hxg'
    by_cases e : x = k <;> by_cases e' : x' = k
    · rw [e, e']
    · rw [upd_other e'] at px' pg'
      subst e
      rw [upd_same] at pg
      rcases hv g pg with ⟨h1, h2⟩ | h1
      · exact (h.sep x' x g px' h1 pg' h2).symm
      · have := OL.lt (h.l x' px') g pg'; omega
    · rw [upd_other e] at px pg
      subst e'
      rw [upd_same] at pg'
      rcases hv g pg' with ⟨h1, h2⟩ | h1
      · exact h.sep x x' g px h1 pg h2
      · have := OL.lt (h.l x px) g pg; omega
    · rw [upd_other e] at px pg
      rw [upd_other e'] at px' pg'
      exact h.sep x x' g px px' pg pg'
end
theorem strKeyed : Maps.Keyed Try.prog 9 := Maps.string_keyed Try.underlying9
theorem intKeyed : Maps.Keyed Try.prog 3 := Maps.int_keyed Try.underlying3
theorem zeroI (w : World) : (zeroValue 3).run Try.prog w = .ok (.int .i64 0) w := by kernel_rfl
theorem zeroS (w : World) : (zeroValue 9).run Try.prog w = .ok (.string ByteArray.empty) w := by kernel_rfl
theorem zeroL (w : World) : (zeroValue 38).run Try.prog w = .ok (.slice none 0 0) w := by kernel_rfl
theorem kStr {k : ByteArray} (hk : k.size ≤ maxLen) : IsK Try.prog 9 (.string k) := isK_str Try.underlying9 hk
theorem kInt {n : Int} (hn : -9223372036854775808 ≤ n ∧ n ≤ 9223372036854775807) : IsK Try.prog 3 (.int .i64 n) := isK_int Try.underlying3 (WalkArith.wf_i64 hn)
section
variable {w w' : World} {b : Nat} {a : TA} {s : Tb} {k : ByteArray} {n : Int}
open Classical in
/-- The slice of a key, or nil. -/
noncomputable def sl (a : TA) (s : Tb) (k : ByteArray) : Value := if s.L k = [] then .slice none 0 0 else a.vs k
theorem TbAt.lookK (h : TbAt w b a s) (hk : IsK Try.prog 9 (.string k)) : (Instr.lookup 74 (.map (some a.kb)) (.string k) false).run Try.prog w = .ok (sl a s k) w := by
  have := h.k.look strKeyed Try.underlying74 (zeroL w) hk false
  rw [this]
  show Result.ok ((if s.L k = [] then none else some (a.vs k) : Option Value).getD _) w = _
  unfold sl
  by_cases e : s.L k = []
  · rw [if_pos e, if_pos e]; rfl
  · rw [if_neg e, if_neg e]; rfl
theorem TbAt.lookI (h : TbAt w b a s) (hn : IsK Try.prog 3 (.int .i64 n)) : (Instr.lookup 75 (.map (some a.ib)) (.int .i64 n) true).run Try.prog w = .ok (.tuple #[.string ((s.I n).getD ByteArray.empty), .bool (s.I n).isSome]) w := by
  have := h.i.look intKeyed Try.underlying75 (zeroS w) hn true
  rw [this]
  show Result.ok (Value.tuple #[(((s.I n).map Value.string).getD _), .bool ((s.I n).map Value.string).isSome]) w = _
  cases s.I n <;> rfl
theorem TbAt.lookM (h : TbAt w b a s) (hk : IsK Try.prog 9 (.string k)) : (Instr.lookup 76 (.map (some a.mb)) (.string k) true).run Try.prog w = .ok (.tuple #[.int .i64 ((s.M k).getD 0), .bool (s.M k).isSome]) w := by
  have := h.m.look strKeyed Try.underlying76 (zeroI w) hk true
  rw [this]
  show Result.ok (Value.tuple #[(((s.M k).map (Value.int .i64)).getD _), .bool ((s.M k).map (Value.int .i64)).isSome]) w = _
  cases s.M k <;> rfl
theorem TbAt.slOL (h : TbAt w b a s) (k : ByteArray) : OL w 3 1 (sl a s k) (s.L k).length (ints (s.L k)) := by
  unfold sl
  split
  · rename_i e
    rw [e]
    exact OL.nil _ _ _
  · rename_i e
    exact h.l k e
theorem sl_own {g : Nat} (h : (sl a s k).ownBlock = some g) : s.L k ≠ [] ∧ (a.vs k).ownBlock = some g := by
  unfold sl at h
  split at h
  · cases h
  · rename_i e
    exact ⟨e, h⟩
theorem TbAt.slForm (h : TbAt w b a s) (k : ByteArray) : ∃ ao cp, sl a s k = .slice ao (s.L k).length cp ∧ (0 < (s.L k).length → ∃ g off, ao = some ⟨g, off, none⟩) ∧ (s.L k).length ≤ cp ∧ cp ≤ 9223372036854775807 := by
  rcases (h.slOL k).forms with ⟨e, e0⟩ | ⟨g, off, cp, e, h1, h2, _⟩
  · exact ⟨none, 0, by rw [e, e0], fun h => by omega, by omega, by omega⟩
  · exact ⟨_, cp, e, fun _ => ⟨g, off, rfl⟩, h1, h2⟩
/-- Puts and deletes. -/
theorem TbAt.putI (h : TbAt w b a s) (hn : IsK Try.prog 3 (.int .i64 n)) (k : ByteArray) : ∃ w', (Instr.mapUpdate 75 (.map (some a.ib)) (.int .i64 n) (.string k)).run Try.prog w = .ok () w' ∧ TbAt w' b a { s with I := upd s.I n (some k) } ∧ w.grownBy w' (some a.ib) := by
  obtain ⟨w', h1, h2, h3⟩ := h.i.store intKeyed Try.underlying75 hn (.string k)
  exact ⟨w', h1, h.setI h3 (by rw [← iF_put]; exact h2), h3⟩
theorem TbAt.delI (h : TbAt w b a s) (hn : IsK Try.prog 3 (.int .i64 n)) (ty : TypeId) : ∃ w', (Builtin.delete_ #[75, 3] ty #[.map (some a.ib), .int .i64 n]).run Try.prog w = .ok (.tuple #[]) w' ∧ TbAt w' b a { s with I := upd s.I n none } ∧ w.grownBy w' (some a.ib) := by
  obtain ⟨w', h1, h2, h3⟩ := h.i.del intKeyed Try.underlying75 hn ty
  exact ⟨w', h1, h.setI h3 (by rw [← iF_del]; exact h2), h3⟩
theorem TbAt.putM (h : TbAt w b a s) (hk : IsK Try.prog 9 (.string k)) (n : Int) : ∃ w', (Instr.mapUpdate 76 (.map (some a.mb)) (.string k) (.int .i64 n)).run Try.prog w = .ok () w' ∧ TbAt w' b a { s with M := upd s.M k (some n) } ∧ w.grownBy w' (some a.mb) := by
  obtain ⟨w', h1, h2, h3⟩ := h.m.store strKeyed Try.underlying76 hk (.int .i64 n)
  exact ⟨w', h1, h.setM h3 (by rw [← mF_put]; exact h2), h3⟩
theorem TbAt.dropK (h : TbAt w b a s) (hk : IsK Try.prog 9 (.string k)) (ty : TypeId) : ∃ w', (Builtin.delete_ #[74, 9] ty #[.map (some a.kb), .string k]).run Try.prog w = .ok (.tuple #[]) w' ∧ TbAt w' b a { s with L := upd s.L k [] } ∧ w.grownBy w' (some a.kb) := by
  obtain ⟨w', h1, h2, h3⟩ := h.k.del strKeyed Try.underlying74 hk ty
  exact ⟨w', h1, h.delK h3 (by rw [← kF_del]; exact h2), h3⟩
/-- The list of a key turns and is put back. -/
theorem TbAt.putK {r : Option Nat} {w1 : World} {v : Value} {l : List Int} (h : TbAt w b a s) (hk : IsK Try.prog 9 (.string k)) (hl : l ≠ []) (hg1 : w.grownBy w1 r) (hr : ∀ g, r = some g → (s.L k ≠ [] ∧ (a.vs k).ownBlock = some g) ∨ w.heap.size ≤ g)
    (hv : ∀ g, v.ownBlock = some g → (s.L k ≠ [] ∧ (a.vs k).ownBlock = some g) ∨ w.heap.size ≤ g) (ho : OL w1 3 1 v l.length (ints l)) :
    ∃ w2, (Instr.mapUpdate 74 (.map (some a.kb)) (.string k) v).run Try.prog w1 = .ok () w2 ∧ TbAt w2 b { a with vs := upd a.vs k v } { s with L := upd s.L k l } ∧ w1.grownBy w2 (some a.kb) := by
  have hk1 : MapF Try.prog 9 w1 a.kb (kF s.L a.vs) := h.k.at (hg1.block _ h.k.lt fun e => by
    rcases hr _ e.symm with ⟨h1, h2⟩ | h1
    · exact h.k.neOL (h.l k h1) h2
    · have := h.k.lt; omega)
  obtain ⟨w', h1, h2, h3⟩ := hk1.store strKeyed Try.underlying74 hk v
  exact ⟨w', h1, h.setK hg1 hr hv ho h3 (by rw [← kF_put hl]; exact h2), h3⟩
end
end Go.Proofs.Ytfnohilhlofimaa

/- queue: the acts of a statement; the calls as QueueBounds sees them. Conditions: each contract names its own. -/
import Derived.Test.YtonkaodbjohkkaaQuBf
namespace Go.Proofs.Ytonkaodbjohkkaa
open Go.RowKit

def actK (j : Nat) : IntKind := if j < 2 then .u8 else .i64
theorem actK_of {fs : Array Field} (he : Try.prog.underlying 43 = some (.struct fs)) : ∀ (j : Nat) (f : Field), fs[j]? = some f → Try.prog.underlying f.type = some (.int (actK j)) := by
  rw [Try.underlying43] at he
  obtain rfl := TypeDesc.struct.inj (Option.some.inj he)
  intro j f hf
  match j, hf with
  | 0, hf => simp at hf; subst hf; exact Try.underlying5
  | 1, hf => simp at hf; subst hf; exact Try.underlying5
  | 2, hf => simp at hf; subst hf; exact Try.underlying3
  | j + 3, hf => simp at hf
structure IsActs (w : World) (ao : Option Addr) (n b off : Nat) (X : Nat → Nat → Int) : Prop where
  ao : 0 < n → ao = some ⟨b, off, none⟩
  lt : 0 < n → b < w.heap.size
  c : ∀ i, i < n → ∀ j, j < 3 → w.cell? ⟨b, off + i * 3 + j, none⟩ = some (.int (actK j) (X i j)) ∧ (Lit.int (actK j) (X i j)).wf = true
structure ActC (w : World) (b o : Nat) (x0 x1 x2 : Int) : Prop where
  c0 : w.cell? ⟨b, o, none⟩ = some (.int .u8 x0)
  c1 : w.cell? ⟨b, o + 1, none⟩ = some (.int .u8 x1)
  c2 : w.cell? ⟨b, o + 2, none⟩ = some (.int .i64 x2)
theorem IsActs.at_ {w : World} {ao : Option Addr} {n b off : Nat} {X : Nat → Nat → Int} (h : IsActs w ao n b off X) {i : Nat} (hi : i < n) : ActC w b (off + i * 3) (X i 0) (X i 1) (X i 2) ∧ (0 ≤ X i 0 ∧ X i 0 ≤ 255) ∧ (0 ≤ X i 1 ∧ X i 1 ≤ 255) ∧ (-9223372036854775808 ≤ X i 2 ∧ X i 2 ≤ 9223372036854775807) :=
  ⟨⟨(h.c i hi 0 (by omega)).1, (h.c i hi 1 (by omega)).1, (h.c i hi 2 (by omega)).1⟩, bounds_u8 (h.c i hi 0 (by omega)).2, bounds_u8 (h.c i hi 1 (by omega)).2, bounds_i64 (h.c i hi 2 (by omega)).2⟩
theorem IsActs.below {w w' : World} {ao : Option Addr} {n b off : Nat} {X : Nat → Nat → Int} (h : IsActs w ao n b off X) {B : Nat} (hb : Below B w w') (hB : w.heap.size ≤ B) : IsActs w' ao n b off X :=
  ⟨h.ao, fun h0 => by have := hb.size; have := h.lt h0; omega, fun i hi j hj => ⟨(hb.cell (p := ⟨b, _, none⟩) (show b < B from Nat.lt_of_lt_of_le (h.lt (by omega)) hB)).trans (h.c i hi j hj).1, (h.c i hi j hj).2⟩⟩
theorem keyB_len (n : Int) : (keyB n).size ≤ maxLen := by
  show (strOfNums [97 + n % 16, 48 + n / 16]).size ≤ maxLen
  unfold strOfNums maxLen
  simp [ByteArray.size]
section
variable {w0 w w' : World} {b mb c : Nat} {s s' : QS} {f : Value → Option Value} {k : ByteArray} {z : Int} {cap : Int}
/-- A call that returns v and leaves the queue s'. -/
def MP (w0 : World) (b mb : Nat) (s' : QS) (f : Value → Option Value) (v : Value) (e : Ending) (w' : World) : Prop := e = .returned v ∧ SM w0 b mb s' f w'
def MT (w0 : World) (b mb : Nat) (s' : QS) (f : Value → Option Value) (l : List ByteArray) (e : Ending) (w' : World) : Prop :=
  ∃ ao cp, e = .returned (.slice ao l.length cp) ∧ IsT w' (.slice ao l.length cp) l ∧ (∀ g, (Value.slice ao l.length cp).ownBlock = some g → g ≠ mb) ∧ SM w0 b mb s' f w'
theorem MT.of_new {l : List ByteArray} {e : Ending} (h : SM w0 b mb s f w) (hn : NewT l w e w') : MT w0 b mb s f l e w' := by
  obtain ⟨v, rfl, hT, hF, hb⟩ := hn
  obtain ⟨ao, cap, rfl, _⟩ := hT.form
  exact ⟨ao, cap, rfl, hT, fun g hg => by have := hF g hg; have := h.m.lt; omega, h.below hb⟩
theorem m_put (h : SM w0 b mb s f w) (hB : Bd c cap s) (hcap : cap ≤ 64) (hc : c ≤ 90000) (k : ByteArray) (z : Int) (hz : -1099511627776 ≤ z ∧ z ≤ 1099511627776) :
    Calls Try.prog 13 #[.pointer (some ⟨b, 0, none⟩), .string k, .int .i64 z] w (MT w0 b mb (putS s k z).1 f (putS s k z).2) := by
  have hs := hB.sum
  refine (q_put h.q hB.g hB.g64 (by omega) hc k z (by omega)).mono ?_
  rintro e w1 ⟨v, rfl, hT, hF, hq⟩
  obtain ⟨ao, cp, rfl, _⟩ := hT.form
  exact ⟨ao, cp, rfl, hT, fun g hg => by have := hF g hg; have := h.m.lt; omega, h.up hq⟩
theorem m_keys (h : SM w0 b mb s f w) (hB : Bd c cap s) (hc : c ≤ 90000) : Calls Try.prog 16 #[.pointer (some ⟨b, 0, none⟩)] w (MT w0 b mb s f ((entQ s).map Prod.fst)) := by
  have := hB.g.ln
  rw [← keysQ_ent]
  obtain ⟨vr, vf, vg, h1, _⟩ := id h.q
  exact (q_keys h1 (by omega)).mono fun e w' he => MT.of_new h he
theorem m_ghosts (h : SM w0 b mb s f w) (hB : Bd c cap s) : Calls Try.prog 15 #[.pointer (some ⟨b, 0, none⟩)] w (MT w0 b mb s f (s.g.map Prod.fst)) := by
  have := hB.g64
  obtain ⟨vr, vf, vg, h1, _⟩ := id h.q
  exact (q_ghosts h1 (by omega)).mono fun e w' he => MT.of_new h he
theorem m_has (h : SM w0 b mb s f w) {x : Bool} (hx : x = true ↔ k ∈ keysQ s) : Calls Try.prog 12 #[.pointer (some ⟨b, 0, none⟩), .string k] w fun e w' => MP w0 b mb s f (.bool x) e w' ∧ Below w.heap.size w w' := by
  obtain ⟨vr, vf, vg, h1, _⟩ := id h.q
  refine (q_has h1 k).mono ?_
  rintro e w' ⟨rfl, hb⟩
  refine ⟨⟨?_, h.below hb⟩, hb⟩
  have : (hasL s.r k || hasL s.f k) = x := by
    rw [Bool.eq_iff_iff, Bool.or_eq_true, hasL_iff, hasL_iff, hx]
    exact List.mem_append.symm
  rw [this]
theorem m_used (h : SM w0 b mb s f w) (hB : Bd c cap s) : Calls Try.prog 26 #[.pointer (some ⟨b, 0, none⟩)] w (MP w0 b mb s f (.int .i64 (sumI (entQ s)))) := by
  obtain ⟨vr, vf, vg, h1, _⟩ := id h.q
  refine (q_used h1 hB.g).mono ?_
  rintro e w' ⟨rfl, hb⟩
  exact ⟨by rw [← sum_ent], h.below hb⟩
theorem m_touch (h : SM w0 b mb s f w) (hB : Bd c cap s) (hc : c ≤ 90000) {x : Bool} (hx : x = true ↔ k ∈ keysQ s) : Calls Try.prog 17 #[.pointer (some ⟨b, 0, none⟩), .string k] w (MP w0 b mb (TouchS s k) f (.bool x)) := by
  have := hB.g.ln
  refine (q_touch h.q (by omega) k).mono ?_
  rintro e w' ⟨rfl, hq⟩
  have : (hasL s.f k || hasL s.r k) = x := by
    rw [Bool.eq_iff_iff, Bool.or_eq_true, hasL_iff, hasL_iff, hx]
    exact or_comm.trans List.mem_append.symm
  exact ⟨by rw [this], h.up hq⟩
theorem m_remove (h : SM w0 b mb s f w) {x : Bool} (hx : x = true ↔ k ∈ keysQ s) : Calls Try.prog 20 #[.pointer (some ⟨b, 0, none⟩), .string k] w (MP w0 b mb (RemS s k) f (.bool x)) := by
  refine (q_remove h.q k).mono ?_
  rintro e w' ⟨rfl, hq⟩
  have : (hasL s.r k || hasL s.f k) = x := by
    rw [Bool.eq_iff_iff, Bool.or_eq_true, hasL_iff, hasL_iff, hx]
    exact List.mem_append.symm
  exact ⟨by rw [this], h.up hq⟩
theorem SM.isK (h : SM w0 b mb s f w) {v : Value} (hf : f (.string k) = some v) : IsK Try.prog 9 (.string k) := h.m.isK hf
theorem kStr (hk : k.size ≤ maxLen) : IsK Try.prog 9 (.string k) := isK_str Try.underlying9 hk
theorem SM.look {l : List It} (h : SM w0 b mb s f w) (hz : SzF f l) (hk : IsK Try.prog 9 (.string k)) : ∃ lv ok,
    (Instr.lookup 52 (.map (some mb)) (.string k) true).run Try.prog w = .ok (.tuple #[lv, .bool ok]) w ∧ (ok = true ↔ k ∈ l.map Prod.fst) := by
  refine ⟨_, _, h.m.look strKeyed Try.underlying52 (zeroI _) hk true, ?_⟩
  by_cases hm : k ∈ l.map Prod.fst
  · rw [hz.ok (b := true) ⟨fun _ => hm, fun _ => rfl⟩]; exact ⟨fun _ => hm, fun _ => rfl⟩
  · rw [hz.ok (b := false) ⟨fun h => by (cases h), fun h => absurd h hm⟩]; exact ⟨fun h => by (cases h), fun h => absurd h hm⟩
theorem SM.get {l : List It} {x : It} (h : SM w0 b mb s f w) (hz : SzF f l) (hx : x ∈ l) :
    (Instr.lookup 52 (.map (some mb)) (.string x.1) true).run Try.prog w = .ok (.tuple #[.int .i64 x.2, .bool true]) w := by
  have := h.m.look strKeyed Try.underlying52 (zeroI _) (h.isK (hz.some hx)) true
  rw [hz.some hx] at this
  exact this
theorem SM.put (h : SM w0 b mb s f w) (hk : IsK Try.prog 9 (.string k)) (v : Value) :
    ∃ w', (Instr.mapUpdate 52 (.map (some mb)) (.string k) v).run Try.prog w = .ok () w' ∧ SM w0 b mb s (fput f (.string k) v) w' ∧ w.grownBy w' (some mb) := by
  obtain ⟨w', h1, h2, h3⟩ := h.m.store strKeyed Try.underlying52 hk v
  exact ⟨w', h1, h.map h3 h2, h3⟩
theorem SM.del (h : SM w0 b mb s f w) (hk : IsK Try.prog 9 (.string k)) (ty : TypeId) :
    ∃ w', (Builtin.delete_ #[52, 9] ty #[.map (some mb), .string k]).run Try.prog w = .ok (.tuple #[]) w' ∧ SM w0 b mb s (fdel f (.string k)) w' ∧ w.grownBy w' (some mb) := by
  obtain ⟨w', h1, h2, h3⟩ := h.m.del strKeyed Try.underlying52 hk ty
  exact ⟨w', h1, h.map h3 h2, h3⟩
theorem IsT.ao {ao : Option Addr} {n cp : Nat} {l : List ByteArray} (h : IsT w (.slice ao n cp) l) : 0 < n → ∃ g off, ao = some ⟨g, off, none⟩ := by
  obtain ⟨a, c', e, h2, _⟩ := h.form
  cases e
  intro h0
  obtain ⟨g, off, e, _⟩ := h2 h0
  exact ⟨g, off, e⟩
theorem IsT.at_ {g off n cp : Nat} {l : List ByteArray} (h : IsT w (.slice (some ⟨g, off, none⟩) n cp) l) (hn : n = l.length) {q : Nat} (hq : q < n) : w.cell? ⟨g, off + q, none⟩ = some (.string (l.getD q ByteArray.empty)) := by
  subst hn
  exact (OL.cell h q (by omega)).trans (strs_get l q hq)
theorem SM.len (h : SM w0 b mb s f w) (hz : SzF f (entQ s)) (hu : (keysQ s).Nodup) (ty : TypeId) (w' : World) (hh : w'.heap = w.heap) :
    (Builtin.len_ #[52] ty #[.map (some mb)]).run Try.prog w' = .ok (.int .i64 (entQ s).length) w' := by
  have := (h.m.at (w' := w') (by rw [hh])).len Try.underlying52 (ks := (entQ s).map fun y => Value.string y.1) (keys_nodup (by rw [← keysQ_ent]; exact hu)) hz.keys ty
  rwa [List.length_map] at this
end
end Go.Proofs.Ytonkaodbjohkkaa

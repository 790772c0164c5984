/- network: the receive loop of NetworkDelivers: its relation, in plain Lean. Conditions: each its own. network: the document's network in plain Lean, and that it says what the program does. No program here. -/
import Derived.Test.YtkhiepjlfbjgdaaZNwDelR
namespace Go.Proofs.Ytkhiepjlfbjgdaa
open Go.RowKit Go.Lib

/-- A row of flags. -/
def bRow (n : Nat) (seen : Nat → Bool) : List Value := (List.range n).map fun i => .bool (seen i)
theorem bRow_len (n : Nat) (seen : Nat → Bool) : (bRow n seen).length = n := by simp [bRow]
theorem bRow_get {n i : Nat} (seen : Nat → Bool) (hi : i < n) : (bRow n seen).getD i undef = .bool (seen i) := by
  simp [bRow, List.getD, hi]
theorem bRow_set {n i : Nat} (seen : Nat → Bool) (hi : i < n) : (bRow n seen).set i (.bool true) = bRow n (fun j => if j = i then true else seen j) := by
  apply List.ext_getElem
  · simp [bRow]
  · intro j h1 h2
    simp only [bRow, List.length_set, List.length_map, List.length_range] at h1
    rw [List.getElem_set]
    by_cases e : i = j
    · subst e
      simp [bRow]
    · rw [if_neg e]
      have e' : ¬ j = i := fun h => e h.symm
      simp [bRow, e']
theorem bRow_none (n : Nat) : bRow n (fun _ => false) = List.replicate n (.bool false) := by
  apply List.ext_getElem
  · simp [bRow]
  · intro i h1 h2
    simp [bRow]
theorem str_byts (s : ByteArray) : strOfNums (byts s) = s := by
  unfold strOfNums byts
  obtain ⟨⟨l⟩⟩ := s
  rw [ByteArray.toList_eq]
  show ByteArray.mk _ = _
  congr 1
  simp only [List.map_map]
  congr 1
  exact (List.map_congr_left (g := id) fun b _ => by simp [Function.comp]).trans (List.map_id l)
section
variable {A : Nat → MsgV} {D : Nat → Int} {n b sb : Nat} {wa : World}
/-- Behind m deliveries. -/
structure RcD (wa : World) (b n sb : Nat) (A : Nat → MsgV) (D : Nat → Int) (m : Nat) (t0 : Int) (seen : Nat → Bool) (s : Net) (wr : World) : Prop where
  c : CN wa (fun j => j = sb) b n s wr
  row : Row wr 4 sb (bRow n seen)
  arr : s.arr = restA A D n seen
  len : s.arr.length + m = n
  tb : 0 ≤ t0 ∧ t0 ≤ 100000
  t : ∀ z, z ∈ s.arr → t0 ≤ z.t
def RcL (wa : World) (b n sb : Nat) (A : Nat → MsgV) (D : Nat → Int) (v lv : Value) (wr : World) : Prop :=
  ∃ (m : Nat) (t0 : Int) (seen : Nat → Bool) (s : Net), v = .int .i64 m ∧ lv = .int .i64 t0 ∧ RcD wa b n sb A D m t0 seen s wr
/-- In the search for the message. -/
def InD (wa w5 : World) (b n sb : Nat) (A : Nat → MsgV) (i0 : Nat) (s : Net) (seen : Nat → Bool) (tv fv iv : Value) (wr : World) : Prop :=
  (∃ q : Nat, q ≤ i0 ∧ tv = .int .i64 (tAt A q) ∧ fv = .bool false ∧ iv = .int .i64 q ∧ Below w5.heap.size w5 wr) ∨
  (∃ x, tv = .int .i64 x ∧ fv = .bool true ∧ iv = .int .i64 (i0 + 1 : Nat) ∧ CN wa (fun j => j = sb) b n s wr ∧ Row wr 4 sb (bRow n fun j => if j = i0 then true else seen j))
theorem dlA_bd (hD : ∀ i, i < 6 → 0 ≤ D i ∧ D i ≤ 65535) (i : Nat) : 0 ≤ dlA A D i ∧ dlA A D i ≤ 65535 := by
  unfold dlA
  split
  · exact hD _ (Nat.mod_lt _ (by omega))
  · omega
theorem sooner_t {x y : Arr} (h : ¬ sooner x y = true) : y.t ≤ x.t := by
  unfold sooner at h
  simp at h
  omega
/-- One delivery. -/
theorem RcD.next {m : Nat} {t0 : Int} {seen : Nat → Bool} {s : Net} {wr : World} (h : RcD wa b n sb A D m t0 seen s wr) (hg : ∀ i, i < n → 0 ≤ (A i).gap ∧ (A i).gap ≤ 255) (hD : ∀ i, i < 6 → 0 ≤ D i ∧ D i ≤ 65535) (hn : n ≤ 60) (hm : m < n) :
    ∃ i, i < n ∧ seen i = false ∧ s.at_ (bestN s s.arr.length) = mkA A D i ∧ (∀ j, j < i → seen j = false → ¬ (nodeS (A j).from_.toNat = nodeS (A i).from_.toNat ∧ nodeS (A j).to_.toNat = nodeS (A i).to_.toNat)) ∧
      0 < s.arr.length ∧ t0 ≤ (mkA A D i).t ∧ (mkA A D i).t ≤ 100000 ∧ ∀ w', CN wa (fun j => j = sb) b n s.recv w' → Row w' 4 sb (bRow n fun j => if j = i then true else seen j) → RcD wa b n sb A D (m + 1) (mkA A D i).t (fun j => if j = i then true else seen j) s.recv w' := by
  have hl := h.len
  have h0 : 0 < s.arr.length := by omega
  obtain ⟨i, hi, hs, hat, hfirst, hbest⟩ := rest_best h.arr (fun i hi => (hg i hi).1) h0
  have hbm := best_mem h0
  have ht := h.t _ hbm
  rw [hat] at ht
  have ht2 : (mkA A D i).t ≤ 100000 := by
    show tAt A (i + 1) + dlA A D i ≤ 100000
    have := tAt_le (A := A) (n := n) (fun i hi => (hg i hi).2) (show i + 1 ≤ n by omega)
    have := (dlA_bd (A := A) hD i).2
    omega
  have hlt := bestN_lt s _ h0
  have harr : s.recv.arr = restA A D n (fun j => if j = i then true else seen j) := by
    show s.arr.eraseIdx _ = _
    rw [hbest, h.arr]
    exact rest_erase hi hs
  refine ⟨i, hi, hs, hat, hfirst, h0, ht, ht2, fun w' hc hr => ⟨hc, hr, harr, ?_, ⟨by have := h.tb.1; omega, ht2⟩, fun z hz => ?_⟩⟩
  · show (s.arr.eraseIdx _).length + _ = _
    rw [List.length_eraseIdx_of_lt hlt]
    omega
  · have := sooner_t (best_min (recv_mem hz))
    rw [hat] at this
    exact this
end
end Go.Proofs.Ytkhiepjlfbjgdaa

namespace Go.Proofs.Ytkhiepjlfbjgdaa
open Go.RowKit

/-- A usual delay: from, to, delay. -/
abbrev UR := ByteArray × (ByteArray × Int)
/-- A fate with the value of its delays. -/
structure FR where
  a : ByteArray
  b : ByteArray
  i : Int
  l : List Int
  v : Value
/-- A delivery of the document. -/
structure DL where
  t : Int
  a : ByteArray
  b : ByteArray
  d : ByteArray
/-- The document's network. -/
structure DN where
  dflt : Int
  present : Int
  lost : Int
  us : List UR
  fs : List FR
  cs : List NCut
  se : List DL
  ls : List DL
  /-- (blocks of the arguments lie below it) -/
  lim : Nat
def dDL : DL := ⟨0, ByteArray.empty, ByteArray.empty, ByteArray.empty⟩
def dUR : UR := (ByteArray.empty, (ByteArray.empty, 0))
def dFR : FR := ⟨ByteArray.empty, ByteArray.empty, 0, [], .slice none 0 0⟩
def dirD' (x y : ByteArray) (m : DL) : Bool := decide (m.a = x ∧ m.b = y)
def countD (se : List DL) (x y : ByteArray) : Nat := se.countP (dirD' x y)
def isF (x y : ByteArray) (i : Int) (f : FR) : Bool := decide (f.a = x ∧ f.b = y ∧ f.i = i)
def usD : List UR → Int → ByteArray → ByteArray → Int
  | [], d, _, _ => d
  | u :: r, d, x, y => usD r (if u.1 = x ∧ u.2.1 = y then u.2.2 else d) x y
theorem usD_snoc (x y : ByteArray) (u : UR) : ∀ (l : List UR) (d : Int), usD (l ++ [u]) d x y = if u.1 = x ∧ u.2.1 = y then u.2.2 else usD l d x y
  | [], d => rfl
  | v :: l, d => by
    rw [List.cons_append, usD, usD_snoc x y u l, usD]
def DN.list (D : DN) (t : Int) (x y : ByteArray) : List Int :=
  if cutB D.cs t x y = true then [] else ((D.fs.find? (isF x y (countD D.se x y))).map FR.l).getD [usD D.us D.dflt x y]
def DN.send (D : DN) (m : DL) : DN := { D with present := m.t, lost := D.lost + (if (D.list m.t m.a m.b).length = 0 then 1 else 0), se := D.se ++ [m], ls := D.ls ++ (D.list m.t m.a m.b).map fun d => ⟨m.t + d, m.a, m.b, m.d⟩ }
/-- The first soonest of the first k. -/
def bestD (ls : List DL) : Nat → Nat
  | 0 => 0
  | k + 1 => if (ls.getD k dDL).t < (ls.getD (bestD ls k) dDL).t then k else bestD ls k
theorem bestD_lt (ls : List DL) : ∀ k, 0 < k → bestD ls k < k
  | 0, h => by omega
  | k + 1, _ => by
    rw [bestD]
    split
    · omega
    · by_cases h : 0 < k
      · have := bestD_lt ls k h; omega
      · obtain rfl : k = 0 := by omega
        show 0 < 1; omega
def DN.recv (D : DN) : DN := { D with ls := D.ls.eraseIdx (bestD D.ls D.ls.length), present := max D.present (D.ls.getD (bestD D.ls D.ls.length) dDL).t }
def toDL (x : Arr) : DL := ⟨x.t, x.a, x.b, strOfNums x.data⟩
/-- The program's network is the document's. -/
structure SimN (s : Net) (D : DN) : Prop where
  u : s.usual = D.dflt
  p : s.present = D.present
  o : s.lost = D.lost
  n : ∀ x y, (s.get x y).sent = countD D.se x y
  d : ∀ x y, (s.get x y).delay = usD D.us D.dflt x y
  f : ∀ x y (i : Int), (s.get x y).fates i = (D.fs.find? (isF x y i)).map FR.l
  c : s.cuts = D.cs
  a : s.arr.map toDL = D.ls
  w : s.arr.Pairwise fun x y => x.msg < y.msg ∨ (x.msg = y.msg ∧ x.copy < y.copy)
  m : ∀ x ∈ s.arr, x.msg ≤ s.msgs
  b : ∀ x ∈ s.arr, 0 ≤ x.t ∧ x.t ≤ 1152921504606846976
section
variable {s : Net} {D : DN} {x y : ByteArray}
theorem get_at (s : Net) (x y : ByteArray) (L : Line) : (s.setL x y L).get x y = L := by unfold Net.get; rw [Net.setL_at]; rfl
theorem get_ne (s : Net) {x y x' y' : ByteArray} (L : Line) (h : ¬ (x' = x ∧ y' = y)) : (s.setL x y L).get x' y' = s.get x' y' := by unfold Net.get; rw [Net.setL_ne h]; rfl
theorem SimN.init {d : Int} {L : Nat} : SimN (Net.init d) ⟨d, 0, 0, [], [], [], [], [], L⟩ :=
  ⟨rfl, rfl, rfl, fun _ _ => rfl, fun _ _ => rfl, fun _ _ _ => rfl, rfl, rfl, List.Pairwise.nil, fun _ h => (by cases h), fun _ h => (by cases h)⟩
theorem SimN.touch (h : SimN s D) (x y : ByteArray) : SimN (s.touch x y) D := by
  have e : ∀ x' y', (s.touch x y).get x' y' = s.get x' y' := fun x' y' => by
    by_cases e : x' = x ∧ y' = y
    · rw [e.1, e.2]; exact get_at s x y _
    · exact get_ne s _ e
  exact ⟨h.u, h.p, h.o, fun x y => by rw [e]; exact h.n x y, fun x y => by rw [e]; exact h.d x y, fun x y i => by rw [e]; exact h.f x y i, h.c, h.a, h.w, h.m, h.b⟩
theorem SimN.delay (h : SimN s D) (x y : ByteArray) (d : Int) : SimN (s.delay x y d) { D with us := D.us ++ [(x, (y, d))] } := by
  have e : ∀ x' y', ((s.delay x y d).get x' y').sent = (s.get x' y').sent ∧ ((s.delay x y d).get x' y').fates = (s.get x' y').fates ∧ ((s.delay x y d).get x' y').delay = if x = x' ∧ y = y' then d else (s.get x' y').delay := fun x' y' => by
    by_cases e : x' = x ∧ y' = y
    · rw [e.1, e.2, if_pos ⟨rfl, rfl⟩]; unfold Net.delay; rw [get_at]; exact ⟨rfl, rfl, rfl⟩
    · rw [if_neg (fun h => e ⟨h.1.symm, h.2.symm⟩)]; unfold Net.delay; rw [get_ne _ _ e]; exact ⟨rfl, rfl, rfl⟩
  exact ⟨h.u, h.p, h.o, fun x y => by rw [(e x y).1]; exact h.n x y, fun x' y' => by
    rw [(e x' y').2.2, h.d]
    show _ = usD (D.us ++ [(x, (y, d))]) D.dflt x' y'
    rw [usD_snoc], fun x y i => by rw [(e x y).2.1]; exact h.f x y i, h.c, h.a, h.w, h.m, h.b⟩
theorem SimN.cut (h : SimN s D) (x y : ByteArray) (i j : Int) : SimN (s.cut x y i j) { D with cs := D.cs ++ [⟨x, y, i, j⟩] } :=
  ⟨h.u, h.p, h.o, h.n, h.d, h.f, by show s.cuts ++ _ = _; rw [h.c], h.a, h.w, h.m, h.b⟩
theorem SimN.list (h : SimN s D) (t : Int) (x y : ByteArray) : s.list t x y = D.list t x y := by
  unfold Net.list DN.list
  rw [h.c, h.n, h.d, h.f]
theorem SimN.fate (h : SimN s D) (f : FR) (hf : (s.get f.a f.b).fates f.i = none) : SimN (s.fate f.a f.b f.i f.l) { D with fs := D.fs ++ [f] } := by
  have e : ∀ x' y', ((s.fate f.a f.b f.i f.l).get x' y').sent = (s.get x' y').sent ∧ ((s.fate f.a f.b f.i f.l).get x' y').delay = (s.get x' y').delay := fun x' y' => by
    unfold Net.fate
    by_cases e : x' = f.a ∧ y' = f.b
    · rw [e.1, e.2, get_at]; exact ⟨rfl, rfl⟩
    · rw [get_ne _ _ e]; exact ⟨rfl, rfl⟩
  refine ⟨h.u, h.p, h.o, fun x y => by rw [(e x y).1]; exact h.n x y, fun x y => by rw [(e x y).2]; exact h.d x y, fun x' y' i => ?_, h.c, h.a, h.w, h.m, h.b⟩
  show _ = ((D.fs ++ [f]).find? (isF x' y' i)).map FR.l
  rw [List.find?_append, Option.map_or, ← h.f]
  unfold Net.fate
  by_cases e : x' = f.a ∧ y' = f.b
  · rw [e.1, e.2, get_at]
    unfold Line.setF
    dsimp only
    by_cases ei : i = f.i
    · rw [if_pos ei, ei, hf]
      simp [isF, List.find?]
    · rw [if_neg ei]
      have : isF f.a f.b i f = false := by unfold isF; simp; exact fun h => ei h.symm
      simp [List.find?, this]
  · rw [get_ne _ _ e]
    have : isF x' y' i f = false := by unfold isF; simp; exact fun h1 h2 => absurd ⟨h1.symm, h2.symm⟩ e
    simp [List.find?, this]
theorem toDL_news (t : Int) (x y d : ByteArray) (m : Int) (l : List Int) : (news t x y (byts d) m l l.length).map toDL = l.map fun k => ⟨t + k, x, y, d⟩ := by
  unfold news
  rw [List.map_map]
  apply List.ext_getElem
  · simp
  · intro i h1 h2
    have hi : i < l.length := by simpa using h1
    simp [toDL, List.getD, hi, str_byts]
theorem SimN.send (h : SimN s D) {t : Int} (ht : 0 ≤ t) (ht2 : t ≤ 1099511627776) (hg : ∀ d ∈ D.list t x y, 0 ≤ d ∧ d ≤ 17179869184) (d : ByteArray) : SimN (s.sent t x y (byts d)) (D.send ⟨t, x, y, d⟩) := by
  have e : ∀ x' y', ((s.sent t x y (byts d)).get x' y').fates = (s.get x' y').fates ∧ ((s.sent t x y (byts d)).get x' y').delay = (s.get x' y').delay ∧ ((s.sent t x y (byts d)).get x' y').sent = (s.get x' y').sent + if x = x' ∧ y = y' then 1 else 0 := fun x' y' => by
    have e0 : (s.sent t x y (byts d)).get x' y' = (s.setL x y { s.get x y with sent := (s.get x y).sent + 1 }).get x' y' := rfl
    rw [e0]
    by_cases e : x' = x ∧ y' = y
    · rw [e.1, e.2, if_pos ⟨rfl, rfl⟩, get_at]; exact ⟨rfl, rfl, rfl⟩
    · rw [if_neg (fun h => e ⟨h.1.symm, h.2.symm⟩), get_ne _ _ e]; exact ⟨rfl, rfl, (Int.add_zero _).symm⟩
  have hn : ∀ z ∈ news t x y (byts d) (s.msgs + 1) (s.list t x y) (s.list t x y).length, ∃ i, i < (s.list t x y).length ∧ z = ⟨t + (s.list t x y).getD i 0, x, y, byts d, s.msgs + 1, i⟩ := fun z hz => by
    unfold news at hz
    obtain ⟨i, hi, rfl⟩ := List.mem_map.1 hz
    exact ⟨i, List.mem_range.1 hi, rfl⟩
  refine ⟨h.u, rfl, ?_, fun x' y' => ?_, fun x y => by rw [(e x y).2.1]; exact h.d x y, fun x y i => by rw [(e x y).1]; exact h.f x y i, h.c, ?_, ?_, fun z hz => ?_, fun z hz => ?_⟩
  · show s.lost + _ = D.lost + _
    rw [h.o, h.list]
  · rw [(e x' y').2.2, h.n]
    show _ = ((countD (D.se ++ [⟨t, x, y, d⟩]) x' y' : Nat) : Int)
    unfold countD
    rw [List.countP_append, List.countP_singleton]
    unfold dirD'
    by_cases e : x = x' ∧ y = y'
    · rw [if_pos e, if_pos (decide_eq_true e)]; omega
    · rw [if_neg e, if_neg (by simpa using e)]; omega
  · show (s.arr ++ _).map toDL = D.ls ++ _
    rw [List.map_append, h.a, toDL_news, h.list]
  · show (s.arr ++ _).Pairwise _
    rw [List.pairwise_append]
    refine ⟨h.w, ?_, fun a ha z hz => ?_⟩
    · unfold news
      rw [List.pairwise_map]
      exact List.pairwise_lt_range.imp fun hij => .inr ⟨rfl, by dsimp only; omega⟩
    · obtain ⟨i, _, rfl⟩ := hn z hz
      exact .inl (by show a.msg < s.msgs + 1; have := h.m a ha; omega)
  · show z.msg ≤ s.msgs + 1
    rcases List.mem_append.1 hz with hz | hz
    · have := h.m z hz; omega
    · obtain ⟨i, _, rfl⟩ := hn z hz
      exact Int.le_refl _
  · rcases List.mem_append.1 hz with hz | hz
    · exact h.b z hz
    · obtain ⟨i, hi, rfl⟩ := hn z hz
      have := hg ((s.list t x y).getD i 0) (by rw [← h.list]; simp [List.getD, hi])
      exact ⟨by show 0 ≤ t + _; omega, by show t + _ ≤ _; omega⟩
theorem SimN.len (h : SimN s D) : D.ls.length = s.arr.length := by rw [← h.a, List.length_map]
theorem SimN.get (h : SimN s D) {i : Nat} (hi : i < s.arr.length) : D.ls.getD i dDL = toDL (s.at_ i) := by
  rw [← h.a]
  unfold Net.at_
  simp [List.getD, hi]
theorem SimN.best (h : SimN s D) : ∀ k, k ≤ s.arr.length → bestN s k = bestD D.ls k
  | 0, _ => rfl
  | k + 1, hk => by
    rw [bestN, bestD, ← h.best k (by omega)]
    by_cases h0 : k = 0
    · subst h0
      have e1 : sooner (s.at_ 0) (s.at_ 0) = false := by unfold sooner; simp
      rw [show bestN s 0 = 0 from rfl, e1, if_neg (by decide), if_neg (by omega)]
    · have hb := bestN_lt s k (by omega)
      rw [h.get (by omega), h.get (by omega)]
      have hp := List.pairwise_iff_getElem.1 h.w _ _ (by omega) (by omega) hb
      have e1 : ∀ i, (hi : i < s.arr.length) → s.at_ i = s.arr[i] := fun i hi => by unfold Net.at_; simp [List.getD, hi]
      rw [← e1, ← e1] at hp
      have : (sooner (s.at_ k) (s.at_ (bestN s k)) = true) ↔ (toDL (s.at_ k)).t < (toDL (s.at_ (bestN s k))).t := by
        show _ ↔ (s.at_ k).t < (s.at_ (bestN s k)).t
        unfold sooner
        simp
        omega
      by_cases h2 : sooner (s.at_ k) (s.at_ (bestN s k)) = true
      · rw [if_pos h2, if_pos (this.1 h2)]
      · rw [if_neg h2, if_neg (fun h3 => h2 (this.2 h3))]
theorem SimN.recv (h : SimN s D) (h0 : 0 < s.arr.length) : SimN s.recv D.recv := by
  have hb := bestN_lt s _ h0
  have e : bestD D.ls D.ls.length = bestN s s.arr.length := by rw [h.len]; exact (h.best _ (Nat.le_refl _)).symm
  refine ⟨h.u, ?_, h.o, h.n, h.d, h.f, h.c, ?_, h.w.sublist (List.eraseIdx_sublist _ _), fun z hz => h.m z ((List.eraseIdx_sublist _ _).mem hz), fun z hz => h.b z ((List.eraseIdx_sublist _ _).mem hz)⟩
  · show max s.present _ = max D.present _
    rw [e, h.get hb, h.p]
    rfl
  · show (s.arr.eraseIdx _).map toDL = D.ls.eraseIdx _
    rw [e, ← h.a]
    rw [List.eraseIdx_eq_take_drop_succ, List.eraseIdx_eq_take_drop_succ, List.map_append, List.map_take, List.map_drop]
theorem SimN.bestB (h : SimN s D) (h0 : 0 < s.arr.length) : 0 ≤ (s.at_ (bestN s s.arr.length)).t ∧ (s.at_ (bestN s s.arr.length)).t ≤ 1152921504606846976 := h.b _ (at_mem (bestN_lt s _ h0))
theorem SimN.bestE (h : SimN s D) (h0 : 0 < s.arr.length) : D.ls.getD (bestD D.ls D.ls.length) dDL = toDL (s.at_ (bestN s s.arr.length)) := by
  rw [h.len, ← h.best _ (Nat.le_refl _), h.get (bestN_lt s _ h0)]
end
end Go.Proofs.Ytkhiepjlfbjgdaa

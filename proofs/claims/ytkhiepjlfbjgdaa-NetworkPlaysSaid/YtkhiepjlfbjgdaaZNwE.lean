/- network: a nil network; Delay. Conditions: each contract names its own. network: a line is changed; Delay. Conditions: each contract names its own. -/
import Derived.Test.YtkhiepjlfbjgdaaZNwC
import Derived.Laws.ResultCell
namespace Go.Proofs.Ytkhiepjlfbjgdaa
open Go.RowKit

theorem results_row_tmp {P : Program} {fn : Func} {p u : Tmp} {ty : TypeId} (h : fn.results = #[.cell p ty, .tmp u]) {tmps : Array Value} {w : World} {g : Nat} {t : TypeId} {cs : Array Value} {fr : Nat × Nat} {d : TypeDesc}
    (hp : tmps.getD p undef = .pointer (some ⟨g, 0, none⟩)) (hg : w.heap[g]? = some (.cells cs t fr))
    (hu : P.underlying ty = some d) (hd : (match d with | .struct _ | .array _ _ => true | _ => false) = true) (hi : (P.info? ty).map (·.size) = some cs.size) :
    (results fn tmps).run P w = .ok (.tuple #[.agg cs, tmps.getD u undef]) w := by
  rw [results_cell_tmp h, hp]
  simp [asAddr, run_loadVar_row w g t ty cs fr d hg hu hd hi, Result.andThen]
theorem delay_nil (x y : ByteArray) (d : Int) (w : World) : Calls Try.prog 19 #[.pointer none, .string x, .string y, .int .i64 d] w fun e w' => e = .returned (.iface 48 (.int .i64 3)) ∧ w' = w := by
  go_enter Try.func19, Try.ntmps19
  go_wp2
  go_ret
  exact ⟨rfl, rfl⟩
theorem fate_nil (x y : ByteArray) (i : Int) (v : Value) (w : World) : Calls Try.prog 12 #[.pointer none, .string x, .string y, .int .i64 i, v] w fun e w' => e = .returned (.iface 48 (.int .i64 3)) ∧ w' = w := by
  go_enter Try.func12, Try.ntmps12
  go_wp2
  go_ret
  exact ⟨rfl, rfl⟩
theorem cut_nil (x y : ByteArray) (i j : Int) (w : World) : Calls Try.prog 21 #[.pointer none, .string x, .string y, .int .i64 i, .int .i64 j] w fun e w' => e = .returned (.iface 48 (.int .i64 3)) ∧ w' = w := by
  go_enter Try.func21, Try.ntmps21
  go_wp2
  go_ret
  exact ⟨rfl, rfl⟩
theorem send_nil (t : Int) (x y : ByteArray) (v : Value) (w : World) : Calls Try.prog 17 #[.pointer none, .int .i64 t, .string x, .string y, v] w fun e w' => e = .returned (.iface 48 (.int .i64 3)) ∧ Below w.heap.size w w' := by
  have hB : Below w.heap.size w (((w.alloc (.cells #[.int .i64 t] 3)).alloc (.cells #[.string x] 9)).alloc (.cells #[.string y] 9)) := by go_grown
  go_enter Try.func17, Try.ntmps17
  go_wp2
  go_ret
  exact ⟨rfl, hB⟩
theorem first_nil (w : World) : Calls Try.prog 31 #[.pointer none] w fun e w' => e = .returned (.tuple #[.int .i64 0, .bool false]) ∧ w' = w := by
  go_enter Try.func31, Try.ntmps31
  go_wp2
  go_ret2
  exact ⟨rfl, rfl⟩
theorem next_nil (w : World) : Calls Try.prog 15 #[.pointer none] w fun e w' => e = .returned (.tuple #[.int .i64 0, .iface 48 (.int .i64 3)]) ∧ w' = w := by
  go_enter Try.func15, Try.ntmps15
  go_wp2_with fail
  refine (first_nil w).mono ?_
  rintro e w1 ⟨rfl, rfl⟩
  go_wp2
  go_ret2
  exact ⟨rfl, rfl⟩
theorem recv_nil (w : World) : Calls Try.prog 16 #[.pointer none] w fun e w' => e = .returned (.tuple #[.agg #[.int .i64 0, .string ByteArray.empty, .string ByteArray.empty, .slice none 0 0], .iface 48 (.int .i64 3)]) ∧ Below w.heap.size w w' := by
  have hB : Below w.heap.size w (w.alloc (.cells #[.int .i64 0, .string ByteArray.empty, .string ByteArray.empty, .slice none 0 0] 43)) := by go_grown
  go_enter Try.func16, Try.ntmps16
  go_wp2_with fail
  refine (first_nil _).mono ?_
  rintro e w1 ⟨rfl, rfl⟩
  go_wp2
  (try simp only [Exit.inBlock, Exit.then])
  refine bodyPost_ret (results_row_tmp rfl rfl (heap_alloc_new w _) Try.underlying43 rfl (by kernel_rfl)) rfl ?_
  exact ⟨rfl, hB⟩
end Go.Proofs.Ytkhiepjlfbjgdaa

namespace Go.Proofs.Ytkhiepjlfbjgdaa
open Go.RowKit

section
variable {w w' : World} {b : Nat} {q : NG} {s : Net} {x y : ByteArray} {L L' : Line}
theorem OL.ne_of {e t : TypeId} {size n k g : Nat} {v : Value} {xs : List Value} {cs : Array Value} {fr : Nat × Nat} (ho : OL w e size v n xs) (hk : v.ownBlock = some k) (hg : w.heap[g]? = some (.cells cs t fr)) (ht : e ≠ t) : k ≠ g := by
  obtain ⟨cur, hc⟩ := ho.elem k hk
  exact type_ne hc hg ht
theorem NetAt.setLine (h : NetAt w b q s) (hl : s.lines x y = some L) (hf : L'.fates = L.fates) (hg : w'.heap[q.G x y]? = some (.cells #[.int .i64 L'.delay, .int .i64 L'.sent, .map (some (q.F x y))] 92 (0, 0)))
    (hO : ∀ k, k < w.heap.size → k ≠ q.G x y → w'.heap[k]? = w.heap[k]?) : NetAt w' b q (s.setL x y L') ∧ ∀ k, NAl b q (s.setL x y L') k → NAl b q s k := by
  have hL := h.l x y L hl
  have hne : ∀ {x' y'}, (s.setL x y L').lines x' y' ≠ none → s.lines x' y' ≠ none := fun {x' y'} hn => by
    by_cases e : x' = x ∧ y' = y
    · rw [e.1, e.2, hl]; simp
    · rwa [Net.setL_ne e] at hn
  constructor
  · refine { c := (hO b (lt_of_block h.c) (type_ne h.c hL.c (by decide))).trans h.c, m := ?_, l := fun x' y' L1 hL1 => ?_, iG := fun x1 y1 x2 y2 h1 h2 => h.iG x1 y1 x2 y2 (hne h1) (hne h2), iF := fun x1 y1 x2 y2 h1 h2 => h.iF x1 y1 x2 y2 (hne h1) (hne h2), mF := fun x' y' hn => h.mF x' y' (hne hn), k := h.k.heap fun k hk => hO k (h.k.lt k hk) (OL.ne_of h.k hk hL.c (by decide)), r := h.r.heap fun k hk => hO k (h.r.lt k hk) (OL.ne_of h.r hk hL.c (by decide)), a := h.a, d := fun z hz => (h.d z hz).heap fun k hk => hO k ((h.d z hz).lt k hk) (OL.ne_of (h.d z hz) hk hL.c (by decide)), i := h.i }
    · obtain ⟨f, hm, hf'⟩ := h.m
      refine ⟨f, hm.at (hO _ hm.lt (hm.ne hL.c)), fun x' y' => ?_⟩
      rw [hf']
      by_cases e : x' = x ∧ y' = y
      · rw [e.1, e.2, Net.setL_at, hl]; rfl
      · rw [Net.setL_ne e]
    · have hm0 : ∀ {x' y' L1}, s.lines x' y' = some L1 → w'.heap[q.F x' y']? = w.heap[q.F x' y']? := fun {x' y' L1} hh => by
        obtain ⟨ff, hm, _⟩ := (h.l x' y' L1 hh).m
        exact hO _ hm.lt (hm.ne hL.c)
      by_cases e : x' = x ∧ y' = y
      · rw [e.1, e.2, Net.setL_at] at hL1
        obtain rfl := Option.some.inj hL1
        rw [e.1, e.2]
        obtain ⟨ff, hm, hff⟩ := hL.m
        refine ⟨hg, ⟨ff, hm.at (hm0 hl), by rw [hf]; exact hff⟩, fun i l hi => ?_⟩
        rw [hf] at hi
        have ho := hL.o i l hi
        exact ho.heap fun k hk => hO k (ho.lt k hk) (OL.ne_of ho hk hL.c (by decide))
      · rw [Net.setL_ne e] at hL1
        have h1 := h.l x' y' L1 hL1
        refine h1.same (hO _ (lt_of_block h1.c) (fun hh => e (h.iG x' y' x y (by rw [hL1]; simp) (by rw [hl]; simp) hh))) (hm0 hL1) fun i k hi hk => ?_
        cases hfi : L1.fates i with
        | none => exact absurd hfi hi
        | some l => exact hO k ((h1.o i l hfi).lt k hk) (OL.ne_of (h1.o i l hfi) hk hL.c (by decide))
  · intro k hk
    cases hk with
    | b e => exact .b e
    | m e => exact .m e
    | c e => exact .c e
    | r e => exact .r e
    | G x' y' hn e => exact .G x' y' (hne hn) e
    | F x' y' hn e => exact .F x' y' (hne hn) e
    | V x' y' L1 i hL1 hi e =>
      by_cases ee : x' = x ∧ y' = y
      · rw [ee.1, ee.2, Net.setL_at] at hL1
        obtain rfl := Option.some.inj hL1
        rw [hf] at hi
        rw [ee.1, ee.2] at e
        exact .V x y L i hl hi e
      · rw [Net.setL_ne ee] at hL1; exact .V x' y' L1 i hL1 hi e
    | d z hz e => exact .d z hz e
theorem Net.setL_setL (s : Net) (x y : ByteArray) (L1 L2 : Line) : (s.setL x y L1).setL x y L2 = s.setL x y L2 := by
  unfold Net.setL
  congr 1
  funext x' y'
  by_cases e : x' = x ∧ y' = y
  · rw [if_pos e, if_pos e]
  · rw [if_neg e, if_neg e]; exact if_neg e
end
section
variable {w : World} {P : Nat → Prop} {b : Nat} {s : Net}
theorem delay_bad (w : World) (b : Nat) (x y : ByteArray) (d : Int) (hd : -9223372036854775808 ≤ d ∧ d ≤ 9223372036854775807) (hb : badD d = true) :
    Calls Try.prog 19 #[.pointer (some ⟨b, 0, none⟩), .string x, .string y, .int .i64 d] w fun e w' => e = .returned (.iface 48 (.int .i64 1)) ∧ Below w.heap.size w w' := by
  have CD := Lib.hid (delay_one (c := 1) hd (heap_alloc_new w (.cells #[.int .i64 d] 3)))
  rw [hb] at CD
  have hB : Below w.heap.size w (w.alloc (.cells #[.int .i64 d] 3)) := by go_grown
  clear hb
  go_enter Try.func19, Try.ntmps19
  go_wp2_with fail
  refine CD.out.mono ?_
  rintro e w1 ⟨rfl, rfl⟩
  go_wp2
  go_ret
  exact ⟨rfl, hB⟩
noncomputable def Net.delay (s : Net) (x y : ByteArray) (d : Int) : Net := s.setL x y { s.get x y with delay := d }
theorem delay_ok (h : NS w P b s) {x y : ByteArray} (hx : x.size ≤ maxLen) (hy : y.size ≤ maxLen) (d : Int) (hd : -9223372036854775808 ≤ d ∧ d ≤ 9223372036854775807) (hb : badD d = false) :
    Calls Try.prog 19 #[.pointer (some ⟨b, 0, none⟩), .string x, .string y, .int .i64 d] w (NPost P b .nilIface (s.delay x y d) w) := by
  have CD := Lib.hid (delay_one (c := 1) hd (heap_alloc_new w (.cells #[.int .i64 d] 3)))
  rw [hb] at CD
  obtain ⟨q, hN, hA⟩ := h
  have hB : Below w.heap.size w (w.alloc (.cells #[.int .i64 d] 3)) := by go_grown
  have CL := Lib.hid (line_any (hN.belowS hB) hx hy)
  have HA := Lib.hid hA
  clear hb hA hN
  go_enter Try.func19, Try.ntmps19
  go_wp2_with fail
  refine CD.out.mono ?_
  rintro e w1 ⟨rfl, rfl⟩
  go_wp2_with fail
  refine CL.out.mono ?_
  rintro e w2 ⟨q', rfl, hN2, hA2, hO2⟩
  have hl := Net.setL_at s x y (s.get x y)
  have hL := hN2.l x y _ hl
  have c0 := has_cell hL.c 0
  have f0 := has_free hL.c 0
  have hset := hN2.setLine (L' := { s.get x y with delay := d }) (w' := w2.setCell ⟨q'.G x y, 0, none⟩ (.int .i64 d)) hl rfl (by rw [setCell_heap_self hL.c]; rfl) (fun k hk hne => setCell_other hne)
  rw [Net.setL_setL] at hset
  have HS := Lib.hid hset
  have HG := Lib.hid (hA2 _ (NAl.G x y (by rw [hl]; simp) rfl))
  have HA2 := Lib.hid hA2
  have HO2 := Lib.hid hO2
  generalize q'.G x y = g at c0 f0 HS HG ⊢
  clear CD CL hl hL hset hN2 hA2 hO2
  go_wp2
  go_ret
  have hB1 := hB.size
  refine ⟨rfl, ⟨q', HS.out.1, fun k hk => ?_⟩, ?_⟩
  · exact (HA2.out k (HS.out.2 k hk)).imp (HA.out k) (fun h => Nat.le_trans hB1 h)
  · have h1 : Only P w (w.alloc (.cells #[.int .i64 d] 3)) := (Only.refl P w).alloc _
    refine (h1.trans (HO2.out.mono HA.out) (fun _ _ h => h)).setCell ?_ _
    exact HG.out.imp (HA.out _) (fun h => Nat.le_trans hB1 h)
end
end Go.Proofs.Ytkhiepjlfbjgdaa

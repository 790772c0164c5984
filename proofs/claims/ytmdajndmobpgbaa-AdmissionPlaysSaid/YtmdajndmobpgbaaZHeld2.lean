/- admission: what New has made so far. Conditions: each lemma names its own. As XHeld, for a region that ends in several operations behind which S need not hold (a store into a cell that the region loads, and what follows it). Over any program. -/
import Derived.Test.YtmdajndmobpgbaaZAdG
import Derived.Test.YtmdajndmobpgbaaZHeld
namespace Go.Proofs.Ytmdajndmobpgbaa
open Go.RowKit
open Go.Proofs.Ytmdajndmobpgbaa.Fq
open Go.Proofs.Ytmdajndmobpgbaa.Bk

/-- A share that New accepts. -/
def bkGood (s : Shr) : Prop := (1 ≤ s.b ∧ s.b ≤ 1048576) ∧ (0 ≤ s.t ∧ s.t ≤ 1048576) ∧ (1 ≤ s.k ∧ s.k ≤ 1048576)
def adOk (sh : List Shr) (slots : Int) : Prop := (1 ≤ slots ∧ slots ≤ 256) ∧ (∀ s ∈ sh, bkGood s) ∧ (1 ≤ sh.length ∧ sh.length ≤ 16) ∧ ∀ s ∈ sh, 1 ≤ s.q ∧ s.q ≤ 65536
def shD (sh : List Shr) (t : Nat) : Shr := sh.getD t ⟨0, 0, 0, 0⟩
def AS.init (sh : List Shr) (slots : Int) : AS := { sh := sh, bk := sh.map fun s => (s.b * s.k, 0), slots := slots, f := FQ.init (fun i => (shD sh i).q) sh.length, ql := List.replicate sh.length [], run := [] }
/-- append(v, x) where x lies in a block of its own. -/
theorem app_at {w : World} {e : TypeId} {size : Nat} {v : Value} {n : Nat} {xs : List Value} (h : OL w e size v n xs) (t : TypeId) (z : Value) (bytes : Nat) (ht : Try.prog.underlying t = some (.slice e)) (hinfo : (Try.prog.info? e).map (fun i => (i.zero, i.size, i.bytes)) = some (some z, size, bytes))
    (hzs : z.cells.size = size) (hsz : 0 < size) (cs : List Value) (hcs : cs.length = size) (h1 : ∀ u ∈ cs, u.oneCell' = true) (hn : n ≤ 1000000) (hby : bytes ≤ 64) {xb : Nat} (hx : w.heap[xb]? = some (.cells cs.toArray e (0, 0))) :
    ∃ ao cap w', (Builtin.append_ #[t, t] t #[v, .slice (some ⟨xb, 0, none⟩) 1 1]).run Try.prog w = .ok (.slice ao (n + 1) cap) w' ∧ OL w' e size (.slice ao (n + 1) cap) (n + 1) (xs ++ cs) ∧ w.grownBy w' v.ownBlock ∧
      (∀ g, (Value.slice ao (n + 1) cap).ownBlock = some g → v.ownBlock = some g ∨ w.heap.size ≤ g) := by
  obtain ⟨ti, hi, iz, is, ib⟩ := info_parts hinfo
  have hsrc : Src Try.prog size t (.slice (some ⟨xb, 0, none⟩) 1 1) 1 cs w :=
    Src.ofSlice (size := size) _ ht ⟨xb, 0, none⟩ 1 1 _ (by omega) (fun j u hu => by
      rw [Addr.add_lit]
      show w.cell? ⟨xb, 0 + j, none⟩ = _
      rw [has_cell hx, Nat.zero_add, List.getElem?_toArray]
      exact hu) h1
  have hB : (n + 1) * bytes ≤ 140737488355328 := by
    have := Nat.mul_le_mul (show n + 1 ≤ 1000001 by omega) hby
    omega
  obtain ⟨v', w2, hap, ho2, hg2, hown⟩ := h.append (P := Try.prog) t t t ti _ bytes ht hi iz is ib hzs hsz hsrc (by unfold maxLen; omega) hB
  obtain ⟨g', off', cap', rfl, _, _, _⟩ := ho2.form (by omega)
  refine ⟨_, cap', w2, hap, ho2, hg2, fun g hg => ?_⟩
  rcases hown with e | e
  · exact .inl (e ▸ hg)
  · rw [e] at hg
    exact .inr (by have := Option.some.inj hg; omega)
theorem infoP : (Try.prog.info? 90).map (fun i => (i.zero, i.size, i.bytes)) = some (some (.pointer none), 1, 8) := by kernel_rfl
structure NewM (w0 : World) (sh : List Shr) (slots : Int) (b bl : Nat) (vs cv vb : Value) (bkb : List Nat) (vq : Value) (i : Nat) (w : World) : Prop where
  hb : Row w 89 b [vs, cv, .int .i64 slots, .pointer none, .slice (some ⟨bl, 0, none⟩) sh.length sh.length, .slice none 0 0]
  hs : IsS w vs sh
  hl : Row w 98 bl (List.replicate sh.length nilS)
  hp : OL w 90 1 vb bkb.length (bkb.map ptrV)
  hk : ∀ t, t < bkb.length → IsBk w (bkb.getD t 0) (shD sh t).b (shD sh t).t (shD sh t).k ((shD sh t).b * (shD sh t).k) 0
  kd : bkb.Nodup
  hq : IsI w vq ((sh.take i).map Shr.q)
  nw : ∀ k, (k = b ∨ vs.ownBlock = some k ∨ vb.ownBlock = some k ∨ k ∈ bkb ∨ k = bl ∨ vq.ownBlock = some k) → w0.heap.size ≤ k
  be : Below w0.heap.size w0 w
section
variable {w0 w w1 : World} {sh : List Shr} {slots : Int} {b bl i : Nat} {vs cv vb vq : Value} {bkb : List Nat}
theorem bk_at (h : NewM w0 sh slots b bl vs cv vb bkb vq i w) {k : Nat} (hk : k ∈ bkb) : ∃ cs, w.heap[k]? = some (.cells cs 137 (0, 0)) := by
  obtain ⟨t, ht, rfl⟩ := List.getElem_of_mem hk
  have := h.hk t ht
  rw [List.getD_eq_getElem?_getD, List.getElem?_eq_getElem ht] at this
  exact ⟨_, this⟩
theorem NewM.belowS (h : NewM w0 sh slots b bl vs cv vb bkb vq i w) (hb : Below w.heap.size w w1) : NewM w0 sh slots b bl vs cv vb bkb vq i w1 :=
  { h with
    hb := h.hb.belowS hb, hs := h.hs.belowS hb, hl := h.hl.belowS hb, hp := OL.below h.hp hb fun g hg => OL.lt h.hp g hg
    hk := fun t ht => below_ats hb (h.hk t ht)
    hq := h.hq.belowS hb
    be := h.be.trans (hb.mono h.be.size) }
/-- A write to one block of a type that only the buckets' row has, or the quanta's. -/
theorem NewM.other {r : Option Nat} (h : NewM w0 sh slots b bl vs cv vb bkb vq i w) (hg : w.grownBy w1 r) {ty : TypeId} (hr : ∀ k, r = some k → ∃ cs, w.heap[k]? = some (.cells cs ty (0, 0)))
    (n1 : 89 ≠ ty) (n2 : 29 ≠ ty) (n3 : 98 ≠ ty) (n4 : 137 ≠ ty) :
    Row w1 89 b [vs, cv, .int .i64 slots, .pointer none, .slice (some ⟨bl, 0, none⟩) sh.length sh.length, .slice none 0 0] ∧ IsS w1 vs sh ∧ Row w1 98 bl (List.replicate sh.length nilS) ∧
    (∀ t, t < bkb.length → IsBk w1 (bkb.getD t 0) (shD sh t).b (shD sh t).t (shD sh t).k ((shD sh t).b * (shD sh t).k) 0) := by
  have hh : ∀ {k : Nat} {cs : Array Value} {t : TypeId}, w.heap[k]? = some (.cells cs t (0, 0)) → t ≠ ty → w1.heap[k]? = w.heap[k]? := fun {k cs t} hk hn => hg.block k (lt_of_block hk) fun e => by
    obtain ⟨cs', hc⟩ := hr k e.symm
    exact type_ne hk hc hn rfl
  exact ⟨(hh h.hb n1).trans h.hb, OL.heap h.hs fun g hg => by obtain ⟨cs, hc⟩ := OL.elem h.hs g hg; exact hh hc n2, (hh h.hl n3).trans h.hl, fun t ht => (hh (h.hk t ht) n4).trans (h.hk t ht)⟩
theorem NewM.appP (h : NewM w0 sh slots b bl vs cv vb bkb vq i w) {x : Nat} {v' : Value} (hx : IsBk w x (shD sh bkb.length).b (shD sh bkb.length).t (shD sh bkb.length).k ((shD sh bkb.length).b * (shD sh bkb.length).k) 0) (hn : x ∉ bkb) (hx0 : w0.heap.size ≤ x)
    (hg : w.grownBy w1 vb.ownBlock) (ho : OL w1 90 1 v' (bkb.length + 1) (bkb.map ptrV ++ [ptrV x])) (hown : ∀ g, v'.ownBlock = some g → vb.ownBlock = some g ∨ w.heap.size ≤ g) :
    NewM w0 sh slots b bl vs cv v' (bkb ++ [x]) vq i w1 := by
  obtain ⟨p1, p2, p3, p4⟩ := h.other hg (OL.elem h.hp) (by decide) (by decide) (by decide) (by decide)
  have hxb := (hg.block x hx.lt fun e => by
    obtain ⟨cs', hc⟩ := OL.elem h.hp x e.symm
    exact type_ne hx hc (by decide) rfl).trans hx
  exact {
    hb := p1, hs := p2, hl := p3
    hp := by rw [List.length_append, List.map_append]; exact ho
    hk := fun t ht => by
      rw [List.length_append] at ht
      rcases Nat.lt_or_ge t bkb.length with h1 | h1
      · rw [show (bkb ++ [x]).getD t 0 = bkb.getD t 0 by simp [List.getD, List.getElem?_append_left h1]]; exact p4 t h1
      · obtain rfl : t = bkb.length := by simp at ht; omega
        rw [show (bkb ++ [x]).getD bkb.length 0 = x by simp [List.getD]]
        exact hxb
    kd := List.nodup_append.2 ⟨h.kd, by simp, fun a ha c hc => by rw [List.mem_singleton] at hc; subst hc; exact fun e => hn (e ▸ ha)⟩
    hq := OL.kept h.hq hg fun g hg e => by
      obtain ⟨c1, h1⟩ := OL.elem h.hq g hg
      obtain ⟨c2, h2⟩ := OL.elem h.hp g e.symm
      exact type_ne h1 h2 (by decide) rfl
    nw := fun k hk => by
      have hs := h.be.size
      rcases hk with hk | hk | hk | hk | hk | hk
      · exact h.nw k (.inl hk)
      · exact h.nw k (.inr (.inl hk))
      · rcases hown k hk with h1 | h1
        · exact h.nw k (.inr (.inr (.inl h1)))
        · omega
      · rcases List.mem_append.1 hk with hk | hk
        · exact h.nw k (.inr (.inr (.inr (.inl hk))))
        · rw [List.mem_singleton] at hk; omega
      · exact h.nw k (.inr (.inr (.inr (.inr (.inl hk)))))
      · exact h.nw k (.inr (.inr (.inr (.inr (.inr hk)))))
    be := h.be.grown hg h.be.size fun k hk => h.nw k (.inr (.inr (.inl hk))) }
theorem NewM.appQ (h : NewM w0 sh slots b bl vs cv vb bkb vq i w) {v' : Value} (hi : i < sh.length) (hg : w.grownBy w1 vq.ownBlock) (ho : IsI w1 v' ((sh.take i).map Shr.q ++ [(shD sh i).q])) (hown : ∀ g, v'.ownBlock = some g → vq.ownBlock = some g ∨ w.heap.size ≤ g) :
    NewM w0 sh slots b bl vs cv vb bkb v' (i + 1) w1 := by
  obtain ⟨p1, p2, p3, p4⟩ := h.other hg (OL.elem h.hq) (by decide) (by decide) (by decide) (by decide)
  exact {
    hb := p1, hs := p2, hl := p3, hk := p4, kd := h.kd
    hp := OL.kept h.hp hg fun g hg e => by
      obtain ⟨c1, h1⟩ := OL.elem h.hp g hg
      obtain ⟨c2, h2⟩ := OL.elem h.hq g e.symm
      exact type_ne h1 h2 (by decide) rfl
    hq := by
      have e : (sh.take (i + 1)).map Shr.q = (sh.take i).map Shr.q ++ [(shD sh i).q] := by
        rw [List.take_add_one, List.map_append, List.getElem?_eq_getElem hi]
        unfold shD
        rw [List.getD_eq_getElem?_getD, List.getElem?_eq_getElem hi]
        rfl
      rw [e]; exact ho
    nw := fun k hk => by
      have hs := h.be.size
      rcases hk with hk | hk | hk | hk | hk | hk
      · exact h.nw k (.inl hk)
      · exact h.nw k (.inr (.inl hk))
      · exact h.nw k (.inr (.inr (.inl hk)))
      · exact h.nw k (.inr (.inr (.inr (.inl hk))))
      · exact h.nw k (.inr (.inr (.inr (.inr (.inl hk)))))
      · rcases hown k hk with h1 | h1
        · exact h.nw k (.inr (.inr (.inr (.inr (.inr h1)))))
        · omega
    be := h.be.grown hg h.be.size fun k hk => h.nw k (.inr (.inr (.inr (.inr (.inr hk))))) }
theorem NewM.set (h : NewM w0 sh slots b bl vs cv vb bkb vq i w) : NewM w0 sh slots b bl vs vb vb bkb vq i (w.setCell ⟨b, 1, none⟩ vb) := by
  have hb1 : w.heap[b]? = some (.cells [vs, cv, .int .i64 slots, .pointer none, .slice (some ⟨bl, 0, none⟩) sh.length sh.length, .slice none 0 0].toArray 89 (0, 0)) := h.hb
  have hh : ∀ {k : Nat} {cs : Array Value} {t : TypeId}, w.heap[k]? = some (.cells cs t (0, 0)) → t ≠ 89 → (w.setCell ⟨b, 1, none⟩ vb).heap[k]? = w.heap[k]? := fun hk hn => setCell_other fun e => type_ne hk hb1 hn e
  have hs := h.be.size
  exact { h with
    hb := h.hb.set 1 vb
    hs := OL.heap h.hs fun g hg => by obtain ⟨cs, hc⟩ := OL.elem h.hs g hg; exact hh hc (by decide)
    hl := (hh h.hl (by decide)).trans h.hl
    hp := OL.heap h.hp fun g hg => by obtain ⟨cs, hc⟩ := OL.elem h.hp g hg; exact hh hc (by decide)
    hk := fun t ht => (hh (h.hk t ht) (by decide)).trans (h.hk t ht)
    hq := OL.heap h.hq fun g hg => by obtain ⟨cs, hc⟩ := OL.elem h.hq g hg; exact hh hc (by decide)
    be := h.be.setCell (h.nw b (.inl rfl)) _ }
end
/-- bucket.New refuses. -/
def bkBad (s : Shr) : Prop := s.b < 1 ∨ 1048576 < s.b ∨ s.t < 0 ∨ 1048576 < s.t ∨ s.k < 1 ∨ 1048576 < s.k
theorem not_good {s : Shr} (h : ¬ bkGood s) : bkBad s := by
  unfold bkGood at h
  unfold bkBad
  omega
set_option maxRecDepth 100000 in
set_option maxHeartbeats 800000 in
theorem bnew_bad (s : Shr) (w : World) (h : bkBad s) : Calls Try.prog 32 #[.int .i64 s.b, .int .i64 s.t, .int .i64 s.k] w fun e w' => e = .returned (.tuple #[.pointer none, .iface 33 (.int .i64 1)]) ∧ w' = w := by
  obtain ⟨B, T, K, q⟩ := s
  unfold bkBad at h
  simp only at h ⊢
  by_cases h1 : B < 1
  · go_enter Try.func32, Try.ntmps32
    go_wp2
    all_goals (go_ret2; exact ⟨rfl, rfl⟩)
  · by_cases h2 : 1048576 < B
    · clear h
      go_enter Try.func32, Try.ntmps32
      go_wp2
      all_goals (go_ret2; exact ⟨rfl, rfl⟩)
    · by_cases h3 : T < 0
      · clear h
        go_enter Try.func32, Try.ntmps32
        go_wp2
        all_goals (go_ret2; exact ⟨rfl, rfl⟩)
      · by_cases h4 : 1048576 < T
        · clear h
          go_enter Try.func32, Try.ntmps32
          go_wp2
          all_goals (go_ret2; exact ⟨rfl, rfl⟩)
        · by_cases h5 : K < 1
          · clear h
            go_enter Try.func32, Try.ntmps32
            go_wp2
            all_goals (go_ret2; exact ⟨rfl, rfl⟩)
          · have h6 : 1048576 < K := by omega
            clear h
            go_enter Try.func32, Try.ntmps32
            go_wp2
            all_goals (go_ret2; exact ⟨rfl, rfl⟩)
end Go.Proofs.Ytmdajndmobpgbaa

namespace Go.Proofs.Ytmdajndmobpgbaa
open Go.RowKit

section
variable {P : Program} {ops : Array Oper} {Q : Exit → Act → World → Prop} {md : Region.Mode} {S : World → Prop} {zs : List Nat}
/-- Whatever order is picked, and S holds behind each operation but number z. -/
def AnyL (P : Program) (md : Region.Mode) (ops : Array Oper) (Q : Exit → Act → World → Prop) (S : World → Prop) (zs : List Nat) : Nat → Array Bool → Act → World → Prop
  | 0, listed, a, w => Region.ready md ops listed = [] ∧ Q .normal a w
  | f + 1, listed, a, w => (Region.ready md ops listed = [] → Q .normal a w) ∧ ∀ i ∈ Region.ready md ops listed, wpOp P ops Q i (fun a' w' => (i ∈ zs ∨ S w') ∧ AnyL P md ops Q S zs f (listed.setIfInBounds i true) a' w') a w
theorem AnyL.any : ∀ (f : Nat) (listed : Array Bool) (a : Act) (w : World), AnyL P md ops Q S zs f listed a w → wpAny P md ops Q f listed a w
  | 0, _, _, _, h => h
  | f + 1, _, _, _, h => ⟨h.1, fun i hi => wpOp_mono (fun a' w' h' => AnyL.any f _ a' w' h'.2) (h.2 i hi)⟩
theorem AnyL.first {i : Nat} {oi : Oper} {v : Value} (hi : ops[i]? = some oi) (hsel : ∀ (j : Nat) (o : Oper) cs b, ops[j]? = some o → o.op ≠ .select cs b) (hz : ∀ z, z ∈ zs → waitsB md ops z i = true)
    (hQ : ∀ c a w, Q (.panic c) (a.put oi.dst v) w → Q (.panic c) a w) :
    ∀ (f : Nat) (listed : Array Bool) (a : Act) (w : World),
      (∀ j oj, ops[j]? = some oj → j ≠ i → listed.getD j true = false → (∀ e ∈ oj.after, Region.binds md e = true → e.on ≠ i) → oi.apart ops oj = true) →
      i ∈ Region.ready md ops listed → YieldsIf P ops S oi v a → S w →
      AnyL P md ops Q S zs f (listed.setIfInBounds i true) (a.put oi.dst v) w → AnyL P md ops Q S zs (f + 1) listed a w := by
  intro f
  induction f with
  | zero =>
    intro listed a w _ hr hy hS H
    refine ⟨fun h => (by rw [h] at hr; cases hr), fun j hj => ?_⟩
    by_cases hji : j = i
    · subst hji; exact hy.wpOp hi hS ⟨.inr hS, H⟩
    · have := ready_mono hj hji
      rw [H.1] at this
      cases this
  | succ f ih =>
    intro listed a w hfree hr hy hS H
    refine ⟨fun h => (by rw [h] at hr; cases hr), fun j hj => ?_⟩
    by_cases hji : j = i
    · subst hji; exact hy.wpOp hi hS ⟨.inr hS, H⟩
    · have hjz : j ∉ zs := fun e => not_ready (hz j e) hr hj
      have h1 := H.2 j (ready_mono hj hji)
      obtain ⟨hjun, oj, hoj, hall⟩ := mem_ready.1 hj
      have hnot : ∀ e ∈ oj.after, Region.binds md e = true → e.on ≠ i := fun e he hb heq => by
        have h1 := hall e he hb
        have h0 := (mem_ready.1 hr).1
        rw [heq] at h1
        rcases Nat.lt_or_ge i listed.size with h' | h'
        · simp [h'] at h0 h1; rw [h0] at h1; cases h1
        · simp [Array.getElem?_eq_none h'] at h1
      have h2 := wpOp_putIf hoj (hfree j oj hoj hji hjun hnot) (fun cs b => hsel i oi cs b hi) (fun cs b => hsel j oj cs b hoj) hQ hy h1
      refine wpOp_mono (fun a' w' h3 => ?_) h2
      have hS' : S w' := h3.2.1.resolve_left hjz
      refine ⟨.inr hS', ih (listed.setIfInBounds j true) a' w' (fun k ok hk hki hun hno => ?_) (ready_mono hr (Ne.symm hji)) h3.1 hS' ?_⟩
      · refine hfree k ok hk hki ?_ hno
        by_cases hjk : j = k
        · subst hjk; exact hjun
        · rw [_root_.Go.getD_set_ne true hjk] at hun; exact hun
      · rw [Array.setIfInBounds_comm _ _ hji]
        exact h3.2.2
theorem AnyL.take {i : Nat} {oi : Oper} {v : Value} {f : Nat} {listed : Array Bool} {a : Act} {w : World} (hi : ops[i]? = some oi)
    (hs : (Region.noSelect ops && Region.free md ops listed i && (Region.ready md ops listed).contains i && zs.all fun z => waitsB md ops z i) = true)
    (hQ : ∀ c a w, Q (.panic c) (a.put oi.dst v) w → Q (.panic c) a w) (hw : Region.wanted oi (yielded ops a.tmps) = true) (hS : S w) (hv : ∀ w, S w → (execOp a.eval oi).run P w = .ok (.value v) w)
    (h : AnyL P md ops Q S zs f (listed.setIfInBounds i true) (a.put oi.dst v) w) : AnyL P md ops Q S zs (f + 1) listed a w := by
  simp only [Bool.and_eq_true, List.all_eq_true] at hs
  obtain ⟨⟨⟨h1, h2⟩, h3⟩, h4⟩ := hs
  exact AnyL.first hi (Region.noSelect_spec h1) h4 hQ f listed a w (Region.free_spec hi h2) (by simpa using h3) (.inl ⟨hw, hv⟩) hS h
theorem AnyL.firstP {i : Nat} {oi : Oper} {v : Value} {ps : List Nat} (hi : ops[i]? = some oi) (hsel : ∀ (j : Nat) (o : Oper) cs b, ops[j]? = some o → o.op ≠ .select cs b)
    (hQ : ∀ c a w, Q (.panic c) (a.put oi.dst v) w → Q (.panic c) a w) :
    ∀ (f : Nat) (listed : Array Bool) (a : Act) (w : World), (∀ z, z ∈ zs → pathB md ops listed i z ps = true) →
      (∀ j oj, ops[j]? = some oj → j ≠ i → listed.getD j true = false → (∀ e ∈ oj.after, Region.binds md e = true → e.on ≠ i) → oi.apart ops oj = true) →
      i ∈ Region.ready md ops listed → YieldsIf P ops S oi v a → S w →
      AnyL P md ops Q S zs f (listed.setIfInBounds i true) (a.put oi.dst v) w → AnyL P md ops Q S zs (f + 1) listed a w := by
  intro f
  induction f with
  | zero =>
    intro listed a w _ _ hr hy hS H
    refine ⟨fun h => (by rw [h] at hr; cases hr), fun j hj => ?_⟩
    by_cases hji : j = i
    · subst hji; exact hy.wpOp hi hS ⟨.inr hS, H⟩
    · have := ready_mono hj hji
      rw [H.1] at this
      cases this
  | succ f ih =>
    intro listed a w hz hfree hr hy hS H
    refine ⟨fun h => (by rw [h] at hr; cases hr), fun j hj => ?_⟩
    by_cases hji : j = i
    · subst hji; exact hy.wpOp hi hS ⟨.inr hS, H⟩
    · have hjz : j ∉ zs := fun e => path_not hr ps j (hz j e) hj
      have h1 := H.2 j (ready_mono hj hji)
      obtain ⟨hjun, oj, hoj, hall⟩ := mem_ready.1 hj
      have hnot : ∀ e ∈ oj.after, Region.binds md e = true → e.on ≠ i := fun e he hb heq => by
        have h1 := hall e he hb
        have h0 := (mem_ready.1 hr).1
        rw [heq] at h1
        rcases Nat.lt_or_ge i listed.size with h' | h'
        · simp [h'] at h0 h1; rw [h0] at h1; cases h1
        · simp [Array.getElem?_eq_none h'] at h1
      have h2 := wpOp_putIf hoj (hfree j oj hoj hji hjun hnot) (fun cs b => hsel i oi cs b hi) (fun cs b => hsel j oj cs b hoj) hQ hy h1
      refine wpOp_mono (fun a' w' h3 => ?_) h2
      have hS' : S w' := h3.2.1.resolve_left hjz
      refine ⟨.inr hS', ih (listed.setIfInBounds j true) a' w' (fun z hm => path_kept hr hj ps z (hz z hm)) (fun k ok hk hki hun hno => ?_) (ready_mono hr (Ne.symm hji)) h3.1 hS' ?_⟩
      · refine hfree k ok hk hki ?_ hno
        by_cases hjk : j = k
        · subst hjk; exact hjun
        · rw [_root_.Go.getD_set_ne true hjk] at hun; exact hun
      · rw [Array.setIfInBounds_comm _ _ hji]
        exact h3.2.2
theorem AnyL.takeP {i : Nat} {oi : Oper} {v : Value} {f : Nat} {listed : Array Bool} {a : Act} {w : World} (ps : List Nat) (hi : ops[i]? = some oi)
    (hs : (Region.noSelect ops && Region.free md ops listed i && (Region.ready md ops listed).contains i && zs.all fun z => pathB md ops listed i z ps) = true)
    (hQ : ∀ c a w, Q (.panic c) (a.put oi.dst v) w → Q (.panic c) a w) (hw : Region.wanted oi (yielded ops a.tmps) = true) (hS : S w) (hv : ∀ w, S w → (execOp a.eval oi).run P w = .ok (.value v) w)
    (h : AnyL P md ops Q S zs f (listed.setIfInBounds i true) (a.put oi.dst v) w) : AnyL P md ops Q S zs (f + 1) listed a w := by
  simp only [Bool.and_eq_true, List.all_eq_true] at hs
  obtain ⟨⟨⟨h1, h2⟩, h3⟩, h4⟩ := hs
  exact AnyL.firstP (ps := ps) hi (Region.noSelect_spec h1) hQ f listed a w h4 (Region.free_spec hi h2) (by simpa using h3) (.inl ⟨hw, hv⟩) hS h
/-- The one operation that may come up. -/
theorem AnyL.one {i : Nat} {o : Oper} {f : Nat} {listed : Array Bool} {a : Act} {w : World} (ho : ops[i]? = some o) (hr : Region.ready md ops listed = [i]) (hg : o.guard = none)
    (h : ∀ K : Act → World → Prop, Hid (∀ a' w', (i ∈ zs ∨ S w') → AnyL P md ops Q S zs f (listed.setIfInBounds i true) a' w' → K a' w') → Oper.wp P o a w K Q) : AnyL P md ops Q S zs (f + 1) listed a w := by
  refine ⟨fun h0 => (by rw [hr] at h0; cases h0), fun j hj => ?_⟩
  rw [hr] at hj
  obtain rfl := List.mem_singleton.1 hj
  refine wpOp_step ho fun K hK => ?_
  rw [if_pos (by simp [Region.wanted, hg])]
  exact h K (Lib.hid fun a' w' h1 h2 => hK a' w' ⟨h1, h2⟩)
/-- One of two operations comes up. -/
theorem AnyL.two {i j : Nat} {oi oj : Oper} {f : Nat} {listed : Array Bool} {a : Act} {w : World} (hi : ops[i]? = some oi) (hj : ops[j]? = some oj) (hr : Region.ready md ops listed = [i, j]) (hgi : oi.guard = none) (hgj : oj.guard = none)
    (h1 : ∀ K : Act → World → Prop, Hid (∀ a' w', (i ∈ zs ∨ S w') → AnyL P md ops Q S zs f (listed.setIfInBounds i true) a' w' → K a' w') → Oper.wp P oi a w K Q)
    (h2 : ∀ K : Act → World → Prop, Hid (∀ a' w', (j ∈ zs ∨ S w') → AnyL P md ops Q S zs f (listed.setIfInBounds j true) a' w' → K a' w') → Oper.wp P oj a w K Q) : AnyL P md ops Q S zs (f + 1) listed a w := by
  refine ⟨fun h0 => (by rw [hr] at h0; cases h0), fun k hk => ?_⟩
  rw [hr] at hk
  rcases List.mem_cons.1 hk with rfl | hk
  · refine wpOp_step hi fun K hK => ?_
    rw [if_pos (by simp [Region.wanted, hgi])]
    exact h1 K (Lib.hid fun a' w' h3 h4 => hK a' w' ⟨h3, h4⟩)
  · obtain rfl := List.mem_singleton.1 hk
    refine wpOp_step hj fun K hK => ?_
    rw [if_pos (by simp [Region.wanted, hgj])]
    exact h2 K (Lib.hid fun a' w' h3 h4 => hK a' w' ⟨h3, h4⟩)
theorem AnyL.done {listed : Array Bool} {a : Act} {w : World} (hr : Region.ready md ops listed = []) (h : Q .normal a w) : ∀ f, AnyL P md ops Q S zs f listed a w
  | 0 => ⟨hr, h⟩
  | _ + 1 => ⟨fun _ => h, by rw [hr]; simp⟩
theorem AnyL.start {id : Nat} {a : Act} {w : World} (zs : List Nat) (S : World → Prop) (hm : P.follows .mixedOrders = true) (h : AnyL P .any ops Q S zs ops.size (Array.replicate ops.size false) a w.drew) : (Code.region id ops true).wp P Q a w :=
  wp_region_any hm (AnyL.any _ _ _ _ h)
end
end Go.Proofs.Ytmdajndmobpgbaa

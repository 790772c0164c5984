/- network: the state of a step with both networks, in memory. Conditions: none. -/
import Derived.Test.YtkhiepjlfbjgdaaZNwPj
namespace Go.Proofs.Ytkhiepjlfbjgdaa
open Go.RowKit

theorem ints_one (l : List Int) : ∀ u ∈ ints l, u.oneCell' = true := fun u hu => by
  obtain ⟨x, _, rfl⟩ := List.mem_map.1 hu
  rfl
def tNA : TypeId := 73
/-- The program's network and the document's. -/
structure PlK (w0 : World) (K : Nat → Prop) (b c : Nat) (s : Net) (q : DNv) (D : DN) (wx : World) : Prop where
  t : CN w0 K b c s wx
  d : DNAt K wx q D
  l : D.lim = w0.heap.size
/-- The state in a step. -/
structure StS (w0 : World) (K : Nat → Prop) (w : World) (b bx ab rx : Nat) (q0 : DNv) (D0 : DN) (a : ActN) (K' : Nat → Prop) (c : Nat) (s : Net) (q : DNv) (D : DN) (wx : World) : Prop where
  p : PlK w0 K' b c s q D wx
  m : ∀ k, K k → K' k
  s : Same K w wx
  i : ∀ k, K k → k < w.heap.size
  ob : wx.heap[bx]? = some (.cells (dnC q0 D0) tDN (0, 0))
  oa : wx.heap[ab]? = some (.cells a.cells tNA (0, 0))
  or : wx.heap[rx]? = some (.cells zN tDN (0, 0))
  kb : K' bx
  ka : K' ab
  kr : K' rx
  lr : w.heap.size ≤ rx
  l0 : w0.heap.size ≤ w.heap.size
  br : bx ≠ rx
/-- The lengths of the document's lists. -/
structure DNle (n : Nat) (D : DN) : Prop where
  u : D.us.length ≤ n
  f : D.fs.length ≤ n
  c : D.cs.length ≤ n
  e : D.se.length ≤ n
  l : D.ls.length ≤ 4 * n
/-- What a step leaves. -/
def StepP (w0 : World) (K : Nat → Prop) (b c n : Nat) (w : World) (e : Ending) (w' : World) : Prop :=
  ∃ K' s' q' D', e = .returned (.tuple #[dnV q' D', .bool true]) ∧ PlK w0 K' b c s' q' D' w' ∧ SimN s' D' ∧ DNle n D' ∧ (∀ k, K k → K' k) ∧ Same K w w'
section
variable {w0 w wx wy w' : World} {K K' J : Nat → Prop} {b bx ab rx c c' n n' : Nat} {s s' : Net} {q q' q0 : DNv} {D D' D0 : DN} {a : ActN}
theorem DNle.mono (h : DNle n D) (hn : n ≤ n') : DNle n' D := ⟨by have := h.u; omega, by have := h.f; omega, by have := h.c; omega, by have := h.e; omega, by have := h.l; omega⟩
theorem FRok.heapL {B : Nat} {x : FR} (h : FRok B wx x) (hh : ∀ g, g < B → w'.heap[g]? = wx.heap[g]?) (hs : B ≤ w'.heap.size) : FRok B w' x := by
  obtain ⟨ao, c, b, off, X, e, hi, hx, hb⟩ := h.v
  exact ⟨ao, c, b, off, X, e, ⟨hi.ao, fun h0 => Nat.lt_of_lt_of_le (hb h0) hs, fun i hn => (World.cell?_of_block (a := ⟨b, off + i, none⟩) (hh b (hb (by omega)))).trans (hi.c i hn), hi.bd⟩, hx, hb⟩
theorem DNAt.heapL (h : DNAt K wx q D) (hh : ∀ g, K g → g < wx.heap.size → w'.heap[g]? = wx.heap[g]?) (hl : ∀ g, g < D.lim → w'.heap[g]? = wx.heap[g]?) (hs : D.lim ≤ w'.heap.size) : DNAt K w' q D :=
  ⟨OL.heap h.u fun g hg => hh g (h.ku g hg) (OL.lt h.u g hg), OL.heap h.f fun g hg => hh g (h.kf g hg) (OL.lt h.f g hg), OL.heap h.c fun g hg => hh g (h.kc g hg) (OL.lt h.c g hg), OL.heap h.e fun g hg => hh g (h.ks g hg) (OL.lt h.e g hg), OL.heap h.l fun g hg => hh g (h.kl g hg) (OL.lt h.l g hg), h.ku, h.kf, h.kc, h.ks, h.kl, fun x hx => (h.r x hx).heapL hl hs, hs⟩
theorem PlK.bel (h : PlK w0 K b c s q D wx) (hb : Below wx.heap.size wx w') : PlK w0 K b c s q D w' := ⟨h.t.bel hb, h.d.bel hb, h.l⟩
theorem PlK.fresh (h : PlK w0 K b c s q D wx) (hb : Below wx.heap.size wx w') : PlK w0 (fun k => K k ∨ (wx.heap.size ≤ k ∧ k < w'.heap.size)) b c s q D w' := ⟨h.t.fresh hb, (h.d.bel hb).more fun _ hk => .inl hk, h.l⟩
theorem PlK.doc (h : PlK w0 K b c s q D wx) (hr : DNAt (fun k => K k ∨ wx.heap.size ≤ k) w' q' D') (hb : Below wx.heap.size wx w') (hl : D'.lim = D.lim) : PlK w0 (fun k => K k ∨ (wx.heap.size ≤ k ∧ k < w'.heap.size)) b c s q' D' w' :=
  ⟨h.t.fresh hb, hr.to fun _ hk hx => hx.imp (fun x => x) fun x => ⟨x, hk⟩, hl.trans h.l⟩
theorem PlK.prog (h : PlK w0 K b c s q D wx) (hC : CN w0 K b c' s' w') (hs : Same K wx w') : PlK w0 K b c' s' q D w' := ⟨hC, h.d.heapL (fun g hg _ => hs g hg) (fun g hg => (hC.be.block g (by rw [← h.l]; exact hg)).trans (h.t.be.block g (by rw [← h.l]; exact hg)).symm) (by rw [h.l]; exact hC.be.size), h.l⟩
theorem PlK.prog' (h : PlK w0 K b c s q D wx) {K2 : Nat → Prop} (hC : CN w0 K2 b c' s' w') (hs : Same K wx w') : DNAt K w' q D := h.d.heapL (fun g hg _ => hs g hg) (fun g hg => (hC.be.block g (by rw [← h.l]; exact hg)).trans (h.t.be.block g (by rw [← h.l]; exact hg)).symm) (by rw [h.l]; exact hC.be.size)
theorem PlK.row (h : PlK w0 K b c s q D wx) {old cs : Array Value} (hr : wx.heap[rx]? = some (.cells old tDN (0, 0))) (hk : K rx) (hl : w0.heap.size ≤ rx) : PlK w0 K b c s q D (wx.setRow rx cs) :=
  ⟨h.t.grown (r := some rx) ⟨rfl, rfl, rfl, by simp, fun k _ hk2 => setRow_other _ _ _ _ fun e => hk2 (by rw [e])⟩ fun g hg => by
    obtain rfl := Option.some.inj hg
    exact ⟨hk, hl⟩, h.d.heapQ (fun b cs t ht hb => setRow_other _ _ _ _ (type_ne hb hr ht)) (fun g hg => setRow_other _ _ _ _ (by rw [h.l] at hg; omega)) (by simp), h.l⟩
theorem StS.start (h : PlK w0 K b c s q D w) (a : ActN) : StS w0 K w b w.heap.size (w.heap.size + 1) (w.heap.size + 1 + 1) q D a (fun k => K k ∨ (w.heap.size ≤ k ∧ k < (((w.alloc (.cells (dnC q D) tDN)).alloc (.cells a.cells tNA)).alloc (.cells zN tDN)).heap.size)) c s q D (((w.alloc (.cells (dnC q D) tDN)).alloc (.cells a.cells tNA)).alloc (.cells zN tDN)) := by
  have b1 := (Below.refl w.heap.size w).alloc (Nat.le_refl _) (.cells (dnC q D) tDN)
  have b2 := b1.alloc b1.size (.cells a.cells tNA)
  have b3 := b2.alloc b2.size (.cells zN tDN)
  exact ⟨h.fresh b3, fun k hk => .inl hk, h.t.same b3, fun k hk => h.t.lt k hk, has_alloc (has_alloc (heap_alloc_new w _) _) _, has_alloc (heap_at (by simp)) _, heap_at (by simp), .inr ⟨Nat.le_refl _, by simp; omega⟩, .inr ⟨by omega, by simp⟩, .inr ⟨by omega, by simp⟩, by omega, h.t.be.size, by omega⟩
theorem StS.lt (h : StS w0 K w b bx ab rx q0 D0 a K' c s q D wx) : w.heap.size ≤ wx.heap.size := by
  have := lt_of_block h.or
  have := h.lr
  omega
theorem StS.bel (h : StS w0 K w b bx ab rx q0 D0 a K' c s q D wx) (hb : Below wx.heap.size wx wy) : StS w0 K w b bx ab rx q0 D0 a K' c s q D wy :=
  ⟨h.p.bel hb, h.m, h.s.trans fun k hk => hb.block k (Nat.lt_of_lt_of_le (h.i k hk) h.lt), h.i, (hb.block _ (lt_of_block h.ob)).trans h.ob, (hb.block _ (lt_of_block h.oa)).trans h.oa, (hb.block _ (lt_of_block h.or)).trans h.or, h.kb, h.ka, h.kr, h.lr, h.l0, h.br⟩
theorem StS.fresh (h : StS w0 K w b bx ab rx q0 D0 a K' c s q D wx) (hb : Below wx.heap.size wx wy) : StS w0 K w b bx ab rx q0 D0 a (fun k => K' k ∨ (wx.heap.size ≤ k ∧ k < wy.heap.size)) c s q D wy :=
  have h' := h.bel hb
  ⟨h.p.fresh hb, fun k hk => .inl (h.m k hk), h'.s, h.i, h'.ob, h'.oa, h'.or, .inl h.kb, .inl h.ka, .inl h.kr, h.lr, h.l0, h.br⟩
theorem StS.doc (h : StS w0 K w b bx ab rx q0 D0 a K' c s q D wx) (hr : DNAt (fun k => K' k ∨ wx.heap.size ≤ k) wy q' D') (hb : Below wx.heap.size wx wy) (hL : D'.lim = D.lim) : StS w0 K w b bx ab rx q0 D0 a (fun k => K' k ∨ (wx.heap.size ≤ k ∧ k < wy.heap.size)) c s q' D' wy :=
  have h' := h.bel hb
  ⟨h.p.doc hr hb hL, fun k hk => .inl (h.m k hk), h'.s, h.i, h'.ob, h'.oa, h'.or, .inl h.kb, .inl h.ka, .inl h.kr, h.lr, h.l0, h.br⟩
theorem StS.prog (h : StS w0 K w b bx ab rx q0 D0 a K' c s q D wx) (hC : CN w0 K' b c' s' wy) (hs : Same K' wx wy) : StS w0 K w b bx ab rx q0 D0 a K' c' s' q D wy :=
  ⟨h.p.prog hC hs, h.m, h.s.trans fun k hk => hs k (h.m k hk), h.i, (hs _ h.kb).trans h.ob, (hs _ h.ka).trans h.oa, (hs _ h.kr).trans h.or, h.kb, h.ka, h.kr, h.lr, h.l0, h.br⟩
theorem StS.freshE (h : StS w0 K w b bx ab rx q0 D0 a K' c s q D wx) (hb : Below wx.heap.size wx wy) : ∃ K2, (∀ k, K' k → K2 k) ∧ (∀ k, wx.heap.size ≤ k → k < wy.heap.size → K2 k) ∧ StS w0 K w b bx ab rx q0 D0 a K2 c s q D wy := ⟨_, fun _ hk => .inl hk, fun _ h1 h2 => .inr ⟨h1, h2⟩, h.fresh hb⟩
theorem StS.docE (h : StS w0 K w b bx ab rx q0 D0 a K' c s q D wx) (hr : DNAt (fun k => K' k ∨ wx.heap.size ≤ k) wy q' D') (hb : Below wx.heap.size wx wy) (hL : D'.lim = D.lim) : ∃ K2, (∀ k, K' k → K2 k) ∧ (∀ k, wx.heap.size ≤ k → k < wy.heap.size → K2 k) ∧ StS w0 K w b bx ab rx q0 D0 a K2 c s q' D' wy := ⟨_, fun _ hk => .inl hk, fun _ h1 h2 => .inr ⟨h1, h2⟩, h.doc hr hb hL⟩
theorem StS.lr2 (h : StS w0 K w b bx ab rx q0 D0 a K' c s q D wx) : rx < wx.heap.size ∧ ab < wx.heap.size ∧ bx < wx.heap.size := ⟨lt_of_block h.or, lt_of_block h.oa, lt_of_block h.ob⟩
theorem StS.ar (h : StS w0 K w b bx ab rx q0 D0 a K' c s q D wx) : ab ≠ rx := type_ne h.oa h.or (by decide)
theorem StS.re (h : StS w0 K w b bx ab rx q0 D0 a K' c s q D wx) {K2 : Nat → Prop} (hC : CN w0 K2 b c' s' wy) (hm : ∀ k, K' k → K2 k) (hs : Same K' wx wy) : StS w0 K w b bx ab rx q0 D0 a K2 c' s' q D wy :=
  ⟨⟨hC, (h.p.prog' hC hs).more hm, h.p.l⟩, fun k hk => hm k (h.m k hk), h.s.trans fun k hk => hs k (h.m k hk), h.i, (hs _ h.kb).trans h.ob, (hs _ h.ka).trans h.oa, (hs _ h.kr).trans h.or, hm _ h.kb, hm _ h.ka, hm _ h.kr, h.lr, h.l0, h.br⟩
theorem ol_ints {ao : Option Addr} {cap m : Nat} {X : Nat → Int} (h : OL wx 3 1 (.slice ao m cap) m (ints (lst m X))) (hb : ∀ i, i < m → -9223372036854775808 ≤ X i ∧ X i ≤ 9223372036854775807) : ∃ g off, IsInts wx ao m g off X ∧ (0 < m → (Value.slice ao m cap).ownBlock = some g) := by
  by_cases h0 : 0 < m
  · obtain ⟨g, off, c, e, _, _, hl⟩ := OL.form h h0
    simp only [Value.slice.injEq, true_and] at e
    obtain ⟨rfl, rfl⟩ := e
    exact ⟨g, off, ⟨fun _ => rfl, fun _ => hl, fun i hi => (OL.cell h i (by omega)).trans ((ints_get _ i (by rw [lst_len]; exact hi)).trans (by rw [lst_get hi])), hb⟩, fun _ => rfl⟩
  · exact ⟨0, 0, ⟨fun h => absurd h h0, fun h => absurd h h0, fun i hi => by omega, hb⟩, fun h => absurd h h0⟩
/-- The result is stored. -/
theorem StS.fin (h : StS w0 K w b bx ab rx q0 D0 a K' c s q D wx) : PlK w0 K' b c s q D (wx.setRow rx (dnC q D)) ∧ Same K w (wx.setRow rx (dnC q D)) ∧ (wx.setRow rx (dnC q D)).heap[rx]? = some (.cells (dnC q D) tDN (0, 0)) :=
  ⟨h.p.row h.or h.kr (Nat.le_trans h.l0 h.lr), h.s.trans fun k hk => setRow_other _ _ _ _ (by have := h.i k hk; have := h.lr; omega), setRow_heap _ _ _ _ _ _ h.or⟩
theorem StS.out (h : StS w0 K w b bx ab rx q0 D0 a K' c s q D wx) (hm : SimN s D) (hl : DNle n D) (hc : c ≤ c') : StepP w0 K b c' n w (.returned (.tuple #[dnV q D, .bool true])) (wx.setRow rx (dnC q D)) :=
  ⟨K', s, q, D, rfl, ⟨h.fin.1.t.more hc, h.fin.1.d, h.fin.1.l⟩, hm, hl, h.m, h.fin.2.1⟩
theorem StS.bget {vu vf vc vs vl : Value} (h : StS w0 K w b bx ab rx ⟨vu, vf, vc, vs, vl⟩ D0 a K' c s q D wx) : (wx.cell? ⟨bx, 0, none⟩ = some (.int .i64 D0.dflt) ∧ wx.cell? ⟨bx, 1, none⟩ = some (.int .i64 D0.present) ∧ wx.cell? ⟨bx, 2, none⟩ = some (.int .i64 D0.lost) ∧ wx.cell? ⟨bx, 3, none⟩ = some vu ∧ wx.cell? ⟨bx, 4, none⟩ = some vf ∧ wx.cell? ⟨bx, 5, none⟩ = some vc ∧ wx.cell? ⟨bx, 6, none⟩ = some vs ∧ wx.cell? ⟨bx, 7, none⟩ = some vl) := (get_row8 h.ob).1
theorem StS.aget {kd fr tn z m : Int} {dao : Option Addr} {dn dc db doff : Nat} {dX : Nat → Int} {sd : ByteArray} (h : StS w0 K w b bx ab rx q0 D0 ⟨kd, fr, tn, z, m, dao, dn, dc, db, doff, dX, sd⟩ K' c s q D wx) : (wx.cell? ⟨ab, 0, none⟩ = some (.int .u8 kd) ∧ wx.cell? ⟨ab, 1, none⟩ = some (.int .u8 fr) ∧ wx.cell? ⟨ab, 2, none⟩ = some (.int .u8 tn) ∧ wx.cell? ⟨ab, 3, none⟩ = some (.int .i64 z) ∧ wx.cell? ⟨ab, 4, none⟩ = some (.int .i64 m) ∧ wx.cell? ⟨ab, 5, none⟩ = some (.slice dao dn dc) ∧ wx.cell? ⟨ab, 6, none⟩ = some (.string sd)) :=
  ⟨(has_cell h.oa 0).trans rfl, (has_cell h.oa 1).trans rfl, (has_cell h.oa 2).trans rfl, (has_cell h.oa 3).trans rfl, (has_cell h.oa 4).trans rfl, (has_cell h.oa 5).trans rfl, (has_cell h.oa 6).trans rfl⟩
/-- The document's Send and SetDelay, with their errors. -/
theorem dsendE {x y d : ByteArray} (h : DNAt K w q D) (hm : SimN s D) (g : NGd c s) (hc : c ≤ 1000) (hl : DNle n D) (hn : n ≤ 200) (t : Int) :
    Calls Try.prog 38 #[dnV q D, .agg #[.int .i64 t, .string x, .string y, .string d]] w (RetN K (if sendE s t = 0 then D.send ⟨t, x, y, d⟩ else D) (sendE s t) w) := by
  by_cases h1 : t < 0
  · have e : sendE s t = 1 := if_pos (.inl h1)
    rw [e, if_neg (by decide)]
    exact dsend_low h x y d t h1
  · by_cases h2 : 1099511627776 < t
    · have e : sendE s t = 1 := if_pos (.inr h2)
      rw [e, if_neg (by decide)]
      exact dsend_high h x y d t h2
    · by_cases h3 : t < s.present
      · have e : sendE s t = 7 := by unfold sendE; rw [if_neg (by omega), if_pos h3]
        rw [e, if_neg (by decide)]
        exact dsend_late h x y d t (by omega) (by omega) (by rw [← hm.p]; exact h3)
      · have e : sendE s t = 0 := by unfold sendE; rw [if_neg (by omega), if_neg h3]
        rw [e, if_pos rfl]
        have h4 := g.list t x y
        rw [hm.list] at h4
        have h5 := g.o0
        have h6 := g.o1
        have h7 := hm.o
        have h8 := hm.p
        exact dsend_ok h ⟨by have := hl.u; omega, by have := hl.f; omega, by have := hl.e; omega, by have := hl.l; omega⟩ x y d t (by omega) (by omega) (by omega) (by omega) (by omega) fun z hz => bad_bd (h4.2 z hz)
theorem SimN.sendS {x y : ByteArray} (hm : SimN s D) (g : NGd c s) (t : Int) (d : ByteArray) : SimN (sendS s t x y (byts d)) (if sendE s t = 0 then D.send ⟨t, x, y, d⟩ else D) := by
  unfold Go.Proofs.Ytkhiepjlfbjgdaa.sendS
  by_cases e : sendE s t = 0
  · rw [if_pos e, if_pos e]
    unfold sendE at e
    have h4 := g.list t x y
    rw [hm.list] at h4
    split at e
    · cases e
    · split at e
      · cases e
      · exact hm.send (by omega) (by omega) (fun z hz => bad_bd (h4.2 z hz)) d
  · rw [if_neg e, if_neg e]
    exact hm
theorem DNle.sendS {x y d : ByteArray} {t : Int} (hl : DNle n D) (hm : SimN s D) (g : NGd c s) : DNle (n + 1) (if sendE s t = 0 then D.send ⟨t, x, y, d⟩ else D) := by
  have h1 := hl.mono (n' := n + 1) (by omega)
  by_cases e : sendE s t = 0
  · rw [if_pos e]
    have h4 := (g.list t x y).1
    rw [hm.list] at h4
    refine ⟨h1.u, h1.f, h1.c, ?_, ?_⟩
    · show (D.se ++ _).length ≤ _
      have := hl.e
      simp; omega
    · show (D.ls ++ _).length ≤ _
      have := hl.l
      simp only [List.length_append, List.length_map]
      omega
  · rw [if_neg e]; exact h1
theorem dsetdelayE (h : DNAt K w q D) (hl : DNle n D) (hn : n ≤ 200) (x y : ByteArray) (d : Int) :
    Calls Try.prog 41 #[dnV q D, .string x, .string y, .int .i64 d] w (RetN K (if badD d = true then D else { D with us := D.us ++ [(x, (y, d))] }) (if badD d = true then 1 else 0) w) := by
  have h1 := hl.u
  by_cases hb : badD d = true
  · rw [if_pos hb, if_pos hb]
    exact dsetdelay_bad h (by omega) x y d hb
  · rw [if_neg hb, if_neg hb]
    exact dsetdelay_ok h (by omega) x y d (by simpa using hb)
theorem dsetcutE (h : DNAt K w q D) (hl : DNle n D) (hn : n ≤ 200) (x y : ByteArray) (i j : Int) :
    Calls Try.prog 43 #[dnV q D, .agg #[.string x, .string y, .int .i64 i, .int .i64 j]] w (RetN K (if j < i then D else { D with cs := D.cs ++ [⟨x, y, i, j⟩] }) (if j < i then 7 else 0) w) := by
  have h1 := hl.c
  by_cases hb : j < i
  · rw [if_pos hb, if_pos hb]
    exact dsetcut_bad h x y i j hb
  · rw [if_neg hb, if_neg hb]
    exact dsetcut_ok h (by omega) x y i j (by omega)
/-- SetFate says what Fate says. -/
theorem SetFP.same {f : FR} {e : Ending} (h : SetFP K D f w e w') (hm : SimN s D) : RetN K (if fatE s f.a f.b f.i f.l = 0 then { D with fs := D.fs ++ [f] } else D) (fatE s f.a f.b f.i f.l) w e w' ∧
    SimN (fatS s f.a f.b f.i f.l) (if fatE s f.a f.b f.i f.l = 0 then { D with fs := D.fs ++ [f] } else D) := by
  obtain ⟨D', c, hr, h2⟩ := h
  rcases h2 with ⟨hb, rfl, rfl⟩ | ⟨hb, h3, rfl, rfl⟩ | ⟨hb, h3, h4, rfl, rfl⟩
  · have e1 : fatE s f.a f.b f.i f.l = 1 := if_pos hb
    have e2 : fatS s f.a f.b f.i f.l = s := if_pos hb
    rw [e1, e2, if_neg (by decide)]
    exact ⟨hr, hm⟩
  · have h5 : ((s.get f.a f.b).fates f.i).isSome = true ∨ f.i < (s.get f.a f.b).sent := by
      rw [hm.f, hm.n]
      rcases h3 with h3 | h3
      · exact .inr h3
      · exact .inl (by simpa using h3)
    have hb' : ¬ fateBad f.i f.l = true := by rw [hb]; exact fun h => by cases h
    have e1 : fatE s f.a f.b f.i f.l = 4 := (if_neg hb').trans (if_pos h5)
    have e2 : fatS s f.a f.b f.i f.l = s.touch f.a f.b := (if_neg hb').trans (if_pos h5)
    rw [e1, e2, if_neg (by decide)]
    exact ⟨hr, hm.touch _ _⟩
  · have h5 : ¬ (((s.get f.a f.b).fates f.i).isSome = true ∨ f.i < (s.get f.a f.b).sent) := by
      rw [hm.f, hm.n, h4]
      simpa using h3
    have hb' : ¬ fateBad f.i f.l = true := by rw [hb]; exact fun h => by cases h
    have e1 : fatE s f.a f.b f.i f.l = 0 := (if_neg hb').trans (if_neg h5)
    have e2 : fatS s f.a f.b f.i f.l = s.fate f.a f.b f.i f.l := (if_neg hb').trans (if_neg h5)
    rw [e1, e2, if_pos rfl]
    exact ⟨hr, hm.fate f (by rw [hm.f, h4]; rfl)⟩
end
end Go.Proofs.Ytkhiepjlfbjgdaa

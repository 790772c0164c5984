/- AdmissionPlays: the program's admission and the document's beside one another. No code is walked here. Conditions: each its own. AdmissionPlays: the document's calls on the program's state. No code is walked here. Conditions: the state is good. AdmissionWorks in plain Lean: a script is played alike by two admissions. No program here. -/
import Derived.Test.YtmdajndmobpgbaaZApT
import Derived.Test.YtmdajndmobpgbaaZApJ
import Derived.Test.YtmdajndmobpgbaaZApL
import Derived.Test.YtmdajndmobpgbaaZApM
import Derived.Test.YtmdajndmobpgbaaZAdRunB
import Derived.Test.YtmdajndmobpgbaaZGrE
namespace Go.Proofs.Ytmdajndmobpgbaa
open Go.RowKit
open Go.Proofs.Ytmdajndmobpgbaa.Fq
open Go.Proofs.Ytmdajndmobpgbaa.Bk

/-- The program's admission of state s at b, the document's d in box dc, whose blocks K are kept. -/
structure PlA (w : World) (b dc : Nat) (K : Nat → Prop) (s : AS) (d : DA) (wx : World) : Prop where
  c : CA w K b s wx
  ex : ∃ q lv, wx.heap[dc]? = some (.cells (daC q d) tDA (0, 0)) ∧ DAt K wx q lv d
  kd : K dc
  ld : w.heap.size ≤ dc
section
variable {w wx wy : World} {K J : Nat → Prop} {b dc : Nat} {s s' : AS} {d d' : DA} {q : DQ} {lv : List Value}
theorem DAt.sameA (h : DAt K wx q lv d) (hs : ∀ k, K k → wy.heap[k]? = wx.heap[k]?) : DAt K wy q lv d :=
  ⟨OL.heap h.b fun k hk => hs k (h.kb k hk), ⟨⟨OL.heap h.f.a.q fun g hg => hs g (h.f.kq g hg), OL.heap h.f.a.d fun g hg => hs g (h.f.kd g hg), OL.heap h.f.a.l fun g hg => hs g (h.f.kl g hg), h.f.a.lvl, h.f.a.one, fun t ht => OL.heap (h.f.a.e t ht) fun g hg => hs g (h.f.ke t g hg), h.f.a.lq, h.f.a.ld⟩, h.f.kq, h.f.kd, h.f.kl, h.f.ke⟩, OL.heap h.r fun k hk => hs k (h.kr k hk), h.kb, h.kr⟩
theorem PlA.bel (h : PlA w b dc K s d wx) (hb : Below wx.heap.size wx wy) : PlA w b dc K s d wy := by
  obtain ⟨q, lv, h1, h2⟩ := h.ex
  exact ⟨h.c.bel hb, ⟨q, lv, (hb.block dc (lt_of_block h1)).trans h1, h2.bel hb⟩, h.kd, h.ld⟩
/-- New blocks are kept. -/
theorem PlA.add (h : PlA w b dc K s d wx) (hb : Below wx.heap.size wx wy) : PlA w b dc (fun k => K k ∨ (wx.heap.size ≤ k ∧ k < wy.heap.size)) s d wy := by
  obtain ⟨q, lv, h1, h2⟩ := h.ex
  exact ⟨h.c.add hb fun k hk => hk, ⟨q, lv, (hb.block dc (lt_of_block h1)).trans h1, (h2.bel hb).to fun k _ hk => .inl hk⟩, .inl h.kd, h.ld⟩
/-- A call of the program. -/
theorem PlA.prog (h : PlA w b dc K s d wx) (hc : CA w K b s' wy) (hs : SameA K wx wy) : PlA w b dc K s' d wy := by
  obtain ⟨q, lv, h1, h2⟩ := h.ex
  exact ⟨hc, ⟨q, lv, (hs dc h.kd).trans h1, h2.sameA hs⟩, h.kd, h.ld⟩
theorem CA.keepD {g : Nat} (h : CA w K b s wx) (hK : K g) (hs : ∀ k, k ≠ g → wy.heap[k]? = wx.heap[k]?) (be : Below w.heap.size w wy) (hsz : wy.heap.size = wx.heap.size) : CA w K b s wy := by
  obtain ⟨⟨m, hA, hF⟩, ho, hbe, hl⟩ := h
  exact ⟨⟨m, hA.same fun k hk => hs k fun e => (hF k hk).2 (e ▸ hK), hF⟩, ho, be, fun k hk => by rw [hsz]; exact hl k hk⟩
/-- A call of the document, its result stored in the box. -/
theorem PlA.doc (h : PlA w b dc K s d wx) (hd : DAt (fun j => K j ∨ wx.heap.size ≤ j) wy q lv d') (hb : Below wx.heap.size wx wy) {cs : Array Value} (hcs : cs = daC q d') : PlA w b dc (fun k => K k ∨ (wx.heap.size ≤ k ∧ k < wy.heap.size)) s d' (wy.setRow dc cs) := by
  obtain ⟨q0, lv0, h1, _⟩ := h.ex
  subst hcs
  have hrow := (hb.block dc (lt_of_block h1)).trans h1
  have h2 := h.add hb
  have hd2 := hd.to (J := fun k => K k ∨ (wx.heap.size ≤ k ∧ k < wy.heap.size)) fun k hk hx => hx.imp (fun x => x) fun x => ⟨x, hk⟩
  refine ⟨h2.c.keepD (g := dc) (.inl h.kd) (fun k hk => setRow_other _ _ _ _ hk) (below_setRow h2.c.be h.ld _) ?_, ⟨q, lv, setRow_heap _ _ _ _ _ _ hrow, hd2.rowB hrow _⟩, .inl h.kd, h.ld⟩
  simp [World.setRow]
/-- A call of the document's queue, its result stored in the box. -/
theorem PlA.docQ {vq vd vl : Value} {lv2 : List Value} {f : FQ} (h : PlA w b dc K s d wx) (hr : RQK (fun j => K j ∨ wx.heap.size ≤ j) wy vq vd vl lv2 f) (hb : Below wx.heap.size wx wy) :
    PlA w b dc (fun k => K k ∨ (wx.heap.size ≤ k ∧ k < wy.heap.size)) s { d with f := f } (((((wy.setCell ⟨dc, 2, none⟩ vq).setCell ⟨dc, 3, none⟩ vd).setCell ⟨dc, 4, none⟩ vl).setCell ⟨dc, 5, none⟩ (.int .i64 f.cur)).setCell ⟨dc, 6, none⟩ (.bool f.begun)) := by
  obtain ⟨q0, lv0, h1, h3⟩ := h.ex
  have hrow := (hb.block dc (lt_of_block h1)).trans h1
  have h2 := h.add hb
  have hd := (h3.withF (J := fun j => K j ∨ wx.heap.size ≤ j) hb (fun k hk => .inl hk) hr).to (J := fun k => K k ∨ (wx.heap.size ≤ k ∧ k < wy.heap.size)) fun k hk hx => hx.imp (fun x => x) fun x => ⟨x, hk⟩
  refine ⟨h2.c.keepD (g := dc) (.inl h.kd) (fun k hk => ?_) (((((h2.c.be.setCell (p := ⟨dc, 2, none⟩) h.ld vq).setCell (p := ⟨dc, 3, none⟩) h.ld vd).setCell (p := ⟨dc, 4, none⟩) h.ld vl).setCell (p := ⟨dc, 5, none⟩) h.ld (.int .i64 f.cur)).setCell (p := ⟨dc, 6, none⟩) h.ld (.bool f.begun)) (by simp), ⟨⟨q0.b, vq, vd, vl, q0.r⟩, lv2, setQ8 hrow vq vd vl (.int .i64 f.cur) (.bool f.begun), hd.setQ hrow vq vd vl (.int .i64 f.cur) (.bool f.begun)⟩, .inl h.kd, h.ld⟩
  rw [Below.heap_setCell _ _ _ _ hk, Below.heap_setCell _ _ _ _ hk, Below.heap_setCell _ _ _ _ hk, Below.heap_setCell _ _ _ _ hk, Below.heap_setCell _ _ _ _ hk]
/-- A write of the walk into its own box. -/
theorem PlA.less (h : PlA w b dc K s d wx) (hc : CA w J b s wy) (hJ : ∀ k, K k → J k) (hs : ∀ k, K k → wy.heap[k]? = wx.heap[k]?) : PlA w b dc J s d wy := by
  obtain ⟨q, lv, h1, h2⟩ := h.ex
  exact ⟨hc, ⟨q, lv, (hs dc h.kd).trans h1, (h2.sameA hs).to fun k _ hk => hJ k hk⟩, hJ dc h.kd, h.ld⟩
/-- The setup in its box. -/
structure SetB (w : World) (aos : Option Addr) (ns caps : Nat) (slots : Int) (sb : Nat) (w1 : World) : Prop where
  be : Below w.heap.size w w1
  h : w1.heap[sb]? = some (.cells #[.slice aos ns caps, .int .i64 slots] 48 (0, 0))
theorem SetB.on {aos : Option Addr} {ns caps sb : Nat} {slots : Int} (h : SetB w aos ns caps slots sb wx) (hb : Below wx.heap.size wx wy) : SetB w aos ns caps slots sb wy :=
  ⟨h.be.trans (hb.mono h.be.size), (hb.block sb (lt_of_block h.h)).trans h.h⟩
theorem SetB.start {aos : Option Addr} {ns caps : Nat} {slots : Int} (w : World) : SetB w aos ns caps slots w.heap.size (w.alloc (.cells #[.slice aos ns caps, .int .i64 slots] 48)) :=
  ⟨(Below.refl _ _).alloc (Nat.le_refl _) _, heap_alloc_new w _⟩
end
end Go.Proofs.Ytmdajndmobpgbaa

namespace Go.Proofs.Ytmdajndmobpgbaa
open Go.RowKit
open Go.Proofs.Ytmdajndmobpgbaa.Fq
open Go.Proofs.Ytmdajndmobpgbaa.Bk

section
variable {w wx wy w1 : World} {K : Nat → Prop} {b dc : Nat} {s : AS} {d : DA} {q : DQ} {lv : List Value}
theorem rfin_all (h : DAt K w q lv (docOf s)) (ok : AOk s) (id : Int) : Calls Try.prog 25 #[daV q (docOf s), .int .i64 id] w (RetA K (docOf (finS s id)) (.int .i64 (finE s id)) w) := by
  have hr : (docOf s).run.length ≤ 1000 := by rw [docOf_run]; have := ok.rl; have := ok.s1; omega
  by_cases hm : id ∈ s.run
  · have hp := (docOf_plB ok id).2 hm
    rw [docOf_fin ok id hm, show finE s id = 0 from if_pos hm]
    obtain ⟨ab, cb, aq, cq, ad, cd, al, cl, ar, cr, rfl, -, -, -⟩ := h.shapes
    exact rfinish_ok h rfl hr id hp
  · have hp : plB (docOf s).run id = false := by
      cases hp : plB (docOf s).run id
      · rfl
      · exact absurd ((docOf_plB ok id).1 hp) hm
    rw [show finS s id = s from if_neg hm, show finE s id = 3 from if_neg hm]
    obtain ⟨ab, cb, aq, cq, ad, cd, al, cl, ar, cr, rfl, -, -, -⟩ := h.shapes
    exact rfinish_none h hr id hp
theorem LOk.fshort (ok : AOk s) : 1 ≤ s.f.m ∧ s.f.m ≤ 1000 ∧ Short s.f := ⟨ok.g.m1, by have := ok.g.m2; omega, fun t ht => by
  have := ok.flen (t := t) (by rw [← ok.lf]; exact ht)
  omega⟩
theorem rsub_all (h : DAt K w q lv (docOf s)) (ok : AOk s) (t id c : Int) : Calls Try.prog 28 #[daV q (docOf s), .int .i64 t, .int .i64 id, .int .i64 c] w (RetA K (docOf (subS s t id c)) (.int .i64 (subE s t id c)) w) := by
  have hr : (docOf s).run.length ≤ 1000 := by rw [docOf_run]; have := ok.rl; have := ok.s1; omega
  have hE : rsubE (docOf s) t id c = subE s t id c := by
    rw [putE_sub ok t id c]
    unfold rsubE
    have hf : (docOf s).f = s.f := rfl
    rw [hf]
    by_cases hm : id ∈ s.run
    · have hp := (docOf_plB ok id).2 hm
      by_cases hc : putE s.f t id c = 0 ∨ putE s.f t id c = 10
      · rw [if_pos ⟨hc, hp⟩, if_pos ⟨hc, hm⟩]
      · rw [if_neg fun h => hc h.1, if_neg fun h => hc h.1]
    · have hp : ¬ plB (docOf s).run id = true := fun h => hm ((docOf_plB ok id).1 h)
      rw [if_neg fun h => hp h.2, if_neg fun h => hm h.2]
  have hS : rsubS (docOf s) t id c = docOf (subS s t id c) := by
    unfold rsubS
    rw [hE]
    by_cases h0 : subE s t id c = 0
    · rw [if_pos h0, docOf_sub0 ok h0]
      rfl
    · rw [if_neg h0, subS_bad h0]
  rw [← hE, ← hS]
  obtain ⟨ab, cb, aq, cq, ad, cd, al, cl, ar, cr, rfl, -, -, -⟩ := h.shapes
  exact rsubmit_ex h ok.fshort.1 ok.fshort.2.1 ok.fshort.2.2 hr t id c
/-- An admission that was made in a later world, seen from an elder one. -/
theorem CA.baseD (h : CA w1 (fun _ => False) b s wx) (hb : Below w.heap.size w w1) : CA w (fun k => k < w1.heap.size) b s wx := by
  obtain ⟨⟨m, hA, hF⟩, ho, hbe, hl⟩ := h
  exact ⟨⟨m, hA, fun k hk => ⟨Nat.le_trans hb.size (hF k hk).1, fun hlt => by have := (hF k hk).1; have : k < w1.heap.size := hlt; omega⟩⟩, ho, hb.trans (hbe.mono hb.size), fun k hk => Nat.lt_of_lt_of_le hk hbe.size⟩
/-- Both are made. -/
theorem PlA.start (hc : CA w K b s wx) (hd : DAt (fun k => wx.heap.size ≤ k) wy q lv d) (hb : Below wx.heap.size wx wy) {cs : Array Value} (hcs : cs = daC q d) :
    PlA w b wy.heap.size (fun k => K k ∨ (wx.heap.size ≤ k ∧ k < (wy.alloc (.cells cs tDA)).heap.size)) s d (wy.alloc (.cells cs tDA)) := by
  subst hcs
  have hba := (Below.refl wy.heap.size wy).alloc (Nat.le_refl _) (.cells (daC q d) tDA)
  have hb2 := hb.trans (hba.mono hb.size)
  exact ⟨hc.add hb2 fun k hk => hk, ⟨q, lv, heap_alloc_new wy _, (hd.bel hba).to fun k hk hx => .inr ⟨hx, hk⟩⟩, .inr ⟨hb.size, by simp⟩, Nat.le_trans hc.be.size hb.size⟩
end
end Go.Proofs.Ytmdajndmobpgbaa

namespace Go.Proofs.Ytmdajndmobpgbaa
open Go.RowKit
open Go.Proofs.Ytmdajndmobpgbaa.Fq
open Go.Proofs.Ytmdajndmobpgbaa.Bk

/-- One step of a script. -/
def PlayR (x0 x2 x3 x4 now : Int) (s s' : AS) : Prop :=
  if x0 % 9 = 4 ∨ x0 % 9 = 5 then ∃ s1 o a, SLoop now s [] [] s1 o a ∧ s' = s1.back
  else if x0 % 9 = 6 then s' = finS s x3
  else if x0 % 9 = 7 then (¬ s.has x3 ∧ s' = s) ∨ ∃ t i, AFind s x3 (some (t, i)) ∧ s' = canS s t i
  else if x0 % 9 = 8 then s' = s
  else s' = subS s x2 x3 x4
def nowY (Y : Nat → Nat → Int) : Nat → Int
  | 0 => 0
  | k + 1 => nowY Y k + Y k 1
/-- The first k steps. -/
def PlaysR (Y : Nat → Nat → Int) (s0 : AS) : Nat → AS → Prop
  | 0, s => s = s0
  | k + 1, s => ∃ s', PlaysR Y s0 k s' ∧ PlayR (Y k 0) (Y k 2) (Y k 3) (Y k 4) (nowY Y (k + 1)) s' s
/-- The script, a Start, and another one if a slot is free. -/
def FinR (Y : Nat → Nat → Int) (n : Nat) (s0 s : AS) : Prop :=
  ∃ sp s1 o a, PlaysR Y s0 n sp ∧ SLoop (nowY Y n) sp [] [] s1 o a ∧ ((¬ (s1.run.length : Int) < s0.slots ∧ s = s1.back) ∨ ((s1.run.length : Int) < s0.slots ∧ ∃ s2 o2 a2, SLoop (nowY Y n) s1.back [] [] s2 o2 a2 ∧ s = s2.back))
section
variable {s s0 s' s1 s2 : AS} {x0 x2 x3 x4 now : Int} {Y : Nat → Nat → Int}
theorem nowY_bd {n : Nat} (h : ∀ i, i < n → 0 ≤ Y i 1 ∧ Y i 1 ≤ 65535) : ∀ k, k ≤ n → 0 ≤ nowY Y k ∧ nowY Y k ≤ 65535 * k
  | 0, _ => by simp [nowY]
  | k + 1, hk => by
    have h1 := nowY_bd h k (by omega)
    have h2 := h k (by omega)
    simp only [nowY]; omega
theorem PlayR.ok (h : PlayR x0 x2 x3 x4 now s s') (ok : AOk s) : AOk s' ∧ s'.slots = s.slots ∧ s'.sh = s.sh := by
  unfold PlayR at h
  split at h
  · obtain ⟨s1, o, a, hl, rfl⟩ := h
    obtain ⟨_, _, _, hsh, hsl⟩ := hl.facts
    exact ⟨(hl.ok' ok).back, hsl, hsh⟩
  · split at h
    · subst h
      refine ⟨ok.finS x3, ?_⟩
      unfold finS
      split <;> exact ⟨rfl, rfl⟩
    · split at h
      · rcases h with ⟨_, rfl⟩ | ⟨t, i, hf, rfl⟩
        · exact ⟨ok, rfl, rfl⟩
        · exact ⟨ok.canS hf.1, rfl, rfl⟩
      · split at h
        · subst h; exact ⟨ok, rfl, rfl⟩
        · subst h
          refine ⟨ok.subS x2 x3 x4, ?_⟩
          unfold subS
          split <;> exact ⟨rfl, rfl⟩
theorem PlayR.det (h : PlayR x0 x2 x3 x4 now s s1) (ok : AOk s) (h2 : PlayR x0 x2 x3 x4 now s s2) : s1 = s2 := by
  unfold PlayR at h h2
  split at h
  · rename_i hc
    rw [if_pos hc] at h2
    obtain ⟨t1, o, a, hl, rfl⟩ := h
    obtain ⟨t2, o2, a2, hl2, rfl⟩ := h2
    rw [(hl.det ok hl2).1]
  · rename_i hc
    rw [if_neg hc] at h2
    split at h
    · rename_i hc; rw [if_pos hc] at h2; rw [h, h2]
    · rename_i hc
      rw [if_neg hc] at h2
      split at h
      · rename_i hc
        rw [if_pos hc] at h2
        rcases h with ⟨hn, rfl⟩ | ⟨t, i, hf, rfl⟩
        · rcases h2 with ⟨_, rfl⟩ | ⟨t, i, hf, _⟩
          · rfl
          · exact absurd (afind_has hf) hn
        · rcases h2 with ⟨hn, _⟩ | ⟨t', i', hf', rfl⟩
          · exact absurd (afind_has hf) hn
          · obtain ⟨rfl, rfl⟩ := hf.det hf'
            rfl
      · rename_i hc
        rw [if_neg hc] at h2
        split at h
        · rename_i hc; rw [if_pos hc] at h2; rw [h, h2]
        · rename_i hc; rw [if_neg hc] at h2; rw [h, h2]
theorem PlaysR.ok (ok : AOk s0) : ∀ k s, PlaysR Y s0 k s → AOk s ∧ s.slots = s0.slots ∧ s.sh = s0.sh
  | 0, s, h => by
    obtain rfl : s = s0 := h
    exact ⟨ok, rfl, rfl⟩
  | k + 1, s, h => by
    obtain ⟨s', h1, h2⟩ := h
    obtain ⟨i1, i2, i3⟩ := PlaysR.ok ok k s' h1
    obtain ⟨j1, j2, j3⟩ := h2.ok i1
    exact ⟨j1, j2.trans i2, j3.trans i3⟩
theorem PlaysR.det (ok : AOk s0) : ∀ k s1 s2, PlaysR Y s0 k s1 → PlaysR Y s0 k s2 → s1 = s2
  | 0, s1, s2, h, h2 => by
    have h : s1 = s0 := h
    have h2 : s2 = s0 := h2
    rw [h, h2]
  | k + 1, s1, s2, h, h2 => by
    obtain ⟨a, ha, h⟩ := h
    obtain ⟨b, hb, h2⟩ := h2
    obtain rfl := PlaysR.det ok k a b ha hb
    exact h.det (PlaysR.ok ok k a ha).1 h2
theorem FinR.det (ok : AOk s0) {n : Nat} (h : FinR Y n s0 s1) (h2 : FinR Y n s0 s2) : s1 = s2 := by
  obtain ⟨sp, t1, o, a, hp, hl, hc⟩ := h
  obtain ⟨sp', t1', o', a', hp', hl', hc'⟩ := h2
  obtain rfl := PlaysR.det ok n sp sp' hp hp'
  have hok := (PlaysR.ok ok n sp hp).1
  obtain ⟨rfl, _, _⟩ := hl.det hok hl'
  rcases hc with ⟨hn, rfl⟩ | ⟨hn, t2, o2, a2, hl2, rfl⟩
  · rcases hc' with ⟨_, rfl⟩ | ⟨hn', _⟩
    · rfl
    · exact absurd hn' hn
  · rcases hc' with ⟨hn', _⟩ | ⟨_, t3, o3, a3, hl3, rfl⟩
    · exact absurd hn hn'
    · rw [(hl2.det (hl.ok' hok).back hl3).1]
/-- The second Start, if a slot is free, starts nothing. -/
theorem second {now : Int} {sp s1 s2 : AS} {o o2 : List Int} {a a2 : List Nat} (ok : AOk sp) (h : SLoop now sp [] [] s1 o a) (hr : (s1.run.length : Int) < s1.slots) (h2 : SLoop now s1.back [] [] s2 o2 a2) : o2 = [] :=
  h2.noneAt (h.ok' ok).back (h.noneAfter ok hr)
/-- What holds at the end: with a slot free no tenant has the tokens. -/
theorem FinR.out (ok : AOk s0) {n : Nat} (h : FinR Y n s0 s) : AOk s ∧ s.slots = s0.slots ∧ s.sh = s0.sh ∧ ((s.run.length : Int) < s0.slots → NoneAt s (nowY Y n)) := by
  obtain ⟨sp, t1, o, a, hp, hl, hc⟩ := h
  obtain ⟨h1, h2, h3⟩ := PlaysR.ok ok n sp hp
  obtain ⟨_, _, hr, hsh, hsl⟩ := hl.facts
  have hb := (hl.ok' h1).back
  rcases hc with ⟨hn, rfl⟩ | ⟨hn, t2, o2, a2, hl2, rfl⟩
  · exact ⟨hb, hsl.trans h2, hsh.trans h3, fun hr => absurd hr hn⟩
  · obtain ⟨_, _, hr2, hsh2, hsl2⟩ := hl2.facts
    have e1 : t1.back.slots = s0.slots := hsl.trans h2
    exact ⟨(hl2.ok' hb).back, hsl2.trans e1, hsh2.trans (hsh.trans h3), fun hr => hl2.noneAfter hb (by rw [hsl2, e1]; exact hr)⟩
/-- The statement's end: When tells nothing. -/
theorem when_none (ok : AOk s) {now : Int} (hn0 : 0 ≤ now) (hn1 : now ≤ 1099511627776) (hw : wBest s now s.m = none) {s1 : AS} {o : List Int} {a : List Nat} (h : SLoop 1099511627776 s [] [] s1 o a) : o = [] :=
  h.noneAt ok fun t ht hq => wBest_none_at ok hn0 hn1 s.m (Nat.le_refl _) hw t ht hq _ (Int.le_refl _)
/-- It tells a reading. -/
theorem when_some (ok : AOk s) {now x : Int} (hn0 : 0 ≤ now) (hn1 : now ≤ 1099511627776) (hw : wBest s now s.m = some x) (hN : NoneAt s now) (hr : (s.run.length : Int) < s.slots) :
    now < x ∧ (∀ y, now ≤ y → y < x → ∀ s1 o a, SLoop y s [] [] s1 o a → o = []) ∧ ∀ s1 o a, SLoop x s [] [] s1 o a → 0 < o.length := by
  obtain ⟨⟨t, ht, hq, htk⟩, h2, h3, h4⟩ := wBest_some ok hn0 hn1 s.m (Nat.le_refl _) x hw
  refine ⟨?_, fun y hy1 hy2 s1 o a h => h.noneAt ok fun i hi hqi => h4 i hi hqi y hy1 hy2, fun s1 o a h => by simpa using h.some ok hr t ht (by simp) hq htk⟩
  rcases Int.lt_or_eq_of_le h3 with h | h
  · exact h
  · subst h
    have := hN t ht hq
    rw [htk] at this; cases this
end
end Go.Proofs.Ytmdajndmobpgbaa

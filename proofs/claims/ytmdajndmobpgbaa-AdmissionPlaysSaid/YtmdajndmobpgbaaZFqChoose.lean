/- How the round moves: choose. Conditions: the queue lies in memory as 'FqAt' says, and its numbers are in their bounds ('Gd'). -/
import Derived.Test.YtmdajndmobpgbaaZFqFind
import Derived.Deep.LoopGhost
namespace Go.Proofs.Ytmdajndmobpgbaa
open Go.RowKit
open Go.Proofs.Ytmdajndmobpgbaa.Fq

section
variable {w w' : World} {b bq cq bd cd bl : Nat} {xt : List Value} {vals : List Value} {s : FQ}
theorem FqAt.b_bd (h : FqAt w b bq cq bd cd xt bl vals s) : b ≠ bd := fun e => by have h1 := h.hb; rw [e, h.hd] at h1; simp at h1
theorem FqAt.b_bl (h : FqAt w b bq cq bd cd xt bl vals s) : b ≠ bl := fun e => by have h1 := h.hb; rw [e, h.hl] at h1; simp at h1
theorem FqAt.bd_bl (h : FqAt w b bq cq bd cd xt bl vals s) : bd ≠ bl := fun e => by have h1 := h.hd; rw [e, h.hl] at h1; simp at h1
theorem FqAt.b_bq (h : FqAt w b bq cq bd cd xt bl vals s) : b ≠ bq := fun e => by
  obtain ⟨cur, hc⟩ := h.hq.elem bq rfl
  have h1 := h.hb; rw [e, hc] at h1; simp at h1
theorem FqAt.bq_bl (h : FqAt w b bq cq bd cd xt bl vals s) : bq ≠ bl := fun e => by
  obtain ⟨cur, hc⟩ := h.hq.elem bq rfl
  have h1 := h.hl; rw [← e, hc] at h1; simp at h1
theorem FqAt.row_ne (h : FqAt w b bq cq bd cd xt bl vals s) {t g : Nat} (hg : (qv vals t).ownBlock = some g) : g ≠ b ∧ g ≠ bq ∧ g ≠ bd ∧ g ≠ bl := by
  obtain ⟨cur, hc⟩ := (h.hls t (by rw [← h.lv]; exact qv_lt hg)).elem g hg
  refine ⟨fun e => ?_, fun e => ?_, fun e => ?_, fun e => ?_⟩
  · have h1 := h.hb; rw [← e, hc] at h1; simp at h1
  · obtain ⟨cur', hc'⟩ := h.hq.elem bq rfl
    rw [← e, hc] at hc'; simp at hc'
  · have h1 := h.hd; rw [← e, hc] at h1; simp at h1
  · have h1 := h.hl; rw [← e, hc] at h1; simp at h1
theorem FqAt.drewN (h : FqAt w b bq cq bd cd xt bl vals s) (n : Nat) : FqAt (w.drewN n) b bq cq bd cd xt bl vals s := h.same fun _ _ => rfl
theorem FqAt.drew (h : FqAt w b bq cq bd cd xt bl vals s) : FqAt w.drew b bq cq bd cd xt bl vals s := h.same fun _ _ => rfl
theorem FqAt.setDef (h : FqAt w b bq cq bd cd xt bl vals s) (t : Nat) (ht : t < s.m) (x : Int) : FqAt (w.setCell ⟨bd, t, none⟩ (.int .i64 x)) b bq cq bd cd xt bl vals { s with defs := s.defs.set t x } := by
  have ot : ∀ k, k ≠ bd → (w.setCell ⟨bd, t, none⟩ (.int .i64 x)).heap[k]? = w.heap[k]? := fun k hk => Below.heap_setCell _ _ _ _ hk
  exact {
    hb := (ot b h.b_bd).trans h.hb
    hq := h.hq.heap fun g hg => ot g (by simp [Value.ownBlock] at hg; subst hg; exact h.ne)
    hd := by
      have := setCell_heap_self (o := t) (u := Value.int .i64 x) h.hd
      show _ = some (Obj.cells (ints (s.defs.set t x) ++ xt).toArray 3 (0, 0))
      rw [ints_set, ← List.set_append_left _ _ (by rw [ints_len, h.ld]; exact ht), ← List.setIfInBounds_toArray]; exact this
    hl := (ot bl h.bd_bl.symm).trans h.hl
    hls := fun t' ht => (h.hls t' ht).heap fun g hg => ot g (h.row_ne hg).2.2.1
    lq := h.lq
    ld := by show (s.defs.set t x).length = _; rw [List.length_set]; exact h.ld
    lv := h.lv, ne := h.ne, ap := h.ap }
theorem FqAt.setB (h : FqAt w b bq cq bd cd xt bl vals s) (i : Nat) (u : Value) (s' : FQ) (hl : s'.lists = s.lists) (hq : s'.quanta = s.quanta) (hd : s'.defs = s.defs)
    (hc : (#[Value.slice (some ⟨bq, 0, none⟩) s.m cq, .slice (some ⟨bd, 0, none⟩) s.m cd, .slice (some ⟨bl, 0, none⟩) s.m s.m, .int .i64 s.cur, .bool s.begun] : Array Value).setIfInBounds i u =
      #[.slice (some ⟨bq, 0, none⟩) s'.m cq, .slice (some ⟨bd, 0, none⟩) s'.m cd, .slice (some ⟨bl, 0, none⟩) s'.m s'.m, .int .i64 s'.cur, .bool s'.begun]) :
    FqAt (w.setCell ⟨b, i, none⟩ u) b bq cq bd cd xt bl vals s' := by
  have hm : s'.m = s.m := by unfold FQ.m; rw [hl]
  have ot : ∀ k, k ≠ b → (w.setCell ⟨b, i, none⟩ u).heap[k]? = w.heap[k]? := fun k hk => Below.heap_setCell _ _ _ _ hk
  exact {
    hb := by rw [setCell_heap_self h.hb, hc]
    hq := by rw [hm, hq]; exact h.hq.heap fun g hg => ot g (by simp [Value.ownBlock] at hg; subst hg; exact h.b_bq.symm)
    hd := by rw [hd]; exact (ot bd h.b_bd.symm).trans h.hd
    hl := (ot bl h.b_bl.symm).trans h.hl
    hls := fun t' ht => by
      have e : s'.lst t' = s.lst t' := by unfold FQ.lst; rw [hl]
      rw [e]; exact (h.hls t' (by rw [← hm]; exact ht)).heap fun g hg => ot g (h.row_ne hg).1
    lq := by rw [hq, hm]; exact h.lq
    ld := by rw [hd, hm]; exact h.ld
    lv := by rw [hm]; exact h.lv
    ne := h.ne, ap := h.ap }
theorem FqAt.setCur (h : FqAt w b bq cq bd cd xt bl vals s) (k : Nat) : FqAt (w.setCell ⟨b, 3, none⟩ (.int .i64 k)) b bq cq bd cd xt bl vals { s with cur := k } := h.setB 3 _ _ rfl rfl rfl rfl
theorem FqAt.setBegun (h : FqAt w b bq cq bd cd xt bl vals s) (x : Bool) : FqAt (w.setCell ⟨b, 4, none⟩ (.bool x)) b bq cq bd cd xt bl vals { s with begun := x } := h.setB 4 _ _ rfl rfl rfl rfl
end

def ChooseNone (w : World) (e : Ending) (w' : World) : Prop := e = .returned (.bool false) ∧ ∃ n, w' = w.drewN n
set_option maxHeartbeats 400000 in
theorem choose_none {b bq cq bd cd bl : Nat} {xt : List Value} {vals : List Value} {s : FQ} (w : World) (h : FqAt w b bq cq bd cd xt bl vals s) (g : Gd s) (ha : anyB s = false) :
    Calls Try.prog 66 #[.pointer (some ⟨b, 0, none⟩)] w (ChooseNone w) := by
  have c2 := h.c2
  have ca := any_any w h g.m2
  rw [ha] at ca
  have CA := Lib.hid ca
  clear ca ha
  go_enter Try.func66, Try.ntmps66
  go_wp2_with fail
  refine CA.out.mono ?_
  rintro e w' ⟨rfl, n, rfl⟩
  go_wp2
  go_ret
  exact ⟨rfl, n, rfl⟩

def ChooseSome (b bq cq bd cd : Nat) (xt : List Value) (bl : Nat) (vals : List Value) (s : FQ) (w : World) (e : Ending) (w' : World) : Prop :=
  e = .returned (.bool true) ∧ ∃ s', Chs s s' ∧ FqAt w' b bq cq bd cd xt bl vals s' ∧ Only (fun k => k = b ∨ k = bd) w w'
/-- What holds at the head of a round: the state s1, from which the choice is that from s. -/
structure ChInv (b bq cq bd cd : Nat) (xt : List Value) (bl : Nat) (vals : List Value) (s s1 : FQ) (t0 : Nat) (w wr : World) : Prop where
  at_ : FqAt wr b bq cq bd cd xt bl vals s1
  gd : Gd s1
  on : Only (fun k => k = b ∨ k = bd) w wr
  ch : ∀ s', Chs s1 s' → Chs s s'
  t0m : t0 < s1.m
  t0n : s1.lst t0 ≠ []

section
variable {b bq cq bd cd bl : Nat} {xt : List Value} {vals : List Value} {s s1 : FQ} {t0 : Nat} {w wr w2 : World}
/-- The round goes on. -/
theorem ch_go (hI : ChInv b bq cq bd cd xt bl vals s s1 t0 w wr) (hw : FqAt w2 b bq cq bd cd xt bl vals s1.visit) (on : Only (fun k => k = b ∨ k = bd) w w2) (hn : ¬ s1.visit.stop) :
    ChInv b bq cq bd cd xt bl vals s s1.visit.go t0 w ((w2.setCell ⟨b, 3, none⟩ (.int .i64 (((s1.cur : Nat) + 1 : Int) % (s1.m : Int)))).setCell ⟨b, 4, none⟩ (.bool false)) ∧ mu t0 s1.visit.go < mu t0 s1 := by
  have hg : Gd s1.visit.go := hI.gd.visit.go (by rw [visit_m]; exact visit_small hI.gd hn)
  have e1 : ((s1.cur : Nat) + 1 : Int) % (s1.m : Int) = (((s1.visit.cur + 1) % s1.visit.m : Nat) : Int) := by rw [visit_cur, visit_m]; simp
  refine ⟨⟨?_, hg, (on.setCell (.inl (.inl rfl)) _).setCell (.inl (.inl rfl)) _, fun s' h => hI.ch s' (.go s1 s' hn h), ?_, ?_⟩, mu_go hI.gd hI.t0m hI.t0n hn⟩
  · rw [e1]; exact (hw.setCur _).setBegun false
  · show t0 < s1.visit.m; rw [visit_m]; exact hI.t0m
  · show s1.visit.lst t0 ≠ []; rw [visit_lst]; exact hI.t0n
theorem ch_empty (hI : ChInv b bq cq bd cd xt bl vals s s1 t0 w wr) (hl : s1.lst s1.cur = []) :
    FqAt (wr.setCell ⟨bd, s1.cur, none⟩ (.int .i64 0)) b bq cq bd cd xt bl vals s1.visit ∧ Only (fun k => k = b ∨ k = bd) w (wr.setCell ⟨bd, s1.cur, none⟩ (.int .i64 0)) ∧ ¬ s1.visit.stop := by
  have e : s1.visit = s1.setD 0 := by unfold FQ.visit; rw [if_pos hl]
  refine ⟨by rw [e]; exact hI.at_.setDef _ hI.gd.cur 0, hI.on.setCell (.inl (.inr rfl)) _, ?_⟩
  rintro ⟨x, r, h, _⟩
  rw [visit_lst, visit_cur, hl] at h
  cases h
theorem visit_begun {e : Ent} {r : List Ent} (hl : s1.lst s1.cur = e :: r) (hb : s1.begun = true) : s1.visit = s1 := by
  unfold FQ.visit; rw [if_neg (by rw [hl]; simp), if_pos hb]
theorem visit_fresh {e : Ent} {r : List Ent} (hl : s1.lst s1.cur = e :: r) (hb : s1.begun = false) : s1.visit = { s1.setD (s1.df s1.cur + s1.qn s1.cur) with begun := true } := by
  unfold FQ.visit; rw [if_neg (by rw [hl]; simp), if_neg (by rw [hb]; simp)]
theorem stop_iff {e : Ent} {r : List Ent} (hl : s1.lst s1.cur = e :: r) : s1.visit.stop ↔ e.2 ≤ s1.visit.df s1.cur := by
  constructor
  · rintro ⟨x, r', h, hle⟩
    rw [visit_lst, visit_cur, hl] at h
    cases h
    rw [visit_cur] at hle; exact hle
  · intro h
    exact ⟨e, r, by rw [visit_lst, visit_cur]; exact hl, by rw [visit_cur]; exact h⟩
theorem ch_fresh (hI : ChInv b bq cq bd cd xt bl vals s s1 t0 w wr) {e : Ent} {r : List Ent} (hl : s1.lst s1.cur = e :: r) (hb : s1.begun = false) :
    FqAt ((wr.setCell ⟨b, 4, none⟩ (.bool true)).setCell ⟨bd, s1.cur, none⟩ (.int .i64 (s1.df s1.cur + s1.qn s1.cur))) b bq cq bd cd xt bl vals s1.visit ∧
    Only (fun k => k = b ∨ k = bd) w ((wr.setCell ⟨b, 4, none⟩ (.bool true)).setCell ⟨bd, s1.cur, none⟩ (.int .i64 (s1.df s1.cur + s1.qn s1.cur))) ∧ s1.visit.df s1.cur = s1.df s1.cur + s1.qn s1.cur := by
  refine ⟨?_, (hI.on.setCell (.inl (.inl rfl)) _).setCell (.inl (.inr rfl)) _, ?_⟩
  · rw [visit_fresh hl hb]
    exact (hI.at_.setBegun true).setDef s1.cur hI.gd.cur _
  · rw [visit_fresh hl hb]
    exact setD_df_self hI.gd _
end

set_option maxHeartbeats 2000000 in
theorem choose_some {b bq cq bd cd bl : Nat} {xt : List Value} {vals : List Value} {s : FQ} (w : World) (h : FqAt w b bq cq bd cd xt bl vals s) (g : Gd s) {t0 : Nat} (ht0 : t0 < s.m) (hne : s.lst t0 ≠ []) :
    Calls Try.prog 66 #[.pointer (some ⟨b, 0, none⟩)] w (ChooseSome b bq cq bd cd xt bl vals s w) := by
  have c2 := h.c2
  have ca := any_any w h g.m2
  rw [anyB_true ht0 hne] at ca
  have CA := Lib.hid ca
  have H0 := Lib.hid (show ChInv b bq cq bd cd xt bl vals s s t0 w w from ⟨h, g, Only.refl _ _, fun _ h => h, ht0, hne⟩)
  clear ca hne h g ht0
  go_enter Try.func66, Try.ntmps66
  go_wp2_with fail
  refine CA.out.mono ?_
  rintro e w' ⟨rfl, n, rfl⟩
  clear c2 CA
  go_wp2_with fail
  go_loopg [3] (mu t0 s + 1) (fun k v wr => ∃ s1, ChInv b bq cq bd cd xt bl vals s s1 t0 w wr ∧ mu t0 s1 < k)
  case atStart => exact ⟨s, ⟨H0.out.at_.drewN _, H0.out.gd, H0.out.on.drewN _, H0.out.ch, H0.out.t0m, H0.out.t0n⟩, Nat.lt_succ_self _⟩
  case round =>
    obtain ⟨s1, hI, hmu⟩ := hrel
    have hc := hI.gd.cur
    have c0 := hI.at_.c0
    have c1 := hI.at_.c1
    have c2 := hI.at_.c2
    have c3 := hI.at_.c3
    have c4 := hI.at_.c4
    have cl := hI.at_.cL hc
    have cd := hI.at_.cD hc
    have hf := (hI.at_.hls s1.cur hc).forms
    have zb := has_free hI.at_.hb
    have zd := has_free hI.at_.hd
    have n1 := hI.at_.b_bd
    have m2 := hI.gd.m2
    have HI := Lib.hid hI
    have HMU := Lib.hid hmu
    clear hI hmu H0
    cases hl : s1.lst s1.cur with
    | nil =>
      have HL := Lib.hid hl
      rw [hl] at hf
      clear hl
      rcases hf with ⟨hv, _⟩ | ⟨gg, off, cap, hv, _⟩
      · rw [hv] at cl
        clear hv
        go_wp2
        have R := ch_empty HI.out HL.out
        have G := ch_go HI.out R.1 R.2.1 R.2.2
        go_roundg (mu t0 s1.visit.go + 1)
        case measure => have := HMU.out; have := G.2; omega
        case rel => exact ⟨s1.visit.go, G.1, Nat.lt_succ_self _⟩
      · rw [hv] at cl
        clear hv
        go_wp2
        have R := ch_empty HI.out HL.out
        have G := ch_go HI.out R.1 R.2.1 R.2.2
        go_roundg (mu t0 s1.visit.go + 1)
        case measure => have := HMU.out; have := G.2; omega
        case rel => exact ⟨s1.visit.go, G.1, Nat.lt_succ_self _⟩
    | cons e r =>
      rcases hf with ⟨_, h0⟩ | ⟨gg, off, cap, hv, hcap, _, _⟩
      · rw [hl] at h0; simp at h0
      have hrow := HI.out.at_.row_ne (t := s1.cur) (g := gg) (by rw [hv]; rfl)
      have n2 : gg ≠ b := hrow.1
      have n3 : gg ≠ bd := hrow.2.2.1
      have hcell : wr.cell? ⟨gg, off + 1, none⟩ = some (.int .i64 e.2) := by
        have := HI.out.at_.hls s1.cur hc
        rw [hv] at this
        have h1 := this.cell 1 (by rw [hl]; simp; omega)
        rw [hl] at h1
        exact h1
      have hlen : 1 ≤ (s1.lst s1.cur).length := by rw [hl]; simp
      rw [hv] at cl
      have cQ := HI.out.at_.cQ hc
      have d0 := HI.out.gd.d0 s1.cur hc
      have q1 := HI.out.gd.q1 s1.cur hc
      have d2 := HI.out.gd.d2
      have n4 := HI.out.at_.ne
      have n5 := HI.out.at_.b_bq
      generalize (s1.lst s1.cur).length = nl at cl hlen hcap
      have HL := Lib.hid hl
      clear hl hv hrow
      cases hb : s1.begun with
      | true =>
        have HV := Lib.hid (visit_begun HL.out hb)
        rw [hb] at c4
        clear hb
        by_cases hle : e.2 ≤ s1.df s1.cur
        · have HS := Lib.hid ((stop_iff HL.out).2 (by rw [HV.out]; exact hle))
          go_wp2
          go_quiet (fail)
          go_wp2
          go_ret
          exact ⟨rfl, s1.visit, HI.out.ch _ (.stop s1 HS.out), by rw [HV.out]; exact HI.out.at_.drewN _, HI.out.on.drewN _⟩
        · have HS := Lib.hid (show ¬ s1.visit.stop from fun h => hle (by have := (stop_iff HL.out).1 h; rw [HV.out] at this; exact this))
          go_wp2
          go_quiet (fail)
          go_wp2
          have G := ch_go HI.out (w2 := wr.drewN nq) (by rw [HV.out]; exact HI.out.at_.drewN _) (HI.out.on.drewN _) HS.out
          go_roundg (mu t0 s1.visit.go + 1)
          case measure => have := HMU.out; have := G.2; omega
          case rel => exact ⟨s1.visit.go, G.1, Nat.lt_succ_self _⟩
      | false =>
        have HF := Lib.hid (ch_fresh HI.out HL.out hb)
        have d1 := HI.out.gd.d1 s1.cur hc (.inr hb)
        rw [hb] at c4
        clear hb
        go_wp2
        go_region
        have F := HF.out
        have k1 := F.1.c1
        rw [visit_m] at k1
        have k2 := F.1.cD (t := s1.cur) (by rw [visit_m]; exact hc)
        rw [F.2.2] at k2
        have k3 : ((wr.setCell ⟨b, 4, none⟩ (.bool true)).setCell ⟨bd, s1.cur, none⟩ (.int .i64 (s1.df s1.cur + s1.qn s1.cur))).cell? ⟨gg, off + 1, none⟩ = some (.int .i64 e.2) := by
          rw [World.cell?_of_block (w := wr) (a := ⟨gg, off + 1, none⟩) ((Below.heap_setCell _ _ _ _ n3).trans (Below.heap_setCell _ _ _ _ n2))]; exact hcell
        have z2 := has_free F.1.hb
        have F1 := Lib.hid F
        clear F HF c0 c1 c2 c3 c4 cl cd zb zd hcell cQ
        generalize (wr.setCell ⟨b, 4, none⟩ (.bool true)).setCell ⟨bd, s1.cur, none⟩ (.int .i64 (s1.df s1.cur + s1.qn s1.cur)) = w2 at k1 k2 k3 z2 F1 ⊢
        have k4 := F1.out.1.c2
        rw [visit_m] at k4
        have k5 := F1.out.1.c3
        have k6 := F1.out.1.c4
        by_cases hle : e.2 ≤ s1.df s1.cur + s1.qn s1.cur
        · have HS := Lib.hid ((stop_iff HL.out).2 (by rw [F1.out.2.2]; exact hle))
          go_wp2
          go_quiet (fail)
          go_wp2
          go_ret
          exact ⟨rfl, s1.visit, HI.out.ch _ (.stop s1 HS.out), F1.out.1.drew.drewN _, F1.out.2.1.drew.drewN _⟩
        · have HS := Lib.hid (show ¬ s1.visit.stop from fun h => hle (by have := (stop_iff HL.out).1 h; rw [F1.out.2.2] at this; exact this))
          go_wp2
          go_quiet (fail)
          go_wp2
          have G := ch_go HI.out (w2 := w2.drewN (1 + nq)) (F1.out.1.drewN _) (F1.out.2.1.drewN _) HS.out
          go_roundg (mu t0 s1.visit.go + 1)
          case measure => have := HMU.out; have := G.2; omega
          case rel => exact ⟨s1.visit.go, G.1, Nat.lt_succ_self _⟩
end Go.Proofs.Ytmdajndmobpgbaa

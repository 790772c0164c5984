/- admission: Start. Conditions: the admission lies in memory as 'AdAt' says, and is good. -/
import Derived.Test.YtmdajndmobpgbaaZAdJ
import Derived.Deep.CutBlock
namespace Go.Proofs.Ytmdajndmobpgbaa
open Go.RowKit
open Go.Proofs.Ytmdajndmobpgbaa.Fq
open Go.Proofs.Ytmdajndmobpgbaa.Bk

def lenV : Value → Nat
  | .slice _ n _ => n
  | _ => 0
def tnI (a : List Nat) : List Int := a.map fun (t : Nat) => (t : Int)
theorem tnI_len (a : List Nat) : (tnI a).length = a.length := by simp [tnI]
theorem tnI_snoc (a : List Nat) (t : Nat) : tnI (a ++ [t]) = tnI a ++ [(t : Int)] := by simp [tnI]
/-- In Start's first loop, and behind it. -/
def StR (w : World) (b : Nat) (m : AM) (s : AS) (now : Int) (ov av : Value) (wr : World) : Prop :=
  ∃ s' o a m', StF w b m s' o (tnI a) m' ov av wr ∧ LOk s' a ∧ (∀ s1 o1 a1, SLoop now s' o a s1 o1 a1 → SLoop now s [] [] s1 o1 a1) ∧ o.length ≤ s'.run.length
def StC (w : World) (b : Nat) (m : AM) (s : AS) (now : Int) (ov av : Value) (wr : World) : Prop :=
  ∃ s' o a m', StF w b m s' o (tnI a) m' ov av wr ∧ LOk s' a ∧ SLoop now s [] [] s' o a
def StartP (b : Nat) (m : AM) (s : AS) (now : Int) (w : World) (e : Ending) (w' : World) : Prop :=
  ∃ s1 o a v m', SLoop now s [] [] s1 o a ∧ e = .returned v ∧ IsI w' v o ∧ AdAt w' b m' s1.back ∧ AStep b m w m' w' ∧ (∀ g, v.ownBlock = some g → w.heap.size ≤ g ∧ ¬ Fa b m' g)
theorem nodup_lt {n : Nat} : ∀ {l : List Nat}, l.Nodup → (∀ x ∈ l, x < n) → l.length ≤ n := by
  intro l h1 h2
  have : l ⊆ List.range n := fun x hx => List.mem_range.2 (h2 x hx)
  simpa using h1.length_le_of_subset this
theorem LOk.alen {s : AS} {a : List Nat} (h : LOk s a) : a.length ≤ 16 := by
  have h1 := nodup_lt h.an (fun x hx => (h.am x hx).1)
  have := h.g.m2
  rw [h.lf] at this
  omega
theorem LOk.sub {s : AS} {a : List Nat} (h : LOk s a) {t : Nat} (ht : t < s.m) : ∀ e ∈ s.f.lst t, e ∈ s.q t := fun e he => by
  by_cases ha : t ∈ a
  · rw [(h.am t ha).2] at he; cases he
  · rw [← h.fe t ht ha]; exact he
theorem LOk.flen {s : AS} {a : List Nat} (h : LOk s a) {t : Nat} (ht : t < s.m) : (s.f.lst t).length ≤ 256 := by
  by_cases ha : t ∈ a
  · rw [(h.am t ha).2]; simp
  · rw [h.fe t ht ha]; exact h.len t ht
theorem short_setL {s : AS} {a : List Nat} (h : LOk s a) {c : Nat} {l : List Ent} (hc : c < s.m) (hl : l.length ≤ 256) : (FQ.setL s.f c l).m ≤ 16 ∧ Short (FQ.setL s.f c l) := by
  have hm := setL_m s.f c l
  refine ⟨by rw [hm]; exact h.g.m2, fun t ht => ?_⟩
  rw [hm, h.lf] at ht
  by_cases e : c = t
  · subst e
    rw [setL_lst_self (by rw [h.lf]; exact hc)]
    omega
  · rw [setL_lst_ne e]
    have := h.flen ht
    omega
/-- Entry j of tenant c is cancelled. -/
theorem can_step {s : AS} {a : List Nat} (h : LOk s a) {c j : Nat} (hc : c < s.m) (hj : j < (s.q c).length) {t i : Nat} (hf : FindR (FQ.setL s.f c ((s.q c).drop j)) (s.q c)[j].1 (some (t, i))) :
    FQ.setL (FQ.setL s.f c ((s.q c).drop j)) t (((FQ.setL s.f c ((s.q c).drop j)).lst t).eraseIdx i) = FQ.setL s.f c ((s.q c).drop (j + 1)) := by
  have hcf : c < s.f.m := by rw [h.lf]; exact hc
  have hls := setL_lst_self hcf ((s.q c).drop j)
  have hd : (s.q c).drop j = (s.q c)[j] :: (s.q c).drop (j + 1) := List.drop_eq_getElem_cons hj
  obtain ⟨rfl, rfl⟩ := find_first (f := FQ.setL s.f c ((s.q c).drop j)) (t := c) (by rw [setL_m]; exact hcf) (hls.trans hd) rfl (fun t' ht' hne e' he' => by
    rw [setL_m, h.lf] at ht'
    rw [setL_lst_ne (Ne.symm hne)] at he'
    exact fun e => h.u2 t' c ht' hc hne e' (h.sub ht' e' he') (s.q c)[j] (List.getElem_mem _) e) hf
  rw [hls, hd, List.eraseIdx_cons_zero, setL_setL]
theorem can_has {s : AS} {a : List Nat} (h : LOk s a) {c j : Nat} (hc : c < s.m) (hj : j < (s.q c).length) : hasId (FQ.setL s.f c ((s.q c).drop j)) (s.q c)[j].1 := by
  have hcf : c < s.f.m := by rw [h.lf]; exact hc
  refine ⟨c, by rw [setL_m]; exact hcf, (s.q c)[j], ?_, rfl⟩
  rw [setL_lst_self hcf, List.drop_eq_getElem_cons hj]
  exact List.mem_cons_self
/-- Tenant t is put back. -/
theorem LOk.put {s : AS} {f' : FQ} {t : Nat} {rest : List Nat} (h : LOk (s.setF f') (t :: rest)) : LOk (s.setF (FQ.setL f' t (s.q t))) rest := by
  have ht := (h.am t (by simp)).1
  have hn := List.nodup_cons.1 h.an
  have htf : t < f'.m := by have := h.lf; show t < (s.setF f').f.m; rw [this]; exact ht
  exact { h with
    lf := (setL_m f' t (s.q t)).trans h.lf
    g := h.g.setL htf (fun e he => h.sz t ht e he)
    an := hn.2
    am := fun x hx => by
      have hne : t ≠ x := fun e => hn.1 (e ▸ hx)
      have := h.am x (List.mem_cons_of_mem _ hx)
      exact ⟨this.1, (setL_lst_ne hne _).trans this.2⟩
    fe := fun x hx hnx => by
      by_cases e : t = x
      · subst e; exact setL_lst_self htf _
      · exact (setL_lst_ne e _).trans (h.fe x hx (by rw [List.mem_cons]; rintro (h1 | h1); exact e h1.symm; exact hnx h1)) }
theorem put_cond {s : AS} {f' : FQ} {a : List Nat} (h : LOk (s.setF f') a) {t j : Nat} (ht : t < s.m) (hj : j < (s.q t).length) :
    ¬ hasId (FQ.setL f' t ((s.q t).take j)) (s.q t)[j].1 ∧ Short (FQ.setL f' t ((s.q t).take j)) ∧ (FQ.setL f' t ((s.q t).take j)).m = s.m ∧ (FQ.setL f' t ((s.q t).take j)).lst t = (s.q t).take j ∧
    FQ.setL (FQ.setL f' t ((s.q t).take j)) t ((FQ.setL f' t ((s.q t).take j)).lst t ++ [((s.q t)[j].1, (s.q t)[j].2)]) = FQ.setL f' t ((s.q t).take (j + 1)) := by
  have hlf : f'.m = s.m := h.lf
  have htf : t < f'.m := by rw [hlf]; exact ht
  have hls := setL_lst_self htf ((s.q t).take j)
  refine ⟨?_, ?_, (setL_m _ _ _).trans hlf, hls, ?_⟩
  · rintro ⟨t', ht', e, he, hi⟩
    rw [setL_m, hlf] at ht'
    by_cases e1 : t = t'
    · subst e1
      rw [hls] at he
      obtain ⟨i, hi2, rfl⟩ := List.getElem_of_mem he
      have hil : i < j := by rw [List.length_take] at hi2; omega
      rw [List.getElem_take] at hi
      have hnd := List.pairwise_iff_getElem.1 (h.u1 t ht) i j (by rw [List.length_map]; show i < (s.q t).length; omega) (by rw [List.length_map]; exact hj) hil
      rw [List.getElem_map, List.getElem_map] at hnd
      exact hnd hi
    · rw [setL_lst_ne e1] at he
      exact h.u2 t' t ht' ht (Ne.symm e1) e (h.sub (s := s.setF f') ht' e he) (s.q t)[j] (List.getElem_mem _) hi
  · intro t' ht'
    rw [setL_m, hlf] at ht'
    by_cases e1 : t = t'
    · subst e1
      rw [hls, List.length_take]
      have := h.len t ht
      have : (s.q t).length ≤ 256 := this
      omega
    · rw [setL_lst_ne e1]
      have := h.flen (s := s.setF f') ht'
      have : (f'.lst t').length ≤ 256 := this
      omega
  · rw [hls, setL_setL, List.take_succ_eq_append_getElem hj]
theorem back_of {s : AS} {f' : FQ} (h : LOk (s.setF f') []) (hf : f' = { s.f with lists := f'.lists }) : s.setF f' = s.back := by
  have hl : f'.lists = s.ql := by
    have hlf : f'.m = s.m := h.lf
    have hlq : s.ql.length = s.m := h.lq
    apply List.ext_getElem
    · rw [hlq]; exact hlf
    · intro i h1 h2
      have := h.fe i (by show i < s.m; rw [← hlq]; exact h2) (by simp)
      have e1 : f'.lst i = f'.lists[i] := by unfold FQ.lst; rw [List.getD_eq_getElem?_getD, List.getElem?_eq_getElem h1]; rfl
      have e2 : s.q i = s.ql[i] := by unfold AS.q; rw [List.getD_eq_getElem?_getD, List.getElem?_eq_getElem h2]; rfl
      rw [← e1, ← e2]
      exact this
  rw [hf, hl]
  rfl
set_option maxRecDepth 100000 in
theorem start_nil (now : Int) (w : World) : Calls Try.prog 17 #[.pointer none, .int .i64 now] w fun e w' => e = .returned (.slice none 0 0) ∧ w' = w := by
  go_enter Try.func17, Try.ntmps17
  go_wp2
  go_ret
  exact ⟨rfl, rfl⟩
set_option maxRecDepth 100000 in
set_option maxHeartbeats 3200000 in
theorem a_start {w : World} {b : Nat} {m : AM} {s : AS} (now : Int) (h : AdAt w b m s) (ok : AOk s) : Calls Try.prog 17 #[.pointer (some ⟨b, 0, none⟩), .int .i64 now] w (StartP b m s now w) := by
  have HST := Lib.hid (show StR w b m s now (.slice none 0 0) (.slice none 0 0) w from ⟨s, [], [], m, (show StF w b m s [] [] m _ _ w from StF.start h), ok, fun _ _ _ h => h, Nat.zero_le _⟩)
  clear h ok
  go_enter Try.func17, Try.ntmps17
  go_upto_block 0 with fail
  go_cut [5, 6] (fun ov av wx => StC w b m s now ov av wx)
  case first =>
    go_wp2_with fail
    go_loopw [5, 6] (fun ov av wr => StR w b m s now ov av wr) (fun ov av _ => 600 - (lenV ov + lenV av))
    case atStart => exact HST.out
    case round =>
      clear HST
      obtain ⟨s', o, a, m', hF, hL, hlp, hol⟩ := hrel
      obtain ⟨oao, ocap, hov⟩ := OL.shapeA hF.io
      obtain ⟨aao, acap, hav⟩ := OL.shapeA hF.ia
      rw [tnI_len] at hav
      subst hov hav
      have F0 := Lib.hid hF
      have HLK := Lib.hid hL
      have HLP := Lib.hid hlp
      have hrl : s'.run.length ≤ 256 := by have := hL.rl; have := hL.s1; omega
      have hol2 : o.length ≤ 256 := by omega
      have hal := hL.alen
      have HOL := Lib.hid hol
      obtain ⟨c0, c1, c2, c3, c4, c5⟩ := hF.at_.cells
      obtain ⟨rao, rcap, hvr, _⟩ := hF.at_.hr.form
      rw [hvr] at c5
      have HVR := Lib.hid hvr
      clear hF hL hlp hvr hol
      by_cases hfull : (s'.run.length : Int) < s'.slots
      · have d0 : decide ((s'.run.length : Int) < s'.slots) = true := decide_eq_true hfull
        have HFU := Lib.hid hfull
        go_wp2_with fail
        go_quiet (fail)
        have F1 := Lib.hid (fun n => F0.out.below (below_draw wr.heap.size wr n))
        clear c0 c1 c2 c3 c4 c5
        by_cases ha : anyB s'.f = true
        · obtain ⟨t0, ht0, hne⟩ := anyB_ex ha
          have c3 := fun n => (F1.out n).at_.cells.2.2.2.1
          have CP := Lib.hid (fun n => peek_some (wr.drewN n) (F1.out n).at_.hf HLK.out.g ht0 hne)
          clear ha ht0 hne
          have c3 := (F0.out).at_.cells.2.2.2.1
          go_wp2_with fail
          refine (CP.out _).mono ?_
          rintro e w2 ⟨f1, en, r, hch, hln, rfl, hb2⟩
          have F2 := Lib.hid ((F1.out _).below hb2)
          obtain ⟨hcm, hca, hcq, hcf⟩ := HLK.out.cur hch hln
          have HCH := Lib.hid (And.intro hch (And.intro hln (And.intro hca (And.intro hcq hcf))))
          clear CP F1 hb2 hch hln hca c3
          have hm16 : s'.m ≤ 16 := by rw [← HLK.out.lf]; exact HLK.out.g.m2
          have hlen := HLK.out.len f1.cur hcm
          obtain ⟨gb, ob, cb, hvb, _, _, _⟩ := OL.form F2.out.at_.hp (by omega)
          have c1 := F2.out.at_.cells.2.1
          rw [hvb] at c1
          have hcb := F2.out.at_.cb hcm hvb rfl
          have HVB := Lib.hid hvb
          have HSS := Lib.hid (And.intro c1 hcb)
          have CPR := Lib.hid (price_any (F2.out.below (below_drew _ w2)).at_ hcm hm16 hcq (by omega))
          have CT : Hid (∀ w3, AdAt w3 b m' s' → Calls Try.prog 43 #[.pointer (some ⟨m'.bkb.getD f1.cur 0, 0, none⟩), .int .i64 now, .int .i64 (priceOf s' f1.cur)] w3 fun e w' => e = .returned (.bool (s'.takes f1.cur now)) ∧ IsBk w' (m'.bkb.getD f1.cur 0) (s'.shr f1.cur).b (s'.shr f1.cur).t (s'.shr f1.cur).k (takeP (s'.shr f1.cur).b (s'.shr f1.cur).t (s'.shr f1.cur).k (s'.bkt f1.cur).1 (s'.bkt f1.cur).2 now (priceOf s' f1.cur)) (takeL (s'.bkt f1.cur).2 now (priceOf s' f1.cur)) ∧ w3.grownBy w' (some (m'.bkb.getD f1.cur 0))) := Lib.hid (fun w3 hA => take_any (m'.bkb.getD f1.cur 0) _ _ _ _ _ now (priceOf s' f1.cur) w3 (hA.hk f1.cur hcm) (HLK.out.bok f1.cur hcm))
          have HBB := Lib.hid (F2.out.at_.bk_in hcm)
          clear hvb hcq hcf
          obtain ⟨bb, hbb⟩ : ∃ bb, m'.bkb.getD f1.cur 0 = bb := ⟨_, rfl⟩
          have HBE := Lib.hid hbb
          rw [hbb] at hcb HSS CT HBB
          clear hbb
          have tI : (f1.cur : Int) < (s'.m : Int) := by omega
          have tI0 : (0 : Int) ≤ (f1.cur : Int) := by omega
          obtain ⟨p, hp⟩ : ∃ p, priceOf s' f1.cur = p := ⟨_, rfl⟩
          have HPR := Lib.hid hp
          rw [hp] at CPR CT
          clear hp
          go_upto_region 7 with fail
          clear c1 hcb
          refine wp_region_held_drew (S := (fun w' : World => w'.cell? ⟨b, 1, none⟩ = some (.slice (some ⟨gb, ob, none⟩) s'.m cb) ∧ w'.cell? ⟨gb, ob + f1.cur, none⟩ = some (.pointer (some ⟨bb, 0, none⟩)))) (by kernel_rfl) (HSS.out) (fun hH => ?_)
          refine wpAnyH_take (i := 0) (v := ?_) rfl (by kernel_rfl) (by kernel_rfl) (by kernel_rfl) (fun _ _ _ h => h) (Or.inl ⟨by rfl, ?_⟩) hH ?_
          rotate_left
          · intro w hSw
            go_simp
            with_reducible rfl
          try simp only [List.getElem_toArray, List.getElem_cons_zero, Act.put, List.setIfInBounds_toArray, List.set_cons_zero, List.set_cons_succ]
          refine wpAnyH_take (i := 1) (v := ?_) rfl (by kernel_rfl) (by kernel_rfl) (by kernel_rfl) (fun _ _ _ h => h) (Or.inl ⟨by rfl, ?_⟩) hH ?_
          rotate_left
          · intro w hSw
            go_simp
            with_reducible rfl
          try simp only [List.getElem_toArray, List.getElem_cons_succ, List.getElem_cons_zero, Act.put, List.setIfInBounds_toArray, List.set_cons_zero, List.set_cons_succ]
          refine wpAnyH_take (i := 2) (v := ?_) rfl (by kernel_rfl) (by kernel_rfl) (by kernel_rfl) (fun _ _ _ h => h) (Or.inl ⟨by rfl, ?_⟩) hH ?_
          rotate_left
          · intro w hSw
            go_simp
            with_reducible rfl
          try simp only [List.getElem_toArray, List.getElem_cons_succ, List.getElem_cons_zero, Act.put, List.setIfInBounds_toArray, List.set_cons_zero, List.set_cons_succ]
          refine wpAnyH_take (i := 3) (v := ?_) rfl (by kernel_rfl) (by kernel_rfl) (by kernel_rfl) (fun _ _ _ h => h) (Or.inl ⟨by rfl, ?_⟩) hH ?_
          rotate_left
          · intro w hSw
            go_simp
            with_reducible rfl
          try simp only [List.getElem_toArray, List.getElem_cons_succ, List.getElem_cons_zero, Act.put, List.setIfInBounds_toArray, List.set_cons_zero, List.set_cons_succ]
          refine wpAnyH_take (i := 4) (v := ?_) rfl (by kernel_rfl) (by kernel_rfl) (by kernel_rfl) (fun _ _ _ h => h) (Or.inl ⟨by rfl, ?_⟩) hH ?_
          rotate_left
          · intro w hSw
            go_simp
            with_reducible rfl
          try simp only [List.getElem_toArray, List.getElem_cons_succ, List.getElem_cons_zero, Act.put, List.setIfInBounds_toArray, List.set_cons_zero, List.set_cons_succ]
          refine wpAnyH_take (i := 5) (v := ?_) rfl (by kernel_rfl) (by kernel_rfl) (by kernel_rfl) (fun _ _ _ h => h) (Or.inl ⟨by rfl, ?_⟩) hH ?_
          rotate_left
          · intro w hSw
            go_simp
            with_reducible rfl
          try simp only [List.getElem_toArray, List.getElem_cons_succ, List.getElem_cons_zero, Act.put, List.setIfInBounds_toArray, List.set_cons_zero, List.set_cons_succ]
          refine wpAnyH_take (i := 6) (v := ?_) rfl (by kernel_rfl) (by kernel_rfl) (by kernel_rfl) (fun _ _ _ h => h) (Or.inl ⟨by rfl, ?_⟩) hH ?_
          rotate_left
          · intro w hSw
            go_simp
            with_reducible rfl
          try simp only [List.getElem_toArray, List.getElem_cons_succ, List.getElem_cons_zero, Act.put, List.setIfInBounds_toArray, List.set_cons_zero, List.set_cons_succ]
          refine wpAnyH_take (i := 7) (v := ?_) rfl (by kernel_rfl) (by kernel_rfl) (by kernel_rfl) (fun _ _ _ h => h) (Or.inl ⟨by rfl, ?_⟩) hH ?_
          rotate_left
          · intro w hSw
            go_simp
            with_reducible rfl
          try simp only [List.getElem_toArray, List.getElem_cons_succ, List.getElem_cons_zero, Act.put, List.setIfInBounds_toArray, List.set_cons_zero, List.set_cons_succ]
          refine wpAnyH_take (i := 8) (v := ?_) rfl (by kernel_rfl) (by kernel_rfl) (by kernel_rfl) (fun _ _ _ h => h) (Or.inl ⟨by rfl, ?_⟩) hH ?_
          rotate_left
          · intro w hSw
            go_simp
            with_reducible rfl
          try simp only [List.getElem_toArray, List.getElem_cons_succ, List.getElem_cons_zero, Act.put, List.setIfInBounds_toArray, List.set_cons_zero, List.set_cons_succ]
          refine wpAnyH_take (i := 9) (v := ?_) rfl (by kernel_rfl) (by kernel_rfl) (by kernel_rfl) (fun _ _ _ h => h) (Or.inl ⟨by rfl, ?_⟩) hH ?_
          rotate_left
          · intro w hSw
            go_simp
            with_reducible rfl
          try simp only [List.getElem_toArray, List.getElem_cons_succ, List.getElem_cons_zero, Act.put, List.setIfInBounds_toArray, List.set_cons_zero, List.set_cons_succ]
          refine wpAnyH_ready (rs := [10]) (by kernel_rfl) (by simp) ?_
          refine AllReadyH.cons rfl (fun K hK => ?_) AllReadyH.nil
          go_simp
          refine CPR.out.mono ?_
          rintro e w3 ⟨rfl, n3, rfl⟩
          go_simp
          have F3 := Lib.hid (F2.out.below (below_draw _ w2 (1 + n3)))
          refine hK.out _ _ HSS.out (fun hH3 => ?_)
          clear hK K CPR
          refine wpAnyH_ready (rs := [11]) (by kernel_rfl) (by simp) ?_
          refine AllReadyH.cons rfl (fun K hK => ?_) AllReadyH.nil
          go_simp
          refine (CT.out _ F3.out.at_).mono ?_
          rintro e w4 ⟨rfl, hk4, hg4⟩
          go_simp
          have F4 : Hid (StF w b m (s'.took f1.cur now) o (tnI a) m' (.slice oao o.length ocap) (.slice aao a.length acap) w4) := Lib.hid (by
            rw [← HPR.out] at hk4
            rw [← HBE.out] at hk4 hg4
            exact F3.out.step (F3.out.at_.buck hcm hg4 hk4) (F3.out.at_.buck_step hcm hg4))
          have hH4 : w4.cell? ⟨b, 1, none⟩ = some (.slice (some ⟨gb, ob, none⟩) s'.m cb) ∧ w4.cell? ⟨gb, ob + f1.cur, none⟩ = some (.pointer (some ⟨bb, 0, none⟩)) := ⟨by rw [← HVB.out]; exact F4.out.at_.cells.2.1, by rw [← HBE.out]; exact F4.out.at_.cb hcm HVB.out rfl⟩
          refine hK.out _ _ hH4 (fun hH5 => ?_)
          clear hK K hk4 hg4 hH4 CT F2 F3 hH hH3
          refine wpAnyH_take (i := 12) (v := ?_) rfl (by kernel_rfl) (by kernel_rfl) (by kernel_rfl) (fun _ _ _ h => h) (Or.inl ⟨by rfl, ?_⟩) hH5 ?_
          rotate_left
          · intro w hSw
            go_simp
            with_reducible rfl
          try simp only [List.getElem_toArray, List.getElem_cons_succ, List.getElem_cons_zero, Act.put, List.setIfInBounds_toArray, List.set_cons_zero, List.set_cons_succ]
          refine wpAnyH_done (by kernel_rfl) ?_ _
          clear hH5 HBB
          cases htk : s'.takes f1.cur now
          · have HTK := Lib.hid htk
            clear htk
            have c4 : w4.cell? ⟨b, 4, none⟩ = some (.slice (some ⟨m'.bl, 0, none⟩) s'.m s'.m) := F4.out.at_.cells.2.2.2.2.1
            have cq := F4.out.at_.cq hcm
            have hQ := F4.out.at_.hq f1.cur hcm
            obtain ⟨qao, qcap, hvq, hqao, _⟩ := hQ.form
            have hvq : qv m'.vals f1.cur = .slice qao (s'.q f1.cur).length qcap := hvq
            rw [hvq] at cq
            have HVQ := Lib.hid hvq
            have HQA := Lib.hid (show 0 < (s'.q f1.cur).length → ∃ g off, qao = some ⟨g, off, none⟩ from hqao)
            have HF0 : Hid (StF w b m ((s'.took f1.cur now).setF (FQ.setL s'.f f1.cur ((s'.q f1.cur).drop 0))) o (tnI a) m' (.slice oao o.length ocap) (.slice aao a.length acap) w4) := Lib.hid (by
              have e : FQ.setL s'.f f1.cur ((s'.q f1.cur).drop 0) = s'.f := by rw [List.drop_zero, HCH.out.2.2.2.1, ← HCH.out.2.2.2.2, setL_id]
              rw [e]
              exact F4.out)
            clear hvq hqao hQ F4
            obtain ⟨n, hn⟩ : ∃ n, (s'.q f1.cur).length = n := ⟨_, rfl⟩
            have HN := Lib.hid hn
            rw [hn] at cq hlen HQA HVQ
            clear hn
            go_wp2_with fail
            clear c4 cq
            go_loopw [63] (fun jv wr2 => ∃ (j : Nat) (m3 : AM), j ≤ n ∧ jv = .int .i64 j ∧ (qv m3.vals f1.cur = .slice qao n qcap) ∧ StF w b m ((s'.took f1.cur now).setF (FQ.setL s'.f f1.cur ((s'.q f1.cur).drop j))) o (tnI a) m3 (.slice oao o.length ocap) (.slice aao a.length acap) wr2) (fun jv _ => n - (intOf jv).toNat)
            case atStart => exact ⟨0, m', Nat.zero_le _, rfl, HVQ.out, HF0.out⟩
            case round =>
              clear HF0
              obtain ⟨j, m3, hj, rfl, hv3, hF⟩ := hrel
              have F5 := Lib.hid hF
              have HV3 := Lib.hid hv3
              clear hF hv3
              by_cases hlt : j < n
              · obtain ⟨qg, qo, rfl⟩ := HQA.out (by omega)
                have hQ3 : IsQ wr (qv m3.vals f1.cur) (s'.q f1.cur) := F5.out.at_.hq f1.cur hcm
                rw [HV3.out] at hQ3
                have hjl : j < (s'.q f1.cur).length := by rw [HN.out]; exact hlt
                obtain ⟨e0, e1⟩ := IsQ.at_ hQ3 (q := j) hjl HN.out.symm
                have HCS := Lib.hid (fun t i hf => can_step HLK.out hcm hjl (t := t) (i := i) hf)
                have HCI := Lib.hid (can_has HLK.out hcm hjl)
                obtain ⟨hms, hsh⟩ := short_setL HLK.out hcm (l := (s'.q f1.cur).drop j) (by rw [List.length_drop]; have := HN.out; omega)
                obtain ⟨x, hx⟩ : ∃ x, (s'.q f1.cur)[j] = x := ⟨_, rfl⟩
                rw [hx] at e0 e1 HCS HCI
                have hal : Below wr.heap.size wr (wr.alloc (.cells #[.int .i64 x.1, .int .i64 x.2] 100)) := by go_grown
                have F6 := Lib.hid (F5.out.below hal)
                have HX6 := Lib.hid (heap_alloc_new wr (.cells #[.int .i64 x.1, .int .i64 x.2] 100))
                have CX : Hid (∀ wx, AdAt wx b m3 ((s'.took f1.cur now).setF (FQ.setL s'.f f1.cur ((s'.q f1.cur).drop j))) → Calls Try.prog 41 #[.pointer (some ⟨m3.bf, 0, none⟩), .int .i64 x.1] wx (CanPost m3.bf m3.fbq m3.fcq m3.fbd m3.fcd m3.fxt m3.fbl m3.fvals (FQ.setL s'.f f1.cur ((s'.q f1.cur).drop j)) x.1 wx)) := Lib.hid (fun wx hA => cancel_any x.1 wx hA.hf hms hsh)
                have jI : (j : Int) < (n : Int) := by omega
                have jI0 : (0 : Int) ≤ (j : Int) := by omega
                clear hQ3 hjl hms hsh hx hal
                go_upto_region 11 with fail
                clear e0 e1
                generalize wr.alloc (.cells #[.int .i64 x.1, .int .i64 x.2] 100) = w6 at *
                generalize wr.heap.size = dx at *
                have HS6 : Hid (w6.cell? ⟨b, 3, none⟩ = some (.pointer (some ⟨m3.bf, 0, none⟩)) ∧ w6.cell? ⟨dx, 0, none⟩ = some (.int .i64 x.1)) := Lib.hid ⟨F6.out.at_.cells.2.2.2.1, has_cell HX6.out 0⟩
                refine wp_region_held_drew (S := (fun w' : World => w'.cell? ⟨b, 3, none⟩ = some (.pointer (some ⟨m3.bf, 0, none⟩)) ∧ w'.cell? ⟨dx, 0, none⟩ = some (.int .i64 x.1))) (by kernel_rfl) (HS6.out) (fun hH => ?_)
                refine wpAnyH_take (i := 0) (v := ?_) rfl (by kernel_rfl) (by kernel_rfl) (by kernel_rfl) (fun _ _ _ h => h) (Or.inl ⟨by rfl, ?_⟩) hH ?_
                rotate_left
                · intro w hSw
                  go_simp
                  with_reducible rfl
                try simp only [List.getElem_toArray, List.getElem_cons_zero, Act.put, List.setIfInBounds_toArray, List.set_cons_zero, List.set_cons_succ]
                refine wpAnyH_take (i := 1) (v := ?_) rfl (by kernel_rfl) (by kernel_rfl) (by kernel_rfl) (fun _ _ _ h => h) (Or.inl ⟨by rfl, ?_⟩) hH ?_
                rotate_left
                · intro w hSw
                  go_simp
                  with_reducible rfl
                try simp only [List.getElem_toArray, List.getElem_cons_succ, List.getElem_cons_zero, Act.put, List.setIfInBounds_toArray, List.set_cons_zero, List.set_cons_succ]
                refine wpAnyH_take (i := 2) (v := ?_) rfl (by kernel_rfl) (by kernel_rfl) (by kernel_rfl) (fun _ _ _ h => h) (Or.inl ⟨by rfl, ?_⟩) hH ?_
                rotate_left
                · intro w hSw
                  go_simp
                  with_reducible rfl
                try simp only [List.getElem_toArray, List.getElem_cons_succ, List.getElem_cons_zero, Act.put, List.setIfInBounds_toArray, List.set_cons_zero, List.set_cons_succ]
                refine wpAnyH_take (i := 3) (v := ?_) rfl (by kernel_rfl) (by kernel_rfl) (by kernel_rfl) (fun _ _ _ h => h) (Or.inl ⟨by rfl, ?_⟩) hH ?_
                rotate_left
                · intro w hSw
                  go_simp
                  with_reducible rfl
                try simp only [List.getElem_toArray, List.getElem_cons_succ, List.getElem_cons_zero, Act.put, List.setIfInBounds_toArray, List.set_cons_zero, List.set_cons_succ]
                refine wpAnyH_take (i := 4) (v := ?_) rfl (by kernel_rfl) (by kernel_rfl) (by kernel_rfl) (fun _ _ _ h => h) (Or.inl ⟨by rfl, ?_⟩) hH ?_
                rotate_left
                · intro w hSw
                  go_simp
                  with_reducible rfl
                try simp only [List.getElem_toArray, List.getElem_cons_succ, List.getElem_cons_zero, Act.put, List.setIfInBounds_toArray, List.set_cons_zero, List.set_cons_succ]
                refine wpAnyH_take (i := 5) (v := ?_) rfl (by kernel_rfl) (by kernel_rfl) (by kernel_rfl) (fun _ _ _ h => h) (Or.inl ⟨by rfl, ?_⟩) hH ?_
                rotate_left
                · intro w hSw
                  go_simp
                  with_reducible rfl
                try simp only [List.getElem_toArray, List.getElem_cons_succ, List.getElem_cons_zero, Act.put, List.setIfInBounds_toArray, List.set_cons_zero, List.set_cons_succ]
                refine wpAnyH_ready (rs := [6]) (by kernel_rfl) (by simp) ?_
                refine AllReadyH.cons rfl (fun K hK => ?_) AllReadyH.nil
                go_simp
                have F7 := Lib.hid (F6.out.below (below_drew _ w6))
                have HXL := Lib.hid (show dx < w6.drew.heap.size from lt_of_block HX6.out)
                have HXN : Hid (¬ m3.Fp dx) := Lib.hid (fun hfp => by
                  obtain ⟨cs, ty, hc, hty⟩ := F6.out.at_.hf.fp_type hfp
                  rcases hty with e | e | e | e <;> exact type_ne HX6.out hc (by rw [e]; decide) rfl)
                refine (CX.out _ F7.out.at_).mono ?_
                rintro e w8 (⟨rfl, hno, hb8⟩ | ⟨rfl, t', i', hf', hu⟩)
                · exact absurd HCI.out hno
                · go_simp
                  rw [HCS.out t' i' hf'] at hu
                  obtain ⟨fv, h8, hs8⟩ := F7.out.at_.upd ((setL_m _ _ _).trans (setL_m _ _ _).symm) hu
                  have F8 := Lib.hid (F7.out.step h8 hs8)
                  have hx8 : w8.heap[dx]? = w6.heap[dx]? := by
                    obtain ⟨_, _, _, ho⟩ := hu
                    exact ho.block dx HXL.out HXN.out
                  have hH8 : w8.cell? ⟨b, 3, none⟩ = some (.pointer (some ⟨m3.bf, 0, none⟩)) ∧ w8.cell? ⟨dx, 0, none⟩ = some (.int .i64 x.1) := ⟨h8.cells.2.2.2.1, has_cell (hx8.trans HX6.out) 0⟩
                  refine hK.out _ _ hH8 (fun hH9 => ?_)
                  clear hK K hu h8 hs8 hx8 hH8 hf'
                  refine wpAnyH_done (by kernel_rfl) ?_ _
                  clear hH9 hH CX F6 F7 HX6 HS6
                  go_wp2_with fail
                  go_roundw
                  case rel =>
                    (repeat apply Exists.intro)
                    refine ⟨?_, ?_⟩
                    rotate_left
                    · repeat (first | exact rfl | refine ⟨rfl, ?_⟩)
                    · exact ⟨j + 1, m3.setF fv, by omega, by go_num, HV3.out, F8.out⟩
                  case measure => simp [intOf]; omega
              · obtain rfl : j = n := by omega
                have F6 : Hid (StF w b m (s'.failed f1.cur now) o (tnI a) m3 (.slice oao o.length ocap) (.slice aao a.length acap) wr) := Lib.hid (by
                  have h1 := F5.out
                  rw [← HN.out, List.drop_length] at h1
                  exact h1)
                obtain ⟨ao', cap', w7, hap, hi7, hg7, hown7⟩ := int_append F6.out.ia (by rw [tnI_len]; omega) (f1.cur : Int)
                rw [tnI_len] at hap hi7 hown7
                rw [← tnI_snoc] at hi7
                have F7 := Lib.hid (F6.out.asd hg7 hi7 hown7)
                have HAP := Lib.hid hap
                clear hap hi7 hg7 hown7 F5
                go_wp2_with (refine wpList_append_run (v := .slice aao a.length acap) (xv := .slice (some ⟨wr.heap.size, 0, none⟩) 1 1) rfl (.tmp 75) (.tmp 77) _ _ rfl (by rfl) (by rfl) HAP.out ?_)
                go_wp2_with fail
                go_roundw
                case rel => exact ⟨s'.failed f1.cur now, o, a ++ [f1.cur], m3, F7.out, HLK.out.failed HCH.out.1 HCH.out.2.1 now, fun s1 o1 a1 hs => HLP.out _ _ _ (.fail s' o a f1 en r _ _ _ (by have := HFU.out; omega) HCH.out.1 HCH.out.2.1 HTK.out hs), HOL.out⟩
                case measure => simp [lenV]; omega
          · have HTK := Lib.hid htk
            clear htk
            have CN := Lib.hid (next_some w4 F4.out.at_.hf HLK.out.g (t0 := f1.cur) (show f1.cur < s'.f.m by rw [HLK.out.lf]; exact hcm) (show s'.f.lst f1.cur ≠ [] by rw [HCH.out.2.2.2.2]; simp))
            have c3 : w4.cell? ⟨b, 3, none⟩ = some (.pointer (some ⟨m'.bf, 0, none⟩)) := F4.out.at_.cells.2.2.2.1
            go_wp2_with fail
            refine CN.out.mono ?_
            rintro e w5 ⟨f2, en2, r2, v', hch2, hln2, rfl, hA2, hv2, ho2⟩
            obtain rfl : f1 = f2 := HCH.out.1.det hch2
            obtain ⟨rfl, rfl⟩ : en = en2 ∧ r = r2 := by
              have := HCH.out.2.1.symm.trans hln2
              simp only [List.cons.injEq] at this
              exact this
            have hmf : f1.m = s'.f.m := by
              obtain ⟨_, _, hls, _, _⟩ := HCH.out.1.gd HLK.out.g
              unfold FQ.m
              rw [hls]
            obtain ⟨m3, h5, hs5⟩ := F4.out.at_.next (e := .returned .nilIface) hcm hmf hA2 hv2 ho2
            have F5 := Lib.hid (F4.out.step h5 hs5)
            clear hch2 hln2 hA2 hv2 ho2 hmf h5 hs5 CN c3 F4
            have F5d := Lib.hid (F5.out.below (below_drew _ w5))
            have hQ5 : IsQ w5.drew (qv m3.vals f1.cur) (s'.q f1.cur) := F5d.out.at_.hq f1.cur hcm
            have hqq := HCH.out.2.2.2.1
            obtain ⟨qg, qo, qcap, hvq, hqc, _, _⟩ := OL.form hQ5 (by rw [hqq]; simp)
            have hQ5' : OL w5.drew 100 2 (.slice (some ⟨qg, qo, none⟩) (s'.q f1.cur).length qcap) (s'.q f1.cur).length (entCells (s'.q f1.cur)) := by rw [← hvq]; exact hQ5
            have c4 : w5.cell? ⟨b, 4, none⟩ = some (.slice (some ⟨m3.bl, 0, none⟩) s'.m s'.m) := F5.out.at_.cells.2.2.2.2.1
            have cq : w5.cell? ⟨m3.bl, f1.cur, none⟩ = some (qv m3.vals f1.cur) := F5.out.at_.cq hcm
            rw [hvq] at cq
            have HVQ := Lib.hid hvq
            have hrl2 : (s'.q f1.cur).length = r.length + 1 := by rw [hqq]; simp
            have htl : (s'.q f1.cur).tail = r := by rw [hqq]; rfl
            have HT := Lib.hid (hQ5'.tail 1 (by omega))
            have hdr : (entCells (s'.q f1.cur)).drop (1 * 2) = entCells r := by rw [hqq]; rfl
            rw [hdr] at HT
            have HTL := Lib.hid htl
            have hfz5 := has_free F5.out.at_.hl f1.cur
            clear hQ5 hQ5' hqq hvq hdr htl
            generalize hnl : (s'.q f1.cur).length = nl at *
            have HNL := Lib.hid hnl
            clear hnl
            have nl1 : (1 : Int) ≤ (nl : Int) := by omega
            have nlc : (1 : Int) ≤ (qcap : Int) := by omega
            have HRL := Lib.hid hrl2
            clear hrl2
            have HKEY : Hid (∀ (vA : Option Addr) (na ca : Nat), Value.slice vA na ca = Value.slice (if qcap = 1 then some ⟨qg, qo, none⟩ else some ⟨qg, qo + 1 * 2, none⟩) (nl - 1) (qcap - 1) → StF w b m (((s'.took f1.cur now).setF f1.pop).setQ f1.cur (s'.q f1.cur).tail) o (tnI a) (m3.setV f1.cur (.slice vA na ca)) (.slice oao o.length ocap) (.slice aao a.length acap) (w5.setCell ⟨m3.bl, f1.cur, none⟩ (.slice vA na ca)).drew) := Lib.hid (fun vA na ca e => by
              rw [e]
              have hown : ∀ g, (Value.slice (if qcap = 1 then some ⟨qg, qo, none⟩ else some ⟨qg, qo + 1 * 2, none⟩) (nl - 1) (qcap - 1)).ownBlock = some g → (qv m3.vals f1.cur).ownBlock = some g ∨ w5.drew.heap.size ≤ g := fun g hg => .inl (by
                rw [HVQ.out]
                by_cases h1 : qcap = 1
                · rw [if_pos h1] at hg; exact hg
                · rw [if_neg h1] at hg; exact hg)
              have hQr : IsQ w5.drew (.slice (if qcap = 1 then some ⟨qg, qo, none⟩ else some ⟨qg, qo + 1 * 2, none⟩) (nl - 1) (qcap - 1)) (s'.q f1.cur).tail := by
                have h1 := HT.out
                have h2 : r.length = nl - 1 := by have := HRL.out; omega
                rw [HTL.out]
                show OL _ _ 2 _ r.length _
                rw [h2]
                exact h1
              exact F5d.out.step (F5d.out.at_.row hcm (grownBy_rfl _ _) hQr hown) (F5d.out.at_.row_step hcm (grownBy_rfl _ _) hown))
            have HC5 := Lib.hid (And.intro c4 cq)
            clear HT F5 F5d HTL HRL HVQ
            go_upto_region 16 with fail
            have hH := HC5.out
            clear c4 cq
            by_cases hc1 : qcap = 1
            case' pos =>
              subst hc1
              have n1 : nl = 1 := by omega
              subst n1
              refine AnyZ.start 14 (fun w' : World => w'.cell? ⟨b, 4, none⟩ = some (.slice (some ⟨m3.bl, 0, none⟩) s'.m s'.m) ∧ w'.cell? ⟨m3.bl, f1.cur, none⟩ = some (.slice (some ⟨qg, qo, none⟩) 1 1)) (by kernel_rfl) ?_
              refine AnyZ.take (i := 0) (v := ?_) rfl (by kernel_rfl) (fun _ _ _ h => h) (by rfl) hH ?_ ?_
              rotate_left
              · intro w hSw
                go_simp
                with_reducible rfl
              try simp only [List.getElem_toArray, List.getElem_cons_zero, Act.put, List.setIfInBounds_toArray, List.set_cons_zero, List.set_cons_succ]
              refine AnyZ.take (i := 1) (v := ?_) rfl (by kernel_rfl) (fun _ _ _ h => h) (by rfl) hH ?_ ?_
              rotate_left
              · intro w hSw
                go_simp
                with_reducible rfl
              try simp only [List.getElem_toArray, List.getElem_cons_succ, List.getElem_cons_zero, Act.put, List.setIfInBounds_toArray, List.set_cons_zero, List.set_cons_succ]
              refine AnyZ.take (i := 2) (v := ?_) rfl (by kernel_rfl) (fun _ _ _ h => h) (by rfl) hH ?_ ?_
              rotate_left
              · intro w hSw
                go_simp
                with_reducible rfl
              try simp only [List.getElem_toArray, List.getElem_cons_succ, List.getElem_cons_zero, Act.put, List.setIfInBounds_toArray, List.set_cons_zero, List.set_cons_succ]
              refine AnyZ.take (i := 3) (v := ?_) rfl (by kernel_rfl) (fun _ _ _ h => h) (by rfl) hH ?_ ?_
              rotate_left
              · intro w hSw
                go_simp
                with_reducible rfl
              try simp only [List.getElem_toArray, List.getElem_cons_succ, List.getElem_cons_zero, Act.put, List.setIfInBounds_toArray, List.set_cons_zero, List.set_cons_succ]
              refine AnyZ.take (i := 4) (v := ?_) rfl (by kernel_rfl) (fun _ _ _ h => h) (by rfl) hH ?_ ?_
              rotate_left
              · intro w hSw
                go_simp
                with_reducible rfl
              try simp only [List.getElem_toArray, List.getElem_cons_succ, List.getElem_cons_zero, Act.put, List.setIfInBounds_toArray, List.set_cons_zero, List.set_cons_succ]
              refine AnyZ.take (i := 5) (v := ?_) rfl (by kernel_rfl) (fun _ _ _ h => h) (by rfl) hH ?_ ?_
              rotate_left
              · intro w hSw
                go_simp
                with_reducible rfl
              try simp only [List.getElem_toArray, List.getElem_cons_succ, List.getElem_cons_zero, Act.put, List.setIfInBounds_toArray, List.set_cons_zero, List.set_cons_succ]
              refine AnyZ.take (i := 6) (v := ?_) rfl (by kernel_rfl) (fun _ _ _ h => h) (by rfl) hH ?_ ?_
              rotate_left
              · intro w hSw
                go_simp
                with_reducible rfl
              try simp only [List.getElem_toArray, List.getElem_cons_succ, List.getElem_cons_zero, Act.put, List.setIfInBounds_toArray, List.set_cons_zero, List.set_cons_succ]
              refine AnyZ.take (i := 7) (v := ?_) rfl (by kernel_rfl) (fun _ _ _ h => h) (by rfl) hH ?_ ?_
              rotate_left
              · intro w hSw
                go_simp
                with_reducible rfl
              try simp only [List.getElem_toArray, List.getElem_cons_succ, List.getElem_cons_zero, Act.put, List.setIfInBounds_toArray, List.set_cons_zero, List.set_cons_succ]
              refine AnyZ.take (i := 8) (v := ?_) rfl (by kernel_rfl) (fun _ _ _ h => h) (by rfl) hH ?_ ?_
              rotate_left
              · intro w hSw
                go_simp
                with_reducible rfl
              try simp only [List.getElem_toArray, List.getElem_cons_succ, List.getElem_cons_zero, Act.put, List.setIfInBounds_toArray, List.set_cons_zero, List.set_cons_succ]
              refine AnyZ.take (i := 9) (v := ?_) rfl (by kernel_rfl) (fun _ _ _ h => h) (by rfl) hH ?_ ?_
              rotate_left
              · intro w hSw
                go_simp
                with_reducible rfl
              try simp only [List.getElem_toArray, List.getElem_cons_succ, List.getElem_cons_zero, Act.put, List.setIfInBounds_toArray, List.set_cons_zero, List.set_cons_succ]
              refine AnyZ.take (i := 10) (v := ?_) rfl (by kernel_rfl) (fun _ _ _ h => h) (by rfl) hH ?_ ?_
              rotate_left
              · intro w hSw
                go_simp
                with_reducible rfl
              try simp only [List.getElem_toArray, List.getElem_cons_succ, List.getElem_cons_zero, Act.put, List.setIfInBounds_toArray, List.set_cons_zero, List.set_cons_succ]
              refine AnyZ.take (i := 11) (v := ?_) rfl (by kernel_rfl) (fun _ _ _ h => h) (by rfl) hH ?_ ?_
              rotate_left
              · intro w hSw
                go_simp
                with_reducible rfl
              try simp only [List.getElem_toArray, List.getElem_cons_succ, List.getElem_cons_zero, Act.put, List.setIfInBounds_toArray, List.set_cons_zero, List.set_cons_succ]
              refine AnyZ.take (i := 12) (v := ?_) rfl (by kernel_rfl) (fun _ _ _ h => h) (by rfl) hH ?_ ?_
              rotate_left
              · intro w hSw
                go_simp
                with_reducible rfl
              try simp only [List.getElem_toArray, List.getElem_cons_succ, List.getElem_cons_zero, Act.put, List.setIfInBounds_toArray, List.set_cons_zero, List.set_cons_succ]
              refine AnyZ.take (i := 13) (v := ?_) rfl (by kernel_rfl) (fun _ _ _ h => h) (by rfl) hH ?_ ?_
              rotate_left
              · intro w hSw
                go_simp
                with_reducible rfl
              try simp only [List.getElem_toArray, List.getElem_cons_succ, List.getElem_cons_zero, Act.put, List.setIfInBounds_toArray, List.set_cons_zero, List.set_cons_succ]
              refine AnyZ.one (i := 14) rfl (by kernel_rfl) rfl (fun K hK => ?_)
              go_simp
              refine hK.out _ _ (.inl rfl) ?_
              clear hK K
              refine AnyZ.done (by kernel_rfl) ?_ _
              have F6 := Lib.hid (HKEY.out (some ⟨qg, qo, none⟩) 0 0 (by simp))
              generalize Value.slice (some ⟨qg, qo, none⟩) 0 0 = v9 at *
            case' neg =>
              refine AnyZ.start 14 (fun w' : World => w'.cell? ⟨b, 4, none⟩ = some (.slice (some ⟨m3.bl, 0, none⟩) s'.m s'.m) ∧ w'.cell? ⟨m3.bl, f1.cur, none⟩ = some (.slice (some ⟨qg, qo, none⟩) nl qcap)) (by kernel_rfl) ?_
              refine AnyZ.take (i := 0) (v := ?_) rfl (by kernel_rfl) (fun _ _ _ h => h) (by rfl) hH ?_ ?_
              rotate_left
              · intro w hSw
                go_simp
                with_reducible rfl
              try simp only [List.getElem_toArray, List.getElem_cons_zero, Act.put, List.setIfInBounds_toArray, List.set_cons_zero, List.set_cons_succ]
              refine AnyZ.take (i := 1) (v := ?_) rfl (by kernel_rfl) (fun _ _ _ h => h) (by rfl) hH ?_ ?_
              rotate_left
              · intro w hSw
                go_simp
                with_reducible rfl
              try simp only [List.getElem_toArray, List.getElem_cons_succ, List.getElem_cons_zero, Act.put, List.setIfInBounds_toArray, List.set_cons_zero, List.set_cons_succ]
              refine AnyZ.take (i := 2) (v := ?_) rfl (by kernel_rfl) (fun _ _ _ h => h) (by rfl) hH ?_ ?_
              rotate_left
              · intro w hSw
                go_simp
                with_reducible rfl
              try simp only [List.getElem_toArray, List.getElem_cons_succ, List.getElem_cons_zero, Act.put, List.setIfInBounds_toArray, List.set_cons_zero, List.set_cons_succ]
              refine AnyZ.take (i := 3) (v := ?_) rfl (by kernel_rfl) (fun _ _ _ h => h) (by rfl) hH ?_ ?_
              rotate_left
              · intro w hSw
                go_simp
                with_reducible rfl
              try simp only [List.getElem_toArray, List.getElem_cons_succ, List.getElem_cons_zero, Act.put, List.setIfInBounds_toArray, List.set_cons_zero, List.set_cons_succ]
              refine AnyZ.take (i := 4) (v := ?_) rfl (by kernel_rfl) (fun _ _ _ h => h) (by rfl) hH ?_ ?_
              rotate_left
              · intro w hSw
                go_simp
                with_reducible rfl
              try simp only [List.getElem_toArray, List.getElem_cons_succ, List.getElem_cons_zero, Act.put, List.setIfInBounds_toArray, List.set_cons_zero, List.set_cons_succ]
              refine AnyZ.take (i := 5) (v := ?_) rfl (by kernel_rfl) (fun _ _ _ h => h) (by rfl) hH ?_ ?_
              rotate_left
              · intro w hSw
                go_simp
                with_reducible rfl
              try simp only [List.getElem_toArray, List.getElem_cons_succ, List.getElem_cons_zero, Act.put, List.setIfInBounds_toArray, List.set_cons_zero, List.set_cons_succ]
              refine AnyZ.take (i := 6) (v := ?_) rfl (by kernel_rfl) (fun _ _ _ h => h) (by rfl) hH ?_ ?_
              rotate_left
              · intro w hSw
                go_simp
                with_reducible rfl
              try simp only [List.getElem_toArray, List.getElem_cons_succ, List.getElem_cons_zero, Act.put, List.setIfInBounds_toArray, List.set_cons_zero, List.set_cons_succ]
              refine AnyZ.take (i := 7) (v := ?_) rfl (by kernel_rfl) (fun _ _ _ h => h) (by rfl) hH ?_ ?_
              rotate_left
              · intro w hSw
                go_simp
                with_reducible rfl
              try simp only [List.getElem_toArray, List.getElem_cons_succ, List.getElem_cons_zero, Act.put, List.setIfInBounds_toArray, List.set_cons_zero, List.set_cons_succ]
              refine AnyZ.take (i := 8) (v := ?_) rfl (by kernel_rfl) (fun _ _ _ h => h) (by rfl) hH ?_ ?_
              rotate_left
              · intro w hSw
                go_simp
                with_reducible rfl
              try simp only [List.getElem_toArray, List.getElem_cons_succ, List.getElem_cons_zero, Act.put, List.setIfInBounds_toArray, List.set_cons_zero, List.set_cons_succ]
              refine AnyZ.take (i := 9) (v := ?_) rfl (by kernel_rfl) (fun _ _ _ h => h) (by rfl) hH ?_ ?_
              rotate_left
              · intro w hSw
                go_simp
                with_reducible rfl
              try simp only [List.getElem_toArray, List.getElem_cons_succ, List.getElem_cons_zero, Act.put, List.setIfInBounds_toArray, List.set_cons_zero, List.set_cons_succ]
              refine AnyZ.take (i := 10) (v := ?_) rfl (by kernel_rfl) (fun _ _ _ h => h) (by rfl) hH ?_ ?_
              rotate_left
              · intro w hSw
                go_simp
                with_reducible rfl
              try simp only [List.getElem_toArray, List.getElem_cons_succ, List.getElem_cons_zero, Act.put, List.setIfInBounds_toArray, List.set_cons_zero, List.set_cons_succ]
              refine AnyZ.take (i := 11) (v := ?_) rfl (by kernel_rfl) (fun _ _ _ h => h) (by rfl) hH ?_ ?_
              rotate_left
              · intro w hSw
                go_simp
                with_reducible rfl
              try simp only [List.getElem_toArray, List.getElem_cons_succ, List.getElem_cons_zero, Act.put, List.setIfInBounds_toArray, List.set_cons_zero, List.set_cons_succ]
              refine AnyZ.take (i := 12) (v := ?_) rfl (by kernel_rfl) (fun _ _ _ h => h) (by rfl) hH ?_ ?_
              rotate_left
              · intro w hSw
                go_simp
                with_reducible rfl
              try simp only [List.getElem_toArray, List.getElem_cons_succ, List.getElem_cons_zero, Act.put, List.setIfInBounds_toArray, List.set_cons_zero, List.set_cons_succ]
              refine AnyZ.take (i := 13) (v := ?_) rfl (by kernel_rfl) (fun _ _ _ h => h) (by rfl) hH ?_ ?_
              rotate_left
              · intro w hSw
                go_simp
                with_reducible rfl
              try simp only [List.getElem_toArray, List.getElem_cons_succ, List.getElem_cons_zero, Act.put, List.setIfInBounds_toArray, List.set_cons_zero, List.set_cons_succ]
              refine AnyZ.one (i := 14) rfl (by kernel_rfl) rfl (fun K hK => ?_)
              go_simp
              refine hK.out _ _ (.inl rfl) ?_
              clear hK K
              refine AnyZ.done (by kernel_rfl) ?_ _
              have F6 := Lib.hid (HKEY.out (some ⟨qg, qo + 2, none⟩) (nl - 1) (qcap - 1) (by rw [if_neg hc1]))
              generalize Value.slice (some ⟨qg, qo + 2, none⟩) (nl - 1) (qcap - 1) = v9 at *
            all_goals
              clear HKEY hH HC5 hfz5
              generalize (w5.setCell ⟨m3.bl, f1.cur, none⟩ v9).drew = w6 at *
              have c5 : w6.cell? ⟨b, 5, none⟩ = some m3.vr := F6.out.at_.cells.2.2.2.2.2
              obtain ⟨rao2, rcap2, hvr2, _⟩ := F6.out.at_.hr.form
              have hvr2 : m3.vr = .slice rao2 s'.run.length rcap2 := hvr2
              have hI6 : IsI w6 (.slice rao2 s'.run.length rcap2) s'.run := by rw [← hvr2]; exact F6.out.at_.hr
              obtain ⟨ao7, cap7, w7, hap7, hi7, hg7, hown7⟩ := int_append hI6 (by omega) en.1
              have hg7' : w6.grownBy w7 m3.vr.ownBlock := by rw [hvr2]; exact hg7
              have hown7' : ∀ g, (Value.slice ao7 (s'.run.length + 1) cap7).ownBlock = some g → m3.vr.ownBlock = some g ∨ w6.heap.size ≤ g := by rw [hvr2]; exact hown7
              have hbw : b < w6.heap.size := lt_of_block F6.out.at_.hb
              have hb7 : w7.heap[b]? = w6.heap[b]? := hg7.block b hbw (fun e => by
                obtain ⟨cs, hc⟩ := OL.elem hI6 b e.symm
                exact type_ne F6.out.at_.hb hc (by decide) rfl)
              have c7 : w7.cell? ⟨b, 5, none⟩ = some m3.vr := (World.cell?_of_block (a := ⟨b, 5, none⟩) hb7).trans c5
              have z7 : w7.frozen? ⟨b, 5, none⟩ = false := has_free (hb7.trans F6.out.at_.hb) 5
              have F8 := Lib.hid (F6.out.step (F6.out.at_.runs hg7' hi7 hown7') (AdAt.runs_step (b := b) (m := m3.setV f1.cur v9) hg7' hown7'))
              obtain ⟨ao9, cap9, w9, hap9, hi9, hg9, hown9⟩ := int_append F8.out.io (by omega) en.1
              have F9 := Lib.hid (F8.out.out hg9 hi9 hown9)
              rw [World.size_setCell] at hap9
              have HAP7 := Lib.hid hap7
              have HAP9 := Lib.hid hap9
              rw [hvr2] at c5 c7
              clear hap7 hi7 hg7 hown7 hg7' hown7' hb7 hap9 hi9 hg9 hown9 hI6 F6 F8 hvr2
              go_wp2_with (first | (refine wpList_append_run (v := .slice rao2 s'.run.length rcap2) (xv := .slice (some ⟨w6.heap.size, 0, none⟩) 1 1) rfl (.tmp 108) (.tmp 110) _ _ rfl (by rfl) (by rfl) HAP7.out ?_) | (refine wpList_append_run (v := .slice oao o.length ocap) (xv := .slice (some ⟨w7.heap.size, 0, none⟩) 1 1) rfl (.tmp 114) (.tmp 116) _ _ rfl (by rfl) (by rfl) HAP9.out ?_))
              go_roundw
              case rel => exact ⟨s'.began f1 now en.1, o ++ [en.1], a, _, F9.out, HLK.out.began HCH.out.1 HCH.out.2.1 (by have := HFU.out; omega) now, fun s1 o1 a1 hs => HLP.out _ _ _ (.ok s' o a f1 en r _ _ _ (by have := HFU.out; omega) HCH.out.1 HCH.out.2.1 HTK.out hs), by show _ ≤ (s'.run ++ [en.1]).length; rw [List.length_append, List.length_append]; have := HOL.out; omega⟩
              case measure => simp [lenV]; omega
        · have ha' : anyB s'.f = false := by simpa using ha
          have c3 := (F0.out).at_.cells.2.2.2.1
          have CP := Lib.hid (fun n => peek_none (wr.drewN n) (F1.out n).at_.hf HLK.out.g ha')
          have HNA := Lib.hid ha'
          clear ha ha'
          go_wp2_with fail
          refine (CP.out _).mono ?_
          rintro e w2 ⟨rfl, hb2⟩
          have F2 := Lib.hid ((F1.out _).below hb2)
          clear hb2 CP
          go_wp2_with fail
          go_meet
          case rel => exact ⟨s', o, a, m', F2.out, HLK.out, HLP.out _ _ _ (.none s' o a (by have := HFU.out; omega) HNA.out)⟩
      · have d0 : decide ((s'.run.length : Int) < s'.slots) = false := decide_eq_false hfull
        have HFU := Lib.hid hfull
        go_wp2_with fail
        go_quiet (fail)
        go_wp2_with fail
        go_meet
        case rel => exact ⟨s', o, a, m', F0.out.below (below_draw _ _ _), HLK.out, HLP.out _ _ _ (.full s' o a (by have := HFU.out; omega))⟩
  case rest =>
    clear HST
    obtain ⟨s1, o, a, m1, hF, hL, hS⟩ := hcut
    have HS := Lib.hid hS
    obtain ⟨oao, ocap, hov⟩ := OL.shapeA hF.io
    obtain ⟨aao, acap, hav⟩ := OL.shapeA hF.ia
    rw [tnI_len] at hav
    subst hov hav
    have hal := hL.alen
    have hm16 : s1.m ≤ 16 := by rw [← hL.lf]; exact hL.g.m2
    have HR0 : Hid (∃ (m3 : AM) (f' : FQ), StF w b m (s1.setF f') o (tnI a) m3 (.slice oao o.length ocap) (.slice aao a.length acap) wc ∧ LOk (s1.setF f') (a.drop 0) ∧ f' = { s1.f with lists := f'.lists }) := Lib.hid ⟨m1, s1.f, hF, hL, rfl⟩
    clear hF hL hS
    go_wp2_with fail
    go_loopw [120] (fun kv wr => ∃ (k : Nat) (m3 : AM) (f' : FQ), kv = .int .i64 k ∧ k ≤ a.length ∧ StF w b m (s1.setF f') o (tnI a) m3 (.slice oao o.length ocap) (.slice aao a.length acap) wr ∧ LOk (s1.setF f') (a.drop k) ∧ f' = { s1.f with lists := f'.lists }) (fun kv _ => a.length - (intOf kv).toNat)
    case atStart =>
      obtain ⟨m3, f', h1, h2, h3⟩ := HR0.out
      exact ⟨0, m3, f', rfl, Nat.zero_le _, h1, h2, h3⟩
    case round =>
      clear HR0
      obtain ⟨k, m3, f', rfl, hk, hF, hL, hfe⟩ := hrel
      have F0 := Lib.hid hF
      have HFE := Lib.hid hfe
      by_cases hlt : k < a.length
      · have hdk : a.drop k = a[k] :: a.drop (k + 1) := List.drop_eq_getElem_cons hlt
        rw [hdk] at hL
        have HL := Lib.hid hL
        have hia := hF.ia
        obtain ⟨ag, ao, hag⟩ : ∃ g off, aao = some ⟨g, off, none⟩ := by
          rcases OL.forms hia with ⟨e, e0⟩ | ⟨g, off, cp, e, _⟩
          · rw [tnI_len] at e0; omega
          · simp only [Value.slice.injEq] at e; exact ⟨g, off, e.1⟩
        subst hag
        have hak := IsI.at_ hia (tnI_len a).symm hlt
        have hgk : (tnI a).getD k 0 = (a[k] : Int) := by simp [tnI, List.getD, hlt]
        rw [hgk] at hak
        obtain ⟨t, ht⟩ : ∃ t, a[k] = t := ⟨_, rfl⟩
        rw [ht] at hak HL
        have htm : t < s1.m := (HL.out.am t (by simp)).1
        have hte : f'.lst t = [] := (HL.out.am t (by simp)).2
        have hlen : (s1.q t).length ≤ 256 := HL.out.len t htm
        have c4 : wr.cell? ⟨b, 4, none⟩ = some (.slice (some ⟨m3.bl, 0, none⟩) s1.m s1.m) := F0.out.at_.cells.2.2.2.2.1
        have cq : wr.cell? ⟨m3.bl, t, none⟩ = some (qv m3.vals t) := F0.out.at_.cq htm
        obtain ⟨qao, qcap, hvq, hqao, _⟩ := (F0.out.at_.hq t htm).form
        have hvq : qv m3.vals t = .slice qao (s1.q t).length qcap := hvq
        rw [hvq] at cq
        have HQA := Lib.hid (show 0 < (s1.q t).length → ∃ g off, qao = some ⟨g, off, none⟩ from hqao)
        have HF0 : Hid (StF w b m (s1.setF (FQ.setL f' t ((s1.q t).take 0))) o (tnI a) m3 (.slice oao o.length ocap) (.slice (some ⟨ag, ao, none⟩) a.length acap) wr) := Lib.hid (by
          rw [List.take_zero, ← hte, setL_id]
          exact hF)
        have HVQ := Lib.hid hvq
        have kI : (k : Int) < (a.length : Int) := by omega
        have kI0 : (0 : Int) ≤ (k : Int) := by omega
        have tI : (t : Int) < (s1.m : Int) := by omega
        have tI0 : (0 : Int) ≤ (t : Int) := by omega
        clear hdk hL hF hfe hia hgk ht hte hvq hqao
        obtain ⟨n, hn⟩ : ∃ n, (s1.q t).length = n := ⟨_, rfl⟩
        have HN := Lib.hid hn
        rw [hn] at cq hlen HQA HVQ
        clear hn
        go_wp2_with fail
        clear c4 cq hak
        go_loopw [132] (fun jv wr2 => ∃ (j : Nat) (m4 : AM), j ≤ n ∧ jv = .int .i64 j ∧ (qv m4.vals t = .slice qao n qcap) ∧ StF w b m (s1.setF (FQ.setL f' t ((s1.q t).take j))) o (tnI a) m4 (.slice oao o.length ocap) (.slice (some ⟨ag, ao, none⟩) a.length acap) wr2) (fun jv _ => n - (intOf jv).toNat)
        case atStart => exact ⟨0, m3, Nat.zero_le _, rfl, HVQ.out, HF0.out⟩
        case round =>
          clear HF0
          obtain ⟨j, m4, hj, rfl, hv4, hF⟩ := hrel
          have F5 := Lib.hid hF
          have HV4 := Lib.hid hv4
          clear hF hv4
          by_cases hjn : j < n
          · obtain ⟨qg, qo, rfl⟩ := HQA.out (by omega)
            have hQ4 : IsQ wr (qv m4.vals t) (s1.q t) := F5.out.at_.hq t htm
            rw [HV4.out] at hQ4
            have hjl : j < (s1.q t).length := by rw [HN.out]; exact hjn
            obtain ⟨e0, e1⟩ := IsQ.at_ hQ4 (q := j) hjl HN.out.symm
            obtain ⟨pc1, pc2, pc3, pc4, pc5⟩ := put_cond HL.out htm hjl
            have hsz := HL.out.sz t htm (s1.q t)[j] (List.getElem_mem _)
            obtain ⟨x, hx⟩ : ∃ x, (s1.q t)[j] = x := ⟨_, rfl⟩
            rw [hx] at e0 e1 pc1 pc5 hsz
            have hal : Below wr.heap.size wr (wr.alloc (.cells #[.int .i64 x.1, .int .i64 x.2] 100)) := by go_grown
            have F6 := Lib.hid (F5.out.below hal)
            have HX6 := Lib.hid (heap_alloc_new wr (.cells #[.int .i64 x.1, .int .i64 x.2] 100))
            have CX : Hid (∀ wx, AdAt wx b m4 (s1.setF (FQ.setL f' t ((s1.q t).take j))) → Calls Try.prog 36 #[.pointer (some ⟨m4.bf, 0, none⟩), .int .i64 t, .int .i64 x.1, .int .i64 x.2] wx (PutOk m4.bf m4.fbq m4.fcq m4.fbd m4.fcd m4.fxt m4.fbl m4.fvals (FQ.setL f' t ((s1.q t).take (j + 1))) wx)) := Lib.hid (fun wx hA => by
              have := put_ok t x.1 x.2 wx hA.hf (show (FQ.setL f' t ((s1.q t).take j)).m ≤ 16 by rw [pc3]; exact hm16) pc2 (show t < (FQ.setL f' t ((s1.q t).take j)).m by rw [pc3]; exact htm) hsz.1 hsz.2 pc1 (show ((FQ.setL f' t ((s1.q t).take j)).lst t).length < 256 by rw [pc4, List.length_take]; omega)
              rw [show FQ.setL (s1.setF (FQ.setL f' t ((s1.q t).take j))).f t ((s1.setF (FQ.setL f' t ((s1.q t).take j))).f.lst t ++ [(x.1, x.2)]) = _ from pc5] at this
              exact this)
            have jI : (j : Int) < (n : Int) := by omega
            have jI0 : (0 : Int) ≤ (j : Int) := by omega
            clear hQ4 hjl pc1 pc2 pc3 pc4 pc5 hsz hx hal
            go_upto_region 25 with fail
            clear e0 e1
            generalize wr.alloc (.cells #[.int .i64 x.1, .int .i64 x.2] 100) = w6 at *
            generalize wr.heap.size = dx at *
            have HS6 : Hid (w6.cell? ⟨b, 3, none⟩ = some (.pointer (some ⟨m4.bf, 0, none⟩)) ∧ w6.cell? ⟨dx, 0, none⟩ = some (.int .i64 x.1) ∧ w6.cell? ⟨dx, 1, none⟩ = some (.int .i64 x.2)) := Lib.hid ⟨F6.out.at_.cells.2.2.2.1, has_cell HX6.out 0, has_cell HX6.out 1⟩
            refine wp_region_held_drew (S := (fun w' : World => w'.cell? ⟨b, 3, none⟩ = some (.pointer (some ⟨m4.bf, 0, none⟩)) ∧ w'.cell? ⟨dx, 0, none⟩ = some (.int .i64 x.1) ∧ w'.cell? ⟨dx, 1, none⟩ = some (.int .i64 x.2))) (by kernel_rfl) (HS6.out) (fun hH => ?_)
            refine wpAnyH_take (i := 0) (v := ?_) rfl (by kernel_rfl) (by kernel_rfl) (by kernel_rfl) (fun _ _ _ h => h) (Or.inl ⟨by rfl, ?_⟩) hH ?_
            rotate_left
            · intro w hSw
              go_simp
              with_reducible rfl
            try simp only [List.getElem_toArray, List.getElem_cons_zero, Act.put, List.setIfInBounds_toArray, List.set_cons_zero, List.set_cons_succ]
            refine wpAnyH_take (i := 1) (v := ?_) rfl (by kernel_rfl) (by kernel_rfl) (by kernel_rfl) (fun _ _ _ h => h) (Or.inl ⟨by rfl, ?_⟩) hH ?_
            rotate_left
            · intro w hSw
              go_simp
              with_reducible rfl
            try simp only [List.getElem_toArray, List.getElem_cons_succ, List.getElem_cons_zero, Act.put, List.setIfInBounds_toArray, List.set_cons_zero, List.set_cons_succ]
            refine wpAnyH_take (i := 2) (v := ?_) rfl (by kernel_rfl) (by kernel_rfl) (by kernel_rfl) (fun _ _ _ h => h) (Or.inl ⟨by rfl, ?_⟩) hH ?_
            rotate_left
            · intro w hSw
              go_simp
              with_reducible rfl
            try simp only [List.getElem_toArray, List.getElem_cons_succ, List.getElem_cons_zero, Act.put, List.setIfInBounds_toArray, List.set_cons_zero, List.set_cons_succ]
            refine wpAnyH_take (i := 3) (v := ?_) rfl (by kernel_rfl) (by kernel_rfl) (by kernel_rfl) (fun _ _ _ h => h) (Or.inl ⟨by rfl, ?_⟩) hH ?_
            rotate_left
            · intro w hSw
              go_simp
              with_reducible rfl
            try simp only [List.getElem_toArray, List.getElem_cons_succ, List.getElem_cons_zero, Act.put, List.setIfInBounds_toArray, List.set_cons_zero, List.set_cons_succ]
            refine wpAnyH_take (i := 4) (v := ?_) rfl (by kernel_rfl) (by kernel_rfl) (by kernel_rfl) (fun _ _ _ h => h) (Or.inl ⟨by rfl, ?_⟩) hH ?_
            rotate_left
            · intro w hSw
              go_simp
              with_reducible rfl
            try simp only [List.getElem_toArray, List.getElem_cons_succ, List.getElem_cons_zero, Act.put, List.setIfInBounds_toArray, List.set_cons_zero, List.set_cons_succ]
            refine wpAnyH_take (i := 5) (v := ?_) rfl (by kernel_rfl) (by kernel_rfl) (by kernel_rfl) (fun _ _ _ h => h) (Or.inl ⟨by rfl, ?_⟩) hH ?_
            rotate_left
            · intro w hSw
              go_simp
              with_reducible rfl
            try simp only [List.getElem_toArray, List.getElem_cons_succ, List.getElem_cons_zero, Act.put, List.setIfInBounds_toArray, List.set_cons_zero, List.set_cons_succ]
            refine wpAnyH_take (i := 6) (v := ?_) rfl (by kernel_rfl) (by kernel_rfl) (by kernel_rfl) (fun _ _ _ h => h) (Or.inl ⟨by rfl, ?_⟩) hH ?_
            rotate_left
            · intro w hSw
              go_simp
              with_reducible rfl
            try simp only [List.getElem_toArray, List.getElem_cons_succ, List.getElem_cons_zero, Act.put, List.setIfInBounds_toArray, List.set_cons_zero, List.set_cons_succ]
            refine wpAnyH_take (i := 7) (v := ?_) rfl (by kernel_rfl) (by kernel_rfl) (by kernel_rfl) (fun _ _ _ h => h) (Or.inl ⟨by rfl, ?_⟩) hH ?_
            rotate_left
            · intro w hSw
              go_simp
              with_reducible rfl
            try simp only [List.getElem_toArray, List.getElem_cons_succ, List.getElem_cons_zero, Act.put, List.setIfInBounds_toArray, List.set_cons_zero, List.set_cons_succ]
            refine wpAnyH_take (i := 8) (v := ?_) rfl (by kernel_rfl) (by kernel_rfl) (by kernel_rfl) (fun _ _ _ h => h) (Or.inl ⟨by rfl, ?_⟩) hH ?_
            rotate_left
            · intro w hSw
              go_simp
              with_reducible rfl
            try simp only [List.getElem_toArray, List.getElem_cons_succ, List.getElem_cons_zero, Act.put, List.setIfInBounds_toArray, List.set_cons_zero, List.set_cons_succ]
            refine wpAnyH_ready (rs := [9]) (by kernel_rfl) (by simp) ?_
            refine AllReadyH.cons rfl (fun K hK => ?_) AllReadyH.nil
            go_simp
            have F7 := Lib.hid (F6.out.below (below_drew _ w6))
            have HXL := Lib.hid (show dx < w6.drew.heap.size from lt_of_block HX6.out)
            have HXN : Hid (¬ m4.Fp dx) := Lib.hid (fun hfp => by
              obtain ⟨cs, ty, hc, hty⟩ := F6.out.at_.hf.fp_type hfp
              rcases hty with e | e | e | e <;> exact type_ne HX6.out hc (by rw [e]; decide) rfl)
            refine (CX.out _ F7.out.at_).mono ?_
            rintro e w8 ⟨rfl, hu⟩
            go_simp
            obtain ⟨fv, h8, hs8⟩ := F7.out.at_.upd ((setL_m _ _ _).trans (setL_m _ _ _).symm) hu
            have F8 := Lib.hid (F7.out.step h8 hs8)
            have hx8 : w8.heap[dx]? = w6.heap[dx]? := by
              obtain ⟨_, _, _, ho⟩ := hu
              exact ho.block dx HXL.out HXN.out
            have hH8 : w8.cell? ⟨b, 3, none⟩ = some (.pointer (some ⟨m4.bf, 0, none⟩)) ∧ w8.cell? ⟨dx, 0, none⟩ = some (.int .i64 x.1) ∧ w8.cell? ⟨dx, 1, none⟩ = some (.int .i64 x.2) := ⟨h8.cells.2.2.2.1, has_cell (hx8.trans HX6.out) 0, has_cell (hx8.trans HX6.out) 1⟩
            refine hK.out _ _ hH8 (fun hH9 => ?_)
            clear hK K hu h8 hs8 hx8 hH8
            refine wpAnyH_done (by kernel_rfl) ?_ _
            clear hH9 hH CX F6 F7 HX6 HS6
            go_wp2_with fail
            go_roundw
            case rel => exact ⟨j + 1, m4.setF fv, by omega, by go_num, HV4.out, F8.out⟩
            case measure => simp [intOf]; omega
          · obtain rfl : j = n := by omega
            have F6 : Hid (StF w b m (s1.setF (FQ.setL f' t (s1.q t))) o (tnI a) m4 (.slice oao o.length ocap) (.slice (some ⟨ag, ao, none⟩) a.length acap) wr) := Lib.hid (by
              have h1 := F5.out
              rw [← HN.out, List.take_length] at h1
              exact h1)
            have HFE2 : Hid (FQ.setL f' t (s1.q t) = { s1.f with lists := (FQ.setL f' t (s1.q t)).lists }) := Lib.hid (by
              unfold FQ.setL
              rw [HFE.out])
            clear F5
            go_wp2_with fail
            go_roundw
            case rel => exact ⟨k + 1, m4, _, by go_num, by omega, F6.out, HL.out.put, HFE2.out⟩
            case measure => simp [intOf]; omega
      · obtain rfl : k = a.length := by omega
        have HB : Hid (s1.setF f' = s1.back) := Lib.hid (back_of (by rw [List.drop_length] at hL; exact hL) hfe)
        have HP : Hid (StartP b m s now w (.returned (.slice oao o.length ocap)) wr) := Lib.hid ⟨s1, o, a, _, m3, HS.out, rfl, hF.io, by rw [← HB.out]; exact hF.at_, hF.st, hF.on⟩
        clear hF hL hfe
        go_wp2
        go_ret
        exact HP.out
end Go.Proofs.Ytmdajndmobpgbaa

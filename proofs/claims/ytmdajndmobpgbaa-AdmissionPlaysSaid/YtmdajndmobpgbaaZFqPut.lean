/- Put. Conditions: the queue lies in memory as 'FqAt' says, and no list is longer than memory. -/
import Derived.Test.YtmdajndmobpgbaaZFqNew
import Derived.Test.YtmdajndmobpgbaaZErr
import Derived.Deep.RegionLaw
namespace Go.Proofs.Ytmdajndmobpgbaa
open Go.RowKit
open Go.Proofs.Ytmdajndmobpgbaa.Fq

def hasId (s : FQ) (id : Int) : Prop := ∃ t, t < s.m ∧ ∃ e ∈ s.lst t, e.1 = id
/-- What an operation leaves of a queue: the lists' values and rows may be others. -/
def Upd (b bq cq bd cd : Nat) (xt : List Value) (bl : Nat) (vals : List Value) (s' : FQ) (w w' : World) : Prop :=
  ∃ vals', FqAt w' b bq cq bd cd xt bl vals' s' ∧ (∀ k, Fp b bq bd bl vals' k → Fp b bq bd bl vals k ∨ w.heap.size ≤ k) ∧ Only (Fp b bq bd bl vals) w w'
def PutOk (b bq cq bd cd : Nat) (xt : List Value) (bl : Nat) (vals : List Value) (s' : FQ) (w : World) (e : Ending) (w' : World) : Prop :=
  e = .returned .nilIface ∧ Upd b bq cq bd cd xt bl vals s' w w'
def PutBad (k : Int) (w : World) (e : Ending) (w' : World) : Prop := e = .returned (.iface 33 (.int .i64 k)) ∧ Below w.heap.size w w'

theorem put_nil (t id z : Int) (w : World) : Calls Try.prog 36 #[.pointer none, .int .i64 t, .int .i64 id, .int .i64 z] w (PutBad 3 w) := by
  go_enter Try.func36, Try.ntmps36
  go_wp2
  go_ret
  exact ⟨rfl, Below.refl _ _⟩
section
variable {b bq cq bd cd bl : Nat} {xt : List Value} {vals : List Value} {s : FQ}
theorem put_name (t id z : Int) (w : World) (h : FqAt w b bq cq bd cd xt bl vals s) (ht : ¬ (0 ≤ t ∧ t < s.m)) : Calls Try.prog 36 #[.pointer (some ⟨b, 0, none⟩), .int .i64 t, .int .i64 id, .int .i64 z] w (PutBad 8 w) := by
  have ck := known_any t w h
  rw [knB_false ht] at ck
  have CK := Lib.hid ck
  clear ck ht h
  go_enter Try.func36, Try.ntmps36
  go_wp2_with (go_at_call 63; refine CK.out.mono ?_; rintro e w' ⟨rfl, rfl⟩)
  go_ret
  exact ⟨rfl, Below.refl _ _⟩
theorem put_range (t id z : Int) (w : World) (h : FqAt w b bq cq bd cd xt bl vals s) (h0 : 0 ≤ t) (h1 : t < s.m) (hz : z < 1 ∨ 1048576 < z) :
    Calls Try.prog 36 #[.pointer (some ⟨b, 0, none⟩), .int .i64 t, .int .i64 id, .int .i64 z] w (PutBad 1 w) := by
  have ck := known_any t w h
  rw [knB_true h0 h1] at ck
  have CK := Lib.hid ck
  clear ck h
  go_enter Try.func36, Try.ntmps36
  rcases hz with hz | hz
  all_goals
    go_wp2_with (go_at_call 63; refine CK.out.mono ?_; rintro e w' ⟨rfl, rfl⟩)
    go_ret
    exact ⟨rfl, Below.refl _ _⟩
theorem findR_has {id : Int} {t i : Nat} (h : FindR s id (some (t, i))) : hasId s id := by
  obtain ⟨h1, ⟨e, he, hi⟩, _⟩ := h
  exact ⟨t, h1, e, List.mem_of_getElem? he, hi⟩
theorem findR_not {id : Int} (h : FindR s id none) : ¬ hasId s id := fun ⟨t, ht, e, he, hi⟩ => h t ht e he hi
theorem put_exists (t id z : Int) (w : World) (h : FqAt w b bq cq bd cd xt bl vals s) (hm : s.m ≤ 16) (hsh : Short s) (h0 : 0 ≤ t) (h1 : t < s.m) (hz1 : 1 ≤ z) (hz2 : z ≤ 1048576) (hh : hasId s id) :
    Calls Try.prog 36 #[.pointer (some ⟨b, 0, none⟩), .int .i64 t, .int .i64 id, .int .i64 z] w (PutBad 4 w) := by
  have ck := known_any t w h
  rw [knB_true h0 h1] at ck
  have CK := Lib.hid ck
  have CF := Lib.hid (find_any id w h hm hsh)
  have HH := Lib.hid hh
  clear ck h hh
  go_enter Try.func36, Try.ntmps36
  go_wp2_with (go_at_call 63; refine CK.out.mono ?_; rintro e w' ⟨rfl, rfl⟩)
  refine CF.out.mono ?_
  rintro e w' ⟨r, rfl, hr, hb⟩
  rcases r with _ | ⟨t', i'⟩
  · exact absurd HH.out (findR_not hr)
  · unfold findV
    go_wp2
    go_ret
    exact ⟨rfl, hb⟩
theorem put_full (t : Nat) (id z : Int) (w : World) (h : FqAt w b bq cq bd cd xt bl vals s) (hm : s.m ≤ 16) (hsh : Short s) (h1 : t < s.m) (hz1 : 1 ≤ z) (hz2 : z ≤ 1048576) (hh : ¬ hasId s id) (hf : 256 ≤ (s.lst t).length) :
    Calls Try.prog 36 #[.pointer (some ⟨b, 0, none⟩), .int .i64 t, .int .i64 id, .int .i64 z] w (PutBad 10 w) := by
  have ck := known_any t w h
  rw [knB_true (by omega) (by omega)] at ck
  have CK := Lib.hid ck
  have CF := Lib.hid (find_any id w h hm hsh)
  have HH := Lib.hid hh
  have H := Lib.hid h
  obtain ⟨g, off, cap, hv, hcap, _, hgg⟩ := (h.hls t h1).form (by omega)
  have HV := Lib.hid hv
  have hsl := hsh t h1
  clear ck h hh hv
  go_enter Try.func36, Try.ntmps36
  go_wp2_with (go_at_call 63; refine CK.out.mono ?_; rintro e w' ⟨rfl, rfl⟩)
  refine CF.out.mono ?_
  rintro e w' ⟨r, rfl, hr, hb⟩
  rcases r with _ | ⟨t', i'⟩
  · unfold findV
    have hA := H.out.belowS hb
    have c2 := hA.c2
    have cl := hA.cL h1
    rw [HV.out] at cl
    generalize (s.lst t).length = nl at cl hcap hf hsl
    have HB := Lib.hid hb
    clear hA hr hsh hb CK CF HH H HV
    have hfi : (256 : Int) ≤ (nl : Int) := by omega
    clear hf
    go_wp2
    go_ret
    exact ⟨rfl, HB.out⟩
  · exact absurd (findR_has hr) HH.out
theorem infoEnt : (Try.prog.info? 147).map (fun i => (i.zero, i.size, i.bytes)) = some (some (.agg #[.int .i64 0, .int .i64 0]), 2, 16) := by kernel_rfl
theorem upd_put {w w1 w2 : World} {v' : Value} {t : Nat} {l' : List Ent} (hA : FqAt w1 b bq cq bd cd xt bl vals s) (h1 : t < s.m) (hb : Below w.heap.size w w1) (hg : w1.grownBy w2 (qv vals t).ownBlock)
    (ho : OL w2 147 2 v' l'.length (entCells l')) (hown : ∀ g, v'.ownBlock = some g → (qv vals t).ownBlock = some g ∨ w1.heap.size ≤ g) :
    Upd b bq cq bd cd xt bl vals (FQ.setL s t l') w (w2.setCell ⟨bl, t, none⟩ v') := by
  have hlt : t < vals.length := by rw [hA.lv]; exact h1
  have hs := hb.size
  refine ⟨_, hA.setVal h1 hg ho hown, ?_, ?_⟩
  · rintro k (h | h | h | h | ⟨t', h⟩)
    · exact .inl (.inl h)
    · exact .inl (.inr (.inl h))
    · exact .inl (.inr (.inr (.inl h)))
    · exact .inl (.inr (.inr (.inr (.inl h))))
    · by_cases e : t = t'
      · subst e
        rw [qv_set_self hlt] at h
        rcases hown k h with h | h
        · exact .inl (.inr (.inr (.inr (.inr ⟨t, h⟩))))
        · exact .inr (by omega)
      · rw [qv_set_ne e] at h
        exact .inl (.inr (.inr (.inr (.inr ⟨t', h⟩))))
  · have o1 : Only (Fp b bq bd bl vals) w w1 := Only.of_below hb (fun k h1 h2 => by omega)
    have o2 := o1.grown hg (fun k hk => .inl (.inr (.inr (.inr (.inr ⟨t, hk⟩)))))
    exact o2.setCell (.inl (.inr (.inr (.inr (.inl rfl))))) _
set_option maxRecDepth 100000 in
set_option maxHeartbeats 1000000 in
theorem put_ok (t : Nat) (id z : Int) (w : World) (h : FqAt w b bq cq bd cd xt bl vals s) (hm : s.m ≤ 16) (hsh : Short s) (h1 : t < s.m) (hz1 : 1 ≤ z) (hz2 : z ≤ 1048576) (hh : ¬ hasId s id) (hf : (s.lst t).length < 256) :
    Calls Try.prog 36 #[.pointer (some ⟨b, 0, none⟩), .int .i64 t, .int .i64 id, .int .i64 z] w (PutOk b bq cq bd cd xt bl vals (FQ.setL s t (s.lst t ++ [(id, z)])) w) := by
  have ck := known_any t w h
  rw [knB_true (by omega) (by omega)] at ck
  have CK := Lib.hid ck
  have CF := Lib.hid (find_any id w h hm hsh)
  have HH := Lib.hid hh
  have H := Lib.hid h
  clear ck h hh
  obtain ⟨i0, hi, iz, is, ib⟩ := info_parts infoEnt
  go_enter Try.func36, Try.ntmps36
  go_wp2_with (go_at_call 63; refine CK.out.mono ?_; rintro e w' ⟨rfl, rfl⟩)
  refine CF.out.mono ?_
  rintro e w1 ⟨r, rfl, hr, hb⟩
  rcases r with _ | ⟨t', i'⟩
  · unfold findV
    have hA := H.out.belowS hb
    have c2 := hA.c2
    have cl := hA.cL h1
    have zl := has_free hA.hl
    have HB := Lib.hid hb
    have hO := hA.hls t h1
    have hfi : ((s.lst t).length : Int) < 256 := by omega
    have ltb := has_lt hA.hb
    have ltl := has_lt hA.hl
    have nbl := hA.b_bl
    have HA := Lib.hid (show FqAt (w1.drew.alloc (.cells #[.int .i64 id, .int .i64 z] 147)) b bq cq bd cd xt bl vals s from hA.belowS (by go_grown))
    have HA' := HA.out
    have hb0 : (w1.drew.alloc (.cells #[.int .i64 id, .int .i64 z] 147)).heap[w1.heap.size]? = some (.cells #[.int .i64 id, .int .i64 z] 147 (0, 0)) := heap_alloc_new w1.drew _
    have hsrc : Src Try.prog 2 145 (.slice (some ⟨w1.heap.size, 0, none⟩) 1 1) 1 (entCells [(id, z)]) (w1.drew.alloc (.cells #[.int .i64 id, .int .i64 z] 147)) :=
      Src.ofSlice (size := 2) _ Try.underlying145 ⟨w1.heap.size, 0, none⟩ 1 1 _ (by simp [entCells]) (fun j u hu => by
        have hj : j < 2 := by have := (List.getElem?_eq_some_iff.1 hu).1; simpa [entCells] using this
        rw [Addr.add_lit]
        show (w1.drew.alloc _).cell? ⟨w1.heap.size, 0 + j, none⟩ = _
        rw [has_cell hb0]
        match j, hj with
        | 0, _ => exact hu
        | 1, _ => exact hu) (fun u hu => by simp [entCells] at hu; rcases hu with rfl | rfl <;> rfl)
    obtain ⟨v', w2, hap, ho2, hg2, hown⟩ := (HA'.hls t h1).append (P := Try.prog) 145 145 145 i0 _ 16 Try.underlying145 hi iz is ib rfl (by omega) hsrc (by unfold maxLen; omega) (by omega)
    obtain ⟨g', off', cap', rfl, _, _, _⟩ := ho2.form (by omega)
    have U := Lib.hid (show Upd b bq cq bd cd xt bl vals (FQ.setL s t (s.lst t ++ [(id, z)])) w' (w2.setCell ⟨bl, t, none⟩ _) from upd_put HA' h1 ((hb.trans (below_draw _ w1 1)).alloc (by have := hb.size; show _ ≤ w1.heap.size; omega) _) hg2 (l' := s.lst t ++ [(id, z)]) (by rw [entCells_append, List.length_append]; exact ho2) (fun g hg => by
      rcases hown with h | h
      · exact .inl (h ▸ hg)
      · rw [h] at hg; exact .inr (by have := Option.some.inj hg; omega)))
    have k2 : w2.cell? ⟨b, 2, none⟩ = some (.slice (some ⟨bl, 0, none⟩) s.m s.m) := by
      have e := hg2.block b (has_lt HA'.hb) (fun e => (HA'.row_ne e.symm).1 rfl)
      rw [World.cell?_of_block (a := ⟨b, 2, none⟩) e]; exact HA'.c2
    have z2 : w2.frozen? ⟨bl, t, none⟩ = false := has_free (by rw [hg2.block bl (has_lt HA'.hl) (fun e => (HA'.row_ne e.symm).2.2.2 rfl)]; exact HA'.hl) t
    have l2 : ∃ u, w2.cell? ⟨bl, t, none⟩ = some u := ⟨_, by rw [World.cell?_of_block (a := ⟨bl, t, none⟩) (hg2.block bl (has_lt HA'.hl) (fun e => (HA'.row_ne e.symm).2.2.2 rfl))]; exact HA'.cL h1⟩
    obtain ⟨u2, l2⟩ := l2
    have e2 : (w1.drew.alloc (.cells #[.int .i64 id, .int .i64 z] 147)).cell? ⟨bl, t, none⟩ = _ := HA'.cL h1
    clear CK CF HH hr hb hsh hA HA' ho2 hg2 hown hsrc hb0
    have hv : ∃ ao cap, qv vals t = .slice ao (s.lst t).length cap := by
      rcases hO.forms with ⟨hv, h0⟩ | ⟨g, off, cap, hv, _⟩
      · exact ⟨_, _, by rw [h0]; exact hv⟩
      · exact ⟨_, _, hv⟩
    obtain ⟨ao, cap, hv⟩ := hv
    rw [hv] at cl e2 hap
    generalize (s.lst t).length = nl at hfi hap U cl e2 hf
    have HAP := Lib.hid hap
    clear hap hv hO hf
    have hd : decide ((256 : Int) ≤ (nl : Int)) = false := by simp; omega
    go_wp2_with fail
    go_region_law (first | (refine step_append_run rfl (.tmp 60) (.tmp 64) _ _ rfl rfl rfl HAP.out ?_))
    all_goals as_aux_lemma =>
      go_wp2_with fail
      go_ret
      exact ⟨rfl, U.out⟩
  · exact absurd (findR_has hr) HH.out
end
end Go.Proofs.Ytmdajndmobpgbaa

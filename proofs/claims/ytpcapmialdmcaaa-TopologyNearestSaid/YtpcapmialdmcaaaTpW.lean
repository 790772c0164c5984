/- topology: the walk of the document's Down. Conditions: the links and their interruptions are few. -/
import Derived.Test.YtpcapmialdmcaaaTpV
namespace Go.Proofs.Ytpcapmialdmcaaa
open Go.RowKit Go.Maps

section
variable {w w' : World} {tao lao : Option Addr} {tc lc : Nat} {ts : List ByteArray} {L : List TL} {a b : ByteArray} {v : Value} {l : List (Int × Int)}
theorem IsC.copy (h : IsC w v l) (hl : l.length ≤ 1000000) : ∃ g off cap w', (Builtin.append_ #[97, 97] 97 #[.slice (some ⟨w.heap.size, 0, none⟩) 0 0, v]).run Try.prog (w.alloc (.cells #[] 101)) = .ok (.slice (some ⟨g, off, none⟩) l.length cap) w' ∧ IsC w' (.slice (some ⟨g, off, none⟩) l.length cap) l ∧ w.heap.size ≤ g ∧ Below w.heap.size w w' := by
  obtain ⟨g, off, cap, w', hap, ho, hg, hb⟩ := fresh_append (P := Try.prog) 97 _ _ Try.underlying97 infoCt rfl (by omega) (OL.src (OL.alloc h (.cells #[] 101)) Try.underlying97 (prs_one l)) (by unfold maxLen; omega) (by omega)
  exact ⟨g, off, cap, w', hap, ho, hg, hb⟩
theorem IsC.more (h : IsC w v l) (hl : l.length ≤ 1000000) (c : Int × Int) : ∃ ao cap w', (Builtin.append_ #[97, 97] 97 #[v, .slice (some ⟨w.heap.size, 0, none⟩) 1 1]).run Try.prog (w.alloc (.cells #[.int .i64 c.1, .int .i64 c.2] 101)) = .ok (.slice ao (l.length + 1) cap) w' ∧ IsC w' (.slice ao (l.length + 1) cap) (l ++ [c]) ∧ w.grownBy w' v.ownBlock := by
  obtain ⟨ao, cap, w', hap, ho, hg, _⟩ := tp_append h 97 _ 16 Try.underlying97 infoCt rfl (by omega) (prs [c]) rfl (prs_one _) hl (by omega)
  refine ⟨ao, cap, w', hap, ?_, hg⟩
  show OL w' _ 2 _ (l ++ [c]).length (prs (l ++ [c]))
  rw [prs_append, List.length_append]
  exact ho
/-- The slice of a link's interruptions. -/
theorem RefL.cuts {g off cap : Nat} (h : RefL w (.slice (some ⟨g, off, none⟩) L.length cap) L) {i : Nat} (hi : i < L.length) : ∃ co cc, w.cell? ⟨g, off + i * 4 + 3, none⟩ = some (.slice co (lk L i).cuts.length cc) ∧ IsC w (.slice co (lk L i).cuts.length cc) (lk L i).cuts ∧ w.frozen? ⟨g, off + i * 4 + 3, none⟩ = false := by
  obtain ⟨vs, h1, h2, h3, h4⟩ := h
  obtain ⟨co, cc, hv⟩ := OL.shp (h4 i hi)
  have := (OL.cell h2 (i * 4 + 3) (by omega)).trans (lks_get L vs i h1 hi).2.2.2
  rw [hv, ← Nat.add_assoc] at this
  exact ⟨co, cc, this, by rw [← hv]; exact h4 i hi, OL.free h2 _⟩
theorem RefL.cut {g off cap : Nat} (h : RefL w (.slice (some ⟨g, off, none⟩) L.length cap) L) {i : Nat} (hi : i < L.length) {cs : List (Int × Int)} {ao : Option Addr} {n c : Nat} (hv : IsC w (.slice ao n c) cs) : RefL (w.setCell ⟨g, off + i * 4 + 3, none⟩ (.slice ao n c)) (.slice (some ⟨g, off, none⟩) L.length cap) (L.set i { lk L i with cuts := cs }) := by
  obtain ⟨vs, h1, h2, h3, h4⟩ := h
  have h5 := OL.setCell h2 (i * 4 + 3) (by omega) (.slice ao n c)
  rw [lks_cut L vs i cs _ h1 hi, ← Nat.add_assoc] at h5
  have ho : ∀ {u : Value} {x : List (Int × Int)}, IsC w u x → IsC (w.setCell ⟨g, off + i * 4 + 3, none⟩ (.slice ao n c)) u x := fun {u x} hu => OL.heap hu fun k hk => Below.heap_setCell _ _ _ _ fun e => by
    obtain ⟨c1, k1⟩ := OL.elem hu k hk
    obtain ⟨c2, k2⟩ := OL.elem h2 g rfl
    have e' : k = g := e
    rw [e'] at k1
    exact type_ne k1 k2 (by decide) rfl
  refine ⟨vs.set i (.slice ao n c), by rw [List.length_set, List.length_set]; exact h1, by rw [List.length_set]; exact h5, fun u hu => ?_, fun j hj => ?_⟩
  · rw [← lks_cut L vs i cs _ h1 hi] at hu
    rcases List.mem_or_eq_of_mem_set hu with hu | rfl
    · exact h3 u hu
    · rfl
  · rw [List.length_set] at hj
    by_cases e : i = j
    · subst e
      rw [lk_set_self hi, getD_set_self (by omega)]
      exact ho hv
    · rw [lk_set_ne e, getD_set_ne e]
      exact ho (h4 j hj)
set_option maxRecDepth 100000 in
set_option maxHeartbeats 6400000 in
theorem rdown_any (h : RefAt w (.slice tao ts.length tc) (.slice lao L.length lc) ts L) (hL : L.length ≤ 1000000) (hC : ∀ l ∈ L, l.cuts.length ≤ 1000000) (f t : Int) : Calls Try.prog 29 #[.agg #[.slice tao ts.length tc, .slice lao L.length lc], .string a, .string b, .int .i64 f, .int .i64 t] w (RConP ts (.slice tao ts.length tc) (downS L a b f t).1 (downS L a b f t).2 w) := by
  have HF := Lib.hid (fun (wx : World) (hc : ConW w tao ts.length tc lao lc L wx) => find_any (tao := tao) (tn := ts.length) (tc := tc) (a := a) (b := b) (h.2.below hc.all.1))
  have HL := Lib.hid (fun (wx : World) (hc : ConW w tao ts.length tc lao lc L wx) => h.2.below hc.all.1)
  have C0 : ConW w tao ts.length tc lao lc L ((w.alloc (.cells #[.slice tao ts.length tc, .slice lao L.length lc] 31)).alloc (.cells #[.slice none 0 0, .slice none 0 0] 31)) := ⟨Below.refl _ _⟩
  have HSAME : Hid (∀ (wx : World) (code : Int), ConW w tao ts.length tc lao lc L wx → RConP ts (.slice tao ts.length tc) L code w (.returned (.tuple #[.agg #[.slice tao ts.length tc, .slice lao L.length lc], .int .i64 code])) ((wx.setCell ⟨w.heap.size + 1, 0, none⟩ (.slice tao ts.length tc)).setCell ⟨w.heap.size + 1, 1, none⟩ (.slice lao L.length lc))) := Lib.hid fun wx code hc => ⟨lao, lc, rfl, (hc.wrote _ _).2.2 (h.2.below hc.all.1), (hc.wrote _ _).2.1⟩
  have hTL : ts.length ≤ 9223372036854775807 := by obtain ⟨_, _, _, hn, _⟩ := h.1; exact hn
  clear h
  unfold FindP at HF
  have CC0 := Lib.hid C0
  obtain ⟨x0, x1, p0, p1, f0, f1⟩ := C0.back
  clear C0
  cases hf : fnd L a b with
  | none =>
    rw [downS_none hf]
    rw [hf] at HF
    unfold fndI at HF
    show Calls _ _ _ _ (RConP ts (.slice tao ts.length tc) L 3 w)
    go_enter Try.func29, Try.ntmps29
    go_wp2_with fail
    refine (HF.out _ CC0.out).mono ?_
    rintro e w1 ⟨rfl, hb1⟩
    have C1 := Lib.hid (CC0.out.on hb1)
    obtain ⟨x0, x1, p0, p1, f0, f1⟩ := C1.out.back
    have HP := Lib.hid (HSAME.out w1 3 C1.out)
    have HW := Lib.hid (C1.out.wrote (.slice tao ts.length tc) (.slice lao L.length lc)).1
    clear hb1
    go_wp2_with fail
    try simp only [Exit.inBlock, Exit.then]
    refine bodyPost_ret (results_cell2 rfl _ _ (w.heap.size + 1) 31 _ (0, 0) _ rfl HW.out Try.underlying31 rfl (by kernel_rfl)) rfl ?_
    exact HP.out
  | some i =>
    have hi := (fnd_some hf).1
    rw [hf] at HF
    unfold fndI at HF
    by_cases hft : t < f
    · rw [downS_ord hf hft]
      clear hf
      show Calls _ _ _ _ (RConP ts (.slice tao ts.length tc) L 7 w)
      go_enter Try.func29, Try.ntmps29
      go_wp2_with fail
      refine (HF.out _ CC0.out).mono ?_
      rintro e w1 ⟨rfl, hb1⟩
      have C1 := Lib.hid (CC0.out.on hb1)
      obtain ⟨x0, x1, p0, p1, f0, f1⟩ := C1.out.back
      have HP := Lib.hid (HSAME.out w1 7 C1.out)
      have HW := Lib.hid (C1.out.wrote (.slice tao ts.length tc) (.slice lao L.length lc)).1
      clear hb1
      go_wp2_with fail
      try simp only [Exit.inBlock, Exit.then]
      refine bodyPost_ret (results_cell2 rfl _ _ (w.heap.size + 1) 31 _ (0, 0) _ rfl HW.out Try.underlying31 rfl (by kernel_rfl)) rfl ?_
      exact HP.out
    · rw [downS_ok hf hft]
      show Calls _ _ _ _ (RConP ts (.slice tao ts.length tc) (L.set i { lk L i with cuts := (lk L i).cuts ++ [(clipT f, clipT t)] }) 0 w)
      have hcl := hC _ (lk_mem hi)
      clear hf
      go_enter Try.func29, Try.ntmps29
      go_wp2_with fail
      refine (HF.out _ CC0.out).mono ?_
      rintro e w2 ⟨rfl, hb1⟩
      have C2 := Lib.hid (CC0.out.on hb1)
      obtain ⟨g, off, cap, w3, hap, hR3, hg3, hb3⟩ := (HL.out w2 C2.out).copy hL
      have C3 := Lib.hid (C2.out.on hb3)
      have C2a := Lib.hid (C2.out.on ((Below.refl w2.heap.size w2).alloc (Nat.le_refl _) (.cells #[] 99)))
      obtain ⟨x0, x1, p0, p1, f0, f1⟩ := C2.out.back
      obtain ⟨y0, y1, _, _, _, _⟩ := C2a.out.back
      obtain ⟨co, cc, k0, hcu, _⟩ := hR3.cuts hi
      obtain ⟨g4, off4, cap4, w4, hap4, hC4, hg4, hb4⟩ := hcu.copy hcl
      obtain ⟨ao5, cap5, w5, hap5, hC5, hg5⟩ := hC4.more hcl (clipT f, clipT t)
      have hb5 : Below w3.heap.size w3 w5 := hb4.grown hg5 hb4.size fun k hk => by have : g4 = k := Option.some.inj hk; omega
      have hR5 := hR3.below hb5
      have C5 := Lib.hid (C3.out.on hb5)
      have hR6 := hR5.cut hi hC5
      obtain ⟨co', cc', k5, _, fz5⟩ := hR5.cuts hi
      have k3a : (w3.alloc (.cells #[] 101)).cell? ⟨g, off + i * 4 + 3, none⟩ = some (.slice co (lk L i).cuts.length cc) := (((Below.refl w3.heap.size w3).alloc (Nat.le_refl _) (.cells #[] 101)).cell (p := ⟨g, off + i * 4 + 3, none⟩) (World.block_lt_of_cell? _ _ k0)).trans k0
      have C6 := Lib.hid (show ConW w tao ts.length tc lao lc L (w5.setCell ⟨g, off + i * 4 + 3, none⟩ (.slice ao5 ((lk L i).cuts.length + 1) cap5)) from ⟨C5.out.be.setCell (by
        have h2 := C2.out.all.2.2.2
        show w.heap.size + 2 ≤ g
        omega) _⟩)
      obtain ⟨u0, u1, v0, v1, q0, q1⟩ := C6.out.back
      have HP : Hid (RConP ts (.slice tao ts.length tc) (L.set i { lk L i with cuts := (lk L i).cuts ++ [(clipT f, clipT t)] }) 0 w (.returned (.tuple #[.agg #[.slice tao ts.length tc, .slice (some ⟨g, off, none⟩) L.length cap], .int .i64 0])) (((w5.setCell ⟨g, off + i * 4 + 3, none⟩ (.slice ao5 ((lk L i).cuts.length + 1) cap5)).setCell ⟨w.heap.size + 1, 0, none⟩ (.slice tao ts.length tc)).setCell ⟨w.heap.size + 1, 1, none⟩ (.slice (some ⟨g, off, none⟩) L.length cap))) := Lib.hid ⟨some ⟨g, off, none⟩, cap, by rw [List.length_set], by rw [List.length_set]; exact (C6.out.wrote _ _).2.2 hR6, (C6.out.wrote _ _).2.1⟩
      have HW := Lib.hid (C6.out.wrote (.slice tao ts.length tc) (.slice (some ⟨g, off, none⟩) L.length cap)).1
      have hiI : (i : Int) < (L.length : Int) := by omega
      have hi0 : (0 : Int) ≤ (i : Int) := by omega
      have HAP := Lib.hid hap
      have HAP4 := Lib.hid hap4
      have HAP5 := Lib.hid hap5
      have hft' : f ≤ t := by omega
      clear hb1 hap hR3 hb3 hcu hap4 hC4 hb4 hap5 hC5 hg5 hb5 hR5 hR6 hft
      generalize (lk L i).cuts.length = nc at *
      go_wp2_with (first
        | (refine wpList_append_run (v := .slice (some ⟨w2.heap.size, 0, none⟩) 0 0) (xv := .slice lao L.length lc) rfl (.tmp 25) (.tmp 27) _ _ rfl (by rfl) (by rfl) HAP.out ?_)
        | (refine wpList_append_run (v := .slice (some ⟨w3.heap.size, 0, none⟩) 0 0) (xv := .slice co nc cc) rfl (.tmp 31) (.tmp 36) _ _ rfl (by rfl) (by rfl) HAP4.out ?_)
        | (refine wpList_append_run (v := .slice (some ⟨g4, off4, none⟩) nc cap4) (xv := .slice (some ⟨w4.heap.size, 0, none⟩) 1 1) rfl (.tmp 37) (.tmp 43) _ _ rfl (by rfl) (by rfl) HAP5.out ?_)
        | (go_at_call 22; refine (time_any _ _).mono ?_; rintro e wz ⟨rfl, hwz⟩; obtain rfl : w4 = wz := hwz.symm))
      try simp only [Exit.inBlock, Exit.then]
      refine bodyPost_ret (results_cell2 rfl _ _ (w.heap.size + 1) 31 _ (0, 0) _ rfl HW.out Try.underlying31 rfl (by kernel_rfl)) rfl ?_
      exact HP.out
end
end Go.Proofs.Ytpcapmialdmcaaa

/- What stores make of a copied queue. Conditions: none. -/
import Derived.Test.YtmdajndmobpgbaaZGrC
namespace Go.Proofs.Ytmdajndmobpgbaa
open Go.RowKit
open Go.Proofs.Ytmdajndmobpgbaa.Fq

section
variable {K : Nat → Prop} {B : Nat} {w w' wx : World} {vq v' : Value} {gd od cd gl ol cl t : Nat} {lv : List Value} {s : FQ} {l' : List Ent}
theorem RQF.heapQ (h : RQF B w vq gd od cd gl ol cl lv s) (hk : ∀ (b : Nat) (cs : Array Value) (t : TypeId), t ≠ 55 → w.heap[b]? = some (Obj.cells cs t (0, 0)) → w'.heap[b]? = w.heap[b]?) : RQF B w' vq gd od cd gl ol cl lv s := by
  have key : ∀ {e : TypeId} {size n : Nat} {u : Value} {xs : List Value}, e ≠ 55 → OL w e size u n xs → OL w' e size u n xs := fun {e size n u xs} he ho => OL.heap ho fun g hg => by
    obtain ⟨cur, hc⟩ := OL.elem ho g hg
    exact hk g _ _ he hc
  exact { h with q := key (by decide) h.q, d := key (by decide) h.d, l := key (by decide) h.l, e := fun t ht => key (by decide) (h.e t ht) }
theorem RQF.bel (h : RQF B w vq gd od cd gl ol cl lv s) (hb : Below w.heap.size w w') : RQF B w' vq gd od cd gl ol cl lv s := h.heapQ fun b cs t _ hc => hb.block b (lt_of_block hc)
theorem RQF.rqk (h : RQF B w vq gd od cd gl ol cl lv s) (hq : ∀ g, vq.ownBlock = some g → K g) : RQK (fun k => K k ∨ B ≤ k) w vq (.slice (some ⟨gd, od, none⟩) s.m cd) (.slice (some ⟨gl, ol, none⟩) s.m cl) lv s :=
  ⟨⟨h.q, h.d, h.l, h.lvl, h.one, h.e, h.lq, h.ld⟩, fun g hg => .inl (hq g hg), fun g hg => .inr (by have : gd = g := Option.some.inj hg; rw [← this]; exact h.bd), fun g hg => .inr (by have : gl = g := Option.some.inj hg; rw [← this]; exact h.bl), fun t g hg => .inr (h.be t g hg)⟩
theorem lv_set_self {x : Value} (ht : t < lv.length) : (lv.set t x).getD t nilS = x := by simp [List.getD, ht]
theorem lv_set_ne {x : Value} {u : Nat} (h : t ≠ u) : (lv.set t x).getD u nilS = lv.getD u nilS := by simp [List.getD, List.getElem?_set_ne h]
theorem RQF.setL (h : RQF B w vq gd od cd gl ol cl lv s) (ht : t < s.m) (hg : w.grownBy wx (lv.getD t nilS).ownBlock) (hv : OL wx 129 2 v' l'.length (entCells l')) (hv1 : v'.oneCell' = true) (hown : ∀ g, v'.ownBlock = some g → B ≤ g ∧ ∀ t', t' ≠ t → (lv.getD t' nilS).ownBlock ≠ some g) :
    RQF B (wx.setCell ⟨gl, ol + t, none⟩ v') vq gd od cd gl ol cl (lv.set t v') (FQ.setL s t l') := by
  have hm := setL_m s t l'
  have keep : ∀ {e : TypeId} {size n : Nat} {u : Value} {xs : List Value}, e ≠ 129 → OL w e size u n xs → OL wx e size u n xs := fun {e size n u xs} he ho => ho.kept hg fun k hk e2 => by
    obtain ⟨c1, k1⟩ := OL.elem ho k hk
    obtain ⟨c2, k2⟩ := OL.elem (h.e t ht) k e2.symm
    exact type_ne k1 k2 he rfl
  have hl2 := keep (by decide) h.l
  obtain ⟨cl2, hgl⟩ := OL.elem hl2 gl rfl
  have set : ∀ {e : TypeId} {size n : Nat} {u : Value} {xs : List Value}, e ≠ 127 → OL wx e size u n xs → OL (wx.setCell ⟨gl, ol + t, none⟩ v') e size u n xs := fun {e size n u xs} he ho => OL.heap ho fun k hk => Below.heap_setCell _ _ _ _ (by
    obtain ⟨c1, k1⟩ := OL.elem ho k hk
    exact type_ne k1 hgl he)
  have hlen : t < lv.length := by rw [h.lvl]; exact ht
  refine ⟨?_, h.qB, ?_, ?_, by rw [List.length_set, hm]; exact h.lvl, fun u hu => ?_, fun t' ht' => ?_, h.bd, h.bl, fun t' g hg => ?_, fun t1 t2 g hne h1 h2 => ?_, by rw [hm]; exact h.lq, by rw [hm]; exact h.ld⟩
  · rw [hm]; exact set (by decide) (keep (by decide) h.q)
  · rw [hm]; exact set (by decide) (keep (by decide) h.d)
  · rw [hm]
    exact OL.setCell hl2 t (by omega) v'
  · rcases List.mem_or_eq_of_mem_set hu with hu | rfl
    · exact h.one u hu
    · exact hv1
  · rw [hm] at ht'
    by_cases e : t = t'
    · subst e
      rw [lv_set_self hlen, setL_lst_self ht]
      exact set (by decide) hv
    · rw [lv_set_ne e, setL_lst_ne e]
      exact set (by decide) ((h.e t' ht').kept hg fun g hg' e2 => h.ap t' t g (fun x => e x.symm) hg' e2.symm)
  · by_cases e : t = t'
    · subst e
      rw [lv_set_self hlen] at hg
      exact (hown g hg).1
    · rw [lv_set_ne e] at hg
      exact h.be t' g hg
  · by_cases e1 : t = t1
    · subst e1
      rw [lv_set_self hlen] at h1
      rw [lv_set_ne hne] at h2
      exact (hown g h1).2 t2 (fun x => hne x.symm) h2
    · rw [lv_set_ne e1] at h1
      by_cases e2 : t = t2
      · subst e2
        rw [lv_set_self hlen] at h2
        exact (hown g h2).2 t1 (fun x => e1 x.symm) h1
      · rw [lv_set_ne e2] at h2
        exact h.ap t1 t2 g hne h1 h2
theorem RQF.setDef (h : RQF B w vq gd od cd gl ol cl lv s) (ht : t < s.m) (x : Int) : RQF B (w.setCell ⟨gd, od + t, none⟩ (.int .i64 x)) vq gd od cd gl ol cl lv { s with defs := s.defs.set t x } := by
  obtain ⟨cd2, hgd⟩ := OL.elem h.d gd rfl
  have set : ∀ {e : TypeId} {size n : Nat} {u : Value} {xs : List Value}, e ≠ 3 → OL w e size u n xs → OL (w.setCell ⟨gd, od + t, none⟩ (.int .i64 x)) e size u n xs := fun {e size n u xs} he ho => OL.heap ho fun k hk => Below.heap_setCell _ _ _ _ (by
    obtain ⟨c1, k1⟩ := OL.elem ho k hk
    exact type_ne k1 hgd he)
  refine { h with q := ?_, d := ?_, l := set (by decide) h.l, e := fun t ht => set (by decide) (h.e t ht), ld := by show (s.defs.set t x).length = _; rw [List.length_set]; exact h.ld }
  · exact OL.heap h.q fun g hg => Below.heap_setCell _ _ _ _ (fun e => by
      have h1 := h.qB g hg
      have h2 := h.bd
      have e' : g = gd := e
      omega)
  · have := OL.setCell h.d t (by omega) (.int .i64 x)
    rw [← ints_set] at this
    exact this
/-- The cells. -/
theorem RQF.cell_l (h : RQF B w vq gd od cd gl ol cl lv s) (ht : t < s.m) : w.cell? ⟨gl, ol + t, none⟩ = some (lv.getD t nilS) ∧ w.frozen? ⟨gl, ol + t, none⟩ = false := by
  refine ⟨?_, OL.free h.l _⟩
  rw [OL.cell h.l t (by omega)]
  simp [List.getD, h.lvl, ht]
theorem RQF.cell_d (h : RQF B w vq gd od cd gl ol cl lv s) (ht : t < s.m) : w.cell? ⟨gd, od + t, none⟩ = some (.int .i64 (s.df t)) ∧ w.frozen? ⟨gd, od + t, none⟩ = false := by
  refine ⟨?_, OL.free h.d _⟩
  rw [OL.cell h.d t (by omega), ints_get _ _ (by rw [h.ld]; exact ht)]
  rfl
theorem rq_cell_q {n c : Nat} {qg qo : Nat} (h : OL w 3 1 (.slice (some ⟨qg, qo, none⟩) n c) n (ints s.quanta)) (hn : s.quanta.length = n) (ht : t < n) : w.cell? ⟨qg, qo + t, none⟩ = some (.int .i64 (s.qn t)) := by
  rw [OL.cell h t (by omega), ints_get _ _ (by omega)]
  rfl
theorem ents_more {v : Value} {l : List Ent} {q : Nat} {e : Ent} (h : OL w 129 2 v l.length (entCells l)) (hn : l.length ≤ 1000000) (hq : w.heap[q]? = some (.cells #[.int .i64 e.1, .int .i64 e.2] 129 (0, 0))) :
    ∃ ao cap w', (Builtin.append_ #[127, 127] 127 #[v, .slice (some ⟨q, 0, none⟩) 1 1]).run Try.prog w = .ok (.slice ao (l.length + 1) cap) w' ∧ OL w' 129 2 (.slice ao (l.length + 1) cap) (l ++ [e]).length (entCells (l ++ [e])) ∧ w.grownBy w' v.ownBlock ∧ ((Value.slice ao (l.length + 1) cap).ownBlock = v.ownBlock ∨ (Value.slice ao (l.length + 1) cap).ownBlock = some w.heap.size) := by
  obtain ⟨ti, hi, iz, is, ib⟩ := info_parts infoEn
  have hsrc : Src Try.prog 2 127 (.slice (some ⟨q, 0, none⟩) 1 1) 1 (entCells [e]) w :=
    (OL.of_block (cs := entCells [e]) (size := 2) (n := 1) hq rfl (by simp [maxLen])).src Try.underlying127 (ent_one _)
  obtain ⟨v', w', hap, ho, hgr, hown⟩ := h.append (P := Try.prog) 127 127 127 ti _ 16 Try.underlying127 hi iz is ib rfl (by omega) hsrc (by unfold maxLen; omega) (by omega)
  obtain ⟨g, off, cap, rfl, _⟩ := ho.form (by omega)
  refine ⟨_, cap, w', hap, ?_, hgr, hown⟩
  rw [List.length_append, entCells_append]
  exact ho
end
end Go.Proofs.Ytmdajndmobpgbaa

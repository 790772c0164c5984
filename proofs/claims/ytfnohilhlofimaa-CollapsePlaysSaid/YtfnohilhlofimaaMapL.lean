/- Maps as functions of their keys: the number of keys; a delete. Over any program. -/
import Derived.Test.YtfnohilhlofimaaMap
namespace Go.Proofs.Ytfnohilhlofimaa
open Go.RowKit Go.Maps Go.ChangeShapes Go.WideShapes Go.WideMaps

section
variable {P : Program} {k e t : TypeId} {w w' : World} {b : Nat} {f : Value → Option Value}
theorem MapF.len (ht : P.underlying t = some (.map k e)) (h : MapF P k w b f) {ks : List Value} (hn : ks.Nodup) (hm : ∀ x, (∃ v, f x = some v) ↔ x ∈ ks) (ty : TypeId) :
    (Builtin.len_ #[t] ty #[.map (some b)]).run P w = .ok (.int .i64 ks.length) w := by
  obtain ⟨es, c, hb, h1, h2, h3, h4⟩ := h
  have hnd : (es.toList.map (·.key)).Nodup := by
    unfold List.Nodup
    rw [List.pairwise_map]
    exact h2
  have hp : (es.toList.map (·.key)).Perm ks := (List.perm_ext_iff_of_nodup hnd hn).2 fun x => by
    rw [← hm x, List.mem_map]
    constructor
    · rintro ⟨y, hy, rfl⟩
      exact ⟨_, (h1 y hy).2⟩
    · rintro ⟨v, hv⟩
      exact h3 x v hv
  have hl := hp.length_eq
  rw [List.length_map, Array.length_toList] at hl
  rw [← hl]
  simp [Builtin.len_, run_underlying ht, goInt, MapKept.run_getObj_map hb, Result.andThen]
theorem apart_at {l : List MapEntry} (h : l.Pairwise fun x y => x.key ≠ y.key) {i j : Nat} {x y : MapEntry} (hi : l[i]? = some x) (hj : l[j]? = some y) (hne : i ≠ j) : x.key ≠ y.key := by
  obtain ⟨hi1, hi2⟩ := List.getElem?_eq_some_iff.1 hi
  obtain ⟨hj1, hj2⟩ := List.getElem?_eq_some_iff.1 hj
  rw [List.pairwise_iff_getElem] at h
  rcases Nat.lt_or_gt_of_ne hne with hlt | hlt
  · rw [← hi2, ← hj2]; exact h i j hi1 hj1 hlt
  · rw [← hi2, ← hj2]; exact fun e => h j i hj1 hi1 hlt e.symm
theorem MapF.del (K : Keyed P k) (ht : P.underlying t = some (.map k e)) (h : MapF P k w b f) {key : Value} (hk : IsK P k key) (ty : TypeId) :
    ∃ w', (Builtin.delete_ #[t, k] ty #[.map (some b), key]).run P w = .ok (.tuple #[]) w' ∧ MapF P k w' b (fdel f key) ∧ w.grownBy w' (some b) := by
  obtain ⟨es, c, hb, h1, h2, h3, h4⟩ := h
  obtain ⟨kl, hkey⟩ := hk
  have grown : ∀ o, w.grownBy { w with heap := w.heap.setIfInBounds b o } (some b) := fun o => ⟨rfl, rfl, rfl, by simp, fun j _ hj => (MapKept.heap_set hb).2 j (fun e => hj (by rw [e]))⟩
  have key_ : ∀ es' : Array MapEntry, (∀ x, x ∈ es'.toList ↔ (x ∈ es.toList ∧ x.key ≠ key)) → es'.toList.Sublist es.toList → MapKept.Stamped es' c → MapF P k { w with heap := w.heap.setIfInBounds b (.map es' c) } b (fdel f key) := fun es' hm hs hst => by
    refine ⟨_, _, (MapKept.heap_set hb).1, fun x hx => ?_, h2.sublist hs, fun key' v' hf => ?_, hst⟩
    · obtain ⟨ha, hb⟩ := (hm x).1 hx
      exact ⟨(h1 x ha).1, by rw [fdel_other hb]; exact (h1 x ha).2⟩
    · by_cases e : key' = key
      · rw [e, fdel_same] at hf; cases hf
      · rw [fdel_other e] at hf
        obtain ⟨x, hx, hxk⟩ := h3 key' v' hf
        exact ⟨x, (hm x).2 ⟨hx, by rw [hxk]; exact e⟩, hxk⟩
  rcases K.find w hkey es.toList (fun x hx => (h1 x hx).1) with ⟨f1, f2⟩ | ⟨j, e0, f1, f2, f3⟩
  · exact ⟨{ w with heap := w.heap.setIfInBounds b (.map es c) }, by simp [Builtin.delete_, run_underlying ht, MapKept.run_getObj_map hb, K.check w _ hkey, f1, MapKept.run_setObj_map _ hb, Result.andThen], key_ es (fun x => ⟨fun hx => ⟨hx, f2 x hx⟩, fun hx => hx.1⟩) (List.Sublist.refl _) h4, grown _⟩
  · have hjl : j < es.toList.length := (List.getElem?_eq_some_iff.1 f2).1
    have hjs : j < es.size := by simpa using hjl
    have hsub : (es.eraseIdxIfInBounds j).toList = es.toList.eraseIdx j := by
      unfold Array.eraseIdxIfInBounds
      rw [dif_pos hjs]
      simp
    refine ⟨{ w with heap := w.heap.setIfInBounds b (.map (es.eraseIdxIfInBounds j) c) }, by simp [Builtin.delete_, run_underlying ht, MapKept.run_getObj_map hb, K.check w _ hkey, f1, MapKept.run_setObj_map _ hb, Result.andThen], key_ _ (fun x => ?_) (by rw [hsub]; exact List.eraseIdx_sublist _ _) (MapKept.stamped_erase h4 j), grown _⟩
    rw [hsub, List.mem_eraseIdx_iff_getElem?]
    constructor
    · rintro ⟨i, hne, hi⟩
      exact ⟨List.mem_of_getElem? hi, by rw [← f3]; exact apart_at h2 hi f2 hne⟩
    · rintro ⟨hx, hne⟩
      obtain ⟨i, hi⟩ := List.getElem?_of_mem hx
      refine ⟨i, fun e => hne ?_, hi⟩
      rw [e, f2] at hi
      rw [← Option.some.inj hi, f3]
end
end Go.Proofs.Ytfnohilhlofimaa

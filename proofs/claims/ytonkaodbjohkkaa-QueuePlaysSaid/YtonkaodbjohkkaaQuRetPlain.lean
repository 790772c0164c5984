/- queue: the puts of QueueReturns, in plain words. -/
import Derived.Test.YtonkaodbjohkkaaQuN
namespace Go.Proofs.Ytonkaodbjohkkaa
open Go.RowKit

section
variable {A B C D : ByteArray}
/-- Four keys that differ. -/
structure Diff (A B C D : ByteArray) : Prop where
  ab : eqB A B = false
  ac : eqB A C = false
  ad : eqB A D = false
  bc : eqB B C = false
  bd : eqB B D = false
  cd : eqB C D = false
  ba : eqB B A = false
  ca : eqB C A = false
  da : eqB D A = false
  cb : eqB C B = false
  db : eqB D B = false
  dc : eqB D C = false
theorem Diff.of (ab : A ≠ B) (ac : A ≠ C) (ad : A ≠ D) (bc : B ≠ C) (bd : B ≠ D) (cd : C ≠ D) : Diff A B C D :=
  ⟨eqB_ne ab, eqB_ne ac, eqB_ne ad, eqB_ne bc, eqB_ne bd, eqB_ne cd, eqB_ne ab.symm, eqB_ne ac.symm, eqB_ne ad.symm, eqB_ne bc.symm, eqB_ne bd.symm, eqB_ne cd.symm⟩
theorem rt1 : putS ⟨100, [], [], []⟩ A 40 = (⟨100, [(A, 40)], [], []⟩, []) := by
  rw [put_s (z1 := 40) (s1 := ⟨100, [(A, 40)], [], []⟩) (by decide) (by decide) rfl, ev_stop (by simp [sumI])]
theorem rt2 (d : Diff A B C D) : putS ⟨100, [(A, 40)], [], []⟩ B 40 = (⟨100, [(B, 40), (A, 40)], [], []⟩, []) := by
  rw [put_s (z1 := 40) (s1 := ⟨100, [(B, 40), (A, 40)], [], []⟩) (by decide) (by simp) (by simp [putIn, often, base, hasL_nil, remL_nil, remL_cons, d.ab]), ev_stop (by simp [sumI])]
theorem rt3 (d : Diff A B C D) : putS ⟨100, [(B, 40), (A, 40)], [], []⟩ C 40 = (⟨100, [(C, 40), (B, 40)], [], [(A, 0)]⟩, [A]) := by
  rw [put_s (z1 := 40) (s1 := ⟨100, [(C, 40), (B, 40), (A, 40)], [], []⟩) (by decide) (by simp) (by simp [putIn, often, base, hasL_nil, remL_nil, remL_cons, d.ac, d.bc])]
  show evict (2 + 1) _ _ = _
  rw [ev_r (k := A) (s2 := ⟨100, [(C, 40), (B, 40)], [], [(A, 0)]⟩) (by simp [sumI]) (.inl (by simp [sumI])) rfl rfl, ev_stop (by simp [sumI])]
  rfl
theorem rt4 (d : Diff A B C D) : putS ⟨100, [(C, 40), (B, 40)], [], [(A, 0)]⟩ D 40 = (⟨100, [(D, 40), (C, 40)], [], [(B, 0), (A, 0)]⟩, [B]) := by
  rw [put_s (z1 := 40) (s1 := ⟨100, [(D, 40), (C, 40), (B, 40)], [], [(A, 0)]⟩) (by decide) (by simp) (by simp [putIn, often, base, hasL_nil, hasL_cons, remL_nil, remL_cons, d.ad, d.bd, d.cd])]
  show evict (2 + 1) _ _ = _
  rw [ev_r (k := B) (s2 := ⟨100, [(D, 40), (C, 40)], [], [(B, 0), (A, 0)]⟩) (by simp [sumI]) (.inl (by simp [sumI])) rfl rfl, ev_stop (by simp [sumI])]
  rfl
theorem rt5 (d : Diff A B C D) : putS ⟨100, [(D, 40), (C, 40)], [], [(B, 0), (A, 0)]⟩ A 5 = (⟨100, [(D, 40), (C, 40)], [(A, 5)], [(B, 0)]⟩, []) := by
  rw [put_s (z1 := 5) (s1 := ⟨100, [(D, 40), (C, 40)], [(A, 5)], [(B, 0)]⟩) (by decide) (by simp) (by simp [putIn, often, base, hasL_nil, hasL_cons, remL_nil, remL_cons, eqB_self, d.ba, d.da, d.ca]), ev_stop (by simp [sumI])]
theorem rt6 (d : Diff A B C D) : putS ⟨100, [(D, 40), (C, 40)], [(A, 5)], [(B, 0)]⟩ B 5 = (⟨100, [(D, 40), (C, 40)], [(B, 5), (A, 5)], []⟩, []) := by
  rw [put_s (z1 := 5) (s1 := ⟨100, [(D, 40), (C, 40)], [(B, 5), (A, 5)], []⟩) (by decide) (by simp) (by simp [putIn, often, base, hasL_nil, hasL_cons, remL_nil, remL_cons, eqB_self, d.ab, d.db, d.cb]), ev_stop (by simp [sumI])]
theorem rt7 (d : Diff A B C D) : TouchS ⟨100, [(D, 40), (C, 40)], [(B, 5), (A, 5)], []⟩ A = ⟨100, [(D, 40), (C, 40)], [(A, 5), (B, 5)], []⟩ := by
  have h : idxN [((B, 5) : It), (A, 5)] A = some 1 := by unfold idxN; simp [List.findIdx?_cons, d.ba, eqB_self]
  unfold TouchS
  rw [show idxN (QS.mk 100 [(D, 40), (C, 40)] [(B, 5), (A, 5)] []).f A = some 1 from h]
  show QS.mk _ _ (_ :: remL [((B, 5) : It), (A, 5)] A) _ = _
  rw [remL_cons, remL_cons, d.ba, eqB_self]
  rfl
theorem rt8 {K : ByteArray} {s : QS} (h : hasL s.f K = false) : TouchS s K = s := by
  unfold TouchS
  unfold hasL at h
  cases hi : idxN s.f K with
  | none => rfl
  | some i => rw [hi] at h; cases h
end
end Go.Proofs.Ytonkaodbjohkkaa

/- queue: the puts of QueueGhosts, in plain words; a put leaves texts as they are. -/
import Derived.Test.YtonkaodbjohkkaaQuReturns
namespace Go.Proofs.Ytonkaodbjohkkaa
open Go.RowKit

def kk (m : Nat) : ByteArray := ⟨#[107]⟩ ++ keyB m
theorem kk_ne {i j : Nat} (hi : i ≤ 255) (hj : j ≤ 255) (h : i ≠ j) : kk i ≠ kk j := fun e => by
  have e1 := congrArg (fun z => z.data.toList) e
  simp only [kk, data_cat, keyB, strOfNums_data] at e1
  simp only [List.map_cons, List.map_nil, List.cons_append, List.nil_append, List.cons.injEq, and_true, true_and] at e1
  have a := congrArg UInt8.toNat e1.1
  have b := congrArg UInt8.toNat e1.2
  simp only [UInt8.toNat_ofNat'] at a b
  omega
def evs : Nat → List ByteArray
  | 0 => []
  | n + 1 => kk n :: evs n
theorem evs_mem {x : ByteArray} : ∀ {n : Nat}, x ∈ evs n → ∃ m, m < n ∧ x = kk m
  | 0, h => by cases h
  | n + 1, h => by
    rcases List.mem_cons.1 h with rfl | h
    · exact ⟨n, by omega, rfl⟩
    · obtain ⟨m, h1, h2⟩ := evs_mem h
      exact ⟨m, by omega, h2⟩
theorem evs_len : ∀ n, (evs n).length = n
  | 0 => rfl
  | n + 1 => by show (evs n).length + 1 = _; rw [evs_len n]
def zeros (l : List ByteArray) : List It := l.map fun x => (x, 0)
theorem hasL_zeros {l : List ByteArray} {k : ByteArray} (h : ∀ x ∈ l, eqB x k = false) : hasL (zeros l) k = false := by
  induction l with
  | nil => rfl
  | cons x l ih =>
    show hasL ((x, 0) :: zeros l) k = false
    rw [hasL_cons, h x List.mem_cons_self, ih fun y hy => h y (List.mem_cons_of_mem _ hy)]
    rfl
theorem remL_zeros {l : List ByteArray} {k : ByteArray} (h : ∀ x ∈ l, eqB x k = false) : remL (zeros l) k = zeros l := by
  induction l with
  | nil => rfl
  | cons x l ih =>
    show remL ((x, 0) :: zeros l) k = (x, 0) :: zeros l
    rw [remL_cons, h x List.mem_cons_self, ih fun y hy => h y (List.mem_cons_of_mem _ hy)]
    rfl
theorem ghost_zeros (l : List ByteArray) (x : ByteArray) : ghost (zeros (l.take 64)) x = zeros ((x :: l).take 64) := by
  unfold ghost
  have hlen : (zeros (l.take 64)).length = min 64 l.length := by unfold zeros; rw [List.length_map, List.length_take]
  split
  · rename_i h
    have h2 : 64 ≤ l.length := by omega
    show (((x, 0) : It) :: zeros (l.take 64)).dropLast = zeros (x :: l.take 63)
    have hne : zeros (l.take 64) ≠ [] := fun e => by rw [e] at hlen; simp at hlen; omega
    rw [List.dropLast_cons_of_ne_nil hne]
    show _ = ((x, 0) : It) :: zeros (l.take 63)
    congr 1
    unfold zeros
    rw [← List.map_dropLast, List.dropLast_eq_take, List.take_take, List.length_take, show min (min 64 l.length - 1) 64 = 63 by omega]
  · rename_i h
    have h2 : l.length ≤ 63 := by omega
    rw [List.take_of_length_le (show l.length ≤ 64 by omega), List.take_of_length_le (by simp; omega)]
    rfl
def gS : Nat → QS
  | 0 => ⟨1, [], [], []⟩
  | i + 1 => ⟨1, [(kk i, 1)], [], zeros ((evs i).take 64)⟩
theorem gS_put0 : putS (gS 0) (kk 0) 1 = (gS 1, []) := by
  show putS ⟨1, [], [], []⟩ _ _ = _
  rw [put_s (z1 := 1) (s1 := ⟨1, [(kk 0, 1)], [], []⟩) (by decide) (by simp) rfl, ev_stop (by simp [sumI])]
  rfl
theorem gS_put {i : Nat} (hi : i + 1 ≤ 255) : putS (gS (i + 1)) (kk (i + 1)) 1 = (gS (i + 2), [kk i]) := by
  have h0 : ∀ x ∈ (evs i).take 64, eqB x (kk (i + 1)) = false := fun x hx => by
    obtain ⟨m, h1, rfl⟩ := evs_mem (List.mem_of_mem_take hx)
    exact eqB_ne (kk_ne (by omega) (by omega) (by omega))
  have h1 : eqB (kk i) (kk (i + 1)) = false := eqB_ne (kk_ne (by omega) (by omega) (by omega))
  show putS ⟨1, [(kk i, 1)], [], zeros ((evs i).take 64)⟩ _ _ = _
  rw [put_s (z1 := 1) (s1 := ⟨1, [(kk (i + 1), 1), (kk i, 1)], [], zeros ((evs i).take 64)⟩) (by decide) (by simp) (by simp [putIn, often, base, hasL_nil, remL_nil, remL_cons, h1, hasL_zeros h0, remL_zeros h0])]
  show evict (1 + 1) _ _ = _
  rw [ev_r (k := kk i) (s2 := ⟨1, [(kk (i + 1), 1)], [], zeros ((evs (i + 1)).take 64)⟩) (by simp [sumI]) (.inl (by simp [sumI])) rfl (by
    show QS.mk _ _ _ (ghost (zeros ((evs i).take 64)) (kk i)) = _
    rw [ghost_zeros]; rfl), ev_stop (by simp [sumI])]
  rfl
theorem zeros_fst (l : List ByteArray) : (zeros l).map Prod.fst = l := by unfold zeros; induction l with
  | nil => rfl
  | cons x l ih => show x :: _ = _; rw [ih]
theorem gS_gd {i : Nat} : QGd 5 (gS i) ∧ (gS i).g.length ≤ 64 ∧ sumI (gS i).r + sumI (gS i).f ≤ 2199023255552 := by
  cases i with
  | zero => exact ⟨gd_of (by simp [gS]) (by simp [gS]) (by simp [gS]) (by simp [gS]) (by simp [gS, sumI]) (by simp [gS]) (by simp [gS]), by simp [gS], by simp [gS, sumI]⟩
  | succ i =>
    have : (zeros ((evs i).take 64)).length ≤ 64 := by unfold zeros; rw [List.length_map, List.length_take]; omega
    exact ⟨gd_of (by simp [gS]) (by simp [gS]) (by simp [gS]) (by simp [gS]) (by simp [gS, sumI]) (by simp [gS]) (by show (zeros _).length ≤ _; omega), this, by simp [gS, sumI]⟩
section
variable {w w' : World} {B b c : Nat} {s : QS}
theorem b_put2 (h : QB B w b s) (hB : B ≤ w.heap.size) (g : QGd c s) (hg64 : s.g.length ≤ 64) (hsu : sumI s.r + sumI s.f ≤ 2199023255552) (hc : c ≤ 90000) (k : ByteArray) (z : Int) (hz : -9223372036854775808 ≤ z ∧ z ≤ 9223372036854775807) {R : QS × List ByteArray} (hR : putS s k z = R) :
    Calls Try.prog 13 #[.pointer (some ⟨b, 0, none⟩), .string k, .int .i64 z] w fun e w' => TxtP B b R.1 R.2 w e w' ∧ ∀ v l, IsT w v l → IsT w' v l := by
  subst hR
  obtain ⟨vr, vf, vg, h1, ha⟩ := h
  refine (q_put (P := QAl b vr vf vg) ⟨vr, vf, vg, h1, fun k hk => hk⟩ g hg64 hsu hc k z hz).mono ?_
  rintro e w1 ⟨v, rfl, hT, _, hq⟩
  obtain ⟨h2, h3⟩ := QB.of_up (fun k hk => ha k hk) hB hq
  obtain ⟨ao, cap, rfl, _⟩ := hT.form
  refine ⟨⟨ao, cap, rfl, hT, h2, h3⟩, fun v l hv => OL.heap hv fun j hj => hq.only.block j (OL.lt hv j hj) fun hk => ?_⟩
  obtain ⟨cv, hcv⟩ := OL.elem hv j hj
  rcases hk with e | e | e | e
  · rw [e] at hcv; exact type_ne hcv h1.c (by decide) rfl
  · obtain ⟨c2, h4⟩ := OL.elem h1.r j e; exact type_ne hcv h4 (by decide) rfl
  · obtain ⟨c2, h4⟩ := OL.elem h1.f j e; exact type_ne hcv h4 (by decide) rfl
  · obtain ⟨c2, h4⟩ := OL.elem h1.g j e; exact type_ne hcv h4 (by decide) rfl
end
end Go.Proofs.Ytonkaodbjohkkaa

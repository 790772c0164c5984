/- queue: the keys of QueueScans, and what the law knows of them. No program. -/
import Derived.Test.YtonkaodbjohkkaaQuScP
namespace Go.Proofs.Ytonkaodbjohkkaa
open Go.RowKit

def b8 (n : Int) : UInt8 := UInt8.ofNat n.toNat
theorem keyB_list (n : Int) : (keyB n).data.toList = [b8 (97 + n % 16), b8 (48 + n / 16)] := rfl
theorem b8_inj {a b : Int} (ha : 0 ≤ a ∧ a ≤ 255) (hb : 0 ≤ b ∧ b ≤ 255) (h : b8 a = b8 b) : a = b := by
  have := congrArg UInt8.toNat h
  unfold b8 at this
  simp only [UInt8.toNat_ofNat'] at this
  omega
theorem keyB_inj {a b : Int} (ha : 0 ≤ a ∧ a ≤ 255) (hb : 0 ≤ b ∧ b ≤ 255) (h : (keyB a).data.toList = (keyB b).data.toList) : a = b := by
  rw [keyB_list, keyB_list] at h
  simp only [List.cons.injEq, and_true] at h
  have h1 := b8_inj (by omega) (by omega) h.1
  have h2 := b8_inj (by omega) (by omega) h.2
  omega
def hotK (n : Int) : ByteArray := ⟨#[104, 111, 116]⟩ ++ keyB n
def filK (i n : Int) : ByteArray := ⟨#[102, 105, 108, 108, 101, 114]⟩ ++ keyB i ++ keyB n ++ hotK n
def scanK (n i j : Int) : ByteArray := ⟨#[115, 99, 97, 110]⟩ ++ keyB n ++ keyB i ++ keyB j
theorem hotK_list (n : Int) : (hotK n).data.toList = [104, 111, 116] ++ (keyB n).data.toList := by unfold hotK; rw [data_cat]
theorem filK_list (i n : Int) : (filK i n).data.toList = [102, 105, 108, 108, 101, 114] ++ (keyB i).data.toList ++ (keyB n).data.toList ++ (hotK n).data.toList := by unfold filK; rw [data_cat, data_cat, data_cat]
theorem scanK_list (n i j : Int) : (scanK n i j).data.toList = [115, 99, 97, 110] ++ (keyB n).data.toList ++ (keyB i).data.toList ++ (keyB j).data.toList := by unfold scanK; rw [data_cat, data_cat, data_cat]
def by8 (n : Int) : Prop := 0 ≤ n ∧ n ≤ 255
theorem hotK_inj {a b : Int} (ha : by8 a) (hb : by8 b) (h : hotK a = hotK b) : a = b := by
  have := congrArg (fun x => x.data.toList) h
  simp only [hotK_list] at this
  exact keyB_inj ha hb (List.append_cancel_left this)
theorem filK_inj {i j a b : Int} (hi : by8 i) (hj : by8 j) (ha : by8 a) (hb : by8 b) (h : filK i a = filK j b) : i = j ∧ a = b := by
  have := congrArg (fun x => x.data.toList) h
  simp only [filK_list, hotK_list, keyB_list] at this
  simp only [List.cons_append, List.nil_append, List.append_assoc, List.cons.injEq, true_and, and_true] at this
  refine ⟨keyB_inj hi hj ?_, keyB_inj ha hb ?_⟩
  · rw [keyB_list, keyB_list, this.1, this.2.1]
  · rw [keyB_list, keyB_list, this.2.2.1, this.2.2.2.1]
theorem scanK_inj {n m i j i' j' : Int} (hi : by8 i) (hj : by8 i') (h : scanK n i j = scanK m i' j') : i = i' := by
  have := congrArg (fun x => x.data.toList) h
  simp only [scanK_list, keyB_list] at this
  simp only [List.cons_append, List.nil_append, List.append_assoc, List.cons.injEq, true_and, and_true] at this
  refine keyB_inj hi hj ?_
  rw [keyB_list, keyB_list, this.2.2.1, this.2.2.2.1]
theorem hot_fil (a i b : Int) : hotK a ≠ filK i b := fun h => by
  have := congrArg (fun x => x.data.toList) h
  simp [filK_list, hotK_list] at this
theorem hot_scan (a n i j : Int) : hotK a ≠ scanK n i j := fun h => by
  have := congrArg (fun x => x.data.toList) h
  simp [scanK_list, hotK_list] at this
theorem fil_scan (a b n i j : Int) : filK a b ≠ scanK n i j := fun h => by
  have := congrArg (fun x => x.data.toList) h
  simp [scanK_list, filK_list] at this
/-- The keys that were put for the numbers ns. -/
def KH (ns : List Int) (x : ByteArray) : Prop := ∃ m ∈ ns, by8 m ∧ (x = hotK m ∨ ∃ i, by8 i ∧ x = filK i m)
/-- .. and those for n, so many fillers. -/
def KF (ns : List Int) (n : Int) (j : Nat) (x : ByteArray) : Prop := KH ns x ∨ x = hotK n ∨ ∃ i : Nat, i < j ∧ x = filK i n
/-- .. and those of the scan. -/
def KS (ns : List Int) (j : Nat) (x : ByteArray) : Prop := KH ns x ∨ ∃ (n : Int) (i : Nat) (q : Int), i < j ∧ x = scanK n i q
section
variable {ns : List Int} {n : Int} {j : Nat}
theorem KH.hot_new (hn : by8 n) (h : n ∉ ns) : ¬ KH ns (hotK n) := by
  rintro ⟨m, hm, hb, e | ⟨i, _, e⟩⟩
  · exact h (hotK_inj hn hb e ▸ hm)
  · exact hot_fil _ _ _ e
theorem KF.fil_new (hn : by8 n) (h : n ∉ ns) (hj : j ≤ 255) : ¬ KF ns n j (filK j n) := by
  rintro (⟨m, hm, hb, e | ⟨i, hi, e⟩⟩ | e | ⟨i, hi, e⟩)
  · exact hot_fil _ _ _ e.symm
  · exact h ((filK_inj ⟨by omega, by omega⟩ hi hn hb e).2 ▸ hm)
  · exact hot_fil _ _ _ e.symm
  · have := (filK_inj ⟨by omega, by omega⟩ ⟨by omega, by omega⟩ hn hn e).1
    omega
theorem KS.scan_new (hj : j ≤ 255) (m q : Int) : ¬ KS ns j (scanK m j q) := by
  rintro (⟨m, hm, hb, e | ⟨i, _, e⟩⟩ | ⟨n', i, q', hi, e⟩)
  · exact hot_scan _ _ _ _ e.symm
  · exact fil_scan _ _ _ _ _ e.symm
  · have := scanK_inj ⟨by omega, by omega⟩ ⟨by omega, by omega⟩ e
    omega
theorem KF.zero {x : ByteArray} (h : KH ns x ∨ x = hotK n) : KF ns n 0 x := h.elim .inl (fun h => .inr (.inl h))
theorem KF.succ {x : ByteArray} (h : KF ns n j x ∨ x = filK j n) : KF ns n (j + 1) x := by
  rcases h with (h | h | ⟨i, hi, h⟩) | h
  · exact .inl h
  · exact .inr (.inl h)
  · exact .inr (.inr ⟨i, by omega, h⟩)
  · exact .inr (.inr ⟨j, by omega, h⟩)
theorem KF.all {x : ByteArray} (hn : by8 n) (hj : j ≤ 256) (h : KF ns n j x) : KH (n :: ns) x := by
  rcases h with ⟨m, hm, hb, h⟩ | h | ⟨i, hi, h⟩
  · exact ⟨m, List.mem_cons_of_mem _ hm, hb, h⟩
  · exact ⟨n, List.mem_cons_self .., hn, .inl h⟩
  · exact ⟨n, List.mem_cons_self .., hn, .inr ⟨i, ⟨by omega, by omega⟩, h⟩⟩
theorem KS.zero {x : ByteArray} (h : KH ns x) : KS ns 0 x := .inl h
theorem KS.succ {x : ByteArray} {m q : Int} (h : KS ns j x ∨ x = scanK m j q) : KS ns (j + 1) x := by
  rcases h with (h | ⟨n', i, q', hi, h⟩) | h
  · exact .inl h
  · exact .inr ⟨n', i, q', by omega, h⟩
  · exact .inr ⟨m, j, q, by omega, h⟩
end
/-- The hot keys with their sizes, the last one first. -/
def hotL (ns : List Int) : List It := ns.map fun n => (hotK n, 1 + n % 8)
/-- A hot key is present exactly if it was taken. -/
theorem hot_has {cap : Int} {K : ByteArray → Prop} {c : Nat} {s : QS} {ns : List Int} {n : Int} (h : ScI cap K (hotL ns) c s) (hK : ∀ x, K x → KH ns x) (hb : ∀ m ∈ ns, by8 m) (hn : by8 n) : ((hasL s.r (hotK n) || hasL s.f (hotK n)) = true) ↔ n ∈ ns := by
  rw [Bool.or_eq_true, hasL_iff, hasL_iff]
  constructor
  · intro e
    apply Classical.byContradiction
    intro hno
    have := (h.fresh (k := hotK n) fun hk => KH.hot_new hn hno (hK _ hk))
    exact e.elim this.1 this.2.1
  · intro e
    right
    rw [h.f]
    exact List.mem_map.2 ⟨(hotK n, 1 + n % 8), List.mem_map.2 ⟨n, e, rfl⟩, rfl⟩
theorem hot_in {cap : Int} {K : ByteArray → Prop} {c : Nat} {s : QS} {ns : List Int} {n : Int} (h : ScI cap K (hotL ns) c s) (hn : n ∈ ns) : (hasL s.r (hotK n) || hasL s.f (hotK n)) = true := by
  rw [Bool.or_eq_true, hasL_iff, hasL_iff]
  right
  rw [h.f]
  exact List.mem_map.2 ⟨(hotK n, 1 + n % 8), List.mem_map.2 ⟨n, hn, rfl⟩, rfl⟩
theorem hot_not_f {ns : List Int} {n : Int} (hb : ∀ m ∈ ns, by8 m) (hn : by8 n) (h : n ∉ ns) : hotK n ∉ (hotL ns).map Prod.fst := by
  intro e
  obtain ⟨x, hx, hxe⟩ := List.mem_map.1 e
  obtain ⟨m, hm, rfl⟩ := List.mem_map.1 hx
  exact h (hotK_inj (hb m hm) hn hxe ▸ hm)
end Go.Proofs.Ytonkaodbjohkkaa

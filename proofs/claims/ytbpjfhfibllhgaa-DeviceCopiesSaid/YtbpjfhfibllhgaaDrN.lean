/- Bytes of two equal lists; the device's pages are full. Conditions: the lists can be read. -/
import Derived.Test.YtbpjfhfibllhgaaDrM
import Derived.Lib.BufferRead
namespace Go.Proofs.Ytbpjfhfibllhgaa
open Go.RowKit
open Go.Proofs.Ytbpjfhfibllhgaa.Dv

theorem OL.str {w : World} {ao : Option Addr} {c : Nat} {l : List Int} (h : OL w 5 1 (.slice ao l.length c) l.length (bys l)) : (convert 22 9 (.slice ao l.length c)).run Try.prog w = .ok (.string (strOfNums l)) w := by
  rcases h.forms with ⟨e, e0⟩ | ⟨g, off, cap, e, _⟩
  · simp only [Value.slice.injEq] at e
    obtain ⟨rfl, _, rfl⟩ := e
    obtain rfl : l = [] := List.eq_nil_of_length_eq_zero e0
    exact run_convert_bytes_nil (P := Try.prog) w 22 5 Try.underlying22 Try.underlying5 _ _ 9 Try.underlying9
  · simp only [Value.slice.injEq, true_and] at e
    obtain ⟨rfl, rfl⟩ := e
    exact run_convert_bytes_arg (P := Try.prog) w 22 5 Try.underlying22 Try.underlying5 g off l.length c l rfl (fun i hi => by rw [h.cell i (by omega), bys_get l i hi]) 9 Try.underlying9
theorem bytes_eq {w : World} {ao1 ao2 : Option Addr} {c1 c2 m : Nat} {l : List Int} (hl : l.length = m) (h1 : OL w 5 1 (.slice ao1 m c1) m (bys l)) (h2 : OL w 5 1 (.slice ao2 m c2) m (bys l)) :
    Calls Try.prog 28 #[.slice ao1 m c1, .slice ao2 m c2] w fun e w' => e = .returned (.bool true) ∧ w' = w := by
  subst hl
  have k1 := h1.str
  have k2 := h2.str
  clear h1 h2
  generalize strOfNums l = S at k1 k2
  generalize l.length = m at *
  go_enter Try.func28, Try.ntmps28
  go_wp2
  go_ret
  exact ⟨rfl, rfl⟩
theorem DS.page_len {Qp : Nat → Prop} {w : World} {P : Nat → Prop} {b n p : Nat} {s : Dev} {i k : Nat} {l : List Int} (h : DS Qp w P b n p s) (hi : i < n) (hk : k < p) (hl : (s.blk i).pages.getD k none = some l) : l.length = 512 := by
  obtain ⟨vd, ds, vn, ns, vp, ps, hD, g, hA⟩ := h
  obtain ⟨gn, off, cap, hv, _⟩ := hD.form g
  obtain ⟨c2, c3, ⟨pvs, hO, hP⟩, hl2, _⟩ := hD.blk g hi hv
  have hPk := hP k (by omega)
  rw [hl] at hPk
  exact hPk.1
/-- What Is reads of the document's page is what the program reads. -/
theorem want_of {n p : Nat} {s : Dev} {r : RDev} {Qp : Nat → Prop} {w : World} {P : Nat → Prop} {b : Nat} (h : SimD n p s r) (hd : DS Qp w P b n p s) {i k : Nat} (hi : i < n) (hk : k < p) :
    (k < (r.blk i).1.length → look ((s.blk i).pages.getD k none) = (r.blk i).1.getD k [] ∧ ((r.blk i).1.getD k []).length = 512) ∧ (¬ k < (r.blk i).1.length → look ((s.blk i).pages.getD k none) = fill []) := by
  obtain ⟨h1, h2⟩ := h.look (k := k) hi
  refine ⟨fun hlt => ?_, fun hn => ?_⟩
  · have e := h1 hlt
    have hl := hd.page_len hi hk e
    rw [e]
    exact ⟨fill_fill _ hl, hl⟩
  · rw [h2 (Nat.le_of_not_lt hn)]
    rfl
end Go.Proofs.Ytbpjfhfibllhgaa

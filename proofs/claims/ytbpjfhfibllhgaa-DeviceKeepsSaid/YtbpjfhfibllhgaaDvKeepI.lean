/- What DeviceKeeps holds in its loops: two devices and a row of bools, apart. -/
import Derived.Test.YtbpjfhfibllhgaaDvKeepMath
namespace Go.Proofs.Ytbpjfhfibllhgaa
open Go.RowKit
open Go.Proofs.Ytbpjfhfibllhgaa.Dv

theorem d_copy {w : World} {P : Nat → Prop} {b n p : Nat} {s : Dev} (h : DS w P b n p s) (hpl : s.pending.length ≤ 1000000) : Calls Try.prog 27 #[.pointer (some ⟨b, 0, none⟩)] w (CopyP n p s w) := by
  obtain ⟨vd, ds, vn, ns, vp, ps, hD, g, hA⟩ := h
  exact copy_any hD g hpl
/-- The blocks of a device: below hi from lo on, or behind g. -/
def Two (lo hi g k : Nat) : Prop := (lo ≤ k ∧ k < hi) ∨ g < k
structure KI (w0 : World) (hi g b c n p : Nat) (s1 : Dev) (er : List Bool) (s : Dev) (w : World) : Prop where
  dv : DS w (Two w0.heap.size hi g) b n p s
  cp : DS w (fun k => hi ≤ k ∧ k < g) c n p s1
  rw : Row w 4 g (er.map Value.bool)
  ln : er.length = n
  kp : Kp s1.now er s
  z : Below w0.heap.size w0 w
  h0 : w0.heap.size ≤ hi
  h1 : hi ≤ g
section
variable {w0 w w1 w' : World} {hi g b c n p : Nat} {s1 s s' : Dev} {er : List Bool}
theorem KI.gl (h : KI w0 hi g b c n p s1 er s w) : g < w.heap.size := lt_of_block h.rw
theorem KI.belowS (h : KI w0 hi g b c n p s1 er s w) (hb : Below w.heap.size w w') : KI w0 hi g b c n p s1 er s w' :=
  ⟨h.dv.belowS hb, h.cp.belowS hb, h.rw.belowS hb, h.ln, h.kp, h.z.trans (hb.mono h.z.size), h.h0, h.h1⟩
theorem KI.step (h : KI w0 hi g b c n p s1 er s w) {v : Value} {e : Ending} (hR : DPost (Two w0.heap.size hi g) b n p v s' w e w') (hk : Kp s1.now er s') : KI w0 hi g b c n p s1 er s' w' :=
  have hgl := h.gl
  have hz := h.z.size
  have h0 := h.h0
  have h1 := h.h1
  ⟨hR.2.1.mono fun k hk => hk.elim id (fun h => .inr (by omega)), h.cp.apart hR.2.2 (fun k hk hq => by rcases hq with hq | hq <;> omega), h.rw.at (hR.2.2.on.block g hgl (fun hq => by rcases hq with hq | hq <;> omega)), h.ln, hk,
    h.z.trans ((hR.2.2.on.below hz (fun k hk => by rcases hk with hk | hk <;> omega))), h.h0, h.h1⟩
theorem stay_set {t : TypeId} {vs : List Value} (h : Row w t g vs) (ht : t ≠ 5) (o : Nat) (u : Value) : Stay (· = g) w (w.setCell ⟨g, o, none⟩ u) := ⟨only_set w g o u, Byt.set h ht⟩
theorem KI.mark (h : KI w0 hi g b c n p s1 er s w) (i : Nat) : KI w0 hi g b c n p s1 (er.set i true) s (w.setCell ⟨g, i, none⟩ (.bool true)) :=
  have hst := stay_set h.rw (by decide) i (.bool true)
  have h0 := h.h0
  have h1 := h.h1
  ⟨h.dv.apart hst (fun k hk hq => by subst hq; rcases hk with hk | hk <;> omega), h.cp.apart hst (fun k hk hq => by subst hq; omega), by rw [List.map_set]; exact h.rw.set i _, by rw [List.length_set]; exact h.ln, h.kp.mark i,
    h.z.setCell (p := ⟨g, i, none⟩) (show w0.heap.size ≤ g by omega) _, h.h0, h.h1⟩
theorem KI.erased (h : KI w0 hi g b c n p s1 er s w) {i : Nat} (hi' : i < n) : w.cell? ⟨g, i, none⟩ = some (.bool (er.getD i false)) := by
  rw [h.rw.cell (by rw [List.length_map, h.ln]; exact hi')]
  rw [List.getD, List.getElem?_map, List.getD]
  rw [List.getElem?_eq_getElem (by rw [h.ln]; exact hi')]
  rfl
/-- The same behind the last crash. -/
structure KE (w0 : World) (hi g b c n p : Nat) (s1 : Dev) (er : List Bool) (s : Dev) (w : World) : Prop where
  dv : DS w (Two w0.heap.size hi g) b n p s
  cp : DS w (fun k => hi ≤ k ∧ k < g) c n p s1
  rw : Row w 4 g (er.map Value.bool)
  ln : er.length = n
  z : Below w0.heap.size w0 w
  h0 : w0.heap.size ≤ hi
  h1 : hi ≤ g
theorem KI.fin (h : KI w0 hi g b c n p s1 er s w) {v : Value} {e : Ending} (hR : DPost (Two w0.heap.size hi g) b n p v s' w e w') : KE w0 hi g b c n p s1 er s' w' :=
  have hgl := h.gl
  have hz := h.z.size
  have h0 := h.h0
  have h1 := h.h1
  ⟨hR.2.1.mono fun k hk => hk.elim id (fun h => .inr (by omega)), h.cp.apart hR.2.2 (fun k hk hq => by rcases hq with hq | hq <;> omega), h.rw.at (hR.2.2.on.block g hgl (fun hq => by rcases hq with hq | hq <;> omega)), h.ln,
    h.z.trans ((hR.2.2.on.below hz (fun k hk => by rcases hk with hk | hk <;> omega))), h.h0, h.h1⟩
theorem KE.belowS (h : KE w0 hi g b c n p s1 er s w) (hb : Below w.heap.size w w') : KE w0 hi g b c n p s1 er s w' :=
  ⟨h.dv.belowS hb, h.cp.belowS hb, h.rw.belowS hb, h.ln, h.z.trans (hb.mono h.z.size), h.h0, h.h1⟩
theorem KE.erased (h : KE w0 hi g b c n p s1 er s w) {i : Nat} (hi' : i < n) : w.cell? ⟨g, i, none⟩ = some (.bool (er.getD i false)) := by
  rw [h.rw.cell (by rw [List.length_map, h.ln]; exact hi')]
  rw [List.getD, List.getElem?_map, List.getD]
  rw [List.getElem?_eq_getElem (by rw [h.ln]; exact hi')]
  rfl
theorem pgN_le (g : Gd n p s) {i : Nat} (hi : i < n) : pgN (s.blk i) ≤ p := by
  rw [← g.pn i hi]; exact List.findIdx_le_length
end
end Go.Proofs.Ytbpjfhfibllhgaa

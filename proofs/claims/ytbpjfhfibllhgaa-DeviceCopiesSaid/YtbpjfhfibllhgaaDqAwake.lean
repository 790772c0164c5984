/- The fixed example of the layer's statements. Conditions: none. -/
import Derived.Test.YtbpjfhfibllhgaaDqLaw
import Derived.Lib.SlBytesConst
namespace Go.Proofs.Ytbpjfhfibllhgaa
open Go.RowKit
open Go.Proofs.Ytbpjfhfibllhgaa.Dv
variable {Qp : Nat → Prop}

/-- Bytes in a block of their own. -/
theorem bysrc_own {w : World} {g cap : Nat} {l : List Int} {fr : Nat × Nat} (h : w.heap[g]? = some (.cells (bys l).toArray 5 fr)) : BySrc w (.slice (some ⟨g, 0, none⟩) l.length cap) l :=
  ⟨⟨_, cap, rfl⟩, fun ao' n' cap' hv _ => by
    simp only [Value.slice.injEq] at hv
    obtain ⟨rfl, _, _⟩ := hv
    refine ⟨_, rfl, fun jj x hx => ?_⟩
    rw [Addr.add_lit]
    show w.cell? ⟨g, 0 + jj, none⟩ = some x
    rw [has_cell h, Nat.zero_add, List.getElem?_toArray]; exact hx⟩
theorem bys_cell {w : World} {g : Nat} {l : List Int} (h : w.heap[g]? = some (.cells (bys l).toArray 5 (0, 0))) {i : Nat} (hi : i < l.length) : w.cell? ⟨g, i, none⟩ = some (.int .u8 (l.getD i 0)) := by
  rw [has_cell h, List.getElem?_toArray]; exact bys_get l i hi
theorem look_len (p : Page) : (look p).length = 512 := by cases p <;> exact fill_len _
section
variable {w : World} {B b n p : Nat} {s : Dev}
/-- Program with bytes that were just made. -/
theorem own_prog {g cap : Nat} {l : List Int} {fr : Nat × Nat} (i k : Int) (h : DS Qp w (B ≤ ·) b n p s) (hB : B ≤ w.heap.size) (hpl : s.pending.length ≤ 1000000) (hg : w.heap[g]? = some (.cells (bys l).toArray 5 fr)) (hQ : ∀ k, w.heap.size ≤ k → Qp k) :
    Calls Try.prog 13 #[.pointer (some ⟨b, 0, none⟩), .int .i64 i, .int .i64 k, .slice (some ⟨g, 0, none⟩) l.length cap] w fun e w' =>
      e = .returned (errV (progE n p s i k l.length)) ∧ DS Qp w' (B ≤ ·) b n p (progS n p s i k l) ∧ Below B w w' ∧ Byt w w' :=
  (d_prog i k h hpl (fun _ hs => bysrc_own ((hs.by_ g _ _ hg).trans hg)) hQ).mono fun _ _ h => h.own hB
/-- Program without bytes. -/
theorem nil_prog (i k : Int) (h : DS Qp w (B ≤ ·) b n p s) (hB : B ≤ w.heap.size) (hpl : s.pending.length ≤ 1000000) (hQ : ∀ k, w.heap.size ≤ k → Qp k) :
    Calls Try.prog 13 #[.pointer (some ⟨b, 0, none⟩), .int .i64 i, .int .i64 k, .slice none 0 0] w fun e w' =>
      e = .returned (errV (progE n p s i k 0)) ∧ DS Qp w' (B ≤ ·) b n p (progS n p s i k []) ∧ Below B w w' ∧ Byt w w' :=
  (d_prog (l := []) i k h hpl (fun _ _ => ⟨⟨none, 0, rfl⟩, fun _ _ _ _ h0 => by simp at h0⟩) hQ).mono fun _ _ h => h.own hB
end
theorem aw_prog : progS 1 2 (Dev.init 1 2) 0 0 [97] = (Dev.init 1 2).pow.1.prog 0 0 [97] := by
  unfold progS
  rw [if_neg (by decide), if_pos (by decide)]
  rfl
def AwP (w : World) (e : Ending) (w' : World) : Prop := e = .returned (.bool true) ∧ Below w.heap.size w w'
set_option maxRecDepth 100000 in
set_option maxHeartbeats 800000 in
theorem awake_any (w : World) : Calls Try.prog 11 #[] w (AwP w) := by
  have C1 := Lib.hid (d_new (Qp := fun _ => True) w (n := 1) (p := 2) (by omega) (by omega) (by omega) (by omega))
  have E1 : Hid (progE 1 2 (Dev.init 1 2) 0 0 1 = 0) := Lib.hid (by decide)
  have E2 : Hid (look (((progS 1 2 (Dev.init 1 2) 0 0 [97]).blk 0).pages.getD 0 none) = fill (fill [97])) := Lib.hid (by rw [aw_prog]; rfl)
  have E3 : Hid (nextI 1 ((progS 1 2 (Dev.init 1 2) 0 0 [97]).crash (fun _ => 0)) 0 = 0) := Lib.hid (by rw [aw_prog]; rfl)
  have E4 : Hid (nextE 1 0 = 0) := Lib.hid (by decide)
  have G0 : Hid ((fill (fill [97])).getD 0 0 = 97) := Lib.hid (by rw [fill_get _ _ (by omega)]; rfl)
  have G1 : Hid ((fill (fill [97])).getD 1 0 = 255) := Lib.hid (by rw [fill_get _ _ (by omega)]; rfl)
  have kc := fun (w : World) (C : Array Value) (n c : Nat) => Lib.run_convert_bytes_const (P := Try.prog) w 22 5 C n c Try.underlying22 Try.underlying5
  go_enter Try.func11, Try.ntmps11
  go_wp2_with fail
  refine C1.out.mono ?_
  rintro e w1 ⟨b, rfl, hD, hb1⟩
  rw [errV0]
  have hbs := hb1.size
  have CP := Lib.hid (own_prog (g := w1.heap.size) (cap := 1) (l := [97]) 0 0 (hD.belowS (w' := w1.alloc (.cells #[.int .u8 97] 5 (1, 2))) (by go_grown)) (by simp; omega) (by simp [Dev.init]) (heap_alloc_new w1 _) (fun _ _ => trivial))
  rw [show ([97] : List Int).length = 1 from rfl, E1.out] at CP
  have hB2 : Below w.heap.size w (w1.alloc (.cells #[.int .u8 97] 5 (1, 2))) := hb1.alloc hbs _
  clear C1 hD
  go_wp2_with fail
  refine CP.out.mono ?_
  rintro e w2 ⟨rfl, hD2, hb2, _⟩
  rw [errV0]
  replace hB2 := hB2.trans hb2
  have hbz := hB2.size
  have CR := Lib.hid (d_read hD2 (i := 0) (k := 0) (by omega) (by omega))
  rw [E2.out] at CR
  have HD2 := Lib.hid hD2
  clear CP hD2 hb2
  go_wp2_with fail
  refine CR.out.mono ?_
  rintro e w3 ⟨g, rfl, hg, hlo, hb3⟩
  rw [errV0]
  have c0 := bys_cell hg (i := 0) (by rw [fill_len]; omega)
  have c1 := bys_cell hg (i := 1) (by rw [fill_len]; omega)
  rw [G0.out] at c0
  rw [G1.out] at c1
  have hB3 := hB2.trans (hb3.mono hbz)
  have HD3 := Lib.hid (HD2.out.belowS hb3)
  have CC := Lib.hid ((d_crash0 HD3.out (fun _ _ => trivial)).mono fun _ _ h => h.own hB3.size)
  clear hg CR hb3 hB2 HD2
  go_wp2_with fail
  refine CC.out.mono ?_
  rintro e w4 ⟨rfl, hD4, hb4, _⟩
  have hB4 := hB3.trans hb4
  have CN := Lib.hid (d_next 0 hD4)
  rw [E3.out, E4.out] at CN
  clear CC hD4 hb4 hB3 c0 c1
  go_wp2_with fail
  refine CN.out.mono ?_
  rintro e w5 ⟨rfl, hb5⟩
  rw [errV0]
  have hB5 := hB4.trans (hb5.mono hB4.size)
  clear CN hb5
  go_wp2
  go_ret
  exact ⟨rfl, hB5⟩
end Go.Proofs.Ytbpjfhfibllhgaa

/- Both devices, the program's and the document's, and a call of each. No code is walked here. Conditions: each its own. -/
import Derived.Test.YtbpjfhfibllhgaaDrK
import Derived.Test.YtbpjfhfibllhgaaDqCD
namespace Go.Proofs.Ytbpjfhfibllhgaa
open Go.RowKit
open Go.Proofs.Ytbpjfhfibllhgaa.Dv

section
variable {n p : Nat} {s s' : Dev}
theorem do_pend (a : ActV) : (doS n p s a).pending.length ≤ s.pending.length + 1 := by
  have hp : s.pow.1.pending.length = s.pending.length := by rw [(pow_same s).2.2]
  unfold doS
  split
  · unfold eraseS; split
    · omega
    · split
      · omega
      · show (s.pow.1.pending ++ _).length ≤ _; rw [List.length_append, hp]; simp
  · split
    · unfold syncS; split
      · omega
      · show 0 ≤ _; omega
    · split
      · unfold Dev.plan; split <;> simp
      · split
        · show 0 ≤ _; omega
        · unfold progS; split
          · omega
          · split
            · show (s.pow.1.pending ++ _).length ≤ _; rw [List.length_append, hp]; simp
            · omega
end
/-- Both devices; the document's lies in blocks of K, the program's beside them. -/
structure Pr (w0 : World) (K : Nat → Prop) (b n p : Nat) (s : Dev) (q : RQ) (g : RG) (w : World) : Prop where
  t : CD (fun _ => True) w0 K b n p s w
  r : RAt K w q g
section
variable {w0 w w1 w' : World} {K J : Nat → Prop} {b n p : Nat} {s s' : Dev} {q q' : RQ} {g g' : RG}
theorem Pr.bel (h : Pr w0 K b n p s q g w) (hb : Below w.heap.size w w') : Pr w0 K b n p s q g w' := ⟨h.t.bel hb, h.r.bel hb⟩
/-- Behind a call of the program. -/
theorem Pr.prog (h : Pr w0 K b n p s q g w) (ht : CD (fun _ => True) w0 K b n p s' w') (hs : SameD K w w') : Pr w0 K b n p s' q g w' := ⟨ht, h.r.heap fun k hk _ => hs k hk⟩
/-- Behind a call of the document. -/
theorem Pr.doc (h : Pr w0 K b n p s q g w) (hr : RAt (fun j => K j ∨ w.heap.size ≤ j) w' q' g') (hb : Below w.heap.size w w') : Pr w0 (fun k => K k ∨ (w.heap.size ≤ k ∧ k < w'.heap.size)) b n p s q' g' w' :=
  ⟨h.t.fresh hb, hr.to fun k hk hj => hj.imp id fun h1 => ⟨h1, hk⟩⟩
theorem Pr.fresh (h : Pr w0 K b n p s q g w) (hb : Below w.heap.size w w') : Pr w0 (fun k => K k ∨ (w.heap.size ≤ k ∧ k < w'.heap.size)) b n p s q g w' := h.doc (h.r.bel hb |>.to fun _ _ hk => .inl hk) hb
/-- A row of a box is written. -/
theorem CD.row {Qp : Nat → Prop} {bx : Nat} {cs ds : Array Value} (h : CD Qp w0 K b n p s w) (hb : w.heap[bx]? = some (.cells cs tRD (0, 0))) (hk : K bx) (hl : w0.heap.size ≤ bx) : CD Qp w0 K b n p s (w.setRow bx ds) := by
  have hh : ∀ k, k ≠ bx → (w.setRow bx ds).heap[k]? = w.heap[k]? := fun k hk => setRow_other _ _ _ _ hk
  have hB : Below w0.heap.size w0 (w.setRow bx ds) := below_setRow h.be hl _
  have hz : (w.setRow bx ds).heap.size = w.heap.size := by simp
  refine ⟨?_, hB, fun k hk => by rw [hz]; exact h.lt k hk⟩
  refine (h.t.apart (Q := (· = bx)) ⟨⟨rfl, rfl, rfl, by simp, fun k _ hk2 => hh k hk2⟩, ?_⟩ fun k hk e => hk.2 (by rw [show k = bx from e]; assumption))
  · intro k cs' fr e
    exact hh k fun e2 => by subst e2; rw [hb] at e; simp only [Option.some.injEq, Obj.cells.injEq] at e; exact absurd e.2.1 (by decide)
theorem Pr.row {bx : Nat} {cs ds : Array Value} (h : Pr w0 K b n p s q g w) (hb : w.heap[bx]? = some (.cells cs tRD (0, 0))) (hk : K bx) (hl : w0.heap.size ≤ bx) : Pr w0 K b n p s q g (w.setRow bx ds) := ⟨h.t.row hb hk hl, h.r.rowB hb ds⟩
end
end Go.Proofs.Ytbpjfhfibllhgaa

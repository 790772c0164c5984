/- topology: the walk of the document's Nearest. Conditions: the map and the list can be read, its links are in order, the towns are at most 64, each once. -/
import Derived.Test.YtpcapmialdmcaaaTpNe
namespace Go.Proofs.Ytpcapmialdmcaaa
open Go.RowKit Go.Maps

/-- What the document's Nearest leaves. -/
def NearDP (ts : List ByteArray) (L : List TL) (t : Int) (a : ByteArray) (l : List ByteArray) (w : World) (e : Ending) (w' : World) : Prop :=
  e = .returned (.tuple #[.string (nearE ts L t a l).1, .int .i64 (nearE ts L t a l).2]) ∧ Below w.heap.size w w'
section
variable {w w' : World} {tao lao : Option Addr} {tc lc : Nat} {ts : List ByteArray} {L : List TL} {a : ByteArray} {l : List ByteArray} {ao : Option Addr} {cap : Nat}
theorem NearDP.mk {x : ByteArray} {c : Int} {t : Int} (h : nearE ts L t a l = (x, c)) (hb : Below w.heap.size w w') : NearDP ts L t a l w (.returned (.tuple #[.string x, .int .i64 c])) w' := by
  unfold NearDP
  rw [h]
  exact ⟨rfl, hb⟩
set_option maxRecDepth 100000 in
set_option maxHeartbeats 9600000 in
theorem rnear_any (h : RefAt w (.slice tao ts.length tc) (.slice lao L.length lc) ts L) (hok : LOk (· ∈ ts) L) (hn : ts.Nodup) (h64 : ts.length ≤ 64) (hl : RT w (.slice ao l.length cap) l) (t : Int) : Calls Try.prog 26 #[.agg #[.slice tao ts.length tc, .slice lao L.length lc], .string a, .slice ao l.length cap, .int .i64 t] w (NearDP ts L t a l w) := by
  have hb0 := (Below.refl w.heap.size w).alloc (Nat.le_refl _) (.cells #[.slice tao ts.length tc, .slice lao L.length lc] 31)
  have hq0 := heap_alloc_new w (.cells #[.slice tao ts.length tc, .slice lao L.length lc] 31)
  have HB0 := Lib.hid hb0
  have HQ0 := Lib.hid hq0
  have HK := Lib.hid (fun (wx : World) (hb : Below w.heap.size w wx) (s : ByteArray) => known_any (lao := lao) (ln := L.length) (lc := lc) (h.1.belowS hb) s)
  have HR := Lib.hid (fun (wx : World) (hb : Below w.heap.size w wx) (s : ByteArray) => rroute_any (a := a) (b := s) (h.below hb) hok hn h64 t)
  have HOK := Lib.hid (And.intro hok h64)
  have HL := Lib.hid (fun (wx : World) (hb : Below w.heap.size w wx) => hl.belowS hb)
  have hln : l.length ≤ 9223372036854775807 := by obtain ⟨_, _, _, hn, _⟩ := hl; exact hn
  have x0 := (has_cell hq0 0).trans (show _ = some (Value.slice tao ts.length tc) from rfl)
  have x1 := (has_cell hq0 1).trans (show _ = some (Value.slice lao L.length lc) from rfl)
  obtain ⟨bm, hbm⟩ : ∃ bm, w.heap.size = bm := ⟨_, rfl⟩
  have KA := Lib.hid (fun wx hc => HK.out wx hc a)
  clear hb0 hq0 h hok hn hl h64
  by_cases ha : a ∈ ts
  · rw [inL_of ha] at KA
    have HA := Lib.hid ha
    clear ha
    go_enter Try.func26, Try.ntmps26
    go_wp2_with fail
    refine (KA.out _ HB0.out).mono ?_
    rintro e w1 ⟨rfl, hb1⟩
    have HB1 := Lib.hid (HB0.out.trans (hb1.mono HB0.out.size))
    have HQ1 := Lib.hid ((hb1.block _ (lt_of_block HQ0.out)).trans HQ0.out)
    rw [hbm] at HQ1
    clear hb1 x0 x1 KA HB0 HQ0 hbm
    go_wp2_with fail
    go_loopw [10, 23] (fun _ iv wr => ∃ j : Nat, j ≤ l.length ∧ iv = .int .i64 j ∧ (∀ q, q < j → l.getD q ByteArray.empty ∈ ts) ∧ wr.heap[bm]? = some (.cells #[.slice tao ts.length tc, .slice lao L.length lc] 31 (0, 0)) ∧ Below w.heap.size w wr) (fun _ iv _ => l.length - (intOf iv).toNat)
    case atStart => exact ⟨0, Nat.zero_le _, rfl, fun q hq => by omega, HQ1.out, HB1.out⟩
    case round =>
      clear HQ1 HB1
      obtain ⟨j, hj, rfl, hF, hq, hb⟩ := hrel
      have HF := Lib.hid hF
      have HQ := Lib.hid hq
      have HB := Lib.hid hb
      clear hF hq hb
      by_cases hlt : j < l.length
      · obtain ⟨ao', cap', e, _, hc⟩ := HL.out wr HB.out
        obtain ⟨rfl, _, rfl⟩ : ao = ao' ∧ True ∧ cap = cap' := by simp at e; exact ⟨e.1, trivial, e.2⟩
        obtain ⟨b, off, rfl, _, hc⟩ := hc (by omega)
        have c0 := hc j hlt
        have x0 := (has_cell HQ.out 0).trans (show _ = some (Value.slice tao ts.length tc) from rfl)
        have x1 := (has_cell HQ.out 1).trans (show _ = some (Value.slice lao L.length lc) from rfl)
        have C1 := Lib.hid (HK.out wr.drew (HB.out.trans (below_drew _ _)) (l.getD j ByteArray.empty))
        have HINL := Lib.hid (show (inL (l.getD j ByteArray.empty) ts = true → l.getD j ByteArray.empty ∈ ts) ∧ (inL (l.getD j ByteArray.empty) ts = false → ¬ l.getD j ByteArray.empty ∈ ts) from ⟨inL_iff.1, fun h hm => by rw [inL_of hm] at h; cases h⟩)
        have HS := Lib.hid (fun (h : l.getD j ByteArray.empty ∈ ts) (q : Nat) (hq : q < j + 1) => show l.getD q ByteArray.empty ∈ ts from by
          by_cases e : q = j
          · rw [e]; exact h
          · exact HF.out q (by omega))
        have HBAD := Lib.hid (fun (h : ¬ l.getD j ByteArray.empty ∈ ts) => nearE_bad (ts := ts) (L := L) (t := t) (a := a) (l := l) fun hx => h (hx.2 _ (getD_mem hlt)))
        clear hc e
        generalize l.getD j ByteArray.empty = y at *
        cases hin : inL y ts
        all_goals
          rw [hin] at C1
          have hH0 : wr.drew.cell? ⟨bm, 0, none⟩ = some (Value.slice tao ts.length tc) ∧ wr.drew.cell? ⟨bm, 1, none⟩ = some (Value.slice lao L.length lc) ∧ wr.drew.cell? ⟨b, off + j, none⟩ = some (Value.string y) := ⟨x0, x1, c0⟩
          go_upto_region 6 with fail
          refine wp_region_held_drew (S := (fun w' : World => w'.cell? ⟨bm, 0, none⟩ = some (Value.slice tao ts.length tc) ∧ w'.cell? ⟨bm, 1, none⟩ = some (Value.slice lao L.length lc) ∧ w'.cell? ⟨b, off + j, none⟩ = some (Value.string y))) (by kernel_rfl) (hH0) (fun hH => ?_)
          refine wpAnyH_take (i := 0) (v := ?_) rfl (by kernel_rfl) (by kernel_rfl) (by kernel_rfl) (fun _ _ _ h => h) (Or.inl ⟨by rfl, ?_⟩) hH ?_
          rotate_left
          · intro w hSw
            go_simp
            with_reducible rfl
          try simp only [List.getElem_toArray, List.getElem_cons_zero, Act.put, List.setIfInBounds_toArray, List.set_cons_zero, List.set_cons_succ]
          refine wpAnyH_take (i := 1) (v := ?_) rfl (by kernel_rfl) (by kernel_rfl) (by kernel_rfl) (fun _ _ _ h => h) (Or.inl ⟨by rfl, ?_⟩) hH ?_
          rotate_left
          · intro w hSw
            go_simp
            with_reducible rfl
          try simp only [List.getElem_toArray, List.getElem_cons_succ, List.getElem_cons_zero, Act.put, List.setIfInBounds_toArray, List.set_cons_zero, List.set_cons_succ]
          refine wpAnyH_take (i := 2) (v := ?_) rfl (by kernel_rfl) (by kernel_rfl) (by kernel_rfl) (fun _ _ _ h => h) (Or.inl ⟨by rfl, ?_⟩) hH ?_
          rotate_left
          · intro w hSw
            go_simp
            with_reducible rfl
          try simp only [List.getElem_toArray, List.getElem_cons_succ, List.getElem_cons_zero, Act.put, List.setIfInBounds_toArray, List.set_cons_zero, List.set_cons_succ]
          refine wpAnyH_take (i := 3) (v := ?_) rfl (by kernel_rfl) (by kernel_rfl) (by kernel_rfl) (fun _ _ _ h => h) (Or.inl ⟨by rfl, ?_⟩) hH ?_
          rotate_left
          · intro w hSw
            go_simp
            with_reducible rfl
          try simp only [List.getElem_toArray, List.getElem_cons_succ, List.getElem_cons_zero, Act.put, List.setIfInBounds_toArray, List.set_cons_zero, List.set_cons_succ]
          refine wpAnyH_take (i := 4) (v := ?_) rfl (by kernel_rfl) (by kernel_rfl) (by kernel_rfl) (fun _ _ _ h => h) (Or.inl ⟨by rfl, ?_⟩) hH ?_
          rotate_left
          · intro w hSw
            go_simp
            with_reducible rfl
          try simp only [List.getElem_toArray, List.getElem_cons_succ, List.getElem_cons_zero, Act.put, List.setIfInBounds_toArray, List.set_cons_zero, List.set_cons_succ]
          refine wpAnyH_ready (rs := [5]) (by kernel_rfl) (by simp) ?_
          refine AllReadyH.cons rfl (fun K hK => ?_) AllReadyH.nil
          go_simp
          refine C1.out.mono ?_
          rintro e w2 ⟨rfl, hb2⟩
          go_simp
          have hb2' : Below wr.heap.size wr w2 := (below_drew _ _).trans hb2
          have HB2 := Lib.hid (HB.out.trans (hb2'.mono HB.out.size))
          have HQ2 := Lib.hid ((hb2'.block _ (lt_of_block HQ.out)).trans HQ.out)
          refine hK.out _ _ ⟨?_, ?_, ?_⟩ (fun hH3 => ?_)
          · exact (hb2'.cell (World.block_lt_of_cell? _ _ x0)).trans x0
          · exact (hb2'.cell (World.block_lt_of_cell? _ _ x1)).trans x1
          · exact (hb2'.cell (World.block_lt_of_cell? _ _ c0)).trans c0
          clear hK K
          refine wpAnyH_take (i := 6) (v := ?_) rfl (by kernel_rfl) (by kernel_rfl) (by kernel_rfl) (fun _ _ _ h => h) (Or.inl ⟨by rfl, ?_⟩) hH3 ?_
          rotate_left
          · intro w hSw
            go_simp
            with_reducible rfl
          try simp only [List.getElem_toArray, List.getElem_cons_succ, List.getElem_cons_zero, Act.put, List.setIfInBounds_toArray, List.set_cons_zero, List.set_cons_succ]
          refine wpAnyH_done (by kernel_rfl) ?_ _
          clear hH0 hH hH3 hb2 hb2' x0 x1 c0 C1
        · have HP : Hid (NearDP ts L t a l w (.returned (.tuple #[.string ⟨#[]⟩, .int .i64 8])) w2) := Lib.hid (NearDP.mk (HBAD.out (HINL.out.2 hin)) HB2.out)
          clear hin
          go_wp2_with fail
          go_ret2
          exact HP.out
        · have HS2 := Lib.hid (HS.out (HINL.out.1 hin))
          clear hin
          go_wp2_with fail
          go_roundw
          case rel => exact ⟨j + 1, by omega, by go_num, HS2.out, HQ2.out, HB2.out⟩
          case measure => simp [intOf]; omega
      · obtain rfl : j = l.length := by omega
        have HALL : Hid (a ∈ ts ∧ ∀ s ∈ l, s ∈ ts) := Lib.hid ⟨HA.out, fun s hs => by
          obtain ⟨q, hq, rfl⟩ := List.getElem_of_mem hs
          have := HF.out q hq
          simpa [List.getD, hq] using this⟩
        clear HF
        go_wp2_with fail
        go_loopw [11, 12, 13, 36] (fun ov lv _ iv wx => ∃ (j : Nat) (out : ByteArray) (le : Int) (fd : Bool), j ≤ l.length ∧ iv = .int .i64 j ∧ ov = .string out ∧ lv = .int .i64 le ∧ NrV (-1) (nrL (sumF ts L t a) (l.take j)) out le fd ∧ wx.heap[bm]? = some (.cells #[.slice tao ts.length tc, .slice lao L.length lc] 31 (0, 0)) ∧ Below w.heap.size w wx) (fun _ _ _ iv _ => l.length - (intOf iv).toNat)
        case atStart => exact ⟨0, _, _, false, Nat.zero_le _, rfl, rfl, rfl, .inl ⟨rfl, rfl, rfl, rfl⟩, HQ.out, HB.out⟩
        case round =>
          clear HQ HB
          obtain ⟨j, out, le, fd, hj, rfl, rfl, rfl, hv, hq, hb⟩ := hrel
          have HNV := Lib.hid hv
          have HQ := Lib.hid hq
          have HB := Lib.hid hb
          clear hv hq hb
          by_cases hlt : j < l.length
          · obtain ⟨ao', cap', e, _, hc⟩ := HL.out wr HB.out
            obtain ⟨rfl, _, rfl⟩ : ao = ao' ∧ True ∧ cap = cap' := by simp at e; exact ⟨e.1, trivial, e.2⟩
            obtain ⟨b, off, rfl, _, hc⟩ := hc (by omega)
            have c0 := hc j hlt
            have x0 := (has_cell HQ.out 0).trans (show _ = some (Value.slice tao ts.length tc) from rfl)
            have x1 := (has_cell HQ.out 1).trans (show _ = some (Value.slice lao L.length lc) from rfl)
            have C1 := Lib.hid (HR.out wr.drew (HB.out.trans (below_drew _ _)) (l.getD j ByteArray.empty))
            have HNS := Lib.hid (nrL_succ (sumF ts L t a) hlt)
            have HSIN := Lib.hid (HALL.out.2 _ (getD_mem hlt))
            clear hc e
            generalize l.getD j ByteArray.empty = s at *
            have hH0 : wr.drew.cell? ⟨bm, 0, none⟩ = some (Value.slice tao ts.length tc) ∧ wr.drew.cell? ⟨bm, 1, none⟩ = some (Value.slice lao L.length lc) ∧ wr.drew.cell? ⟨b, off + j, none⟩ = some (Value.string s) := ⟨x0, x1, c0⟩
            go_upto_region 13 with fail
            refine wp_region_held_drew (S := (fun w' : World => w'.cell? ⟨bm, 0, none⟩ = some (Value.slice tao ts.length tc) ∧ w'.cell? ⟨bm, 1, none⟩ = some (Value.slice lao L.length lc) ∧ w'.cell? ⟨b, off + j, none⟩ = some (Value.string s))) (by kernel_rfl) (hH0) (fun hH => ?_)
            refine wpAnyH_take (i := 0) (v := ?_) rfl (by kernel_rfl) (by kernel_rfl) (by kernel_rfl) (fun _ _ _ h => h) (Or.inl ⟨by rfl, ?_⟩) hH ?_
            rotate_left
            · intro w hSw
              go_simp
              with_reducible rfl
            try simp only [List.getElem_toArray, List.getElem_cons_zero, Act.put, List.setIfInBounds_toArray, List.set_cons_zero, List.set_cons_succ]
            refine wpAnyH_take (i := 1) (v := ?_) rfl (by kernel_rfl) (by kernel_rfl) (by kernel_rfl) (fun _ _ _ h => h) (Or.inl ⟨by rfl, ?_⟩) hH ?_
            rotate_left
            · intro w hSw
              go_simp
              with_reducible rfl
            try simp only [List.getElem_toArray, List.getElem_cons_succ, List.getElem_cons_zero, Act.put, List.setIfInBounds_toArray, List.set_cons_zero, List.set_cons_succ]
            refine wpAnyH_take (i := 2) (v := ?_) rfl (by kernel_rfl) (by kernel_rfl) (by kernel_rfl) (fun _ _ _ h => h) (Or.inl ⟨by rfl, ?_⟩) hH ?_
            rotate_left
            · intro w hSw
              go_simp
              with_reducible rfl
            try simp only [List.getElem_toArray, List.getElem_cons_succ, List.getElem_cons_zero, Act.put, List.setIfInBounds_toArray, List.set_cons_zero, List.set_cons_succ]
            refine wpAnyH_take (i := 3) (v := ?_) rfl (by kernel_rfl) (by kernel_rfl) (by kernel_rfl) (fun _ _ _ h => h) (Or.inl ⟨by rfl, ?_⟩) hH ?_
            rotate_left
            · intro w hSw
              go_simp
              with_reducible rfl
            try simp only [List.getElem_toArray, List.getElem_cons_succ, List.getElem_cons_zero, Act.put, List.setIfInBounds_toArray, List.set_cons_zero, List.set_cons_succ]
            refine wpAnyH_take (i := 4) (v := ?_) rfl (by kernel_rfl) (by kernel_rfl) (by kernel_rfl) (fun _ _ _ h => h) (Or.inl ⟨by rfl, ?_⟩) hH ?_
            rotate_left
            · intro w hSw
              go_simp
              with_reducible rfl
            try simp only [List.getElem_toArray, List.getElem_cons_succ, List.getElem_cons_zero, Act.put, List.setIfInBounds_toArray, List.set_cons_zero, List.set_cons_succ]
            refine wpAnyH_take (i := 5) (v := ?_) rfl (by kernel_rfl) (by kernel_rfl) (by kernel_rfl) (fun _ _ _ h => h) (Or.inl ⟨by rfl, ?_⟩) hH ?_
            rotate_left
            · intro w hSw
              go_simp
              with_reducible rfl
            try simp only [List.getElem_toArray, List.getElem_cons_succ, List.getElem_cons_zero, Act.put, List.setIfInBounds_toArray, List.set_cons_zero, List.set_cons_succ]
            refine wpAnyH_take (i := 6) (v := ?_) rfl (by kernel_rfl) (by kernel_rfl) (by kernel_rfl) (fun _ _ _ h => h) (Or.inl ⟨by rfl, ?_⟩) hH ?_
            rotate_left
            · intro w hSw
              go_simp
              with_reducible rfl
            try simp only [List.getElem_toArray, List.getElem_cons_succ, List.getElem_cons_zero, Act.put, List.setIfInBounds_toArray, List.set_cons_zero, List.set_cons_succ]
            refine wpAnyH_ready (rs := [7]) (by kernel_rfl) (by simp) ?_
            refine AllReadyH.cons rfl (fun K hK => ?_) AllReadyH.nil
            go_simp
            refine C1.out.mono ?_
            rintro e w2 ⟨v, ⟨rl, z⟩, code, rfl, _, hR, hb2⟩
            go_simp
            have hb2' : Below wr.heap.size wr w2 := (below_drew _ _).trans hb2
            have HB2 := Lib.hid (HB.out.trans (hb2'.mono HB.out.size))
            have HQ2 := Lib.hid ((hb2'.block _ (lt_of_block HQ.out)).trans HQ.out)
            have c2 := (hb2'.cell (World.block_lt_of_cell? _ _ c0)).trans c0
            refine hK.out _ _ ⟨?_, ?_, ?_⟩ (fun hH3 => ?_)
            · exact (hb2'.cell (World.block_lt_of_cell? _ _ x0)).trans x0
            · exact (hb2'.cell (World.block_lt_of_cell? _ _ x1)).trans x1
            · exact (hb2'.cell (World.block_lt_of_cell? _ _ c0)).trans c0
            clear hK K
            refine wpAnyH_take (i := 8) (v := ?_) rfl (by kernel_rfl) (by kernel_rfl) (by kernel_rfl) (fun _ _ _ h => h) (Or.inl ⟨by rfl, ?_⟩) hH3 ?_
            rotate_left
            · intro w hSw
              go_simp
              with_reducible rfl
            try simp only [List.getElem_toArray, List.getElem_cons_succ, List.getElem_cons_zero, Act.put, List.setIfInBounds_toArray, List.set_cons_zero, List.set_cons_succ]
            refine wpAnyH_take (i := 9) (v := ?_) rfl (by kernel_rfl) (by kernel_rfl) (by kernel_rfl) (fun _ _ _ h => h) (Or.inl ⟨by rfl, ?_⟩) hH3 ?_
            rotate_left
            · intro w hSw
              go_simp
              with_reducible rfl
            try simp only [List.getElem_toArray, List.getElem_cons_succ, List.getElem_cons_zero, Act.put, List.setIfInBounds_toArray, List.set_cons_zero, List.set_cons_succ]
            refine wpAnyH_take (i := 10) (v := ?_) rfl (by kernel_rfl) (by kernel_rfl) (by kernel_rfl) (fun _ _ _ h => h) (Or.inl ⟨by rfl, ?_⟩) hH3 ?_
            rotate_left
            · intro w hSw
              go_simp
              with_reducible rfl
            try simp only [List.getElem_toArray, List.getElem_cons_succ, List.getElem_cons_zero, Act.put, List.setIfInBounds_toArray, List.set_cons_zero, List.set_cons_succ]
            refine wpAnyH_take (i := 11) (v := ?_) rfl (by kernel_rfl) (by kernel_rfl) (by kernel_rfl) (fun _ _ _ h => h) (Or.inl ⟨by rfl, ?_⟩) hH3 ?_
            rotate_left
            · intro w hSw
              go_simp
              with_reducible rfl
            try simp only [List.getElem_toArray, List.getElem_cons_succ, List.getElem_cons_zero, Act.put, List.setIfInBounds_toArray, List.set_cons_zero, List.set_cons_succ]
            refine wpAnyH_take (i := 12) (v := ?_) rfl (by kernel_rfl) (by kernel_rfl) (by kernel_rfl) (fun _ _ _ h => h) (Or.inl ⟨by rfl, ?_⟩) hH3 ?_
            rotate_left
            · intro w hSw
              go_simp
              with_reducible rfl
            try simp only [List.getElem_toArray, List.getElem_cons_succ, List.getElem_cons_zero, Act.put, List.setIfInBounds_toArray, List.set_cons_zero, List.set_cons_succ]
            refine wpAnyH_take (i := 13) (v := ?_) rfl (by kernel_rfl) (by kernel_rfl) (by kernel_rfl) (fun _ _ _ h => h) (Or.inl ⟨by rfl, ?_⟩) hH3 ?_
            rotate_left
            · intro w hSw
              go_simp
              with_reducible rfl
            try simp only [List.getElem_toArray, List.getElem_cons_succ, List.getElem_cons_zero, Act.put, List.setIfInBounds_toArray, List.set_cons_zero, List.set_cons_succ]
            refine wpAnyH_take (i := 14) (v := ?_) rfl (by kernel_rfl) (by kernel_rfl) (by kernel_rfl) (fun _ _ _ h => h) (Or.inl ⟨by rfl, ?_⟩) hH3 ?_
            rotate_left
            · intro w hSw
              go_simp
              with_reducible rfl
            try simp only [List.getElem_toArray, List.getElem_cons_succ, List.getElem_cons_zero, Act.put, List.setIfInBounds_toArray, List.set_cons_zero, List.set_cons_succ]
            refine wpAnyH_done (by kernel_rfl) ?_ _
            clear hH0 hH hH3 hb2 hb2' x0 x1 c0 C1
            rcases hR with ⟨hbad, _⟩ | ⟨_, ⟨rfl, hbest⟩ | ⟨rfl, _, hno⟩⟩
            · exact absurd ⟨HA.out, HSIN.out⟩ hbad
            · have HSF : Hid (sumF ts L t a s = some z) := Lib.hid (sumF_some hbest)
              have hzb : 0 ≤ z ∧ z ≤ 1099511627776 := Best.bd HOK.out.1 HOK.out.2 hbest
              clear hbest
              cases fd
              · have hnv := HNV.out.first HSF.out hzb
                rw [← HNS.out] at hnv
                have HNX := Lib.hid hnv
                obtain rfl : le = -1 := by
                  rcases HNV.out with ⟨_, _, h, _⟩ | ⟨_, h, _⟩
                  · exact h
                  · cases h
                clear hnv hzb HNV
                go_wp2_with fail
                go_roundw
                case rel => exact ⟨j + 1, s, z, true, by omega, by go_num, rfl, rfl, HNX.out, HQ2.out, HB2.out⟩
                case measure => simp [intOf]; omega
              · have hle : 0 ≤ le := by
                  rcases HNV.out with ⟨_, _, _, h⟩ | ⟨_, _, h, _⟩
                  · cases h
                  · exact h
                have hle2 : ¬ le < 0 := by omega
                by_cases h1 : z < le
                · have hnv := HNV.out.less HSF.out hzb (.inl h1)
                  rw [← HNS.out] at hnv
                  have HNX := Lib.hid hnv
                  clear hnv hzb
                  go_wp2_with fail
                  go_roundw
                  case rel => exact ⟨j + 1, s, z, true, by omega, by go_num, rfl, rfl, HNX.out, HQ2.out, HB2.out⟩
                  case measure => simp [intOf]; omega
                · by_cases h2 : z = le
                  · subst h2
                    have d1 : (z == z) = true := by simp
                    cases h3 : ltS s out
                    · have hnv := HNV.out.stay HSF.out h1 (fun hx => by rw [h3] at hx; cases hx.2)
                      rw [← HNS.out] at hnv
                      have HNX := Lib.hid hnv
                      unfold ltS at h3
                      clear hnv hzb
                      go_wp2_with fail
                      go_roundw
                      case rel => exact ⟨j + 1, out, z, true, by omega, by go_num, rfl, rfl, HNX.out, HQ2.out, HB2.out⟩
                      case measure => simp [intOf]; omega
                    · have hnv := HNV.out.less HSF.out hzb (.inr ⟨rfl, h3⟩)
                      rw [← HNS.out] at hnv
                      have HNX := Lib.hid hnv
                      unfold ltS at h3
                      clear hnv hzb
                      go_wp2_with fail
                      go_roundw
                      case rel => exact ⟨j + 1, s, z, true, by omega, by go_num, rfl, rfl, HNX.out, HQ2.out, HB2.out⟩
                      case measure => simp [intOf]; omega
                  · have hnv := HNV.out.stay HSF.out h1 (fun hx => h2 hx.1)
                    rw [← HNS.out] at hnv
                    have HNX := Lib.hid hnv
                    have d1 : (z == le) = false := by rw [beq_eq_false_iff_ne]; exact h2
                    clear hnv hzb h2
                    go_wp2_with fail
                    go_roundw
                    case rel => exact ⟨j + 1, out, le, true, by omega, by go_num, rfl, rfl, HNX.out, HQ2.out, HB2.out⟩
                    case measure => simp [intOf]; omega
            · have hnv := HNV.out.skip (s := s) (D := sumF ts L t a) (sumF_none hno)
              rw [← HNS.out] at hnv
              have HNX := Lib.hid hnv
              clear hnv hno
              go_wp2_with fail
              go_roundw
              case rel => exact ⟨j + 1, out, le, fd, by omega, by go_num, rfl, rfl, HNX.out, HQ2.out, HB2.out⟩
              case measure => simp [intOf]; omega
          · obtain rfl : j = l.length := by omega
            have hnv := HNV.out
            rw [List.take_length] at hnv
            cases fd
            · have HP : Hid (NearDP ts L t a l w (.returned (.tuple #[.string ⟨#[]⟩, .int .i64 3])) wr) := Lib.hid (NearDP.mk (nearE_no HALL.out hnv) HB.out)
              obtain rfl : le = -1 := by
                rcases hnv with ⟨_, _, h, _⟩ | ⟨_, h, _⟩
                · exact h
                · cases h
              clear hnv HNV
              go_wp2_with fail
              go_ret2
              exact HP.out
            · have HP : Hid (NearDP ts L t a l w (.returned (.tuple #[.string out, .int .i64 0])) wr) := Lib.hid (NearDP.mk (nearE_yes HALL.out hnv) HB.out)
              have hle2 : ¬ le < 0 := by
                rcases hnv with ⟨_, _, _, h⟩ | ⟨_, _, h, _⟩
                · cases h
                · omega
              clear hnv
              go_wp2_with fail
              go_ret2
              exact HP.out
  · have HP : Hid (∀ wx, Below w.heap.size w wx → NearDP ts L t a l w (.returned (.tuple #[.string ⟨#[]⟩, .int .i64 8])) wx) := Lib.hid fun wx hb => NearDP.mk (nearE_bad fun hx => ha hx.1) hb
    have hf : inL a ts = false := by
      cases hq : inL a ts
      · rfl
      · exact absurd (inL_iff.1 hq) ha
    rw [hf] at KA
    clear ha hf hbm
    go_enter Try.func26, Try.ntmps26
    go_wp2_with fail
    refine (KA.out _ HB0.out).mono ?_
    rintro e w1 ⟨rfl, hb1⟩
    have HB1 := Lib.hid (HB0.out.trans (hb1.mono HB0.out.size))
    clear hb1 x0 x1
    go_wp2_with fail
    go_ret2
    exact HP.out _ HB1.out
end
end Go.Proofs.Ytpcapmialdmcaaa

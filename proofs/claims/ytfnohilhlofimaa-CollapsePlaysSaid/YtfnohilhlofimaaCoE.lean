/- collapse: Fail. Conditions: the key is short, the ids of its list are ints. -/
import Derived.Test.YtfnohilhlofimaaCoC
namespace Go.Proofs.Ytfnohilhlofimaa
open Go.RowKit

def failN (s : Tb) (k : ByteArray) : Int := (s.L k).tail.headD 0
def failOk (s : Tb) (k : ByteArray) : Bool := !(s.L k).tail.isEmpty
def failE (s : Tb) (k : ByteArray) : Int := if (s.L k).isEmpty then 3 else 0
noncomputable def FailS (s : Tb) (k : ByteArray) : Tb := match s.L k with
  | [] => s
  | x :: r => { s with I := upd s.I x none, L := upd s.L k r }
section
variable {w w1 w2 w' : World} {b : Nat} {s s' : Tb} {a : TA} {P : Nat → Prop} {k : ByteArray} {x y : Int} {r : List Int}
/-- A key's list is replaced by an empty one; then the key is deleted. -/
theorem TS.one (h : TS P w b a s w1) (hk : IsK Try.prog 9 (.string k)) (v : Value) (ty : TypeId) :
    ∃ w2 w3, (Instr.mapUpdate 74 (.map (some a.kb)) (.string k) v).run Try.prog w1 = .ok () w2 ∧ (Instr.lookup 74 (.map (some a.kb)) (.string k) false).run Try.prog w2 = .ok v w2 ∧
      w2.cell? ⟨b, 0, none⟩ = some (.map (some a.kb)) ∧ (Builtin.delete_ #[74, 9] ty #[.map (some a.kb), .string k]).run Try.prog w2 = .ok (.tuple #[]) w3 ∧ TS P w b a { s with L := upd s.L k [] } w3 := by
  obtain ⟨w2, h1, h2, h3⟩ := h.t.k.store strKeyed Try.underlying74 hk v
  have hl := h2.look strKeyed Try.underlying74 (zeroL w2) hk false
  rw [fput_same] at hl
  obtain ⟨w3, h4, h5, h6⟩ := h2.del strKeyed Try.underlying74 hk ty
  have he : fdel (fput (kF s.L a.vs) (.string k) v) (.string k) = kF (upd s.L k []) a.vs := by
    rw [← kF_del]
    funext z
    by_cases e : z = .string k
    · subst e; rw [fdel_same, fdel_same]
    · rw [fdel_other e, fdel_other e, fput_other e]
  rw [he] at h5
  have hg : w1.grownBy w3 (some a.kb) := ⟨h6.os.trans h3.os, h6.tape.trans h3.tape, h6.output.trans h3.output, Nat.le_trans h3.size h6.size, fun j hj hn => (h6.block j (Nat.lt_of_lt_of_le hj h3.size) hn).trans (h3.block j hj hn)⟩
  refine ⟨w2, w3, h1, hl, (World.cell?_of_block (h3.block b (h.t.lt .b) fun e => h.t.bK (Option.some.inj e).symm)).trans (has_cell h.t.c 0), h4, h.t.delK hg h5, fun j hj => h.al j (TAl.sub (s := s) (fun x hx => (upd_nil hx).2) hj), h.grown hg .k⟩
theorem t_fail_none (h : TIs w P b s) (hk : k.size ≤ maxLen) (h0 : s.L k = []) : Calls Try.prog 14 #[.pointer (some ⟨b, 0, none⟩), .string k] w (TPost P b (.tuple #[.int .i64 0, .bool false, errV 3]) s w) := by
  have HU := Lib.hid h.up
  obtain ⟨a, h, _⟩ := h
  have c0 := has_cell h.c 0
  have hlk := h.lookK (kStr hk)
  obtain ⟨ao, cp, hf, _⟩ := h.slForm k
  rw [hf, h0] at hlk
  clear h hf h0
  go_enter Try.func14, Try.ntmps14
  go_wp2
  go_ret3
  exact ⟨rfl, HU.out⟩
set_option maxRecDepth 100000 in
set_option maxHeartbeats 1600000 in
theorem t_fail_one (h : TIs w P b s) (hk : k.size ≤ maxLen) (hn : IsK Try.prog 3 (.int .i64 x)) (hl : s.L k = [x]) :
    Calls Try.prog 14 #[.pointer (some ⟨b, 0, none⟩), .string k] w (TPost P b (.tuple #[.int .i64 0, .bool false, errV 0]) { s with I := upd s.I x none, L := upd s.L k [] } w) := by
  obtain ⟨a, h⟩ := TS.start h
  have hkk := kStr hk
  have hlk0 := h.t.lookK hkk
  have c0 := (has_cell h.t.c 0).trans (show _ = some (Value.map (some a.kb)) from rfl)
  have hd := h.drew
  have hlk1 := hd.t.lookK hkk
  have d0 := (has_cell hd.t.c 0).trans (show _ = some (Value.map (some a.kb)) from rfl)
  have d1 := (has_cell hd.t.c 1).trans (show _ = some (Value.map (some a.ib)) from rfl)
  have ho1 := hd.t.slOL k
  obtain ⟨ao, cp, hsl, hao, hle, hcm⟩ := h.t.slForm k
  obtain ⟨g, off, rfl⟩ := hao (by rw [hl]; simp)
  obtain ⟨w2, hst, h2, hg2⟩ := hd.delI (n := x) hn 0
  have h2d := h2.drew
  have f0 := (has_cell h2d.t.c 0).trans (show _ = some (Value.map (some a.kb)) from rfl)
  have hlk2 := h2d.t.lookK hkk
  have e0 := (has_cell h2.t.c 0).trans (show _ = some (Value.map (some a.kb)) from rfl)
  have ho2 := h2d.t.slOL k
  rw [show sl a { s with I := upd s.I x none } k = sl a s k from rfl] at hlk2 ho2
  rw [show (Tb.L { s with I := upd s.I x none } k) = s.L k from rfl] at ho2
  rw [hsl] at hlk0 hlk1 hlk2 ho1 ho2
  rw [hl] at hlk0 hlk1 hlk2 ho1 ho2 hle
  have a0 := (show IsI w.drew (.slice (some ⟨g, off, none⟩) ([x]).length cp) ([x]) from ho1).at_ rfl (q := 0) (by simp)
  rw [Nat.add_zero] at a0
  have a0 : w.drew.cell? ⟨g, off, none⟩ = some (.int .i64 x) := a0
  rw [show ([x] : List Int).length = 1 from rfl] at hlk0 hlk1 hlk2 hle
  by_cases hc : cp = 1
  · subst hc
    obtain ⟨wu, w3, hup, hlk3, m0, hdl, h3⟩ := h2d.one hkk (.slice (some ⟨g, off, none⟩) 0 0) 0
    have H4 : Hid (TUp P b { s with I := upd s.I x none, L := upd s.L k [] } w w3) := Lib.hid ⟨_, h3⟩
    have HX := Lib.hid (And.intro hlk3 (And.intro m0 hdl))
    clear hlk3 m0 hdl
    have HS1 : Hid ((fun w' : World => w'.cell? ⟨b, 0, none⟩ = some (.map (some a.kb)) ∧ w'.cell? ⟨b, 1, none⟩ = some (.map (some a.ib)) ∧ w'.cell? ⟨g, off, none⟩ = some (.int .i64 x) ∧ (Instr.lookup 74 (.map (some a.kb)) (.string k) false).run Try.prog w' = .ok (.slice (some ⟨g, off, none⟩) 1 1) w') w.drew) := Lib.hid ⟨d0, d1, a0, hlk1⟩
    have HS2 : Hid ((fun w' : World => w'.cell? ⟨b, 0, none⟩ = some (.map (some a.kb)) ∧ (Instr.lookup 74 (.map (some a.kb)) (.string k) false).run Try.prog w' = .ok (.slice (some ⟨g, off, none⟩) 1 1) w') w2.drew) := Lib.hid ⟨f0, hlk2⟩
    have HST := Lib.hid hst
    have HUP := Lib.hid hup
    clear hup hst h2 h2d hd h ho1 ho2 hsl hl hkk hk hn hg2 h3 hlk1 hlk2 d0 d1 f0 a0 e0 hao
    go_enter Try.func14, Try.ntmps14
    go_wp2_with fail
    have hH := HS1.out
    refine AnyZ.start 12 (fun w' : World => w'.cell? ⟨b, 0, none⟩ = some (.map (some a.kb)) ∧ w'.cell? ⟨b, 1, none⟩ = some (.map (some a.ib)) ∧ w'.cell? ⟨g, off, none⟩ = some (.int .i64 x) ∧ (Instr.lookup 74 (.map (some a.kb)) (.string k) false).run Try.prog w' = .ok (.slice (some ⟨g, off, none⟩) 1 1) w') (by kernel_rfl) ?_
    refine AnyZ.takeP [3, 2, 1] (i := 0) (v := ?_) rfl (by kernel_rfl) (fun _ _ _ h => h) (by rfl) hH ?_ ?_
    rotate_left
    · intro w hSw
      go_simp
      with_reducible rfl
    simp only [List.getElem_toArray, List.getElem_cons_zero, Act.put, List.setIfInBounds_toArray, List.set_cons_zero, List.set_cons_succ]
    refine AnyZ.takeP [3, 2] (i := 1) (v := ?_) rfl (by kernel_rfl) (fun _ _ _ h => h) (by rfl) hH ?_ ?_
    rotate_left
    · intro w hSw
      go_simp
      with_reducible rfl
    simp only [List.getElem_toArray, List.getElem_cons_succ, List.getElem_cons_zero, Act.put, List.setIfInBounds_toArray, List.set_cons_zero, List.set_cons_succ]
    refine AnyZ.takeP [3] (i := 2) (v := ?_) rfl (by kernel_rfl) (fun _ _ _ h => h) (by rfl) hH ?_ ?_
    rotate_left
    · intro w hSw
      go_simp
      with_reducible rfl
    simp only [List.getElem_toArray, List.getElem_cons_succ, List.getElem_cons_zero, Act.put, List.setIfInBounds_toArray, List.set_cons_zero, List.set_cons_succ]
    refine AnyZ.takeP [] (i := 3) (v := ?_) rfl (by kernel_rfl) (fun _ _ _ h => h) (by rfl) hH ?_ ?_
    rotate_left
    · intro w hSw
      go_simp
      with_reducible rfl
    simp only [List.getElem_toArray, List.getElem_cons_succ, List.getElem_cons_zero, Act.put, List.setIfInBounds_toArray, List.set_cons_zero, List.set_cons_succ]
    refine AnyZ.takeP [11, 10, 9, 7, 6, 5] (i := 4) (v := ?_) rfl (by kernel_rfl) (fun _ _ _ h => h) (by rfl) hH ?_ ?_
    rotate_left
    · intro w hSw
      go_simp
      with_reducible rfl
    simp only [List.getElem_toArray, List.getElem_cons_succ, List.getElem_cons_zero, Act.put, List.setIfInBounds_toArray, List.set_cons_zero, List.set_cons_succ]
    refine AnyZ.takeP [11, 10, 9, 7, 6] (i := 5) (v := ?_) rfl (by kernel_rfl) (fun _ _ _ h => h) (by rfl) hH ?_ ?_
    rotate_left
    · intro w hSw
      go_simp
      with_reducible rfl
    simp only [List.getElem_toArray, List.getElem_cons_succ, List.getElem_cons_zero, Act.put, List.setIfInBounds_toArray, List.set_cons_zero, List.set_cons_succ]
    refine AnyZ.takeP [11, 10, 9, 7] (i := 6) (v := ?_) rfl (by kernel_rfl) (fun _ _ _ h => h) (by rfl) hH ?_ ?_
    rotate_left
    · intro w hSw
      go_simp
      with_reducible rfl
    simp only [List.getElem_toArray, List.getElem_cons_succ, List.getElem_cons_zero, Act.put, List.setIfInBounds_toArray, List.set_cons_zero, List.set_cons_succ]
    refine AnyZ.takeP [11, 10, 9] (i := 7) (v := ?_) rfl (by kernel_rfl) (fun _ _ _ h => h) (by rfl) hH ?_ ?_
    rotate_left
    · intro w hSw
      go_simp
      with_reducible rfl
    simp only [List.getElem_toArray, List.getElem_cons_succ, List.getElem_cons_zero, Act.put, List.setIfInBounds_toArray, List.set_cons_zero, List.set_cons_succ]
    refine AnyZ.takeP [11, 10, 9] (i := 8) (v := ?_) rfl (by kernel_rfl) (fun _ _ _ h => h) (by rfl) hH ?_ ?_
    rotate_left
    · intro w hSw
      go_simp
      with_reducible rfl
    simp only [List.getElem_toArray, List.getElem_cons_succ, List.getElem_cons_zero, Act.put, List.setIfInBounds_toArray, List.set_cons_zero, List.set_cons_succ]
    refine AnyZ.takeP [11, 10] (i := 9) (v := ?_) rfl (by kernel_rfl) (fun _ _ _ h => h) (by rfl) hH ?_ ?_
    rotate_left
    · intro w hSw
      go_simp
      with_reducible rfl
    simp only [List.getElem_toArray, List.getElem_cons_succ, List.getElem_cons_zero, Act.put, List.setIfInBounds_toArray, List.set_cons_zero, List.set_cons_succ]
    refine AnyZ.takeP [11] (i := 10) (v := ?_) rfl (by kernel_rfl) (fun _ _ _ h => h) (by rfl) hH ?_ ?_
    rotate_left
    · intro w hSw
      go_simp
      with_reducible rfl
    simp only [List.getElem_toArray, List.getElem_cons_succ, List.getElem_cons_zero, Act.put, List.setIfInBounds_toArray, List.set_cons_zero, List.set_cons_succ]
    refine AnyZ.takeP [] (i := 11) (v := ?_) rfl (by kernel_rfl) (fun _ _ _ h => h) (by rfl) hH ?_ ?_
    rotate_left
    · intro w hSw
      go_simp
      with_reducible rfl
    simp only [List.getElem_toArray, List.getElem_cons_succ, List.getElem_cons_zero, Act.put, List.setIfInBounds_toArray, List.set_cons_zero, List.set_cons_succ]
    have hst := HST.out
    refine AnyZ.one (i := 12) rfl (by kernel_rfl) rfl (fun K hK => ?_)
    go_simp
    refine hK.out _ _ (.inl rfl) ?_
    clear hK K hH hst hlk0 c0 HST HS1
    refine AnyZ.done (by kernel_rfl) ?_ _
    go_wp2_with fail
    have hH := HS2.out
    refine AnyZ.start 12 (fun w' : World => w'.cell? ⟨b, 0, none⟩ = some (.map (some a.kb)) ∧ (Instr.lookup 74 (.map (some a.kb)) (.string k) false).run Try.prog w' = .ok (.slice (some ⟨g, off, none⟩) 1 1) w') (by kernel_rfl) ?_
    refine AnyZ.takeP [3, 2, 1] (i := 0) (v := ?_) rfl (by kernel_rfl) (fun _ _ _ h => h) (by rfl) hH ?_ ?_
    rotate_left
    · intro w hSw
      go_simp
      with_reducible rfl
    simp only [List.getElem_toArray, List.getElem_cons_zero, Act.put, List.setIfInBounds_toArray, List.set_cons_zero, List.set_cons_succ]
    refine AnyZ.takeP [3, 2] (i := 1) (v := ?_) rfl (by kernel_rfl) (fun _ _ _ h => h) (by rfl) hH ?_ ?_
    rotate_left
    · intro w hSw
      go_simp
      with_reducible rfl
    simp only [List.getElem_toArray, List.getElem_cons_succ, List.getElem_cons_zero, Act.put, List.setIfInBounds_toArray, List.set_cons_zero, List.set_cons_succ]
    refine AnyZ.takeP [3] (i := 2) (v := ?_) rfl (by kernel_rfl) (fun _ _ _ h => h) (by rfl) hH ?_ ?_
    rotate_left
    · intro w hSw
      go_simp
      with_reducible rfl
    simp only [List.getElem_toArray, List.getElem_cons_succ, List.getElem_cons_zero, Act.put, List.setIfInBounds_toArray, List.set_cons_zero, List.set_cons_succ]
    refine AnyZ.takeP [] (i := 3) (v := ?_) rfl (by kernel_rfl) (fun _ _ _ h => h) (by rfl) hH ?_ ?_
    rotate_left
    · intro w hSw
      go_simp
      with_reducible rfl
    simp only [List.getElem_toArray, List.getElem_cons_succ, List.getElem_cons_zero, Act.put, List.setIfInBounds_toArray, List.set_cons_zero, List.set_cons_succ]
    refine AnyZ.takeP [] (i := 4) (v := ?_) rfl (by kernel_rfl) (fun _ _ _ h => h) (by rfl) hH ?_ ?_
    rotate_left
    · intro w hSw
      go_simp
      with_reducible rfl
    simp only [List.getElem_toArray, List.getElem_cons_succ, List.getElem_cons_zero, Act.put, List.setIfInBounds_toArray, List.set_cons_zero, List.set_cons_succ]
    refine AnyZ.takeP [11, 10, 8, 7, 6] (i := 5) (v := ?_) rfl (by kernel_rfl) (fun _ _ _ h => h) (by rfl) hH ?_ ?_
    rotate_left
    · intro w hSw
      go_simp
      with_reducible rfl
    simp only [List.getElem_toArray, List.getElem_cons_succ, List.getElem_cons_zero, Act.put, List.setIfInBounds_toArray, List.set_cons_zero, List.set_cons_succ]
    refine AnyZ.takeP [11, 10, 8, 7] (i := 6) (v := ?_) rfl (by kernel_rfl) (fun _ _ _ h => h) (by rfl) hH ?_ ?_
    rotate_left
    · intro w hSw
      go_simp
      with_reducible rfl
    simp only [List.getElem_toArray, List.getElem_cons_succ, List.getElem_cons_zero, Act.put, List.setIfInBounds_toArray, List.set_cons_zero, List.set_cons_succ]
    refine AnyZ.takeP [11, 10, 8] (i := 7) (v := ?_) rfl (by kernel_rfl) (fun _ _ _ h => h) (by rfl) hH ?_ ?_
    rotate_left
    · intro w hSw
      go_simp
      with_reducible rfl
    simp only [List.getElem_toArray, List.getElem_cons_succ, List.getElem_cons_zero, Act.put, List.setIfInBounds_toArray, List.set_cons_zero, List.set_cons_succ]
    refine AnyZ.takeP [11, 10] (i := 8) (v := ?_) rfl (by kernel_rfl) (fun _ _ _ h => h) (by rfl) hH ?_ ?_
    rotate_left
    · intro w hSw
      go_simp
      with_reducible rfl
    simp only [List.getElem_toArray, List.getElem_cons_succ, List.getElem_cons_zero, Act.put, List.setIfInBounds_toArray, List.set_cons_zero, List.set_cons_succ]
    refine AnyZ.takeP [11, 10] (i := 9) (v := ?_) rfl (by kernel_rfl) (fun _ _ _ h => h) (by rfl) hH ?_ ?_
    rotate_left
    · intro w hSw
      go_simp
      with_reducible rfl
    simp only [List.getElem_toArray, List.getElem_cons_succ, List.getElem_cons_zero, Act.put, List.setIfInBounds_toArray, List.set_cons_zero, List.set_cons_succ]
    refine AnyZ.takeP [11] (i := 10) (v := ?_) rfl (by kernel_rfl) (fun _ _ _ h => h) (by rfl) hH ?_ ?_
    rotate_left
    · intro w hSw
      go_simp
      with_reducible rfl
    simp only [List.getElem_toArray, List.getElem_cons_succ, List.getElem_cons_zero, Act.put, List.setIfInBounds_toArray, List.set_cons_zero, List.set_cons_succ]
    refine AnyZ.takeP [] (i := 11) (v := ?_) rfl (by kernel_rfl) (fun _ _ _ h => h) (by rfl) hH ?_ ?_
    rotate_left
    · intro w hSw
      go_simp
      with_reducible rfl
    simp only [List.getElem_toArray, List.getElem_cons_succ, List.getElem_cons_zero, Act.put, List.setIfInBounds_toArray, List.set_cons_zero, List.set_cons_succ]
    have hup := HUP.out
    refine AnyZ.one (i := 12) rfl (by kernel_rfl) rfl (fun K hK => ?_)
    go_simp
    refine hK.out _ _ (.inl rfl) ?_
    clear hK K hH hup HUP HS2
    refine AnyZ.done (by kernel_rfl) ?_ _
    obtain ⟨hlk3, m0, hdl⟩ := HX.out
    go_wp2_with fail
    go_ret3
    exact ⟨rfl, H4.out⟩
  · have hc2 : 1 ≤ cp := hle
    obtain ⟨wu, w3, hup, hlk3, m0, hdl, h3⟩ := h2d.one hkk (.slice (some ⟨g, off + 1, none⟩) 0 (cp - 1)) 0
    have H4 : Hid (TUp P b { s with I := upd s.I x none, L := upd s.L k [] } w w3) := Lib.hid ⟨_, h3⟩
    have HX := Lib.hid (And.intro hlk3 (And.intro m0 hdl))
    clear hlk3 m0 hdl
    have HS1 : Hid ((fun w' : World => w'.cell? ⟨b, 0, none⟩ = some (.map (some a.kb)) ∧ w'.cell? ⟨b, 1, none⟩ = some (.map (some a.ib)) ∧ w'.cell? ⟨g, off, none⟩ = some (.int .i64 x) ∧ (Instr.lookup 74 (.map (some a.kb)) (.string k) false).run Try.prog w' = .ok (.slice (some ⟨g, off, none⟩) 1 cp) w') w.drew) := Lib.hid ⟨d0, d1, a0, hlk1⟩
    have HS2 : Hid ((fun w' : World => w'.cell? ⟨b, 0, none⟩ = some (.map (some a.kb)) ∧ (Instr.lookup 74 (.map (some a.kb)) (.string k) false).run Try.prog w' = .ok (.slice (some ⟨g, off, none⟩) 1 cp) w') w2.drew) := Lib.hid ⟨f0, hlk2⟩
    have HST := Lib.hid hst
    have HUP := Lib.hid hup
    clear hup hst h2 h2d hd h ho1 ho2 hsl hl hkk hk hn hg2 h3 hlk1 hlk2 d0 d1 f0 a0 e0 hao
    go_enter Try.func14, Try.ntmps14
    go_wp2_with fail
    have hH := HS1.out
    refine AnyZ.start 12 (fun w' : World => w'.cell? ⟨b, 0, none⟩ = some (.map (some a.kb)) ∧ w'.cell? ⟨b, 1, none⟩ = some (.map (some a.ib)) ∧ w'.cell? ⟨g, off, none⟩ = some (.int .i64 x) ∧ (Instr.lookup 74 (.map (some a.kb)) (.string k) false).run Try.prog w' = .ok (.slice (some ⟨g, off, none⟩) 1 cp) w') (by kernel_rfl) ?_
    refine AnyZ.takeP [3, 2, 1] (i := 0) (v := ?_) rfl (by kernel_rfl) (fun _ _ _ h => h) (by rfl) hH ?_ ?_
    rotate_left
    · intro w hSw
      go_simp
      with_reducible rfl
    simp only [List.getElem_toArray, List.getElem_cons_zero, Act.put, List.setIfInBounds_toArray, List.set_cons_zero, List.set_cons_succ]
    refine AnyZ.takeP [3, 2] (i := 1) (v := ?_) rfl (by kernel_rfl) (fun _ _ _ h => h) (by rfl) hH ?_ ?_
    rotate_left
    · intro w hSw
      go_simp
      with_reducible rfl
    simp only [List.getElem_toArray, List.getElem_cons_succ, List.getElem_cons_zero, Act.put, List.setIfInBounds_toArray, List.set_cons_zero, List.set_cons_succ]
    refine AnyZ.takeP [3] (i := 2) (v := ?_) rfl (by kernel_rfl) (fun _ _ _ h => h) (by rfl) hH ?_ ?_
    rotate_left
    · intro w hSw
      go_simp
      with_reducible rfl
    simp only [List.getElem_toArray, List.getElem_cons_succ, List.getElem_cons_zero, Act.put, List.setIfInBounds_toArray, List.set_cons_zero, List.set_cons_succ]
    refine AnyZ.takeP [] (i := 3) (v := ?_) rfl (by kernel_rfl) (fun _ _ _ h => h) (by rfl) hH ?_ ?_
    rotate_left
    · intro w hSw
      go_simp
      with_reducible rfl
    simp only [List.getElem_toArray, List.getElem_cons_succ, List.getElem_cons_zero, Act.put, List.setIfInBounds_toArray, List.set_cons_zero, List.set_cons_succ]
    refine AnyZ.takeP [11, 10, 9, 7, 6, 5] (i := 4) (v := ?_) rfl (by kernel_rfl) (fun _ _ _ h => h) (by rfl) hH ?_ ?_
    rotate_left
    · intro w hSw
      go_simp
      with_reducible rfl
    simp only [List.getElem_toArray, List.getElem_cons_succ, List.getElem_cons_zero, Act.put, List.setIfInBounds_toArray, List.set_cons_zero, List.set_cons_succ]
    refine AnyZ.takeP [11, 10, 9, 7, 6] (i := 5) (v := ?_) rfl (by kernel_rfl) (fun _ _ _ h => h) (by rfl) hH ?_ ?_
    rotate_left
    · intro w hSw
      go_simp
      with_reducible rfl
    simp only [List.getElem_toArray, List.getElem_cons_succ, List.getElem_cons_zero, Act.put, List.setIfInBounds_toArray, List.set_cons_zero, List.set_cons_succ]
    refine AnyZ.takeP [11, 10, 9, 7] (i := 6) (v := ?_) rfl (by kernel_rfl) (fun _ _ _ h => h) (by rfl) hH ?_ ?_
    rotate_left
    · intro w hSw
      go_simp
      with_reducible rfl
    simp only [List.getElem_toArray, List.getElem_cons_succ, List.getElem_cons_zero, Act.put, List.setIfInBounds_toArray, List.set_cons_zero, List.set_cons_succ]
    refine AnyZ.takeP [11, 10, 9] (i := 7) (v := ?_) rfl (by kernel_rfl) (fun _ _ _ h => h) (by rfl) hH ?_ ?_
    rotate_left
    · intro w hSw
      go_simp
      with_reducible rfl
    simp only [List.getElem_toArray, List.getElem_cons_succ, List.getElem_cons_zero, Act.put, List.setIfInBounds_toArray, List.set_cons_zero, List.set_cons_succ]
    refine AnyZ.takeP [11, 10, 9] (i := 8) (v := ?_) rfl (by kernel_rfl) (fun _ _ _ h => h) (by rfl) hH ?_ ?_
    rotate_left
    · intro w hSw
      go_simp
      with_reducible rfl
    simp only [List.getElem_toArray, List.getElem_cons_succ, List.getElem_cons_zero, Act.put, List.setIfInBounds_toArray, List.set_cons_zero, List.set_cons_succ]
    refine AnyZ.takeP [11, 10] (i := 9) (v := ?_) rfl (by kernel_rfl) (fun _ _ _ h => h) (by rfl) hH ?_ ?_
    rotate_left
    · intro w hSw
      go_simp
      with_reducible rfl
    simp only [List.getElem_toArray, List.getElem_cons_succ, List.getElem_cons_zero, Act.put, List.setIfInBounds_toArray, List.set_cons_zero, List.set_cons_succ]
    refine AnyZ.takeP [11] (i := 10) (v := ?_) rfl (by kernel_rfl) (fun _ _ _ h => h) (by rfl) hH ?_ ?_
    rotate_left
    · intro w hSw
      go_simp
      with_reducible rfl
    simp only [List.getElem_toArray, List.getElem_cons_succ, List.getElem_cons_zero, Act.put, List.setIfInBounds_toArray, List.set_cons_zero, List.set_cons_succ]
    refine AnyZ.takeP [] (i := 11) (v := ?_) rfl (by kernel_rfl) (fun _ _ _ h => h) (by rfl) hH ?_ ?_
    rotate_left
    · intro w hSw
      go_simp
      with_reducible rfl
    simp only [List.getElem_toArray, List.getElem_cons_succ, List.getElem_cons_zero, Act.put, List.setIfInBounds_toArray, List.set_cons_zero, List.set_cons_succ]
    have hst := HST.out
    refine AnyZ.one (i := 12) rfl (by kernel_rfl) rfl (fun K hK => ?_)
    go_simp
    refine hK.out _ _ (.inl rfl) ?_
    clear hK K hH hst hlk0 c0 HST HS1
    refine AnyZ.done (by kernel_rfl) ?_ _
    go_wp2_with fail
    have hH := HS2.out
    refine AnyZ.start 12 (fun w' : World => w'.cell? ⟨b, 0, none⟩ = some (.map (some a.kb)) ∧ (Instr.lookup 74 (.map (some a.kb)) (.string k) false).run Try.prog w' = .ok (.slice (some ⟨g, off, none⟩) 1 cp) w') (by kernel_rfl) ?_
    refine AnyZ.takeP [3, 2, 1] (i := 0) (v := ?_) rfl (by kernel_rfl) (fun _ _ _ h => h) (by rfl) hH ?_ ?_
    rotate_left
    · intro w hSw
      go_simp
      with_reducible rfl
    simp only [List.getElem_toArray, List.getElem_cons_zero, Act.put, List.setIfInBounds_toArray, List.set_cons_zero, List.set_cons_succ]
    refine AnyZ.takeP [3, 2] (i := 1) (v := ?_) rfl (by kernel_rfl) (fun _ _ _ h => h) (by rfl) hH ?_ ?_
    rotate_left
    · intro w hSw
      go_simp
      with_reducible rfl
    simp only [List.getElem_toArray, List.getElem_cons_succ, List.getElem_cons_zero, Act.put, List.setIfInBounds_toArray, List.set_cons_zero, List.set_cons_succ]
    refine AnyZ.takeP [3] (i := 2) (v := ?_) rfl (by kernel_rfl) (fun _ _ _ h => h) (by rfl) hH ?_ ?_
    rotate_left
    · intro w hSw
      go_simp
      with_reducible rfl
    simp only [List.getElem_toArray, List.getElem_cons_succ, List.getElem_cons_zero, Act.put, List.setIfInBounds_toArray, List.set_cons_zero, List.set_cons_succ]
    refine AnyZ.takeP [] (i := 3) (v := ?_) rfl (by kernel_rfl) (fun _ _ _ h => h) (by rfl) hH ?_ ?_
    rotate_left
    · intro w hSw
      go_simp
      with_reducible rfl
    simp only [List.getElem_toArray, List.getElem_cons_succ, List.getElem_cons_zero, Act.put, List.setIfInBounds_toArray, List.set_cons_zero, List.set_cons_succ]
    refine AnyZ.takeP [] (i := 4) (v := ?_) rfl (by kernel_rfl) (fun _ _ _ h => h) (by rfl) hH ?_ ?_
    rotate_left
    · intro w hSw
      go_simp
      with_reducible rfl
    simp only [List.getElem_toArray, List.getElem_cons_succ, List.getElem_cons_zero, Act.put, List.setIfInBounds_toArray, List.set_cons_zero, List.set_cons_succ]
    refine AnyZ.takeP [11, 10, 8, 7, 6] (i := 5) (v := ?_) rfl (by kernel_rfl) (fun _ _ _ h => h) (by rfl) hH ?_ ?_
    rotate_left
    · intro w hSw
      go_simp
      with_reducible rfl
    simp only [List.getElem_toArray, List.getElem_cons_succ, List.getElem_cons_zero, Act.put, List.setIfInBounds_toArray, List.set_cons_zero, List.set_cons_succ]
    refine AnyZ.takeP [11, 10, 8, 7] (i := 6) (v := ?_) rfl (by kernel_rfl) (fun _ _ _ h => h) (by rfl) hH ?_ ?_
    rotate_left
    · intro w hSw
      go_simp
      with_reducible rfl
    simp only [List.getElem_toArray, List.getElem_cons_succ, List.getElem_cons_zero, Act.put, List.setIfInBounds_toArray, List.set_cons_zero, List.set_cons_succ]
    refine AnyZ.takeP [11, 10, 8] (i := 7) (v := ?_) rfl (by kernel_rfl) (fun _ _ _ h => h) (by rfl) hH ?_ ?_
    rotate_left
    · intro w hSw
      go_simp
      with_reducible rfl
    simp only [List.getElem_toArray, List.getElem_cons_succ, List.getElem_cons_zero, Act.put, List.setIfInBounds_toArray, List.set_cons_zero, List.set_cons_succ]
    refine AnyZ.takeP [11, 10] (i := 8) (v := ?_) rfl (by kernel_rfl) (fun _ _ _ h => h) (by rfl) hH ?_ ?_
    rotate_left
    · intro w hSw
      go_simp
      with_reducible rfl
    simp only [List.getElem_toArray, List.getElem_cons_succ, List.getElem_cons_zero, Act.put, List.setIfInBounds_toArray, List.set_cons_zero, List.set_cons_succ]
    refine AnyZ.takeP [11, 10] (i := 9) (v := ?_) rfl (by kernel_rfl) (fun _ _ _ h => h) (by rfl) hH ?_ ?_
    rotate_left
    · intro w hSw
      go_simp
      with_reducible rfl
    simp only [List.getElem_toArray, List.getElem_cons_succ, List.getElem_cons_zero, Act.put, List.setIfInBounds_toArray, List.set_cons_zero, List.set_cons_succ]
    refine AnyZ.takeP [11] (i := 10) (v := ?_) rfl (by kernel_rfl) (fun _ _ _ h => h) (by rfl) hH ?_ ?_
    rotate_left
    · intro w hSw
      go_simp
      with_reducible rfl
    simp only [List.getElem_toArray, List.getElem_cons_succ, List.getElem_cons_zero, Act.put, List.setIfInBounds_toArray, List.set_cons_zero, List.set_cons_succ]
    refine AnyZ.takeP [] (i := 11) (v := ?_) rfl (by kernel_rfl) (fun _ _ _ h => h) (by rfl) hH ?_ ?_
    rotate_left
    · intro w hSw
      go_simp
      with_reducible rfl
    simp only [List.getElem_toArray, List.getElem_cons_succ, List.getElem_cons_zero, Act.put, List.setIfInBounds_toArray, List.set_cons_zero, List.set_cons_succ]
    have hup := HUP.out
    refine AnyZ.one (i := 12) rfl (by kernel_rfl) rfl (fun K hK => ?_)
    go_simp
    refine hK.out _ _ (.inl rfl) ?_
    clear hK K hH hup HUP HS2
    refine AnyZ.done (by kernel_rfl) ?_ _
    obtain ⟨hlk3, m0, hdl⟩ := HX.out
    go_wp2_with fail
    go_ret3
    exact ⟨rfl, H4.out⟩
set_option maxRecDepth 100000 in
set_option maxHeartbeats 1600000 in
theorem t_fail_more (h : TIs w P b s) (hk : k.size ≤ maxLen) (hn : IsK Try.prog 3 (.int .i64 x)) (hl : s.L k = x :: y :: r) :
    Calls Try.prog 14 #[.pointer (some ⟨b, 0, none⟩), .string k] w (TPost P b (.tuple #[.int .i64 y, .bool true, errV 0]) { s with I := upd s.I x none, L := upd s.L k (y :: r) } w) := by
  obtain ⟨a, h⟩ := TS.start h
  have hkk := kStr hk
  have hlk0 := h.t.lookK hkk
  have c0 := (has_cell h.t.c 0).trans (show _ = some (Value.map (some a.kb)) from rfl)
  have hd := h.drew
  have hlk1 := hd.t.lookK hkk
  have d0 := (has_cell hd.t.c 0).trans (show _ = some (Value.map (some a.kb)) from rfl)
  have d1 := (has_cell hd.t.c 1).trans (show _ = some (Value.map (some a.ib)) from rfl)
  have ho1 := hd.t.slOL k
  obtain ⟨ao, cp, hsl, hao, hle, hcm⟩ := h.t.slForm k
  obtain ⟨g, off, rfl⟩ := hao (by rw [hl]; simp)
  obtain ⟨w2, hst, h2, hg2⟩ := hd.delI (n := x) hn 0
  have h2d := h2.drew
  have f0 := (has_cell h2d.t.c 0).trans (show _ = some (Value.map (some a.kb)) from rfl)
  have hlk2 := h2d.t.lookK hkk
  have e0 := (has_cell h2.t.c 0).trans (show _ = some (Value.map (some a.kb)) from rfl)
  have ho2 := h2d.t.slOL k
  rw [show sl a { s with I := upd s.I x none } k = sl a s k from rfl] at hlk2 ho2
  rw [show (Tb.L { s with I := upd s.I x none } k) = s.L k from rfl] at ho2
  rw [hsl] at hlk0 hlk1 hlk2 ho1 ho2
  rw [hl] at hlk0 hlk1 hlk2 ho1 ho2 hle
  have a0 := (show IsI w.drew (.slice (some ⟨g, off, none⟩) (x :: y :: r).length cp) (x :: y :: r) from ho1).at_ rfl (q := 0) (by simp)
  rw [Nat.add_zero] at a0
  have a0 : w.drew.cell? ⟨g, off, none⟩ = some (.int .i64 x) := a0
  have ht := OL.tail ho2 1 (by simp)
  have hcp : ¬ cp = 1 := by have : r.length + 1 + 1 ≤ cp := by simpa using hle
                            omega
  rw [if_neg hcp] at ht
  have hne : s.L k ≠ [] := by rw [hl]; exact List.cons_ne_nil _ _
  have hown : (a.vs k).ownBlock = some g := by
    have : sl a s k = a.vs k := if_neg hne
    rw [← this, hsl]; rfl
  obtain ⟨w3, hup, h3⟩ := h2d.putK (r := none) (wm := w2.drew) (v := .slice (some ⟨g, off + 1 * 1, none⟩) (r.length + 1) (cp - 1)) (l := y :: r) hkk (by simp) (World.grownBy.refl _ _) (fun _ e => by cases e) (fun g' hg' => .inl ⟨hne, by rw [hown]; exact hg'⟩) ht
  have hlk3 := h3.t.lookK hkk
  have ho3 := h3.t.slOL k
  have m0 := (has_cell h3.t.c 0).trans (show _ = some (Value.map (some a.kb)) from rfl)
  have hs3 : sl { a with vs := upd a.vs k (.slice (some ⟨g, off + 1 * 1, none⟩) (r.length + 1) (cp - 1)) } { s with I := upd s.I x none, L := upd s.L k (y :: r) } k = .slice (some ⟨g, off + 1, none⟩) (r.length + 1) (cp - 1) := by
    unfold sl
    show (if upd s.L k (y :: r) k = [] then _ else upd a.vs k _ k) = _
    rw [upd_same, upd_same, if_neg (List.cons_ne_nil _ _)]
  have hs4 : (Tb.L { s with I := upd s.I x none, L := upd s.L k (y :: r) } k) = y :: r := upd_same
  rw [show ({ a with vs := upd a.vs k (.slice (some ⟨g, off + 1 * 1, none⟩) (r.length + 1) (cp - 1)) } : TA).kb = a.kb from rfl] at hlk3
  rw [hs3] at hlk3 ho3
  rw [hs4] at ho3
  have a1 := (show IsI w3 (.slice (some ⟨g, off + 1, none⟩) (y :: r).length (cp - 1)) (y :: r) from ho3).at_ rfl (q := 0) (by simp)
  rw [Nat.add_zero] at a1
  have a1 : w3.cell? ⟨g, off + 1, none⟩ = some (.int .i64 y) := a1
  have H4 : Hid (TUp P b { s with I := upd s.I x none, L := upd s.L k (y :: r) } w w3) := Lib.hid ⟨_, h3⟩
  have HX := And.intro hlk3 (And.intro m0 a1)
  have hle : r.length + 1 + 1 ≤ cp := by simpa using hle
  rw [show (x :: y :: r).length = r.length + 1 + 1 from rfl] at hlk0 hlk1 hlk2
  rw [show off + 1 * 1 = off + 1 from rfl, show r.length + 1 = r.length + 1 + 1 - 1 from rfl] at hup
  rw [show r.length + 1 = r.length + 1 + 1 - 1 from rfl] at HX
  clear hlk3 m0 a1 hs3 hs4 ho3 hown hne ht
  have hN2 : 2 ≤ r.length + 1 + 1 := by omega
  generalize r.length + 1 + 1 = N at *
  have HX := Lib.hid HX
  have g0 : ((N : Int) == 0) = false := by simp; omega
  have g1 : (0 : Int) < N := by omega
  have g1' : 0 < N := by omega
  have g4 : (1 : Int) ≤ N := by omega
  have g2 : 1 ≤ N := by omega
  have g3 : 1 ≤ cp := by omega
  have G := Lib.hid hN2
  clear hN2
  have HS1 : Hid ((fun w' : World => w'.cell? ⟨b, 0, none⟩ = some (.map (some a.kb)) ∧ w'.cell? ⟨b, 1, none⟩ = some (.map (some a.ib)) ∧ w'.cell? ⟨g, off, none⟩ = some (.int .i64 x) ∧ (Instr.lookup 74 (.map (some a.kb)) (.string k) false).run Try.prog w' = .ok (.slice (some ⟨g, off, none⟩) N cp) w') w.drew) := Lib.hid ⟨d0, d1, a0, hlk1⟩
  have HS2 : Hid ((fun w' : World => w'.cell? ⟨b, 0, none⟩ = some (.map (some a.kb)) ∧ (Instr.lookup 74 (.map (some a.kb)) (.string k) false).run Try.prog w' = .ok (.slice (some ⟨g, off, none⟩) N cp) w') w2.drew) := Lib.hid ⟨f0, hlk2⟩
  have HST := Lib.hid hst
  have HUP := Lib.hid hup
  clear hup hst h2 h2d hd h ho1 ho2 hsl hl hkk hk hn hg2 h3 hlk1 hlk2 d0 d1 f0 a0 e0 hao
  go_enter Try.func14, Try.ntmps14
  go_wp2_with fail
  have hH := HS1.out
  refine AnyZ.start 12 (fun w' : World => w'.cell? ⟨b, 0, none⟩ = some (.map (some a.kb)) ∧ w'.cell? ⟨b, 1, none⟩ = some (.map (some a.ib)) ∧ w'.cell? ⟨g, off, none⟩ = some (.int .i64 x) ∧ (Instr.lookup 74 (.map (some a.kb)) (.string k) false).run Try.prog w' = .ok (.slice (some ⟨g, off, none⟩) N cp) w') (by kernel_rfl) ?_
  refine AnyZ.takeP [3, 2, 1] (i := 0) (v := ?_) rfl (by kernel_rfl) (fun _ _ _ h => h) (by rfl) hH ?_ ?_
  rotate_left
  · intro w hSw
    go_simp
    with_reducible rfl
  simp only [List.getElem_toArray, List.getElem_cons_zero, Act.put, List.setIfInBounds_toArray, List.set_cons_zero, List.set_cons_succ]
  refine AnyZ.takeP [3, 2] (i := 1) (v := ?_) rfl (by kernel_rfl) (fun _ _ _ h => h) (by rfl) hH ?_ ?_
  rotate_left
  · intro w hSw
    go_simp
    with_reducible rfl
  simp only [List.getElem_toArray, List.getElem_cons_succ, List.getElem_cons_zero, Act.put, List.setIfInBounds_toArray, List.set_cons_zero, List.set_cons_succ]
  refine AnyZ.takeP [3] (i := 2) (v := ?_) rfl (by kernel_rfl) (fun _ _ _ h => h) (by rfl) hH ?_ ?_
  rotate_left
  · intro w hSw
    go_simp
    with_reducible rfl
  simp only [List.getElem_toArray, List.getElem_cons_succ, List.getElem_cons_zero, Act.put, List.setIfInBounds_toArray, List.set_cons_zero, List.set_cons_succ]
  refine AnyZ.takeP [] (i := 3) (v := ?_) rfl (by kernel_rfl) (fun _ _ _ h => h) (by rfl) hH ?_ ?_
  rotate_left
  · intro w hSw
    go_simp
    with_reducible rfl
  simp only [List.getElem_toArray, List.getElem_cons_succ, List.getElem_cons_zero, Act.put, List.setIfInBounds_toArray, List.set_cons_zero, List.set_cons_succ]
  refine AnyZ.takeP [11, 10, 9, 7, 6, 5] (i := 4) (v := ?_) rfl (by kernel_rfl) (fun _ _ _ h => h) (by rfl) hH ?_ ?_
  rotate_left
  · intro w hSw
    go_simp
    with_reducible rfl
  simp only [List.getElem_toArray, List.getElem_cons_succ, List.getElem_cons_zero, Act.put, List.setIfInBounds_toArray, List.set_cons_zero, List.set_cons_succ]
  refine AnyZ.takeP [11, 10, 9, 7, 6] (i := 5) (v := ?_) rfl (by kernel_rfl) (fun _ _ _ h => h) (by rfl) hH ?_ ?_
  rotate_left
  · intro w hSw
    go_simp
    with_reducible rfl
  simp only [List.getElem_toArray, List.getElem_cons_succ, List.getElem_cons_zero, Act.put, List.setIfInBounds_toArray, List.set_cons_zero, List.set_cons_succ]
  refine AnyZ.takeP [11, 10, 9, 7] (i := 6) (v := ?_) rfl (by kernel_rfl) (fun _ _ _ h => h) (by rfl) hH ?_ ?_
  rotate_left
  · intro w hSw
    go_simp
    with_reducible rfl
  simp only [List.getElem_toArray, List.getElem_cons_succ, List.getElem_cons_zero, Act.put, List.setIfInBounds_toArray, List.set_cons_zero, List.set_cons_succ]
  refine AnyZ.takeP [11, 10, 9] (i := 7) (v := ?_) rfl (by kernel_rfl) (fun _ _ _ h => h) (by rfl) hH ?_ ?_
  rotate_left
  · intro w hSw
    go_simp
    with_reducible rfl
  simp only [List.getElem_toArray, List.getElem_cons_succ, List.getElem_cons_zero, Act.put, List.setIfInBounds_toArray, List.set_cons_zero, List.set_cons_succ]
  refine AnyZ.takeP [11, 10, 9] (i := 8) (v := ?_) rfl (by kernel_rfl) (fun _ _ _ h => h) (by rfl) hH ?_ ?_
  rotate_left
  · intro w hSw
    go_simp
    with_reducible rfl
  simp only [List.getElem_toArray, List.getElem_cons_succ, List.getElem_cons_zero, Act.put, List.setIfInBounds_toArray, List.set_cons_zero, List.set_cons_succ]
  refine AnyZ.takeP [11, 10] (i := 9) (v := ?_) rfl (by kernel_rfl) (fun _ _ _ h => h) (by rfl) hH ?_ ?_
  rotate_left
  · intro w hSw
    go_simp
    with_reducible rfl
  simp only [List.getElem_toArray, List.getElem_cons_succ, List.getElem_cons_zero, Act.put, List.setIfInBounds_toArray, List.set_cons_zero, List.set_cons_succ]
  refine AnyZ.takeP [11] (i := 10) (v := ?_) rfl (by kernel_rfl) (fun _ _ _ h => h) (by rfl) hH ?_ ?_
  rotate_left
  · intro w hSw
    go_simp
    with_reducible rfl
  simp only [List.getElem_toArray, List.getElem_cons_succ, List.getElem_cons_zero, Act.put, List.setIfInBounds_toArray, List.set_cons_zero, List.set_cons_succ]
  refine AnyZ.takeP [] (i := 11) (v := ?_) rfl (by kernel_rfl) (fun _ _ _ h => h) (by rfl) hH ?_ ?_
  rotate_left
  · intro w hSw
    go_simp
    with_reducible rfl
  simp only [List.getElem_toArray, List.getElem_cons_succ, List.getElem_cons_zero, Act.put, List.setIfInBounds_toArray, List.set_cons_zero, List.set_cons_succ]
  have hst := HST.out
  refine AnyZ.one (i := 12) rfl (by kernel_rfl) rfl (fun K hK => ?_)
  go_simp
  refine hK.out _ _ (.inl rfl) ?_
  clear hK K hH hst hlk0 c0 HST HS1
  refine AnyZ.done (by kernel_rfl) ?_ _
  go_wp2_with fail
  have hH := HS2.out
  refine AnyZ.start 12 (fun w' : World => w'.cell? ⟨b, 0, none⟩ = some (.map (some a.kb)) ∧ (Instr.lookup 74 (.map (some a.kb)) (.string k) false).run Try.prog w' = .ok (.slice (some ⟨g, off, none⟩) N cp) w') (by kernel_rfl) ?_
  refine AnyZ.takeP [3, 2, 1] (i := 0) (v := ?_) rfl (by kernel_rfl) (fun _ _ _ h => h) (by rfl) hH ?_ ?_
  rotate_left
  · intro w hSw
    go_simp
    with_reducible rfl
  simp only [List.getElem_toArray, List.getElem_cons_zero, Act.put, List.setIfInBounds_toArray, List.set_cons_zero, List.set_cons_succ]
  refine AnyZ.takeP [3, 2] (i := 1) (v := ?_) rfl (by kernel_rfl) (fun _ _ _ h => h) (by rfl) hH ?_ ?_
  rotate_left
  · intro w hSw
    go_simp
    with_reducible rfl
  simp only [List.getElem_toArray, List.getElem_cons_succ, List.getElem_cons_zero, Act.put, List.setIfInBounds_toArray, List.set_cons_zero, List.set_cons_succ]
  refine AnyZ.takeP [3] (i := 2) (v := ?_) rfl (by kernel_rfl) (fun _ _ _ h => h) (by rfl) hH ?_ ?_
  rotate_left
  · intro w hSw
    go_simp
    with_reducible rfl
  simp only [List.getElem_toArray, List.getElem_cons_succ, List.getElem_cons_zero, Act.put, List.setIfInBounds_toArray, List.set_cons_zero, List.set_cons_succ]
  refine AnyZ.takeP [] (i := 3) (v := ?_) rfl (by kernel_rfl) (fun _ _ _ h => h) (by rfl) hH ?_ ?_
  rotate_left
  · intro w hSw
    go_simp
    with_reducible rfl
  simp only [List.getElem_toArray, List.getElem_cons_succ, List.getElem_cons_zero, Act.put, List.setIfInBounds_toArray, List.set_cons_zero, List.set_cons_succ]
  refine AnyZ.takeP [] (i := 4) (v := ?_) rfl (by kernel_rfl) (fun _ _ _ h => h) (by rfl) hH ?_ ?_
  rotate_left
  · intro w hSw
    go_simp
    with_reducible rfl
  simp only [List.getElem_toArray, List.getElem_cons_succ, List.getElem_cons_zero, Act.put, List.setIfInBounds_toArray, List.set_cons_zero, List.set_cons_succ]
  refine AnyZ.takeP [11, 10, 8, 7, 6] (i := 5) (v := ?_) rfl (by kernel_rfl) (fun _ _ _ h => h) (by rfl) hH ?_ ?_
  rotate_left
  · intro w hSw
    go_simp
    with_reducible rfl
  simp only [List.getElem_toArray, List.getElem_cons_succ, List.getElem_cons_zero, Act.put, List.setIfInBounds_toArray, List.set_cons_zero, List.set_cons_succ]
  refine AnyZ.takeP [11, 10, 8, 7] (i := 6) (v := ?_) rfl (by kernel_rfl) (fun _ _ _ h => h) (by rfl) hH ?_ ?_
  rotate_left
  · intro w hSw
    go_simp
    with_reducible rfl
  simp only [List.getElem_toArray, List.getElem_cons_succ, List.getElem_cons_zero, Act.put, List.setIfInBounds_toArray, List.set_cons_zero, List.set_cons_succ]
  refine AnyZ.takeP [11, 10, 8] (i := 7) (v := ?_) rfl (by kernel_rfl) (fun _ _ _ h => h) (by rfl) hH ?_ ?_
  rotate_left
  · intro w hSw
    go_simp
    with_reducible rfl
  simp only [List.getElem_toArray, List.getElem_cons_succ, List.getElem_cons_zero, Act.put, List.setIfInBounds_toArray, List.set_cons_zero, List.set_cons_succ]
  refine AnyZ.takeP [11, 10] (i := 8) (v := ?_) rfl (by kernel_rfl) (fun _ _ _ h => h) (by rfl) hH ?_ ?_
  rotate_left
  · intro w hSw
    go_simp
    with_reducible rfl
  simp only [List.getElem_toArray, List.getElem_cons_succ, List.getElem_cons_zero, Act.put, List.setIfInBounds_toArray, List.set_cons_zero, List.set_cons_succ]
  refine AnyZ.takeP [11, 10] (i := 9) (v := ?_) rfl (by kernel_rfl) (fun _ _ _ h => h) (by rfl) hH ?_ ?_
  rotate_left
  · intro w hSw
    go_simp
    with_reducible rfl
  simp only [List.getElem_toArray, List.getElem_cons_succ, List.getElem_cons_zero, Act.put, List.setIfInBounds_toArray, List.set_cons_zero, List.set_cons_succ]
  refine AnyZ.takeP [11] (i := 10) (v := ?_) rfl (by kernel_rfl) (fun _ _ _ h => h) (by rfl) hH ?_ ?_
  rotate_left
  · intro w hSw
    go_simp
    with_reducible rfl
  simp only [List.getElem_toArray, List.getElem_cons_succ, List.getElem_cons_zero, Act.put, List.setIfInBounds_toArray, List.set_cons_zero, List.set_cons_succ]
  refine AnyZ.takeP [] (i := 11) (v := ?_) rfl (by kernel_rfl) (fun _ _ _ h => h) (by rfl) hH ?_ ?_
  rotate_left
  · intro w hSw
    go_simp
    with_reducible rfl
  simp only [List.getElem_toArray, List.getElem_cons_succ, List.getElem_cons_zero, Act.put, List.setIfInBounds_toArray, List.set_cons_zero, List.set_cons_succ]
  have hup := HUP.out
  refine AnyZ.one (i := 12) rfl (by kernel_rfl) rfl (fun K hK => ?_)
  go_simp
  refine hK.out _ _ (.inl rfl) ?_
  clear hK K hH hup HUP HS2
  refine AnyZ.done (by kernel_rfl) ?_ _
  obtain ⟨hlk3, m0, a1⟩ := HX.out
  clear HX
  have hM := G.out
  clear G
  obtain ⟨M, rfl⟩ : ∃ M, N = M + 1 := ⟨N - 1, by omega⟩
  rw [Nat.add_sub_cancel] at *
  have q0 : (0 : Int) < M := by omega
  have q1 : decide ((0 : Int) < M) = true := by simp; omega
  clear g0 g1 g1' g2 g4 hM hle
  go_wp2_with fail
  go_ret3
  exact ⟨rfl, H4.out⟩
/-- What Fail leaves. -/
theorem t_fail (h : TIs w P b s) (hk : k.size ≤ maxLen) (hn : ∀ x ∈ s.L k, IsK Try.prog 3 (.int .i64 x)) :
    Calls Try.prog 14 #[.pointer (some ⟨b, 0, none⟩), .string k] w (TPost P b (.tuple #[.int .i64 (failN s k), .bool (failOk s k), errV (failE s k)]) (FailS s k) w) := by
  unfold failN failOk failE FailS
  cases hl : s.L k with
  | nil => exact t_fail_none h hk hl
  | cons x r =>
    have hx := hn x (by rw [hl]; exact List.mem_cons_self ..)
    cases r with
    | nil => exact t_fail_one h hk hx hl
    | cons y r => exact t_fail_more h hk hx hl
end
end Go.Proofs.Ytfnohilhlofimaa

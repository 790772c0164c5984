/- topology: the walk of routes. Conditions: the map is whole, the first town is there. -/
import Derived.Test.YtpcapmialdmcaaaTpI
namespace Go.Proofs.Ytpcapmialdmcaaa
open Go.RowKit Go.Maps

section
variable {w w' wu : World} {m : Nat} {ts : List ByteArray} {L : List TL} {g : MG} {a : ByteArray}
/-- A route that goes on to a town, as a variable. -/
def XR (wu : World) (R : List ByteArray) (s : ByteArray) (sum : Int) (v19 : Value) (wx : World) : Prop :=
  ∃ q vao vcp, v19 = .pointer (some ⟨q, 0, none⟩) ∧ wx.heap[q]? = some (.cells #[.slice vao (R.length + 1) vcp, .int .i64 sum] 77 (0, 0)) ∧ IsT wx (.slice vao (R.length + 1) vcp) (R ++ [s]) ∧ (∀ k, (Value.slice vao (R.length + 1) vcp).ownBlock = some k → wu.heap.size ≤ k) ∧ Below wu.heap.size wu wx
theorem OL.shp {w : World} {e : TypeId} {size n : Nat} {v : Value} {xs : List Value} (h : OL w e size v n xs) : ∃ ao cap, v = .slice ao n cap := by
  rcases h.forms with ⟨rfl, rfl⟩ | ⟨g, off, cap, rfl, _⟩
  · exact ⟨none, 0, rfl⟩
  · exact ⟨_, cap, rfl⟩
theorem xr_end {wx : World} {p : Nat} {R : List ByteArray} {s : ByteArray} {sum : Int} {vao : Option Addr} {vcp : Nat} (hp : wx.heap[p]? = some (.cells #[.slice none 0 0, .int .i64 0] 77 (0, 0))) (hp0 : wu.heap.size ≤ p) (hT : IsT wx (.slice vao (R.length + 1) vcp) (R ++ [s])) (hn : ∀ k, (Value.slice vao (R.length + 1) vcp).ownBlock = some k → wu.heap.size ≤ k) (hb : Below wu.heap.size wu wx) :
    XR wu R s sum (.pointer (some ⟨p, 0, none⟩)) ((wx.setCell ⟨p, 0, none⟩ (.slice vao (R.length + 1) vcp)).setCell ⟨p, 1, none⟩ (.int .i64 sum)) := by
  have h1 := setCell_heap_self (o := 0) (u := Value.slice vao (R.length + 1) vcp) hp
  have h2 := setCell_heap_self (o := 1) (u := Value.int .i64 sum) h1
  refine ⟨p, vao, vcp, rfl, h2, OL.heap hT fun k hk => ?_, hn, (hb.setCell hp0 _).setCell hp0 _⟩
  obtain ⟨cur, hc⟩ := OL.elem hT k hk
  have hne : k ≠ p := type_ne hc hp (by decide)
  rw [Below.heap_setCell _ _ _ _ hne, Below.heap_setCell _ _ _ _ hne]
theorem dij_start {E : ByteArray → ByteArray → Option Int} {V : ByteArray → Prop} (h : V a) : Dij E V a (fun _ => none) (setO (fun _ => none) a (some ([a], 0))) 0 allP where
  va := h
  d := fun s r h => by cases h
  o := fun s r hs => by
    by_cases e : s = a
    · subst e
      rw [setO_self] at hs
      obtain rfl := Option.some.inj hs
      exact ⟨.one h, rfl, by simp⟩
    · rw [setO_ne e] at hs; cases hs
  e := fun i r k l h => by cases h
  s := fun _ => setO_self _ _ _
theorem RS.start (w : World) {E : ByteArray → ByteArray → Option Int} (ha : a ∈ ts) (za : a.size ≤ 9223372036854775807) : ∃ w1, (Instr.mapUpdate 79 (.map (some w.heap.size)) (.string a) (.agg #[.slice (some ⟨w.heap.size + 1, 0, none⟩) 1 1, .int .i64 0])).run Try.prog ((w.alloc (.map #[] 0)).alloc (.cells #[.string a] 9)) = .ok () w1 ∧
    ∃ ob db, ob = w.heap.size ∧ db = w1.heap.size ∧ RS w ts E a ob db (fun _ => none) (setO (fun _ => none) a (some ([a], 0))) (fun _ => undef) (updV (fun _ => undef) a (.slice (some ⟨w.heap.size + 1, 0, none⟩) 1 1)) 0 allP (w1.alloc (.map #[] 0)) := by
  have hb1 : Below w.heap.size w ((w.alloc (.map #[] 0)).alloc (.cells #[.string a] 9)) := ((Below.refl _ _).alloc (Nat.le_refl _) _).alloc (by simp) _
  have hm0 : MapF Try.prog 9 ((w.alloc (.map #[] 0)).alloc (.cells #[.string a] 9)) w.heap.size (rtF (fun _ => none) (fun _ => undef)) := by
    rw [rtF_none]
    exact (MapF.new _ _ w).belowS ((Below.refl _ _).alloc (Nat.le_refl _) _)
  obtain ⟨w1, hst, hm1, hg1⟩ := hm0.store strK Try.underlying79 (isK1 za) (rtV (.slice (some ⟨w.heap.size + 1, 0, none⟩) 1 1) (([a], 0) : Rt).2)
  rw [rtF_put] at hm1
  have hb2 : Below w.heap.size w w1 := hb1.grown hg1 hb1.size fun k hk => by rw [← Option.some.inj hk]; exact Nat.le_refl _
  have hsz : w.heap.size + 2 ≤ w1.heap.size := by have := hg1.size; simp at this; omega
  have hc : w1.heap[w.heap.size + 1]? = some (.cells #[.string a] 9 (0, 0)) := (hg1.block _ (by simp) fun e => by have := Option.some.inj e; omega).trans (heap_at (by simp))
  have hT : IsT (w1.alloc (.map #[] 0)) (.slice (some ⟨w.heap.size + 1, 0, none⟩) 1 1) [a] := OL.of_block (cs := strs [a]) (size := 1) (n := 1) (has_alloc hc _) rfl (by simp [maxLen])
  refine ⟨w1, hst, w.heap.size, w1.heap.size, rfl, rfl, ?_⟩
  exact {
    be := hb2.alloc hb2.size _
    mo := hm1.belowS ((Below.refl _ _).alloc (Nat.le_refl _) _)
    md := by rw [rtF_none]; exact MapF.new _ _ w1
    ne := by omega
    fo := ⟨Nat.le_refl _, hb2.size⟩
    ot := fun s r hs => by
      by_cases e : s = a
      · subst e
        rw [setO_self] at hs
        obtain rfl := Option.some.inj hs
        rw [updV_self]
        exact ⟨hT, fun k hk => by simp [Value.ownBlock] at hk; omega⟩
      · rw [setO_ne e] at hs; cases hs
    td := fun s r hs => by cases hs
    dj := dij_start ha
    cn := by
      have : ts.filter (fun _ => (none : Option Rt).isSome) = [] := by rw [List.filter_eq_nil_iff]; simp
      rw [this]; rfl }
theorem RS.cle {w0 : World} {E : ByteArray → ByteArray → Option Int} {ob db c : Nat} {D O : ByteArray → Option Rt} {VD VO : ByteArray → Value} {Q : ByteArray → ByteArray → Prop} (h : RS w0 ts E a ob db D O VD VO c Q w) : c ≤ ts.length := by
  rw [← h.cn]; exact List.length_filter_le _ _
theorem town_ne {s : ByteArray} (h : TownP s) : s ≠ ⟨#[]⟩ := fun e => by
  have := h.2.1
  rw [e] at this
  exact absurd this (by decide)
theorem MapAt.read (h : MapAt w m ts L g) : ∃ tao tcp, g.tv = .slice tao ts.length tcp ∧ (0 < ts.length → ∃ tg to_, tao = some ⟨tg, to_, none⟩ ∧ ∀ w', Below w.heap.size w w' → ∀ j, j < ts.length → w'.cell? ⟨tg, to_ + j, none⟩ = some (.string (ts.getD j ByteArray.empty))) := by
  obtain ⟨ao, cap, e, _, _⟩ := h.tw.form
  refine ⟨ao, cap, e, fun h0 => ?_⟩
  obtain ⟨ao', cap', e', _, h2⟩ := h.tw.rt
  rw [e] at e'
  obtain ⟨b, off, e2, h3, h4⟩ := h2 h0
  simp only [Value.slice.injEq] at e'
  refine ⟨b, off, by rw [e'.1, e2], fun w' hb j hj => ?_⟩
  exact (hb.cell (p := ⟨b, off + j, none⟩) h3).trans (h4 j hj)
set_option maxRecDepth 100000 in
set_option maxHeartbeats 6400000 in
theorem routes_any (h : MapAt w m ts L g) (ha : a ∈ ts) (t : Int) : Calls Try.prog 32 #[ptrV m, .string a, .int .i64 t] w (RtsP w ts (lat L t) a) := by
  have NN := Lib.hid (h.ok.net t)
  have za := (h.tz a ha).sz
  obtain ⟨w1, hst, ob, db, hob, hdb, hR0⟩ := RS.start w (ts := ts) (E := lat L t) ha za
  obtain ⟨tao, tcp, htv, htr⟩ := h.read
  have HM := Lib.hid (fun (wx : World) (hb : Below w.heap.size w wx) => h.bel hb)
  have HT := Lib.hid (fun (wx : World) (hb : Below w.heap.size w wx) => show wx.cell? ⟨m, 0, none⟩ = some (.slice tao ts.length tcp) from by rw [← htv]; exact (h.bel hb).c0)
  have HTR := Lib.hid htr
  have HTZ := Lib.hid h.tz
  have HND := Lib.hid h.nd
  have HFIN := Lib.hid (fun (D O : ByteArray → Option Rt) VD VO c wx (hR : RS w ts (lat L t) a ob db D O VD VO c allP wx) (hO : ∀ k, O k = none) => hR.done NN.out hO)
  have htl := h.tl
  have HEP := Lib.hid (show ((⟨#[]⟩ : ByteArray).toList == (⟨#[]⟩ : ByteArray).toList) = true from eqB_iff.2 rfl)
  unfold ptrV
  have hmm := @run_makeMap Try.prog
  clear h ha htv htr za
  go_enter Try.func32, Try.ntmps32
  go_wp2_with fail
  rw [← hdb, ← hob]
  clear hmm hst hdb hob
  generalize w1.alloc (.map #[] 0) = w2 at hR0 ⊢
  go_loopw [9] (fun _ wr => ∃ D O VD VO c, RS w ts (lat L t) a ob db D O VD VO c allP wr) (fun _ wr => 65 - mapSz wr db)
  case atStart => exact ⟨_, _, _, _, _, hR0⟩
  case round =>
    clear hR0
    obtain ⟨D, O, VD, VO, c, hR⟩ := hrel
    have hcl := hR.cle
    have hlen := rt_len hR.mo HND.out hR.oin 3
    have hsz := rt_size hR.md HND.out hR.din
    rw [hR.cn] at hsz
    by_cases hO : ∀ k, O k = none
    · have e0 : ts.filter (fun s => (O s).isSome) = [] := by rw [List.filter_eq_nil_iff]; intro x _; rw [hO x]; simp
      rw [e0] at hlen
      have HP := Lib.hid (HFIN.out D O VD VO c wr hR hO)
      have hlen' : (Builtin.len_ #[79] 3 #[.map (some ob)]).run Try.prog wr = .ok (.int .i64 0) wr := hlen
      clear hR hlen hsz
      go_wp2_with fail
      go_ret
      exact HP.out
    · have hl0 : 0 < (ts.filter fun s => (O s).isSome).length := by
        rw [Classical.not_forall] at hO
        obtain ⟨k, hk⟩ := hO
        cases hok : O k with
        | none => exact absurd hok hk
        | some r => exact List.length_pos_of_mem (List.mem_filter.2 ⟨hR.oin k r hok, by rw [hok]; rfl⟩)
      have HO := Lib.hid hO
      clear hO
      generalize (ts.filter fun s => (O s).isSome).length = no at *
      have d0 : decide ((0 : Int) < (no : Int)) = true := decide_eq_true (by omega)
      have HR := Lib.hid hR
      have HSZ := Lib.hid hsz
      have hbw := hR.be
      have c0 := HT.out wr hbw
      clear hR hsz
      rename World => wo
      go_wp2_with fail
      go_loopw [9, 37] (fun nv iv wr => ∃ (j : Nat) (nx : ByteArray), j ≤ ts.length ∧ iv = .int .i64 j ∧ nv = .string nx ∧ Nxt O (ts.take j) nx ∧ Below wo.heap.size wo wr) (fun _ iv _ => ts.length - (intOf iv).toNat)
      case atStart => exact ⟨0, ⟨#[]⟩, Nat.zero_le _, rfl, rfl, .inl ⟨rfl, by simp⟩, Below.refl _ _⟩
      case round =>
        obtain ⟨j, nx, hj, rfl, rfl, hN, hb⟩ := hrel
        have HX := Lib.hid hN
        have HB := Lib.hid hb
        clear hN c0 hlen d0 hl0
        by_cases hlt : j < ts.length
        · obtain ⟨tg, tof, rfl, hcell⟩ := HTR.out (by omega)
          have hbx : Below w.heap.size w wr := HR.out.be.trans (hb.mono HR.out.be.size)
          have s0 := hcell wr hbx j hlt
          have zs := (HTZ.out _ (getD_mem hlt)).sz
          have hRr := HR.out.bel hb
          have hlk := rt_look hRr.mo zs
          have HTK := Lib.hid (take_get hlt)
          clear hcell hb hbx
          generalize ts.getD j ByteArray.empty = s at *
          cases hOs : O s with
          | none =>
            rw [hOs] at hlk
            have hlk' : (Instr.lookup 79 (.map (some ob)) (.string s) true).run Try.prog wr = .ok (.tuple #[.agg #[.slice none 0 0, .int .i64 0], .bool false]) wr := hlk
            have HNX := Lib.hid (show Nxt O (ts.take (j + 1)) nx from by rw [HTK.out]; exact HX.out.skip hOs)
            have HBA := Lib.hid (HB.out.alloc HB.out.size (.cells #[.slice none 0 0, .int .i64 0] 77))
            clear hlk hRr hOs
            go_wp2_with fail
            go_roundw
            case rel => exact ⟨j + 1, nx, by omega, by go_num, rfl, HNX.out, HBA.out⟩
            case measure => simp [intOf]; omega
          | some r =>
            rw [hOs] at hlk
            obtain ⟨sao, scp, hvs, _⟩ := (hRr.ot s r hOs).1.form
            have hlk' : (Instr.lookup 79 (.map (some ob)) (.string s) true).run Try.prog wr = .ok (.tuple #[.agg #[.slice sao r.1.length scp, .int .i64 r.2], .bool true]) wr := by rw [← hvs]; exact hlk
            have HBA := Lib.hid (HB.out.alloc HB.out.size (.cells #[.slice sao r.1.length scp, .int .i64 r.2] 77))
            have hba := (Below.refl wr.heap.size wr).alloc (Nat.le_refl _) (.cells #[.slice sao r.1.length scp, .int .i64 r.2] 77)
            by_cases hnx : nx = ⟨#[]⟩
            · subst hnx
              have hON : O ⟨#[]⟩ = none := by
                cases hh : O ⟨#[]⟩ with
                | none => rfl
                | some r' => exact absurd rfl (town_ne (HTZ.out _ (HR.out.oin _ _ hh)))
              have HNX := Lib.hid (show Nxt O (ts.take (j + 1)) s from by rw [HTK.out]; exact HX.out.first hON hOs)
              have hep := HEP.out
              clear hlk hRr hOs hba hON hvs
              go_wp2_with fail
              go_roundw
              case rel => exact ⟨j + 1, s, by omega, by go_num, rfl, HNX.out, HBA.out⟩
              case measure => simp [intOf]; omega
            · obtain ⟨rn, hON, hnm⟩ : ∃ rn, O nx = some rn ∧ nx ∈ ts.take j := by
                rcases HX.out with ⟨h1, _⟩ | ⟨rn, h1, h2, _⟩
                · exact absurd h1 hnx
                · exact ⟨rn, h1, h2⟩
              have zn := (HTZ.out _ (List.mem_of_mem_take hnm)).sz
              have hRa := hRr.bel hba
              have hget := rt_get hRa.mo zn hON
              obtain ⟨nao, ncp, hvn, _⟩ := (hRa.ot nx rn hON).1.form
              have CB := Lib.hid (better_any (a := r) (b := rn) ((hRa.ot s r hOs).1.rt) ((hRa.ot nx rn hON).1.rt))
              rw [hvs, hvn] at CB
              rw [hvn] at hget
              have hne : (nx.toList == (⟨#[]⟩ : ByteArray).toList) = false := eqB_false.2 hnx
              have hne0 : nx.toList ≠ [] := fun e => hnx (by
                rw [ByteArray.toList_eq] at e
                exact ByteArray.ext (Array.toList_inj.1 e))
              have hne1 : (nx.toList == []) = false := by simpa using hne0
              have hne2 : nx.toList.isEmpty = false := by simpa using hne0
              have HN1 := Lib.hid (fun (hbt : btr r rn = true) => show Nxt O (ts.take (j + 1)) s from by rw [HTK.out]; exact HX.out.next hON hnx hOs hbt)
              have HN2 := Lib.hid (fun (hbt : btr r rn = false) => show Nxt O (ts.take (j + 1)) nx from by rw [HTK.out]; exact HX.out.stay hON hnx hOs hbt)
              unfold rtV at hget CB
              clear hlk hRr hRa hOs hba hON hnx hnm hvs hvn
              generalize r.1.length = lr at *
              generalize rn.1.length = ln at *
              go_wp2_with fail
              refine CB.out.mono ?_
              rintro e w3 ⟨rfl, hb3⟩
              have HB3 := Lib.hid (HBA.out.trans (hb3.mono HBA.out.size))
              clear hb3 CB hget
              cases hbt : btr r rn
              · have HNX := Lib.hid (HN2.out hbt)
                clear HN1 HN2 hbt
                go_wp2_with fail
                go_roundw
                case rel => exact ⟨j + 1, nx, by omega, by go_num, rfl, HNX.out, HB3.out⟩
                case measure => simp [intOf]; omega
              · have HNX := Lib.hid (HN1.out hbt)
                clear HN1 HN2 hbt
                go_wp2_with fail
                go_roundw
                case rel => exact ⟨j + 1, s, by omega, by go_num, rfl, HNX.out, HB3.out⟩
                case measure => simp [intOf]; omega
        · obtain rfl : j = ts.length := by omega
          have HB2 := HB
          obtain ⟨r, hON, hnm, hmin⟩ : ∃ r, O nx = some r ∧ nx ∈ ts ∧ ∀ k rk, O k = some rk → lee r rk := by
            have hX := HX.out
            rw [List.take_length] at hX
            rcases hX with ⟨_, h2⟩ | ⟨r, h1, h2, h3⟩
            · exact absurd (fun k => by
                cases hk : O k with
                | none => rfl
                | some rk => rw [h2 k (HR.out.oin k rk hk)] at hk; cases hk) HO.out
            · exact ⟨r, h1, h2, fun k rk hk => h3 k (HR.out.oin k rk hk) rk hk⟩
          have zn := (HTZ.out _ hnm).sz
          have hRr := HR.out.bel HB.out
          have hget := rt_get hRr.mo zn hON
          obtain ⟨rao, rcp, hvo, _⟩ := (hRr.ot nx r hON).1.form
          have hba := (Below.refl wr.heap.size wr).alloc (Nat.le_refl _) (.cells #[VO nx, .int .i64 r.2] 77)
          have hRa := hRr.bel hba
          obtain ⟨w3, hst, hm3, hg3⟩ := hRa.md.store strK Try.underlying79 (isK1 zn) (rtV (VO nx) r.2)
          have hmo3 : MapF Try.prog 9 w3 ob (rtF O VO) := hRa.mo.at (hg3.block ob hRa.mo.lt fun e => hRa.ne (Option.some.inj e))
          obtain ⟨w4, hdl, hm4, hg4⟩ := hmo3.del strK Try.underlying79 (isK1 zn) 0
          have hT := hRa.take NN.out HND.out hON hmin hm3 hg3 hm4 hg4
          have hrow0 : w4.heap[wr.heap.size]? = some (.cells #[VO nx, .int .i64 r.2] 77 (0, 0)) := by
            have h1 := heap_alloc_new wr (.cells #[VO nx, .int .i64 r.2] 77)
            have h2 := (hg3.block _ (lt_of_block h1) fun e => hRa.md.ne h1 (Option.some.inj e).symm).trans h1
            exact (hg4.block _ (lt_of_block h2) fun e => hmo3.ne h2 (Option.some.inj e).symm).trans h2
          have hDn : setO D nx (some r) nx = some r := setO_self _ _ _
          have hVn : updV VD nx (VO nx) nx = VO nx := updV_self _ _ _
          have hRS0 := hT.weaken (P' := fun i x => i ≠ nx ∨ x ∈ ts.take 0) fun i k _ hp => hp.elim id fun h => by simp at h
          have hc4 := HT.out w4 hT.be
          have hcl4 := hT.cle
          generalize setO D nx (some r) = D2 at hDn hRS0
          generalize updV VD nx (VO nx) = VD2 at hVn hRS0
          rw [hvo] at hget hst hrow0 hVn
          unfold rtV at hget hst
          generalize setO O nx none = O2 at hRS0
          have HVN := Lib.hid hVn
          have HDN := Lib.hid hDn
          have HRW := Lib.hid hrow0
          have HR4 := Lib.hid hRS0
          clear hRr hRa hm3 hg3 hmo3 hm4 hg4 hT hrow0 hDn hVn hRS0 hvo hmin hON HX hba
          generalize hrs : r.2 = rs at *
          generalize hR : r.1 = R at *
          have HRR := Lib.hid (And.intro hR hrs)
          clear hR hrs
          go_wp2_with fail
          clear hget hst hdl hc4
          obtain ⟨kr, hkr⟩ : ∃ kr, wr.heap.size = kr := ⟨_, rfl⟩
          rw [hkr] at HRW ⊢
          clear hkr
          go_loopw [74] (fun iv wq => ∃ (j : Nat) (O' : ByteArray → Option Rt) (VO' : ByteArray → Value), j ≤ ts.length ∧ iv = .int .i64 j ∧ RS w ts (lat L t) a ob db D2 O' VD2 VO' (c + 1) (fun i x => i ≠ nx ∨ x ∈ ts.take j) wq ∧ wq.heap[kr]? = some (.cells #[.slice rao R.length rcp, .int .i64 rs] 77 (0, 0))) (fun iv _ => ts.length - (intOf iv).toNat)
          case atStart => exact ⟨0, _, _, Nat.zero_le _, rfl, HR4.out, HRW.out⟩
          case round =>
            obtain ⟨j, O', VO', hj, rfl, hR5, hrow⟩ := hrel
            have HR5 := Lib.hid hR5
            have HRO := Lib.hid hrow
            have hRSZ := rt_size hR5.md HND.out hR5.din
            rw [hR5.cn] at hRSZ
            have HRSZ := Lib.hid hRSZ
            clear hR5 hrow hRSZ HR4 HRW
            by_cases hlt : j < ts.length
            · obtain ⟨tg, tof, rfl, hcell⟩ := HTR.out (by omega)
              have s0 := hcell wr HR5.out.be j hlt
              have hsm := getD_mem hlt
              have zs := (HTZ.out _ hsm).sz
              have hlk := rt_look HR5.out.md zs
              have HTK := Lib.hid (take_get hlt)
              clear hcell
              generalize ts.getD j ByteArray.empty = s at *
              have HNXT : Hid (∀ {O'' : ByteArray → Option Rt} {VO'' : ByteArray → Value} {wz : World}, RS w ts (lat L t) a ob db D2 O'' VD2 VO'' (c + 1) (fun i y => (i ≠ nx ∨ y ∈ ts.take j) ∨ (i = nx ∧ y = s)) wz → RS w ts (lat L t) a ob db D2 O'' VD2 VO'' (c + 1) (fun i x => i ≠ nx ∨ x ∈ ts.take (j + 1)) wz) := Lib.hid fun hz => hz.weaken fun i k _ hp => by
                rcases hp with hp | hp
                · exact .inl (.inl hp)
                · rw [HTK.out, List.mem_append, List.mem_singleton] at hp
                  rcases hp with hp | hp
                  · exact .inl (.inr hp)
                  · by_cases e : i = nx
                    · exact .inr ⟨e, hp⟩
                    · exact .inl (.inl e)
              cases hDs : D2 s with
              | some rd =>
                rw [hDs] at hlk
                obtain ⟨dao, dcp, hvd, _⟩ := (HR5.out.td s rd hDs).1.form
                rw [hvd] at hlk
                have hlk' : (Instr.lookup 79 (.map (some db)) (.string s) true).run Try.prog wr = .ok (.tuple #[.agg #[.slice dao rd.1.length dcp, .int .i64 rd.2], .bool true]) wr := hlk
                have hba := (Below.refl wr.heap.size wr).alloc (Nat.le_refl _) (.cells #[.slice dao rd.1.length dcp, .int .i64 rd.2] 77)
                have HN := Lib.hid (HNXT.out ((HR5.out.bel hba).seen (.inl (by rw [hDs]; simp))))
                have HRN := Lib.hid (below_ats hba HRO.out)
                clear hlk hba hvd hDs
                go_wp2_with fail
                go_roundw
                case rel => exact ⟨j + 1, _, _, by omega, by go_num, HN.out, HRN.out⟩
                case measure => simp [intOf]; omega
              | none =>
                rw [hDs] at hlk
                have hlk' : (Instr.lookup 79 (.map (some db)) (.string s) true).run Try.prog wr = .ok (.tuple #[.agg #[.slice none 0 0, .int .i64 0], .bool false]) wr := hlk
                have hba := (Below.refl wr.heap.size wr).alloc (Nat.le_refl _) (.cells #[.slice none 0 0, .int .i64 0] 77)
                have CU := Lib.hid (up_any (HM.out _ (HR5.out.bel hba).be) zn zs t)
                unfold ptrV at CU
                have HBA := Lib.hid hba
                clear hlk hba
                go_wp2_with fail
                refine CU.out.mono ?_
                rintro e wu ⟨rfl, hbu⟩
                have HBU := Lib.hid (HBA.out.trans (hbu.mono HBA.out.size))
                have HRU := Lib.hid (HR5.out.bel HBU.out)
                have HROU := Lib.hid (below_ats HBU.out HRO.out)
                clear CU hlk' hbu
                cases hup : upT L nx s t
                · have HN := Lib.hid (HNXT.out (HRU.out.seen (.inr (.inl (upT_none hup)))))
                  clear hup
                  go_wp2_with fail
                  go_roundw
                  case rel => exact ⟨j + 1, _, _, by omega, by go_num, HN.out, HROU.out⟩
                  case measure => simp [intOf]; omega
                · obtain ⟨i, hfi, hlat⟩ := upT_some hup
                  have hi := (fnd_some hfi).1
                  have hbwu := HRU.out.be
                  have hlb := (HM.out wu hbwu).ok.bd _ (lk_mem hi)
                  have hpl := (HRU.out.dj.d nx r HDN.out).1.1.len NN.out
                  have hrl := (HRU.out.dj.d nx r HDN.out).2
                  rw [HRR.out.1, HRR.out.2] at hpl
                  rw [HRR.out.1] at hrl
                  have HLAT := Lib.hid hlat
                  have HS := Lib.hid (fun (wx : World) (hb : Below wu.heap.size wu wx) => show wx.cell? ⟨kr, 0, none⟩ = some (.slice rao R.length rcp) ∧ wx.cell? ⟨kr, 1, none⟩ = some (.int .i64 rs) ∧ wx.cell? ⟨m, 1, none⟩ = some (.map (some g.lb)) ∧ wx.cell? ⟨g.P i, 0, none⟩ = some (.int .i64 (lk L i).lat) ∧
                      (Instr.lookup 88 (.map (some g.lb)) (.agg #[.string (Lib.minS nx s), .string (Lib.maxS nx s)]) false).run Try.prog wx = .ok (.pointer (some ⟨g.P i, 0, none⟩)) wx from by
                    have hMx := HM.out wx (hbwu.trans (hb.mono hbwu.size))
                    have hr := below_ats hb HROU.out
                    have hl := hMx.look zn zs
                    rw [hfi] at hl
                    exact ⟨(has_cell hr 0).trans rfl, (has_cell hr 1).trans rfl, hMx.c1, (has_cell (hMx.pr i hi) 0).trans rfl, hl⟩)
                  have CL := Lib.hid (fun (wx : World) (hb : Below wu.heap.size wu wx) => clone_any (show IsT wx (.slice rao R.length rcp) R from by
                    have := (HRU.out.td nx r HDN.out).1
                    rw [HVN.out, HRR.out.1] at this
                    exact OL.below this hb fun k hk => OL.lt this k hk) (by omega))
                  have HFR := Lib.hid (show w.heap.size ≤ wu.heap.size from hbwu.size)
                  have HGO := Lib.hid (show gone r s (lk L i).lat = (R ++ [s], rs + (lk L i).lat) from by unfold gone; rw [HRR.out.1, HRR.out.2])
                  clear hfi hlat hi hbwu hup
                  generalize hlt' : (lk L i).lat = lt at *
                  have hwr : IntKind.i64.wrap (rs + lt) = rs + lt := IntWalk.i64_in _ (by omega)
                  have hRl : R.length ≤ 1000 := by omega
                  go_upto_region 20 with fail
                  go_cut [19] (fun v19 wx => XR wu R s (rs + lt) v19 wx)
                  case first =>
                    have HB0 : Hid (Below wu.heap.size wu wu.drew) := Lib.hid (below_drew _ _)
                    have hH0 := HS.out _ HB0.out
                    clear HSZ HRSZ HNXT HTK HLAT HFR HGO hpl hrl hlb HBA HBU
                    refine AnyZ.start 22 (fun w' => w'.cell? ⟨kr, 0, none⟩ = some (.slice rao R.length rcp) ∧ w'.cell? ⟨kr, 1, none⟩ = some (.int .i64 rs) ∧ w'.cell? ⟨m, 1, none⟩ = some (.map (some g.lb)) ∧ w'.cell? ⟨g.P i, 0, none⟩ = some (.int .i64 lt) ∧ (Instr.lookup 88 (.map (some g.lb)) (.agg #[.string (Lib.minS nx s), .string (Lib.maxS nx s)]) false).run Try.prog w' = .ok (.pointer (some ⟨g.P i, 0, none⟩)) w') (by kernel_rfl) ?_
                    refine AnyZ.take (i := 0) (v := ?_) rfl (by kernel_rfl) (fun _ _ _ h => h) (by rfl) hH0 ?_ ?_
                    rotate_left
                    · intro w hSw
                      go_simp
                      with_reducible rfl
                    try simp only [List.getElem_toArray, List.getElem_cons_zero, Act.put, List.setIfInBounds_toArray, List.set_cons_zero, List.set_cons_succ]
                    refine AnyZ.take (i := 1) (v := ?_) rfl (by kernel_rfl) (fun _ _ _ h => h) (by rfl) hH0 ?_ ?_
                    rotate_left
                    · intro w hSw
                      go_simp
                      with_reducible rfl
                    try simp only [List.getElem_toArray, List.getElem_cons_succ, List.getElem_cons_zero, Act.put, List.setIfInBounds_toArray, List.set_cons_zero, List.set_cons_succ]
                    refine AnyZ.take (i := 3) (v := ?_) rfl (by kernel_rfl) (fun _ _ _ h => h) (by rfl) hH0 ?_ ?_
                    rotate_left
                    · intro w hSw
                      go_simp
                      with_reducible rfl
                    try simp only [List.getElem_toArray, List.getElem_cons_succ, List.getElem_cons_zero, Act.put, List.setIfInBounds_toArray, List.set_cons_zero, List.set_cons_succ]
                    refine AnyZ.take (i := 6) (v := ?_) rfl (by kernel_rfl) (fun _ _ _ h => h) (by rfl) hH0 ?_ ?_
                    rotate_left
                    · intro w hSw
                      go_simp
                      with_reducible rfl
                    try simp only [List.getElem_toArray, List.getElem_cons_succ, List.getElem_cons_zero, Act.put, List.setIfInBounds_toArray, List.set_cons_zero, List.set_cons_succ]
                    refine AnyZ.take (i := 7) (v := ?_) rfl (by kernel_rfl) (fun _ _ _ h => h) (by rfl) hH0 ?_ ?_
                    rotate_left
                    · intro w hSw
                      go_simp
                      with_reducible rfl
                    try simp only [List.getElem_toArray, List.getElem_cons_succ, List.getElem_cons_zero, Act.put, List.setIfInBounds_toArray, List.set_cons_zero, List.set_cons_succ]
                    refine AnyZ.take (i := 8) (v := ?_) rfl (by kernel_rfl) (fun _ _ _ h => h) (by rfl) hH0 ?_ ?_
                    rotate_left
                    · intro w hSw
                      go_simp
                      with_reducible rfl
                    try simp only [List.getElem_toArray, List.getElem_cons_succ, List.getElem_cons_zero, Act.put, List.setIfInBounds_toArray, List.set_cons_zero, List.set_cons_succ]
                    refine AnyZ.take (i := 9) (v := ?_) rfl (by kernel_rfl) (fun _ _ _ h => h) (by rfl) hH0 ?_ ?_
                    rotate_left
                    · intro w hSw
                      go_simp
                      with_reducible rfl
                    try simp only [List.getElem_toArray, List.getElem_cons_succ, List.getElem_cons_zero, Act.put, List.setIfInBounds_toArray, List.set_cons_zero, List.set_cons_succ]
                    refine AnyZ.take (i := 10) (v := ?_) rfl (by kernel_rfl) (fun _ _ _ h => h) (by rfl) hH0 ?_ ?_
                    rotate_left
                    · intro w hSw
                      go_simp
                      with_reducible rfl
                    try simp only [List.getElem_toArray, List.getElem_cons_succ, List.getElem_cons_zero, Act.put, List.setIfInBounds_toArray, List.set_cons_zero, List.set_cons_succ]
                    refine AnyZ.take (i := 11) (v := ?_) rfl (by kernel_rfl) (fun _ _ _ h => h) (by rfl) hH0 ?_ ?_
                    rotate_left
                    · intro w hSw
                      go_simp
                      with_reducible rfl
                    try simp only [List.getElem_toArray, List.getElem_cons_succ, List.getElem_cons_zero, Act.put, List.setIfInBounds_toArray, List.set_cons_zero, List.set_cons_succ]
                    refine AnyZ.take (i := 12) (v := ?_) rfl (by kernel_rfl) (fun _ _ _ h => h) (by rfl) hH0 ?_ ?_
                    rotate_left
                    · intro w hSw
                      go_simp
                      with_reducible rfl
                    try simp only [List.getElem_toArray, List.getElem_cons_succ, List.getElem_cons_zero, Act.put, List.setIfInBounds_toArray, List.set_cons_zero, List.set_cons_succ]
                    refine AnyZ.take (i := 13) (v := ?_) rfl (by kernel_rfl) (fun _ _ _ h => h) (by rfl) hH0 ?_ ?_
                    rotate_left
                    · intro w hSw
                      go_simp
                      with_reducible rfl
                    try simp only [List.getElem_toArray, List.getElem_cons_succ, List.getElem_cons_zero, Act.put, List.setIfInBounds_toArray, List.set_cons_zero, List.set_cons_succ]
                    refine AnyZ.three (i := 2) (j := 4) (k := 21) rfl rfl rfl (by kernel_rfl) rfl rfl rfl (fun K hK => ?_) (fun K hK => ?_) (fun K hK => ?_)
                    · skip
                      go_simp
                      refine (CL.out _ HB0.out).mono ?_
                      rintro e w2 ⟨vcx, rfl, hvx, hnx, hbx⟩
                      obtain ⟨vca, vcc, rfl⟩ := OL.shp hvx
                      have hvc3 := Lib.hid (And.intro hvx fun k hk => Nat.le_trans HB0.out.size (hnx k hk))
                      have HB1 := Lib.hid (HB0.out.trans (hbx.mono HB0.out.size))
                      clear hvx hnx hbx
                      go_simp
                      refine hK.out _ _ (.inr (HS.out _ HB1.out)) ?_
                      clear hK K
                      refine AnyZ.two (i := 4) (j := 21) rfl rfl (by kernel_rfl) rfl rfl (fun K hK => ?_) (fun K hK => ?_)
                      · skip
                        go_simp
                        have HB4 : Hid (Below wu.heap.size wu (w2.alloc (.cells #[.string s] 9))) := Lib.hid (HB1.out.alloc HB1.out.size _)
                        have hq5 : Hid ((w2.alloc (.cells #[.string s] 9)).heap[w2.heap.size]? = some (.cells #[.string s] 9 (0, 0))) := Lib.hid (heap_at (by simp))
                        have hvc6 := Lib.hid (And.intro (OL.alloc hvc3.out.1 (.cells #[.string s] 9)) hvc3.out.2)
                        refine hK.out _ _ (.inr (HS.out _ HB4.out)) ?_
                        clear hK K
                        refine AnyZ.two (i := 5) (j := 21) rfl rfl (by kernel_rfl) rfl rfl (fun K hK => ?_) (fun K hK => ?_)
                        · skip
                          obtain ⟨vx, w8, hap, hTx, hgx, hox, vxa, vxc, hve⟩ := texts_app hvc6.out.1 (by omega) hq5.out
                          subst hve
                          have happ9 := Lib.hid (And.intro hTx fun k hk => (hox k hk).elim (fun e => hvc6.out.2 k e) fun e => Nat.le_trans HB4.out.size e)
                          have HB7 := Lib.hid (HB4.out.grown hgx HB4.out.size fun k hk => hvc6.out.2 k hk)
                          refine wp_append_run (v := .slice vca R.length vcc) (xv := .slice (some ⟨w2.heap.size, 0, none⟩) 1 1) (.tmp 95) (.tmp 97) 28 28 rfl (by rfl) (by rfl) hap ?_
                          clear hap hTx hgx hox
                          refine hK.out _ _ (.inr (HS.out _ HB7.out)) ?_
                          clear hK K
                          refine AnyZ.two (i := 14) (j := 21) rfl rfl (by kernel_rfl) rfl rfl (fun K hK => ?_) (fun K hK => ?_)
                          · skip
                            go_simp
                            refine (pair_any nx s _).mono ?_
                            rintro e w11 ⟨rfl, hbx⟩
                            have HB10 := Lib.hid (HB7.out.trans (hbx.mono HB7.out.size))
                            have happ12 := Lib.hid (And.intro (OL.below happ9.out.1 hbx fun k hk => OL.lt happ9.out.1 k hk) happ9.out.2)
                            clear hbx
                            go_simp
                            have hH13 := HS.out _ HB10.out
                            refine hK.out _ _ (.inr hH13) ?_
                            clear hK K
                            refine AnyZ.take (i := 15) (v := ?_) rfl (by kernel_rfl) (fun _ _ _ h => h) (by rfl) hH13 ?_ ?_
                            rotate_left
                            · intro w hSw
                              go_simp
                              with_reducible rfl
                            try simp only [List.getElem_toArray, List.getElem_cons_succ, List.getElem_cons_zero, Act.put, List.setIfInBounds_toArray, List.set_cons_zero, List.set_cons_succ]
                            refine AnyZ.take (i := 16) (v := ?_) rfl (by kernel_rfl) (fun _ _ _ h => h) (by rfl) hH13 ?_ ?_
                            rotate_left
                            · intro w hSw
                              go_simp
                              with_reducible rfl
                            try simp only [List.getElem_toArray, List.getElem_cons_succ, List.getElem_cons_zero, Act.put, List.setIfInBounds_toArray, List.set_cons_zero, List.set_cons_succ]
                            refine AnyZ.take (i := 17) (v := ?_) rfl (by kernel_rfl) (fun _ _ _ h => h) (by rfl) hH13 ?_ ?_
                            rotate_left
                            · intro w hSw
                              go_simp
                              with_reducible rfl
                            try simp only [List.getElem_toArray, List.getElem_cons_succ, List.getElem_cons_zero, Act.put, List.setIfInBounds_toArray, List.set_cons_zero, List.set_cons_succ]
                            refine AnyZ.take (i := 18) (v := ?_) rfl (by kernel_rfl) (fun _ _ _ h => h) (by rfl) hH13 ?_ ?_
                            rotate_left
                            · intro w hSw
                              go_simp
                              with_reducible rfl
                            try simp only [List.getElem_toArray, List.getElem_cons_succ, List.getElem_cons_zero, Act.put, List.setIfInBounds_toArray, List.set_cons_zero, List.set_cons_succ]
                            refine AnyZ.take (i := 19) (v := ?_) rfl (by kernel_rfl) (fun _ _ _ h => h) (by rfl) hH13 ?_ ?_
                            rotate_left
                            · intro w hSw
                              go_simp
                              with_reducible rfl
                            try simp only [List.getElem_toArray, List.getElem_cons_succ, List.getElem_cons_zero, Act.put, List.setIfInBounds_toArray, List.set_cons_zero, List.set_cons_succ]
                            refine AnyZ.take (i := 20) (v := ?_) rfl (by kernel_rfl) (fun _ _ _ h => h) (by rfl) hH13 ?_ ?_
                            rotate_left
                            · intro w hSw
                              go_simp
                              with_reducible rfl
                            try simp only [List.getElem_toArray, List.getElem_cons_succ, List.getElem_cons_zero, Act.put, List.setIfInBounds_toArray, List.set_cons_zero, List.set_cons_succ]
                            refine AnyZ.one (i := 21) rfl (by kernel_rfl) rfl (fun K hK => ?_)
                            go_simp
                            have HB14 : Hid (Below wu.heap.size wu (w11.alloc (.cells #[.slice none 0 0, .int .i64 0] 77))) := Lib.hid (HB10.out.alloc HB10.out.size _)
                            have hp15 : Hid ((w11.alloc (.cells #[.slice none 0 0, .int .i64 0] 77)).heap[w11.heap.size]? = some (.cells #[.slice none 0 0, .int .i64 0] 77 (0, 0))) := Lib.hid (heap_at (by simp))
                            have happ16 := Lib.hid (And.intro (OL.alloc happ12.out.1 (.cells #[.slice none 0 0, .int .i64 0] 77)) happ12.out.2)
                            have hpl17 : Hid (wu.heap.size ≤ w11.heap.size) := Lib.hid (by
                              have h0 := HB10.out.size
                              have h1 : w11.heap.size = w11.heap.size := by simp
                              omega)
                            refine hK.out _ _ (.inr (HS.out _ HB14.out)) ?_
                            clear hK K
                            refine AnyZ.one (i := 22) rfl (by kernel_rfl) rfl (fun K hK => ?_)
                            have pc0 := (has_cell hp15.out 0).trans (show _ = some (Value.slice none 0 0) from rfl)
                            have pc1 := (has_cell hp15.out 1).trans (show _ = some (Value.int .i64 0) from rfl)
                            have pf0 := has_free hp15.out 0
                            have pf1 := has_free hp15.out 1
                            go_simp
                            refine hK.out _ _ (.inl rfl) ?_
                            clear hK K
                            refine AnyZ.done (by kernel_rfl) ?_ _
                            have HX := Lib.hid (xr_end (sum := rs + lt) hp15.out hpl17.out happ16.out.1 happ16.out.2 HB14.out)
                            clear pc0 pc1 pf0 pf1
                            go_wp2_with fail
                            go_meet
                            case rel => first | exact HX.out | (have h := HX.out; rw [World.setCell_alloc_new, World.setCell_alloc_new] at h; exact h)
                          · skip
                            go_simp
                            have HB19 : Hid (Below wu.heap.size wu (w8.alloc (.cells #[.slice none 0 0, .int .i64 0] 77))) := Lib.hid (HB7.out.alloc HB7.out.size _)
                            have hp20 : Hid ((w8.alloc (.cells #[.slice none 0 0, .int .i64 0] 77)).heap[w8.heap.size]? = some (.cells #[.slice none 0 0, .int .i64 0] 77 (0, 0))) := Lib.hid (heap_at (by simp))
                            have happ21 := Lib.hid (And.intro (OL.alloc happ9.out.1 (.cells #[.slice none 0 0, .int .i64 0] 77)) happ9.out.2)
                            have hpl22 : Hid (wu.heap.size ≤ w8.heap.size) := Lib.hid (by
                              have h0 := HB7.out.size
                              have h1 : w8.heap.size = w8.heap.size := by simp
                              omega)
                            refine hK.out _ _ (.inr (HS.out _ HB19.out)) ?_
                            clear hK K
                            refine AnyZ.one (i := 14) rfl (by kernel_rfl) rfl (fun K hK => ?_)
                            go_simp
                            refine (pair_any nx s _).mono ?_
                            rintro e w24 ⟨rfl, hbx⟩
                            have HB23 := Lib.hid (HB19.out.trans (hbx.mono HB19.out.size))
                            have hp25 := Lib.hid (below_ats hbx hp20.out)
                            have happ26 := Lib.hid (And.intro (OL.below happ21.out.1 hbx fun k hk => OL.lt happ21.out.1 k hk) happ21.out.2)
                            clear hbx
                            go_simp
                            have hH27 := HS.out _ HB23.out
                            refine hK.out _ _ (.inr hH27) ?_
                            clear hK K
                            refine AnyZ.take (i := 15) (v := ?_) rfl (by kernel_rfl) (fun _ _ _ h => h) (by rfl) hH27 ?_ ?_
                            rotate_left
                            · intro w hSw
                              go_simp
                              with_reducible rfl
                            try simp only [List.getElem_toArray, List.getElem_cons_succ, List.getElem_cons_zero, Act.put, List.setIfInBounds_toArray, List.set_cons_zero, List.set_cons_succ]
                            refine AnyZ.take (i := 16) (v := ?_) rfl (by kernel_rfl) (fun _ _ _ h => h) (by rfl) hH27 ?_ ?_
                            rotate_left
                            · intro w hSw
                              go_simp
                              with_reducible rfl
                            try simp only [List.getElem_toArray, List.getElem_cons_succ, List.getElem_cons_zero, Act.put, List.setIfInBounds_toArray, List.set_cons_zero, List.set_cons_succ]
                            refine AnyZ.take (i := 17) (v := ?_) rfl (by kernel_rfl) (fun _ _ _ h => h) (by rfl) hH27 ?_ ?_
                            rotate_left
                            · intro w hSw
                              go_simp
                              with_reducible rfl
                            try simp only [List.getElem_toArray, List.getElem_cons_succ, List.getElem_cons_zero, Act.put, List.setIfInBounds_toArray, List.set_cons_zero, List.set_cons_succ]
                            refine AnyZ.take (i := 18) (v := ?_) rfl (by kernel_rfl) (fun _ _ _ h => h) (by rfl) hH27 ?_ ?_
                            rotate_left
                            · intro w hSw
                              go_simp
                              with_reducible rfl
                            try simp only [List.getElem_toArray, List.getElem_cons_succ, List.getElem_cons_zero, Act.put, List.setIfInBounds_toArray, List.set_cons_zero, List.set_cons_succ]
                            refine AnyZ.take (i := 19) (v := ?_) rfl (by kernel_rfl) (fun _ _ _ h => h) (by rfl) hH27 ?_ ?_
                            rotate_left
                            · intro w hSw
                              go_simp
                              with_reducible rfl
                            try simp only [List.getElem_toArray, List.getElem_cons_succ, List.getElem_cons_zero, Act.put, List.setIfInBounds_toArray, List.set_cons_zero, List.set_cons_succ]
                            refine AnyZ.take (i := 20) (v := ?_) rfl (by kernel_rfl) (fun _ _ _ h => h) (by rfl) hH27 ?_ ?_
                            rotate_left
                            · intro w hSw
                              go_simp
                              with_reducible rfl
                            try simp only [List.getElem_toArray, List.getElem_cons_succ, List.getElem_cons_zero, Act.put, List.setIfInBounds_toArray, List.set_cons_zero, List.set_cons_succ]
                            refine AnyZ.one (i := 22) rfl (by kernel_rfl) rfl (fun K hK => ?_)
                            have pc0 := (has_cell hp25.out 0).trans (show _ = some (Value.slice none 0 0) from rfl)
                            have pc1 := (has_cell hp25.out 1).trans (show _ = some (Value.int .i64 0) from rfl)
                            have pf0 := has_free hp25.out 0
                            have pf1 := has_free hp25.out 1
                            go_simp
                            refine hK.out _ _ (.inl rfl) ?_
                            clear hK K
                            refine AnyZ.done (by kernel_rfl) ?_ _
                            have HX := Lib.hid (xr_end (sum := rs + lt) hp25.out hpl22.out happ26.out.1 happ26.out.2 HB23.out)
                            clear pc0 pc1 pf0 pf1
                            go_wp2_with fail
                            go_meet
                            case rel => first | exact HX.out | (have h := HX.out; rw [World.setCell_alloc_new, World.setCell_alloc_new] at h; exact h)
                        · skip
                          go_simp
                          have HB29 : Hid (Below wu.heap.size wu ((w2.alloc (.cells #[.string s] 9)).alloc (.cells #[.slice none 0 0, .int .i64 0] 77))) := Lib.hid (HB4.out.alloc HB4.out.size _)
                          have hp30 : Hid (((w2.alloc (.cells #[.string s] 9)).alloc (.cells #[.slice none 0 0, .int .i64 0] 77)).heap[w2.heap.size + 1]? = some (.cells #[.slice none 0 0, .int .i64 0] 77 (0, 0))) := Lib.hid (heap_at (by simp))
                          have hq31 := Lib.hid (has_alloc hq5.out (.cells #[.slice none 0 0, .int .i64 0] 77))
                          have hvc32 := Lib.hid (And.intro (OL.alloc hvc6.out.1 (.cells #[.slice none 0 0, .int .i64 0] 77)) hvc6.out.2)
                          have hpl33 : Hid (wu.heap.size ≤ w2.heap.size + 1) := Lib.hid (by
                            have h0 := HB4.out.size
                            have h1 : (w2.alloc (.cells #[.string s] 9)).heap.size = w2.heap.size + 1 := by simp
                            omega)
                          refine hK.out _ _ (.inr (HS.out _ HB29.out)) ?_
                          clear hK K
                          refine AnyZ.one (i := 5) rfl (by kernel_rfl) rfl (fun K hK => ?_)
                          obtain ⟨vx, w35, hap, hTx, hgx, hox, vxa, vxc, hve⟩ := texts_app hvc32.out.1 (by omega) hq31.out
                          subst hve
                          have happ36 := Lib.hid (And.intro hTx fun k hk => (hox k hk).elim (fun e => hvc32.out.2 k e) fun e => Nat.le_trans HB29.out.size e)
                          have HB34 := Lib.hid (HB29.out.grown hgx HB29.out.size fun k hk => hvc32.out.2 k hk)
                          refine wp_append_run (v := .slice vca R.length vcc) (xv := .slice (some ⟨w2.heap.size, 0, none⟩) 1 1) (.tmp 95) (.tmp 97) 28 28 rfl (by rfl) (by rfl) hap ?_
                          have hp37 := Lib.hid ((hgx.block _ (lt_of_block hp30.out) fun e => by obtain ⟨cur, hcc⟩ := OL.elem hvc32.out.1 _ e.symm; exact type_ne hp30.out hcc (by decide) rfl).trans hp30.out)
                          clear hap hTx hgx hox
                          refine hK.out _ _ (.inr (HS.out _ HB34.out)) ?_
                          clear hK K
                          refine AnyZ.one (i := 14) rfl (by kernel_rfl) rfl (fun K hK => ?_)
                          go_simp
                          refine (pair_any nx s _).mono ?_
                          rintro e w39 ⟨rfl, hbx⟩
                          have HB38 := Lib.hid (HB34.out.trans (hbx.mono HB34.out.size))
                          have hp40 := Lib.hid (below_ats hbx hp37.out)
                          have happ41 := Lib.hid (And.intro (OL.below happ36.out.1 hbx fun k hk => OL.lt happ36.out.1 k hk) happ36.out.2)
                          clear hbx
                          go_simp
                          have hH42 := HS.out _ HB38.out
                          refine hK.out _ _ (.inr hH42) ?_
                          clear hK K
                          refine AnyZ.take (i := 15) (v := ?_) rfl (by kernel_rfl) (fun _ _ _ h => h) (by rfl) hH42 ?_ ?_
                          rotate_left
                          · intro w hSw
                            go_simp
                            with_reducible rfl
                          try simp only [List.getElem_toArray, List.getElem_cons_succ, List.getElem_cons_zero, Act.put, List.setIfInBounds_toArray, List.set_cons_zero, List.set_cons_succ]
                          refine AnyZ.take (i := 16) (v := ?_) rfl (by kernel_rfl) (fun _ _ _ h => h) (by rfl) hH42 ?_ ?_
                          rotate_left
                          · intro w hSw
                            go_simp
                            with_reducible rfl
                          try simp only [List.getElem_toArray, List.getElem_cons_succ, List.getElem_cons_zero, Act.put, List.setIfInBounds_toArray, List.set_cons_zero, List.set_cons_succ]
                          refine AnyZ.take (i := 17) (v := ?_) rfl (by kernel_rfl) (fun _ _ _ h => h) (by rfl) hH42 ?_ ?_
                          rotate_left
                          · intro w hSw
                            go_simp
                            with_reducible rfl
                          try simp only [List.getElem_toArray, List.getElem_cons_succ, List.getElem_cons_zero, Act.put, List.setIfInBounds_toArray, List.set_cons_zero, List.set_cons_succ]
                          refine AnyZ.take (i := 18) (v := ?_) rfl (by kernel_rfl) (fun _ _ _ h => h) (by rfl) hH42 ?_ ?_
                          rotate_left
                          · intro w hSw
                            go_simp
                            with_reducible rfl
                          try simp only [List.getElem_toArray, List.getElem_cons_succ, List.getElem_cons_zero, Act.put, List.setIfInBounds_toArray, List.set_cons_zero, List.set_cons_succ]
                          refine AnyZ.take (i := 19) (v := ?_) rfl (by kernel_rfl) (fun _ _ _ h => h) (by rfl) hH42 ?_ ?_
                          rotate_left
                          · intro w hSw
                            go_simp
                            with_reducible rfl
                          try simp only [List.getElem_toArray, List.getElem_cons_succ, List.getElem_cons_zero, Act.put, List.setIfInBounds_toArray, List.set_cons_zero, List.set_cons_succ]
                          refine AnyZ.take (i := 20) (v := ?_) rfl (by kernel_rfl) (fun _ _ _ h => h) (by rfl) hH42 ?_ ?_
                          rotate_left
                          · intro w hSw
                            go_simp
                            with_reducible rfl
                          try simp only [List.getElem_toArray, List.getElem_cons_succ, List.getElem_cons_zero, Act.put, List.setIfInBounds_toArray, List.set_cons_zero, List.set_cons_succ]
                          refine AnyZ.one (i := 22) rfl (by kernel_rfl) rfl (fun K hK => ?_)
                          have pc0 := (has_cell hp40.out 0).trans (show _ = some (Value.slice none 0 0) from rfl)
                          have pc1 := (has_cell hp40.out 1).trans (show _ = some (Value.int .i64 0) from rfl)
                          have pf0 := has_free hp40.out 0
                          have pf1 := has_free hp40.out 1
                          go_simp
                          refine hK.out _ _ (.inl rfl) ?_
                          clear hK K
                          refine AnyZ.done (by kernel_rfl) ?_ _
                          have HX := Lib.hid (xr_end (sum := rs + lt) hp40.out hpl33.out happ41.out.1 happ41.out.2 HB38.out)
                          clear pc0 pc1 pf0 pf1
                          go_wp2_with fail
                          go_meet
                          case rel => first | exact HX.out | (have h := HX.out; rw [World.setCell_alloc_new, World.setCell_alloc_new] at h; exact h)
                      · skip
                        go_simp
                        have HB44 : Hid (Below wu.heap.size wu (w2.alloc (.cells #[.slice none 0 0, .int .i64 0] 77))) := Lib.hid (HB1.out.alloc HB1.out.size _)
                        have hp45 : Hid ((w2.alloc (.cells #[.slice none 0 0, .int .i64 0] 77)).heap[w2.heap.size]? = some (.cells #[.slice none 0 0, .int .i64 0] 77 (0, 0))) := Lib.hid (heap_at (by simp))
                        have hvc46 := Lib.hid (And.intro (OL.alloc hvc3.out.1 (.cells #[.slice none 0 0, .int .i64 0] 77)) hvc3.out.2)
                        have hpl47 : Hid (wu.heap.size ≤ w2.heap.size) := Lib.hid (by
                          have h0 := HB1.out.size
                          have h1 : w2.heap.size = w2.heap.size := by simp
                          omega)
                        refine hK.out _ _ (.inr (HS.out _ HB44.out)) ?_
                        clear hK K
                        refine AnyZ.one (i := 4) rfl (by kernel_rfl) rfl (fun K hK => ?_)
                        go_simp
                        have HB48 : Hid (Below wu.heap.size wu ((w2.alloc (.cells #[.slice none 0 0, .int .i64 0] 77)).alloc (.cells #[.string s] 9))) := Lib.hid (HB44.out.alloc HB44.out.size _)
                        have hq49 : Hid (((w2.alloc (.cells #[.slice none 0 0, .int .i64 0] 77)).alloc (.cells #[.string s] 9)).heap[w2.heap.size + 1]? = some (.cells #[.string s] 9 (0, 0))) := Lib.hid (heap_at (by simp))
                        have hp50 := Lib.hid (has_alloc hp45.out (.cells #[.string s] 9))
                        have hvc51 := Lib.hid (And.intro (OL.alloc hvc46.out.1 (.cells #[.string s] 9)) hvc46.out.2)
                        refine hK.out _ _ (.inr (HS.out _ HB48.out)) ?_
                        clear hK K
                        refine AnyZ.one (i := 5) rfl (by kernel_rfl) rfl (fun K hK => ?_)
                        obtain ⟨vx, w53, hap, hTx, hgx, hox, vxa, vxc, hve⟩ := texts_app hvc51.out.1 (by omega) hq49.out
                        subst hve
                        have happ54 := Lib.hid (And.intro hTx fun k hk => (hox k hk).elim (fun e => hvc51.out.2 k e) fun e => Nat.le_trans HB48.out.size e)
                        have HB52 := Lib.hid (HB48.out.grown hgx HB48.out.size fun k hk => hvc51.out.2 k hk)
                        refine wp_append_run (v := .slice vca R.length vcc) (xv := .slice (some ⟨w2.heap.size + 1, 0, none⟩) 1 1) (.tmp 95) (.tmp 97) 28 28 rfl (by rfl) (by rfl) hap ?_
                        have hp55 := Lib.hid ((hgx.block _ (lt_of_block hp50.out) fun e => by obtain ⟨cur, hcc⟩ := OL.elem hvc51.out.1 _ e.symm; exact type_ne hp50.out hcc (by decide) rfl).trans hp50.out)
                        clear hap hTx hgx hox
                        refine hK.out _ _ (.inr (HS.out _ HB52.out)) ?_
                        clear hK K
                        refine AnyZ.one (i := 14) rfl (by kernel_rfl) rfl (fun K hK => ?_)
                        go_simp
                        refine (pair_any nx s _).mono ?_
                        rintro e w57 ⟨rfl, hbx⟩
                        have HB56 := Lib.hid (HB52.out.trans (hbx.mono HB52.out.size))
                        have hp58 := Lib.hid (below_ats hbx hp55.out)
                        have happ59 := Lib.hid (And.intro (OL.below happ54.out.1 hbx fun k hk => OL.lt happ54.out.1 k hk) happ54.out.2)
                        clear hbx
                        go_simp
                        have hH60 := HS.out _ HB56.out
                        refine hK.out _ _ (.inr hH60) ?_
                        clear hK K
                        refine AnyZ.take (i := 15) (v := ?_) rfl (by kernel_rfl) (fun _ _ _ h => h) (by rfl) hH60 ?_ ?_
                        rotate_left
                        · intro w hSw
                          go_simp
                          with_reducible rfl
                        try simp only [List.getElem_toArray, List.getElem_cons_succ, List.getElem_cons_zero, Act.put, List.setIfInBounds_toArray, List.set_cons_zero, List.set_cons_succ]
                        refine AnyZ.take (i := 16) (v := ?_) rfl (by kernel_rfl) (fun _ _ _ h => h) (by rfl) hH60 ?_ ?_
                        rotate_left
                        · intro w hSw
                          go_simp
                          with_reducible rfl
                        try simp only [List.getElem_toArray, List.getElem_cons_succ, List.getElem_cons_zero, Act.put, List.setIfInBounds_toArray, List.set_cons_zero, List.set_cons_succ]
                        refine AnyZ.take (i := 17) (v := ?_) rfl (by kernel_rfl) (fun _ _ _ h => h) (by rfl) hH60 ?_ ?_
                        rotate_left
                        · intro w hSw
                          go_simp
                          with_reducible rfl
                        try simp only [List.getElem_toArray, List.getElem_cons_succ, List.getElem_cons_zero, Act.put, List.setIfInBounds_toArray, List.set_cons_zero, List.set_cons_succ]
                        refine AnyZ.take (i := 18) (v := ?_) rfl (by kernel_rfl) (fun _ _ _ h => h) (by rfl) hH60 ?_ ?_
                        rotate_left
                        · intro w hSw
                          go_simp
                          with_reducible rfl
                        try simp only [List.getElem_toArray, List.getElem_cons_succ, List.getElem_cons_zero, Act.put, List.setIfInBounds_toArray, List.set_cons_zero, List.set_cons_succ]
                        refine AnyZ.take (i := 19) (v := ?_) rfl (by kernel_rfl) (fun _ _ _ h => h) (by rfl) hH60 ?_ ?_
                        rotate_left
                        · intro w hSw
                          go_simp
                          with_reducible rfl
                        try simp only [List.getElem_toArray, List.getElem_cons_succ, List.getElem_cons_zero, Act.put, List.setIfInBounds_toArray, List.set_cons_zero, List.set_cons_succ]
                        refine AnyZ.take (i := 20) (v := ?_) rfl (by kernel_rfl) (fun _ _ _ h => h) (by rfl) hH60 ?_ ?_
                        rotate_left
                        · intro w hSw
                          go_simp
                          with_reducible rfl
                        try simp only [List.getElem_toArray, List.getElem_cons_succ, List.getElem_cons_zero, Act.put, List.setIfInBounds_toArray, List.set_cons_zero, List.set_cons_succ]
                        refine AnyZ.one (i := 22) rfl (by kernel_rfl) rfl (fun K hK => ?_)
                        have pc0 := (has_cell hp58.out 0).trans (show _ = some (Value.slice none 0 0) from rfl)
                        have pc1 := (has_cell hp58.out 1).trans (show _ = some (Value.int .i64 0) from rfl)
                        have pf0 := has_free hp58.out 0
                        have pf1 := has_free hp58.out 1
                        go_simp
                        refine hK.out _ _ (.inl rfl) ?_
                        clear hK K
                        refine AnyZ.done (by kernel_rfl) ?_ _
                        have HX := Lib.hid (xr_end (sum := rs + lt) hp58.out hpl47.out happ59.out.1 happ59.out.2 HB56.out)
                        clear pc0 pc1 pf0 pf1
                        go_wp2_with fail
                        go_meet
                        case rel => first | exact HX.out | (have h := HX.out; rw [World.setCell_alloc_new, World.setCell_alloc_new] at h; exact h)
                    · skip
                      go_simp
                      have HB62 : Hid (Below wu.heap.size wu (wu.drew.alloc (.cells #[.string s] 9))) := Lib.hid (HB0.out.alloc HB0.out.size _)
                      have hq63 : Hid ((wu.drew.alloc (.cells #[.string s] 9)).heap[wu.heap.size]? = some (.cells #[.string s] 9 (0, 0))) := Lib.hid (heap_at (by simp))
                      refine hK.out _ _ (.inr (HS.out _ HB62.out)) ?_
                      clear hK K
                      refine AnyZ.two (i := 2) (j := 21) rfl rfl (by kernel_rfl) rfl rfl (fun K hK => ?_) (fun K hK => ?_)
                      · skip
                        go_simp
                        refine (CL.out _ HB62.out).mono ?_
                        rintro e w65 ⟨vcx, rfl, hvx, hnx, hbx⟩
                        obtain ⟨vca, vcc, rfl⟩ := OL.shp hvx
                        have hvc66 := Lib.hid (And.intro hvx fun k hk => Nat.le_trans HB62.out.size (hnx k hk))
                        have HB64 := Lib.hid (HB62.out.trans (hbx.mono HB62.out.size))
                        have hq67 := Lib.hid (below_ats hbx hq63.out)
                        clear hvx hnx hbx
                        go_simp
                        refine hK.out _ _ (.inr (HS.out _ HB64.out)) ?_
                        clear hK K
                        refine AnyZ.two (i := 5) (j := 21) rfl rfl (by kernel_rfl) rfl rfl (fun K hK => ?_) (fun K hK => ?_)
                        · skip
                          obtain ⟨vx, w69, hap, hTx, hgx, hox, vxa, vxc, hve⟩ := texts_app hvc66.out.1 (by omega) hq67.out
                          subst hve
                          have happ70 := Lib.hid (And.intro hTx fun k hk => (hox k hk).elim (fun e => hvc66.out.2 k e) fun e => Nat.le_trans HB64.out.size e)
                          have HB68 := Lib.hid (HB64.out.grown hgx HB64.out.size fun k hk => hvc66.out.2 k hk)
                          refine wp_append_run (v := .slice vca R.length vcc) (xv := .slice (some ⟨wu.heap.size, 0, none⟩) 1 1) (.tmp 95) (.tmp 97) 28 28 rfl (by rfl) (by rfl) hap ?_
                          clear hap hTx hgx hox
                          refine hK.out _ _ (.inr (HS.out _ HB68.out)) ?_
                          clear hK K
                          refine AnyZ.two (i := 14) (j := 21) rfl rfl (by kernel_rfl) rfl rfl (fun K hK => ?_) (fun K hK => ?_)
                          · skip
                            go_simp
                            refine (pair_any nx s _).mono ?_
                            rintro e w72 ⟨rfl, hbx⟩
                            have HB71 := Lib.hid (HB68.out.trans (hbx.mono HB68.out.size))
                            have happ73 := Lib.hid (And.intro (OL.below happ70.out.1 hbx fun k hk => OL.lt happ70.out.1 k hk) happ70.out.2)
                            clear hbx
                            go_simp
                            have hH74 := HS.out _ HB71.out
                            refine hK.out _ _ (.inr hH74) ?_
                            clear hK K
                            refine AnyZ.take (i := 15) (v := ?_) rfl (by kernel_rfl) (fun _ _ _ h => h) (by rfl) hH74 ?_ ?_
                            rotate_left
                            · intro w hSw
                              go_simp
                              with_reducible rfl
                            try simp only [List.getElem_toArray, List.getElem_cons_succ, List.getElem_cons_zero, Act.put, List.setIfInBounds_toArray, List.set_cons_zero, List.set_cons_succ]
                            refine AnyZ.take (i := 16) (v := ?_) rfl (by kernel_rfl) (fun _ _ _ h => h) (by rfl) hH74 ?_ ?_
                            rotate_left
                            · intro w hSw
                              go_simp
                              with_reducible rfl
                            try simp only [List.getElem_toArray, List.getElem_cons_succ, List.getElem_cons_zero, Act.put, List.setIfInBounds_toArray, List.set_cons_zero, List.set_cons_succ]
                            refine AnyZ.take (i := 17) (v := ?_) rfl (by kernel_rfl) (fun _ _ _ h => h) (by rfl) hH74 ?_ ?_
                            rotate_left
                            · intro w hSw
                              go_simp
                              with_reducible rfl
                            try simp only [List.getElem_toArray, List.getElem_cons_succ, List.getElem_cons_zero, Act.put, List.setIfInBounds_toArray, List.set_cons_zero, List.set_cons_succ]
                            refine AnyZ.take (i := 18) (v := ?_) rfl (by kernel_rfl) (fun _ _ _ h => h) (by rfl) hH74 ?_ ?_
                            rotate_left
                            · intro w hSw
                              go_simp
                              with_reducible rfl
                            try simp only [List.getElem_toArray, List.getElem_cons_succ, List.getElem_cons_zero, Act.put, List.setIfInBounds_toArray, List.set_cons_zero, List.set_cons_succ]
                            refine AnyZ.take (i := 19) (v := ?_) rfl (by kernel_rfl) (fun _ _ _ h => h) (by rfl) hH74 ?_ ?_
                            rotate_left
                            · intro w hSw
                              go_simp
                              with_reducible rfl
                            try simp only [List.getElem_toArray, List.getElem_cons_succ, List.getElem_cons_zero, Act.put, List.setIfInBounds_toArray, List.set_cons_zero, List.set_cons_succ]
                            refine AnyZ.take (i := 20) (v := ?_) rfl (by kernel_rfl) (fun _ _ _ h => h) (by rfl) hH74 ?_ ?_
                            rotate_left
                            · intro w hSw
                              go_simp
                              with_reducible rfl
                            try simp only [List.getElem_toArray, List.getElem_cons_succ, List.getElem_cons_zero, Act.put, List.setIfInBounds_toArray, List.set_cons_zero, List.set_cons_succ]
                            refine AnyZ.one (i := 21) rfl (by kernel_rfl) rfl (fun K hK => ?_)
                            go_simp
                            have HB75 : Hid (Below wu.heap.size wu (w72.alloc (.cells #[.slice none 0 0, .int .i64 0] 77))) := Lib.hid (HB71.out.alloc HB71.out.size _)
                            have hp76 : Hid ((w72.alloc (.cells #[.slice none 0 0, .int .i64 0] 77)).heap[w72.heap.size]? = some (.cells #[.slice none 0 0, .int .i64 0] 77 (0, 0))) := Lib.hid (heap_at (by simp))
                            have happ77 := Lib.hid (And.intro (OL.alloc happ73.out.1 (.cells #[.slice none 0 0, .int .i64 0] 77)) happ73.out.2)
                            have hpl78 : Hid (wu.heap.size ≤ w72.heap.size) := Lib.hid (by
                              have h0 := HB71.out.size
                              have h1 : w72.heap.size = w72.heap.size := by simp
                              omega)
                            refine hK.out _ _ (.inr (HS.out _ HB75.out)) ?_
                            clear hK K
                            refine AnyZ.one (i := 22) rfl (by kernel_rfl) rfl (fun K hK => ?_)
                            have pc0 := (has_cell hp76.out 0).trans (show _ = some (Value.slice none 0 0) from rfl)
                            have pc1 := (has_cell hp76.out 1).trans (show _ = some (Value.int .i64 0) from rfl)
                            have pf0 := has_free hp76.out 0
                            have pf1 := has_free hp76.out 1
                            go_simp
                            refine hK.out _ _ (.inl rfl) ?_
                            clear hK K
                            refine AnyZ.done (by kernel_rfl) ?_ _
                            have HX := Lib.hid (xr_end (sum := rs + lt) hp76.out hpl78.out happ77.out.1 happ77.out.2 HB75.out)
                            clear pc0 pc1 pf0 pf1
                            go_wp2_with fail
                            go_meet
                            case rel => first | exact HX.out | (have h := HX.out; rw [World.setCell_alloc_new, World.setCell_alloc_new] at h; exact h)
                          · skip
                            go_simp
                            have HB80 : Hid (Below wu.heap.size wu (w69.alloc (.cells #[.slice none 0 0, .int .i64 0] 77))) := Lib.hid (HB68.out.alloc HB68.out.size _)
                            have hp81 : Hid ((w69.alloc (.cells #[.slice none 0 0, .int .i64 0] 77)).heap[w69.heap.size]? = some (.cells #[.slice none 0 0, .int .i64 0] 77 (0, 0))) := Lib.hid (heap_at (by simp))
                            have happ82 := Lib.hid (And.intro (OL.alloc happ70.out.1 (.cells #[.slice none 0 0, .int .i64 0] 77)) happ70.out.2)
                            have hpl83 : Hid (wu.heap.size ≤ w69.heap.size) := Lib.hid (by
                              have h0 := HB68.out.size
                              have h1 : w69.heap.size = w69.heap.size := by simp
                              omega)
                            refine hK.out _ _ (.inr (HS.out _ HB80.out)) ?_
                            clear hK K
                            refine AnyZ.one (i := 14) rfl (by kernel_rfl) rfl (fun K hK => ?_)
                            go_simp
                            refine (pair_any nx s _).mono ?_
                            rintro e w85 ⟨rfl, hbx⟩
                            have HB84 := Lib.hid (HB80.out.trans (hbx.mono HB80.out.size))
                            have hp86 := Lib.hid (below_ats hbx hp81.out)
                            have happ87 := Lib.hid (And.intro (OL.below happ82.out.1 hbx fun k hk => OL.lt happ82.out.1 k hk) happ82.out.2)
                            clear hbx
                            go_simp
                            have hH88 := HS.out _ HB84.out
                            refine hK.out _ _ (.inr hH88) ?_
                            clear hK K
                            refine AnyZ.take (i := 15) (v := ?_) rfl (by kernel_rfl) (fun _ _ _ h => h) (by rfl) hH88 ?_ ?_
                            rotate_left
                            · intro w hSw
                              go_simp
                              with_reducible rfl
                            try simp only [List.getElem_toArray, List.getElem_cons_succ, List.getElem_cons_zero, Act.put, List.setIfInBounds_toArray, List.set_cons_zero, List.set_cons_succ]
                            refine AnyZ.take (i := 16) (v := ?_) rfl (by kernel_rfl) (fun _ _ _ h => h) (by rfl) hH88 ?_ ?_
                            rotate_left
                            · intro w hSw
                              go_simp
                              with_reducible rfl
                            try simp only [List.getElem_toArray, List.getElem_cons_succ, List.getElem_cons_zero, Act.put, List.setIfInBounds_toArray, List.set_cons_zero, List.set_cons_succ]
                            refine AnyZ.take (i := 17) (v := ?_) rfl (by kernel_rfl) (fun _ _ _ h => h) (by rfl) hH88 ?_ ?_
                            rotate_left
                            · intro w hSw
                              go_simp
                              with_reducible rfl
                            try simp only [List.getElem_toArray, List.getElem_cons_succ, List.getElem_cons_zero, Act.put, List.setIfInBounds_toArray, List.set_cons_zero, List.set_cons_succ]
                            refine AnyZ.take (i := 18) (v := ?_) rfl (by kernel_rfl) (fun _ _ _ h => h) (by rfl) hH88 ?_ ?_
                            rotate_left
                            · intro w hSw
                              go_simp
                              with_reducible rfl
                            try simp only [List.getElem_toArray, List.getElem_cons_succ, List.getElem_cons_zero, Act.put, List.setIfInBounds_toArray, List.set_cons_zero, List.set_cons_succ]
                            refine AnyZ.take (i := 19) (v := ?_) rfl (by kernel_rfl) (fun _ _ _ h => h) (by rfl) hH88 ?_ ?_
                            rotate_left
                            · intro w hSw
                              go_simp
                              with_reducible rfl
                            try simp only [List.getElem_toArray, List.getElem_cons_succ, List.getElem_cons_zero, Act.put, List.setIfInBounds_toArray, List.set_cons_zero, List.set_cons_succ]
                            refine AnyZ.take (i := 20) (v := ?_) rfl (by kernel_rfl) (fun _ _ _ h => h) (by rfl) hH88 ?_ ?_
                            rotate_left
                            · intro w hSw
                              go_simp
                              with_reducible rfl
                            try simp only [List.getElem_toArray, List.getElem_cons_succ, List.getElem_cons_zero, Act.put, List.setIfInBounds_toArray, List.set_cons_zero, List.set_cons_succ]
                            refine AnyZ.one (i := 22) rfl (by kernel_rfl) rfl (fun K hK => ?_)
                            have pc0 := (has_cell hp86.out 0).trans (show _ = some (Value.slice none 0 0) from rfl)
                            have pc1 := (has_cell hp86.out 1).trans (show _ = some (Value.int .i64 0) from rfl)
                            have pf0 := has_free hp86.out 0
                            have pf1 := has_free hp86.out 1
                            go_simp
                            refine hK.out _ _ (.inl rfl) ?_
                            clear hK K
                            refine AnyZ.done (by kernel_rfl) ?_ _
                            have HX := Lib.hid (xr_end (sum := rs + lt) hp86.out hpl83.out happ87.out.1 happ87.out.2 HB84.out)
                            clear pc0 pc1 pf0 pf1
                            go_wp2_with fail
                            go_meet
                            case rel => first | exact HX.out | (have h := HX.out; rw [World.setCell_alloc_new, World.setCell_alloc_new] at h; exact h)
                        · skip
                          go_simp
                          have HB90 : Hid (Below wu.heap.size wu (w65.alloc (.cells #[.slice none 0 0, .int .i64 0] 77))) := Lib.hid (HB64.out.alloc HB64.out.size _)
                          have hp91 : Hid ((w65.alloc (.cells #[.slice none 0 0, .int .i64 0] 77)).heap[w65.heap.size]? = some (.cells #[.slice none 0 0, .int .i64 0] 77 (0, 0))) := Lib.hid (heap_at (by simp))
                          have hq92 := Lib.hid (has_alloc hq67.out (.cells #[.slice none 0 0, .int .i64 0] 77))
                          have hvc93 := Lib.hid (And.intro (OL.alloc hvc66.out.1 (.cells #[.slice none 0 0, .int .i64 0] 77)) hvc66.out.2)
                          have hpl94 : Hid (wu.heap.size ≤ w65.heap.size) := Lib.hid (by
                            have h0 := HB64.out.size
                            have h1 : w65.heap.size = w65.heap.size := by simp
                            omega)
                          refine hK.out _ _ (.inr (HS.out _ HB90.out)) ?_
                          clear hK K
                          refine AnyZ.one (i := 5) rfl (by kernel_rfl) rfl (fun K hK => ?_)
                          obtain ⟨vx, w96, hap, hTx, hgx, hox, vxa, vxc, hve⟩ := texts_app hvc93.out.1 (by omega) hq92.out
                          subst hve
                          have happ97 := Lib.hid (And.intro hTx fun k hk => (hox k hk).elim (fun e => hvc93.out.2 k e) fun e => Nat.le_trans HB90.out.size e)
                          have HB95 := Lib.hid (HB90.out.grown hgx HB90.out.size fun k hk => hvc93.out.2 k hk)
                          refine wp_append_run (v := .slice vca R.length vcc) (xv := .slice (some ⟨wu.heap.size, 0, none⟩) 1 1) (.tmp 95) (.tmp 97) 28 28 rfl (by rfl) (by rfl) hap ?_
                          have hp98 := Lib.hid ((hgx.block _ (lt_of_block hp91.out) fun e => by obtain ⟨cur, hcc⟩ := OL.elem hvc93.out.1 _ e.symm; exact type_ne hp91.out hcc (by decide) rfl).trans hp91.out)
                          clear hap hTx hgx hox
                          refine hK.out _ _ (.inr (HS.out _ HB95.out)) ?_
                          clear hK K
                          refine AnyZ.one (i := 14) rfl (by kernel_rfl) rfl (fun K hK => ?_)
                          go_simp
                          refine (pair_any nx s _).mono ?_
                          rintro e w100 ⟨rfl, hbx⟩
                          have HB99 := Lib.hid (HB95.out.trans (hbx.mono HB95.out.size))
                          have hp101 := Lib.hid (below_ats hbx hp98.out)
                          have happ102 := Lib.hid (And.intro (OL.below happ97.out.1 hbx fun k hk => OL.lt happ97.out.1 k hk) happ97.out.2)
                          clear hbx
                          go_simp
                          have hH103 := HS.out _ HB99.out
                          refine hK.out _ _ (.inr hH103) ?_
                          clear hK K
                          refine AnyZ.take (i := 15) (v := ?_) rfl (by kernel_rfl) (fun _ _ _ h => h) (by rfl) hH103 ?_ ?_
                          rotate_left
                          · intro w hSw
                            go_simp
                            with_reducible rfl
                          try simp only [List.getElem_toArray, List.getElem_cons_succ, List.getElem_cons_zero, Act.put, List.setIfInBounds_toArray, List.set_cons_zero, List.set_cons_succ]
                          refine AnyZ.take (i := 16) (v := ?_) rfl (by kernel_rfl) (fun _ _ _ h => h) (by rfl) hH103 ?_ ?_
                          rotate_left
                          · intro w hSw
                            go_simp
                            with_reducible rfl
                          try simp only [List.getElem_toArray, List.getElem_cons_succ, List.getElem_cons_zero, Act.put, List.setIfInBounds_toArray, List.set_cons_zero, List.set_cons_succ]
                          refine AnyZ.take (i := 17) (v := ?_) rfl (by kernel_rfl) (fun _ _ _ h => h) (by rfl) hH103 ?_ ?_
                          rotate_left
                          · intro w hSw
                            go_simp
                            with_reducible rfl
                          try simp only [List.getElem_toArray, List.getElem_cons_succ, List.getElem_cons_zero, Act.put, List.setIfInBounds_toArray, List.set_cons_zero, List.set_cons_succ]
                          refine AnyZ.take (i := 18) (v := ?_) rfl (by kernel_rfl) (fun _ _ _ h => h) (by rfl) hH103 ?_ ?_
                          rotate_left
                          · intro w hSw
                            go_simp
                            with_reducible rfl
                          try simp only [List.getElem_toArray, List.getElem_cons_succ, List.getElem_cons_zero, Act.put, List.setIfInBounds_toArray, List.set_cons_zero, List.set_cons_succ]
                          refine AnyZ.take (i := 19) (v := ?_) rfl (by kernel_rfl) (fun _ _ _ h => h) (by rfl) hH103 ?_ ?_
                          rotate_left
                          · intro w hSw
                            go_simp
                            with_reducible rfl
                          try simp only [List.getElem_toArray, List.getElem_cons_succ, List.getElem_cons_zero, Act.put, List.setIfInBounds_toArray, List.set_cons_zero, List.set_cons_succ]
                          refine AnyZ.take (i := 20) (v := ?_) rfl (by kernel_rfl) (fun _ _ _ h => h) (by rfl) hH103 ?_ ?_
                          rotate_left
                          · intro w hSw
                            go_simp
                            with_reducible rfl
                          try simp only [List.getElem_toArray, List.getElem_cons_succ, List.getElem_cons_zero, Act.put, List.setIfInBounds_toArray, List.set_cons_zero, List.set_cons_succ]
                          refine AnyZ.one (i := 22) rfl (by kernel_rfl) rfl (fun K hK => ?_)
                          have pc0 := (has_cell hp101.out 0).trans (show _ = some (Value.slice none 0 0) from rfl)
                          have pc1 := (has_cell hp101.out 1).trans (show _ = some (Value.int .i64 0) from rfl)
                          have pf0 := has_free hp101.out 0
                          have pf1 := has_free hp101.out 1
                          go_simp
                          refine hK.out _ _ (.inl rfl) ?_
                          clear hK K
                          refine AnyZ.done (by kernel_rfl) ?_ _
                          have HX := Lib.hid (xr_end (sum := rs + lt) hp101.out hpl94.out happ102.out.1 happ102.out.2 HB99.out)
                          clear pc0 pc1 pf0 pf1
                          go_wp2_with fail
                          go_meet
                          case rel => first | exact HX.out | (have h := HX.out; rw [World.setCell_alloc_new, World.setCell_alloc_new] at h; exact h)
                      · skip
                        go_simp
                        have HB105 : Hid (Below wu.heap.size wu ((wu.drew.alloc (.cells #[.string s] 9)).alloc (.cells #[.slice none 0 0, .int .i64 0] 77))) := Lib.hid (HB62.out.alloc HB62.out.size _)
                        have hp106 : Hid (((wu.drew.alloc (.cells #[.string s] 9)).alloc (.cells #[.slice none 0 0, .int .i64 0] 77)).heap[wu.heap.size + 1]? = some (.cells #[.slice none 0 0, .int .i64 0] 77 (0, 0))) := Lib.hid (heap_at (by simp))
                        have hq107 := Lib.hid (has_alloc hq63.out (.cells #[.slice none 0 0, .int .i64 0] 77))
                        have hpl108 : Hid (wu.heap.size ≤ wu.heap.size + 1) := Lib.hid (by
                          have h0 := HB62.out.size
                          have h1 : (wu.drew.alloc (.cells #[.string s] 9)).heap.size = wu.heap.size + 1 := by simp
                          omega)
                        refine hK.out _ _ (.inr (HS.out _ HB105.out)) ?_
                        clear hK K
                        refine AnyZ.one (i := 2) rfl (by kernel_rfl) rfl (fun K hK => ?_)
                        go_simp
                        refine (CL.out _ HB105.out).mono ?_
                        rintro e w110 ⟨vcx, rfl, hvx, hnx, hbx⟩
                        obtain ⟨vca, vcc, rfl⟩ := OL.shp hvx
                        have hvc111 := Lib.hid (And.intro hvx fun k hk => Nat.le_trans HB105.out.size (hnx k hk))
                        have HB109 := Lib.hid (HB105.out.trans (hbx.mono HB105.out.size))
                        have hq112 := Lib.hid (below_ats hbx hq107.out)
                        have hp113 := Lib.hid (below_ats hbx hp106.out)
                        clear hvx hnx hbx
                        go_simp
                        refine hK.out _ _ (.inr (HS.out _ HB109.out)) ?_
                        clear hK K
                        refine AnyZ.one (i := 5) rfl (by kernel_rfl) rfl (fun K hK => ?_)
                        obtain ⟨vx, w115, hap, hTx, hgx, hox, vxa, vxc, hve⟩ := texts_app hvc111.out.1 (by omega) hq112.out
                        subst hve
                        have happ116 := Lib.hid (And.intro hTx fun k hk => (hox k hk).elim (fun e => hvc111.out.2 k e) fun e => Nat.le_trans HB109.out.size e)
                        have HB114 := Lib.hid (HB109.out.grown hgx HB109.out.size fun k hk => hvc111.out.2 k hk)
                        refine wp_append_run (v := .slice vca R.length vcc) (xv := .slice (some ⟨wu.heap.size, 0, none⟩) 1 1) (.tmp 95) (.tmp 97) 28 28 rfl (by rfl) (by rfl) hap ?_
                        have hp117 := Lib.hid ((hgx.block _ (lt_of_block hp113.out) fun e => by obtain ⟨cur, hcc⟩ := OL.elem hvc111.out.1 _ e.symm; exact type_ne hp113.out hcc (by decide) rfl).trans hp113.out)
                        clear hap hTx hgx hox
                        refine hK.out _ _ (.inr (HS.out _ HB114.out)) ?_
                        clear hK K
                        refine AnyZ.one (i := 14) rfl (by kernel_rfl) rfl (fun K hK => ?_)
                        go_simp
                        refine (pair_any nx s _).mono ?_
                        rintro e w119 ⟨rfl, hbx⟩
                        have HB118 := Lib.hid (HB114.out.trans (hbx.mono HB114.out.size))
                        have hp120 := Lib.hid (below_ats hbx hp117.out)
                        have happ121 := Lib.hid (And.intro (OL.below happ116.out.1 hbx fun k hk => OL.lt happ116.out.1 k hk) happ116.out.2)
                        clear hbx
                        go_simp
                        have hH122 := HS.out _ HB118.out
                        refine hK.out _ _ (.inr hH122) ?_
                        clear hK K
                        refine AnyZ.take (i := 15) (v := ?_) rfl (by kernel_rfl) (fun _ _ _ h => h) (by rfl) hH122 ?_ ?_
                        rotate_left
                        · intro w hSw
                          go_simp
                          with_reducible rfl
                        try simp only [List.getElem_toArray, List.getElem_cons_succ, List.getElem_cons_zero, Act.put, List.setIfInBounds_toArray, List.set_cons_zero, List.set_cons_succ]
                        refine AnyZ.take (i := 16) (v := ?_) rfl (by kernel_rfl) (fun _ _ _ h => h) (by rfl) hH122 ?_ ?_
                        rotate_left
                        · intro w hSw
                          go_simp
                          with_reducible rfl
                        try simp only [List.getElem_toArray, List.getElem_cons_succ, List.getElem_cons_zero, Act.put, List.setIfInBounds_toArray, List.set_cons_zero, List.set_cons_succ]
                        refine AnyZ.take (i := 17) (v := ?_) rfl (by kernel_rfl) (fun _ _ _ h => h) (by rfl) hH122 ?_ ?_
                        rotate_left
                        · intro w hSw
                          go_simp
                          with_reducible rfl
                        try simp only [List.getElem_toArray, List.getElem_cons_succ, List.getElem_cons_zero, Act.put, List.setIfInBounds_toArray, List.set_cons_zero, List.set_cons_succ]
                        refine AnyZ.take (i := 18) (v := ?_) rfl (by kernel_rfl) (fun _ _ _ h => h) (by rfl) hH122 ?_ ?_
                        rotate_left
                        · intro w hSw
                          go_simp
                          with_reducible rfl
                        try simp only [List.getElem_toArray, List.getElem_cons_succ, List.getElem_cons_zero, Act.put, List.setIfInBounds_toArray, List.set_cons_zero, List.set_cons_succ]
                        refine AnyZ.take (i := 19) (v := ?_) rfl (by kernel_rfl) (fun _ _ _ h => h) (by rfl) hH122 ?_ ?_
                        rotate_left
                        · intro w hSw
                          go_simp
                          with_reducible rfl
                        try simp only [List.getElem_toArray, List.getElem_cons_succ, List.getElem_cons_zero, Act.put, List.setIfInBounds_toArray, List.set_cons_zero, List.set_cons_succ]
                        refine AnyZ.take (i := 20) (v := ?_) rfl (by kernel_rfl) (fun _ _ _ h => h) (by rfl) hH122 ?_ ?_
                        rotate_left
                        · intro w hSw
                          go_simp
                          with_reducible rfl
                        try simp only [List.getElem_toArray, List.getElem_cons_succ, List.getElem_cons_zero, Act.put, List.setIfInBounds_toArray, List.set_cons_zero, List.set_cons_succ]
                        refine AnyZ.one (i := 22) rfl (by kernel_rfl) rfl (fun K hK => ?_)
                        have pc0 := (has_cell hp120.out 0).trans (show _ = some (Value.slice none 0 0) from rfl)
                        have pc1 := (has_cell hp120.out 1).trans (show _ = some (Value.int .i64 0) from rfl)
                        have pf0 := has_free hp120.out 0
                        have pf1 := has_free hp120.out 1
                        go_simp
                        refine hK.out _ _ (.inl rfl) ?_
                        clear hK K
                        refine AnyZ.done (by kernel_rfl) ?_ _
                        have HX := Lib.hid (xr_end (sum := rs + lt) hp120.out hpl108.out happ121.out.1 happ121.out.2 HB118.out)
                        clear pc0 pc1 pf0 pf1
                        go_wp2_with fail
                        go_meet
                        case rel => first | exact HX.out | (have h := HX.out; rw [World.setCell_alloc_new, World.setCell_alloc_new] at h; exact h)
                    · skip
                      go_simp
                      have HB124 : Hid (Below wu.heap.size wu (wu.drew.alloc (.cells #[.slice none 0 0, .int .i64 0] 77))) := Lib.hid (HB0.out.alloc HB0.out.size _)
                      have hp125 : Hid ((wu.drew.alloc (.cells #[.slice none 0 0, .int .i64 0] 77)).heap[wu.heap.size]? = some (.cells #[.slice none 0 0, .int .i64 0] 77 (0, 0))) := Lib.hid (heap_at (by simp))
                      have hpl126 : Hid (wu.heap.size ≤ wu.heap.size) := Lib.hid (by
                        have h0 := HB0.out.size
                        have h1 : wu.drew.heap.size = wu.heap.size := by simp
                        omega)
                      refine hK.out _ _ (.inr (HS.out _ HB124.out)) ?_
                      clear hK K
                      refine AnyZ.two (i := 2) (j := 4) rfl rfl (by kernel_rfl) rfl rfl (fun K hK => ?_) (fun K hK => ?_)
                      · skip
                        go_simp
                        refine (CL.out _ HB124.out).mono ?_
                        rintro e w128 ⟨vcx, rfl, hvx, hnx, hbx⟩
                        obtain ⟨vca, vcc, rfl⟩ := OL.shp hvx
                        have hvc129 := Lib.hid (And.intro hvx fun k hk => Nat.le_trans HB124.out.size (hnx k hk))
                        have HB127 := Lib.hid (HB124.out.trans (hbx.mono HB124.out.size))
                        have hp130 := Lib.hid (below_ats hbx hp125.out)
                        clear hvx hnx hbx
                        go_simp
                        refine hK.out _ _ (.inr (HS.out _ HB127.out)) ?_
                        clear hK K
                        refine AnyZ.one (i := 4) rfl (by kernel_rfl) rfl (fun K hK => ?_)
                        go_simp
                        have HB131 : Hid (Below wu.heap.size wu (w128.alloc (.cells #[.string s] 9))) := Lib.hid (HB127.out.alloc HB127.out.size _)
                        have hq132 : Hid ((w128.alloc (.cells #[.string s] 9)).heap[w128.heap.size]? = some (.cells #[.string s] 9 (0, 0))) := Lib.hid (heap_at (by simp))
                        have hp133 := Lib.hid (has_alloc hp130.out (.cells #[.string s] 9))
                        have hvc134 := Lib.hid (And.intro (OL.alloc hvc129.out.1 (.cells #[.string s] 9)) hvc129.out.2)
                        refine hK.out _ _ (.inr (HS.out _ HB131.out)) ?_
                        clear hK K
                        refine AnyZ.one (i := 5) rfl (by kernel_rfl) rfl (fun K hK => ?_)
                        obtain ⟨vx, w136, hap, hTx, hgx, hox, vxa, vxc, hve⟩ := texts_app hvc134.out.1 (by omega) hq132.out
                        subst hve
                        have happ137 := Lib.hid (And.intro hTx fun k hk => (hox k hk).elim (fun e => hvc134.out.2 k e) fun e => Nat.le_trans HB131.out.size e)
                        have HB135 := Lib.hid (HB131.out.grown hgx HB131.out.size fun k hk => hvc134.out.2 k hk)
                        refine wp_append_run (v := .slice vca R.length vcc) (xv := .slice (some ⟨w128.heap.size, 0, none⟩) 1 1) (.tmp 95) (.tmp 97) 28 28 rfl (by rfl) (by rfl) hap ?_
                        have hp138 := Lib.hid ((hgx.block _ (lt_of_block hp133.out) fun e => by obtain ⟨cur, hcc⟩ := OL.elem hvc134.out.1 _ e.symm; exact type_ne hp133.out hcc (by decide) rfl).trans hp133.out)
                        clear hap hTx hgx hox
                        refine hK.out _ _ (.inr (HS.out _ HB135.out)) ?_
                        clear hK K
                        refine AnyZ.one (i := 14) rfl (by kernel_rfl) rfl (fun K hK => ?_)
                        go_simp
                        refine (pair_any nx s _).mono ?_
                        rintro e w140 ⟨rfl, hbx⟩
                        have HB139 := Lib.hid (HB135.out.trans (hbx.mono HB135.out.size))
                        have hp141 := Lib.hid (below_ats hbx hp138.out)
                        have happ142 := Lib.hid (And.intro (OL.below happ137.out.1 hbx fun k hk => OL.lt happ137.out.1 k hk) happ137.out.2)
                        clear hbx
                        go_simp
                        have hH143 := HS.out _ HB139.out
                        refine hK.out _ _ (.inr hH143) ?_
                        clear hK K
                        refine AnyZ.take (i := 15) (v := ?_) rfl (by kernel_rfl) (fun _ _ _ h => h) (by rfl) hH143 ?_ ?_
                        rotate_left
                        · intro w hSw
                          go_simp
                          with_reducible rfl
                        try simp only [List.getElem_toArray, List.getElem_cons_succ, List.getElem_cons_zero, Act.put, List.setIfInBounds_toArray, List.set_cons_zero, List.set_cons_succ]
                        refine AnyZ.take (i := 16) (v := ?_) rfl (by kernel_rfl) (fun _ _ _ h => h) (by rfl) hH143 ?_ ?_
                        rotate_left
                        · intro w hSw
                          go_simp
                          with_reducible rfl
                        try simp only [List.getElem_toArray, List.getElem_cons_succ, List.getElem_cons_zero, Act.put, List.setIfInBounds_toArray, List.set_cons_zero, List.set_cons_succ]
                        refine AnyZ.take (i := 17) (v := ?_) rfl (by kernel_rfl) (fun _ _ _ h => h) (by rfl) hH143 ?_ ?_
                        rotate_left
                        · intro w hSw
                          go_simp
                          with_reducible rfl
                        try simp only [List.getElem_toArray, List.getElem_cons_succ, List.getElem_cons_zero, Act.put, List.setIfInBounds_toArray, List.set_cons_zero, List.set_cons_succ]
                        refine AnyZ.take (i := 18) (v := ?_) rfl (by kernel_rfl) (fun _ _ _ h => h) (by rfl) hH143 ?_ ?_
                        rotate_left
                        · intro w hSw
                          go_simp
                          with_reducible rfl
                        try simp only [List.getElem_toArray, List.getElem_cons_succ, List.getElem_cons_zero, Act.put, List.setIfInBounds_toArray, List.set_cons_zero, List.set_cons_succ]
                        refine AnyZ.take (i := 19) (v := ?_) rfl (by kernel_rfl) (fun _ _ _ h => h) (by rfl) hH143 ?_ ?_
                        rotate_left
                        · intro w hSw
                          go_simp
                          with_reducible rfl
                        try simp only [List.getElem_toArray, List.getElem_cons_succ, List.getElem_cons_zero, Act.put, List.setIfInBounds_toArray, List.set_cons_zero, List.set_cons_succ]
                        refine AnyZ.take (i := 20) (v := ?_) rfl (by kernel_rfl) (fun _ _ _ h => h) (by rfl) hH143 ?_ ?_
                        rotate_left
                        · intro w hSw
                          go_simp
                          with_reducible rfl
                        try simp only [List.getElem_toArray, List.getElem_cons_succ, List.getElem_cons_zero, Act.put, List.setIfInBounds_toArray, List.set_cons_zero, List.set_cons_succ]
                        refine AnyZ.one (i := 22) rfl (by kernel_rfl) rfl (fun K hK => ?_)
                        have pc0 := (has_cell hp141.out 0).trans (show _ = some (Value.slice none 0 0) from rfl)
                        have pc1 := (has_cell hp141.out 1).trans (show _ = some (Value.int .i64 0) from rfl)
                        have pf0 := has_free hp141.out 0
                        have pf1 := has_free hp141.out 1
                        go_simp
                        refine hK.out _ _ (.inl rfl) ?_
                        clear hK K
                        refine AnyZ.done (by kernel_rfl) ?_ _
                        have HX := Lib.hid (xr_end (sum := rs + lt) hp141.out hpl126.out happ142.out.1 happ142.out.2 HB139.out)
                        clear pc0 pc1 pf0 pf1
                        go_wp2_with fail
                        go_meet
                        case rel => first | exact HX.out | (have h := HX.out; rw [World.setCell_alloc_new, World.setCell_alloc_new] at h; exact h)
                      · skip
                        go_simp
                        have HB145 : Hid (Below wu.heap.size wu ((wu.drew.alloc (.cells #[.slice none 0 0, .int .i64 0] 77)).alloc (.cells #[.string s] 9))) := Lib.hid (HB124.out.alloc HB124.out.size _)
                        have hq146 : Hid (((wu.drew.alloc (.cells #[.slice none 0 0, .int .i64 0] 77)).alloc (.cells #[.string s] 9)).heap[wu.heap.size + 1]? = some (.cells #[.string s] 9 (0, 0))) := Lib.hid (heap_at (by simp))
                        have hp147 := Lib.hid (has_alloc hp125.out (.cells #[.string s] 9))
                        refine hK.out _ _ (.inr (HS.out _ HB145.out)) ?_
                        clear hK K
                        refine AnyZ.one (i := 2) rfl (by kernel_rfl) rfl (fun K hK => ?_)
                        go_simp
                        refine (CL.out _ HB145.out).mono ?_
                        rintro e w149 ⟨vcx, rfl, hvx, hnx, hbx⟩
                        obtain ⟨vca, vcc, rfl⟩ := OL.shp hvx
                        have hvc150 := Lib.hid (And.intro hvx fun k hk => Nat.le_trans HB145.out.size (hnx k hk))
                        have HB148 := Lib.hid (HB145.out.trans (hbx.mono HB145.out.size))
                        have hq151 := Lib.hid (below_ats hbx hq146.out)
                        have hp152 := Lib.hid (below_ats hbx hp147.out)
                        clear hvx hnx hbx
                        go_simp
                        refine hK.out _ _ (.inr (HS.out _ HB148.out)) ?_
                        clear hK K
                        refine AnyZ.one (i := 5) rfl (by kernel_rfl) rfl (fun K hK => ?_)
                        obtain ⟨vx, w154, hap, hTx, hgx, hox, vxa, vxc, hve⟩ := texts_app hvc150.out.1 (by omega) hq151.out
                        subst hve
                        have happ155 := Lib.hid (And.intro hTx fun k hk => (hox k hk).elim (fun e => hvc150.out.2 k e) fun e => Nat.le_trans HB148.out.size e)
                        have HB153 := Lib.hid (HB148.out.grown hgx HB148.out.size fun k hk => hvc150.out.2 k hk)
                        refine wp_append_run (v := .slice vca R.length vcc) (xv := .slice (some ⟨wu.heap.size + 1, 0, none⟩) 1 1) (.tmp 95) (.tmp 97) 28 28 rfl (by rfl) (by rfl) hap ?_
                        have hp156 := Lib.hid ((hgx.block _ (lt_of_block hp152.out) fun e => by obtain ⟨cur, hcc⟩ := OL.elem hvc150.out.1 _ e.symm; exact type_ne hp152.out hcc (by decide) rfl).trans hp152.out)
                        clear hap hTx hgx hox
                        refine hK.out _ _ (.inr (HS.out _ HB153.out)) ?_
                        clear hK K
                        refine AnyZ.one (i := 14) rfl (by kernel_rfl) rfl (fun K hK => ?_)
                        go_simp
                        refine (pair_any nx s _).mono ?_
                        rintro e w158 ⟨rfl, hbx⟩
                        have HB157 := Lib.hid (HB153.out.trans (hbx.mono HB153.out.size))
                        have hp159 := Lib.hid (below_ats hbx hp156.out)
                        have happ160 := Lib.hid (And.intro (OL.below happ155.out.1 hbx fun k hk => OL.lt happ155.out.1 k hk) happ155.out.2)
                        clear hbx
                        go_simp
                        have hH161 := HS.out _ HB157.out
                        refine hK.out _ _ (.inr hH161) ?_
                        clear hK K
                        refine AnyZ.take (i := 15) (v := ?_) rfl (by kernel_rfl) (fun _ _ _ h => h) (by rfl) hH161 ?_ ?_
                        rotate_left
                        · intro w hSw
                          go_simp
                          with_reducible rfl
                        try simp only [List.getElem_toArray, List.getElem_cons_succ, List.getElem_cons_zero, Act.put, List.setIfInBounds_toArray, List.set_cons_zero, List.set_cons_succ]
                        refine AnyZ.take (i := 16) (v := ?_) rfl (by kernel_rfl) (fun _ _ _ h => h) (by rfl) hH161 ?_ ?_
                        rotate_left
                        · intro w hSw
                          go_simp
                          with_reducible rfl
                        try simp only [List.getElem_toArray, List.getElem_cons_succ, List.getElem_cons_zero, Act.put, List.setIfInBounds_toArray, List.set_cons_zero, List.set_cons_succ]
                        refine AnyZ.take (i := 17) (v := ?_) rfl (by kernel_rfl) (fun _ _ _ h => h) (by rfl) hH161 ?_ ?_
                        rotate_left
                        · intro w hSw
                          go_simp
                          with_reducible rfl
                        try simp only [List.getElem_toArray, List.getElem_cons_succ, List.getElem_cons_zero, Act.put, List.setIfInBounds_toArray, List.set_cons_zero, List.set_cons_succ]
                        refine AnyZ.take (i := 18) (v := ?_) rfl (by kernel_rfl) (fun _ _ _ h => h) (by rfl) hH161 ?_ ?_
                        rotate_left
                        · intro w hSw
                          go_simp
                          with_reducible rfl
                        try simp only [List.getElem_toArray, List.getElem_cons_succ, List.getElem_cons_zero, Act.put, List.setIfInBounds_toArray, List.set_cons_zero, List.set_cons_succ]
                        refine AnyZ.take (i := 19) (v := ?_) rfl (by kernel_rfl) (fun _ _ _ h => h) (by rfl) hH161 ?_ ?_
                        rotate_left
                        · intro w hSw
                          go_simp
                          with_reducible rfl
                        try simp only [List.getElem_toArray, List.getElem_cons_succ, List.getElem_cons_zero, Act.put, List.setIfInBounds_toArray, List.set_cons_zero, List.set_cons_succ]
                        refine AnyZ.take (i := 20) (v := ?_) rfl (by kernel_rfl) (fun _ _ _ h => h) (by rfl) hH161 ?_ ?_
                        rotate_left
                        · intro w hSw
                          go_simp
                          with_reducible rfl
                        try simp only [List.getElem_toArray, List.getElem_cons_succ, List.getElem_cons_zero, Act.put, List.setIfInBounds_toArray, List.set_cons_zero, List.set_cons_succ]
                        refine AnyZ.one (i := 22) rfl (by kernel_rfl) rfl (fun K hK => ?_)
                        have pc0 := (has_cell hp159.out 0).trans (show _ = some (Value.slice none 0 0) from rfl)
                        have pc1 := (has_cell hp159.out 1).trans (show _ = some (Value.int .i64 0) from rfl)
                        have pf0 := has_free hp159.out 0
                        have pf1 := has_free hp159.out 1
                        go_simp
                        refine hK.out _ _ (.inl rfl) ?_
                        clear hK K
                        refine AnyZ.done (by kernel_rfl) ?_ _
                        have HX := Lib.hid (xr_end (sum := rs + lt) hp159.out hpl126.out happ160.out.1 happ160.out.2 HB157.out)
                        clear pc0 pc1 pf0 pf1
                        go_wp2_with fail
                        go_meet
                        case rel => first | exact HX.out | (have h := HX.out; rw [World.setCell_alloc_new, World.setCell_alloc_new] at h; exact h)
                  case rest =>
                    obtain ⟨q, vao, vcp, rfl, hq, hT, hn, hb⟩ := hcut
                    rename World => wx
                    clear HS CL HBA HBU hwr
                    have HRX := Lib.hid (HRU.out.bel hb)
                    have HROX := Lib.hid (below_ats hb HROU.out)
                    have hlk := rt_look HRX.out.mo zs
                    have HQ := Lib.hid hq
                    have HTX := Lib.hid hT
                    have HNW := Lib.hid (fun k (hk : (Value.slice vao (R.length + 1) vcp).ownBlock = some k) => Nat.le_trans HFR.out (hn k hk))
                    have hq0 := (has_cell hq 0).trans (show _ = some (Value.slice vao (R.length + 1) vcp) from rfl)
                    have hq1 := (has_cell hq 1).trans (show _ = some (Value.int .i64 (rs + lt)) from rfl)
                    clear hq hT hn hb HRU HROU
                    have HOPN := Lib.hid (fun (wy : World) (hby : Below wx.heap.size wx wy) (hbt : ∀ r', O' s = some r' → btr (R ++ [s], rs + lt) r' = true) => show ∃ wz, (Instr.mapUpdate 79 (.map (some ob)) (.string s) (.agg #[.slice vao (R.length + 1) vcp, .int .i64 (rs + lt)])).run Try.prog wy = .ok () wz ∧
                        (∃ O'' VO'', RS w ts (lat L t) a ob db D2 O'' VD2 VO'' (c + 1) (fun i x => i ≠ nx ∨ x ∈ ts.take (j + 1)) wz) ∧ wz.heap[kr]? = some (.cells #[.slice rao R.length rcp, .int .i64 rs] 77 (0, 0)) from by
                      have hRy := HRX.out.bel hby
                      obtain ⟨wz, hst, hmz, hgz⟩ := hRy.mo.store strK Try.underlying79 (isK1 zs) (rtV (.slice vao (R.length + 1) vcp) (rs + lt))
                      have hgo : gone r s lt = (R ++ [s], rs + lt) := by rw [HGO.out]
                      have hTy : IsT wy (.slice vao (R.length + 1) vcp) (gone r s lt).1 := by rw [hgo]; exact OL.below HTX.out hby fun k hk => OL.lt HTX.out k hk
                      have hkr := below_ats hby HROX.out
                      exact ⟨wz, hst, ⟨_, _, HNXT.out (hRy.open NN.out HDN.out HLAT.out hsm hDs (by rw [hgo]; exact hbt) hTy HNW.out (by rw [hgo]; exact hmz) hgz)⟩, (hgz.block kr (lt_of_block hkr) fun e => hRy.mo.ne hkr (Option.some.inj e).symm).trans hkr⟩)
                    as_aux_lemma =>
                      cases hOs : O' s with
                      | none =>
                        rw [hOs] at hlk
                        have hlk' : (Instr.lookup 79 (.map (some ob)) (.string s) true).run Try.prog wx = .ok (.tuple #[.agg #[.slice none 0 0, .int .i64 0], .bool false]) wx := hlk
                        have hba := (Below.refl wx.heap.size wx).alloc (Nat.le_refl _) (.cells #[.slice none 0 0, .int .i64 0] 77)
                        obtain ⟨wz, hst, ⟨O'', VO'', hRz⟩, hkz⟩ := HOPN.out _ hba (fun r' h => by rw [hOs] at h; cases h)
                        have q0 := (has_cell (below_ats hba HQ.out) 0).trans (show _ = some (Value.slice vao (R.length + 1) vcp) from rfl)
                        have q1 := (has_cell (below_ats hba HQ.out) 1).trans (show _ = some (Value.int .i64 (rs + lt)) from rfl)
                        have HRZ := Lib.hid (And.intro hRz hkz)
                        clear hlk hba hRz hkz hOs HOPN hpl hrl hlb
                        go_wp2_with fail
                        go_roundw
                        case rel => exact ⟨j + 1, _, _, by omega, by go_num, HRZ.out.1, HRZ.out.2⟩
                        case measure => simp [intOf]; omega
                      | some ro =>
                        rw [hOs] at hlk
                        obtain ⟨oao, ocp, hvo, _⟩ := (HRX.out.ot s ro hOs).1.form
                        rw [hvo] at hlk
                        have hlk' : (Instr.lookup 79 (.map (some ob)) (.string s) true).run Try.prog wx = .ok (.tuple #[.agg #[.slice oao ro.1.length ocp, .int .i64 ro.2], .bool true]) wx := hlk
                        have hba := (Below.refl wx.heap.size wx).alloc (Nat.le_refl _) (.cells #[.slice oao ro.1.length ocp, .int .i64 ro.2] 77)
                        have CB := Lib.hid (better_any (a := (R ++ [s], rs + lt)) (b := ro) (RT.belowS (HTX.out.rt) hba) (RT.belowS (by rw [← hvo]; exact (HRX.out.ot s ro hOs).1.rt) hba) : Calls _ _ #[rtV (.slice vao (R.length + 1) vcp) (rs + lt), rtV (.slice oao ro.1.length ocp) ro.2] _ _)
                        have q0 := (has_cell (below_ats hba HQ.out) 0).trans (show _ = some (Value.slice vao (R.length + 1) vcp) from rfl)
                        have q1 := (has_cell (below_ats hba HQ.out) 1).trans (show _ = some (Value.int .i64 (rs + lt)) from rfl)
                        unfold rtV at CB
                        have HOS := Lib.hid hOs
                        have HBX := Lib.hid hba
                        clear hlk hba hvo hOs hpl hrl hlb hq0 hq1
                        generalize ro.1.length = lo at *
                        go_wp2_with fail
                        refine CB.out.mono ?_
                        rintro e wy ⟨rfl, hby⟩
                        have HBY := Lib.hid (HBX.out.trans (hby.mono HBX.out.size))
                        clear hby CB hlk' q0 q1
                        cases hbt : btr (R ++ [s], rs + lt) ro
                        · have HRY := Lib.hid (HNXT.out ((HRX.out.bel HBY.out).seen (.inr (.inr ⟨r, lt, ro, HDN.out, HLAT.out, HOS.out, by rw [HGO.out]; exact hbt⟩))))
                          have HKY := Lib.hid (below_ats HBY.out HROX.out)
                          clear hbt HOPN
                          go_wp2_with fail
                          go_roundw
                          case rel => exact ⟨j + 1, _, _, by omega, by go_num, HRY.out, HKY.out⟩
                          case measure => simp [intOf]; omega
                        · obtain ⟨wz, hst, ⟨O'', VO'', hRz⟩, hkz⟩ := HOPN.out _ HBY.out (fun r' h => by rw [HOS.out] at h; obtain rfl := Option.some.inj h; exact hbt)
                          have q0 := (has_cell (below_ats HBY.out HQ.out) 0).trans (show _ = some (Value.slice vao (R.length + 1) vcp) from rfl)
                          have q1 := (has_cell (below_ats HBY.out HQ.out) 1).trans (show _ = some (Value.int .i64 (rs + lt)) from rfl)
                          have HRZ := Lib.hid (And.intro hRz hkz)
                          clear hRz hkz HOPN hbt
                          go_wp2_with fail
                          go_roundw
                          case rel => exact ⟨j + 1, _, _, by omega, by go_num, HRZ.out.1, HRZ.out.2⟩
                          case measure => simp [intOf]; omega
            · obtain rfl : j = ts.length := by omega
              have HE := Lib.hid (HR5.out.weaken (P' := allP) fun i k hk _ => .inr (by rw [List.take_length]; exact hk))
              go_wp2_with fail
              go_roundw
              case rel => exact ⟨_, _, _, _, _, HE.out⟩
              case measure =>
                have h1 := HSZ.out
                have h2 := HRSZ.out
                omega
end
end Go.Proofs.Ytpcapmialdmcaaa

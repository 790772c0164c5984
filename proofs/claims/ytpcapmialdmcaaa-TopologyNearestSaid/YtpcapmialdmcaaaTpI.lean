/- topology: the routes under way in memory: the open ones and the done ones. Conditions: each lemma names its own. -/
import Derived.Test.YtpcapmialdmcaaaTpH
import Derived.Test.YtpcapmialdmcaaaHeld3
namespace Go.Proofs.Ytpcapmialdmcaaa
open Go.RowKit Go.Maps

/-- Routes as a map. -/
def rtF (F : ByteArray → Option Rt) (V : ByteArray → Value) : Value → Option Value
  | .string s => (F s).map fun r => rtV (V s) r.2
  | _ => none
open Classical in
noncomputable def updV (V : ByteArray → Value) (s : ByteArray) (v : Value) : ByteArray → Value := fun x => if x = s then v else V x
theorem updV_self (V : ByteArray → Value) (s : ByteArray) (v : Value) : updV V s v s = v := if_pos rfl
theorem updV_ne {V : ByteArray → Value} {s x : ByteArray} {v : Value} (h : x ≠ s) : updV V s v x = V x := if_neg h
theorem rtF_none (V : ByteArray → Value) : rtF (fun _ => none) V = fun _ => none := funext fun v => by
  unfold rtF
  split <;> rfl
theorem rtF_put (F : ByteArray → Option Rt) (V : ByteArray → Value) (s : ByteArray) (r : Rt) (v : Value) : fput (rtF F V) (.string s) (rtV v r.2) = rtF (setO F s (some r)) (updV V s v) := funext fun x => by
  by_cases e : x = .string s
  · subst e
    rw [fput_same]
    show _ = (setO F s (some r) s).map fun r => rtV (updV V s v s) r.2
    rw [setO_self, updV_self]; rfl
  · rw [fput_other e]
    unfold rtF
    split
    · rename_i y
      have : y ≠ s := fun h => e (by rw [h])
      rw [setO_ne this, updV_ne this]
    · rfl
theorem rtF_del (F : ByteArray → Option Rt) (V : ByteArray → Value) (s : ByteArray) : fdel (rtF F V) (.string s) = rtF (setO F s none) V := funext fun x => by
  by_cases e : x = .string s
  · subst e
    rw [fdel_same]
    show _ = (setO F s none s).map _
    rw [setO_self]; rfl
  · rw [fdel_other e]
    unfold rtF
    split
    · rename_i y
      have : y ≠ s := fun h => e (by rw [h])
      rw [setO_ne this]
    · rfl
theorem zeroRt (w : World) : (zeroValue 77).run Try.prog w = .ok (rtV (.slice none 0 0) 0) w := by kernel_rfl
/-- How many entries a map has. -/
def mapSz (w : World) (b : Nat) : Nat := match w.heap[b]? with
  | some (.map es _) => es.size
  | _ => 0
section
variable {w w' w0 : World} {b m ob db c : Nat} {ts : List ByteArray} {L : List TL} {g : MG} {E : ByteArray → ByteArray → Option Int} {a s : ByteArray} {D O F : ByteArray → Option Rt} {V VD VO : ByteArray → Value} {P : ByteArray → ByteArray → Prop}
theorem rt_look (h : MapF Try.prog 9 w b (rtF F V)) (hs : s.size ≤ 9223372036854775807) :
    (Instr.lookup 79 (.map (some b)) (.string s) true).run Try.prog w = .ok (.tuple #[match F s with | none => rtV (.slice none 0 0) 0 | some r => rtV (V s) r.2, .bool (F s).isSome]) w := by
  have := h.look strK Try.underlying79 (zeroRt w) (isK1 hs) true
  rw [this]
  show Result.ok (Value.tuple #[((F s).map fun r => rtV (V s) r.2).getD _, .bool ((F s).map _).isSome]) w = _
  cases F s <;> rfl
theorem rt_get (h : MapF Try.prog 9 w b (rtF F V)) (hs : s.size ≤ 9223372036854775807) {r : Rt} (hf : F s = some r) :
    (Instr.lookup 79 (.map (some b)) (.string s) false).run Try.prog w = .ok (rtV (V s) r.2) w := by
  have := h.look strK Try.underlying79 (zeroRt w) (isK1 hs) false
  rw [this]
  show Result.ok (((F s).map fun r => rtV (V s) r.2).getD _) w = _
  rw [hf]; rfl
theorem keys_mem {ts : List ByteArray} (hF : ∀ s r, F s = some r → s ∈ ts) : ∀ x, (∃ v, rtF F V x = some v) ↔ x ∈ (ts.filter fun s => (F s).isSome).map Value.string := fun x => by
  rw [List.mem_map]
  constructor
  · rintro ⟨v, hv⟩
    unfold rtF at hv
    split at hv
    · rename_i y
      cases hf : F y with
      | none => rw [hf] at hv; cases hv
      | some r => exact ⟨y, List.mem_filter.2 ⟨hF y r hf, by rw [hf]; rfl⟩, rfl⟩
    · cases hv
  · rintro ⟨y, hy, rfl⟩
    obtain ⟨_, h2⟩ := List.mem_filter.1 hy
    obtain ⟨r, hr⟩ := Option.isSome_iff_exists.1 h2
    exact ⟨rtV (V y) r.2, by show (F y).map _ = _; rw [hr]; rfl⟩
theorem keys_nodup {ts : List ByteArray} (hn : ts.Nodup) (p : ByteArray → Bool) : ((ts.filter p).map Value.string).Nodup :=
  List.pairwise_map.2 ((hn.sublist List.filter_sublist).imp fun h e => h (by simpa using e))
theorem rt_len {ts : List ByteArray} (h : MapF Try.prog 9 w b (rtF F V)) (hn : ts.Nodup) (hF : ∀ s r, F s = some r → s ∈ ts) (ty : TypeId) :
    (Builtin.len_ #[79] ty #[.map (some b)]).run Try.prog w = .ok (.int .i64 (ts.filter fun s => (F s).isSome).length) w := by
  have := h.len Try.underlying79 (keys_nodup hn _) (keys_mem hF) ty
  rwa [List.length_map] at this
theorem rt_size {ts : List ByteArray} (h : MapF Try.prog 9 w b (rtF F V)) (hn : ts.Nodup) (hF : ∀ s r, F s = some r → s ∈ ts) : mapSz w b = (ts.filter fun s => (F s).isSome).length := by
  have h1 := rt_len h hn hF 3
  obtain ⟨es, cl, hb, _⟩ := h
  have h2 : (Builtin.len_ #[79] 3 #[.map (some b)]).run Try.prog w = .ok (.int .i64 es.size) w := by
    simp [Builtin.len_, run_underlying Try.underlying79, goInt, MapKept.run_getObj_map hb, Result.andThen]
  rw [h2] at h1
  unfold mapSz
  rw [hb]
  simp only [Result.ok.injEq, Value.int.injEq, true_and, and_true] at h1
  show es.size = _
  omega
theorem filter_set {ts : List ByteArray} (hn : ts.Nodup) (hs : s ∈ ts) (hd : F s = none) (r : Rt) : (ts.filter fun x => (setO F s (some r) x).isSome).length = (ts.filter fun x => (F x).isSome).length + 1 := by
  induction ts with
  | nil => cases hs
  | cons x l ih =>
    obtain ⟨h1, h2⟩ := List.nodup_cons.1 hn
    by_cases e : x = s
    · subst e
      have h3 : l.filter (fun y => (setO F x (some r) y).isSome) = l.filter fun y => (F y).isSome := List.filter_congr fun y hy => by rw [setO_ne fun e : y = x => h1 (by rw [← e]; exact hy)]
      rw [List.filter_cons, List.filter_cons, setO_self, hd, h3]
      simp
    · have hs' : s ∈ l := by
        rcases List.mem_cons.1 hs with h | h
        · exact absurd h.symm e
        · exact h
      rw [List.filter_cons, List.filter_cons, setO_ne e]
      cases hx : (F x).isSome <;> simp [ih h2 hs']
/-- Between the rounds. -/
structure RS (w0 : World) (ts : List ByteArray) (E : ByteArray → ByteArray → Option Int) (a : ByteArray) (ob db : Nat) (D O : ByteArray → Option Rt) (VD VO : ByteArray → Value) (c : Nat) (P : ByteArray → ByteArray → Prop) (w : World) : Prop where
  be : Below w0.heap.size w0 w
  mo : MapF Try.prog 9 w ob (rtF O VO)
  md : MapF Try.prog 9 w db (rtF D VD)
  ne : ob ≠ db
  fo : w0.heap.size ≤ ob ∧ w0.heap.size ≤ db
  ot : ∀ s r, O s = some r → IsT w (VO s) r.1 ∧ ∀ k, (VO s).ownBlock = some k → w0.heap.size ≤ k
  td : ∀ s r, D s = some r → IsT w (VD s) r.1 ∧ ∀ k, (VD s).ownBlock = some k → w0.heap.size ≤ k
  dj : Dij E (· ∈ ts) a D O c P
  cn : (ts.filter fun s => (D s).isSome).length = c
theorem RS.bel (h : RS w0 ts E a ob db D O VD VO c P w) (hb : Below w.heap.size w w') : RS w0 ts E a ob db D O VD VO c P w' :=
  { h with
    be := h.be.trans (hb.mono h.be.size)
    mo := h.mo.belowS hb
    md := h.md.belowS hb
    ot := fun s r hs => ⟨OL.below (h.ot s r hs).1 hb fun k hk => OL.lt (h.ot s r hs).1 k hk, (h.ot s r hs).2⟩
    td := fun s r hs => ⟨OL.below (h.td s r hs).1 hb fun k hk => OL.lt (h.td s r hs).1 k hk, (h.td s r hs).2⟩ }
theorem RS.oin (h : RS w0 ts E a ob db D O VD VO c P w) : ∀ s r, O s = some r → s ∈ ts := fun s r hs => (h.dj.o s r hs).1.in
theorem RS.din (h : RS w0 ts E a ob db D O VD VO c P w) : ∀ s r, D s = some r → s ∈ ts := fun s r hs => (h.dj.d s r hs).1.1.in
theorem OL.map_ne {w : World} {k : TypeId} {b : Nat} {f : Value → Option Value} {v : Value} {l : List ByteArray} (hm : MapF Try.prog k w b f) (h : IsT w v l) : v.ownBlock ≠ some b := fun e => by
  obtain ⟨cur, hc⟩ := OL.elem h b e
  exact hm.ne hc rfl
/-- The next town is done, and open no more. -/
theorem RS.take (N : Net_ E) (hn : ts.Nodup) (h : RS w0 ts E a ob db D O VD VO c allP w) {r : Rt} (hs : O s = some r) (hm : ∀ k rk, O k = some rk → lee r rk) {w2 w3 : World}
    (hd : MapF Try.prog 9 w2 db (fput (rtF D VD) (.string s) (rtV (VO s) r.2))) (hg : w.grownBy w2 (some db)) (ho : MapF Try.prog 9 w3 ob (fdel (rtF O VO) (.string s))) (hg2 : w2.grownBy w3 (some ob)) :
    RS w0 ts E a ob db (setO D s (some r)) (setO O s none) (updV VD s (VO s)) VO (c + 1) (fun i _ => i ≠ s) w3 := by
  have hT : ∀ {v : Value} {l : List ByteArray}, IsT w v l → IsT w3 v l := fun {v l} ht => by
    have h1 : IsT w2 v l := OL.kept ht hg fun k hk e => OL.map_ne h.md ht (hk.trans e)
    have ho2 : MapF Try.prog 9 w2 ob (rtF O VO) := h.mo.at (hg.block ob h.mo.lt fun e => h.ne (Option.some.inj e))
    exact OL.kept h1 hg2 fun k hk e => OL.map_ne ho2 h1 (hk.trans e)
  exact {
    be := (h.be.grown hg h.be.size fun k hk => by rw [← Option.some.inj hk]; exact h.fo.2).grown hg2 (Nat.le_trans h.be.size hg.size) fun k hk => by rw [← Option.some.inj hk]; exact h.fo.1
    mo := by rw [← rtF_del]; exact ho
    md := by rw [← rtF_put]; exact hd.at (hg2.block db hd.lt fun e => h.ne (Option.some.inj e).symm)
    ne := h.ne
    fo := h.fo
    ot := fun x rx hx => by
      by_cases e : x = s
      · subst e; rw [setO_self] at hx; cases hx
      · rw [setO_ne e] at hx
        exact ⟨hT (h.ot x rx hx).1, (h.ot x rx hx).2⟩
    td := fun x rx hx => by
      by_cases e : x = s
      · subst e
        rw [setO_self] at hx
        obtain rfl := Option.some.inj hx
        rw [updV_self]
        exact ⟨hT (h.ot x r hs).1, (h.ot x r hs).2⟩
      · rw [setO_ne e] at hx
        rw [updV_ne e]
        exact ⟨hT (h.td x rx hx).1, (h.td x rx hx).2⟩
    dj := h.dj.take N hs hm
    cn := by
      rw [filter_set hn (h.oin s r hs) (h.dj.o s r hs).2.1, h.cn] }
/-- A town more has been seen. -/
theorem RS.seen (h : RS w0 ts E a ob db D O VD VO c P w) {x k : ByteArray} (hk : D k ≠ none ∨ E x k = none ∨ ∃ r l r', D x = some r ∧ E x k = some l ∧ O k = some r' ∧ lee r' (gone r k l)) : RS w0 ts E a ob db D O VD VO c (fun i y => P i y ∨ (i = x ∧ y = k)) w :=
  { h with dj := h.dj.seen hk }
theorem RS.weaken {P' : ByteArray → ByteArray → Prop} (h : RS w0 ts E a ob db D O VD VO c P w) (hP : ∀ i k, k ∈ ts → P' i k → P i k) : RS w0 ts E a ob db D O VD VO c P' w :=
  { h with dj := h.dj.weaken hP }
theorem RS.open (N : Net_ E) (h : RS w0 ts E a ob db D O VD VO c P w) {x k : ByteArray} {r : Rt} {l : Int} (hs : D x = some r) (he : E x k = some l) (hv : k ∈ ts) (hk : D k = none) (hb : ∀ r', O k = some r' → btr (gone r k l) r' = true) {v : Value} (hT : IsT w v (gone r k l).1) (hf : ∀ k, v.ownBlock = some k → w0.heap.size ≤ k)
    (ho : MapF Try.prog 9 w' ob (fput (rtF O VO) (.string k) (rtV v (gone r k l).2))) (hg : w.grownBy w' (some ob)) : RS w0 ts E a ob db D (setO O k (some (gone r k l))) VD (updV VO k v) c (fun i y => P i y ∨ (i = x ∧ y = k)) w' := by
  have hTT : ∀ {v : Value} {l : List ByteArray}, IsT w v l → IsT w' v l := fun {v l} ht => OL.kept ht hg fun k hk e => OL.map_ne h.mo ht (hk.trans e)
  exact {
    be := h.be.grown hg h.be.size fun k hk => by rw [← Option.some.inj hk]; exact h.fo.1
    mo := by rw [← rtF_put]; exact ho
    md := h.md.at (hg.block db h.md.lt fun e => h.ne (Option.some.inj e).symm)
    ne := h.ne
    fo := h.fo
    ot := fun y ry hy => by
      by_cases e : y = k
      · subst e
        rw [setO_self] at hy
        obtain rfl := Option.some.inj hy
        rw [updV_self]
        exact ⟨hTT hT, hf⟩
      · rw [setO_ne e] at hy
        rw [updV_ne e]
        exact ⟨hTT (h.ot y ry hy).1, (h.ot y ry hy).2⟩
    td := fun y ry hy => ⟨hTT (h.td y ry hy).1, (h.td y ry hy).2⟩
    dj := h.dj.open N hs he hv hk hb
    cn := h.cn }
/-- What routes leaves. -/
def RtsP (w0 : World) (ts : List ByteArray) (E : ByteArray → ByteArray → Option Int) (a : ByteArray) (e : Ending) (w : World) : Prop :=
  ∃ db D V, e = .returned (.map (some db)) ∧ MapF Try.prog 9 w db (rtF D V) ∧ (∀ s r, D s = some r → IsT w (V s) r.1) ∧ Below w0.heap.size w0 w ∧ ∀ s, (∀ r, D s = some r ↔ Best E (· ∈ ts) a s r) ∧ (D s = none ↔ ∀ r, ¬ Pth E (· ∈ ts) a s r)
theorem RS.done (N : Net_ E) (h : RS w0 ts E a ob db D O VD VO c allP w) (hO : ∀ k, O k = none) : RtsP w0 ts E a (.returned (.map (some db))) w :=
  ⟨db, D, VD, rfl, h.md, fun s r hs => (h.td s r hs).1, h.be, fun s => h.dj.final N hO s⟩
/-- The least open town of those seen. -/
def Nxt (O : ByteArray → Option Rt) (l : List ByteArray) (nx : ByteArray) : Prop := (nx = ⟨#[]⟩ ∧ ∀ s ∈ l, O s = none) ∨ ∃ r, O nx = some r ∧ nx ∈ l ∧ ∀ s ∈ l, ∀ rs, O s = some rs → lee r rs
theorem Nxt.skip {l : List ByteArray} {nx : ByteArray} (h : Nxt O l nx) (hs : O s = none) : Nxt O (l ++ [s]) nx := by
  rcases h with ⟨h1, h2⟩ | ⟨r, h1, h2, h3⟩
  · exact .inl ⟨h1, fun x hx => by
      rcases List.mem_append.1 hx with hx | hx
      · exact h2 x hx
      · rw [List.mem_singleton] at hx; rw [hx]; exact hs⟩
  · exact .inr ⟨r, h1, by simp [h2], fun x hx rs hrs => by
      rcases List.mem_append.1 hx with hx | hx
      · exact h3 x hx rs hrs
      · rw [List.mem_singleton] at hx; rw [hx, hs] at hrs; cases hrs⟩
theorem Nxt.first {l : List ByteArray} {r : Rt} (h : Nxt O l ⟨#[]⟩) (he : O ⟨#[]⟩ = none) (hs : O s = some r) : Nxt O (l ++ [s]) s := by
  rcases h with ⟨_, h2⟩ | ⟨r', h1, _⟩
  · exact .inr ⟨r, hs, by simp, fun x hx rs hrs => by
      rcases List.mem_append.1 hx with hx | hx
      · rw [h2 x hx] at hrs; cases hrs
      · rw [List.mem_singleton] at hx
        subst hx
        rw [hs] at hrs
        obtain rfl := Option.some.inj hrs
        exact lee.refl _⟩
  · rw [he] at h1; cases h1
theorem Nxt.next {l : List ByteArray} {nx : ByteArray} {r rn : Rt} (h : Nxt O l nx) (hn : O nx = some rn) (hne : nx ≠ ⟨#[]⟩) (hs : O s = some r) (hb : btr r rn = true) : Nxt O (l ++ [s]) s := by
  rcases h with ⟨h1, _⟩ | ⟨r', h1, h2, h3⟩
  · exact absurd h1 hne
  · rw [hn] at h1
    obtain rfl := Option.some.inj h1
    exact .inr ⟨r, hs, by simp, fun x hx rs hrs => by
      rcases List.mem_append.1 hx with hx | hx
      · exact (lee.of_btr hb).trans (h3 x hx rs hrs)
      · rw [List.mem_singleton] at hx
        subst hx
        rw [hs] at hrs
        obtain rfl := Option.some.inj hrs
        exact lee.refl _⟩
theorem Nxt.stay {l : List ByteArray} {nx : ByteArray} {r rn : Rt} (h : Nxt O l nx) (hn : O nx = some rn) (hne : nx ≠ ⟨#[]⟩) (hs : O s = some r) (hb : btr r rn = false) : Nxt O (l ++ [s]) nx := by
  rcases h with ⟨h1, _⟩ | ⟨r', h1, h2, h3⟩
  · exact absurd h1 hne
  · rw [hn] at h1
    obtain rfl := Option.some.inj h1
    exact .inr ⟨rn, hn, by simp [h2], fun x hx rs hrs => by
      rcases List.mem_append.1 hx with hx | hx
      · exact h3 x hx rs hrs
      · rw [List.mem_singleton] at hx
        subst hx
        rw [hs] at hrs
        obtain rfl := Option.some.inj hrs
        exact hb⟩
end
set_option maxRecDepth 100000 in
/-- A slice of texts is copied: slices.Clone. -/
theorem clone_any {w : World} {v : Value} {l : List ByteArray} (h : IsT w v l) (hn : l.length ≤ 1000000) : Calls Try.prog 43 #[v] w (NewT l w) := by
  obtain ⟨ao, c, rfl, hao, _⟩ := h.form
  cases ao with
  | none =>
    have h0 : l.length = 0 := by
      rcases Nat.eq_zero_or_pos l.length with h | h
      · exact h
      · obtain ⟨g, off, e, _⟩ := hao h; cases e
    obtain rfl : l = [] := List.eq_nil_of_length_eq_zero h0
    have hq : ∀ wx, (binOp BinOp.eql 28 (Value.slice none 0 c) (Value.slice none 0 0)).run Try.prog wx = .ok (.bool true) wx := fun wx => Lib.run_eql_slice_nil wx 28 9 none 0 c 0 0 Try.underlying28
    clear h hao h0
    show Calls Try.prog 43 #[.slice none 0 c] w (NewT [] w)
    go_enter Try.func43, Try.ntmps43
    go_wp2
    go_ret
    exact ⟨_, rfl, OL.nil _ _ _, fun k hk => by simp [Value.ownBlock] at hk, Below.refl _ _⟩
  | some a =>
    obtain ⟨g', off', cap', w', hap, ho, hg, hB⟩ := fresh_append (P := Try.prog) 28 _ _ Try.underlying28 infoStr rfl (by omega) (OL.src (OL.alloc h (.cells #[] 9)) Try.underlying28 (strs_one l)) (by unfold maxLen; omega) (by omega)
    have hq : ∀ wx, (binOp BinOp.eql 28 (Value.slice (some a) l.length c) (Value.slice none 0 0)).run Try.prog wx = .ok (.bool false) wx := fun wx => Lib.run_eql_slice_nil wx 28 9 (some a) l.length c 0 0 Try.underlying28
    have HP : Hid (NewT l w (.returned (.slice (some ⟨g', off', none⟩) l.length cap')) w') := Lib.hid ⟨_, rfl, ho, fun k hk => by simp [Value.ownBlock] at hk; omega, hB⟩
    have HAP := Lib.hid hap
    clear ho hg hB h hap hn hao
    go_enter Try.func43, Try.ntmps43
    go_wp2_with (refine wpList_append_run (v := .slice (some ⟨w.heap.size, 0, none⟩) 0 0) (xv := .slice (some a) l.length c) rfl (.tmp 5) (.tmp 6) _ _ rfl (by rfl) (by rfl) HAP.out ?_)
    go_ret
    exact HP.out
/-- append(out, k), the k's block anywhere. -/
theorem texts_app {w : World} {v : Value} {l : List ByteArray} {q : Nat} {k : ByteArray} (h : IsT w v l) (hl : l.length ≤ 1000000) (hq : w.heap[q]? = some (.cells #[.string k] 9 (0, 0))) :
    ∃ v' w', (Builtin.append_ #[28, 28] 28 #[v, .slice (some ⟨q, 0, none⟩) 1 1]).run Try.prog w = .ok v' w' ∧ IsT w' v' (l ++ [k]) ∧ w.grownBy w' v.ownBlock ∧ (∀ g, v'.ownBlock = some g → v.ownBlock = some g ∨ w.heap.size ≤ g) ∧ ∃ ao cap, v' = .slice ao (l.length + 1) cap := by
  obtain ⟨ti, hi, iz, is, ib⟩ := info_parts infoStr
  have hsrc : Src Try.prog 1 28 (.slice (some ⟨q, 0, none⟩) 1 1) 1 [.string k] w :=
    (OL.of_block (cs := [.string k]) (size := 1) (n := 1) hq rfl (by simp [maxLen])).src Try.underlying28 (fun u hu => by simp at hu; rw [hu]; rfl)
  obtain ⟨v', w', hap, ho, hgr, hown⟩ := OL.append (P := Try.prog) h 28 28 28 ti _ 16 Try.underlying28 hi iz is ib rfl (by omega) hsrc (by unfold maxLen; omega) (by omega)
  obtain ⟨g, off, cap, rfl, _⟩ := ho.form (by omega)
  refine ⟨_, w', hap, ?_, hgr, fun g hg => ?_, _, cap, rfl⟩
  · show OL _ _ _ _ (l ++ [k]).length (strs (l ++ [k]))
    rw [List.length_append]
    simpa [strs] using ho
  · rcases hown with e | e
    · exact .inl (e ▸ hg)
    · rw [e] at hg; exact .inr (Nat.le_of_eq (Option.some.inj hg))
end Go.Proofs.Ytpcapmialdmcaaa

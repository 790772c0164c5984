/- The walk of DeviceKeeps. Conditions: the arguments can be read. -/
import Derived.Test.YtbpjfhfibllhgaaDvKeepI
namespace Go.Proofs.Ytbpjfhfibllhgaa
open Go.RowKit
open Go.Proofs.Ytbpjfhfibllhgaa.Dv

/-- What the law holds in blocks of its own: the size, and the two lists of acts. -/
structure Box (w : World) (x y : Int) (b : Nat) (u0 u1 : Value) : Prop where
  a0 : w.cell? ⟨b, 0, none⟩ = some (.int .u8 x)
  a1 : w.cell? ⟨b, 1, none⟩ = some (.int .u8 y)
  b0 : w.cell? ⟨b + 1, 0, none⟩ = some u0
  b1 : w.cell? ⟨b + 1, 1, none⟩ = some u1
set_option maxRecDepth 100000 in
set_option maxHeartbeats 4000000 in
theorem keeps_good {ao0 ao1 aok : Option Addr} {n0 c0 b0 f0 n1 c1 b1 f1 nk ck bk fk : Nat} {A0 A1 : Nat → ActV} {K : Nat → Int} (x y : Int) (w : World) (hx : 0 ≤ x ∧ x ≤ 255) (hy : 0 ≤ y ∧ y ≤ 255)
    (h0 : IsActs w ao0 n0 b0 f0 A0) (h1 : IsActs w ao1 n1 b1 f1 A1) (hK : IsInts w aok nk bk fk K) (l0 : n0 ≤ 9223372036854775807) (l1 : n1 ≤ 9223372036854775807) (hk100 : nk ≤ 100) (t0 : fitsB n0 A0 = true) (t1 : fitsB n1 A1 = true) :
    Calls Try.prog 7 #[.agg #[.int .u8 x, .int .u8 y], .agg #[.slice ao0 n0 c0, .slice ao1 n1 c1], .slice aok nk ck] w (AwP w) := by
  have hB0 : Below w.heap.size w ((w.alloc (.cells #[.int .u8 x, .int .u8 y] 38)).alloc (.cells #[.slice ao0 n0 c0, .slice ao1 n1 c1] 52)) := by go_grown
  have hT0 := has_alloc (heap_alloc_new w (.cells #[.int .u8 x, .int .u8 y] 38)) (.cells #[.slice ao0 n0 c0, .slice ao1 n1 c1] 52)
  have hT1 := heap_alloc_new (w.alloc (.cells #[.int .u8 x, .int .u8 y] 38)) (.cells #[.slice ao0 n0 c0, .slice ao1 n1 c1] 52)
  rw [World.size_alloc] at hT1
  have hs0 : w.heap.size + 2 = ((w.alloc (.cells #[.int .u8 x, .int .u8 y] 38)).alloc (.cells #[.slice ao0 n0 c0, .slice ao1 n1 c1] 52)).heap.size := by simp
  have hd : decide ((100 : Int) < (nk : Int)) = false := by simp; omega
  have hF0 : n0 ≤ 40 := (of_decide_eq_true t0).2
  have hF1 : n1 ≤ 40 := (of_decide_eq_true t1).2
  obtain ⟨n, hn⟩ : ∃ n : Nat, 1 + x % 5 = (n : Int) := ⟨(1 + x % 5).toNat, by omega⟩
  obtain ⟨p, hp⟩ : ∃ p : Nat, 1 + y % 5 = (p : Int) := ⟨(1 + y % 5).toNat, by omega⟩
  have hn1 : 1 ≤ n := by omega
  have hn5 : n ≤ 5 := by omega
  have hp1 : 1 ≤ p := by omega
  have hp5 : p ≤ 5 := by omega
  have HN := Lib.hid (And.intro hn hp)
  have H0 := Lib.hid h0
  have H1 := Lib.hid h1
  have HK := Lib.hid hK
  have T0 := Lib.hid (fun w' (hb : Below w.heap.size w w') => fits_any (c := c0) w' (h0.below hb (Nat.le_refl _)) l0)
  have T1 := Lib.hid (fun w' (hb : Below w.heap.size w w') => fits_any (c := c1) w' (h1.below hb (Nat.le_refl _)) l1)
  rw [t0] at T0
  rw [t1] at T1
  clear h0 h1 hK hn hp t0 t1
  go_enter Try.func7, Try.ntmps7
  go_wp2_with fail
  generalize (w.alloc (.cells #[.int .u8 x, .int .u8 y] 38)).alloc (.cells #[.slice ao0 n0 c0, .slice ao1 n1 c1] 52) = w0 at hB0 hT0 hT1 hs0 ⊢
  have hlt0 : w.heap.size < w0.heap.size := by omega
  have hlt1 : w.heap.size + 1 < w0.heap.size := by omega
  have KK : Hid (∀ w', Below w0.heap.size w0 w' → Box w' x y w.heap.size (.slice ao0 n0 c0) (.slice ao1 n1 c1)) := Lib.hid (fun w' hb => ⟨has_cell (below_at hb hT0 hlt0) 0, has_cell (below_at hb hT0 hlt0) 1, has_cell (below_at hb hT1 hlt1) 0, has_cell (below_at hb hT1 hlt1) 1⟩)
  clear hT0 hT1
  refine (awake_any _).mono ?_
  rintro e w1 ⟨rfl, hZ1⟩
  obtain ⟨a0, a1, q0, q1⟩ := KK.out w1 hZ1
  go_wp2_with fail
  refine (T0.out w1 (hB0.trans (hZ1.mono hB0.size))).mono ?_
  rintro e wz ⟨rfl, hw⟩
  subst hw
  go_wp2_with fail
  refine (T1.out wz (hB0.trans (hZ1.mono hB0.size))).mono ?_
  rintro e wy ⟨rfl, hw⟩
  subst hw
  clear T0 T1
  go_wp2_with fail
  refine (dims_any x y _ hx hy).mono ?_
  rintro e w2 ⟨rfl, hb2⟩
  rw [HN.out.1, HN.out.2]
  have hZ2 := hZ1.trans (hb2.mono hZ1.size)
  clear hb2 hZ1 a0 a1 q0 q1
  go_wp2_with fail
  refine (d_new w2 (n := n) (p := p) hn1 (by omega) hp1 (by omega)).mono ?_
  rintro e w3 ⟨b, rfl, hD, hb⟩
  rw [errV0]
  have hZ3 := hZ2.trans (hb.mono hZ2.size)
  have hs3 := hZ2.size
  have HD := Lib.hid (hD.mono (Q := (w0.heap.size ≤ ·)) (fun k hk => Nat.le_trans hs3 hk))
  clear hD hb hZ2 hs3
  obtain ⟨a0, a1, q0, q1⟩ := KK.out w3 hZ3
  clear a0 a1 q1
  go_wp2_with fail
  clear q0
  go_loopw [61] (fun i wr => ∃ (k : Nat) (s : Dev), k ≤ n0 ∧ i = .int .i64 k ∧ DS wr (w0.heap.size ≤ ·) b n p s ∧ s.pending.length ≤ k ∧ Below w0.heap.size w0 wr) (fun i _ => n0 - (intOf i).toNat)
  case atStart => exact ⟨0, _, Nat.zero_le _, rfl, HD.out, Nat.zero_le _, hZ3⟩
  case round =>
    clear HD hZ3
    obtain ⟨k, s, hk, rfl, hD, hpl, hZ⟩ := hrel
    by_cases hlt : k < n0
    · have HI := H0.out.below (hB0.trans (hZ.mono hB0.size)) (Nat.le_refl _)
      obtain rfl := HI.ao (by omega)
      obtain ⟨e0, e1, e2, e3, e4⟩ := HI.c k hlt
      have hba : Below wr.heap.size wr (wr.alloc (.cells #[.int .u8 (A0 k).kind, .int .i64 (A0 k).block, .int .i64 (A0 k).page, .slice (A0 k).dao (A0 k).dn (A0 k).dc, .slice (A0 k).kao (A0 k).kn (A0 k).kc] 55)) := by go_grown
      have hsa : w0.heap.size ≤ (wr.alloc (.cells #[.int .u8 (A0 k).kind, .int .i64 (A0 k).block, .int .i64 (A0 k).page, .slice (A0 k).dao (A0 k).dn (A0 k).dc, .slice (A0 k).kao (A0 k).kn (A0 k).kc] 55)).heap.size := by have := hZ.size; simp; omega
      have hD' := hD.belowS hba
      have CD := do_any (A0 k) hD' (by omega) ((HI.k k hlt).below hba (Nat.le_refl _)) (fun hd => by have := (H0.out.k k hlt).d.lt hd; omega)
      unfold ActV.val at CD
      have CD := Lib.hid CD
      have hpd := do_pend (n := n) (p := p) (s := s) (A0 k)
      generalize doE n p s (A0 k) = r at CD
      generalize doS n p s (A0 k) = s' at CD hpd
      have HZ := Lib.hid (hZ.trans (hba.mono hZ.size))
      clear HI hD hD' hZ hba
      go_wp2_with fail
      refine CD.out.mono ?_
      rintro e w5 hR
      obtain ⟨rfl, hD5, hZ5, _⟩ := hR.own hsa
      have hZ5' := HZ.out.trans hZ5
      clear CD hR e0 e1 e2 e3 e4 hZ5
      go_wp2
      go_roundw
      case rel => exact ⟨k + 1, s', by omega, by go_num, hD5, by omega, hZ5'⟩
      case measure => simp [intOf]; omega
    · obtain rfl : k = n0 := by omega
      have CC := Lib.hid (d_crash0 hD)
      have HL := Lib.hid (show (s.crash (fun _ => 0)).pending.length = 0 from rfl)
      have HSt := Lib.hid (Kp.start n s (fun _ => 0))
      have hzs := hZ.size
      generalize s.crash (fun _ => 0) = s1 at CC HL HSt
      go_wp2_with fail
      refine CC.out.mono ?_
      rintro e w7 hR
      obtain ⟨rfl, hD7, hZ7, _⟩ := hR.own hzs
      have hZ7' := hZ.trans hZ7
      have CP := Lib.hid (d_copy hD7 (by rw [HL.out]; omega))
      have HD7 := Lib.hid hD7.bound
      clear CC hR hZ hZ7 hD7 hD hpl hlt hk
      go_wp2_with fail
      refine CP.out.mono ?_
      rintro e w8 ⟨c, rfl, hD8, hb8⟩
      have HC8 := Lib.hid hD8.bound
      have HD8 := Lib.hid (HD7.out.belowS hb8)
      have hs8 := hb8.size
      have hZ8 := hZ7'.trans (hb8.mono hZ7'.size)
      have hs7 := hZ7'.size
      have hmk := fun w => run_make_row' (P := Try.prog) 58 4 (.bool false) 1 Try.underlying58 (by kernel_rfl) rfl .i64 .i64 n (by omega) (by omega) w
      clear CP HD7 hD8 hb8 hZ7'
      go_upto_region 15 with fail
      have hba : Below w8.heap.size w8 (w8.alloc (.cells (madeCells #[.bool false] n) 4)) := by go_grown
      have HC9 := Lib.hid ((HC8.out.belowS hba).mono (Q := fun k => w7.heap.size ≤ k ∧ k < w8.heap.size) (fun _ h => h))
      have HD9 := Lib.hid ((HD8.out.belowS hba).mono (Q := Two w0.heap.size w7.heap.size w8.heap.size) (fun k h => .inl h))
      have HR9 : Hid (Row (w8.alloc (.cells (madeCells #[.bool false] n) 4)) 4 w8.heap.size ((List.replicate n false).map Value.bool)) := Lib.hid (by have := Row.made (heap_alloc_new w8 (.cells (madeCells #[.bool false] n) 4)); simpa using this)
      have hZ9 := hZ8.trans (hba.mono hZ8.size)
      have hg9 : w8.heap.size < (w8.alloc (.cells (madeCells #[.bool false] n) 4)).heap.size := by simp
      clear HC8 HD8 hZ8 hmk hba
      generalize w8.alloc (.cells (madeCells #[.bool false] n) 4) = w9 at HC9 HD9 HR9 hZ9 hg9 ⊢
      generalize w8.heap.size = g at HC9 HD9 HR9 hg9 hs8 ⊢
      obtain ⟨a0, a1, q0, q1⟩ := KK.out w9 hZ9
      clear a0 a1 q0
      go_wp2_with fail
      clear q1
      /-MARK-/
      have hI9 : KI w0 w7.heap.size g b c n p s1 (List.replicate n false) s1 w9 := ⟨HD9.out, HC9.out, HR9.out, by simp, HSt.out, hZ9, hs7, hs8⟩
      have HL1 := Lib.hid HL.out
      clear HD9 HC9 HR9 HSt hZ9 hg9 HL
      generalize w7.heap.size = hi at hI9 hs7 hs8
      go_loopw [78] (fun i wr => ∃ (k : Nat) (er : List Bool) (s : Dev), k ≤ n1 ∧ i = .int .i64 k ∧ s.pending.length ≤ k ∧ KI w0 hi g b c n p s1 er s wr) (fun i _ => n1 - (intOf i).toNat)
      case atStart => exact ⟨0, _, s1, Nat.zero_le _, rfl, by rw [HL1.out]; omega, hI9⟩
      case round =>
        clear hI9
        obtain ⟨k, er, s, hk, rfl, hpl, hI⟩ := hrel
        by_cases hlt : k < n1
        · have HI := H1.out.below (hB0.trans (hI.z.mono hB0.size)) (Nat.le_refl _)
          obtain rfl := HI.ao (by omega)
          obtain ⟨e0, e1, e2, e3, e4⟩ := HI.c k hlt
          have hok := HI.k k hlt
          have hok0 := H1.out.k k hlt
          clear HI
          generalize A1 k = a at e0 e1 e2 e3 e4 hok hok0
          have k0 := hok.k0
          have hba : Below wr.heap.size wr (wr.alloc (.cells #[.int .u8 a.kind, .int .i64 a.block, .int .i64 a.page, .slice a.dao a.dn a.dc, .slice a.kao a.kn a.kc] 55)) := by go_grown
          have hIa := hI.belowS hba
          have hoka := hok.below hba (Nat.le_refl _)
          have hzs := hI.z.size
          clear hba
          by_cases k4 : a.kind % 6 = 4
          · have d4 : (a.kind % 6 == 4) = true := by rw [beq_iff_eq]; exact k4
            have HI := Lib.hid hIa
            clear hI hIa hok hok0 hoka k4
            go_wp2
            go_roundw
            case rel => exact ⟨k + 1, er, s, by omega, by go_num, by omega, HI.out⟩
            case measure => simp [intOf]; omega
          have d4 : (a.kind % 6 == 4) = false := by rw [beq_eq_false_iff_ne]; exact k4
          by_cases k1 : a.kind % 6 = 1
          · have d1 : (a.kind % 6 == 1) = true := by rw [beq_iff_eq]; exact k1
            by_cases hb0 : 0 ≤ a.block
            · by_cases hbn : a.block < n
              · obtain ⟨i, hbi⟩ := Int.eq_ofNat_of_zero_le hb0
                rw [hbi] at e1 hIa
                have hokb := hoka
                rw [hbi] at hokb
                have hoka := hokb
                have hin : i < n := by omega
                have db1 : decide ((0 : Int) ≤ (i : Int)) = true := by simp
                have db2 : decide ((i : Int) < (n : Int)) = true := by simp; omega
                have hbm : Below (wr.setCell ⟨g, i, none⟩ (.bool true)).heap.size (wr.setCell ⟨g, i, none⟩ (.bool true)) ((wr.setCell ⟨g, i, none⟩ (.bool true)).alloc (.cells #[.int .u8 a.kind, .int .i64 i, .int .i64 a.page, .slice a.dao a.dn a.dc, .slice a.kao a.kn a.kc] 55)) := by go_grown
                have hIm := (hI.mark i).belowS hbm
                have ce := hI.erased hin
                have cf := hI.rw.free i
                have hgl := hI.gl
                have hoka := hok0.below (hB0.trans (hIm.z.mono hB0.size)) (Nat.le_refl _)
                have CD := do_any a hIm.dv (by omega) hoka (fun hd hq => by have := hok0.d.lt hd; have := hIm.h0; have := hIm.h1; rcases hq with hq | hq <;> omega)
                unfold ActV.val at CD
                have hpd := do_pend (n := n) (p := p) (s := s) a
                have hkp := (hIm.kp.do_ hIm.dv.gd a k4 (fun _ _ => by rw [hbi, Int.toNat_natCast, getD_set (by rw [hIa.ln]; exact hin), if_pos rfl]))
                generalize doE n p s a = r at CD
                generalize doS n p s a = s' at CD hpd hkp
                rw [hbi] at CD
                have CD := Lib.hid CD
                have HI := Lib.hid hIm
                clear hI hIa hok hok0 hoka hIm k4 k1 hb0 hbn hbi hokb hbm
                go_wp2_with fail
                refine CD.out.mono ?_
                rintro e w10 hR
                have HI5 := Lib.hid (HI.out.step hR hkp)
                obtain ⟨rfl, _⟩ := hR
                clear CD e0 e1 e2 e3 e4 HI
                go_wp2
                go_roundw
                case rel => exact ⟨k + 1, er.set i true, s', by omega, by go_num, by omega, HI5.out⟩
                case measure => simp [intOf]; omega
              · have db1 : decide (0 ≤ a.block) = true := by simp; omega
                have db2 : decide (a.block < (n : Int)) = false := by simp; omega
                have CD := do_any a hIa.dv (by omega) hoka (fun hd hq => by have := hok0.d.lt hd; have := hIa.h0; have := hIa.h1; rcases hq with hq | hq <;> omega)
                unfold ActV.val at CD
                have hpd := do_pend (n := n) (p := p) (s := s) a
                have hkp := (hIa.kp.do_ hIa.dv.gd a k4 (fun _ h => absurd h.2 hbn))
                generalize doE n p s a = r at CD
                generalize doS n p s a = s' at CD hpd hkp
                have CD := Lib.hid CD
                have HI := Lib.hid hIa
                clear hI hIa hok hok0 hoka k4 k1 hb0 hbn
                go_wp2_with fail
                refine CD.out.mono ?_
                rintro e w10 hR
                have HI5 := Lib.hid (HI.out.step hR hkp)
                obtain ⟨rfl, _⟩ := hR
                clear CD e0 e1 e2 e3 e4 HI
                go_wp2
                go_roundw
                case rel => exact ⟨k + 1, er, s', by omega, by go_num, by omega, HI5.out⟩
                case measure => simp [intOf]; omega
            · have db1 : decide (0 ≤ a.block) = false := by simp; omega
              have CD := do_any a hIa.dv (by omega) hoka (fun hd hq => by have := hok0.d.lt hd; have := hIa.h0; have := hIa.h1; rcases hq with hq | hq <;> omega)
              unfold ActV.val at CD
              have hpd := do_pend (n := n) (p := p) (s := s) a
              have hkp := (hIa.kp.do_ hIa.dv.gd a k4 (fun _ h => absurd h.1 hb0))
              generalize doE n p s a = r at CD
              generalize doS n p s a = s' at CD hpd hkp
              have CD := Lib.hid CD
              have HI := Lib.hid hIa
              clear hI hIa hok hok0 hoka k4 k1 hb0
              go_wp2_with fail
              refine CD.out.mono ?_
              rintro e w10 hR
              have HI5 := Lib.hid (HI.out.step hR hkp)
              obtain ⟨rfl, _⟩ := hR
              clear CD e0 e1 e2 e3 e4 HI
              go_wp2
              go_roundw
              case rel => exact ⟨k + 1, er, s', by omega, by go_num, by omega, HI5.out⟩
              case measure => simp [intOf]; omega
          · have d1 : (a.kind % 6 == 1) = false := by rw [beq_eq_false_iff_ne]; exact k1
            have CD := do_any a hIa.dv (by omega) hoka (fun hd hq => by have := hok0.d.lt hd; have := hIa.h0; have := hIa.h1; rcases hq with hq | hq <;> omega)
            unfold ActV.val at CD
            have hpd := do_pend (n := n) (p := p) (s := s) a
            have hkp := (hIa.kp.do_ hIa.dv.gd a k4 (fun h => absurd h k1))
            generalize doE n p s a = r at CD
            generalize doS n p s a = s' at CD hpd hkp
            have CD := Lib.hid CD
            have HI := Lib.hid hIa
            clear hI hIa hok hok0 hoka k4 k1
            go_wp2_with fail
            refine CD.out.mono ?_
            rintro e w10 hR
            have HI5 := Lib.hid (HI.out.step hR hkp)
            obtain ⟨rfl, _⟩ := hR
            clear CD e0 e1 e2 e3 e4 HI
            go_wp2
            go_roundw
            case rel => exact ⟨k + 1, er, s', by omega, by go_num, by omega, HI5.out⟩
            case measure => simp [intOf]; omega
        · obtain rfl : k = n1 := by omega
          have hKb := HK.out.below (hB0.trans (hI.z.mono hB0.size)) (Nat.le_refl _)
          have CC := Lib.hid (d_crash (ck := ck) hI.dv hKb (by omega))
          have HEq := Lib.hid (fun (i k : Nat) (he : er.getD i false = false) (hk : k < pgN (s1.blk i)) => hI.kp.end_ hI.dv.gd (kf nk K) he hk)
          have HI := Lib.hid hI
          generalize s.crash (kf nk K) = s3 at CC HEq
          clear hKb hI hpl hlt hk
          go_wp2_with fail
          refine CC.out.mono ?_
          rintro e w11 hR
          have HE := Lib.hid (HI.out.fin hR)
          obtain ⟨rfl, _⟩ := hR
          clear CC HI
          go_wp2_with fail
          go_loopw [17] (fun i wr => ∃ (j : Nat), j ≤ n ∧ i = .int .i64 j ∧ KE w0 hi g b c n p s1 er s3 wr) (fun i _ => n - (intOf i).toNat)
          case atStart => exact ⟨0, Nat.zero_le _, rfl, HE.out⟩
          case round =>
            clear HE
            obtain ⟨j, hj, rfl, hE⟩ := hrel
            by_cases hjn : j < n
            · have CN := d_next (j : Int) hE.cp
              rw [show nextE n (j : Int) = 0 from if_pos (by omega), show nextI n s1 (j : Int) = pgN (s1.blk j) from if_pos (by omega)] at CN
              have CN := Lib.hid CN
              have hmp := pgN_le hE.cp.gd hjn
              have HQ := Lib.hid (HEq.out j)
              generalize pgN (s1.blk j) = m at CN hmp HQ
              have HE := Lib.hid hE
              clear hE
              go_wp2_with fail
              refine CN.out.mono ?_
              rintro e w12 ⟨rfl, hb12⟩
              rw [errV0]
              have HE2 := Lib.hid (HE.out.belowS hb12)
              clear CN HE hb12
              go_wp2_with fail
              go_loopw [20] (fun i wr => ∃ (k : Nat), k ≤ m ∧ i = .int .i64 k ∧ KE w0 hi g b c n p s1 er s3 wr) (fun i _ => m - (intOf i).toNat)
              case atStart => exact ⟨0, Nat.zero_le _, rfl, HE2.out⟩
              case round =>
                clear HE2
                obtain ⟨k, hk, rfl, hE⟩ := hrel
                by_cases hkm : k < m
                · have ce := hE.erased hjn
                  cases hce : er.getD j false
                  · rw [hce] at ce
                    have R1 := Lib.hid (d_read hE.cp hjn (k := k) (by omega))
                    have R2 := Lib.hid (fun w' (hb : Below wr.heap.size wr w') => d_read (hE.belowS hb).dv hjn (k := k) (by omega))
                    rw [HQ.out k hce hkm] at R2
                    have hll := look_len ((s1.blk j).pages.getD k none)
                    change Hid (Calls Try.prog _ _ _ (ReadOk (look ((s1.blk j).pages.getD k none)) _)) at R1
                    have R2' : Hid (∀ w', Below wr.heap.size wr w' → Calls Try.prog 16 #[.pointer (some ⟨b, 0, none⟩), .int .i64 j, .int .i64 k] w' (ReadOk (look ((s1.blk j).pages.getD k none)) w')) := Lib.hid R2.out
                    clear R2
                    generalize look ((s1.blk j).pages.getD k none) = lk at R1 R2' hll
                    have HE := Lib.hid hE
                    clear hE hce
                    go_wp2_with fail
                    refine R1.out.mono ?_
                    rintro e w13 ⟨g1, rfl, hg1, hl1, hb13⟩
                    rw [errV0]
                    clear ce
                    go_wp2_with fail
                    refine (R2'.out _ hb13).mono ?_
                    rintro e w14 ⟨g2, rfl, hg2, hl2, hb14⟩
                    rw [errV0]
                    have BS := Lib.hid (bytes_same (c1 := 512) (c2 := 512) hll (below_ats hb14 hg1) hg2)
                    have HE3 := Lib.hid ((HE.out.belowS hb13).belowS hb14)
                    clear R1 R2' hg1 hg2 hb13 hb14 hl1 hl2 HE
                    go_wp2_with fail
                    refine BS.out.mono ?_
                    rintro e w15 ⟨rfl, rfl⟩
                    go_wp2
                    go_roundw
                    case rel => exact ⟨k + 1, by omega, by go_num, HE3.out⟩
                    case measure => simp [intOf]; omega
                  · rw [hce] at ce
                    have HE := Lib.hid hE
                    clear hE hce
                    go_wp2
                    go_roundw
                    case rel => exact ⟨j + 1, by omega, by go_num, HE.out⟩
                    case measure => simp [intOf]; omega
                · have HE := Lib.hid hE
                  clear hE
                  go_wp2
                  go_roundw
                  case rel => exact ⟨j + 1, by omega, by go_num, HE.out⟩
                  case measure => simp [intOf]; omega
            · have CP := Lib.hid (d_pages hE.dv)
              have HE := Lib.hid (hB0.trans (hE.z.mono hB0.size))
              clear hE
              go_wp2_with fail
              refine CP.out.mono ?_
              rintro e w16 ⟨rfl, rfl⟩
              go_wp2
              go_ret
              simp
              exact ⟨rfl, HE.out⟩
end Go.Proofs.Ytbpjfhfibllhgaa

/- network: the fixed example; a nil network. Conditions: none. -/
import Derived.Test.YtkhiepjlfbjgdaaNwV
namespace Go.Proofs.Ytkhiepjlfbjgdaa
open Go.RowKit

noncomputable def awS : Net := (Net.init 5).sent 2 ⟨#[97]⟩ ⟨#[98]⟩ [120]
theorem aw_get (d : Int) (x y : ByteArray) : (Net.init d).get x y = ⟨d, 0, fun _ => none⟩ := rfl
theorem aw_list (d t : Int) (x y : ByteArray) : (Net.init d).list t x y = [d] := rfl
theorem awS_arr : awS.arr = [⟨7, ⟨#[97]⟩, ⟨#[98]⟩, [120], 1, 0⟩] := rfl
set_option maxRecDepth 100000 in
set_option maxHeartbeats 800000 in
theorem awake_any (w : World) : Calls Try.prog 9 #[] w (AwP w) := by
  have C1 := Lib.hid (n_new 5 w (by omega) (by decide))
  have kc := fun (w : World) (C : Array Value) (n c : Nat) => Lib.run_convert_bytes_const (P := Try.prog) w 41 5 C n c Try.underlying41 Try.underlying5
  go_enter Try.func9, Try.ntmps9
  go_wp2_with fail
  refine C1.out.mono ?_
  rintro e w1 ⟨b, rfl, hN, hb1⟩
  have hbs := hb1.size
  have hB2 : Below w.heap.size w (w1.alloc (.cells #[.int .u8 120] 5 (1, 2))) := hb1.alloc hbs _
  have hN2 : NS (w1.alloc (.cells #[.int .u8 120] 5 (1, 2))) (fun k => w.heap.size ≤ k ∧ k < w1.heap.size) b (Net.init 5) := (hN.bound).belowS (by go_grown)
  have CS := Lib.hid (n_send (cp := 1) hN2 (NGd.init (d := 5) (by decide)) (by omega) (fun k hk => by simp; omega) (x := ⟨#[97]⟩) (y := ⟨#[98]⟩) (by decide) (by decide) 2 (bys_bytes (l := [120]) (heap_alloc_new w1 _) (by simp)) (fun _ h => by omega) (by simp))
  rw [show lst ([120] : List Int).length (fun i => ([120] : List Int).getD i 0) = [120] from lst_self _, show sendE (Net.init 5) 2 = 0 from rfl, show sendS (Net.init 5) 2 ⟨#[97]⟩ ⟨#[98]⟩ [120] = awS from if_pos rfl] at CS
  clear C1 hN hN2
  go_wp2_with fail
  refine CS.out.mono ?_
  rintro e w2 ⟨rfl, hN2, hO2⟩
  rw [errV0]
  have hB3 : Below w.heap.size w w2 := hB2.trans (hO2.below hB2.size (fun k hk => hk.1))
  have CN := Lib.hid (next_some hN2 (by rw [awS_arr]; simp))
  rw [show (awS.at_ (bestN awS awS.arr.length)).t = 7 from rfl] at CN
  have HN2 := Lib.hid hN2
  clear CS hN2 hO2 hB2
  go_wp2_with fail
  refine CN.out.mono ?_
  rintro e w3 ⟨rfl, hb3⟩
  have hB4 := hB3.trans (hb3.mono hB3.size)
  have CP := Lib.hid (n_pend (HN2.out.belowS hb3))
  rw [show (awS.arr.length : Int) = 1 from by rw [awS_arr]; rfl] at CP
  clear CN hb3 hB3
  go_wp2_with fail
  refine CP.out.mono ?_
  rintro e w4 ⟨rfl, rfl⟩
  go_wp2
  go_ret
  exact ⟨rfl, hB4⟩
end Go.Proofs.Ytkhiepjlfbjgdaa

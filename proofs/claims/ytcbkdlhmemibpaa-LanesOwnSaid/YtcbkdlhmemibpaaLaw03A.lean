/- The walks of erratumref03.Scale and of erratumlaw03.known. -/
import Derived.Test.YtcbkdlhmemibpaaRef03U
namespace Go.Proofs.Ytcbkdlhmemibpaa
open Go.RowKit Gf Bt

set_option maxRecDepth 10000 in
set_option maxHeartbeats 1000000 in
theorem rscale_any (p : List UInt64) (hp : p.length = 8) (x : UInt8) (w : World) :
    Calls Try.prog 28 #[.agg (p.map W64).toArray, B8 x] w fun e w' => e = .returned (.agg ((scaleP p x).map W64).toArray) ∧ Below w.heap.size w w' := by
  have HP := Lib.hid hp
  go_enter Try.func28, Try.ntmps28
  clear hp
  go_wp2
  go_loopw [5, 6] (fun v i wr => ∃ k : Nat, k ≤ 64 ∧ i = .int .i64 k ∧ wr.ownsRow (w.heap.size + 2) 5 1 v k (((lanes (scaleP p x)).take k).map B8) ∧
      Blk wr w.heap.size 24 (p.map W64) ∧ Blk wr (w.heap.size + 1) 24 (List.replicate 8 (W64 0)) ∧ Below w.heap.size w wr) (fun _ i _ => 64 - (intOf i).toNat)
  case atStart => exact ⟨0, by omega, rfl, own_nil _ _ _, (Blk.new w _ _).alloc _, blk_new1 w _ _ (List.replicate 8 (W64 0)), ((Below.refl _ _).alloc (Nat.le_refl _) _).alloc (by simp) _⟩
  case round =>
    obtain ⟨k, hk, rfl, hown, hr, hz, hbel⟩ := hrel
    have hgl := hz.lt
    have HO := Lib.hid hown
    have HR := Lib.hid hr
    have HZ := Lib.hid hz
    have HL := Lib.hid hbel
    clear hown hr hz hbel
    by_cases hlt : k < 64
    · have hk0 : (0 : Int) ≤ (k : Int) := Int.natCast_nonneg _
      go_wp2_with (first
        | (refine ld_arr rfl 24 _ rfl (w.heap.size) rfl _ _ _ _ HR.out Try.underlying24 (planes_info _ HP.out) ?_)
        | (go_at_call 25; refine (rlane_any p HP.out _ _).mono ?_; rintro e w1 ⟨rfl, hb1⟩
           have HO1 := Lib.hid (own_below HO.out hb1)
           have HR1 := Lib.hid (HR.out.below hb1 (by omega))
           have HZ1 := Lib.hid (HZ.out.below hb1 hgl)
           have HL1 := Lib.hid (HL.out.trans (hb1.mono HL.out.size))
           have hz1 := hb1.size
           clear hb1
           rw [laneI_nat])
        | (go_at_call 14; refine (ref_mul _ _ _).mono ?_; rintro e w1 ⟨rfl, rfl⟩)
        | (refine ap_one rfl _ _ 25 rfl (w.heap.size + 2) 5 _ 1 Try.underlying25 u8_info rfl _ _ _ rfl (own_below HO1.out ((Below.refl _ _).alloc (Nat.le_refl _) _)) _ 1 (B8 (gmul (lane p k) x)) rfl ?c1 rfl (by omega) (by decide) (by simp; omega) ?_
           case c1 => simp
           intro v2 w2 hown2 hb2))
      go_roundw
      case rel =>
        refine ⟨k + 1, by omega, by go_num, ?_, (HR1.out.alloc _).below hb2 (by omega), (HZ1.out.alloc _).below hb2 (by omega), (HL1.out.alloc (by omega) _).trans (hb2.mono (by omega))⟩
        rw [← take_snoc_B8 _ k _ (lanes_get _ hlt), lane_scaleP _ HP.out _ hlt]; exact hown2
      case measure => simp [intOf]; omega
    · obtain rfl : k = 64 := by omega
      obtain ⟨A, c, rfl, hc, hrd⟩ := own_slice HO.out
      rw [List.take_of_length_le (by rw [lanes_length]; omega)] at hrd
      have HRD := Lib.hid hrd
      have HPL := Lib.hid (pack_lanes (scaleP p x) (scaleP_length p x))
      clear hrd
      have hc' := rpack_any A (lanes (scaleP p x)) c wr HRD.out (by rw [lanes_length]; omega)
      rw [lanes_length, HPL.out] at hc'
      have HC := Lib.hid hc'
      clear hc'
      go_wp2_with (first
        | (go_at_call 19; refine (HC.out).mono ?_; rintro e w1 ⟨rfl, hb1⟩
           have HZ1 := Lib.hid (HZ.out.below hb1 hgl)
           have HL1 := Lib.hid (HL.out.trans (hb1.mono HL.out.size))
           clear hb1)
        | (refine st_arr rfl 24 _ _ rfl (w.heap.size + 1) ((scaleP p x).map W64) rfl rfl _ _ HZ1.out (planes_info _ (scaleP_length p x)) (by rw [List.length_replicate, List.length_map, (scaleP_length p x)]) (w64_one _) ?_; intro w1 hb1 hp1))
      refine ret_arr rfl rfl (w.heap.size + 1) rfl _ _ _ _ hb1 Try.underlying24 (planes_info _ (scaleP_length p x)) ⟨rfl, hp1.bel HL1.out (by omega)⟩

/-- The chapter's example. -/
def exP : List UInt64 := mulP (pack [2, 128]) (pack [3, 2])
theorem exP_lane (n : Nat) (hn : n < 64) : lane exP n = gmul ([2, 128].getD n 0) ([3, 2].getD n 0) := by
  unfold exP; rw [lane_mulP _ _ (pack_length _) (pack_length _) hn, lane_pack _ hn, lane_pack _ hn]
theorem ex1 : (laneI exP 1).toNat = 29 := by
  rw [show (1 : Int) = ((1 : Nat) : Int) from rfl, laneI_nat, exP_lane 1 (by decide)]; decide +kernel
theorem ex0 : (laneI exP 0).toNat = 6 := by
  rw [show (0 : Int) = ((0 : Nat) : Int) from rfl, laneI_nat, exP_lane 0 (by decide)]; decide +kernel
theorem ex64 : (laneI exP 64).toNat = 0 := by
  rw [show (64 : Int) = ((64 : Nat) : Int) from rfl, laneI_nat, lane_out exP (by decide)]; rfl
set_option maxRecDepth 10000 in
set_option maxHeartbeats 1000000 in
theorem known03 (w : World) : Calls Try.prog 9 #[] w fun e w' => e = .returned (.bool true) ∧ Below w.heap.size w w' := by
  have h1 := ex1
  have h0 := ex0
  have h6 := ex64
  have HL := Lib.hid (mulP_length (pack [2, 128]) (pack [3, 2]))
  have HE := Lib.hid (show mulP (pack [2, 128]) (pack [3, 2]) = exP from rfl)
  rw [HE.out] at HL
  go_enter Try.func9, Try.ntmps9
  go_wp2_with fail
  refine (pack_any (some ⟨w.heap.size, 0, none⟩) [2, 128] 2 _ (Rd.of_blk (Blk.new w 5 [B8 2, B8 128]) (by simp)) (by decide) (by decide)).mono ?_
  rintro e w1 ⟨rfl, hb1⟩
  have HB1 := Lib.hid (((Below.refl w.heap.size w).alloc (Nat.le_refl _) _).trans (hb1.mono (by simp)))
  clear hb1
  go_wp2_with fail
  refine (pack_any (some ⟨w1.heap.size, 0, none⟩) [3, 2] 2 _ (Rd.of_blk (Blk.new w1 5 [B8 3, B8 2]) (by simp)) (by decide) (by decide)).mono ?_
  rintro e w2 ⟨rfl, hb2⟩
  have HB2 := Lib.hid ((HB1.out.alloc HB1.out.size _).trans (hb2.mono (by have := HB1.out.size; simp; omega)))
  clear hb2
  go_wp2_with fail
  refine (mul_any (pack [2, 128]) (pack [3, 2]) (pack_length _) (pack_length _) _).mono ?_
  rintro e w3 ⟨rfl, hb3⟩
  have HB3 := Lib.hid (HB2.out.trans (hb3.mono HB2.out.size))
  clear hb3
  rw [HE.out]
  go_wp2_with (first
    | (refine st_arr rfl 24 _ _ rfl w3.heap.size (exP.map W64) rfl rfl _ _ (Blk.new w3 24 (List.replicate 8 (W64 0))) (planes_info _ HL.out) (by rw [List.length_replicate, List.length_map, HL.out]) (w64_one _) ?_; intro w4 hb4 hp4
       have HK := Lib.hid hb4
       have hlt := hb4.lt
       have HB4 := Lib.hid (hp4.bel (HB3.out.alloc HB3.out.size _) HB3.out.size)
       clear hb4 hp4)
    | (refine ld_arr rfl 24 _ rfl (w3.heap.size) rfl _ _ _ _ HK.out Try.underlying24 (planes_info _ HL.out) ?_)
    | (go_at_call 13; refine (lane_any exP HL.out _ _).mono ?_; rintro e w5 ⟨rfl, hb5⟩
       have HK := Lib.hid (HK.out.below hb5 (by have := HK.out.lt; omega))
       have HB4 := Lib.hid (HB4.out.trans (hb5.mono HB4.out.size))
       clear hb5)
    | (go_at_call 10; refine (unpack_any exP HL.out _).mono ?_; rintro e w5 ⟨g, rfl, hg, hbg, hb5⟩
       have HB4 := Lib.hid (HB4.out.trans (hb5.mono HB4.out.size))
       clear hb5 hbg))
  go_ret
  exact ⟨rfl, HB4.out⟩
end Go.Proofs.Ytcbkdlhmemibpaa

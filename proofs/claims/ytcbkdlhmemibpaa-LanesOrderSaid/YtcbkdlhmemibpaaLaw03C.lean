/- The walk of the law LanesOrder. -/
import Derived.Test.YtcbkdlhmemibpaaLaw03B
namespace Go.Proofs.Ytcbkdlhmemibpaa
open Go.RowKit Gf Bt

def sqIt (p : List UInt64) : Nat → List UInt64
  | 0 => p
  | k + 1 => squareP (sqIt p k)
theorem sqIt_length (p : List UInt64) (hp : p.length = 8) : ∀ k, (sqIt p k).length = 8
  | 0 => hp
  | _ + 1 => squareP_length _
theorem lane_sqIt (p : List UInt64) (hp : p.length = 8) (n : Nat) (hn : n < 64) : ∀ k, lane (sqIt p k) n = gpow (lane p n) (2 ^ k)
  | 0 => (gpow_one _).symm
  | k + 1 => by
    rw [sqIt, lane_squareP _ (sqIt_length p hp k) hn, lane_sqIt p hp n hn k, ← gpow_add, Nat.pow_succ, Nat.mul_two]
theorem gpow_256 (a : UInt8) : gpow a 256 = a := by
  by_cases h : a = 0
  · subst h; rw [show (256 : Nat) = 255 + 1 from rfl, gpow, gmul_zero]
  · rw [show (256 : Nat) = 255 + 1 from rfl, gpow, gpow_255 a h, one_gmul]
theorem sqIt_all (p : List UInt64) (hp : p.length = 8) : sqIt p 8 = p :=
  planes_ext (sqIt_length p hp 8) hp fun n hn => by rw [lane_sqIt p hp n hn]; exact gpow_256 _
set_option maxRecDepth 100000 in
set_option maxHeartbeats 1000000 in
theorem order_any (p : List UInt64) (hp : p.length = 8) (w : World) :
    Calls Try.prog 5 #[.agg (p.map W64).toArray] w fun e w' => e = .returned (.bool true) ∧ Below w.heap.size w w' := by
  have he := eq_planes _ _ (sqIt_all p hp) (sqIt_length p hp 8)
  rw [sqIt_all p hp] at he
  have HP := bx hp
  have HB0 := bx (Blk.new w 24 (p.map W64))
  clear hp
  go_enter Try.func5, Try.ntmps5
  go_wp2_with (first
    | (refine ld_arr rfl 24 _ rfl (w.heap.size) rfl _ _ _ _ HB0.out Try.underlying24 (planes_info _ HP.out) ?_)
    | (refine st_arr rfl 24 _ _ rfl (w.heap.size + 1) (p.map W64) rfl rfl _ _ (blk_new1 w _ 24 (List.replicate 8 (W64 0))) (planes_info _ HP.out) (by rw [List.length_replicate, List.length_map, HP.out]) (w64_one _) ?_; intro w1 hb1 hp1))
  have HB1 := bx (hp1.blk (HB0.out.alloc _) (by omega))
  have HL1 := bx (hp1.bel (((Below.refl _ _).alloc (Nat.le_refl _) _).alloc (by simp) _) (Nat.le_succ w.heap.size))
  have HK := bx hb1
  clear hb1 hp1 HB0
  go_loopw [4] (fun i wr => ∃ k : Nat, k ≤ 8 ∧ i = .int .i64 k ∧ Blk wr (w.heap.size + 1) 24 ((sqIt p k).map W64) ∧
      Blk wr w.heap.size 24 (p.map W64) ∧ Below w.heap.size w wr) (fun i _ => 8 - (intOf i).toNat)
  case atStart => exact ⟨0, by omega, rfl, HK.out, HB1.out, HL1.out⟩
  case round =>
    obtain ⟨k, hk, rfl, hb, hr, hbel⟩ := hrel
    have hlt1 := hb.lt
    have hlt2 := hr.lt
    have HB := bx hb
    have HR := bx hr
    have HL := bx hbel
    clear hb hr hbel HK HB1 HL1
    by_cases hlt : k < 8
    · have hk0 : (0 : Int) ≤ (k : Int) := Int.natCast_nonneg _
      have HS := bx (sqIt_length p HP.out k)
      have HT := bx (show squareP (sqIt p k) = sqIt p (k + 1) from rfl)
      have HS1 := bx (sqIt_length p HP.out (k + 1))
      obtain ⟨q1, hq1⟩ : ∃ q1, q1 = sqIt p (k + 1) := ⟨_, rfl⟩
      rw [← hq1] at HT HS1
      have HQ := bx hq1
      clear hq1
      generalize sqIt p k = q at HB HS HT
      go_wp2_with (first
        | (refine ld_arr rfl 24 _ rfl (w.heap.size + 1) rfl _ _ _ _ HB.out Try.underlying24 (planes_info _ HS.out) ?_)
        | (go_at_call 15; refine (square_any q HS.out _).mono ?_; rintro e w2 ⟨rfl, hb2⟩
           rw [HT.out]
           have HB2 := bx (HB.out.below hb2 hlt1)
           have HR2 := bx (HR.out.below hb2 hlt2)
           have HL2 := bx (HL.out.trans (hb2.mono HL.out.size))
           clear hb2)
        | (refine st_arr rfl 24 _ _ rfl (w.heap.size + 1) (q1.map W64) rfl rfl _ _ HB2.out (planes_info _ HS1.out) (by rw [List.length_map, List.length_map, HS.out, HS1.out]) (w64_one _) ?_; intro w3 hb3 hp3
           have HB3 := bx hb3
           have HR3 := bx (hp3.blk HR2.out (by omega))
           have HL3 := bx (hp3.bel HL2.out (by omega))
           clear hb3 hp3))
      go_roundw
      case rel => exact ⟨k + 1, by omega, by go_num, by rw [← HQ.out]; exact HB3.out, HR3.out, HL3.out⟩
      case measure => simp [intOf]; omega
    · obtain rfl : k = 8 := by omega
      have HE := bx (sqIt_all p HP.out)
      rw [HE.out] at HB
      clear hlt
      go_wp2_with (first
        | (go_at_call 9; refine (known03 _).mono ?_; rintro e w2 ⟨rfl, hb2⟩
           have HB2 := bx (HB.out.below hb2 hlt1)
           have HR2 := bx (HR.out.below hb2 hlt2)
           have HL2 := bx (HL.out.trans (hb2.mono HL.out.size))
           clear hb2)
        | (refine ld_arr rfl 24 _ rfl (w.heap.size + 1) rfl _ _ _ _ HB2.out Try.underlying24 (planes_info _ HP.out) ?_)
        | (refine ld_arr rfl 24 _ rfl (w.heap.size) rfl _ _ _ _ HR2.out Try.underlying24 (planes_info _ HP.out) ?_))
      go_ret
      exact ⟨rfl, HL2.out⟩
end Go.Proofs.Ytcbkdlhmemibpaa

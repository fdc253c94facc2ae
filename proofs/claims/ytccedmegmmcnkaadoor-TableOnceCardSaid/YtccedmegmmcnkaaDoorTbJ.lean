/- The walks of layer 2, ten: Exp and Log by definition. -/
import Derived.Test.YtccedmegmmcnkaaDoorTbI
namespace Go.Proofs.YtccedmegmmcnkaaDoor
open Go.RowKit Go.Shelf Gf Bt

theorem powZ_two (n : Int) : powZ 2 n = tex n := by
  unfold powZ tex
  rw [if_neg (fun h => two_ne h.1)]
theorem ref2_exp (n : Int) (w : World) : Calls Tryd.prog 18 #[.int .i64 n] w fun e w' => e = .returned (B8 (tex n)) ∧ w' = w := by
  have HP := bx (ref_pow 2 n w)
  rw [powZ_two] at HP
  go_enter Tryd.func18, Tryd.ntmps18
  go_wp2_with (go_at_call 20; refine HP.out.mono ?_; rintro e w' ⟨rfl, hw'⟩; have hw' := hw'.symm; subst hw')
  go_ret
  exact ⟨rfl, rfl⟩
set_option maxRecDepth 100000 in
theorem ref2_log_zero (w : World) : Calls Tryd.prog 16 #[B8 0] w fun e w' => e = .returned (.tuple #[.int .i64 0, .bool false]) ∧ w' = w := by
  go_enter Tryd.func16, Tryd.ntmps16
  go_wp2
  go_loop [4, 5] (fun x i => ∃ k : Nat, k ≤ 255 ∧ i = .int .i64 k ∧ x = B8 (gpow 2 k)) (fun _ i => 255 - (intOf i).toNat)
  case atStart => exact ⟨0, by omega, rfl, rfl⟩
  case round =>
    obtain ⟨k, hk, rfl, rfl⟩ := hrel
    have hk0 : (0 : Int) ≤ (k : Int) := Int.natCast_nonneg _
    by_cases hlt : k < 255
    · have hkz : (k : Int) < 255 := Int.ofNat_lt.2 hlt
      obtain ⟨m, hm⟩ : ∃ m, gpow 2 k = m := ⟨_, rfl⟩
      have hm0 : m ≠ 0 := by rw [← hm]; exact gpow_ne_zero two_ne k
      have h1 := u8_ne hm0
      have h2 := u8_ne_nat hm0
      have HM := bx (show Calls Tryd.prog 17 #[B8 m, .int .u8 2] w fun e w' => e = .returned (B8 (gmul m 2)) ∧ w' = w from ref_mul m 2 w)
      have HX := bx (show gpow 2 (k + 1) = gmul m 2 by rw [← hm]; rfl)
      rw [hm]
      clear hm hm0
      go_wp2_with (go_at_call 17; refine HM.out.mono ?_; rintro e w' ⟨rfl, hw'⟩; have hw' := hw'.symm; subst hw')
      go_round
      case rel => exact ⟨k + 1, hlt, by go_num, by rw [HX.out]⟩
      case measure => simp [intOf]; omega
    · obtain rfl : k = 255 := by omega
      go_wp2
      go_ret2
      exact ⟨rfl, rfl⟩
set_option maxRecDepth 100000 in
theorem ref2_log_ne (a : UInt8) (ha : a ≠ 0) (w : World) : Calls Tryd.prog 16 #[B8 a] w fun e w' => e = .returned (.tuple #[.int .i64 (tlog a), .bool true]) ∧ w' = w := by
  have ht := tlog_lt a
  have htp := tlog_pow ha
  obtain ⟨t, htt⟩ : ∃ t, tlog a = t := ⟨_, rfl⟩
  rw [htt] at ht htp ⊢
  have HTP := bx htp
  clear htt htp ha
  go_enter Tryd.func16, Tryd.ntmps16
  go_wp2
  go_loop [4, 5] (fun x i => ∃ k : Nat, k ≤ t ∧ i = .int .i64 k ∧ x = B8 (gpow 2 k)) (fun _ i => 255 - (intOf i).toNat)
  case atStart => exact ⟨0, by omega, rfl, rfl⟩
  case round =>
    obtain ⟨k, hk, rfl, rfl⟩ := hrel
    have hk0 : (0 : Int) ≤ (k : Int) := Int.natCast_nonneg _
    have hlt : k < 255 := by omega
    have hkz : (k : Int) < 255 := Int.ofNat_lt.2 hlt
    by_cases hkv : k = t
    · subst hkv
      rw [HTP.out]
      go_wp2
      go_ret2
      exact ⟨rfl, rfl⟩
    · obtain ⟨m, hm⟩ : ∃ m, gpow 2 k = m := ⟨_, rfl⟩
      have hma : m ≠ a := fun e => hkv (gpow_two_inj hlt ht (by rw [hm, HTP.out, e]))
      have h1 : ¬ (m.toNat : Int) = (a.toNat : Int) := fun e => hma (u8_ext (Int.ofNat_inj.1 e))
      have h2 : ¬ m.toNat = a.toNat := fun e => hma (u8_ext e)
      have HM := bx (show Calls Tryd.prog 17 #[B8 m, .int .u8 2] w fun e w' => e = .returned (B8 (gmul m 2)) ∧ w' = w from ref_mul m 2 w)
      have HX := bx (show gpow 2 (k + 1) = gmul m 2 by rw [← hm]; rfl)
      rw [hm]
      clear hm hma
      go_wp2_with (go_at_call 17; refine HM.out.mono ?_; rintro e w' ⟨rfl, hw'⟩; have hw' := hw'.symm; subst hw')
      go_round
      case rel => exact ⟨k + 1, by omega, by go_num, by rw [HX.out]⟩
      case measure => simp [intOf]; omega
theorem ref2_log (a : UInt8) (w : World) : Calls Tryd.prog 16 #[B8 a] w fun e w' => e = .returned (.tuple #[.int .i64 (tlog a), .bool (decide (a ≠ 0))]) ∧ w' = w := by
  by_cases ha : a = 0
  · subst ha
    exact ref2_log_zero w
  · rw [show decide (a ≠ 0) = true by simp [ha]]
    exact ref2_log_ne a ha w
end Go.Proofs.YtccedmegmmcnkaaDoor

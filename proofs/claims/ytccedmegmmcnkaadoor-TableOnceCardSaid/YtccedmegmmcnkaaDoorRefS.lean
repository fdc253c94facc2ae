/- The walks of erratumref01: products (layer 1's seat). -/
import Derived.Test.YtccedmegmmcnkaaDoorKit
namespace Go.Proofs.YtccedmegmmcnkaaDoor
open Go.RowKit Gf Bt

theorem mod_bit (x : Nat) (k : Nat) : (((x : Int) / 2 ^ k).tmod 2 == 1) = x.testBit k := by
  have e : ((x : Int) / 2 ^ k).tmod 2 = ((x / 2 ^ k % 2 : Nat) : Int) := by
    rw [Int.tmod_eq_emod_of_nonneg (show (0 : Int) ≤ (x : Int) / 2 ^ k from (show ((x : Int) / 2 ^ k) = ((x / 2 ^ k : Nat) : Int) by simp) ▸ Int.natCast_nonneg _)]
    simp
  rw [e, Nat.testBit_eq_decide_div_mod_eq]
  rcases Nat.mod_two_eq_zero_or_one (x / 2 ^ k) with h | h <;> rw [h] <;> rfl
theorem bits_u16_xor (a b : Nat) (ha : a < 65536) (hb : b < 65536) : bits .xor .u16 (a : Int) b = ((a ^^^ b : Nat) : Int) := by
  simp only [bits]
  rw [BitVec.toNat_xor, ofInt_nat IntKind.u16.bits a ha, ofInt_nat IntKind.u16.bits b hb]
  exact wrap_u16_nat (Nat.xor_lt_two_pow (n := 16) ha hb)
theorem wideTo_lt16 (a b : Nat) (ha : a < 256) (k : Nat) (hk : k ≤ 8) : wideTo a b k < 65536 := by
  rcases wideTo_lt (b := b) ha k hk with h | h
  · exact Nat.lt_of_lt_of_le h (show 2 ^ (7 + k) ≤ 2 ^ 16 from Nat.pow_le_pow_right (by decide) (by omega))
  · subst h; exact (by decide : (0 : Nat) < 65536)
theorem wide_cell (a b k : Nat) (ha : a < 256) (hk : k < 8) (hb : b.testBit k = true) :
    bits .xor .u16 ((wideTo a b k : Nat) : Int) (IntKind.u16.wrap ((a : Int) * 2 ^ k)) = ((wideTo a b (k + 1) : Nat) : Int) := by
  have h1 : a * 2 ^ k < 65536 := by
    have : 2 ^ k ≤ 2 ^ 7 := Nat.pow_le_pow_right (by decide) (by omega)
    calc a * 2 ^ k ≤ a * 128 := Nat.mul_le_mul_left _ this
      _ < 65536 := by omega
  rw [show ((a : Int) * 2 ^ k) = ((a * 2 ^ k : Nat) : Int) by simp, wrap_u16_nat h1, bits_u16_xor _ _ (wideTo_lt16 a b ha k (by omega)) h1, wideTo, wstep, if_pos hb, Nat.shiftLeft_eq]
theorem wide_skip (a b k : Nat) (hb : b.testBit k = false) : wideTo a b k = wideTo a b (k + 1) := by rw [wideTo, wstep, if_neg (by rw [hb]; simp)]
set_option maxHeartbeats 400000 in
theorem ref_wide (a b : UInt8) (w : World) :
    Calls Tryd.prog 25 #[B8 a, B8 b] w fun e w' => e = .returned (.int .u16 (wideN a.toNat b.toNat : Nat)) ∧ w' = w := by
  go_enter Tryd.func25, Tryd.ntmps25
  have ha := a.toNat_lt
  go_wp2
  go_loop [5, 6] (fun x i => ∃ k : Nat, k ≤ 8 ∧ i = .int .i64 k ∧ x = .int .u16 (wideTo a.toNat b.toNat k : Nat)) (fun _ i => 8 - (intOf i).toNat)
  case atStart => exact ⟨0, by omega, rfl, rfl⟩
  case round =>
    obtain ⟨k, hk, rfl, rfl⟩ := hrel
    by_cases hlt : k < 8
    · have hk0 : (0 : Int) ≤ (k : Int) := Int.natCast_nonneg _
      have hbit := mod_bit b.toNat k
      have HC := Lib.hid (wide_cell a.toNat b.toNat k ha hlt)
      have HN := Lib.hid (wide_skip a.toNat b.toNat k)
      go_wp2
      · go_round
        case rel => exact ⟨k + 1, by omega, by go_num, by rw [HC.out (by assumption)]⟩
        case measure => simp [intOf]; omega
      · go_round
        case rel => exact ⟨k + 1, by omega, by go_num, by rw [← HN.out (by assumption)]⟩
        case measure => simp [intOf]; omega
    · obtain rfl : k = 8 := by omega
      go_wp2
      go_ret
      exact ⟨rfl, rfl⟩

theorem redTo_lt16 {w : Nat} (h : w < 65536) (j : Nat) (hj : j ≤ 8) : redTo w j < 65536 :=
  Nat.lt_of_lt_of_le (redTo_lt h j hj) (show 2 ^ (16 - j) ≤ 2 ^ 16 from Nat.pow_le_pow_right (by decide) (by omega))
theorem red_cell (v j k : Nat) (hv : v < 65536) (hj : k + 8 + j = 15) (hb : (redTo v j).testBit (k + 8) = true) :
    bits .xor .u16 ((redTo v j : Nat) : Int) (IntKind.u16.wrap (285 * 2 ^ k)) = ((redTo v (j + 1) : Nat) : Int) := by
  have h1 : 285 * 2 ^ k < 65536 := by
    have : 2 ^ k ≤ 2 ^ 7 := Nat.pow_le_pow_right (by decide) (by omega)
    omega
  rw [show ((285 : Int) * 2 ^ k) = ((285 * 2 ^ k : Nat) : Int) by simp, wrap_u16_nat h1, bits_u16_xor _ _ (redTo_lt16 hv j (by omega)) h1, redTo, rstep,
    show 15 - j = k + 8 by omega, if_pos hb, Nat.shiftLeft_eq, show k + 8 - 8 = k by omega]
theorem red_skip (v j k : Nat) (hj : k + 8 + j = 15) (hb : (redTo v j).testBit (k + 8) = false) : redTo v j = redTo v (j + 1) := by
  rw [redTo, rstep, show 15 - j = k + 8 by omega, if_neg (by rw [hb]; simp)]
set_option maxHeartbeats 400000 in
theorem ref_reduce (v : Nat) (hv : v < 65536) (w : World) :
    Calls Tryd.prog 24 #[.int .u16 (v : Int)] w fun e w' => e = .returned (.int .u8 (redN v : Nat)) ∧ w' = w := by
  go_enter Tryd.func24, Tryd.ntmps24
  go_wp2
  go_loop [0, 3] (fun x i => ∃ j m : Nat, m + j = 15 ∧ j ≤ 8 ∧ i = .int .i64 m ∧ x = .int .u16 (redTo v j : Nat)) (fun _ i => (intOf i).toNat)
  case atStart => exact ⟨0, 15, by omega, by omega, rfl, rfl⟩
  case round =>
    obtain ⟨j, m, hmj, hj, rfl, rfl⟩ := hrel
    have HM := Lib.hid hmj
    by_cases hlt : 8 ≤ m
    · obtain ⟨k, rfl⟩ : ∃ k, m = k + 8 := ⟨m - 8, by omega⟩
      have hk0 : (0 : Int) ≤ (k : Int) := Int.natCast_nonneg _
      have hk7 : (k : Int) ≤ 7 := by omega
      have hbit := mod_bit (redTo v j) (k + 8)
      have HC := Lib.hid (red_cell v j k hv (by omega))
      have HN := Lib.hid (red_skip v j k (by omega))
      clear hmj
      go_wp2
      · go_round
        case rel => exact ⟨j + 1, k + 7, by have := HM.out; omega, by have := HM.out; omega, by go_num, by rw [HC.out (by assumption)]⟩
        case measure => simp [intOf]; omega
      · go_round
        case rel => exact ⟨j + 1, k + 7, by have := HM.out; omega, by have := HM.out; omega, by go_num, by rw [← HN.out (by assumption)]⟩
        case measure => simp [intOf]; omega
    · obtain rfl : m = 7 := by omega
      obtain rfl : j = 8 := by omega
      have h256 : redN v < 256 := redN_lt hv
      have HE := Lib.hid (show redTo v 8 = redN v from rfl)
      obtain ⟨r, hr⟩ : ∃ r, redN v = r := ⟨_, rfl⟩
      rw [hr] at h256
      rw [HE.out, hr]
      have HR := Lib.hid hr
      clear hr
      go_wp2
      go_ret
      exact ⟨ret_int (by rw [HR.out]), rfl⟩
theorem ref_mul (a b : UInt8) (w : World) :
    Calls Tryd.prog 17 #[B8 a, B8 b] w fun e w' => e = .returned (B8 (gmul a b)) ∧ w' = w := by
  go_enter Tryd.func17, Tryd.ntmps17
  go_wp2_with (first
    | (go_at_call 25; refine (ref_wide a b _).mono ?_; rintro e w' ⟨rfl, rfl⟩)
    | (go_at_call 24; refine (ref_reduce _ (Nat.lt_trans (wideN_lt a.toNat_lt) (by decide)) _).mono ?_; rintro e w' ⟨rfl, rfl⟩))
  go_ret
  exact ⟨ret_int (by rw [gmul_toNat]; rfl), rfl⟩

theorem b8_inj {a b : UInt8} : ((a.toNat : Int) == (b.toNat : Int)) = (a == b) := by
  rw [Bool.eq_iff_iff]; simp only [beq_iff_eq]
  exact ⟨fun h => u8_ext (by omega), fun h => by rw [h]⟩
end Go.Proofs.YtccedmegmmcnkaaDoor

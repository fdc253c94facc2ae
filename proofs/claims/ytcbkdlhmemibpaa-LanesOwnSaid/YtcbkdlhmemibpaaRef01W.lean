/- The walks of erratumref01: products, lists that are the same. -/
import Derived.Test.YtcbkdlhmemibpaaKit
namespace Go.Proofs.Ytcbkdlhmemibpaa
open Go.RowKit Gf Bt

theorem mod_bit (x : Nat) (k : Nat) : (((x : Int) / 2 ^ k).tmod 2 == 1) = x.testBit k := by
  have e : ((x : Int) / 2 ^ k).tmod 2 = ((x / 2 ^ k % 2 : Nat) : Int) := by
    rw [Int.tmod_eq_emod_of_nonneg (show (0 : Int) ≤ (x : Int) / 2 ^ k from (show ((x : Int) / 2 ^ k) = ((x / 2 ^ k : Nat) : Int) by simp) ▸ Int.natCast_nonneg _)]
    simp
  rw [e, Nat.testBit_eq_decide_div_mod_eq]
  rcases Nat.mod_two_eq_zero_or_one (x / 2 ^ k) with h | h <;> rw [h] <;> rfl
theorem bits_u16_xor (a b : Nat) (ha : a < 65536) (hb : b < 65536) : bits .xor .u16 (a : Int) b = ((a ^^^ b : Nat) : Int) := by
  simp only [bits]
  rw [BitVec.toNat_xor, ofInt_nat IntKind.u16.bits a ha, ofInt_nat IntKind.u16.bits b hb]
  exact wrap_u16_nat (Nat.xor_lt_two_pow (n := 16) ha hb)
theorem wideTo_lt16 (a b : Nat) (ha : a < 256) (k : Nat) (hk : k ≤ 8) : wideTo a b k < 65536 := by
  rcases wideTo_lt (b := b) ha k hk with h | h
  · exact Nat.lt_of_lt_of_le h (show 2 ^ (7 + k) ≤ 2 ^ 16 from Nat.pow_le_pow_right (by decide) (by omega))
  · subst h; exact (by decide : (0 : Nat) < 65536)
theorem wide_cell (a b k : Nat) (ha : a < 256) (hk : k < 8) (hb : b.testBit k = true) :
    bits .xor .u16 ((wideTo a b k : Nat) : Int) (IntKind.u16.wrap ((a : Int) * 2 ^ k)) = ((wideTo a b (k + 1) : Nat) : Int) := by
  have h1 : a * 2 ^ k < 65536 := by
    have : 2 ^ k ≤ 2 ^ 7 := Nat.pow_le_pow_right (by decide) (by omega)
    calc a * 2 ^ k ≤ a * 128 := Nat.mul_le_mul_left _ this
      _ < 65536 := by omega
  rw [show ((a : Int) * 2 ^ k) = ((a * 2 ^ k : Nat) : Int) by simp, wrap_u16_nat h1, bits_u16_xor _ _ (wideTo_lt16 a b ha k (by omega)) h1, wideTo, wstep, if_pos hb, Nat.shiftLeft_eq]
theorem wide_skip (a b k : Nat) (hb : b.testBit k = false) : wideTo a b k = wideTo a b (k + 1) := by rw [wideTo, wstep, if_neg (by rw [hb]; simp)]
set_option maxHeartbeats 400000 in
theorem ref_wide (a b : UInt8) (w : World) :
    Calls Try.prog 22 #[B8 a, B8 b] w fun e w' => e = .returned (.int .u16 (wideN a.toNat b.toNat : Nat)) ∧ w' = w := by
  go_enter Try.func22, Try.ntmps22
  have ha := a.toNat_lt
  go_wp2
  go_loop [5, 6] (fun x i => ∃ k : Nat, k ≤ 8 ∧ i = .int .i64 k ∧ x = .int .u16 (wideTo a.toNat b.toNat k : Nat)) (fun _ i => 8 - (intOf i).toNat)
  case atStart => exact ⟨0, by omega, rfl, rfl⟩
  case round =>
    obtain ⟨k, hk, rfl, rfl⟩ := hrel
    by_cases hlt : k < 8
    · have hk0 : (0 : Int) ≤ (k : Int) := Int.natCast_nonneg _
      have hbit := mod_bit b.toNat k
      have HC := Lib.hid (wide_cell a.toNat b.toNat k ha hlt)
      have HN := Lib.hid (wide_skip a.toNat b.toNat k)
      go_wp2
      · go_round
        case rel => exact ⟨k + 1, by omega, by go_num, by rw [HC.out (by assumption)]⟩
        case measure => simp [intOf]; omega
      · go_round
        case rel => exact ⟨k + 1, by omega, by go_num, by rw [← HN.out (by assumption)]⟩
        case measure => simp [intOf]; omega
    · obtain rfl : k = 8 := by omega
      go_wp2
      go_ret
      exact ⟨rfl, rfl⟩

theorem redTo_lt16 {w : Nat} (h : w < 65536) (j : Nat) (hj : j ≤ 8) : redTo w j < 65536 :=
  Nat.lt_of_lt_of_le (redTo_lt h j hj) (show 2 ^ (16 - j) ≤ 2 ^ 16 from Nat.pow_le_pow_right (by decide) (by omega))
theorem red_cell (v j k : Nat) (hv : v < 65536) (hj : k + 8 + j = 15) (hb : (redTo v j).testBit (k + 8) = true) :
    bits .xor .u16 ((redTo v j : Nat) : Int) (IntKind.u16.wrap (285 * 2 ^ k)) = ((redTo v (j + 1) : Nat) : Int) := by
  have h1 : 285 * 2 ^ k < 65536 := by
    have : 2 ^ k ≤ 2 ^ 7 := Nat.pow_le_pow_right (by decide) (by omega)
    omega
  rw [show ((285 : Int) * 2 ^ k) = ((285 * 2 ^ k : Nat) : Int) by simp, wrap_u16_nat h1, bits_u16_xor _ _ (redTo_lt16 hv j (by omega)) h1, redTo, rstep,
    show 15 - j = k + 8 by omega, if_pos hb, Nat.shiftLeft_eq, show k + 8 - 8 = k by omega]
theorem red_skip (v j k : Nat) (hj : k + 8 + j = 15) (hb : (redTo v j).testBit (k + 8) = false) : redTo v j = redTo v (j + 1) := by
  rw [redTo, rstep, show 15 - j = k + 8 by omega, if_neg (by rw [hb]; simp)]
set_option maxHeartbeats 400000 in
theorem ref_reduce (v : Nat) (hv : v < 65536) (w : World) :
    Calls Try.prog 21 #[.int .u16 (v : Int)] w fun e w' => e = .returned (.int .u8 (redN v : Nat)) ∧ w' = w := by
  go_enter Try.func21, Try.ntmps21
  go_wp2
  go_loop [0, 3] (fun x i => ∃ j m : Nat, m + j = 15 ∧ j ≤ 8 ∧ i = .int .i64 m ∧ x = .int .u16 (redTo v j : Nat)) (fun _ i => (intOf i).toNat)
  case atStart => exact ⟨0, 15, by omega, by omega, rfl, rfl⟩
  case round =>
    obtain ⟨j, m, hmj, hj, rfl, rfl⟩ := hrel
    have HM := Lib.hid hmj
    by_cases hlt : 8 ≤ m
    · obtain ⟨k, rfl⟩ : ∃ k, m = k + 8 := ⟨m - 8, by omega⟩
      have hk0 : (0 : Int) ≤ (k : Int) := Int.natCast_nonneg _
      have hk7 : (k : Int) ≤ 7 := by omega
      have hbit := mod_bit (redTo v j) (k + 8)
      have HC := Lib.hid (red_cell v j k hv (by omega))
      have HN := Lib.hid (red_skip v j k (by omega))
      clear hmj
      go_wp2
      · go_round
        case rel => exact ⟨j + 1, k + 7, by have := HM.out; omega, by have := HM.out; omega, by go_num, by rw [HC.out (by assumption)]⟩
        case measure => simp [intOf]; omega
      · go_round
        case rel => exact ⟨j + 1, k + 7, by have := HM.out; omega, by have := HM.out; omega, by go_num, by rw [← HN.out (by assumption)]⟩
        case measure => simp [intOf]; omega
    · obtain rfl : m = 7 := by omega
      obtain rfl : j = 8 := by omega
      have h256 : redN v < 256 := redN_lt hv
      have HE := Lib.hid (show redTo v 8 = redN v from rfl)
      obtain ⟨r, hr⟩ : ∃ r, redN v = r := ⟨_, rfl⟩
      rw [hr] at h256
      rw [HE.out, hr]
      have HR := Lib.hid hr
      clear hr
      go_wp2
      go_ret
      exact ⟨ret_int (by rw [HR.out]), rfl⟩
theorem ref_mul (a b : UInt8) (w : World) :
    Calls Try.prog 14 #[B8 a, B8 b] w fun e w' => e = .returned (B8 (gmul a b)) ∧ w' = w := by
  go_enter Try.func14, Try.ntmps14
  go_wp2_with (first
    | (go_at_call 22; refine (ref_wide a b _).mono ?_; rintro e w' ⟨rfl, rfl⟩)
    | (go_at_call 21; refine (ref_reduce _ (Nat.lt_trans (wideN_lt a.toNat_lt) (by decide)) _).mono ?_; rintro e w' ⟨rfl, rfl⟩))
  go_ret
  exact ⟨ret_int (by rw [gmul_toNat]; rfl), rfl⟩

theorem b8_inj {a b : UInt8} : ((a.toNat : Int) == (b.toNat : Int)) = (a == b) := by
  rw [Bool.eq_iff_iff]; simp only [beq_iff_eq]
  exact ⟨fun h => u8_ext (by omega), fun h => by rw [h]⟩
theorem take_succ_beq (xs ys : List UInt8) (k : Nat) (x y : UInt8) (hx : xs[k]? = some x) (hy : ys[k]? = some y) (h : xs.take k = ys.take k) (hxy : x = y) : xs.take (k + 1) = ys.take (k + 1) := by
  rw [List.take_add_one, List.take_add_one, h, hx, hy, hxy]
set_option maxHeartbeats 400000 in
theorem same_any (A A' : Option Addr) (xs ys : List UInt8) (c c' : Nat) (w : World) (h1 : Rd w w.heap.size A (xs.map B8)) (h2 : Rd w w.heap.size A' (ys.map B8)) (hm : xs.length ≤ 9223372036854775807) :
    Calls Try.prog 23 #[.slice A xs.length c, .slice A' ys.length c'] w fun e w' => e = .returned (.bool (decide (xs = ys))) ∧ Below w.heap.size w w' := by
  by_cases hl : xs.length = ys.length
  · have hll : ((xs.length : Int) == (ys.length : Int)) = true := by rw [hl]; simp
    go_enter Try.func23, Try.ntmps23
    have HL := Lib.hid hl
    clear hl
    go_wp2
    go_loopw [5] (fun i wr => ∃ k : Nat, k ≤ xs.length ∧ i = .int .i64 k ∧ xs.take k = ys.take k ∧ Below w.heap.size w wr) (fun i _ => xs.length - (intOf i).toNat)
    case atStart => exact ⟨0, by omega, rfl, by simp, Below.refl _ _⟩
    case round =>
      obtain ⟨k, hk, rfl, htk, hbel⟩ := hrel
      have HT := Lib.hid htk
      have HB := Lib.hid hbel
      clear htk hbel
      by_cases hlt : k < xs.length
      · have hk0 : (0 : Int) ≤ (k : Int) := Int.natCast_nonneg _
        have hk1 : (k : Int) < (xs.length : Int) := by omega
        have hk2 : (k : Int) < (ys.length : Int) := by have := HL.out; omega
        obtain ⟨x, hx⟩ : ∃ x : UInt8, xs[k]? = some x := ⟨_, List.getElem?_eq_getElem hlt⟩
        obtain ⟨y, hy⟩ : ∃ y : UInt8, ys[k]? = some y := ⟨_, List.getElem?_eq_getElem (by have := HL.out; omega)⟩
        obtain ⟨ad, rfl, hab, hc⟩ := h1 (by simp; omega)
        obtain ⟨ad', rfl, hab', hc'⟩ := h2 (by simp; have := HL.out; omega)
        have hcx : ∀ n, (wr.drewN n).cell? (ad.add k) = some (.int .u8 x.toNat) := fun n => by
          show wr.cell? _ = _
          rw [HB.out.cell (by rw [block_of_add]; exact hab)]; exact hc k _ (by simp [hx])
        have hcy : ∀ n, (wr.drewN n).cell? (ad'.add k) = some (.int .u8 y.toNat) := fun n => by
          show wr.cell? _ = _
          rw [HB.out.cell (by rw [block_of_add]; exact hab')]; exact hc' k _ (by simp [hy])
        have HX := Lib.hid hx
        have HY := Lib.hid hy
        clear hx hy hc hc'
        go_wp2
        go_quiet (fail)
        go_wp2
        · rename_i hne
          go_ret
          refine ⟨ret_bool ?_, bel_drewN HB.out nq⟩
          have h3 : ¬ xs = ys := fun h => by
            have h4 := HX.out; rw [h, HY.out] at h4
            rw [Option.some.inj h4] at hne; simp at hne
          simp [h3]
        · rename_i heq
          go_roundw
          case rel =>
            refine ⟨k + 1, by omega, by go_num, take_succ_beq xs ys k x y HX.out HY.out HT.out (u8_ext ?_), bel_drewN HB.out nq⟩
            have h3 : ((x.toNat : Int) == (y.toNat : Int)) = true := by simpa [bne] using heq
            have := beq_iff_eq.1 h3
            omega
          case measure => simp [intOf]; omega
      · obtain rfl : k = xs.length := by omega
        clear h1 h2
        go_wp2
        go_ret
        exact ⟨ret_bool (by
          have h := HT.out
          rw [List.take_of_length_le (Nat.le_refl _), List.take_of_length_le (by have := HL.out; omega)] at h
          simp [h]), HB.out⟩
  · have hll : ((xs.length : Int) == (ys.length : Int)) = false := by
      rw [beq_eq_false_iff_ne]; omega
    have hne : decide (xs = ys) = false := by
      rw [decide_eq_false_iff_not]; intro h; exact hl (by rw [h])
    have HN := Lib.hid hne
    clear hne hl
    go_enter Try.func23, Try.ntmps23
    go_wp2
    go_ret
    exact ⟨by rw [HN.out]; rfl, Below.refl _ _⟩
end Go.Proofs.Ytcbkdlhmemibpaa

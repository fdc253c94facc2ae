/- The walks of layer 1 in the seat of layer 2: Inv and Pow by definition. -/
import Derived.Test.YtccedmegmmcnkaaDoorTbH
namespace Go.Proofs.YtccedmegmmcnkaaDoor
open Go.RowKit Go.Shelf Gf Bt

theorem ref_inv_zero (w : World) : Calls Tryd.prog 15 #[B8 0] w fun e w' => e = .returned (.tuple #[B8 0, .bool false]) ∧ w' = w := by
  go_enter Tryd.func15, Tryd.ntmps15
  go_wp2
  go_loop [4] (fun i => ∃ k : Nat, k ≤ 256 ∧ i = .int .i64 k) (fun i => 256 - (intOf i).toNat)
  case atStart => exact ⟨0, by omega, rfl⟩
  case round =>
    obtain ⟨k, hk, rfl⟩ := hrel
    have hk0 : (0 : Int) ≤ (k : Int) := Int.natCast_nonneg _
    by_cases hlt : k < 256
    · have hkz : (k : Int) < 256 := Int.ofNat_lt.2 hlt
      have hkm : (k : Int) % 256 = (k : Int) := Int.emod_eq_of_lt hk0 hkz
      have HM := bx (show ∀ w, Calls Tryd.prog 17 #[B8 0, .int .u8 (k : Int)] w fun e w' => e = .returned (.int .u8 0) ∧ w' = w from fun w => by
        have h := ref_mul 0 (UInt8.ofNat k) w
        rw [show B8 (UInt8.ofNat k) = .int .u8 (k : Int) by rw [B8, UInt8.toNat_ofNat', Nat.mod_eq_of_lt hlt]] at h
        rw [zero_gmul] at h
        exact h)
      go_wp2_with (go_at_call 17; refine (HM.out w).mono ?_; rintro e w' ⟨rfl, hw'⟩; have hw' := hw'.symm; subst hw')
      go_round
      case rel => exact ⟨k + 1, hlt, by go_num⟩
      case measure => simp [intOf]; omega
    · obtain rfl : k = 256 := by omega
      go_wp2
      go_ret2
      exact ⟨rfl, rfl⟩
set_option maxRecDepth 100000 in
theorem ref_inv_one (a iv : UInt8) (hmul : gmul a iv = 1) (huniq : ∀ x, gmul a x = 1 → x = iv) (w : World) : Calls Tryd.prog 15 #[B8 a] w fun e w' => e = .returned (.tuple #[B8 iv, .bool true]) ∧ w' = w := by
  have hi := iv.toNat_lt
  obtain ⟨v, hv⟩ : ∃ v, iv.toNat = v := ⟨_, rfl⟩
  have HV := bx hv
  rw [hv] at hi
  have HMU := bx hmul
  have HUN := bx huniq
  go_enter Tryd.func15, Tryd.ntmps15
  clear hv hmul huniq
  go_wp2
  go_loop [4] (fun i => ∃ k : Nat, k ≤ v ∧ i = .int .i64 k) (fun i => 256 - (intOf i).toNat)
  case atStart => exact ⟨0, by omega, rfl⟩
  case round =>
    obtain ⟨k, hk, rfl⟩ := hrel
    have hk0 : (0 : Int) ≤ (k : Int) := Int.natCast_nonneg _
    have hlt : k < 256 := by omega
    have hkz : (k : Int) < 256 := Int.ofNat_lt.2 hlt
    have hkm : (k : Int) % 256 = (k : Int) := Int.emod_eq_of_lt hk0 hkz
    obtain ⟨m, hm⟩ : ∃ m, gmul a (UInt8.ofNat k) = m := ⟨_, rfl⟩
    have HM := bx (show ∀ w, Calls Tryd.prog 17 #[B8 a, .int .u8 (k : Int)] w fun e w' => e = .returned (.int .u8 m.toNat) ∧ w' = w from fun w => by
      have h := ref_mul a (UInt8.ofNat k) w
      rw [show B8 (UInt8.ofNat k) = .int .u8 (k : Int) by rw [B8, UInt8.toNat_ofNat', Nat.mod_eq_of_lt hlt], hm] at h
      exact h)
    by_cases hkv : k = v
    · have hm1 : m = 1 := by
        rw [← hm, hkv, ← HV.out, UInt8.ofNat_toNat]; exact HMU.out
      subst hm1
      have HKV := bx hkv
      clear hm hk hkv
      go_wp2_with (go_at_call 17; refine (HM.out w).mono ?_; rintro e w' ⟨rfl, hw'⟩; have hw' := hw'.symm; subst hw')
      go_ret2
      exact ⟨by rw [show B8 iv = .int .u8 (v : Int) by rw [B8, HV.out]]; first | rfl | (rw [← HKV.out]; rfl), rfl⟩
    · have hm1 : m ≠ 1 := fun e => hkv (by
        have h := HUN.out _ (hm.trans e)
        rw [← HV.out, ← h, UInt8.toNat_ofNat', Nat.mod_eq_of_lt hlt])
      have h1 : ¬ m.toNat = 1 := fun e => hm1 (u8_ext (e.trans rfl))
      have h1z : ¬ (m.toNat : Int) = 1 := fun e => h1 (Int.ofNat_inj.1 e)
      clear hm hm1
      go_wp2_with (go_at_call 17; refine (HM.out w).mono ?_; rintro e w' ⟨rfl, hw'⟩; have hw' := hw'.symm; subst hw')
      go_round
      case rel => exact ⟨k + 1, by omega, by go_num⟩
      case measure => simp [intOf]; omega
theorem ref_inv (a : UInt8) (w : World) : Calls Tryd.prog 15 #[B8 a] w fun e w' => e = .returned (.tuple #[B8 (ginv a), .bool (decide (a ≠ 0))]) ∧ w' = w := by
  by_cases ha : a = 0
  · subst ha; rw [ginv_zero]; exact ref_inv_zero w
  · rw [show (decide (a ≠ 0)) = true from decide_eq_true ha]; exact ref_inv_one a (ginv a) (gmul_ginv a ha) (fun _ h => ginv_unique h) w
set_option maxRecDepth 100000 in
theorem ref_pow (a : UInt8) (n : Int) (w : World) : Calls Tryd.prog 20 #[B8 a, .int .i64 n] w fun e w' => e = .returned (B8 (powZ a n)) ∧ w' = w := by
  by_cases hn : n = 0
  · subst hn
    rw [show powZ a 0 = 1 from by unfold powZ; rw [if_neg (fun h => h.2 rfl)]; rfl]
    go_enter Tryd.func20, Tryd.ntmps20
    go_wp2
    go_ret
    exact ⟨rfl, rfl⟩
  · by_cases ha : a = 0
    · subst ha
      rw [show powZ 0 n = 0 from if_pos ⟨rfl, hn⟩]
      go_enter Tryd.func20, Tryd.ntmps20
      go_wp2
      go_ret
      exact ⟨rfl, rfl⟩
    · obtain ⟨t, ht, t1, t2, htn⟩ := tmod_cases n
      have h1 := u8_ne ha
      have h2 := u8_ne_nat ha
      have h3 : ∃ r : Nat, r < 255 ∧ powZ a n = gpow a r ∧ ((¬ t < 0 ∧ t = (r : Int)) ∨ (t < 0 ∧ t + 255 = (r : Int))) := by
        refine ⟨(n % 255).toNat, by omega, by unfold powZ; rw [if_neg (fun h => ha h.1)], ?_⟩
        rcases htn with ⟨h3, h4⟩ | ⟨h3, h4⟩
        · exact .inl ⟨by omega, by omega⟩
        · exact .inr ⟨h3, by omega⟩
      obtain ⟨r, hr, hpw, hcs⟩ := h3
      have HPW := bx hpw
      have hrz : (r : Int) < 255 := Int.ofNat_lt.2 hr
      have hr0 : (0 : Int) ≤ (r : Int) := Int.natCast_nonneg _
      have HCS := bx hcs
      clear htn ha hpw
      have hb1 : (n == 0) = false := beq_false_of_ne hn
      have hb2 : ((a.toNat : Int) == 0) = false := beq_false_of_ne h1
      have core : ∀ (wz : World), True := fun _ => trivial
      clear core
      rcases hcs with ⟨h5, h6⟩ | ⟨h5, h6⟩
      · rw [h6] at ht
        have h5' : ¬ (r : Int) < 0 := by omega
        clear t1 t2 h5 h6 HCS
        go_enter Tryd.func20, Tryd.ntmps20
        go_wp2
        go_loop [6, 7] (fun p i => ∃ k : Nat, k ≤ r ∧ i = .int .i64 k ∧ p = B8 (gpow a k)) (fun _ i => r - (intOf i).toNat)
        case atStart => exact ⟨0, Nat.zero_le _, rfl, rfl⟩
        case round =>
          obtain ⟨k, hk, rfl, rfl⟩ := hrel
          have hk0 : (0 : Int) ≤ (k : Int) := Int.natCast_nonneg _
          by_cases hlt : k < r
          · have hltz : (k : Int) < (r : Int) := Int.ofNat_lt.2 hlt
            go_wp2_with (go_at_call 17; refine (ref_mul (gpow a k) a w).mono ?_; rintro e w' ⟨rfl, hw'⟩; have hw' := hw'.symm; subst hw')
            go_round
            case rel => exact ⟨k + 1, hlt, by go_num, rfl⟩
            case measure => simp [intOf]; omega
          · obtain rfl : r = k := by omega
            go_wp2
            go_ret
            exact ⟨by rw [HPW.out]; rfl, rfl⟩
      · clear HCS
        go_enter Tryd.func20, Tryd.ntmps20
        go_wp2
        clear h5 h6 ht t1 t2
        go_loop [6, 7] (fun p i => ∃ k : Nat, k ≤ r ∧ i = .int .i64 k ∧ p = B8 (gpow a k)) (fun _ i => r - (intOf i).toNat)
        case atStart => exact ⟨0, Nat.zero_le _, rfl, rfl⟩
        case round =>
          obtain ⟨k, hk, rfl, rfl⟩ := hrel
          have hk0 : (0 : Int) ≤ (k : Int) := Int.natCast_nonneg _
          by_cases hlt : k < r
          · have hltz : (k : Int) < (r : Int) := Int.ofNat_lt.2 hlt
            go_wp2_with (go_at_call 17; refine (ref_mul (gpow a k) a w).mono ?_; rintro e w' ⟨rfl, hw'⟩; have hw' := hw'.symm; subst hw')
            go_round
            case rel => exact ⟨k + 1, hlt, by go_num, rfl⟩
            case measure => simp [intOf]; omega
          · obtain rfl : r = k := by omega
            go_wp2
            go_ret
            exact ⟨by rw [HPW.out]; rfl, rfl⟩
end Go.Proofs.YtccedmegmmcnkaaDoor

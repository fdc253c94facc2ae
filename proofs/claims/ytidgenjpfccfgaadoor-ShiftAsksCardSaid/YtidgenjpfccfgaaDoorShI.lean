/- The walks of layer 1, nine: Inv, Pow, and the chapter's own. -/
import Derived.Test.YtidgenjpfccfgaaDoorShH
namespace Go.Proofs.YtidgenjpfccfgaaDoor
open Go.RowKit Go.Shelf Gf Bt

theorem u8_ne {a : UInt8} (h : a ≠ 0) : ¬ (a.toNat : Int) = 0 := fun e => h (u8_ext ((Int.ofNat_eq_zero.1 e).trans rfl))
theorem u8_ne_nat {a : UInt8} (h : a ≠ 0) : ¬ a.toNat = 0 := fun e => h (u8_ext (by rw [e]; rfl))
theorem ginv_zero : ginv 0 = 0 := by decide +kernel
theorem inv_any (a : UInt8) (w : World) (hT : Tab w) : Calls Tryd.prog 9 #[B8 a] w fun e w' => e = .returned (.tuple #[B8 (ginv a), .bool (decide (a ≠ 0))]) ∧ Below w.heap.size w w' := by
  have HP := bx (callsIn_wide.1 (power_any a 254 (by decide) w hT))
  clear hT
  by_cases ha : a = 0
  · subst ha
    go_enter Tryd.func9, Tryd.ntmps9
    go_wp2
    go_ret2
    exact ⟨by rw [ginv_zero]; rfl, Below.refl _ _⟩
  · have h1 := u8_ne ha
    have h2 := u8_ne_nat ha
    have HA := bx ha
    rw [show (decide (a ≠ 0)) = true from decide_eq_true ha]
    clear ha
    go_enter Tryd.func9, Tryd.ntmps9
    go_wp2_with (go_at_call 20; refine HP.out.mono ?_; rintro e w1 ⟨rfl, hb1⟩; have HB1 := bx hb1; clear hb1)
    go_ret2
    exact ⟨rfl, HB1.out⟩
/-- A power: of 0 all but the first are 0. -/
def powZ (a : UInt8) (n : Int) : UInt8 := if a = 0 ∧ n ≠ 0 then 0 else gpow a (n % 255).toNat
theorem tmod_cases (n : Int) : ∃ t, n.tmod 255 = t ∧ -255 < t ∧ t < 255 ∧ ((0 ≤ t ∧ n % 255 = t) ∨ (t < 0 ∧ n % 255 = t + 255)) := by
  rcases Int.le_total 0 n with h | h
  · exact ⟨n % 255, Int.tmod_eq_emod_of_nonneg h, by omega, by omega, .inl ⟨by omega, rfl⟩⟩
  · obtain ⟨m, rfl⟩ : ∃ m : Int, n = -m := ⟨-n, by omega⟩
    refine ⟨-(m % 255), by rw [Int.neg_tmod, Int.tmod_eq_emod_of_nonneg (by omega)], by omega, by omega, ?_⟩
    omega
set_option maxRecDepth 100000 in
theorem pow_any (a : UInt8) (n : Int) (w : World) (hT : Tab w) : Calls Tryd.prog 18 #[B8 a, .int .i64 n] w fun e w' => e = .returned (B8 (powZ a n)) ∧ Below w.heap.size w w' := by
  obtain ⟨t, ht, t1, t2, htn⟩ := tmod_cases n
  by_cases ha : a = 0
  · subst ha
    by_cases hn : n = 0
    · subst hn
      have HP := bx (callsIn_wide.1 (power_any 0 0 (by decide) w hT))
      clear hT ht htn t1 t2
      rw [show powZ 0 0 = gpow 0 0 from by unfold powZ; rw [if_neg (fun h => h.2 rfl)]; rfl]
      go_enter Tryd.func18, Tryd.ntmps18
      go_wp2_with (go_at_call 20; refine HP.out.mono ?_; rintro e w1 ⟨rfl, hb1⟩; have HB1 := bx hb1; clear hb1)
      go_ret
      exact ⟨rfl, HB1.out⟩
    · rw [show powZ 0 n = 0 from if_pos ⟨rfl, hn⟩]
      clear hT ht htn t1 t2
      go_enter Tryd.func18, Tryd.ntmps18
      go_wp2
      go_ret
      exact ⟨rfl, Below.refl _ _⟩
  · have h1 := u8_ne ha
    have h2 := u8_ne_nat ha
    rcases htn with ⟨h3, h4⟩ | ⟨h3, h4⟩
    · obtain ⟨r, hr⟩ : ∃ r : Nat, t = (r : Int) := ⟨t.toNat, by omega⟩
      have hr2 : (r : Int) < 255 := by omega
      have hr0 : (0 : Int) ≤ (r : Int) := Int.natCast_nonneg _
      rw [hr] at ht h3 h4
      have h3' : ¬ (r : Int) < 0 := by omega
      clear t1 t2 h3 hr
      have HP := bx (callsIn_wide.1 (power_any a r (by omega) w hT))
      have HE := bx (show powZ a n = gpow a r by unfold powZ; rw [if_neg (fun h => ha h.1), h4, Int.toNat_natCast])
      clear hT h4 ha
      go_enter Tryd.func18, Tryd.ntmps18
      go_wp2_with (go_at_call 20; refine HP.out.mono ?_; rintro e w1 ⟨rfl, hb1⟩; have HB1 := bx hb1; clear hb1)
      go_ret
      exact ⟨by rw [HE.out]; rfl, HB1.out⟩
    · obtain ⟨r, hr⟩ : ∃ r : Nat, t + 255 = (r : Int) := ⟨(t + 255).toNat, by omega⟩
      have hr2 : (r : Int) < 255 := by omega
      have HP := bx (callsIn_wide.1 (power_any a r (by omega) w hT))
      have HE := bx (show powZ a n = gpow a r by unfold powZ; rw [if_neg (fun h => ha h.1), h4, hr, Int.toNat_natCast])
      have hr0 : (0 : Int) ≤ (r : Int) := Int.natCast_nonneg _
      clear hT h4 ha
      go_enter Tryd.func18, Tryd.ntmps18
      go_wp2_with (go_at_call 20; refine HP.out.mono ?_; rintro e w1 ⟨rfl, hb1⟩; have HB1 := bx hb1; clear hb1)
      go_ret
      exact ⟨by rw [HE.out]; rfl, HB1.out⟩
end Go.Proofs.YtidgenjpfccfgaaDoor

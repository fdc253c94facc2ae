/- The walks of layer 2, six: least, Exp. -/
import Derived.Test.YtccedmegmmcnkaaDoorTbE
namespace Go.Proofs.YtccedmegmmcnkaaDoor
open Go.RowKit Go.Shelf Gf Bt

theorem tmod_cases (n : Int) : ∃ t, n.tmod 255 = t ∧ -255 < t ∧ t < 255 ∧ ((0 ≤ t ∧ n % 255 = t) ∨ (t < 0 ∧ n % 255 = t + 255)) := by
  rcases Int.le_total 0 n with h | h
  · exact ⟨n % 255, Int.tmod_eq_emod_of_nonneg h, by omega, by omega, .inl ⟨by omega, rfl⟩⟩
  · obtain ⟨m, rfl⟩ : ∃ m : Int, n = -m := ⟨-n, by omega⟩
    refine ⟨-(m % 255), by rw [Int.neg_tmod, Int.tmod_eq_emod_of_nonneg (by omega)], by omega, by omega, ?_⟩
    omega
theorem mod_nat (n : Int) : ∃ r : Nat, n % 255 = (r : Int) ∧ r < 255 := ⟨(n % 255).toNat, by omega, by omega⟩
set_option maxRecDepth 100000 in
theorem least_any (n : Int) (w : World) : Calls Tryd.prog 22 #[.int .i64 n] w fun e w' => e = .returned (.int .i64 (n % 255)) ∧ w' = w := by
  obtain ⟨t, ht, t1, t2, htn⟩ := tmod_cases n
  rcases htn with ⟨h3, h4⟩ | ⟨h3, h4⟩
  · have HE := bx h4
    have h3' : ¬ t < 0 := by omega
    clear h4 h3
    go_enter Tryd.func22, Tryd.ntmps22
    go_wp2
    go_ret
    exact ⟨by rw [HE.out]; rfl, rfl⟩
  · have HE := bx h4
    clear h4
    go_enter Tryd.func22, Tryd.ntmps22
    go_wp2
    go_ret
    exact ⟨by rw [HE.out]; rfl, rfl⟩
theorem St.drew {b : Nat} {s : Bool} {w : World} (h : St b s w) : St b s w.drew := by cases s <;> exact h
/-- A power of 2. -/
def tex (n : Int) : UInt8 := gpow 2 (n % 255).toNat
set_option maxRecDepth 100000 in
set_option maxHeartbeats 1600000 in
theorem exp_any (b : Nat) (s : Bool) (n : Int) (w : World) (hT : Tab w) (h : St b s w) (hne : 1 ≠ b) :
    Calls Tryd.prog 10 #[.pointer (some ⟨b, 0, none⟩), .int .i64 n] w fun e w' => e = .returned (B8 (tex n)) ∧ St b true w' ∧ w.grownBy w' (some b) := by
  obtain ⟨r, hr, hr2⟩ := mod_nat n
  have HO := bx (of_any b s w.drew (hT.grown (grown_drew w (some b)) hne) h.drew hne)
  have HL := bx (fun w' => least_any n w')
  rw [hr] at HL
  have HC : Bx (∀ w2 : World, St b true w2 → w2.cell? ⟨b, 4 + r, none⟩ = some (B8 (tex n))) := bx (fun w2 h => by
    have := cell_exp h (show r < 510 by omega)
    rw [Nat.mod_eq_of_lt hr2] at this
    rw [this]; unfold tex; rw [hr]; rfl)
  have HG : Bx (w.grownBy w.drew (some b)) := bx (grown_drew w (some b))
  have hr3 : (r : Int) < 255 := by omega
  have hr4 : (0 : Int) ≤ (r : Int) := by omega
  generalize tex n = y at *
  clear hT h hne hr
  go_enter Tryd.func10, Tryd.ntmps10
  go_wp2_with fail
  go_region_with (first
    | (go_at_call 21; refine HO.out.mono ?_; rintro e w2 ⟨rfl, hw2⟩; have HW2 := bx hw2; have cc := HC.out w2 hw2.1; clear hw2)
    | (go_at_call 22; refine (HL.out _).mono ?_; rintro e w' ⟨rfl, hw'⟩; have hw' := hw'.symm; subst hw'))
  all_goals
    go_wp2_with fail
    go_ret
    exact ⟨rfl, HW2.out.1, HG.out.trans HW2.out.2⟩
end Go.Proofs.YtccedmegmmcnkaaDoor

/- shift.Mul, for layer 2's seat (as in ShG). -/
import Derived.Test.YtccedmegmmcnkaaDoorShF
import Derived.Maps.AppendAt
import Derived.OwnWalk
namespace Go.Proofs.YtccedmegmmcnkaaDoor
open Go.RowKit Go.Shelf Gf Bt

theorem gmul_nat (a b : UInt8) : ((redN (wideN a.toNat b.toNat) : Nat) : Int) = ((gmul a b).toNat : Nat) := by rw [gmul_toNat]; rfl
theorem mul_any (a b : UInt8) (w : World) (hT : Tab w) : Calls Tryd.prog 31 #[B8 a, B8 b] w fun e w' => e = .returned (B8 (gmul a b)) ∧ Below w.heap.size w w' := by
  have HW := bx (callsIn_wide.1 (wide_any a b w hT))
  have HR := bx (reduce_any (wideN a.toNat b.toNat) (Nat.lt_trans (wideN_lt a.toNat_lt) (by decide)))
  clear hT
  go_enter Tryd.func31, Tryd.ntmps31
  go_wp2_with (first
    | (go_at_call 38; refine HW.out.mono ?_; rintro e w1 ⟨rfl, hb1⟩; have HB1 := bx hb1; clear hb1)
    | (go_at_call 37; refine (HR.out w1).mono ?_; rintro e w' ⟨rfl, hw'⟩; have hw' := hw'.symm; subst hw'))
  go_ret
  exact ⟨by rw [gmul_nat]; rfl, HB1.out⟩
theorem below_grown {w w' : World} (h : Below w.heap.size w w') (row : Option Nat) : w.grownBy w' row := ⟨h.os, h.tape, h.output, h.size, fun k hk _ => h.block k hk⟩
theorem Tab.grown {w w' : World} {b : Nat} (h : Tab w) (hg : w.grownBy w' (some b)) (hb : 1 ≠ b) : Tab w' := fun i hi => (hg.cell_far _ h.lt (fun e => hb (by simpa using e))).trans (h i hi)
theorem blk_grown {w w' : World} {g t : Nat} {vs : List Value} {b : Nat} (h : Blk w g t vs) (hg : w.grownBy w' (some b)) (hne : g ≠ b) : Blk w' g t vs := (hg.block g h.lt (fun e => hne (by simpa using e))).trans h
end Go.Proofs.YtccedmegmmcnkaaDoor

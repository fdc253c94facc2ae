/- The walks of layer 1, seven: Mul; squares. -/
import Derived.Test.YtidgenjpfccfgaaDoorShF
import Derived.Maps.AppendAt
import Derived.OwnWalk
namespace Go.Proofs.YtidgenjpfccfgaaDoor
open Go.RowKit Go.Shelf Gf Bt

theorem gmul_nat (a b : UInt8) : ((redN (wideN a.toNat b.toNat) : Nat) : Int) = ((gmul a b).toNat : Nat) := by rw [gmul_toNat]; rfl
theorem mul_any (a b : UInt8) (w : World) (hT : Tab w) : Calls Tryd.prog 16 #[B8 a, B8 b] w fun e w' => e = .returned (B8 (gmul a b)) ∧ Below w.heap.size w w' := by
  have HW := bx (callsIn_wide.1 (wide_any a b w hT))
  have HR := bx (reduce_any (wideN a.toNat b.toNat) (Nat.lt_trans (wideN_lt a.toNat_lt) (by decide)))
  clear hT
  go_enter Tryd.func16, Tryd.ntmps16
  go_wp2_with (first
    | (go_at_call 12; refine HW.out.mono ?_; rintro e w1 ⟨rfl, hb1⟩; have HB1 := bx hb1; clear hb1)
    | (go_at_call 14; refine (HR.out w1).mono ?_; rintro e w' ⟨rfl, hw'⟩; have hw' := hw'.symm; subst hw'))
  go_ret
  exact ⟨by rw [gmul_nat]; rfl, HB1.out⟩
/-- A byte squared so many times. -/
def sqs (a : UInt8) : Nat → UInt8
  | 0 => a
  | k + 1 => gmul (sqs a k) (sqs a k)
theorem below_grown {w w' : World} (h : Below w.heap.size w w') (row : Option Nat) : w.grownBy w' row := ⟨h.os, h.tape, h.output, h.size, fun k hk _ => h.block k hk⟩
theorem Tab.grown {w w' : World} {b : Nat} (h : Tab w) (hg : w.grownBy w' (some b)) (hb : 1 ≠ b) : Tab w' := fun i hi => (hg.cell_far _ h.lt (fun e => hb (by simpa using e))).trans (h i hi)
theorem blk_grown {w w' : World} {g t : Nat} {vs : List Value} {b : Nat} (h : Blk w g t vs) (hg : w.grownBy w' (some b)) (hne : g ≠ b) : Blk w' g t vs := (hg.block g h.lt (fun e => hne (by simpa using e))).trans h
theorem square_any (t b : Nat) (ht : t ≤ 1000000) (a : UInt8) (w : World) (hT : Tab w) (hb : Blk w b 5 [B8 a]) (hne : 1 ≠ b) :
    Calls Tryd.prog 23 #[.int .i64 t, .pointer (some ⟨b, 0, none⟩)] w fun e w' => (∃ v, e = .returned v) ∧ Blk w' b 5 [B8 (sqs a t)] ∧ w.grownBy w' (some b) := by
  have HT := bx hT
  clear hT
  go_enter Tryd.func23, Tryd.ntmps23
  go_wp2
  go_loopw [4] (fun i wr => ∃ k : Nat, k ≤ t ∧ i = .int .i64 k ∧ Blk wr b 5 [B8 (sqs a k)] ∧ w.grownBy wr (some b)) (fun i _ => t - (intOf i).toNat)
  case atStart => exact ⟨0, Nat.zero_le _, rfl, hb, World.grownBy.refl _ _⟩
  case round =>
    obtain ⟨k, hk, rfl, hbk, hg⟩ := hrel
    have HB := bx hbk
    have HG := bx hg
    have hk0 : (0 : Int) ≤ (k : Int) := Int.natCast_nonneg _
    obtain ⟨c, hc⟩ : ∃ c, sqs a k = c := ⟨_, rfl⟩
    rw [hc] at hbk
    have hcell : wr.cell? ⟨b, 0, none⟩ = some (.int .u8 c.toNat) := hbk.cell rfl
    have HM := bx (mul_any c c wr (HT.out.grown HG.out hne))
    have HC := bx hc
    clear hb hbk hg hc
    by_cases hlt : k < t
    · have hltz : (k : Int) < (t : Int) := Int.ofNat_lt.2 hlt
      go_wp2_with (go_at_call 16; refine HM.out.mono ?_; rintro e w1 ⟨rfl, hb1⟩; have HB1 := bx hb1; have hcell1 : w1.cell? ⟨b, 0, none⟩ = some (.int .u8 c.toNat) := ((HB.out.below hb1 HB.out.lt).cell rfl).trans (by rw [HC.out]); have hfz : w1.frozen? ⟨b, 0, none⟩ = false := (HB.out.below hb1 HB.out.lt).froz; clear hb1)
      go_roundw
      case rel =>
        refine ⟨k + 1, hlt, by go_num, ?_, (HG.out.trans (below_grown HB1.out _)).trans (grownBy_setCell' _ _ _)⟩
        rw [show sqs a (k + 1) = gmul c c by rw [sqs, HC.out]]
        exact (HB.out.below HB1.out HB.out.lt).set (cs := [_]) _
      case measure => simp [intOf]; omega
    · obtain rfl : t = k := Nat.le_antisymm (Nat.not_lt.1 hlt) hk
      go_wp2
      go_end0
      exact ⟨⟨_, rfl⟩, by rw [← HC.out] at *; exact HB.out, HG.out⟩
end Go.Proofs.YtidgenjpfccfgaaDoor

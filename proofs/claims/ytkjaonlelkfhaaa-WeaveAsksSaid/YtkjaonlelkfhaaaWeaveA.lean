/- The walks of the small functions of layer 21: codes, depths, what is right. -/
import Derived.Test.YtkjaonlelkfhaaaKit
namespace Go.Proofs.Ytkjaonlelkfhaaa
open Go.RowKit Gf Bt

/-- A code's value. -/
abbrev C3 (n k b : Int) : Value := .agg #[.int .i64 n, .int .i64 k, .int .i64 b]
/-- Is it a code? -/
def codeOk (n k b : Int) : Bool := !(decide (k < 1) || decide (n ≤ k) || decide (255 < n) || decide (b < 0) || decide (255 ≤ b))

theorem depth_any (e : UInt8) : ∃ d : Nat, 1 ≤ d ∧ d ≤ 66 ∧ ∀ w, Calls Try.prog 10 #[B8 e] w fun r w' => r = .returned (.int .i64 (d : Int)) ∧ w' = w := by
  have he := e.toNat_lt
  by_cases h : 250 ≤ e.toNat
  · refine ⟨e.toNat - 249 + 60, by omega, by omega, fun w => ?_⟩
    go_enter Try.func10, Try.ntmps10
    have h1 : (250 : Int) ≤ (e.toNat : Int) := by omega
    go_wp2
    go_ret
    exact ⟨ret_int (by first | omega | (simp; done) | (simp; omega)), rfl⟩
  · refine ⟨1 + e.toNat % 7, by omega, by omega, fun w => ?_⟩
    go_enter Try.func10, Try.ntmps10
    have h1 : ¬ (250 : Int) ≤ (e.toNat : Int) := by omega
    go_wp2
    go_ret
    exact ⟨ret_int (by first | omega | (simp; done) | (simp; omega)), rfl⟩
theorem coderight (n k b : Int) (w : World) :
    Calls Try.prog 32 #[C3 n k b] w fun e w' => e = .returned (.int .u16 (if codeOk n k b then 0 else 10)) ∧ Below w.heap.size w w' := by
  unfold codeOk
  go_enter Try.func32, Try.ntmps32
  go_wp2
  all_goals go_ret
  all_goals refine ⟨ret_int (by simp_all <;> omega), by first | exact Below.refl _ _ | exact (Below.refl _ _).alloc (Nat.le_refl _) _⟩
theorem ref10right (n k b : Int) (w : World) :
    Calls Try.prog 36 #[C3 n k b] w fun e w' => e = .returned (.int .i64 (if codeOk n k b then 0 else 10)) ∧ Below w.heap.size w w' := by
  unfold codeOk
  go_enter Try.func36, Try.ntmps36
  go_wp2
  all_goals go_ret
  all_goals refine ⟨ret_int (by simp_all <;> omega), by first | exact Below.refl _ _ | exact (Below.refl _ _).alloc (Nat.le_refl _) _⟩
end Go.Proofs.Ytkjaonlelkfhaaa

/- The walks of layer 21, two: what may be woven. -/
import Derived.Test.YtkjaonlelkfhaaaWeaveA
namespace Go.Proofs.Ytkjaonlelkfhaaa
open Go.RowKit Gf Bt

/-- A loom's value. -/
abbrev L4 (n k b d : Int) : Value := .agg #[.int .i64 n, .int .i64 k, .int .i64 b, .int .i64 d]
/-- May it weave? -/
def loomOk (n k b d : Int) : Bool := codeOk n k b && (decide (1 ≤ d) && decide (d ≤ 255))

theorem loom_right (n k b d : Int) (w : World) :
    Calls Try.prog 21 #[L4 n k b d] w fun e w' => e = .returned (.int .u16 (if loomOk n k b d then 0 else 10)) ∧ Below w.heap.size w w' := by
  unfold loomOk
  go_enter Try.func21, Try.ntmps21
  go_wp2_with (go_at_call 32; refine (coderight n k b _).mono ?_; rintro e w1 ⟨rfl, hb1⟩)
  all_goals go_ret
  all_goals refine ⟨ret_int (by simp_all <;> omega), ?_⟩
  all_goals (first | exact Below.refl _ _ | exact (Below.refl _ _).alloc (Nat.le_refl _) _ | exact ((Below.refl _ _).alloc (Nat.le_refl _) _).trans (hb1.mono (by simp)))
theorem sheaf_any (n k b d : Int) (w : World) :
    Calls Try.prog 24 #[L4 n k b d] w fun e w' => e = .returned (.int .i64 (wrap64 (n * d))) ∧ Below w.heap.size w w' := by
  go_enter Try.func24, Try.ntmps24
  go_wp2
  go_ret
  refine ⟨ret_int (by first | rfl | simp), by first | exact Below.refl _ _ | exact (Below.refl _ _).alloc (Nat.le_refl _) _ | exact ((Below.refl _ _).alloc (Nat.le_refl _) _).trans (hb1.mono (by simp))⟩
theorem ref21right (n k b d : Int) (w : World) :
    Calls Try.prog 35 #[C3 n k b, .int .i64 d] w fun e w' => e = .returned (.bool (loomOk n k b d)) ∧ Below w.heap.size w w' := by
  unfold loomOk
  go_enter Try.func35, Try.ntmps35
  go_wp2_with (go_at_call 36; refine (ref10right n k b _).mono ?_; rintro e w1 ⟨rfl, hb1⟩)
  all_goals go_ret
  all_goals refine ⟨ret_bool (by cases h : codeOk n k b <;> simp_all <;> omega), by first | exact Below.refl _ _ | exact (Below.refl _ _).alloc (Nat.le_refl _) _ | exact ((Below.refl _ _).alloc (Nat.le_refl _) _).trans (hb1.mono (by simp))⟩

theorem lawcode (n k b : UInt8) (hn : n.toNat < 31) : ∃ N K B : Nat, 2 ≤ N ∧ N ≤ 22 ∧ 1 ≤ K ∧ K < N ∧ B < 255 ∧ ∀ w, Calls Try.prog 9 #[B8 n, B8 k, B8 b] w fun e w' => e = .returned (C3 N K B) ∧ Below w.heap.size w w' := by
  have hk := k.toNat_lt
  have hb := b.toNat_lt
  refine ⟨2 + n.toNat % 21, 1 + k.toNat % (1 + n.toNat % 21), b.toNat % 255, by omega, by omega, by omega, ?_, by omega, fun w => ?_⟩
  · have := Nat.mod_lt k.toNat (show 0 < 1 + n.toNat % 21 by omega); omega
  obtain ⟨m, hm⟩ : ∃ m, n.toNat % 21 = m := ⟨_, rfl⟩
  obtain ⟨c, hc⟩ : ∃ c, b.toNat % 255 = c := ⟨_, rfl⟩
  obtain ⟨v, hv⟩ : ∃ v, k.toNat % (1 + m) = v := ⟨_, rfl⟩
  have hvl : v < 1 + m := by rw [← hv]; exact Nat.mod_lt _ (by omega)
  have e1 : (n.toNat : Int).tmod 21 = m := by rw [Int.tmod_eq_emod_of_nonneg (by omega)]; omega
  have e2 : (n.toNat : Int).tmod 32 = n.toNat := by rw [Int.tmod_eq_emod_of_nonneg (by omega)]; omega
  have e3 : (b.toNat : Int).tmod 255 = c := by rw [Int.tmod_eq_emod_of_nonneg (by omega)]; omega
  have e4 : (k.toNat : Int).tmod (1 + m) = v := by rw [Int.tmod_eq_emod_of_nonneg (by omega), ← hv]; simp
  have e5 : (2 : Int) + m - 1 = 1 + m := by omega
  have e6 : ¬ ((n.toNat : Int) = 31) := by omega
  have e7 : ¬ ((1 : Int) + m = 0) := by omega
  rw [hm, hc, hv]
  go_enter Try.func9, Try.ntmps9
  go_wp2
  refine bodyPost_ret (results_cell_row rfl _ _ w.heap.size 24 #[.int .i64 (2 + (m : Int)), .int .i64 (1 + (v : Int)), .int .i64 (c : Int)] (0, 0) _ rfl ((Blk.new w 24 [.int .i64 (2 + (m : Int)), .int .i64 (1 + (v : Int)), .int .i64 (c : Int)]).alloc _) Try.underlying24 rfl (by kernel_rfl)) rfl ?_
  exact ⟨by simp, ((Below.refl _ _).alloc (Nat.le_refl _) _).alloc (by simp) _⟩
end Go.Proofs.Ytkjaonlelkfhaaa

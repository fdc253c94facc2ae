/- The walks of layer 1, five: a product without carries. -/
import Derived.Test.YtccedmegmmcnkaaDoorHeldS
namespace Go.Proofs.YtccedmegmmcnkaaDoor
open Go.RowKit Go.Shelf Gf Bt
attribute [local go_sem] Oper.semAt_some

theorem Tab.lt {w : World} (h : Tab w) : 1 < w.heap.size := World.block_lt_of_cell? _ _ (h 0 (by decide))
theorem Tab.below {w w' : World} {n : Nat} (h : Tab w) (hb : Below n w w') (hn : 1 < n) : Tab w' := fun i hi => (hb.cell (by exact hn)).trans (h i hi)
/-- A product without carries, so far. -/
def wideL (a : Nat) (pre : List Nat) : Nat := pre.foldl (fun acc i => acc ^^^ (a <<< i)) 0
theorem wideL_snoc (a : Nat) (pre : List Nat) (x : Nat) : wideL a (pre ++ [x]) = wideL a pre ^^^ (a <<< x) := by simp [wideL, List.foldl_append]
theorem places_filter_all : ((List.range 256).all fun b => places b == (List.range 8).filter fun i => b.testBit i) = true := by decide +kernel
theorem places_filter {b : Nat} (hb : b < 256) : places b = (List.range 8).filter fun i => b.testBit i := eq_of_beq (List.all_eq_true.1 places_filter_all b (List.mem_range.2 hb))
theorem wideL_to (a b : Nat) : ∀ k, wideL a ((List.range k).filter fun i => b.testBit i) = wideTo a b k
  | 0 => rfl
  | k + 1 => by
    rw [List.range_succ, List.filter_append, wideTo, wstep]
    by_cases h : b.testBit k = true
    · rw [if_pos h, List.filter_cons_of_pos (by exact h), List.filter_nil, wideL_snoc, wideL_to a b k]
    · rw [if_neg h, List.filter_cons_of_neg (by exact h), List.filter_nil, List.append_nil, wideL_to a b k]
theorem wideL_all {b : Nat} (a : Nat) (hb : b < 256) : wideL a (places b) = wideN a b := by rw [places_filter hb, wideL_to]; rfl
theorem places_lt {b x : Nat} {pre rest : List Nat} (hb : b < 256) (h : places b = pre ++ x :: rest) : x ≤ 7 := by
  have hm : x ∈ places b := by rw [h]; simp
  rw [places_filter hb] at hm
  have := List.mem_range.1 (List.mem_filter.1 hm).1
  omega
theorem wideL_lt {a : Nat} (ha : a < 256) : ∀ (pre : List Nat), (∀ x ∈ pre, x ≤ 7) → wideL a pre < 32768 := by
  intro pre
  have : ∀ (pre : List Nat) (acc : Nat), acc < 32768 → (∀ x ∈ pre, x ≤ 7) → pre.foldl (fun acc i => acc ^^^ (a <<< i)) acc < 32768 := by
    intro pre
    induction pre with
    | nil => intro acc h _; exact h
    | cons x xs ih =>
      intro acc h hx
      refine ih _ ?_ fun y hy => hx y (List.mem_cons_of_mem _ hy)
      have h7 := hx x (List.mem_cons_self ..)
      have h2 : a <<< x < 32768 := by
        rw [Nat.shiftLeft_eq]
        have : 2 ^ x ≤ 2 ^ 7 := Nat.pow_le_pow_right (by decide) h7
        have h3 : a * 2 ^ x ≤ 255 * 2 ^ 7 := Nat.mul_le_mul (by omega) this
        omega
      exact Nat.xor_lt_two_pow (n := 15) h h2
  exact this pre 0 (by decide)
theorem wide_cell2 {a acc x : Nat} (ha : a < 256) (hacc : acc < 32768) (hx : x ≤ 7) : bits .xor .u16 (acc : Int) (IntKind.u16.wrap ((a : Int) * 2 ^ x)) = ((acc ^^^ (a <<< x) : Nat) : Int) := by
  have h1 : a * 2 ^ x < 65536 := by
    have : 2 ^ x ≤ 2 ^ 7 := Nat.pow_le_pow_right (by decide) hx
    have h3 : a * 2 ^ x ≤ 255 * 2 ^ 7 := Nat.mul_le_mul (by omega) this
    omega
  rw [show ((a : Int) * 2 ^ x) = ((a * 2 ^ x : Nat) : Int) by simp, wrap_u16_nat h1, bits_u16_xor _ _ (by omega) h1, Nat.shiftLeft_eq]
theorem ones_in (n' n : Nat) (w : World) : CallsIn Fence.wide n' Tryd.prog 45 #[.int .u64 n] w fun e w' => e = .returned (.func (.func 53) #[] #[.pointer (some ⟨w.heap.size, 0, none⟩)]) ∧ w' = w.alloc (.cells #[.int .u64 n] 71) := by
  refine callsIn_of_wp Tryd.func45 rfl trivial ?_ rfl
  simp only [Tryd.ntmps45, List.size_toArray, List.length_cons, List.length_nil, Nat.reduceAdd, Nat.reduceSub, Array.replicate_succ, Array.replicate_zero, List.push_toArray, List.append_toArray, List.nil_append, List.cons_append]
  gi_wp2
  go_ret
  exact ⟨rfl, rfl⟩
end Go.Proofs.YtccedmegmmcnkaaDoor

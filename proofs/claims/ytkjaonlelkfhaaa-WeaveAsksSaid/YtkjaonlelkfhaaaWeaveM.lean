/- The walks of layer 21, thirteen: what is unwoven: what is refused. -/
import Derived.Test.YtkjaonlelkfhaaaWeaveL
import Derived.Test.YtkjaonlelkfhaaaChunk
namespace Go.Proofs.Ytkjaonlelkfhaaa
open Go.RowKit Gf Bt

theorem unweave_no (n k b d : Int) (A : Option Addr) (len cap : Nat) (w : World) (hno : loomOk n k b d = false) :
    Calls Try.prog 17 #[C3 n k b, .int .i64 d, .slice A len cap] w fun e w' => e = .returned (.tuple #[.slice none 0 0, .int .u16 10]) ∧ Below w.heap.size w w' := by
  go_enter Try.func17, Try.ntmps17
  go_wp2_with (go_at_call 21; refine (loom_right n k b d _).mono ?_; rintro e w1 ⟨rfl, hb1⟩; rw [hno]; have HL := bx (((((Below.refl _ _).alloc (Nat.le_refl _) _).alloc (by simp) _).alloc (by simp <;> omega) _ : Below w.heap.size w (((w.alloc (Obj.cells #[.int .i64 n, .int .i64 k, .int .i64 b] 24)).alloc (Obj.cells #[.int .i64 d] 3)).alloc (Obj.cells #[.int .i64 n, .int .i64 k, .int .i64 b, .int .i64 d] 50))).trans (hb1.mono (by simp; omega))); clear hb1)
  go_ret2
  exact ⟨rfl, HL.out⟩
theorem unweave_short (n k b d : Int) (A : Option Addr) (len cap : Nat) (w : World) (hok : loomOk n k b d = true) (hbad : ¬ (len : Int) % (n * d) = 0) :
    Calls Try.prog 17 #[C3 n k b, .int .i64 d, .slice A len cap] w fun e w' => e = .returned (.tuple #[.slice none 0 0, .int .u16 12]) ∧ Below w.heap.size w w' := by
  obtain ⟨k1, kn, nn, b0, b1, d1, d2⟩ := loomOk_bounds hok
  obtain ⟨s, hs⟩ : ∃ s, n * d = s := ⟨_, rfl⟩
  have s1 : 1 ≤ s := by rw [← hs]; exact Int.mul_pos (by omega) (by omega)
  have s2 : s ≤ 65025 := by rw [← hs]; exact Int.le_trans (Int.mul_le_mul_of_nonneg_right nn (by omega)) (by omega)
  have hw : wrap64 (n * d) = s := by rw [hs]; unfold wrap64; omega
  have HS : Bx (∀ w, Calls Try.prog 24 #[L4 n k b d] w fun e w' => e = .returned (.int .i64 s) ∧ Below w.heap.size w w') := bx fun w => by have := sheaf_any n k b d w; rwa [hw] at this
  rw [hs] at hbad
  have hs0 : ¬ s = 0 := by omega
  have hl0 : (0 : Int) ≤ (len : Int) := Int.natCast_nonneg _
  clear hs hw k1 kn nn b0 b1 d1 d2
  go_enter Try.func17, Try.ntmps17
  go_wp2_with (first
    | (go_at_call 21; refine (loom_right n k b d _).mono ?_; rintro e w1 ⟨rfl, hb1⟩; rw [hok]; have HL := bx (((((Below.refl _ _).alloc (Nat.le_refl _) _).alloc (by simp) _).alloc (by simp <;> omega) _ : Below w.heap.size w (((w.alloc (Obj.cells #[.int .i64 n, .int .i64 k, .int .i64 b] 24)).alloc (Obj.cells #[.int .i64 d] 3)).alloc (Obj.cells #[.int .i64 n, .int .i64 k, .int .i64 b, .int .i64 d] 50))).trans (hb1.mono (by simp; omega))); have HB := bx (Blk.below (blk_new2 w (Obj.cells #[.int .i64 n, .int .i64 k, .int .i64 b] 24) (Obj.cells #[.int .i64 d] 3) 50 [.int .i64 n, .int .i64 k, .int .i64 b, .int .i64 d]) hb1 (by simp)); have l0 : w1.cell? ⟨w.heap.size + 2, 0, none⟩ = some (.int .i64 n) := HB.out.cell rfl; have l1 : w1.cell? ⟨w.heap.size + 2, 1, none⟩ = some (.int .i64 k) := HB.out.cell rfl; have l2 : w1.cell? ⟨w.heap.size + 2, 2, none⟩ = some (.int .i64 b) := HB.out.cell rfl; have l3 : w1.cell? ⟨w.heap.size + 2, 3, none⟩ = some (.int .i64 d) := HB.out.cell rfl; clear hb1)
    | (go_at_call 24; refine (HS.out _).mono ?_; rintro e w2 ⟨rfl, hb2⟩; have HL2 := bx (HL.out.trans (hb2.mono HL.out.size)); clear hb2))
  go_ret2
  exact ⟨rfl, HL2.out⟩
end Go.Proofs.Ytkjaonlelkfhaaa

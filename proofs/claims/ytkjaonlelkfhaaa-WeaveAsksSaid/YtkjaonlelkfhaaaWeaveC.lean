/- The walks of layer 21, three: places. -/
import Derived.Test.YtkjaonlelkfhaaaWeaveB
namespace Go.Proofs.Ytkjaonlelkfhaaa
open Go.RowKit Gf Bt

theorem codeOk_bounds {n k b : Int} (h : codeOk n k b = true) : 1 ≤ k ∧ k < n ∧ n ≤ 255 ∧ 0 ≤ b ∧ b < 255 := by
  unfold codeOk at h; simp at h; omega
theorem loomOk_bounds {n k b d : Int} (h : loomOk n k b d = true) : 1 ≤ k ∧ k < n ∧ n ≤ 255 ∧ 0 ≤ b ∧ b < 255 ∧ 1 ≤ d ∧ d ≤ 255 := by
  unfold loomOk at h; simp at h; have := codeOk_bounds h.1; omega
/-- A place's block. -/
def spotX (n k b d a : Int) : Int := if loomOk n k b d = true ∧ 0 ≤ a then wrap64 (wrap64 (a / (n * d) * d) + a % (n * d) % d) else 0
/-- A place's byte. -/
def spotI (n k b d a : Int) : Int := if loomOk n k b d = true ∧ 0 ≤ a then a % (n * d) / d else 0

theorem ref_spot (n k b d a : Int) (w : World) (h1 : -9223372036854775808 ≤ a) (h2 : a < 9223372036854775808) :
    Calls Try.prog 30 #[C3 n k b, .int .i64 d, .int .i64 a] w fun e w' => e = .returned (.tuple #[.int .i64 (spotX n k b d a), .int .i64 (spotI n k b d a)]) ∧ Below w.heap.size w w' := by
  unfold spotX spotI
  by_cases hok : loomOk n k b d = true
  · obtain ⟨k1, kn, nn, b0, b1, d1, d2⟩ := loomOk_bounds hok
    by_cases ha : 0 ≤ a
    · obtain ⟨s, hs⟩ : ∃ s, n * d = s := ⟨_, rfl⟩
      have s1 : 1 ≤ s := by rw [← hs]; exact Int.mul_pos (by omega) (by omega)
      have s2 : s ≤ 65025 := by rw [← hs]; exact Int.le_trans (Int.mul_le_mul_of_nonneg_right nn (by omega)) (by omega)
      have hw : wrap64 (n * d) = s := by rw [hs]; unfold wrap64; omega
      have hd0 : ¬ d = 0 := by omega
      have hs0 : ¬ s = 0 := by omega
      have r0 := Int.emod_nonneg a hs0
      have r1 := Int.emod_lt_of_pos a (show 0 < s by omega)
      have q0 := Int.ediv_nonneg ha (show 0 ≤ s by omega)
      have q2 : 0 ≤ a % s / d := Int.ediv_nonneg r0 (by omega)
      have q3 : a % s / d ≤ a % s := Int.ediv_le_self d r0
      have hq : wrap64 (a % s / d) = a % s / d := by unfold wrap64; omega
      have hna : ¬ a < 0 := by omega
      rw [if_pos ⟨hok, ha⟩, if_pos ⟨hok, ha⟩, hs]
      go_enter Try.func30, Try.ntmps30
      go_wp2_with (go_at_call 35; refine (ref21right n k b d _).mono ?_; rintro e w1 ⟨rfl, hb1⟩; rw [hok]; have c0 : w1.cell? ⟨w.heap.size, 0, none⟩ = some (.int .i64 n) := (Blk.below (Blk.new w 24 [.int .i64 n, .int .i64 k, .int .i64 b]) hb1 (by simp)).cell rfl; have HL := bx (((Below.refl _ _).alloc (Nat.le_refl _) _ : Below w.heap.size w (w.alloc (Obj.cells #[.int .i64 n, .int .i64 k, .int .i64 b] 24))).trans (hb1.mono (by simp))); clear hb1)
      go_region
      go_wp2
      go_ret2
      exact ⟨rfl, HL.out.trans (Below.refl _ _).drew⟩
    · rw [if_neg (fun h => ha h.2), if_neg (fun h => ha h.2)]
      have hna : a < 0 := by omega
      go_enter Try.func30, Try.ntmps30
      go_wp2_with (go_at_call 35; refine (ref21right n k b d _).mono ?_; rintro e w1 ⟨rfl, hb1⟩; rw [hok]; have HL := bx (((Below.refl _ _).alloc (Nat.le_refl _) _ : Below w.heap.size w (w.alloc (Obj.cells #[.int .i64 n, .int .i64 k, .int .i64 b] 24))).trans (hb1.mono (by simp))); clear hb1)
      go_ret2
      exact ⟨rfl, HL.out⟩
  · rw [if_neg (fun h => hok h.1), if_neg (fun h => hok h.1)]
    have hno : loomOk n k b d = false := by cases h : loomOk n k b d <;> simp_all
    go_enter Try.func30, Try.ntmps30
    go_wp2_with (go_at_call 35; refine (ref21right n k b d _).mono ?_; rintro e w1 ⟨rfl, hb1⟩; rw [hno]; have HL := bx (((Below.refl _ _).alloc (Nat.le_refl _) _ : Below w.heap.size w (w.alloc (Obj.cells #[.int .i64 n, .int .i64 k, .int .i64 b] 24))).trans (hb1.mono (by simp))); clear hb1)
    go_ret2
    exact ⟨rfl, HL.out⟩
end Go.Proofs.Ytkjaonlelkfhaaa

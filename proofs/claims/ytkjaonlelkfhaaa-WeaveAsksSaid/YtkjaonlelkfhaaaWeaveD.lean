/- The walks of layer 21, four: the program's own places. -/
import Derived.Test.YtkjaonlelkfhaaaWeaveC
namespace Go.Proofs.Ytkjaonlelkfhaaa
open Go.RowKit Gf Bt

theorem spot_no (n k b d a : Int) (w : World) (hno : loomOk n k b d = false) :
    Calls Try.prog 15 #[C3 n k b, .int .i64 d, .int .i64 a] w fun e w' => e = .returned (.tuple #[.int .i64 (spotX n k b d a), .int .i64 (spotI n k b d a)]) ∧ Below w.heap.size w w' := by
  unfold spotX spotI
  rw [if_neg (fun h => by rw [hno] at h; exact absurd h.1 (by simp)), if_neg (fun h => by rw [hno] at h; exact absurd h.1 (by simp))]
  go_enter Try.func15, Try.ntmps15
  go_wp2_with (go_at_call 21; refine (loom_right n k b d _).mono ?_; rintro e w1 ⟨rfl, hb1⟩; rw [hno]; have HL := bx ((((Below.refl _ _).alloc (Nat.le_refl _) _).alloc (by simp) _ : Below w.heap.size w ((w.alloc (Obj.cells #[.int .i64 n, .int .i64 k, .int .i64 b] 24)).alloc (Obj.cells #[.int .i64 n, .int .i64 k, .int .i64 b, .int .i64 d] 50))).trans (hb1.mono (by simp; omega))); clear hb1)
  go_ret2
  exact ⟨rfl, HL.out⟩
theorem spot_yes (n k b d a : Int) (w : World) (hok : loomOk n k b d = true) (ha : 0 ≤ a) (h2 : a < 9223372036854775808) :
    Calls Try.prog 15 #[C3 n k b, .int .i64 d, .int .i64 a] w fun e w' => e = .returned (.tuple #[.int .i64 (spotX n k b d a), .int .i64 (spotI n k b d a)]) ∧ Below w.heap.size w w' := by
  unfold spotX spotI
  obtain ⟨k1, kn, nn, b0, b1, d1, d2⟩ := loomOk_bounds hok
  obtain ⟨s, hs⟩ : ∃ s, n * d = s := ⟨_, rfl⟩
  have s1 : 1 ≤ s := by rw [← hs]; exact Int.mul_pos (by omega) (by omega)
  have s2 : s ≤ 65025 := by rw [← hs]; exact Int.le_trans (Int.mul_le_mul_of_nonneg_right nn (by omega)) (by omega)
  have hw : wrap64 (n * d) = s := by rw [hs]; unfold wrap64; omega
  have hd0 : ¬ d = 0 := by omega
  have hs0 : ¬ s = 0 := by omega
  have r0 := Int.emod_nonneg a hs0
  have r1 := Int.emod_lt_of_pos a (show 0 < s by omega)
  have q0 := Int.ediv_nonneg ha (show 0 ≤ s by omega)
  have q2 : 0 ≤ a % s / d := Int.ediv_nonneg r0 (by omega)
  have q3 : a % s / d ≤ a % s := Int.ediv_le_self d r0
  have hq : wrap64 (a % s / d) = a % s / d := by unfold wrap64; omega
  have hna : ¬ a < 0 := by omega
  rw [if_pos ⟨hok, ha⟩, if_pos ⟨hok, ha⟩, hs]
  go_enter Try.func15, Try.ntmps15
  go_upto_region 4 with (go_at_call 21; refine (loom_right n k b d _).mono ?_; rintro e w1 ⟨rfl, hb1⟩; rw [hok]; have HL := bx ((((Below.refl _ _).alloc (Nat.le_refl _) _).alloc (by simp) _ : Below w.heap.size w ((w.alloc (Obj.cells #[.int .i64 n, .int .i64 k, .int .i64 b] 24)).alloc (Obj.cells #[.int .i64 n, .int .i64 k, .int .i64 b, .int .i64 d] 50))).trans (hb1.mono (by simp; omega))); have HB := bx (Blk.below (blk_new1 w (Obj.cells #[.int .i64 n, .int .i64 k, .int .i64 b] 24) 50 [.int .i64 n, .int .i64 k, .int .i64 b, .int .i64 d]) hb1 (by simp)); clear hb1)
  have l1 := HB.out.lt
  refine wp_region_ext (w := w1) w1.heap.size (by kernel_rfl) (by kernel_rfl) ?_
  have c0 : ∀ x : Ext w1.heap.size w1, x.w.cell? ⟨w.heap.size + 1, 0, none⟩ = some (.int .i64 n) := ext_cell HB.out l1 rfl
  have c1 : ∀ x : Ext w1.heap.size w1, x.w.cell? ⟨w.heap.size + 1, 1, none⟩ = some (.int .i64 k) := ext_cell HB.out l1 rfl
  have c2 : ∀ x : Ext w1.heap.size w1, x.w.cell? ⟨w.heap.size + 1, 2, none⟩ = some (.int .i64 b) := ext_cell HB.out l1 rfl
  have c3 : ∀ x : Ext w1.heap.size w1, x.w.cell? ⟨w.heap.size + 1, 3, none⟩ = some (.int .i64 d) := ext_cell HB.out l1 rfl
  have HS : Bx (∀ w, Calls Try.prog 24 #[L4 n k b d] w fun e w' => e = .returned (.int .i64 s) ∧ Below w.heap.size w w') := bx fun w => by have := sheaf_any n k b d w; rwa [hw] at this
  repeat (go_big_quiet_step ((go_at_call 24; exact ext_call (Nat.le_refl _) (HS.out _))))
  refine wpQuiet_nil ?_
  rintro _ ⟨x, rfl⟩
  have HX := bx (HL.out.trans (x.bel.mono HL.out.size))
  go_upto_region 5 with (fail)
  go_region
  go_wp2
  go_ret2
  exact ⟨rfl, HX.out.trans (Below.refl _ _).drew⟩
theorem spot_low (n k b d a : Int) (w : World) (hok : loomOk n k b d = true) (hna : a < 0) :
    Calls Try.prog 15 #[C3 n k b, .int .i64 d, .int .i64 a] w fun e w' => e = .returned (.tuple #[.int .i64 (spotX n k b d a), .int .i64 (spotI n k b d a)]) ∧ Below w.heap.size w w' := by
  unfold spotX spotI
  rw [if_neg (fun h => by omega), if_neg (fun h => by omega)]
  go_enter Try.func15, Try.ntmps15
  go_wp2_with (go_at_call 21; refine (loom_right n k b d _).mono ?_; rintro e w1 ⟨rfl, hb1⟩; rw [hok]; have HL := bx ((((Below.refl _ _).alloc (Nat.le_refl _) _).alloc (by simp) _ : Below w.heap.size w ((w.alloc (Obj.cells #[.int .i64 n, .int .i64 k, .int .i64 b] 24)).alloc (Obj.cells #[.int .i64 n, .int .i64 k, .int .i64 b, .int .i64 d] 50))).trans (hb1.mono (by simp; omega))); clear hb1)
  go_ret2
  exact ⟨rfl, HL.out⟩
theorem spot_any (n k b d a : Int) (w : World) (h2 : a < 9223372036854775808) :
    Calls Try.prog 15 #[C3 n k b, .int .i64 d, .int .i64 a] w fun e w' => e = .returned (.tuple #[.int .i64 (spotX n k b d a), .int .i64 (spotI n k b d a)]) ∧ Below w.heap.size w w' := by
  by_cases hok : loomOk n k b d = true
  · by_cases ha : a < 0
    · exact spot_low n k b d a w hok ha
    · exact spot_yes n k b d a w hok (by omega) h2
  · exact spot_no n k b d a w (by cases h : loomOk n k b d <;> simp_all)
end Go.Proofs.Ytkjaonlelkfhaaa

/- The walks of layer 21, five: the way back of a place. -/
import Derived.Test.YtkjaonlelkfhaaaWeaveD
namespace Go.Proofs.Ytkjaonlelkfhaaa
open Go.RowKit Gf Bt

/-- Is it a place's block and byte? -/
def placeOk (n k b d p i : Int) : Prop := loomOk n k b d = true ∧ 0 ≤ p ∧ p ≤ 16777216 ∧ 0 ≤ i ∧ i < n
/-- The place. -/
def placeN (n d p i : Int) : Int := p / d * n * d + i * d + p % d
theorem place_wraps {n k b d p i : Int} (h : placeOk n k b d p i) :
    wrap64 (p / d * n) = p / d * n ∧ wrap64 (p / d * n * d) = p / d * n * d ∧ wrap64 (i * d) = i * d ∧ wrap64 (p / d * n * d + i * d) = p / d * n * d + i * d ∧ wrap64 (placeN n d p i) = placeN n d p i ∧ 0 ≤ placeN n d p i := by
  obtain ⟨hok, p0, p1, i0, i1⟩ := h
  obtain ⟨k1, kn, nn, b0, b1, d1, d2⟩ := loomOk_bounds hok
  have u0 : 0 ≤ p / d := Int.ediv_nonneg p0 (by omega)
  have u1 : p / d ≤ 16777216 := Int.le_trans (Int.ediv_le_self d p0) p1
  have v0 : 0 ≤ p / d * n := Int.mul_nonneg u0 (by omega)
  have v1 : p / d * n ≤ 16777216 * 255 := Int.mul_le_mul u1 nn (by omega) (by omega)
  have x0 : 0 ≤ p / d * n * d := Int.mul_nonneg v0 (by omega)
  have x1 : p / d * n * d ≤ 16777216 * 255 * 255 := Int.mul_le_mul v1 d2 (by omega) (by omega)
  have y0 : 0 ≤ i * d := Int.mul_nonneg i0 (by omega)
  have y1 : i * d ≤ 255 * 255 := Int.mul_le_mul (by omega) d2 (by omega) (by omega)
  have z0 : 0 ≤ p % d := Int.emod_nonneg p (by omega)
  have z1 : p % d < d := Int.emod_lt_of_pos p (by omega)
  unfold placeN wrap64
  omega
theorem ref_place_yes (n k b d p i : Int) (w : World) (h : placeOk n k b d p i) :
    Calls Try.prog 31 #[C3 n k b, .int .i64 d, .int .i64 p, .int .i64 i] w fun e w' => e = .returned (.int .i64 (placeN n d p i)) ∧ Below w.heap.size w w' := by
  obtain ⟨e1, e2, e3, e4, e5, e6⟩ := place_wraps h
  unfold placeN at *
  obtain ⟨hok, p0, p1, i0, i1⟩ := h
  obtain ⟨k1, kn, nn, b0, b1, d1, d2⟩ := loomOk_bounds hok
  have hd0 : ¬ d = 0 := by omega
  have hp : ¬ p < 0 := by omega
  have hp1 : ¬ 16777216 < p := by omega
  have hi : ¬ i < 0 := by omega
  have hi1 : ¬ n ≤ i := by omega
  go_enter Try.func31, Try.ntmps31
  go_upto_region 3 with (go_at_call 35; refine (ref21right n k b d _).mono ?_; rintro e w1 ⟨rfl, hb1⟩; rw [hok]; have c0 : w1.cell? ⟨w.heap.size, 0, none⟩ = some (.int .i64 n) := (Blk.below (Blk.new w 24 [.int .i64 n, .int .i64 k, .int .i64 b]) hb1 (by simp)).cell rfl; have HL := bx (((Below.refl _ _).alloc (Nat.le_refl _) _ : Below w.heap.size w (w.alloc (Obj.cells #[.int .i64 n, .int .i64 k, .int .i64 b] 24))).trans (hb1.mono (by simp))); clear hb1)
  go_region
  go_wp2
  go_ret
  exact ⟨ret_int e5, HL.out.trans (Below.refl _ _).drew⟩
theorem place_yes (n k b d p i : Int) (w : World) (h : placeOk n k b d p i) :
    Calls Try.prog 18 #[C3 n k b, .int .i64 d, .int .i64 p, .int .i64 i] w fun e w' => e = .returned (.int .i64 (placeN n d p i)) ∧ Below w.heap.size w w' := by
  obtain ⟨e1, e2, e3, e4, e5, e6⟩ := place_wraps h
  unfold placeN at *
  obtain ⟨hok, p0, p1, i0, i1⟩ := h
  obtain ⟨k1, kn, nn, b0, b1, d1, d2⟩ := loomOk_bounds hok
  have hd0 : ¬ d = 0 := by omega
  have hp : ¬ p < 0 := by omega
  have hp1 : ¬ 16777216 < p := by omega
  have hi : ¬ i < 0 := by omega
  have hi1 : ¬ n ≤ i := by omega
  obtain ⟨s, hs⟩ : ∃ s, n * d = s := ⟨_, rfl⟩
  have s1 : 1 ≤ s := by rw [← hs]; exact Int.mul_pos (by omega) (by omega)
  have s2 : s ≤ 65025 := by rw [← hs]; exact Int.le_trans (Int.mul_le_mul_of_nonneg_right nn (by omega)) (by omega)
  have hw : wrap64 (n * d) = s := by rw [hs]; unfold wrap64; omega
  have hm : p / d * n * d = p / d * s := by rw [Int.mul_assoc, hs]
  rw [hm] at e2 e4 e5 e6 ⊢
  go_enter Try.func18, Try.ntmps18
  go_upto_region 4 with (go_at_call 21; refine (loom_right n k b d _).mono ?_; rintro e w1 ⟨rfl, hb1⟩; rw [hok]; have HL := bx ((((Below.refl _ _).alloc (Nat.le_refl _) _).alloc (by simp) _ : Below w.heap.size w ((w.alloc (Obj.cells #[.int .i64 n, .int .i64 k, .int .i64 b] 24)).alloc (Obj.cells #[.int .i64 n, .int .i64 k, .int .i64 b, .int .i64 d] 50))).trans (hb1.mono (by simp; omega))); have HB := bx (Blk.below (blk_new1 w (Obj.cells #[.int .i64 n, .int .i64 k, .int .i64 b] 24) 50 [.int .i64 n, .int .i64 k, .int .i64 b, .int .i64 d]) hb1 (by simp)); clear hb1; have cn : w1.cell? ⟨w.heap.size + 1, 0, none⟩ = some (.int .i64 n) := HB.out.cell rfl)
  have l1 := HB.out.lt
  refine wp_region_ext (w := w1) w1.heap.size (by kernel_rfl) (by kernel_rfl) ?_
  have c0 : ∀ x : Ext w1.heap.size w1, x.w.cell? ⟨w.heap.size + 1, 0, none⟩ = some (.int .i64 n) := ext_cell HB.out l1 rfl
  have c1 : ∀ x : Ext w1.heap.size w1, x.w.cell? ⟨w.heap.size + 1, 1, none⟩ = some (.int .i64 k) := ext_cell HB.out l1 rfl
  have c2 : ∀ x : Ext w1.heap.size w1, x.w.cell? ⟨w.heap.size + 1, 2, none⟩ = some (.int .i64 b) := ext_cell HB.out l1 rfl
  have c3 : ∀ x : Ext w1.heap.size w1, x.w.cell? ⟨w.heap.size + 1, 3, none⟩ = some (.int .i64 d) := ext_cell HB.out l1 rfl
  have HS : Bx (∀ w, Calls Try.prog 24 #[L4 n k b d] w fun e w' => e = .returned (.int .i64 s) ∧ Below w.heap.size w w') := bx fun w => by have := sheaf_any n k b d w; rwa [hw] at this
  repeat (go_big_quiet_step ((go_at_call 24; exact ext_call (Nat.le_refl _) (HS.out _))))
  refine wpQuiet_nil ?_
  rintro _ ⟨x, rfl⟩
  have HX := bx (HL.out.trans (x.bel.mono HL.out.size))
  go_wp2
  go_ret
  exact ⟨ret_int e5, HX.out⟩
theorem ref_place_no (n k b d p i : Int) (w : World) (h : ¬ placeOk n k b d p i) :
    Calls Try.prog 31 #[C3 n k b, .int .i64 d, .int .i64 p, .int .i64 i] w fun e w' => e = .returned (.int .i64 (-1)) ∧ Below w.heap.size w w' := by
  unfold placeOk at h
  obtain ⟨o, ho⟩ : ∃ o, loomOk n k b d = o := ⟨_, rfl⟩
  rw [ho] at h
  go_enter Try.func31, Try.ntmps31
  cases o with
  | false =>
    go_wp2_with (go_at_call 35; refine (ref21right n k b d _).mono ?_; rintro e w1 ⟨rfl, hb1⟩; rw [ho]; have HL := bx (((Below.refl _ _).alloc (Nat.le_refl _) _ : Below w.heap.size w (w.alloc (Obj.cells #[.int .i64 n, .int .i64 k, .int .i64 b] 24))).trans (hb1.mono (by simp))); clear hb1)
    go_ret
    exact ⟨rfl, HL.out⟩
  | true =>
    go_upto_region 3 with (go_at_call 35; refine (ref21right n k b d _).mono ?_; rintro e w1 ⟨rfl, hb1⟩; rw [ho]; have c0 : w1.cell? ⟨w.heap.size, 0, none⟩ = some (.int .i64 n) := (Blk.below (Blk.new w 24 [.int .i64 n, .int .i64 k, .int .i64 b]) hb1 (by simp)).cell rfl; have HL := bx (((Below.refl _ _).alloc (Nat.le_refl _) _ : Below w.heap.size w (w.alloc (Obj.cells #[.int .i64 n, .int .i64 k, .int .i64 b] 24))).trans (hb1.mono (by simp))); clear hb1)
    all_goals first
      | (exfalso; simp only [true_and] at h; omega)
      | (go_wp2; go_ret; exact ⟨rfl, HL.out⟩)
      | (go_ret; exact ⟨rfl, HL.out⟩)
theorem place_no (n k b d p i : Int) (w : World) (h : ¬ placeOk n k b d p i) :
    Calls Try.prog 18 #[C3 n k b, .int .i64 d, .int .i64 p, .int .i64 i] w fun e w' => e = .returned (.int .i64 (-1)) ∧ Below w.heap.size w w' := by
  unfold placeOk at h
  obtain ⟨o, ho⟩ : ∃ o, loomOk n k b d = o := ⟨_, rfl⟩
  rw [ho] at h
  go_enter Try.func18, Try.ntmps18
  cases o with
  | false =>
    go_wp2_with (go_at_call 21; refine (loom_right n k b d _).mono ?_; rintro e w1 ⟨rfl, hb1⟩; rw [ho]; have HL := bx ((((Below.refl _ _).alloc (Nat.le_refl _) _).alloc (by simp) _ : Below w.heap.size w ((w.alloc (Obj.cells #[.int .i64 n, .int .i64 k, .int .i64 b] 24)).alloc (Obj.cells #[.int .i64 n, .int .i64 k, .int .i64 b, .int .i64 d] 50))).trans (hb1.mono (by simp; omega))); have cn : w1.cell? ⟨w.heap.size + 1, 0, none⟩ = some (.int .i64 n) := (Blk.below (blk_new1 w (Obj.cells #[.int .i64 n, .int .i64 k, .int .i64 b] 24) 50 [.int .i64 n, .int .i64 k, .int .i64 b, .int .i64 d]) hb1 (by simp)).cell rfl; clear hb1)
    go_ret
    exact ⟨rfl, HL.out⟩
  | true =>
    go_upto_region 4 with (go_at_call 21; refine (loom_right n k b d _).mono ?_; rintro e w1 ⟨rfl, hb1⟩; rw [ho]; have HL := bx ((((Below.refl _ _).alloc (Nat.le_refl _) _).alloc (by simp) _ : Below w.heap.size w ((w.alloc (Obj.cells #[.int .i64 n, .int .i64 k, .int .i64 b] 24)).alloc (Obj.cells #[.int .i64 n, .int .i64 k, .int .i64 b, .int .i64 d] 50))).trans (hb1.mono (by simp; omega))); have cn : w1.cell? ⟨w.heap.size + 1, 0, none⟩ = some (.int .i64 n) := (Blk.below (blk_new1 w (Obj.cells #[.int .i64 n, .int .i64 k, .int .i64 b] 24) 50 [.int .i64 n, .int .i64 k, .int .i64 b, .int .i64 d]) hb1 (by simp)).cell rfl; clear hb1)
    all_goals first
      | (exfalso; simp only [true_and] at h; omega)
      | (go_wp2; go_ret; exact ⟨rfl, HL.out⟩)
      | (go_ret; exact ⟨rfl, HL.out⟩)
end Go.Proofs.Ytkjaonlelkfhaaa

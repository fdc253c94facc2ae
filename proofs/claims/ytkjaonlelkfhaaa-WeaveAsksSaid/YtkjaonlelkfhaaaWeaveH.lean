/- The walks of layer 21, eight: blocks that are woven: what is refused. -/
import Derived.Test.YtkjaonlelkfhaaaWeaveG
namespace Go.Proofs.Ytkjaonlelkfhaaa
open Go.RowKit Gf Bt

/-- The first world of Weave, behind its boxes and 'right'. -/
theorem weave_no (n k b d : Int) (v : Value) (xs : List (List UInt8)) (w : World) (hno : loomOk n k b d = false) :
    Calls Try.prog 12 #[C3 n k b, .int .i64 d, v] w fun e w' => e = .returned (.tuple #[.slice none 0 0, .int .u16 10]) ∧ Below w.heap.size w w' := by
  go_enter Try.func12, Try.ntmps12
  go_wp2_with (go_at_call 21; refine (loom_right n k b d _).mono ?_; rintro e w1 ⟨rfl, hb1⟩; rw [hno]; have HL := bx ((((Below.refl _ _).alloc (Nat.le_refl _) _).alloc (by simp) _ : Below w.heap.size w ((w.alloc (Obj.cells #[.int .i64 n, .int .i64 k, .int .i64 b] 24)).alloc (Obj.cells #[.int .i64 n, .int .i64 k, .int .i64 b, .int .i64 d] 50))).trans (hb1.mono (by simp; omega))); clear hb1)
  go_ret2
  exact ⟨rfl, HL.out⟩
theorem weave_short (n k b d : Int) (v : Value) (xs : List (List UInt8)) (w : World) (hok : loomOk n k b d = true) (hx : IsLst w w.heap.size v xs) (hm : xs.length ≤ 1000000) (hbad : ¬ ((xs.length : Int) % d = 0 ∧ ∀ x ∈ xs, (x.length : Int) = n)) :
    Calls Try.prog 12 #[C3 n k b, .int .i64 d, v] w fun e w' => e = .returned (.tuple #[.slice none 0 0, .int .u16 12]) ∧ Below w.heap.size w w' := by
  obtain ⟨A, c, rfl, hc, hc2⟩ := hx.form
  obtain ⟨k1, kn, nn, b0, b1, d1, d2⟩ := loomOk_bounds hok
  have HX := bx hx
  clear hx
  have hd0 : ¬ d = 0 := by omega
  have hl0 : (0 : Int) ≤ (xs.length : Int) := Int.natCast_nonneg _
  by_cases hd : (xs.length : Int) % d = 0
  · have hany : (xs.any fun x => decide ((x.length : Int) ≠ n)) = true := by
      cases h : (xs.any fun x => decide ((x.length : Int) ≠ n)) with
      | true => rfl
      | false =>
        refine absurd ⟨hd, fun x hx => ?_⟩ hbad
        have := List.any_eq_false.1 h x hx
        simpa using this
    clear hbad
    go_enter Try.func12, Try.ntmps12
    go_wp2_with (first
      | (go_at_call 21; refine (loom_right n k b d _).mono ?_; rintro e w1 ⟨rfl, hb1⟩; rw [hok]; have HL := bx ((((Below.refl _ _).alloc (Nat.le_refl _) _).alloc (by simp) _ : Below w.heap.size w ((w.alloc (Obj.cells #[.int .i64 n, .int .i64 k, .int .i64 b] 24)).alloc (Obj.cells #[.int .i64 n, .int .i64 k, .int .i64 b, .int .i64 d] 50))).trans (hb1.mono (by simp; omega))); have HB := bx (Blk.below (blk_new1 w (Obj.cells #[.int .i64 n, .int .i64 k, .int .i64 b] 24) 50 [.int .i64 n, .int .i64 k, .int .i64 b, .int .i64 d]) hb1 (by simp)); clear hb1)
      | (go_at_call 23; refine (containsfunc_any n k b d _ _ xs _ HB.out ((HX.out.below HL.out).more HL.out.size) (by omega)).mono ?_; rintro e w2 ⟨rfl, hb2⟩; rw [hany]; have HL2 := bx (HL.out.trans (hb2.mono HL.out.size)); clear hb2))
    go_ret2
    exact ⟨rfl, HL2.out⟩
  · go_enter Try.func12, Try.ntmps12
    clear hbad
    go_wp2_with (go_at_call 21; refine (loom_right n k b d _).mono ?_; rintro e w1 ⟨rfl, hb1⟩; rw [hok]; have HL := bx ((((Below.refl _ _).alloc (Nat.le_refl _) _).alloc (by simp) _ : Below w.heap.size w ((w.alloc (Obj.cells #[.int .i64 n, .int .i64 k, .int .i64 b] 24)).alloc (Obj.cells #[.int .i64 n, .int .i64 k, .int .i64 b, .int .i64 d] 50))).trans (hb1.mono (by simp; omega))); have HB := bx (Blk.below (blk_new1 w (Obj.cells #[.int .i64 n, .int .i64 k, .int .i64 b] 24) 50 [.int .i64 n, .int .i64 k, .int .i64 b, .int .i64 d]) hb1 (by simp)); clear hb1)
    go_ret2
    exact ⟨rfl, HL.out⟩
end Go.Proofs.Ytkjaonlelkfhaaa

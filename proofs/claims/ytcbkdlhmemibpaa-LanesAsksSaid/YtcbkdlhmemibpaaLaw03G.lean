/- The walk of erratumlaw03.asks. -/
import Derived.Test.YtcbkdlhmemibpaaLaw03E
namespace Go.Proofs.Ytcbkdlhmemibpaa
open Go.RowKit Gf Bt

theorem raddLL (p q : List UInt64) (x0 x1 x2 x3 x4 x5 x6 x7 : UInt64) (h : p = [x0, x1, x2, x3, x4, x5, x6, x7]) (y0 y1 y2 y3 y4 y5 y6 y7 : UInt64) (h2 : q = [y0, y1, y2, y3, y4, y5, y6, y7]) (w : World) :
    Calls Try.prog 26 #[.agg #[W64 x0, W64 x1, W64 x2, W64 x3, W64 x4, W64 x5, W64 x6, W64 x7], .agg #[W64 y0, W64 y1, W64 y2, W64 y3, W64 y4, W64 y5, W64 y6, W64 y7]] w fun e w' => e = .returned (.agg ((addP p q).map W64).toArray) ∧ Below w.heap.size w w' := by
  have := radd_any p q (by rw [h]; rfl) (by rw [h2]; rfl) w
  rw [arr8 h, arr8 h2] at this
  exact this
theorem rmulLL (p q : List UInt64) (x0 x1 x2 x3 x4 x5 x6 x7 : UInt64) (h : p = [x0, x1, x2, x3, x4, x5, x6, x7]) (y0 y1 y2 y3 y4 y5 y6 y7 : UInt64) (h2 : q = [y0, y1, y2, y3, y4, y5, y6, y7]) (w : World) :
    Calls Try.prog 27 #[.agg #[W64 x0, W64 x1, W64 x2, W64 x3, W64 x4, W64 x5, W64 x6, W64 x7], .agg #[W64 y0, W64 y1, W64 y2, W64 y3, W64 y4, W64 y5, W64 y6, W64 y7]] w fun e w' => e = .returned (.agg ((mulP p q).map W64).toArray) ∧ Below w.heap.size w w' := by
  have := rmul_any p q (by rw [h]; rfl) (by rw [h2]; rfl) w
  rw [arr8 h, arr8 h2] at this
  exact this
theorem rscaleL (p : List UInt64) (x0 x1 x2 x3 x4 x5 x6 x7 : UInt64) (h : p = [x0, x1, x2, x3, x4, x5, x6, x7]) (a : UInt8) (w : World) :
    Calls Try.prog 28 #[.agg #[W64 x0, W64 x1, W64 x2, W64 x3, W64 x4, W64 x5, W64 x6, W64 x7], .int .u8 (a.toNat : Int)] w fun e w' => e = .returned (.agg ((scaleP p a).map W64).toArray) ∧ Below w.heap.size w w' := by
  have := rscale_any p (by rw [h]; rfl) a w
  rw [arr8 h] at this
  exact this
theorem laneIL (p : List UInt64) (x0 x1 x2 x3 x4 x5 x6 x7 : UInt64) (h : p = [x0, x1, x2, x3, x4, x5, x6, x7]) (n : Int) (w : World) :
    Calls Try.prog 13 #[.agg #[W64 x0, W64 x1, W64 x2, W64 x3, W64 x4, W64 x5, W64 x6, W64 x7], .int .i64 n] w fun e w' => e = .returned (.int .u8 ((laneI p n).toNat : Int)) ∧ Below w.heap.size w w' := by
  have := lane_any p (by rw [h]; rfl) n w
  rw [arr8 h] at this
  exact this
theorem rlaneIL (p : List UInt64) (x0 x1 x2 x3 x4 x5 x6 x7 : UInt64) (h : p = [x0, x1, x2, x3, x4, x5, x6, x7]) (n : Int) (w : World) :
    Calls Try.prog 25 #[.agg #[W64 x0, W64 x1, W64 x2, W64 x3, W64 x4, W64 x5, W64 x6, W64 x7], .int .i64 n] w fun e w' => e = .returned (.int .u8 ((laneI p n).toNat : Int)) ∧ Below w.heap.size w w' := by
  have := rlane_any p (by rw [h]; rfl) n w
  rw [arr8 h] at this
  exact this
theorem runpackL (p : List UInt64) (x0 x1 x2 x3 x4 x5 x6 x7 : UInt64) (h : p = [x0, x1, x2, x3, x4, x5, x6, x7]) (w : World) :
    Calls Try.prog 24 #[.agg #[W64 x0, W64 x1, W64 x2, W64 x3, W64 x4, W64 x5, W64 x6, W64 x7]] w fun e w' => ∃ A c, e = .returned (.slice A 64 c) ∧ Rd w' w'.heap.size A ((lanes p).map B8) ∧ Below w.heap.size w w' := by
  have := runpack_any p (by rw [h]; rfl) w
  rw [arr8 h] at this
  exact this
theorem same_lanes (A A' : Option Addr) (p : List UInt64) (c c' : Nat) (w : World) (h1 : Rd w w.heap.size A ((lanes p).map B8)) (h2 : Rd w w.heap.size A' ((lanes p).map B8)) :
    Calls Try.prog 23 #[.slice A 64 c, .slice A' 64 c'] w fun e w' => e = .returned (.bool true) ∧ Below w.heap.size w w' := by
  have := same_any A A' (lanes p) (lanes p) c c' w h1 h2 (by rw [lanes_length]; decide)
  rw [lanes_length, decide_eq_true rfl] at this
  exact this
set_option maxRecDepth 100000 in
set_option maxHeartbeats 8000000 in
theorem asks03 (p q : List UInt64) (hp : p.length = 8) (hq : q.length = 8) (a : UInt8) (n : Int) (w : World) :
    Calls Try.prog 18 #[.agg (p.map W64).toArray, .agg (q.map W64).toArray, B8 a, .int .i64 n] w fun e w' => e = .returned (.bool true) ∧ Below w.heap.size w w' := by
  obtain ⟨x0, x1, x2, x3, x4, x5, x6, x7, hx⟩ := list8 p hp
  obtain ⟨y0, y1, y2, y3, y4, y5, y6, y7, hy⟩ := list8 q hq
  have he1 := bx (eq_same (addP p q) (addP_length _ _))
  have he2 := bx (eq_same (mulP p q) (mulP_length _ _))
  have he3 := bx (eq_same (scaleP p a) (scaleP_length _ _))
  have he4 := bx (eq_planes _ _ (square_mul p hp) (squareP_length _))
  rw [arr8 hx, arr8 hy]
  have HX := bx hx
  have HY := bx hy
  clear hp hq hx hy
  go_enter Try.func18, Try.ntmps18
  go_wp2_with fail
  obtain ⟨w1, hw1⟩ : ∃ w1, (w.alloc (.cells #[W64 x0, W64 x1, W64 x2, W64 x3, W64 x4, W64 x5, W64 x6, W64 x7] 24)).alloc (.cells #[W64 y0, W64 y1, W64 y2, W64 y3, W64 y4, W64 y5, W64 y6, W64 y7] 24) = w1 := ⟨_, rfl⟩
  have H1 : Bx (Blk w1 w.heap.size 24 [W64 x0, W64 x1, W64 x2, W64 x3, W64 x4, W64 x5, W64 x6, W64 x7]) := bx (by rw [← hw1]; exact (Blk.new w 24 [W64 x0, W64 x1, W64 x2, W64 x3, W64 x4, W64 x5, W64 x6, W64 x7]).alloc _)
  have H2 : Bx (Blk w1 (w.heap.size + 1) 24 [W64 y0, W64 y1, W64 y2, W64 y3, W64 y4, W64 y5, W64 y6, W64 y7]) := bx (by rw [← hw1]; exact blk_new1 w _ 24 [W64 y0, W64 y1, W64 y2, W64 y3, W64 y4, W64 y5, W64 y6, W64 y7])
  have HL : Bx (Below w.heap.size w w1) := bx (by rw [← hw1]; exact ((Below.refl _ _).alloc (Nat.le_refl _) _).alloc (by simp) _)
  have hs1 : w.heap.size + 1 < w1.heap.size := H2.out.lt
  rw [hw1]
  clear hw1
  have c0 : ∀ w', Below (w1.heap.size) w1 w' → w'.cell? ⟨w.heap.size, 0, none⟩ = some (W64 x0) := fun w' h => (Blk.below H1.out h (by omega)).cell rfl
  have c1 : ∀ w', Below (w1.heap.size) w1 w' → w'.cell? ⟨w.heap.size, 1, none⟩ = some (W64 x1) := fun w' h => (Blk.below H1.out h (by omega)).cell rfl
  have c2 : ∀ w', Below (w1.heap.size) w1 w' → w'.cell? ⟨w.heap.size, 2, none⟩ = some (W64 x2) := fun w' h => (Blk.below H1.out h (by omega)).cell rfl
  have c3 : ∀ w', Below (w1.heap.size) w1 w' → w'.cell? ⟨w.heap.size, 3, none⟩ = some (W64 x3) := fun w' h => (Blk.below H1.out h (by omega)).cell rfl
  have c4 : ∀ w', Below (w1.heap.size) w1 w' → w'.cell? ⟨w.heap.size, 4, none⟩ = some (W64 x4) := fun w' h => (Blk.below H1.out h (by omega)).cell rfl
  have c5 : ∀ w', Below (w1.heap.size) w1 w' → w'.cell? ⟨w.heap.size, 5, none⟩ = some (W64 x5) := fun w' h => (Blk.below H1.out h (by omega)).cell rfl
  have c6 : ∀ w', Below (w1.heap.size) w1 w' → w'.cell? ⟨w.heap.size, 6, none⟩ = some (W64 x6) := fun w' h => (Blk.below H1.out h (by omega)).cell rfl
  have c7 : ∀ w', Below (w1.heap.size) w1 w' → w'.cell? ⟨w.heap.size, 7, none⟩ = some (W64 x7) := fun w' h => (Blk.below H1.out h (by omega)).cell rfl
  have d0 : ∀ w', Below (w1.heap.size) w1 w' → w'.cell? ⟨w.heap.size + 1, 0, none⟩ = some (W64 y0) := fun w' h => (Blk.below H2.out h (by omega)).cell rfl
  have d1 : ∀ w', Below (w1.heap.size) w1 w' → w'.cell? ⟨w.heap.size + 1, 1, none⟩ = some (W64 y1) := fun w' h => (Blk.below H2.out h (by omega)).cell rfl
  have d2 : ∀ w', Below (w1.heap.size) w1 w' → w'.cell? ⟨w.heap.size + 1, 2, none⟩ = some (W64 y2) := fun w' h => (Blk.below H2.out h (by omega)).cell rfl
  have d3 : ∀ w', Below (w1.heap.size) w1 w' → w'.cell? ⟨w.heap.size + 1, 3, none⟩ = some (W64 y3) := fun w' h => (Blk.below H2.out h (by omega)).cell rfl
  have d4 : ∀ w', Below (w1.heap.size) w1 w' → w'.cell? ⟨w.heap.size + 1, 4, none⟩ = some (W64 y4) := fun w' h => (Blk.below H2.out h (by omega)).cell rfl
  have d5 : ∀ w', Below (w1.heap.size) w1 w' → w'.cell? ⟨w.heap.size + 1, 5, none⟩ = some (W64 y5) := fun w' h => (Blk.below H2.out h (by omega)).cell rfl
  have d6 : ∀ w', Below (w1.heap.size) w1 w' → w'.cell? ⟨w.heap.size + 1, 6, none⟩ = some (W64 y6) := fun w' h => (Blk.below H2.out h (by omega)).cell rfl
  have d7 : ∀ w', Below (w1.heap.size) w1 w' → w'.cell? ⟨w.heap.size + 1, 7, none⟩ = some (W64 y7) := fun w' h => (Blk.below H2.out h (by omega)).cell rfl
  have HSc : Bx (Below w1.heap.size w1 w1.drew) := bx (Below.refl _ _).drew
  have he1 := he1.out
  have he2 := he2.out
  have he3 := he3.out
  have he4 := he4.out
  go_region_held3 (fun w' => Below w1.heap.size w1 w') (exact HSc.out)
    (first
      | (go_at_call 10; refine (unpack8 p x0 x1 x2 x3 x4 x5 x6 x7 HX.out _).mono ?_; rintro e w3 ⟨g3, rfl, hg3, hbg3, hb3⟩
         have HSc := bx (HSc.out.trans (hb3.mono HSc.out.size))
         have HG3 := bx hbg3
         clear hbg3 hg3 hb3)
      | (go_at_call 24; refine (runpackL p x0 x1 x2 x3 x4 x5 x6 x7 HX.out _).mono ?_; rintro e w4 ⟨A4, c4, rfl, hrd4, hb4⟩
         have HSc := bx (HSc.out.trans (hb4.mono HSc.out.size))
         have HG4 := bx (HG3.out.below hb4 HG3.out.lt)
         have HR4 := bx hrd4
         clear hb4 hrd4)
      | (go_at_call 23; refine (same_lanes _ _ p _ _ _ (Rd.of_blk HG4.out HG4.out.lt) HR4.out).mono ?_; rintro e w5 ⟨rfl, hb5⟩
         have HSc := bx (HSc.out.trans (hb5.mono HSc.out.size))
         clear hb5)
      | (go_at_call 13; refine (laneIL p x0 x1 x2 x3 x4 x5 x6 x7 HX.out _ _).mono ?_; rintro e w5 ⟨rfl, hb5⟩
         have HSc := bx (HSc.out.trans (hb5.mono HSc.out.size))
         clear hb5)
      | (go_at_call 25; refine (rlaneIL p x0 x1 x2 x3 x4 x5 x6 x7 HX.out _ _).mono ?_; rintro e w5 ⟨rfl, hb5⟩
         have HSc := bx (HSc.out.trans (hb5.mono HSc.out.size))
         clear hb5)
      | (go_at_call 17; refine (addLL p q x0 x1 x2 x3 x4 x5 x6 x7 HX.out y0 y1 y2 y3 y4 y5 y6 y7 HY.out _).mono ?_; rintro e w5 ⟨rfl, hb5⟩
         have HSc := bx (HSc.out.trans (hb5.mono HSc.out.size))
         clear hb5)
      | (go_at_call 26; refine (raddLL p q x0 x1 x2 x3 x4 x5 x6 x7 HX.out y0 y1 y2 y3 y4 y5 y6 y7 HY.out _).mono ?_; rintro e w5 ⟨rfl, hb5⟩
         have HSc := bx (HSc.out.trans (hb5.mono HSc.out.size))
         clear hb5)
      | (go_at_call 12; refine (mulLL p q x0 x1 x2 x3 x4 x5 x6 x7 HX.out y0 y1 y2 y3 y4 y5 y6 y7 HY.out _).mono ?_; rintro e w5 ⟨rfl, hb5⟩
         have HSc := bx (HSc.out.trans (hb5.mono HSc.out.size))
         clear hb5)
      | (go_at_call 27; (first | with_reducible refine (rmulLL p q x0 x1 x2 x3 x4 x5 x6 x7 HX.out y0 y1 y2 y3 y4 y5 y6 y7 HY.out _).mono ?_ | with_reducible refine (rmulLL p p x0 x1 x2 x3 x4 x5 x6 x7 HX.out x0 x1 x2 x3 x4 x5 x6 x7 HX.out _).mono ?_); rintro e w5 ⟨rfl, hb5⟩
         have HSc := bx (HSc.out.trans (hb5.mono HSc.out.size))
         clear hb5)
      | (go_at_call 16; refine (scale8 p x0 x1 x2 x3 x4 x5 x6 x7 HX.out a _).mono ?_; rintro e w5 ⟨rfl, hb5⟩
         have HSc := bx (HSc.out.trans (hb5.mono HSc.out.size))
         clear hb5)
      | (go_at_call 28; refine (rscaleL p x0 x1 x2 x3 x4 x5 x6 x7 HX.out a _).mono ?_; rintro e w5 ⟨rfl, hb5⟩
         have HSc := bx (HSc.out.trans (hb5.mono HSc.out.size))
         clear hb5)
      | (go_at_call 15; refine (squareL p x0 x1 x2 x3 x4 x5 x6 x7 HX.out _).mono ?_; rintro e w5 ⟨rfl, hb5⟩
         have HSc := bx (HSc.out.trans (hb5.mono HSc.out.size))
         clear hb5))
  have hS := bx (by assumption : Below w1.heap.size w1 w5)
  go_wp2
  go_ret
  exact ⟨rfl, HL.out.trans (hS.out.mono (by omega))⟩
end Go.Proofs.Ytcbkdlhmemibpaa

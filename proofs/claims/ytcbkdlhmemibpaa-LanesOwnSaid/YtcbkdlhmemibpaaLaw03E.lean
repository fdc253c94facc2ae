/- The walk of the law LanesRing. -/
import Derived.Test.YtcbkdlhmemibpaaLaw03D
namespace Go.Proofs.Ytcbkdlhmemibpaa
open Go.RowKit Gf Bt

/-- n times the same byte. -/
def repB (n : Nat) (a : UInt8) : List UInt8 := List.replicate n a
theorem repB_length (n : Nat) (a : UInt8) : (repB n a).length = n := List.length_replicate ..
theorem mul_comm' (p q : List UInt64) (hp : p.length = 8) (hq : q.length = 8) : mulP p q = mulP q p :=
  planes_ext (mulP_length _ _) (mulP_length _ _) fun n hn => by rw [lane_mulP p q hp hq hn, lane_mulP q p hq hp hn, gmul_comm]
theorem mul_add' (p q r : List UInt64) (hp : p.length = 8) (hq : q.length = 8) (hr : r.length = 8) : mulP p (addP q r) = addP (mulP p q) (mulP p r) :=
  planes_ext (mulP_length _ _) (addP_length _ _) fun n hn => by rw [lane_mulP p _ hp (addP_length _ _) hn, lane_addP _ _ hn, lane_addP _ _ hn, lane_mulP p q hp hq hn, lane_mulP p r hp hr hn, gmul_xor]
theorem mul_assoc' (p q r : List UInt64) (hp : p.length = 8) (hq : q.length = 8) (hr : r.length = 8) : mulP (mulP p q) r = mulP p (mulP q r) :=
  planes_ext (mulP_length _ _) (mulP_length _ _) fun n hn => by rw [lane_mulP _ r (mulP_length _ _) hr hn, lane_mulP p _ hp (mulP_length _ _) hn, lane_mulP p q hp hq hn, lane_mulP q r hq hr hn, gmul_assoc]
theorem square_mul (p : List UInt64) (hp : p.length = 8) : squareP p = mulP p p :=
  planes_ext (squareP_length _) (mulP_length _ _) fun n hn => by rw [lane_squareP p hp hn, lane_mulP p p hp hp hn]
theorem scale_mul (p : List UInt64) (hp : p.length = 8) (a : UInt8) : scaleP p a = mulP p (pack (repB 64 a)) :=
  planes_ext (scaleP_length _ _) (mulP_length _ _) fun n hn => by
    rw [lane_scaleP p hp _ hn, lane_mulP p _ hp (pack_length _) hn, lane_pack _ hn, repB, List.getD_eq_getElem?_getD, List.getElem?_replicate, if_pos hn]; rfl
theorem add_self (p : List UInt64) : addP p p = List.replicate 8 0 :=
  planes_ext (addP_length _ _) (by simp) fun n hn => by rw [lane_addP _ _ hn, lane_zero8, UInt8.xor_self]
theorem mulLL (p q : List UInt64) (x0 x1 x2 x3 x4 x5 x6 x7 : UInt64) (h : p = [x0, x1, x2, x3, x4, x5, x6, x7]) (y0 y1 y2 y3 y4 y5 y6 y7 : UInt64) (h2 : q = [y0, y1, y2, y3, y4, y5, y6, y7]) (w : World) :
    Calls Try.prog 12 #[.agg #[W64 x0, W64 x1, W64 x2, W64 x3, W64 x4, W64 x5, W64 x6, W64 x7], .agg #[W64 y0, W64 y1, W64 y2, W64 y3, W64 y4, W64 y5, W64 y6, W64 y7]] w fun e w' => e = .returned (.agg ((mulP p q).map W64).toArray) ∧ Below w.heap.size w w' := by
  have := mul_any p q (by rw [h]; rfl) (by rw [h2]; rfl) w
  rw [arr8 h, arr8 h2] at this
  exact this
theorem mulLT (p q : List UInt64) (x0 x1 x2 x3 x4 x5 x6 x7 : UInt64) (h : p = [x0, x1, x2, x3, x4, x5, x6, x7]) (hq : q.length = 8) (w : World) :
    Calls Try.prog 12 #[.agg #[W64 x0, W64 x1, W64 x2, W64 x3, W64 x4, W64 x5, W64 x6, W64 x7], .agg (q.map W64).toArray] w fun e w' => e = .returned (.agg ((mulP p q).map W64).toArray) ∧ Below w.heap.size w w' := by
  have := mul_any p q (by rw [h]; rfl) hq w
  rw [arr8 h] at this
  exact this
theorem mulTL (p q : List UInt64) (hp : p.length = 8) (y0 y1 y2 y3 y4 y5 y6 y7 : UInt64) (h2 : q = [y0, y1, y2, y3, y4, y5, y6, y7]) (w : World) :
    Calls Try.prog 12 #[.agg (p.map W64).toArray, .agg #[W64 y0, W64 y1, W64 y2, W64 y3, W64 y4, W64 y5, W64 y6, W64 y7]] w fun e w' => e = .returned (.agg ((mulP p q).map W64).toArray) ∧ Below w.heap.size w w' := by
  have := mul_any p q hp (by rw [h2]; rfl) w
  rw [arr8 h2] at this
  exact this
theorem addLL (p q : List UInt64) (x0 x1 x2 x3 x4 x5 x6 x7 : UInt64) (h : p = [x0, x1, x2, x3, x4, x5, x6, x7]) (y0 y1 y2 y3 y4 y5 y6 y7 : UInt64) (h2 : q = [y0, y1, y2, y3, y4, y5, y6, y7]) (w : World) :
    Calls Try.prog 17 #[.agg #[W64 x0, W64 x1, W64 x2, W64 x3, W64 x4, W64 x5, W64 x6, W64 x7], .agg #[W64 y0, W64 y1, W64 y2, W64 y3, W64 y4, W64 y5, W64 y6, W64 y7]] w fun e w' => e = .returned (.agg ((addP p q).map W64).toArray) ∧ Below w.heap.size w w' := by
  have := add_any p q (by rw [h]; rfl) (by rw [h2]; rfl) w
  rw [arr8 h, arr8 h2] at this
  exact this
theorem squareL (p : List UInt64) (x0 x1 x2 x3 x4 x5 x6 x7 : UInt64) (h : p = [x0, x1, x2, x3, x4, x5, x6, x7]) (w : World) :
    Calls Try.prog 15 #[.agg #[W64 x0, W64 x1, W64 x2, W64 x3, W64 x4, W64 x5, W64 x6, W64 x7]] w fun e w' => e = .returned (.agg ((squareP p).map W64).toArray) ∧ Below w.heap.size w w' := by
  have := square_any p (by rw [h]; rfl) w
  rw [arr8 h] at this
  exact this
theorem rep_succ (k : Nat) (a : UInt8) : (repB k a).map B8 ++ [B8 a] = (repB (k + 1) a).map B8 := by
  unfold repB
  rw [List.replicate_succ', List.map_append]; rfl
set_option maxRecDepth 100000 in
set_option maxHeartbeats 8000000 in
theorem ring_any (p q r : List UInt64) (hp : p.length = 8) (hq : q.length = 8) (hr : r.length = 8) (a : UInt8) (w : World) :
    Calls Try.prog 8 #[.agg (p.map W64).toArray, .agg (q.map W64).toArray, .agg (r.map W64).toArray, B8 a] w fun e w' => e = .returned (.bool true) ∧ Below w.heap.size w w' := by
  obtain ⟨x0, x1, x2, x3, x4, x5, x6, x7, hx⟩ := list8 p hp
  obtain ⟨y0, y1, y2, y3, y4, y5, y6, y7, hy⟩ := list8 q hq
  obtain ⟨z0, z1, z2, z3, z4, z5, z6, z7, hz⟩ := list8 r hr
  have he1 := bx (eq_planes _ _ (mul_comm' p q hp hq) (mulP_length _ _))
  have he2 := bx (eq_planes _ _ (mul_add' p q r hp hq hr) (mulP_length _ _))
  have he3 := bx (eq_planes _ _ (mul_assoc' p q r hp hq hr) (mulP_length _ _))
  have he4 := bx (eq_planes _ _ (square_mul p hp) (squareP_length _))
  have he5 := bx (eq_planes _ _ (scale_mul p hp a) (scaleP_length _ _))
  have he6 : Bx (∀ w, (Op.equalIn 10000 24 (.agg ((addP p p).map W64).toArray) (.agg #[.int .u64 0, .int .u64 0, .int .u64 0, .int .u64 0, .int .u64 0, .int .u64 0, .int .u64 0, .int .u64 0])).run Try.prog w = .ok true w) :=
    bx (eq_planes _ (List.replicate 8 0) (add_self p) (addP_length _ _))
  rw [arr8 hx, arr8 hy, arr8 hz]
  have HX := bx hx
  have HY := bx hy
  have HZ := bx hz
  clear hp hq hr hx hy hz
  go_enter Try.func8, Try.ntmps8
  go_wp2
  go_loopw [9, 10] (fun v i wr => ∃ k : Nat, k ≤ 64 ∧ i = .int .i64 k ∧ wr.ownsRow (w.heap.size + 3) 5 1 v k ((repB k a).map B8) ∧
      Blk wr w.heap.size 24 [W64 x0, W64 x1, W64 x2, W64 x3, W64 x4, W64 x5, W64 x6, W64 x7] ∧ Blk wr (w.heap.size + 1) 24 [W64 y0, W64 y1, W64 y2, W64 y3, W64 y4, W64 y5, W64 y6, W64 y7] ∧ Blk wr (w.heap.size + 2) 24 [W64 z0, W64 z1, W64 z2, W64 z3, W64 z4, W64 z5, W64 z6, W64 z7] ∧ Below w.heap.size w wr) (fun _ i _ => 64 - (intOf i).toNat)
  case atStart => exact ⟨0, by omega, rfl, own_nil _ _ _, ((Blk.new w _ [W64 x0, W64 x1, W64 x2, W64 x3, W64 x4, W64 x5, W64 x6, W64 x7]).alloc _).alloc _, (blk_new1 w _ _ [W64 y0, W64 y1, W64 y2, W64 y3, W64 y4, W64 y5, W64 y6, W64 y7]).alloc _, blk_new2 w _ _ _ [W64 z0, W64 z1, W64 z2, W64 z3, W64 z4, W64 z5, W64 z6, W64 z7], (((Below.refl _ _).alloc (Nat.le_refl _) _).alloc (by simp) _).alloc (by simp <;> omega) _⟩
  case round =>
    obtain ⟨k, hk, rfl, hown, h1, h2, h3, hbel⟩ := hrel
    have hgl := h3.lt
    have HO := bx hown
    have H1 := bx h1
    have H2 := bx h2
    have H3 := bx h3
    have HL := bx hbel
    clear hown h1 h2 h3 hbel
    by_cases hlt : k < 64
    · have hk0 : (0 : Int) ≤ (k : Int) := Int.natCast_nonneg _
      go_wp2_with (first
        | (refine ap_one rfl _ _ 25 rfl (w.heap.size + 3) 5 _ 1 Try.underlying25 u8_info rfl _ _ _ rfl (own_below HO.out ((Below.refl _ _).alloc (Nat.le_refl _) _)) _ 1 (B8 a) rfl ?c1 rfl (by omega) (by decide) (by simp; omega) ?_
           case c1 => simp
           intro v2 w2 hown2 hb2))
      go_roundw
      case rel =>
        refine ⟨k + 1, by omega, by go_num, by rw [← rep_succ]; exact hown2, (H1.out.alloc _).below hb2 (by omega), (H2.out.alloc _).below hb2 (by omega), (H3.out.alloc _).below hb2 (by omega), (HL.out.alloc (by have := HL.out.size; omega) _).trans (hb2.mono (by omega))⟩
      case measure => simp [intOf]; omega
    · obtain rfl : k = 64 := by omega
      obtain ⟨A, c, rfl, hc, hrd⟩ := own_slice HO.out
      have HRD := bx hrd
      clear hrd hlt
      go_wp2
      obtain ⟨w1, rfl⟩ : ∃ w1, w1 = wr := ⟨_, rfl⟩
      have hl1 : w.heap.size < w1.heap.size := by omega
      have hl2 : w.heap.size + 1 < w1.heap.size := by omega
      refine wp_region_ext (w := w1) w1.heap.size (by kernel_rfl) (by kernel_rfl) ?_
      have c0 : ∀ x : Ext w1.heap.size w1, x.w.cell? ⟨w.heap.size, 0, none⟩ = some (W64 x0) := ext_cell H1.out hl1 rfl
      have c1 : ∀ x : Ext w1.heap.size w1, x.w.cell? ⟨w.heap.size, 1, none⟩ = some (W64 x1) := ext_cell H1.out hl1 rfl
      have c2 : ∀ x : Ext w1.heap.size w1, x.w.cell? ⟨w.heap.size, 2, none⟩ = some (W64 x2) := ext_cell H1.out hl1 rfl
      have c3 : ∀ x : Ext w1.heap.size w1, x.w.cell? ⟨w.heap.size, 3, none⟩ = some (W64 x3) := ext_cell H1.out hl1 rfl
      have c4 : ∀ x : Ext w1.heap.size w1, x.w.cell? ⟨w.heap.size, 4, none⟩ = some (W64 x4) := ext_cell H1.out hl1 rfl
      have c5 : ∀ x : Ext w1.heap.size w1, x.w.cell? ⟨w.heap.size, 5, none⟩ = some (W64 x5) := ext_cell H1.out hl1 rfl
      have c6 : ∀ x : Ext w1.heap.size w1, x.w.cell? ⟨w.heap.size, 6, none⟩ = some (W64 x6) := ext_cell H1.out hl1 rfl
      have c7 : ∀ x : Ext w1.heap.size w1, x.w.cell? ⟨w.heap.size, 7, none⟩ = some (W64 x7) := ext_cell H1.out hl1 rfl
      have d0 : ∀ x : Ext w1.heap.size w1, x.w.cell? ⟨w.heap.size + 1, 0, none⟩ = some (W64 y0) := ext_cell H2.out hl2 rfl
      have d1 : ∀ x : Ext w1.heap.size w1, x.w.cell? ⟨w.heap.size + 1, 1, none⟩ = some (W64 y1) := ext_cell H2.out hl2 rfl
      have d2 : ∀ x : Ext w1.heap.size w1, x.w.cell? ⟨w.heap.size + 1, 2, none⟩ = some (W64 y2) := ext_cell H2.out hl2 rfl
      have d3 : ∀ x : Ext w1.heap.size w1, x.w.cell? ⟨w.heap.size + 1, 3, none⟩ = some (W64 y3) := ext_cell H2.out hl2 rfl
      have d4 : ∀ x : Ext w1.heap.size w1, x.w.cell? ⟨w.heap.size + 1, 4, none⟩ = some (W64 y4) := ext_cell H2.out hl2 rfl
      have d5 : ∀ x : Ext w1.heap.size w1, x.w.cell? ⟨w.heap.size + 1, 5, none⟩ = some (W64 y5) := ext_cell H2.out hl2 rfl
      have d6 : ∀ x : Ext w1.heap.size w1, x.w.cell? ⟨w.heap.size + 1, 6, none⟩ = some (W64 y6) := ext_cell H2.out hl2 rfl
      have d7 : ∀ x : Ext w1.heap.size w1, x.w.cell? ⟨w.heap.size + 1, 7, none⟩ = some (W64 y7) := ext_cell H2.out hl2 rfl
      have f0 : ∀ x : Ext w1.heap.size w1, x.w.cell? ⟨w.heap.size + 2, 0, none⟩ = some (W64 z0) := ext_cell H3.out hgl rfl
      have f1 : ∀ x : Ext w1.heap.size w1, x.w.cell? ⟨w.heap.size + 2, 1, none⟩ = some (W64 z1) := ext_cell H3.out hgl rfl
      have f2 : ∀ x : Ext w1.heap.size w1, x.w.cell? ⟨w.heap.size + 2, 2, none⟩ = some (W64 z2) := ext_cell H3.out hgl rfl
      have f3 : ∀ x : Ext w1.heap.size w1, x.w.cell? ⟨w.heap.size + 2, 3, none⟩ = some (W64 z3) := ext_cell H3.out hgl rfl
      have f4 : ∀ x : Ext w1.heap.size w1, x.w.cell? ⟨w.heap.size + 2, 4, none⟩ = some (W64 z4) := ext_cell H3.out hgl rfl
      have f5 : ∀ x : Ext w1.heap.size w1, x.w.cell? ⟨w.heap.size + 2, 5, none⟩ = some (W64 z5) := ext_cell H3.out hgl rfl
      have f6 : ∀ x : Ext w1.heap.size w1, x.w.cell? ⟨w.heap.size + 2, 6, none⟩ = some (W64 z6) := ext_cell H3.out hgl rfl
      have f7 : ∀ x : Ext w1.heap.size w1, x.w.cell? ⟨w.heap.size + 2, 7, none⟩ = some (W64 z7) := ext_cell H3.out hgl rfl
      have he1 := he1.out
      have he2 := he2.out
      have he3 := he3.out
      have he4 := he4.out
      have he5 := he5.out
      have he6 := he6.out
      repeat (go_big_quiet_step ((first
        | (go_at_call 9; exact ext_call (Nat.le_refl _) (known03 _))
        | (go_at_call 12; first
            | with_reducible exact ext_call (Nat.le_refl _) (mulLL p q x0 x1 x2 x3 x4 x5 x6 x7 HX.out y0 y1 y2 y3 y4 y5 y6 y7 HY.out _)
            | with_reducible exact ext_call (Nat.le_refl _) (mulLL q p y0 y1 y2 y3 y4 y5 y6 y7 HY.out x0 x1 x2 x3 x4 x5 x6 x7 HX.out _)
            | with_reducible exact ext_call (Nat.le_refl _) (mulLL p r x0 x1 x2 x3 x4 x5 x6 x7 HX.out z0 z1 z2 z3 z4 z5 z6 z7 HZ.out _)
            | with_reducible exact ext_call (Nat.le_refl _) (mulLL q r y0 y1 y2 y3 y4 y5 y6 y7 HY.out z0 z1 z2 z3 z4 z5 z6 z7 HZ.out _)
            | with_reducible exact ext_call (Nat.le_refl _) (mulLL p p x0 x1 x2 x3 x4 x5 x6 x7 HX.out x0 x1 x2 x3 x4 x5 x6 x7 HX.out _)
            | with_reducible exact ext_call (Nat.le_refl _) (mulLT p (addP q r) x0 x1 x2 x3 x4 x5 x6 x7 HX.out (addP_length q r) _)
            | with_reducible exact ext_call (Nat.le_refl _) (mulLT p (mulP q r) x0 x1 x2 x3 x4 x5 x6 x7 HX.out (mulP_length q r) _)
            | with_reducible exact ext_call (Nat.le_refl _) (mulTL (mulP p q) r (mulP_length p q) z0 z1 z2 z3 z4 z5 z6 z7 HZ.out _)
            | with_reducible exact ext_call (Nat.le_refl _) (mulLT p (pack (repB 64 a)) x0 x1 x2 x3 x4 x5 x6 x7 HX.out (pack_length _) _))
        | (go_at_call 17; first
            | with_reducible exact ext_call (Nat.le_refl _) (addLL q r y0 y1 y2 y3 y4 y5 y6 y7 HY.out z0 z1 z2 z3 z4 z5 z6 z7 HZ.out _)
            | with_reducible exact ext_call (Nat.le_refl _) (addLL p p x0 x1 x2 x3 x4 x5 x6 x7 HX.out x0 x1 x2 x3 x4 x5 x6 x7 HX.out _)
            | with_reducible exact ext_call (Nat.le_refl _) (add_any (mulP p q) (mulP p r) (mulP_length p q) (mulP_length p r) _))
        | (go_at_call 15; with_reducible exact ext_call (Nat.le_refl _) (squareL p x0 x1 x2 x3 x4 x5 x6 x7 HX.out _))
        | (go_at_call 16; with_reducible exact ext_call (Nat.le_refl _) (scale8 p x0 x1 x2 x3 x4 x5 x6 x7 HX.out a _))
        | (go_at_call 11; exact ext_call (Nat.le_refl _) (pack_n A (repB 64 a) 64 c (repB_length 64 a) _ ((HRD.out.below (Ext.bel _)).more (Ext.bel _).size) hc (by decide))))))
      refine wpQuiet_nil ?_
      rintro _ ⟨x, rfl⟩
      go_wp2
      go_ret
      exact ⟨rfl, HL.out.trans (x.bel.mono (by omega))⟩
end Go.Proofs.Ytcbkdlhmemibpaa

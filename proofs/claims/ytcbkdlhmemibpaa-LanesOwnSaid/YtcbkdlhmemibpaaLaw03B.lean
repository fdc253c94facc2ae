/- The walks of the laws LanesOrder, LanesOne. -/
import Derived.Test.YtcbkdlhmemibpaaLaw03A
namespace Go.Proofs.Ytcbkdlhmemibpaa
open Go.RowKit Gf Bt

theorem eq_same (p : List UInt64) (hp : p.length = 8) (w : World) :
    (Op.equalIn 10000 24 (.agg (p.map W64).toArray) (.agg (p.map W64).toArray)).run Try.prog w = .ok true w := by
  obtain ⟨x0, x1, x2, x3, x4, x5, x6, x7, rfl⟩ := list8 p hp
  simp only [List.map_cons, List.map_nil]
  rw [show 10000 = 9998 + 1 + 1 from rfl]
  rw [Op.equalIn]
  simp only [Sem.run_bind, run_underlying Try.underlying24, Result.andThen_ok]
  simp [go_sem, Std.Legacy.Range.forIn_eq_forIn_range', List.range'_succ]
theorem eq_planes (p q : List UInt64) (h : p = q) (hp : p.length = 8) (w : World) :
    (Op.equalIn 10000 24 (.agg (p.map W64).toArray) (.agg (q.map W64).toArray)).run Try.prog w = .ok true w := by
  subst h; exact eq_same p hp w
theorem arr8 {p : List UInt64} {x0 x1 x2 x3 x4 x5 x6 x7 : UInt64} (h : p = [x0, x1, x2, x3, x4, x5, x6, x7]) : (p.map W64).toArray = #[W64 x0, W64 x1, W64 x2, W64 x3, W64 x4, W64 x5, W64 x6, W64 x7] := by rw [h]; rfl
theorem scale8 (p : List UInt64) (x0 x1 x2 x3 x4 x5 x6 x7 : UInt64) (h : p = [x0, x1, x2, x3, x4, x5, x6, x7]) (a : UInt8) (w : World) :
    Calls Try.prog 16 #[.agg #[W64 x0, W64 x1, W64 x2, W64 x3, W64 x4, W64 x5, W64 x6, W64 x7], .int .u8 (a.toNat : Int)] w fun e w' => e = .returned (.agg ((scaleP p a).map W64).toArray) ∧ Below w.heap.size w w' := by
  have := scale_any p (by rw [h]; rfl) a w
  rw [arr8 h] at this
  exact this
theorem scale8i (p : List UInt64) (x0 x1 x2 x3 x4 x5 x6 x7 : UInt64) (h : p = [x0, x1, x2, x3, x4, x5, x6, x7]) (n : Int) (a : UInt8) (hn : n = (a.toNat : Int)) (w : World) :
    Calls Try.prog 16 #[.agg #[W64 x0, W64 x1, W64 x2, W64 x3, W64 x4, W64 x5, W64 x6, W64 x7], .int .u8 n] w fun e w' => e = .returned (.agg ((scaleP p a).map W64).toArray) ∧ Below w.heap.size w w' := by
  rw [hn]; exact scale8 p x0 x1 x2 x3 x4 x5 x6 x7 h a w
/-- What scaling does to planes. -/
theorem scale_one (p : List UInt64) (hp : p.length = 8) : scaleP p 1 = p := planes_ext (scaleP_length _ _) hp fun n hn => by rw [lane_scaleP p hp _ hn, gmul_one]
theorem lane_zero8 (n : Nat) : lane (List.replicate 8 0) n = 0 := by
  unfold lane
  split
  · refine ext8 fun i hi => ?_
    rw [b8_mk8 _ hi, b8_zero]
    rw [List.getD_eq_getElem?_getD, List.getElem?_replicate, if_pos hi]; exact b64_zero n
  · rfl
theorem scale_zero (p : List UInt64) (hp : p.length = 8) : scaleP p 0 = List.replicate 8 0 := planes_ext (scaleP_length _ _) (by simp) fun n hn => by rw [lane_scaleP p hp _ hn, gmul_zero, lane_zero8]
theorem scale_scale (p : List UInt64) (hp : p.length = 8) (a b : UInt8) : scaleP (scaleP p a) b = scaleP p (gmul a b) :=
  planes_ext (scaleP_length _ _) (scaleP_length _ _) fun n hn => by rw [lane_scaleP _ (scaleP_length _ _) _ hn, lane_scaleP p hp _ hn, lane_scaleP p hp _ hn, gmul_assoc]
theorem scale_add (p : List UInt64) (hp : p.length = 8) (a b : UInt8) : addP (scaleP p a) (scaleP p b) = scaleP p (a ^^^ b) :=
  planes_ext (addP_length _ _) (scaleP_length _ _) fun n hn => by rw [lane_addP _ _ hn, lane_scaleP p hp _ hn, lane_scaleP p hp _ hn, lane_scaleP p hp _ hn, gmul_xor]
set_option maxRecDepth 100000 in
set_option maxHeartbeats 4000000 in
theorem one_any (p : List UInt64) (hp : p.length = 8) (a b : UInt8) (w : World) :
    Calls Try.prog 6 #[.agg (p.map W64).toArray, B8 a, B8 b] w fun e w' => e = .returned (.bool true) ∧ Below w.heap.size w w' := by
  obtain ⟨x0, x1, x2, x3, x4, x5, x6, x7, hx⟩ := list8 p hp
  have he1 : ∀ w, (Op.equalIn 10000 24 (.agg ((scaleP p 1).map W64).toArray) (.agg #[W64 x0, W64 x1, W64 x2, W64 x3, W64 x4, W64 x5, W64 x6, W64 x7])).run Try.prog w = .ok true w := by
    rw [← arr8 hx]; exact eq_planes _ _ (scale_one p hp) (scaleP_length _ _)
  have he2 : ∀ w, (Op.equalIn 10000 24 (.agg ((scaleP p 0).map W64).toArray) (.agg #[.int .u64 0, .int .u64 0, .int .u64 0, .int .u64 0, .int .u64 0, .int .u64 0, .int .u64 0, .int .u64 0])).run Try.prog w = .ok true w :=
    eq_planes _ (List.replicate 8 0) (scale_zero p hp) (scaleP_length _ _)
  have he3 := eq_planes _ _ (scale_scale p hp a b) (scaleP_length _ _)
  have he4 := eq_planes _ _ (scale_add p hp a b) (addP_length _ _)
  have hxor := bits_u8_xor a b
  rw [arr8 hx]
  have HP := Lib.hid hp
  have HX := Lib.hid hx
  have HN1 : Hid ((1 : Int) = ((1 : UInt8).toNat : Int)) := Lib.hid rfl
  have HN0 : Hid ((0 : Int) = ((0 : UInt8).toNat : Int)) := Lib.hid rfl
  have HNX : Hid (((a.toNat ^^^ b.toNat : Nat) : Int) = ((a ^^^ b).toNat : Int)) := Lib.hid (by rw [UInt8.toNat_xor])
  clear hp hx
  go_enter Try.func6, Try.ntmps6
  go_wp2
  have hb0 := Blk.new w 24 [W64 x0, W64 x1, W64 x2, W64 x3, W64 x4, W64 x5, W64 x6, W64 x7]
  obtain ⟨w1, hw1⟩ : ∃ w1, w.alloc (.cells #[W64 x0, W64 x1, W64 x2, W64 x3, W64 x4, W64 x5, W64 x6, W64 x7] 24) = w1 := ⟨_, rfl⟩
  have hsz : w1.heap.size = w.heap.size + 1 := by rw [← hw1]; simp
  have hbl : Below w.heap.size w w1 := by rw [← hw1]; exact (Below.refl _ _).alloc (Nat.le_refl _) _
  have hb1 : Blk w1 w.heap.size 24 [W64 x0, W64 x1, W64 x2, W64 x3, W64 x4, W64 x5, W64 x6, W64 x7] := by rw [← hw1]; exact hb0
  rw [hw1]
  have hlt : w.heap.size < w1.heap.size := by omega
  refine wp_region_ext (w := w1) w1.heap.size (by kernel_rfl) (by kernel_rfl) ?_
  have c0 : ∀ x : Ext w1.heap.size w1, x.w.cell? ⟨w.heap.size, 0, none⟩ = some (W64 x0) := ext_cell hb1 hlt rfl
  have c1 : ∀ x : Ext w1.heap.size w1, x.w.cell? ⟨w.heap.size, 1, none⟩ = some (W64 x1) := ext_cell hb1 hlt rfl
  have c2 : ∀ x : Ext w1.heap.size w1, x.w.cell? ⟨w.heap.size, 2, none⟩ = some (W64 x2) := ext_cell hb1 hlt rfl
  have c3 : ∀ x : Ext w1.heap.size w1, x.w.cell? ⟨w.heap.size, 3, none⟩ = some (W64 x3) := ext_cell hb1 hlt rfl
  have c4 : ∀ x : Ext w1.heap.size w1, x.w.cell? ⟨w.heap.size, 4, none⟩ = some (W64 x4) := ext_cell hb1 hlt rfl
  have c5 : ∀ x : Ext w1.heap.size w1, x.w.cell? ⟨w.heap.size, 5, none⟩ = some (W64 x5) := ext_cell hb1 hlt rfl
  have c6 : ∀ x : Ext w1.heap.size w1, x.w.cell? ⟨w.heap.size, 6, none⟩ = some (W64 x6) := ext_cell hb1 hlt rfl
  have c7 : ∀ x : Ext w1.heap.size w1, x.w.cell? ⟨w.heap.size, 7, none⟩ = some (W64 x7) := ext_cell hb1 hlt rfl
  have HB := Lib.hid hb1
  have HL := Lib.hid hbl
  clear hb0 hb1 hbl hw1 hsz
  repeat (go_big_quiet_step ((first
    | (go_at_call 9; exact ext_call (Nat.le_refl _) (known03 _))
    | (go_at_call 16; first
        | with_reducible exact ext_call (Nat.le_refl _) (scale8 p x0 x1 x2 x3 x4 x5 x6 x7 HX.out _ _)
        | with_reducible exact ext_call (Nat.le_refl _) (scale_any (scaleP p a) (scaleP_length p a) b _)
        | with_reducible exact ext_call (Nat.le_refl _) (scale8i p x0 x1 x2 x3 x4 x5 x6 x7 HX.out 1 1 HN1.out _)
        | with_reducible exact ext_call (Nat.le_refl _) (scale8i p x0 x1 x2 x3 x4 x5 x6 x7 HX.out 0 0 HN0.out _)
        | with_reducible exact ext_call (Nat.le_refl _) (scale8i p x0 x1 x2 x3 x4 x5 x6 x7 HX.out ((a.toNat ^^^ b.toNat : Nat) : Int) (a ^^^ b) HNX.out _))
    | (go_at_call 14; exact ext_same (ref_mul a b _))
    | (go_at_call 17; exact ext_call (Nat.le_refl _) (add_any (scaleP p a) (scaleP p b) (scaleP_length p a) (scaleP_length p b) _)))))
  refine wpQuiet_nil ?_
  rintro _ ⟨x, rfl⟩
  go_wp2
  go_ret
  exact ⟨rfl, HL.out.trans (x.bel.mono (by omega))⟩
end Go.Proofs.Ytcbkdlhmemibpaa

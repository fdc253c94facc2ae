/- The walks of erratumref03: products, sums and scaling, lane by lane. -/
import Derived.Test.YtcbkdlhmemibpaaRef03W
namespace Go.Proofs.Ytcbkdlhmemibpaa
open Go.RowKit Gf Bt

theorem take_snoc_B8 (l : List UInt8) (k : Nat) (x : UInt8) (h : l[k]? = some x) : (l.take k).map B8 ++ [B8 x] = (l.take (k + 1)).map B8 := by
  rw [List.take_add_one, h]; simp
set_option maxRecDepth 100000 in
set_option maxHeartbeats 4000000 in
theorem rmul_any (p q : List UInt64) (hp : p.length = 8) (hq : q.length = 8) (w : World) :
    Calls Try.prog 27 #[.agg (p.map W64).toArray, .agg (q.map W64).toArray] w fun e w' => e = .returned (.agg ((mulP p q).map W64).toArray) ∧ Below w.heap.size w w' := by
  obtain ⟨x0, x1, x2, x3, x4, x5, x6, x7, hx⟩ := list8 p hp
  obtain ⟨y0, y1, y2, y3, y4, y5, y6, y7, hy⟩ := list8 q hq
  rw [show (p.map W64).toArray = #[W64 x0, W64 x1, W64 x2, W64 x3, W64 x4, W64 x5, W64 x6, W64 x7] by rw [hx]; rfl, show (q.map W64).toArray = #[W64 y0, W64 y1, W64 y2, W64 y3, W64 y4, W64 y5, W64 y6, W64 y7] by rw [hy]; rfl]
  have HP := Lib.hid hp
  have HQ := Lib.hid hq
  have HX := Lib.hid hx
  have HY := Lib.hid hy
  clear hp hq hx hy
  go_enter Try.func27, Try.ntmps27
  go_wp2
  go_loopw [5, 6] (fun v i wr => ∃ k : Nat, k ≤ 64 ∧ i = .int .i64 k ∧ wr.ownsRow (w.heap.size + 3) 5 1 v k (((lanes (mulP p q)).take k).map B8) ∧
      Blk wr w.heap.size 24 [W64 x0, W64 x1, W64 x2, W64 x3, W64 x4, W64 x5, W64 x6, W64 x7] ∧ Blk wr (w.heap.size + 1) 24 [W64 y0, W64 y1, W64 y2, W64 y3, W64 y4, W64 y5, W64 y6, W64 y7] ∧ Blk wr (w.heap.size + 2) 24 (List.replicate 8 (W64 0)) ∧ Below w.heap.size w wr) (fun _ i _ => 64 - (intOf i).toNat)
  case atStart => exact ⟨0, by omega, rfl, own_nil _ _ _, ((Blk.new w _ [W64 x0, W64 x1, W64 x2, W64 x3, W64 x4, W64 x5, W64 x6, W64 x7]).alloc _).alloc _, (blk_new1 w _ _ [W64 y0, W64 y1, W64 y2, W64 y3, W64 y4, W64 y5, W64 y6, W64 y7]).alloc _, blk_new2 w _ _ _ (List.replicate 8 (W64 0)), (((Below.refl _ _).alloc (Nat.le_refl _) _).alloc (by simp) _).alloc (by simp <;> omega) _⟩
  case round =>
    obtain ⟨k, hk, rfl, hown, h1, h2, hz, hbel⟩ := hrel
    have hgl := hz.lt
    have HO := Lib.hid hown
    have H1 := Lib.hid h1
    have H2 := Lib.hid h2
    have HZ := Lib.hid hz
    have HL := Lib.hid hbel
    clear hown h1 h2 hz hbel
    by_cases hlt : k < 64
    · have hk0 : (0 : Int) ≤ (k : Int) := Int.natCast_nonneg _
      go_wp2
      have c0 : ∀ w', Below (w.heap.size + 3) wr w' → w'.cell? ⟨w.heap.size, 0, none⟩ = some (W64 x0) := fun w' h => (H1.out.below h (by omega)).cell rfl
      have c1 : ∀ w', Below (w.heap.size + 3) wr w' → w'.cell? ⟨w.heap.size, 1, none⟩ = some (W64 x1) := fun w' h => (H1.out.below h (by omega)).cell rfl
      have c2 : ∀ w', Below (w.heap.size + 3) wr w' → w'.cell? ⟨w.heap.size, 2, none⟩ = some (W64 x2) := fun w' h => (H1.out.below h (by omega)).cell rfl
      have c3 : ∀ w', Below (w.heap.size + 3) wr w' → w'.cell? ⟨w.heap.size, 3, none⟩ = some (W64 x3) := fun w' h => (H1.out.below h (by omega)).cell rfl
      have c4 : ∀ w', Below (w.heap.size + 3) wr w' → w'.cell? ⟨w.heap.size, 4, none⟩ = some (W64 x4) := fun w' h => (H1.out.below h (by omega)).cell rfl
      have c5 : ∀ w', Below (w.heap.size + 3) wr w' → w'.cell? ⟨w.heap.size, 5, none⟩ = some (W64 x5) := fun w' h => (H1.out.below h (by omega)).cell rfl
      have c6 : ∀ w', Below (w.heap.size + 3) wr w' → w'.cell? ⟨w.heap.size, 6, none⟩ = some (W64 x6) := fun w' h => (H1.out.below h (by omega)).cell rfl
      have c7 : ∀ w', Below (w.heap.size + 3) wr w' → w'.cell? ⟨w.heap.size, 7, none⟩ = some (W64 x7) := fun w' h => (H1.out.below h (by omega)).cell rfl
      have d0 : ∀ w', Below (w.heap.size + 3) wr w' → w'.cell? ⟨w.heap.size + 1, 0, none⟩ = some (W64 y0) := fun w' h => (H2.out.below h (by omega)).cell rfl
      have d1 : ∀ w', Below (w.heap.size + 3) wr w' → w'.cell? ⟨w.heap.size + 1, 1, none⟩ = some (W64 y1) := fun w' h => (H2.out.below h (by omega)).cell rfl
      have d2 : ∀ w', Below (w.heap.size + 3) wr w' → w'.cell? ⟨w.heap.size + 1, 2, none⟩ = some (W64 y2) := fun w' h => (H2.out.below h (by omega)).cell rfl
      have d3 : ∀ w', Below (w.heap.size + 3) wr w' → w'.cell? ⟨w.heap.size + 1, 3, none⟩ = some (W64 y3) := fun w' h => (H2.out.below h (by omega)).cell rfl
      have d4 : ∀ w', Below (w.heap.size + 3) wr w' → w'.cell? ⟨w.heap.size + 1, 4, none⟩ = some (W64 y4) := fun w' h => (H2.out.below h (by omega)).cell rfl
      have d5 : ∀ w', Below (w.heap.size + 3) wr w' → w'.cell? ⟨w.heap.size + 1, 5, none⟩ = some (W64 y5) := fun w' h => (H2.out.below h (by omega)).cell rfl
      have d6 : ∀ w', Below (w.heap.size + 3) wr w' → w'.cell? ⟨w.heap.size + 1, 6, none⟩ = some (W64 y6) := fun w' h => (H2.out.below h (by omega)).cell rfl
      have d7 : ∀ w', Below (w.heap.size + 3) wr w' → w'.cell? ⟨w.heap.size + 1, 7, none⟩ = some (W64 y7) := fun w' h => (H2.out.below h (by omega)).cell rfl
      have HOc : Hid (wr.drew.ownsRow (w.heap.size + 3) 5 1 u5 k _) := Lib.hid HO.out
      have HSc : Hid (Below (w.heap.size + 3) wr wr.drew) := Lib.hid (Below.refl _ _).drew
      go_region_held3 (fun w' => Below (w.heap.size + 3) wr w') (first | exact HSc.out | exact HSc.out.alloc (by have := HSc.out.size; omega) _ | exact (HSc.out.alloc (by have := HSc.out.size; omega) _).trans hb2)
        (first
          | (go_at_call 25; (first | with_reducible refine (rlane8 p _ _ _ _ _ _ _ _ HX.out _ _).mono ?_ | with_reducible refine (rlane8 q _ _ _ _ _ _ _ _ HY.out _ _).mono ?_); rintro e w1 ⟨rfl, hb1⟩
             have HOc := Lib.hid (own_below HOc.out hb1)
             have HSc := Lib.hid (HSc.out.trans (hb1.mono (by have := HSc.out.size; omega))))
          | (go_at_call 14; refine (ref_mul _ _ _).mono ?_; rintro e w1 ⟨rfl, rfl⟩)
          | (refine ap_wp _ _ 25 rfl (w.heap.size + 3) 5 _ 1 Try.underlying25 u8_info rfl _ _ _ rfl (own_below HOc.out ((Below.refl _ _).alloc (Nat.le_refl _) _)) _ 1 (B8 (gmul (lane p k) (lane q k))) rfl ?c1 rfl (by omega) (by decide) (by have := HSc.out.size; simp; omega) ?_
             case c1 => simp
             intro v2 w2 hown2 hb2))
      have hS := (by assumption : Below (w.heap.size + 3) wr w2)
      have HSS := Lib.hid hS
      have HO2 := Lib.hid hown2
      clear hown2 hb2
      go_wp2
      go_roundw
      case rel =>
        refine ⟨k + 1, by omega, by go_num, ?_, H1.out.below HSS.out (by omega), H2.out.below HSS.out (by omega), HZ.out.below HSS.out (by omega), HL.out.trans (HSS.out.mono (by omega))⟩
        rw [← take_snoc_B8 _ k _ (lanes_get _ hlt), lane_mulP _ _ HP.out HQ.out hlt]; exact HO2.out
      case measure => simp [intOf]; omega
    · obtain rfl : k = 64 := by omega
      obtain ⟨A, c, rfl, hc, hrd⟩ := own_slice HO.out
      rw [List.take_of_length_le (by rw [lanes_length]; omega)] at hrd
      have HRD := Lib.hid hrd
      have HPL := Lib.hid (pack_lanes (mulP p q) (mulP_length p q))
      clear hrd
      have hc' := rpack_any A (lanes (mulP p q)) c wr HRD.out (by rw [lanes_length]; omega)
      rw [lanes_length, HPL.out] at hc'
      have HC := Lib.hid hc'
      clear hc'
      go_wp2_with (first
        | (go_at_call 19; refine (HC.out).mono ?_; rintro e w1 ⟨rfl, hb1⟩
           have HZ1 := Lib.hid (HZ.out.below hb1 hgl)
           have HL1 := Lib.hid (HL.out.trans (hb1.mono HL.out.size))
           clear hb1)
        | (refine st_arr rfl 24 _ _ rfl (w.heap.size + 2) ((mulP p q).map W64) rfl rfl _ _ HZ1.out (planes_info _ (mulP_length p q)) (by rw [List.length_replicate, List.length_map, (mulP_length p q)]) (w64_one _) ?_; intro w1 hb1 hp1))
      refine ret_arr rfl rfl (w.heap.size + 2) rfl _ _ _ _ hb1 Try.underlying24 (planes_info _ (mulP_length p q)) ⟨rfl, hp1.bel HL1.out (by omega)⟩
end Go.Proofs.Ytcbkdlhmemibpaa

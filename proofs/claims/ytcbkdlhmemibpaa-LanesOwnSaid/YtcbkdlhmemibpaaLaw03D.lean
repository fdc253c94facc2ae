/- The walk of the law LanesBack. -/
import Derived.Test.YtcbkdlhmemibpaaLaw03B
namespace Go.Proofs.Ytcbkdlhmemibpaa
open Go.RowKit Gf Bt

theorem pack_n (A : Option Addr) (bs : List UInt8) (n cap : Nat) (hn : bs.length = n) (w : World) (hRd : Rd w w.heap.size A (bs.map B8)) (hcap : n ≤ cap) (hmax : n ≤ 9223372036854775807) :
    Calls Try.prog 11 #[.slice A n cap] w fun e w' => e = .returned (.agg ((pack bs).map W64).toArray) ∧ Below w.heap.size w w' := by
  subst hn; exact pack_any A bs cap w hRd hcap hmax
theorem unpack8 (p : List UInt64) (x0 x1 x2 x3 x4 x5 x6 x7 : UInt64) (h : p = [x0, x1, x2, x3, x4, x5, x6, x7]) (w : World) :
    Calls Try.prog 10 #[.agg #[W64 x0, W64 x1, W64 x2, W64 x3, W64 x4, W64 x5, W64 x6, W64 x7]] w fun e w' => ∃ g, e = .returned (.slice (some ⟨g, 0, none⟩) 64 64) ∧ w.heap.size ≤ g ∧ Blk w' g 5 ((lanes p).map B8) ∧ Below w.heap.size w w' := by
  have := unpack_any p (by rw [h]; rfl) w
  rw [arr8 h] at this
  exact this
theorem back_byte (l : List UInt8) (k : Nat) (hk : k < 64) : (lanes (pack l))[k]? = some (l.getD k 0) := by rw [lanes_get _ hk, lane_pack _ hk]
set_option maxRecDepth 100000 in
set_option maxHeartbeats 2000000 in
theorem back_any (p : List UInt64) (hp : p.length = 8) (A : Option Addr) (n cap : Nat) (l : List UInt8) (w : World) (hRd : Rd w w.heap.size A (l.map B8)) (hn : l.length = n) (hcap : n ≤ cap) :
    Calls Try.prog 3 #[.agg (p.map W64).toArray, .slice A n cap] w fun e w' => e = .returned (.bool true) ∧ Below w.heap.size w w' := by

  obtain ⟨x0, x1, x2, x3, x4, x5, x6, x7, hx⟩ := list8 p hp
  have he1 : ∀ w, (Op.equalIn 10000 24 (.agg ((pack (lanes p)).map W64).toArray) (.agg #[W64 x0, W64 x1, W64 x2, W64 x3, W64 x4, W64 x5, W64 x6, W64 x7])).run Try.prog w = .ok true w := by
    rw [← arr8 hx]; exact eq_planes _ _ (pack_lanes p hp) (pack_length _)
  rw [arr8 hx]
  have HP := bx hp
  have HX := bx hx
  have HN := bx hn
  have HRD := bx hRd
  clear hp hx hn hRd
  by_cases h300 : 300 < (n : Int)
  · go_enter Try.func3, Try.ntmps3
    go_wp2_with (go_at_call 9; refine (known03 _).mono ?_; rintro e w1 ⟨rfl, hb1⟩; have HB1 := bx hb1; clear hb1)
    go_ret
    exact ⟨rfl, ((Below.refl _ _).alloc (Nat.le_refl _) _).trans (HB1.out.mono (by simp))⟩
  · go_enter Try.func3, Try.ntmps3
    go_wp2_with fail
    refine (pack_n A l n cap HN.out _ ((HRD.out.below ((Below.refl _ _).alloc (Nat.le_refl _) _)).more (by simp)) hcap (by omega)).mono ?_
    rintro e w1 ⟨rfl, hb1⟩
    have HL1 := bx (((Below.refl w.heap.size w).alloc (Nat.le_refl _) _).trans (hb1.mono (by simp)))
    have HX1 := bx (Blk.below (Blk.new w 24 [W64 x0, W64 x1, W64 x2, W64 x3, W64 x4, W64 x5, W64 x6, W64 x7]) hb1 (by simp))
    clear hb1
    go_wp2_with fail
    refine (unpack_any (pack l) (pack_length l) _).mono ?_
    rintro e w2 ⟨g, rfl, hg, hbg, hb2⟩
    have HL2 := bx (HL1.out.trans (hb2.mono HL1.out.size))
    have HX2 := bx (HX1.out.below hb2 (by have := HX1.out.lt; omega))
    have HG2 := bx hbg
    have hs1 := HX1.out.lt
    have hs2 := HG2.out.lt
    clear hb2 hbg
    go_wp2
    go_loop [6] (fun i => ∃ k : Nat, k ≤ 64 ∧ i = .int .i64 k) (fun i => 64 - (intOf i).toNat)
    case atStart => exact ⟨0, by omega, rfl⟩
    case round =>
      obtain ⟨k, hk, rfl⟩ := hrel
      by_cases hlt : k < 64
      · have hk0 : (0 : Int) ≤ (k : Int) := Int.natCast_nonneg _
        have hc1 : w2.cell? ⟨g, k, none⟩ = some (.int .u8 (l.getD k 0).toNat) := HG2.out.cell (by rw [List.getElem?_map, back_byte l k hlt]; rfl)
        by_cases hkn : (k : Int) < (n : Int)
        · have hkl : k < l.length := by have := HN.out; omega
          obtain ⟨ad, rfl, hab, hc⟩ := HRD.out (by simp; omega)
          have hc2 : w2.cell? (ad.add k) = some (.int .u8 (l.getD k 0).toNat) := by
            rw [HL2.out.cell (by rw [block_of_add]; exact hab)]
            exact hc k _ (by simp [List.getD_eq_getElem?_getD, List.getElem?_eq_getElem hkl])
          clear hc
          generalize l.getD k 0 = x at *
          go_wp2
          go_round
          case rel => exact ⟨k + 1, by omega, by go_num⟩
          case measure => simp [intOf]; omega
        · have hx0 : l.getD k 0 = 0 := by
            have := HN.out
            rw [List.getD_eq_getElem?_getD, List.getElem?_eq_none (by omega)]; rfl
          rw [hx0] at hc1
          have hc3 : w2.cell? ⟨g, k, none⟩ = some (.int .u8 0) := hc1
          clear hc1 hx0
          go_wp2
          go_round
          case rel => exact ⟨k + 1, by omega, by go_num⟩
          case measure => simp [intOf]; omega
      · obtain rfl : k = 64 := by omega
        clear hlt
        go_wp2
        have c0 : ∀ w', Below (w2.heap.size) w2 w' → w'.cell? ⟨w.heap.size, 0, none⟩ = some (W64 x0) := fun w' h => (HX2.out.below h (by omega)).cell rfl
        have c1 : ∀ w', Below (w2.heap.size) w2 w' → w'.cell? ⟨w.heap.size, 1, none⟩ = some (W64 x1) := fun w' h => (HX2.out.below h (by omega)).cell rfl
        have c2 : ∀ w', Below (w2.heap.size) w2 w' → w'.cell? ⟨w.heap.size, 2, none⟩ = some (W64 x2) := fun w' h => (HX2.out.below h (by omega)).cell rfl
        have c3 : ∀ w', Below (w2.heap.size) w2 w' → w'.cell? ⟨w.heap.size, 3, none⟩ = some (W64 x3) := fun w' h => (HX2.out.below h (by omega)).cell rfl
        have c4 : ∀ w', Below (w2.heap.size) w2 w' → w'.cell? ⟨w.heap.size, 4, none⟩ = some (W64 x4) := fun w' h => (HX2.out.below h (by omega)).cell rfl
        have c5 : ∀ w', Below (w2.heap.size) w2 w' → w'.cell? ⟨w.heap.size, 5, none⟩ = some (W64 x5) := fun w' h => (HX2.out.below h (by omega)).cell rfl
        have c6 : ∀ w', Below (w2.heap.size) w2 w' → w'.cell? ⟨w.heap.size, 6, none⟩ = some (W64 x6) := fun w' h => (HX2.out.below h (by omega)).cell rfl
        have c7 : ∀ w', Below (w2.heap.size) w2 w' → w'.cell? ⟨w.heap.size, 7, none⟩ = some (W64 x7) := fun w' h => (HX2.out.below h (by omega)).cell rfl
        have HSc : Bx (Below w2.heap.size w2 w2.drew) := bx (Below.refl _ _).drew
        go_region_held3 (fun w' => Below w2.heap.size w2 w') (exact HSc.out)
          (first
            | (go_at_call 9; refine (known03 _).mono ?_; rintro e w3 ⟨rfl, hb3⟩
               have HSc := bx (HSc.out.trans (hb3.mono HSc.out.size)))
            | (go_at_call 10; refine (unpack8 p x0 x1 x2 x3 x4 x5 x6 x7 HX.out _).mono ?_; rintro e w3 ⟨g3, rfl, hg3, hbg3, hb3⟩
               have HSc := bx (HSc.out.trans (hb3.mono HSc.out.size))
               have HG3 := bx hbg3
               clear hbg3 hg3)
            | (go_at_call 11; refine (pack_n _ (lanes p) 64 64 (lanes_length p) _ (Rd.of_blk HG3.out HG3.out.lt) (by decide) (by decide)).mono ?_; rintro e w4 ⟨rfl, hb4⟩
               have HSc := bx (HSc.out.trans (hb4.mono HSc.out.size))))
        have hS := bx (by assumption : Below w2.heap.size w2 w4)
        go_wp2
        go_ret
        exact ⟨rfl, HL2.out.trans (hS.out.mono (by have := HL2.out.size; omega))⟩
end Go.Proofs.Ytcbkdlhmemibpaa

/- The walk of erratumlaw21.asks: all calls of a code, a depth, a text, blocks and two numbers are what the chapter says. -/
import Derived.Test.YtkjaonlelkfhaaaRefBlocks
import Derived.Test.YtkjaonlelkfhaaaRefUnweave
import Derived.Test.YtkjaonlelkfhaaaWeaveP
namespace Go.Proofs.Ytkjaonlelkfhaaa
open Go.RowKit Gf Bt

theorem bErr_range (n k b d : Int) : 0 ≤ bErr n k b d ∧ bErr n k b d ≤ 12 := by unfold bErr; split <;> decide
theorem wErr_range (n k b d : Int) (xs) : 0 ≤ wErr n k b d xs ∧ wErr n k b d xs ≤ 12 := by unfold wErr; split; (split <;> decide); decide
theorem uErr_range (n k b d : Int) (len) : 0 ≤ uErr n k b d len ∧ uErr n k b d len ≤ 12 := by unfold uErr; split; (split <;> decide); decide
/-- Both tell the same place. -/
theorem place_both (n k b d p i : Int) : ∃ z : Int, (∀ w, Calls Try.prog 18 #[C3 n k b, .int .i64 d, .int .i64 p, .int .i64 i] w fun e w' => e = .returned (.int .i64 z) ∧ Below w.heap.size w w') ∧
    ∀ w, Calls Try.prog 31 #[C3 n k b, .int .i64 d, .int .i64 p, .int .i64 i] w fun e w' => e = .returned (.int .i64 z) ∧ Below w.heap.size w w' := by
  by_cases h : placeOk n k b d p i
  · exact ⟨placeN n d p i, fun w => place_yes n k b d p i w h, fun w => ref_place_yes n k b d p i w h⟩
  · exact ⟨-1, fun w => place_no n k b d p i w h, fun w => ref_place_no n k b d p i w h⟩
theorem bRows_small (n k b d : Int) (s : List UInt8) (h : s.length ≤ 100000) : (bRows n k b d s).length ≤ 9223372036854775807 := by
  unfold bRows
  split
  · rename_i hok
    obtain ⟨k1, kn, nn, b0, b1, d1, d2⟩ := loomOk_bounds hok
    rw [blocksL_len]
    have h1 : upMD k.toNat d.toNat s.length ≤ upM k.toNat s.length + (d.toNat - 1) := Nat.div_mul_le_self _ _
    have h2 : upM k.toNat s.length ≤ s.length + (k.toNat - 1) := Nat.div_le_self _ _
    omega
  · exact Nat.zero_le _
theorem uRows_small (n k b d : Int) (s : List UInt8) (h : s.length ≤ 100000) : (uRows n k b d s).length ≤ 9223372036854775807 := by
  unfold uRows
  split
  · rename_i hok
    obtain ⟨k1, kn, nn, b0, b1, d1, d2⟩ := loomOk_bounds hok.1
    obtain ⟨N, rfl⟩ : ∃ N : Nat, n = N := ⟨n.toNat, by omega⟩
    obtain ⟨D, rfl⟩ : ∃ D : Nat, d = D := ⟨d.toNat, by omega⟩
    rw [← lstTo_all, lstTo_length, Int.toNat_natCast, Int.toNat_natCast]
    have h1 : s.length / (N * D) * (N * D) ≤ s.length := Nat.div_mul_le_self _ _
    have h2 : s.length / (N * D) * D ≤ s.length / (N * D) * (N * D) := Nat.mul_le_mul_left _ (Nat.le_mul_of_pos_left _ (by omega))
    exact Nat.le_trans h2 (Nat.le_trans h1 (Nat.le_trans h (by decide)))
  · exact Nat.zero_le _
set_option maxRecDepth 100000 in
set_option maxHeartbeats 4000000 in
theorem asks21 (n k b d at_ i : Int) (vs vl : Value) (s : List UInt8) (xs : List (List UInt8)) (w : World) (hs : IsRow w w.heap.size none vs s) (hl : IsLst w w.heap.size vl xs) (hs6 : s.length ≤ 100000) (hx6 : xs.length ≤ 100000 ∨ Giant xs) (h1 : -9223372036854775808 ≤ at_) (h2 : at_ < 9223372036854775808) :
    Calls Try.prog 20 #[C3 n k b, .int .i64 d, vs, vl, .int .i64 at_, .int .i64 i] w fun e w' => e = .returned (.bool true) ∧ Below w.heap.size w w' := by
  have HS := bx hs
  have HLX := bx hl
  obtain ⟨z, hz1, hz2⟩ := place_both n k b d at_ i
  have HZ1 := bx hz1
  have HZ2 := bx hz2
  obtain ⟨e1, he1⟩ : ∃ e, bErr n k b d = e := ⟨_, rfl⟩
  obtain ⟨e2, he2⟩ : ∃ e, wErr n k b d xs = e := ⟨_, rfl⟩
  obtain ⟨e3, he3⟩ : ∃ e, uErr n k b d s.length = e := ⟨_, rfl⟩
  obtain ⟨a0, a1⟩ : 0 ≤ e1 ∧ e1 ≤ 12 := he1 ▸ bErr_range n k b d
  obtain ⟨b0, b1⟩ : 0 ≤ e2 ∧ e2 ≤ 12 := he2 ▸ wErr_range n k b d xs
  obtain ⟨c0, c1⟩ : 0 ≤ e3 ∧ e3 ≤ 12 := he3 ▸ uErr_range n k b d s.length
  obtain ⟨x, hx⟩ : ∃ x, spotX n k b d at_ = x := ⟨_, rfl⟩
  obtain ⟨y, hy⟩ : ∃ y, spotI n k b d at_ = y := ⟨_, rfl⟩
  have HP1 : Bx (∀ w, Calls Try.prog 15 #[C3 n k b, .int .i64 d, .int .i64 at_] w fun e w' => e = .returned (.tuple #[.int .i64 x, .int .i64 y]) ∧ Below w.heap.size w w') := bx fun w => by rw [← hx, ← hy]; exact spot_any n k b d at_ w h2
  have HP2 : Bx (∀ w, Calls Try.prog 30 #[C3 n k b, .int .i64 d, .int .i64 at_] w fun e w' => e = .returned (.tuple #[.int .i64 x, .int .i64 y]) ∧ Below w.heap.size w w') := bx fun w => by rw [← hx, ← hy]; exact ref_spot n k b d at_ w h1 h2
  have HQ1 : Bx (∀ w', Below w.heap.size w w' → Calls Try.prog 16 #[C3 n k b, .int .i64 d, vs] w' fun e w'' => ∃ v', e = .returned (.tuple #[v', .int .u16 e1]) ∧ IsLst w'' w''.heap.size v' (bRows n k b d s) ∧ Below w'.heap.size w' w'') := bx fun w' hb => by
    have := blocks_any n k b d vs s none w' ((HS.out.below hb).more hb.size) (Nat.le_trans hs6 (by decide)); rwa [he1] at this
  have HQ2 : Bx (∀ w', Below w.heap.size w w' → Calls Try.prog 27 #[C3 n k b, .int .i64 d, vs] w' fun e w'' => ∃ v', e = .returned (.tuple #[v', .int .i64 e1]) ∧ IsLst w'' w''.heap.size v' (bRows n k b d s) ∧ Below w'.heap.size w' w'') := bx fun w' hb => by
    have := ref_blocks_any n k b d vs s none w' ((HS.out.below hb).more hb.size) (Nat.le_trans hs6 (by decide)); rwa [he1] at this
  have HQ3 : Bx (∀ w', Below w.heap.size w w' → Calls Try.prog 12 #[C3 n k b, .int .i64 d, vl] w' fun e w'' => ∃ v', e = .returned (.tuple #[v', .int .u16 e2]) ∧ IsRow w'' w''.heap.size none v' (wRow n k b d xs) ∧ Below w'.heap.size w' w'') := bx fun w' hb => by
    have := weave_any' n k b d vl xs w' ((HLX.out.below hb).more hb.size) hx6; rwa [he2] at this
  have HQ4 : Bx (∀ w', Below w.heap.size w w' → Calls Try.prog 28 #[C3 n k b, .int .i64 d, vl] w' fun e w'' => ∃ v', e = .returned (.tuple #[v', .int .i64 e2]) ∧ IsRow w'' w''.heap.size none v' (wRow n k b d xs) ∧ Below w'.heap.size w' w'') := bx fun w' hb => by
    have := ref_weave_any n k b d vl xs w' ((HLX.out.below hb).more hb.size) hx6; rwa [he2] at this
  have HQ5 : Bx (∀ w', Below w.heap.size w w' → Calls Try.prog 17 #[C3 n k b, .int .i64 d, vs] w' fun e w'' => ∃ v', e = .returned (.tuple #[v', .int .u16 e3]) ∧ IsLst w'' w''.heap.size v' (uRows n k b d s) ∧ Below w'.heap.size w' w'') := bx fun w' hb => by
    have := unweave_any n k b d vs s none w' ((HS.out.below hb).more hb.size) (Nat.le_trans hs6 (by decide)); rwa [he3] at this
  have HQ6 : Bx (∀ w', Below w.heap.size w w' → Calls Try.prog 29 #[C3 n k b, .int .i64 d, vs] w' fun e w'' => ∃ v', e = .returned (.tuple #[v', .int .i64 e3]) ∧ IsLst w'' w''.heap.size v' (uRows n k b d s) ∧ Below w'.heap.size w' w'') := bx fun w' hb => by
    have := ref_unweave_any n k b d vs s none w' ((HS.out.below hb).more hb.size) (Nat.le_trans hs6 (by decide)); rwa [he3] at this
  have HN1 : Bx ((bRows n k b d s).length ≤ 9223372036854775807) := bx (bRows_small n k b d s hs6)
  have HN3 : Bx ((uRows n k b d s).length ≤ 9223372036854775807) := bx (uRows_small n k b d s hs6)
  obtain ⟨R1, hR1⟩ : ∃ R, bRows n k b d s = R := ⟨_, rfl⟩
  obtain ⟨R2, hR2⟩ : ∃ R, wRow n k b d xs = R := ⟨_, rfl⟩
  obtain ⟨R3, hR3⟩ : ∃ R, uRows n k b d s = R := ⟨_, rfl⟩
  rw [hR1] at HQ1 HQ2 HN1
  rw [hR2] at HQ3 HQ4
  rw [hR3] at HQ5 HQ6 HN3
  clear hR1 hR2 hR3 he1 he2 he3 hx hy hs hl hz1 hz2 h1 h2
  go_enter Try.func20, Try.ntmps20
  go_upto_region 1 with fail
  obtain ⟨w0, hw0⟩ : ∃ w0, w.alloc (Obj.cells #[.int .i64 n, .int .i64 k, .int .i64 b] 24) = w0 := ⟨_, rfl⟩
  have HC : Bx (Blk w0 w.heap.size 24 [.int .i64 n, .int .i64 k, .int .i64 b]) := bx (by rw [← hw0]; exact Blk.new w _ _)
  have HB : Bx (Below w.heap.size w w0) := bx (by rw [← hw0]; exact (Below.refl _ _).alloc (Nat.le_refl _) _)
  rw [hw0]
  clear hw0
  have k0 : w0.cell? ⟨w.heap.size, 0, none⟩ = some (.int .i64 n) := HC.out.cell rfl
  have k1 : w0.cell? ⟨w.heap.size, 1, none⟩ = some (.int .i64 k) := HC.out.cell rfl
  have k2 : w0.cell? ⟨w.heap.size, 2, none⟩ = some (.int .i64 b) := HC.out.cell rfl
  go_upto_region 2 with (go_at_call 16; refine (HQ1.out _ HB.out).mono ?_; rintro e w1 ⟨v1, rfl, hv, hb⟩; have HV1 := bx hv; have HB' := bx hb; clear hv hb)
  clear k0 k1 k2
  have HC := bx (HC.out.below HB'.out HC.out.lt)
  have HB := bx (HB.out.trans (HB'.out.mono HB.out.size))
  clear HB'
  have k0 : w1.cell? ⟨w.heap.size, 0, none⟩ = some (.int .i64 n) := HC.out.cell rfl
  have k1 : w1.cell? ⟨w.heap.size, 1, none⟩ = some (.int .i64 k) := HC.out.cell rfl
  have k2 : w1.cell? ⟨w.heap.size, 2, none⟩ = some (.int .i64 b) := HC.out.cell rfl
  go_upto_region 3 with (go_at_call 27; refine (HQ2.out _ HB.out).mono ?_; rintro e w2 ⟨v2, rfl, hv, hb⟩; have HV2 := bx hv; have HB' := bx hb; clear hv hb)
  have HV1 := bx ((HV1.out.below HB'.out).more HB'.out.size)
  clear k0 k1 k2
  have HC := bx (HC.out.below HB'.out HC.out.lt)
  have HB := bx (HB.out.trans (HB'.out.mono HB.out.size))
  clear HB'
  have k0 : w2.cell? ⟨w.heap.size, 0, none⟩ = some (.int .i64 n) := HC.out.cell rfl
  have k1 : w2.cell? ⟨w.heap.size, 1, none⟩ = some (.int .i64 k) := HC.out.cell rfl
  have k2 : w2.cell? ⟨w.heap.size, 2, none⟩ = some (.int .i64 b) := HC.out.cell rfl
  go_upto_region 4 with (go_at_call 12; refine (HQ3.out _ HB.out).mono ?_; rintro e w3 ⟨v3, rfl, hv, hb⟩; have HV3 := bx hv; have HB' := bx hb; clear hv hb)
  have HV1 := bx ((HV1.out.below HB'.out).more HB'.out.size)
  have HV2 := bx ((HV2.out.below HB'.out).more HB'.out.size)
  clear k0 k1 k2
  have HC := bx (HC.out.below HB'.out HC.out.lt)
  have HB := bx (HB.out.trans (HB'.out.mono HB.out.size))
  clear HB'
  have k0 : w3.cell? ⟨w.heap.size, 0, none⟩ = some (.int .i64 n) := HC.out.cell rfl
  have k1 : w3.cell? ⟨w.heap.size, 1, none⟩ = some (.int .i64 k) := HC.out.cell rfl
  have k2 : w3.cell? ⟨w.heap.size, 2, none⟩ = some (.int .i64 b) := HC.out.cell rfl
  go_upto_region 5 with (go_at_call 28; refine (HQ4.out _ HB.out).mono ?_; rintro e w4 ⟨v4, rfl, hv, hb⟩; have HV4 := bx hv; have HB' := bx hb; clear hv hb)
  have HV1 := bx ((HV1.out.below HB'.out).more HB'.out.size)
  have HV2 := bx ((HV2.out.below HB'.out).more HB'.out.size)
  have HV3 := bx ((HV3.out.below HB'.out).more HB'.out.size)
  clear k0 k1 k2
  have HC := bx (HC.out.below HB'.out HC.out.lt)
  have HB := bx (HB.out.trans (HB'.out.mono HB.out.size))
  clear HB'
  have k0 : w4.cell? ⟨w.heap.size, 0, none⟩ = some (.int .i64 n) := HC.out.cell rfl
  have k1 : w4.cell? ⟨w.heap.size, 1, none⟩ = some (.int .i64 k) := HC.out.cell rfl
  have k2 : w4.cell? ⟨w.heap.size, 2, none⟩ = some (.int .i64 b) := HC.out.cell rfl
  go_upto_region 6 with (go_at_call 17; refine (HQ5.out _ HB.out).mono ?_; rintro e w5 ⟨v5, rfl, hv, hb⟩; have HV5 := bx hv; have HB' := bx hb; clear hv hb)
  have HV1 := bx ((HV1.out.below HB'.out).more HB'.out.size)
  have HV2 := bx ((HV2.out.below HB'.out).more HB'.out.size)
  have HV3 := bx ((HV3.out.below HB'.out).more HB'.out.size)
  have HV4 := bx ((HV4.out.below HB'.out).more HB'.out.size)
  clear k0 k1 k2
  have HC := bx (HC.out.below HB'.out HC.out.lt)
  have HB := bx (HB.out.trans (HB'.out.mono HB.out.size))
  clear HB'
  have k0 : w5.cell? ⟨w.heap.size, 0, none⟩ = some (.int .i64 n) := HC.out.cell rfl
  have k1 : w5.cell? ⟨w.heap.size, 1, none⟩ = some (.int .i64 k) := HC.out.cell rfl
  have k2 : w5.cell? ⟨w.heap.size, 2, none⟩ = some (.int .i64 b) := HC.out.cell rfl
  go_upto_region 7 with (go_at_call 29; refine (HQ6.out _ HB.out).mono ?_; rintro e w6 ⟨v6, rfl, hv, hb⟩; have HV6 := bx hv; have HB' := bx hb; clear hv hb)
  have HV1 := bx ((HV1.out.below HB'.out).more HB'.out.size)
  have HV2 := bx ((HV2.out.below HB'.out).more HB'.out.size)
  have HV3 := bx ((HV3.out.below HB'.out).more HB'.out.size)
  have HV4 := bx ((HV4.out.below HB'.out).more HB'.out.size)
  have HV5 := bx ((HV5.out.below HB'.out).more HB'.out.size)
  clear k0 k1 k2
  have HC := bx (HC.out.below HB'.out HC.out.lt)
  have HB := bx (HB.out.trans (HB'.out.mono HB.out.size))
  clear HB'
  have k0 : w6.cell? ⟨w.heap.size, 0, none⟩ = some (.int .i64 n) := HC.out.cell rfl
  have k1 : w6.cell? ⟨w.heap.size, 1, none⟩ = some (.int .i64 k) := HC.out.cell rfl
  have k2 : w6.cell? ⟨w.heap.size, 2, none⟩ = some (.int .i64 b) := HC.out.cell rfl
  go_upto_region 8 with (go_at_call 15; refine (HP1.out _).mono ?_; rintro e w7 ⟨rfl, hb⟩; have HB' := bx hb; clear hb)
  have HV1 := bx ((HV1.out.below HB'.out).more HB'.out.size)
  have HV2 := bx ((HV2.out.below HB'.out).more HB'.out.size)
  have HV3 := bx ((HV3.out.below HB'.out).more HB'.out.size)
  have HV4 := bx ((HV4.out.below HB'.out).more HB'.out.size)
  have HV5 := bx ((HV5.out.below HB'.out).more HB'.out.size)
  have HV6 := bx ((HV6.out.below HB'.out).more HB'.out.size)
  clear k0 k1 k2
  have HC := bx (HC.out.below HB'.out HC.out.lt)
  have HB := bx (HB.out.trans (HB'.out.mono HB.out.size))
  clear HB'
  have k0 : w7.cell? ⟨w.heap.size, 0, none⟩ = some (.int .i64 n) := HC.out.cell rfl
  have k1 : w7.cell? ⟨w.heap.size, 1, none⟩ = some (.int .i64 k) := HC.out.cell rfl
  have k2 : w7.cell? ⟨w.heap.size, 2, none⟩ = some (.int .i64 b) := HC.out.cell rfl
  go_upto_region 9 with (go_at_call 30; refine (HP2.out _).mono ?_; rintro e w8 ⟨rfl, hb⟩; have HB' := bx hb; clear hb)
  have HV1 := bx ((HV1.out.below HB'.out).more HB'.out.size)
  have HV2 := bx ((HV2.out.below HB'.out).more HB'.out.size)
  have HV3 := bx ((HV3.out.below HB'.out).more HB'.out.size)
  have HV4 := bx ((HV4.out.below HB'.out).more HB'.out.size)
  have HV5 := bx ((HV5.out.below HB'.out).more HB'.out.size)
  have HV6 := bx ((HV6.out.below HB'.out).more HB'.out.size)
  clear k0 k1 k2
  have HC := bx (HC.out.below HB'.out HC.out.lt)
  have HB := bx (HB.out.trans (HB'.out.mono HB.out.size))
  clear HB'
  have HL1 : Bx (∀ z : Ext w8.heap.size w8, Calls Try.prog 19 #[v1, v2] z.w fun e w' => e = .returned (.bool true) ∧ Below z.w.heap.size z.w w') := bx fun z => by
    have := lists_any v1 v2 R1 R1 z.w ((HV1.out.below z.bel).more z.bel.size) ((HV2.out.below z.bel).more z.bel.size) HN1.out
    rwa [show decide (R1 = R1) = true from decide_eq_true rfl] at this
  have HL2 : Bx (∀ z : Ext w8.heap.size w8, Calls Try.prog 14 #[v3, v4] z.w fun e w' => e = .returned (.bool true) ∧ Below z.w.heap.size z.w w') := bx fun z => by
    have := same_row ((HV3.out.below z.bel).more z.bel.size) ((HV4.out.below z.bel).more z.bel.size)
    rwa [show decide (R2 = R2) = true from decide_eq_true rfl] at this
  have HL3 : Bx (∀ z : Ext w8.heap.size w8, Calls Try.prog 19 #[v5, v6] z.w fun e w' => e = .returned (.bool true) ∧ Below z.w.heap.size z.w w') := bx fun z => by
    have := lists_any v5 v6 R3 R3 z.w ((HV5.out.below z.bel).more z.bel.size) ((HV6.out.below z.bel).more z.bel.size) HN3.out
    rwa [show decide (R3 = R3) = true from decide_eq_true rfl] at this
  refine wp_region_ext (w := w8) w8.heap.size (by kernel_rfl) (by kernel_rfl) ?_
  have l8 := HC.out.lt
  have z0 : ∀ z : Ext w8.heap.size w8, z.w.cell? ⟨w.heap.size, 0, none⟩ = some (.int .i64 n) := ext_cell HC.out l8 rfl
  have z1 : ∀ z : Ext w8.heap.size w8, z.w.cell? ⟨w.heap.size, 1, none⟩ = some (.int .i64 k) := ext_cell HC.out l8 rfl
  have z2 : ∀ z : Ext w8.heap.size w8, z.w.cell? ⟨w.heap.size, 2, none⟩ = some (.int .i64 b) := ext_cell HC.out l8 rfl
  have HB8 := bx (show Below w.heap.size w w8 from HB.out)
  clear HQ1 HQ2 HQ3 HQ4 HQ5 HQ6 HP1 HP2 HV1 HV2 HV3 HV4 HV5 HV6 HN1 HN3 HS HLX HC HB hs6 hx6 l8
  have g1 : (e1 == e1) = true := beq_self_eq_true _
  have g2 : (e2 == e2) = true := beq_self_eq_true _
  have g3 : (e3 == e3) = true := beq_self_eq_true _
  have g4 : (x == x) = true := beq_self_eq_true _
  have g5 : (y == y) = true := beq_self_eq_true _
  have g6 : (z == z) = true := beq_self_eq_true _
  repeat (first
    | go_big_quiet_step (first
      | (go_at_call 19; first | (with_reducible exact ext_call (Nat.le_refl _) (HL1.out _)) | (with_reducible exact ext_call (Nat.le_refl _) (HL3.out _)))
      | (go_at_call 14; exact ext_call (Nat.le_refl _) (HL2.out _))
      | (go_at_call 18; exact ext_call (Nat.le_refl _) (HZ1.out _))
      | (go_at_call 31; exact ext_call (Nat.le_refl _) (HZ2.out _)))
    | simp only [g1, g2, g3, g4, g5, g6])
  refine wpQuiet_nil ?_
  rintro _ ⟨z', rfl⟩
  have HZ := bx (HB8.out.trans (z'.bel.mono HB8.out.size))
  go_wp2
  go_ret
  exact ⟨rfl, HZ.out⟩
end Go.Proofs.Ytkjaonlelkfhaaa

/- The walks of package lanes, more of them: sums, products, squares. -/
import Derived.Test.YtcbkdlhmemibpaaLanesW
namespace Go.Proofs.Ytcbkdlhmemibpaa
open Go.RowKit Gf Bt

set_option maxHeartbeats 1000000 in
theorem add_any (p q : List UInt64) (hp : p.length = 8) (hq : q.length = 8) (w : World) :
    Calls Try.prog 17 #[.agg (p.map W64).toArray, .agg (q.map W64).toArray] w fun e w' => e = .returned (.agg ((addP p q).map W64).toArray) ∧ Below w.heap.size w w' := by
  have HP := Lib.hid hp
  have HQ := Lib.hid hq
  go_enter Try.func17, Try.ntmps17
  clear hp hq
  go_wp2
  go_loopw [6] (fun i wr => ∃ k : Nat, k ≤ 8 ∧ i = .int .i64 k ∧ Blk wr w.heap.size 24 ((addTo p q k).map W64) ∧
      Blk wr (w.heap.size + 1) 24 (q.map W64) ∧ Blk wr (w.heap.size + 2) 24 (List.replicate 8 (W64 0)) ∧ Below w.heap.size w wr) (fun i _ => 8 - (intOf i).toNat)
  case atStart =>
    refine ⟨0, by omega, rfl, ?_, ?_, ?_, (((Below.refl _ _).alloc (Nat.le_refl _) _).alloc (by simp) _).alloc (by simp <;> omega) _⟩
    · rw [addTo_zero p q HP.out]; exact ((Blk.new w _ _).alloc _).alloc _
    · exact (blk_new1 w _ _ _).alloc _
    · exact blk_new2 w _ _ _ (List.replicate 8 (W64 0))
  case round =>
    obtain ⟨k, hk, rfl, hb, hr, hz, hbel⟩ := hrel
    by_cases hlt : k < 8
    · have hc1 : wr.cell? ⟨w.heap.size, k, none⟩ = some (.int .u64 (p.getD k 0).toNat) := hb.cell (by simp [addTo_get p q hlt])
      have hc2 : wr.cell? ⟨w.heap.size + 1, k, none⟩ = some (.int .u64 (q.getD k 0).toNat) := hr.cell (by
        have := HQ.out; simp [List.getD_eq_getElem?_getD, List.getElem?_eq_getElem (show k < q.length by omega)])
      have hfz : wr.frozen? ⟨w.heap.size, k, none⟩ = false := hb.froz
      have HX := Lib.hid (bits_u64_xor (p.getD k 0) (q.getD k 0))
      have HS := Lib.hid (addTo_step p q (k := k))
      have HB := Lib.hid hb
      have HR := Lib.hid hr
      have HZ := Lib.hid hz
      have HL := Lib.hid hbel
      clear hb hr hz hbel
      generalize p.getD k 0 = x at *
      generalize q.getD k 0 = y at *
      go_wp2
      go_region
      go_wp2
      go_roundw
      case rel =>
        refine ⟨k + 1, by omega, by go_num, ?_, (HR.out.other (by simp <;> omega) _).drew, (HZ.out.other (by simp <;> omega) _).drew, (HL.out.setCell (by simp <;> omega) _).drew⟩
        rw [HX.out, ← HS.out, List.map_set]; exact (HB.out.set _).drew
      case measure => simp [intOf]; omega
    · obtain rfl : k = 8 := by omega
      rw [addTo_all] at hb
      have HB := Lib.hid hb
      have HZ := Lib.hid hz
      have HL := Lib.hid hbel
      clear hb hr hz hbel hlt
      go_wp2_with (first
        | (refine ld_arr rfl 24 _ rfl (w.heap.size) rfl _ _ _ _ HB.out Try.underlying24 (planes_info _ (addP_length p q)) ?_)
        | (refine st_arr rfl 24 _ _ rfl (w.heap.size + 2) ((addP p q).map W64) rfl rfl _ _ HZ.out (planes_info _ (addP_length p q)) (by rw [List.length_replicate, List.length_map, (addP_length p q)]) (w64_one _) ?_; intro w1 hb1 hp1))
      refine ret_arr rfl rfl (w.heap.size + 2) rfl _ _ _ _ hb1 Try.underlying24 (planes_info _ (addP_length p q)) ⟨rfl, hp1.bel HL.out (by omega)⟩

/-- The bits of 285, as the code asks them. -/
theorem bit_285 (k : Nat) : (bits .and .i64 ((285 : Int) / 2 ^ k) 1 == 1) = Nat.testBit 285 k := by
  have h := bit_and .i64 285 k (by decide) (by decide) (by decide) (by decide)
  rw [show ((285 : Nat) : Int) = 285 from rfl] at h
  rw [h]
  cases Nat.testBit 285 k <;> rfl
theorem bring_row_yes (w : List UInt64) (i k : Nat) (h : Nat.testBit 285 k = true) :
    (bringRow 0 (fun a b => a ^^^ b) (i + 8) w k).set (i + k) ((bringRow 0 (fun a b => a ^^^ b) (i + 8) w k).getD (i + k) 0 ^^^ (bringRow 0 (fun a b => a ^^^ b) (i + 8) w k).getD (i + 8) 0) = bringRow 0 (fun a b => a ^^^ b) (i + 8) w (k + 1) := by
  conv => rhs; unfold bringRow
  rw [if_pos h, show i + 8 - 8 + k = i + k by omega]
theorem bring_row_no (w : List UInt64) (i k : Nat) (h : Nat.testBit 285 k = false) : bringRow 0 (fun a b => a ^^^ b) (i + 8) w k = bringRow 0 (fun a b => a ^^^ b) (i + 8) w (k + 1) := by
  conv => rhs; unfold bringRow
  rw [if_neg (by rw [h]; simp)]
theorem array_at (g : Nat) (w : World) : (Instr.arrayAt 24 (.slice (some ⟨g, 0, none⟩) 8 15)).run Try.prog w = .ok (.pointer (some ⟨g, 0, none⟩)) w := by kernel_rfl
set_option maxRecDepth 100000 in
set_option maxHeartbeats 1000000 in
theorem bring_any (v : List UInt64) (hv : v.length = 15) (w : World) :
    Calls Try.prog 20 #[.agg (v.map W64).toArray] w fun e w' => e = .returned (.agg ((bring 0 (fun a b => a ^^^ b) v).map W64).toArray) ∧ Below w.heap.size w w' := by
  have HV := Lib.hid hv
  go_enter Try.func20, Try.ntmps20
  clear hv
  go_wp2
  go_step3
  go_wp2
  go_step3
  go_wp2
  go_loopw [3] (fun i wr => ∃ j m : Nat, m + j = 14 ∧ j ≤ 7 ∧ i = .int .i64 m ∧ Blk wr w.heap.size 41 ((bringTo 0 (fun a b => a ^^^ b) v j).map W64) ∧
      Blk wr (w.heap.size + 1) 24 (List.replicate 8 (W64 0)) ∧ Below w.heap.size w wr) (fun i _ => (intOf i).toNat)
  case atStart =>
    refine ⟨0, 14, by omega, by omega, rfl, ?_, ?_, ((Below.refl _ _).alloc (Nat.le_refl _) _).alloc (by simp) _⟩
    · rw [show bringTo 0 (fun a b => a ^^^ b) v 0 = v from rfl]
      exact (Blk.new w 41 (v.map W64)).alloc _
    · exact blk_new1 w _ 24 (List.replicate 8 (W64 0))
  case round =>
    obtain ⟨j, m, hmj, hj, rfl, hb, hr, hbel⟩ := hrel
    have HM := Lib.hid hmj
    have HB := Lib.hid hb
    have HR := Lib.hid hr
    have HL := Lib.hid hbel
    by_cases hlt : 8 ≤ m
    · have hm14 : m ≤ 14 := by omega
      clear hb hr hbel hmj
      obtain ⟨a, rfl⟩ : ∃ a, m = a + 8 := ⟨m - 8, by omega⟩
      have ha0 : (0 : Int) ≤ (a : Int) := Int.natCast_nonneg _
      have ha6 : (a : Int) ≤ 6 := by omega
      obtain ⟨wo, HO⟩ : ∃ wo : World, Hid (wo = wr) := ⟨wr, rfl⟩
      go_wp2
      go_loopw [7] (fun i wr => ∃ k : Nat, k ≤ 8 ∧ i = .int .i64 k ∧ Blk wr w.heap.size 41 ((bringRow 0 (fun a b => a ^^^ b) (a + 8) (bringTo 0 (fun a b => a ^^^ b) v j) k).map W64) ∧
        Blk wr (w.heap.size + 1) 24 (List.replicate 8 (W64 0)) ∧ Below w.heap.size w wr) (fun i _ => 8 - (intOf i).toNat)
      case atStart => exact ⟨0, by omega, rfl, HB.out, HR.out, HL.out⟩
      case round =>
        obtain ⟨k, hk, rfl, hb, hr, hbel⟩ := hrel
        clear HB HR HL
        by_cases hlt8 : k < 8
        · have hbit := bit_285 k
          have hk0 : (0 : Int) ≤ (k : Int) := Int.natCast_nonneg _
          have HY := Lib.hid (bring_row_yes (bringTo 0 (fun a b => a ^^^ b) v j) a k)
          have HN := Lib.hid (bring_row_no (bringTo 0 (fun a b => a ^^^ b) v j) a k)
          have hlen : (bringRow 0 (fun a b => a ^^^ b) (a + 8) (bringTo 0 (fun a b => a ^^^ b) v j) k).length = 15 := by rw [bringRow_length, bringTo_length, HV.out]
          generalize bringRow 0 (fun a b => a ^^^ b) (a + 8) (bringTo 0 (fun a b => a ^^^ b) v j) k = u at *
          have hc1 : wr.cell? ⟨w.heap.size, a + k, none⟩ = some (.int .u64 (u.getD (a + k) 0).toNat) := hb.cell (by
            simp [List.getD_eq_getElem?_getD, List.getElem?_eq_getElem (show a + k < u.length by omega)])
          have hc2 : wr.cell? ⟨w.heap.size, a + 8, none⟩ = some (.int .u64 (u.getD (a + 8) 0).toNat) := hb.cell (by
            simp [List.getD_eq_getElem?_getD, List.getElem?_eq_getElem (show a + 8 < u.length by omega)])
          have hfz : wr.frozen? ⟨w.heap.size, a + k, none⟩ = false := hb.froz
          have HX := Lib.hid (bits_u64_xor (u.getD (a + k) 0) (u.getD (a + 8) 0))
          have HB := Lib.hid hb
          have HR := Lib.hid hr
          have HL := Lib.hid hbel
          clear hb hr hbel hlen
          generalize u.getD (a + k) 0 = x1 at *
          generalize u.getD (a + 8) 0 = x2 at *
          go_wp2
          · go_region
            go_wp2
            go_roundw
            case rel =>
              refine ⟨k + 1, by omega, by go_num, ?_, (HR.out.other (by simp <;> omega) _).drew, (HL.out.setCell (by simp <;> omega) _).drew⟩
              rw [HX.out, ← HY.out (by assumption), List.map_set]; exact (HB.out.set _).drew
            case measure => simp [intOf]; omega
          · go_roundw
            case rel =>
              refine ⟨k + 1, by omega, by go_num, ?_, HR.out, HL.out⟩
              rw [← HN.out (by assumption)]; exact HB.out
            case measure => simp [intOf]; omega
        · obtain rfl : k = 8 := by omega
          have HB := Lib.hid hb
          have HR := Lib.hid hr
          have HL := Lib.hid hbel
          clear hb hr hbel
          go_wp2
          go_roundw
          case rel =>
            refine ⟨j + 1, a + 7, by have := HM.out; omega, by have := HM.out; omega, by go_num, ?_, HR.out, HL.out⟩
            have e : 14 - j = a + 8 := by have := HM.out; omega
            rw [bringTo, e]; exact HB.out
          case measure => simp [intOf]; omega
    · obtain rfl : m = 7 := by omega
      obtain rfl : j = 7 := by omega
      clear hb hr hbel
      have hlen : (bring 0 (fun a b => a ^^^ b) v).length = 8 := bring_length _ _ _ HV.out
      have HC := Lib.hid (blk_range (n := 8) HB.out)
      rw [← List.map_take] at HC
      have HL8 := Lib.hid hlen
      clear hlen
      change Hid (wr.rangeAt w.heap.size 0 ((bring 0 (fun a b => a ^^^ b) v).map W64)) at HC
      obtain ⟨r, hre⟩ : ∃ r, bring 0 (fun a b => a ^^^ b) v = r := ⟨_, rfl⟩
      rw [hre] at HL8 HC
      have HE := Lib.hid hre
      clear hre
      have hat := array_at w.heap.size
      go_wp2_with (first
        | (refine wpList_load_mid rfl 24 _ rfl w.heap.size 0 rfl (r.map W64) _ HC.out Try.underlying24 rfl (by rw [planes_info _ HL8.out]) ?_)
        | (refine st_arr rfl 24 _ _ rfl (w.heap.size + 1) ((r).map W64) rfl rfl _ _ HR.out (planes_info _ HL8.out) (by rw [List.length_replicate, List.length_map, HL8.out]) (w64_one _) ?_; intro w1 hb1 hp1))
      refine ret_arr rfl rfl (w.heap.size + 1) rfl _ _ _ _ hb1 Try.underlying24 (planes_info _ HL8.out) ⟨by rw [HE.out], hp1.bel HL.out (by omega)⟩

theorem zero15 : (List.replicate 15 (0 : UInt64)).map W64 = List.replicate 15 (W64 0) := by rw [List.map_replicate]
set_option maxRecDepth 100000 in
set_option maxHeartbeats 1000000 in
theorem mul_any (p q : List UInt64) (hp : p.length = 8) (hq : q.length = 8) (w : World) :
    Calls Try.prog 12 #[.agg (p.map W64).toArray, .agg (q.map W64).toArray] w fun e w' => e = .returned (.agg ((mulP p q).map W64).toArray) ∧ Below w.heap.size w w' := by
  have HP := Lib.hid hp
  have HQ := Lib.hid hq
  go_enter Try.func12, Try.ntmps12
  clear hp hq
  go_wp2
  go_loopw [8] (fun i wr => ∃ k : Nat, k ≤ 8 ∧ i = .int .i64 k ∧ Blk wr (w.heap.size + 3) 41 ((mulTo 0 (fun a b => a ^^^ b) (fun a b => a &&& b) p q 0 0 k).map W64) ∧
      Blk wr w.heap.size 24 (p.map W64) ∧ Blk wr (w.heap.size + 1) 24 (q.map W64) ∧ Blk wr (w.heap.size + 2) 24 (List.replicate 8 (W64 0)) ∧ Below w.heap.size w wr) (fun i _ => 8 - (intOf i).toNat)
  case atStart =>
    refine ⟨0, by omega, rfl, ?_, ?_, ?_, ?_, ((((Below.refl _ _).alloc (Nat.le_refl _) _).alloc (by simp) _).alloc (by simp <;> omega) _).alloc (by simp <;> omega) _⟩
    · rw [show mulTo 0 (fun a b => a ^^^ b) (fun a b => a &&& b) p q 0 0 0 = List.replicate 15 0 from rfl, zero15]; exact blk_new3 w _ _ _ _ (List.replicate 15 (W64 0))
    · exact (((Blk.new w 24 (p.map W64)).alloc _).alloc _).alloc _
    · exact ((blk_new1 w _ 24 (q.map W64)).alloc _).alloc _
    · exact (blk_new2 w _ _ 24 (List.replicate 8 (W64 0))).alloc _
  case round =>
    obtain ⟨k, hk, rfl, hb, h1, h2, hz, hbel⟩ := hrel
    have HB := Lib.hid hb
    have H1 := Lib.hid h1
    have H2 := Lib.hid h2
    have HZ := Lib.hid hz
    have HL := Lib.hid hbel
    clear hb h1 h2 hz hbel
    by_cases hlt : k < 8
    · have hk0 : (0 : Int) ≤ (k : Int) := Int.natCast_nonneg _
      obtain ⟨wo, HO⟩ : ∃ wo : World, Hid (wo = wr) := ⟨wr, rfl⟩
      go_wp2
      go_loopw [11] (fun i wr => ∃ m : Nat, m ≤ 8 ∧ i = .int .i64 m ∧ Blk wr (w.heap.size + 3) 41 ((mulRow 0 (fun a b => a ^^^ b) (fun a b => a &&& b) p q 0 0 k (mulTo 0 (fun a b => a ^^^ b) (fun a b => a &&& b) p q 0 0 k) m).map W64) ∧
        Blk wr w.heap.size 24 (p.map W64) ∧ Blk wr (w.heap.size + 1) 24 (q.map W64) ∧ Blk wr (w.heap.size + 2) 24 (List.replicate 8 (W64 0)) ∧ Below w.heap.size w wr) (fun i _ => 8 - (intOf i).toNat)
      case atStart => exact ⟨0, by omega, rfl, HB.out, H1.out, H2.out, HZ.out, HL.out⟩
      case round =>
        obtain ⟨m, hm, rfl, hb, h1, h2, hz, hbel⟩ := hrel
        clear HB H1 H2 HZ HL
        by_cases hlt8 : m < 8
        · have hm0 : (0 : Int) ≤ (m : Int) := Int.natCast_nonneg _
          have hlen : (mulRow 0 (fun a b => a ^^^ b) (fun a b => a &&& b) p q 0 0 k (mulTo 0 (fun a b => a ^^^ b) (fun a b => a &&& b) p q 0 0 k) m).length = 15 := by rw [mulRow_length, mulTo_length]
          have HS := Lib.hid (show mulRow 0 (fun a b => a ^^^ b) (fun a b => a &&& b) p q 0 0 k (mulTo 0 (fun a b => a ^^^ b) (fun a b => a &&& b) p q 0 0 k) (m + 1) = mulStep 0 (fun a b => a ^^^ b) (fun a b => a &&& b) p q 0 0 k (mulRow 0 (fun a b => a ^^^ b) (fun a b => a &&& b) p q 0 0 k (mulTo 0 (fun a b => a ^^^ b) (fun a b => a &&& b) p q 0 0 k) m) m from rfl)
          generalize mulRow 0 (fun a b => a ^^^ b) (fun a b => a &&& b) p q 0 0 k (mulTo 0 (fun a b => a ^^^ b) (fun a b => a &&& b) p q 0 0 k) m = u at *
          have hc1 : wr.cell? ⟨w.heap.size + 3, k + m, none⟩ = some (.int .u64 (u.getD (k + m) 0).toNat) := hb.cell (by
            simp [List.getD_eq_getElem?_getD, List.getElem?_eq_getElem (show k + m < u.length by omega)])
          have hc2 : wr.cell? ⟨w.heap.size, k, none⟩ = some (.int .u64 (p.getD k 0).toNat) := h1.cell (by
            have := HP.out; simp [List.getD_eq_getElem?_getD, List.getElem?_eq_getElem (show k < p.length by omega)])
          have hc3 : wr.cell? ⟨w.heap.size + 1, m, none⟩ = some (.int .u64 (q.getD m 0).toNat) := h2.cell (by
            have := HQ.out; simp [List.getD_eq_getElem?_getD, List.getElem?_eq_getElem (show m < q.length by omega)])
          have hfz : wr.frozen? ⟨w.heap.size + 3, k + m, none⟩ = false := hb.froz
          have HX := Lib.hid (bits_u64_xor (u.getD (k + m) 0) (p.getD k 0 &&& q.getD m 0))
          have HA := Lib.hid (bits_u64_and (p.getD k 0) (q.getD m 0))
          have HT := Lib.hid (show mulStep 0 (fun a b => a ^^^ b) (fun a b => a &&& b) p q 0 0 k u m = u.set (k + m) (u.getD (k + m) 0 ^^^ (p.getD k 0 &&& q.getD m 0)) from rfl)
          have HB := Lib.hid hb
          have H1 := Lib.hid h1
          have H2 := Lib.hid h2
          have HZ := Lib.hid hz
          have HL := Lib.hid hbel
          clear hb h1 h2 hz hbel hlen
          generalize u.getD (k + m) 0 = x1 at *
          generalize p.getD k 0 = x2 at *
          generalize q.getD m 0 = x3 at *
          go_wp2
          go_region
          go_wp2
          go_roundw
          case rel =>
            refine ⟨m + 1, by omega, by go_num, ?_, (H1.out.other (by simp <;> omega) _).drew, (H2.out.other (by simp <;> omega) _).drew, (HZ.out.other (by simp <;> omega) _).drew, (HL.out.setCell (by simp <;> omega) _).drew⟩
            rw [HA.out, HX.out, HS.out, HT.out, List.map_set]; exact (HB.out.set _).drew
          case measure => simp [intOf]; omega
        · obtain rfl : m = 8 := by omega
          have HB := Lib.hid hb
          have H1 := Lib.hid h1
          have H2 := Lib.hid h2
          have HZ := Lib.hid hz
          have HL := Lib.hid hbel
          clear hb h1 h2 hz hbel
          go_wp2
          go_roundw
          case rel => exact ⟨k + 1, by omega, by go_num, HB.out, H1.out, H2.out, HZ.out, HL.out⟩
          case measure => simp [intOf]; omega
    · obtain rfl : k = 8 := by omega
      have HT := Lib.hid (mulTo_length 0 (fun a b => a ^^^ b) (fun a b => a &&& b) p q 0 0 8)
      have HM := Lib.hid (show bring 0 (fun a b => a ^^^ b) (mulTo 0 (fun a b => a ^^^ b) (fun a b => a &&& b) p q 0 0 8) = mulP p q from rfl)
      generalize mulTo 0 (fun a b => a ^^^ b) (fun a b => a &&& b) p q 0 0 8 = u at *
      have hz := HZ.out.lt
      clear hlt
      go_wp2_with (first
        | (refine ld_arr rfl 41 _ rfl (w.heap.size + 3) rfl _ _ _ _ HB.out Try.underlying41 (w15_info _ HT.out) ?_)
        | (go_at_call 20; refine (bring_any u HT.out _).mono ?_; rintro e w2 ⟨rfl, hb2⟩
           rw [HM.out]
           have HZ2 := Lib.hid (HZ.out.below hb2 hz)
           have HL2 := Lib.hid (HL.out.trans (hb2.mono HL.out.size))
           clear hb2)
        | (refine st_arr rfl 24 _ _ rfl (w.heap.size + 2) ((mulP p q).map W64) rfl rfl _ _ HZ2.out (planes_info _ (mulP_length p q)) (by rw [List.length_replicate, List.length_map, (mulP_length p q)]) (w64_one _) ?_; intro w1 hb1 hp1))
      refine ret_arr rfl rfl (w.heap.size + 2) rfl _ _ _ _ hb1 Try.underlying24 (planes_info _ (mulP_length p q)) ⟨rfl, hp1.bel HL2.out (by omega)⟩
end Go.Proofs.Ytcbkdlhmemibpaa

/- The walks of package lanes: squares, scaling. -/
import Derived.Test.YtcbkdlhmemibpaaLanesW2
namespace Go.Proofs.Ytcbkdlhmemibpaa
open Go.RowKit Gf Bt

theorem sqTo_step (p : List UInt64) (k : Nat) : (sqTo 0 p k).set (2 * k) (p.getD k 0) = sqTo 0 p (k + 1) := rfl
set_option maxRecDepth 100000 in
set_option maxHeartbeats 1000000 in
theorem square_any (p : List UInt64) (hp : p.length = 8) (w : World) :
    Calls Try.prog 15 #[.agg (p.map W64).toArray] w fun e w' => e = .returned (.agg ((squareP p).map W64).toArray) ∧ Below w.heap.size w w' := by
  have HP := Lib.hid hp
  go_enter Try.func15, Try.ntmps15
  clear hp
  go_wp2
  go_loopw [5] (fun i wr => ∃ k : Nat, k ≤ 8 ∧ i = .int .i64 k ∧ Blk wr (w.heap.size + 2) 41 ((sqTo 0 p k).map W64) ∧
      Blk wr w.heap.size 24 (p.map W64) ∧ Blk wr (w.heap.size + 1) 24 (List.replicate 8 (W64 0)) ∧ Below w.heap.size w wr) (fun i _ => 8 - (intOf i).toNat)
  case atStart =>
    refine ⟨0, by omega, rfl, ?_, ?_, ?_, (((Below.refl _ _).alloc (Nat.le_refl _) _).alloc (by simp) _).alloc (by simp <;> omega) _⟩
    · rw [show sqTo 0 p 0 = List.replicate 15 0 from rfl, zero15]; exact blk_new2 w _ _ _ (List.replicate 15 (W64 0))
    · exact ((Blk.new w 24 (p.map W64)).alloc _).alloc _
    · exact (blk_new1 w _ 24 (List.replicate 8 (W64 0))).alloc _
  case round =>
    obtain ⟨k, hk, rfl, hb, h1, hz, hbel⟩ := hrel
    by_cases hlt : k < 8
    · have hk0 : (0 : Int) ≤ (k : Int) := Int.natCast_nonneg _
      have hl15 : (sqTo 0 p k).length = 15 := sqTo_length 0 p k
      obtain ⟨x0, hx0⟩ : ∃ x0 : UInt64, (sqTo 0 p k)[2 * k]? = some x0 := ⟨_, List.getElem?_eq_getElem (by omega)⟩
      have hc1 : wr.cell? ⟨w.heap.size + 2, 2 * k, none⟩ = some (.int .u64 x0.toNat) := hb.cell (by simp [hx0])
      have hc2 : wr.cell? ⟨w.heap.size, k, none⟩ = some (.int .u64 (p.getD k 0).toNat) := h1.cell (by
        have := HP.out; simp [List.getD_eq_getElem?_getD, List.getElem?_eq_getElem (show k < p.length by omega)])
      have hfz : wr.frozen? ⟨w.heap.size + 2, 2 * k, none⟩ = false := hb.froz
      have HS := Lib.hid (sqTo_step p k)
      have HB := Lib.hid hb
      have H1 := Lib.hid h1
      have HZ := Lib.hid hz
      have HL := Lib.hid hbel
      clear hb h1 hz hbel hl15 hx0
      generalize p.getD k 0 = x1 at *
      go_wp2
      go_roundw
      case rel =>
        refine ⟨k + 1, by omega, by go_num, ?_, H1.out.other (by simp <;> omega) _, HZ.out.other (by simp <;> omega) _, HL.out.setCell (by simp <;> omega) _⟩
        rw [← HS.out, List.map_set]; exact HB.out.set _
      case measure => simp [intOf]; omega
    · obtain rfl : k = 8 := by omega
      have HB := Lib.hid hb
      have HZ := Lib.hid hz
      have HL := Lib.hid hbel
      have hzl := hz.lt
      clear hb h1 hz hbel hlt
      have HT := Lib.hid (sqTo_length 0 p 8)
      have HM := Lib.hid (show bring 0 (fun a b => a ^^^ b) (sqTo 0 p 8) = squareP p from rfl)
      generalize sqTo 0 p 8 = u at *
      go_wp2_with (first
        | (refine ld_arr rfl 41 _ rfl (w.heap.size + 2) rfl _ _ _ _ HB.out Try.underlying41 (w15_info _ HT.out) ?_)
        | (go_at_call 20; refine (bring_any u HT.out _).mono ?_; rintro e w2 ⟨rfl, hb2⟩
           rw [HM.out]
           have HZ2 := Lib.hid (HZ.out.below hb2 hzl)
           have HL2 := Lib.hid (HL.out.trans (hb2.mono HL.out.size))
           clear hb2)
        | (refine st_arr rfl 24 _ _ rfl (w.heap.size + 1) ((squareP p).map W64) rfl rfl _ _ HZ2.out (planes_info _ (squareP_length p)) (by rw [List.length_replicate, List.length_map, (squareP_length p)]) (w64_one _) ?_; intro w1 hb1 hp1))
      refine ret_arr rfl rfl (w.heap.size + 1) rfl _ _ _ _ hb1 Try.underlying24 (planes_info _ (squareP_length p)) ⟨rfl, hp1.bel HL2.out (by omega)⟩

/-- Whether a bit is 1, as the code asks it. -/
theorem bit_u8_eq (x : UInt8) (k : Nat) : (bits .and .u8 ((x.toNat : Int) / 2 ^ k) 1 == 1) = b8 x k := by
  rw [bit_u8]; cases b8 x k <;> rfl
theorem ones_int : (18446744073709551615 : Int) = ((ones64.toNat : Nat) : Int) := by rw [ones64_toNat]; rfl
set_option maxRecDepth 100000 in
set_option maxHeartbeats 1000000 in
theorem scale_any (p : List UInt64) (hp : p.length = 8) (x : UInt8) (w : World) :
    Calls Try.prog 16 #[.agg (p.map W64).toArray, .int .u8 x.toNat] w fun e w' => e = .returned (.agg ((scaleP p x).map W64).toArray) ∧ Below w.heap.size w w' := by
  have HP := Lib.hid hp
  go_enter Try.func16, Try.ntmps16
  clear hp
  go_wp2
  go_loopw [7] (fun i wr => ∃ k : Nat, k ≤ 8 ∧ i = .int .i64 k ∧ Blk wr (w.heap.size + 2) 24 ((all64To x k).map W64) ∧
      Blk wr w.heap.size 24 (p.map W64) ∧ Blk wr (w.heap.size + 1) 24 (List.replicate 8 (W64 0)) ∧ Below w.heap.size w wr) (fun i _ => 8 - (intOf i).toNat)
  case atStart =>
    refine ⟨0, by omega, rfl, ?_, ?_, ?_, (((Below.refl _ _).alloc (Nat.le_refl _) _).alloc (by simp) _).alloc (by simp <;> omega) _⟩
    · rw [all64To_zero]; exact blk_new2 w _ _ _ (List.replicate 8 (W64 0))
    · exact ((Blk.new w 24 (p.map W64)).alloc _).alloc _
    · exact (blk_new1 w _ 24 (List.replicate 8 (W64 0))).alloc _
  case round =>
    obtain ⟨k, hk, rfl, hb, h1, hz, hbel⟩ := hrel
    by_cases hlt : k < 8
    · have hk0 : (0 : Int) ≤ (k : Int) := Int.natCast_nonneg _
      have hl8 : (all64To x k).length = 8 := all64To_length x k
      obtain ⟨x0, hx0⟩ : ∃ x0 : UInt64, (all64To x k)[k]? = some x0 := ⟨_, List.getElem?_eq_getElem (by omega)⟩
      have hc1 : wr.cell? ⟨w.heap.size + 2, k, none⟩ = some (.int .u64 x0.toNat) := hb.cell (by simp [hx0])
      have hfz : wr.frozen? ⟨w.heap.size + 2, k, none⟩ = false := hb.froz
      have hbit := bit_u8_eq x k
      have HY := Lib.hid (fun h => all64To_yes x (k := k) h)
      have HN := Lib.hid (fun h => all64To_no x (k := k) h)
      have HB := Lib.hid hb
      have H1 := Lib.hid h1
      have HZ := Lib.hid hz
      have HL := Lib.hid hbel
      clear hb h1 hz hbel hl8 hx0
      go_wp2
      · go_roundw
        case rel =>
          refine ⟨k + 1, by omega, by go_num, ?_, H1.out.other (by simp <;> omega) _, HZ.out.other (by simp <;> omega) _, HL.out.setCell (by simp <;> omega) _⟩
          rw [← HY.out (by assumption), List.map_set, ones_int]; exact HB.out.set _
        case measure => simp [intOf]; omega
      · go_roundw
        case rel =>
          refine ⟨k + 1, by omega, by go_num, ?_, H1.out, HZ.out, HL.out⟩
          rw [← HN.out (by assumption)]; exact HB.out
        case measure => simp [intOf]; omega
    · obtain rfl : k = 8 := by omega
      rw [all64To_all] at hb
      have HB := Lib.hid hb
      have H1 := Lib.hid h1
      have HZ := Lib.hid hz
      have HL := Lib.hid hbel
      have hzl := hz.lt
      clear hb h1 hz hbel hlt
      go_wp2_with (first
        | (refine ld_arr rfl 24 _ rfl (w.heap.size) rfl _ _ _ _ H1.out Try.underlying24 (planes_info _ HP.out) ?_)
        | (refine ld_arr rfl 24 _ rfl (w.heap.size + 2) rfl _ _ _ _ HB.out Try.underlying24 (planes_info _ (all64_length x)) ?_)
        | (go_at_call 12; refine (mul_any p (all64 x) HP.out (all64_length x) _).mono ?_; rintro e w2 ⟨rfl, hb2⟩
           have HZ2 := Lib.hid (HZ.out.below hb2 hzl)
           have HL2 := Lib.hid (HL.out.trans (hb2.mono HL.out.size))
           clear hb2)
        | (refine st_arr rfl 24 _ _ rfl (w.heap.size + 1) ((mulP p (all64 x)).map W64) rfl rfl _ _ HZ2.out (planes_info _ (mulP_length p (all64 x))) (by rw [List.length_replicate, List.length_map, (mulP_length p (all64 x))]) (w64_one _) ?_; intro w1 hb1 hp1))
      refine ret_arr rfl rfl (w.heap.size + 1) rfl _ _ _ _ hb1 Try.underlying24 (planes_info _ (mulP_length p (all64 x))) ⟨rfl, hp1.bel HL2.out (by omega)⟩
end Go.Proofs.Ytcbkdlhmemibpaa

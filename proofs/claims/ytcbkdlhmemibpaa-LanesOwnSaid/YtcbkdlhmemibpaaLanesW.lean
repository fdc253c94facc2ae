/- The walks of package lanes. -/
import Derived.Test.YtcbkdlhmemibpaaLanesPure
namespace Go.Proofs.Ytcbkdlhmemibpaa
open Go.RowKit Gf Bt

theorem planes_info (p : List UInt64) (hp : p.length = 8) : (Try.prog.info? 24).map (·.size) = some (p.map W64).length := by
  rw [List.length_map, hp]; kernel_rfl
theorem w15_info (p : List UInt64) (hp : p.length = 15) : (Try.prog.info? 41).map (·.size) = some (p.map W64).length := by
  rw [List.length_map, hp]; kernel_rfl
theorem w64_one (p : List UInt64) : ∀ v ∈ p.map W64, v.oneCell' = true := by
  intro v hv; obtain ⟨x, _, rfl⟩ := List.mem_map.1 hv; rfl

set_option maxHeartbeats 400000 in
theorem lane_in (p : List UInt64) (hp : p.length = 8) (n : Int) (w : World) (hn0 : 0 ≤ n) (hn : n < 64) :
    Calls Try.prog 13 #[.agg (p.map W64).toArray, .int .i64 n] w fun e w' => e = .returned (.int .u8 (lane p n.toNat).toNat) ∧ Below w.heap.size w w' := by
  go_enter Try.func13, Try.ntmps13
  go_wp2
  go_loop [5, 13] (fun b i => ∃ k : Nat, k ≤ 8 ∧ i = .int .i64 k ∧ b = .int .u8 (laneTo p n.toNat k).toNat) (fun _ i => 8 - (intOf i).toNat)
  case atStart => exact ⟨0, by omega, rfl, by rw [laneTo_zero]; rfl⟩
  case round =>
    obtain ⟨k, hk, rfl, rfl⟩ := hrel
    by_cases hlt : k < 8
    · obtain ⟨y, hy⟩ : ∃ y : UInt64, p[k]? = some y := ⟨p[k], by simp⟩
      have hget : (p.map W64).toArray[k]? = some (.int .u64 y.toNat) := by simp [hy]
      have hc := lane_cell p n.toNat k y (by rw [List.getD_eq_getElem?_getD, hy]; rfl) hlt
      have HC := Lib.hid hc
      clear hc hy hp
      go_wp2
      go_round
      case rel => exact ⟨k + 1, by omega, by go_num, by rw [HC.out]⟩
      case measure => simp [intOf]; omega
    · obtain rfl : k = 8 := by omega
      go_wp2
      go_ret
      exact ⟨by simp only [laneTo_all p (show n.toNat < 64 by omega)]; rfl, (Below.refl _ _).alloc (Nat.le_refl _) _⟩
set_option maxHeartbeats 400000 in
theorem lane_low (p : List UInt64) (n : Int) (w : World) (hn0 : n < 0) :
    Calls Try.prog 13 #[.agg (p.map W64).toArray, .int .i64 n] w fun e w' => e = .returned (.int .u8 0) ∧ Below w.heap.size w w' := by
  go_enter Try.func13, Try.ntmps13
  go_wp2
  go_ret
  exact ⟨rfl, (Below.refl _ _).alloc (Nat.le_refl _) _⟩
set_option maxHeartbeats 400000 in
theorem lane_high (p : List UInt64) (n : Int) (w : World) (hn0 : 64 ≤ n) :
    Calls Try.prog 13 #[.agg (p.map W64).toArray, .int .i64 n] w fun e w' => e = .returned (.int .u8 0) ∧ Below w.heap.size w w' := by
  go_enter Try.func13, Try.ntmps13
  go_wp2
  go_ret
  exact ⟨rfl, (Below.refl _ _).alloc (Nat.le_refl _) _⟩
theorem lane_any (p : List UInt64) (hp : p.length = 8) (n : Int) (w : World) :
    Calls Try.prog 13 #[.agg (p.map W64).toArray, .int .i64 n] w fun e w' => e = .returned (.int .u8 (laneI p n).toNat) ∧ Below w.heap.size w w' := by
  by_cases h0 : n < 0
  · have e : laneI p n = 0 := by unfold laneI; rw [if_pos h0]
    rw [e]; exact lane_low p n w h0
  · have e : laneI p n = lane p n.toNat := by unfold laneI; rw [if_neg h0]
    rw [e]
    by_cases h1 : n < 64
    · exact lane_in p hp n w (by omega) h1
    · rw [lane_out p (show ¬ n.toNat < 64 by omega)]; exact lane_high p n w (by omega)

set_option maxHeartbeats 1000000 in
theorem pack_any (A : Option Addr) (bs : List UInt8) (cap : Nat) (w : World) (hRd : Rd w w.heap.size A (bs.map B8)) (hcap : bs.length ≤ cap) (hmax : bs.length ≤ 9223372036854775807) :
    Calls Try.prog 11 #[.slice A bs.length cap] w fun e w' => e = .returned (.agg ((pack bs).map W64).toArray) ∧ Below w.heap.size w w' := by
  go_enter Try.func11, Try.ntmps11
  go_wp2
  all_goals
    go_loopw [13] (fun i wr => ∃ k : Nat, k ≤ min bs.length 64 ∧ i = .int .i64 k ∧ Blk wr (w.heap.size + 1) 24 ((packAt bs k 0).map W64) ∧
      Blk wr w.heap.size 24 (List.replicate 8 (W64 0)) ∧ Below w.heap.size w wr) (fun i _ => 64 - (intOf i).toNat)
    case atStart => exact ⟨0, by omega, rfl, by rw [packAt_start]; exact blk_new1 w _ 24 (List.replicate 8 (W64 0)), (Blk.new w 24 (List.replicate 8 (W64 0))).alloc _, ((Below.refl _ _).alloc (Nat.le_refl _) _).alloc (by simp) _⟩
    case round =>
      obtain ⟨k, hk, rfl, hb, hr, hbel⟩ := hrel
      by_cases hlt : k < min bs.length 64
      · have hk64 : (k : Int) < 64 := by omega
        have hkl : (k : Int) < (bs.length : Int) := by omega
        obtain ⟨x, hx⟩ : ∃ x : UInt8, bs[k]? = some x := ⟨bs[k], by simp⟩
        obtain ⟨ad, rfl, hab, hc⟩ := hRd (by simp; omega)
        have hcell : wr.cell? (ad.add k) = some (.int .u8 x.toNat) := by
          rw [hbel.cell (by rw [block_of_add]; exact hab)]; exact hc k _ (by simp [hx])
        have HX := Lib.hid hx
        have HB := Lib.hid hb
        have HR := Lib.hid hr
        have HL := Lib.hid hbel
        clear hx hc hRd hb hr hbel hlt
        obtain ⟨wo, HO⟩ : ∃ wo : World, Hid (wo = wr) := ⟨wr, rfl⟩
        go_wp2
        go_loopw [18] (fun j wr => ∃ m : Nat, m ≤ 8 ∧ j = .int .i64 m ∧ Blk wr (w.heap.size + 1) 24 ((packAt bs k m).map W64) ∧
          Blk wr w.heap.size 24 (List.replicate 8 (W64 0)) ∧ Below w.heap.size w wr) (fun i _ => 8 - (intOf i).toNat)
        case atStart => exact ⟨0, by omega, rfl, HB.out, HR.out, HL.out⟩
        case round =>
          obtain ⟨m, hm, rfl, hb, hr, hbel⟩ := hrel
          clear HB HR HL
          by_cases hlt : m < 8
          · obtain ⟨y, hy⟩ : ∃ y : UInt64, (packAt bs k m)[m]? = some y := ⟨_, packAt_get _ _ _ hlt⟩
            obtain ⟨z, hz, hset⟩ := pack_cell bs k m x y HX.out hy (by omega) hlt
            have hcell2 : wr.cell? ⟨w.heap.size + 1, m, none⟩ = some (.int .u64 y.toNat) := hb.cell (by simp [hy])
            have hfz : wr.frozen? ⟨w.heap.size + 1, m, none⟩ = false := hb.froz
            have HB := Lib.hid hb
            have HR := Lib.hid hr
            have HL := Lib.hid hbel
            have HZ := Lib.hid hz
            have HS := Lib.hid hset
            clear hb hr hbel hz hset hy
            go_wp2
            go_region
            go_wp2
            go_roundw
            case rel =>
              refine ⟨m + 1, by omega, by go_num, ?_, ?_, ?_⟩
              · rw [HZ.out, ← HS.out, List.map_set]; exact (HB.out.set _).drew
              · exact (HR.out.other (by simp) _).drew
              · exact ((HL.out).setCell (by simp) _).drew
            case measure => simp [intOf]; omega
          · obtain rfl : m = 8 := by omega
            rw [packAt_next] at hb
            have HB := Lib.hid hb
            have HR := Lib.hid hr
            have HL := Lib.hid hbel
            clear hb hr hbel
            go_wp2
            go_roundw
            case rel => exact ⟨k + 1, by omega, by go_num, HB.out, HR.out, HL.out⟩
            case measure => simp [intOf]; omega
      · have hkk : k = min bs.length 64 := by omega
        rw [hkk, packAt_end] at hb
        clear hRd hlt
        have HB := Lib.hid hb
        have HR := Lib.hid hr
        have HL := Lib.hid hbel
        clear hb hr hbel
        subst hkk
        go_wp2_with (first
          | (refine ld_arr rfl 24 _ rfl (w.heap.size + 1) rfl _ _ _ _ HB.out Try.underlying24 (planes_info _ (pack_length bs)) ?_)
          | (refine st_arr rfl 24 _ _ rfl w.heap.size ((pack bs).map W64) rfl rfl _ _ HR.out (planes_info _ (pack_length bs)) (by simp [pack_length]) (w64_one _) ?_; intro w1 hb1 hp1))
        refine ret_arr rfl rfl w.heap.size rfl _ _ _ _ hb1 Try.underlying24 (planes_info _ (pack_length bs)) ⟨rfl, hp1.bel HL.out (Nat.le_refl _)⟩

theorem u8_info : (Try.prog.info? 5).map (fun i => (i.zero, i.size, i.bytes)) = some (some (.int .u8 0), 1, 1) := by kernel_rfl
theorem zs_bytes (n : Nat) : Zs n (.int .u8 0) = (List.replicate n (0 : UInt8)).map B8 := by
  unfold Zs; rw [List.map_replicate]; rfl
set_option maxRecDepth 10000 in
set_option maxHeartbeats 1000000 in
theorem unpack_any (p : List UInt64) (hp : p.length = 8) (w : World) :
    Calls Try.prog 10 #[.agg (p.map W64).toArray] w fun e w' => ∃ g, e = .returned (.slice (some ⟨g, 0, none⟩) 64 64) ∧ w.heap.size ≤ g ∧ Blk w' g 5 ((lanes p).map B8) ∧ Below w.heap.size w w' := by
  have HP := Lib.hid hp
  go_enter Try.func10, Try.ntmps10
  clear hp
  go_wp2_with (first
    | (refine mk_row rfl 25 _ _ rfl 5 _ _ _ 64 1 rfl rfl Try.underlying25 u8_info rfl (by decide) (by decide) ?_))
  go_loopw [8] (fun i wr => ∃ k : Nat, k ≤ 64 ∧ i = .int .i64 k ∧ Blk wr (w.heap.size + 1) 5 ((lanesTo p k).map B8) ∧
      Blk wr w.heap.size 24 (p.map W64) ∧ Below w.heap.size w wr) (fun i _ => 64 - (intOf i).toNat)
  case atStart => exact ⟨0, by omega, rfl, by rw [lanesTo_zero, ← zs_bytes]; exact blk_new1 w _ _ _, (Blk.new w _ _).alloc _, ((Below.refl _ _).alloc (Nat.le_refl _) _).alloc (by simp) _⟩
  case round =>
    obtain ⟨k, hk, rfl, hb, hr, hbel⟩ := hrel
    by_cases hlt : k < 64
    · have hgl := hb.lt
      have hgl2 := hr.lt
      have hk0 : (0 : Int) ≤ (k : Int) := Int.natCast_nonneg _
      have HB := Lib.hid hb
      have HR := Lib.hid hr
      have HL := Lib.hid hbel
      clear hb hr hbel
      go_wp2_with (first
        | (refine ld_arr rfl 24 _ rfl w.heap.size rfl _ _ _ _ HR.out Try.underlying24 (planes_info _ HP.out) ?_)
        | (go_at_call 13; refine (lane_any p HP.out _ _).mono ?_; rintro e w1 ⟨rfl, hb1⟩
           have HB1 := Lib.hid (HB.out.below hb1 hgl)
           have HR1 := Lib.hid (HR.out.below hb1 hgl2)
           have HL1 := Lib.hid (HL.out.trans (hb1.mono HL.out.size))
           have hcell : (w1.cell? ⟨w.heap.size + 1, k, none⟩) = some (.int .u8 ((lanesTo p k).getD k 0).toNat) := HB1.out.cell (by simp [List.getD_eq_getElem?_getD, lanesTo_length, hlt])
           have hfz : w1.frozen? ⟨w.heap.size + 1, k, none⟩ = false := HB1.out.froz
           clear hb1))
      go_roundw
      case rel =>
        refine ⟨k + 1, by omega, by go_num, ?_, HR1.out.other (by simp) _, HL1.out.setCell (by simp) _⟩
        rw [← lanesTo_step, List.map_set, laneI_nat]; exact HB1.out.set _
      case measure => simp [intOf]; omega
    · obtain rfl : k = 64 := by omega
      go_wp2
      go_ret
      exact ⟨_, rfl, by omega, by rw [← lanesTo_all]; exact hb, hbel⟩
end Go.Proofs.Ytcbkdlhmemibpaa

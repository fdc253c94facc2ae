/- The walks of erratumref03. -/
import Derived.Test.YtcbkdlhmemibpaaLanesW3
import Derived.Test.YtcbkdlhmemibpaaRef01W
namespace Go.Proofs.Ytcbkdlhmemibpaa
open Go.RowKit Gf Bt

/-- Lane n as the reference makes it: bits set one by one. -/
theorem rlane_yes (p : List UInt64) (n k : Nat) (hk : k < 8) (hb : b64 (p.getD k 0) n = true) :
    bits .or .u8 ((laneTo p n k).toNat : Int) (2 ^ k % 256) = ((laneTo p n (k + 1)).toNat : Nat) := by
  have e : ((2 : Int) ^ k % 256) = ((UInt8.ofNat (true.toNat * 2 ^ k)).toNat : Nat) := by
    rw [one8 true hk]
    have : 2 ^ k ≤ 2 ^ 7 := Nat.pow_le_pow_right (by decide) (by omega)
    have h2 : ((2 : Int) ^ k) = ((2 ^ k : Nat) : Int) := by simp
    simp only [Bool.toNat_true, Nat.one_mul]
    rw [h2]
    generalize 2 ^ k = z at this ⊢
    omega
  rw [e, bits_u8_or]
  congr 2
  refine ext8 fun i hi => ?_
  rw [b8_or, b8_one _ hk, laneTo, laneTo, b8_mk8 _ hi, b8_mk8 _ hi]
  by_cases h : i = k
  · subst h; rw [hb]; simp
  · have h1 : decide (i < k + 1) = decide (i < k) := by simp; omega
    simp [h, h1]
theorem rlane_no (p : List UInt64) (n k : Nat) (hb : b64 (p.getD k 0) n = false) : laneTo p n k = laneTo p n (k + 1) := by
  refine ext8 fun i hi => ?_
  rw [laneTo, laneTo, b8_mk8 _ hi, b8_mk8 _ hi]
  by_cases h : i = k
  · subst h; rw [hb]; simp
  · have h1 : decide (i < k + 1) = decide (i < k) := by simp; omega
    simp [h1]
set_option maxRecDepth 10000 in
set_option maxHeartbeats 1000000 in
theorem rlane_in (p : List UInt64) (hp : p.length = 8) (n : Int) (w : World) (hn0 : 0 ≤ n) (hn : n < 64) :
    Calls Try.prog 25 #[.agg (p.map W64).toArray, .int .i64 n] w fun e w' => e = .returned (B8 (lane p n.toNat)) ∧ Below w.heap.size w w' := by
  obtain ⟨n, rfl⟩ := Int.eq_ofNat_of_zero_le hn0
  rw [Int.toNat_natCast]
  have hn' : n < 64 := by omega
  go_enter Try.func25, Try.ntmps25
  go_wp2
  go_loop [5, 6] (fun b i => ∃ k : Nat, k ≤ 8 ∧ i = .int .i64 k ∧ b = B8 (laneTo p n k)) (fun _ i => 8 - (intOf i).toNat)
  case atStart => exact ⟨0, by omega, rfl, by rw [laneTo_zero]; rfl⟩
  case round =>
    obtain ⟨k, hk, rfl, rfl⟩ := hrel
    by_cases hlt : k < 8
    · have hk0 : (0 : Int) ≤ (k : Int) := Int.natCast_nonneg _
      obtain ⟨y, hy⟩ : ∃ y : UInt64, p[k]? = some y := ⟨p[k], by simp⟩
      have hget : (p.map W64).toArray[k]? = some (.int .u64 y.toNat) := by simp [hy]
      have hyd : p.getD k 0 = y := by rw [List.getD_eq_getElem?_getD, hy]; rfl
      have hbit := mod_bit y.toNat n
      have HC := Lib.hid (rlane_yes p n k hlt)
      have HN := Lib.hid (rlane_no p n k)
      rw [hyd] at HC HN
      clear hy hyd hp
      go_wp2
      · go_round
        case rel => exact ⟨k + 1, by omega, by go_num, by rw [HC.out (by assumption)]⟩
        case measure => simp [intOf]; omega
      · go_round
        case rel => exact ⟨k + 1, by omega, by go_num, by rw [← HN.out (by assumption)]⟩
        case measure => simp [intOf]; omega
    · obtain rfl : k = 8 := by omega
      go_wp2
      go_ret
      exact ⟨by simp only [laneTo_all p hn']; rfl, (Below.refl _ _).alloc (Nat.le_refl _) _⟩
set_option maxHeartbeats 1000000 in
theorem rlane_out (p : List UInt64) (n : Int) (w : World) (hn0 : n < 0 ∨ 64 ≤ n) :
    Calls Try.prog 25 #[.agg (p.map W64).toArray, .int .i64 n] w fun e w' => e = .returned (.int .u8 0) ∧ Below w.heap.size w w' := by
  rcases hn0 with h | h
  all_goals
    go_enter Try.func25, Try.ntmps25
    go_wp2
    refine wp_loop_once ?_
    go_wp2
    go_ret
    exact ⟨rfl, (Below.refl _ _).alloc (Nat.le_refl _) _⟩
theorem rlane_any (p : List UInt64) (hp : p.length = 8) (n : Int) (w : World) :
    Calls Try.prog 25 #[.agg (p.map W64).toArray, .int .i64 n] w fun e w' => e = .returned (B8 (laneI p n)) ∧ Below w.heap.size w w' := by
  by_cases h0 : n < 0
  · have e : laneI p n = 0 := by unfold laneI; rw [if_pos h0]
    rw [e]; exact rlane_out p n w (.inl h0)
  · have e : laneI p n = lane p n.toNat := by unfold laneI; rw [if_neg h0]
    rw [e]
    by_cases h1 : n < 64
    · exact rlane_in p hp n w (by omega) h1
    · rw [lane_out p (show ¬ n.toNat < 64 by omega)]; exact rlane_out p n w (.inr (by omega))

theorem lanes_take (p : List UInt64) (k : Nat) (hk : k < 64) : ((lanes p).take k).map B8 ++ [B8 (lane p k)] = ((lanes p).take (k + 1)).map B8 := by
  rw [List.take_add_one, lanes_get p hk]; simp
set_option maxRecDepth 10000 in
set_option maxHeartbeats 1000000 in
theorem runpack_any (p : List UInt64) (hp : p.length = 8) (w : World) :
    Calls Try.prog 24 #[.agg (p.map W64).toArray] w fun e w' => ∃ A c, e = .returned (.slice A 64 c) ∧ Rd w' w'.heap.size A ((lanes p).map B8) ∧ Below w.heap.size w w' := by
  have HP := Lib.hid hp
  go_enter Try.func24, Try.ntmps24
  clear hp
  go_wp2
  go_loopw [3, 4] (fun v i wr => ∃ k : Nat, k ≤ 64 ∧ i = .int .i64 k ∧ wr.ownsRow (w.heap.size + 1) 5 1 v k (((lanes p).take k).map B8) ∧
      Blk wr w.heap.size 24 (p.map W64) ∧ Below w.heap.size w wr) (fun _ i _ => 64 - (intOf i).toNat)
  case atStart => exact ⟨0, by omega, rfl, own_nil _ _ _, Blk.new w _ _, (Below.refl _ _).alloc (Nat.le_refl _) _⟩
  case round =>
    obtain ⟨k, hk, rfl, hown, hr, hbel⟩ := hrel
    have hgl := hr.lt
    have HO := Lib.hid hown
    have HR := Lib.hid hr
    have HL := Lib.hid hbel
    clear hown hr hbel
    by_cases hlt : k < 64
    · have hk0 : (0 : Int) ≤ (k : Int) := Int.natCast_nonneg _
      go_wp2_with (first
        | (refine ld_arr rfl 24 _ rfl (w.heap.size) rfl _ _ _ _ HR.out Try.underlying24 (planes_info _ HP.out) ?_)
        | (go_at_call 25; refine (rlane_any p HP.out _ _).mono ?_; rintro e w1 ⟨rfl, hb1⟩
           have HO1 := Lib.hid (own_below HO.out hb1)
           have HR1 := Lib.hid (HR.out.below hb1 hgl)
           have HL1 := Lib.hid (HL.out.trans (hb1.mono HL.out.size))
           have hz1 := hb1.size
           clear hb1
           rw [laneI_nat])
        | (refine ap_one rfl _ _ 25 rfl (w.heap.size + 1) 5 _ 1 Try.underlying25 u8_info rfl _ _ _ rfl (own_below HO1.out ((Below.refl _ _).alloc (Nat.le_refl _) _)) w1.heap.size 1 (B8 (lane p k)) rfl ?c1 rfl (by omega) (by decide) (by simp; omega) ?_
           case c1 => simp
           intro v2 w2 hown2 hb2))
      go_roundw
      case rel =>
        refine ⟨k + 1, by omega, by go_num, by rw [← lanes_take p k hlt]; exact hown2, (HR1.out.alloc _).below hb2 (by omega), ?_⟩
        exact (HL1.out.alloc (by omega) _).trans (hb2.mono (by omega))
      case measure => simp [intOf]; omega
    · obtain rfl : k = 64 := by omega
      obtain ⟨A, c, rfl, hc, hrd⟩ := own_slice HO.out
      rw [List.take_of_length_le (by rw [lanes_length]; omega)] at hrd
      have HRD := Lib.hid hrd
      clear hrd
      go_wp2
      go_ret
      exact ⟨A, c, rfl, HRD.out, HL.out⟩
theorem list8 {α : Type} (p : List α) (h : p.length = 8) : ∃ a b c d e f g i, p = [a, b, c, d, e, f, g, i] := by
  match p, h with
  | [a, b, c, d, e, f, g, i], _ => exact ⟨a, b, c, d, e, f, g, i, rfl⟩
theorem rlane8 (p : List UInt64) (x0 x1 x2 x3 x4 x5 x6 x7 : UInt64) (h : p = [x0, x1, x2, x3, x4, x5, x6, x7]) (n : Nat) (w : World) :
    Calls Try.prog 25 #[.agg #[W64 x0, W64 x1, W64 x2, W64 x3, W64 x4, W64 x5, W64 x6, W64 x7], .int .i64 (n : Int)] w fun e w' => e = .returned (B8 (lane p n)) ∧ Below w.heap.size w w' := by
  have := rlane_any p (by rw [h]; rfl) n w
  rw [laneI_nat, show (p.map W64).toArray = #[W64 x0, W64 x1, W64 x2, W64 x3, W64 x4, W64 x5, W64 x6, W64 x7] by rw [h]; rfl] at this
  exact this
theorem rpack_yes (l : List UInt8) (k m : Nat) (x : UInt8) (y : UInt64) (hx : l[k]? = some x) (hy : (packAt l k m)[m]? = some y) (hk : k < 64) (hm : m < 8) (hb : x.toNat.testBit m = true) :
    ∃ z : UInt64, bits .or .u64 (y.toNat : Int) (IntKind.u64.wrap (2 ^ k)) = (z.toNat : Nat) ∧ (packAt l k m).set m z = packAt l k (m + 1) := by
  obtain ⟨z, h1, h2⟩ := pack_cell l k m x y hx hy hk hm
  refine ⟨z, ?_, h2⟩
  rw [← h1, bit_u8, show b8 x m = true from hb]
  simp only [Bool.toNat_true, wrap_u64_nat (show 1 < 18446744073709551616 by decide)]
  simp
theorem rpack_no (l : List UInt8) (k m : Nat) (x : UInt8) (hx : l[k]? = some x) (hb : x.toNat.testBit m = false) : packAt l k m = packAt l k (m + 1) := by
  unfold packAt
  refine List.map_congr_left fun i _ => mk64_congr fun n _ => ?_
  by_cases hn : n = k
  · subst hn
    by_cases him : i = m
    · subst him
      have : b8 (l.getD n 0) i = false := by rw [List.getD_eq_getElem?_getD, hx]; exact hb
      rw [this]; simp
    · have : decide (i < m + 1) = decide (i < m) := by simp; omega
      simp [this]
  · simp [hn]
set_option maxRecDepth 100000 in
set_option maxHeartbeats 1000000 in
theorem rpack_any (A : Option Addr) (bs : List UInt8) (cap : Nat) (w : World) (hRd : Rd w w.heap.size A (bs.map B8)) (hmax : bs.length ≤ 9223372036854775807) :
    Calls Try.prog 19 #[.slice A bs.length cap] w fun e w' => e = .returned (.agg ((pack bs).map W64).toArray) ∧ Below w.heap.size w w' := by
  go_enter Try.func19, Try.ntmps19
  go_wp2
  go_loopw [4] (fun i wr => ∃ k : Nat, k ≤ min bs.length 64 ∧ i = .int .i64 k ∧ Blk wr (w.heap.size + 1) 24 ((packAt bs k 0).map W64) ∧
    Blk wr w.heap.size 24 (List.replicate 8 (W64 0)) ∧ Below w.heap.size w wr) (fun i _ => 64 - (intOf i).toNat)
  case atStart => exact ⟨0, by omega, rfl, by rw [packAt_start]; exact blk_new1 w _ 24 (List.replicate 8 (W64 0)), (Blk.new w 24 (List.replicate 8 (W64 0))).alloc _, ((Below.refl _ _).alloc (Nat.le_refl _) _).alloc (by simp) _⟩
  case round =>
    obtain ⟨k, hk, rfl, hb, hr, hbel⟩ := hrel
    by_cases hlt : k < min bs.length 64
    · have hk0 : (0 : Int) ≤ (k : Int) := Int.natCast_nonneg _
      have hk64 : (k : Int) < 64 := by omega
      have hkl : (k : Int) < (bs.length : Int) := by omega
      obtain ⟨x, hx⟩ : ∃ x : UInt8, bs[k]? = some x := ⟨bs[k], by simp⟩
      obtain ⟨ad, rfl, hab, hc⟩ := hRd (by simp; omega)
      have hcell : w.cell? (ad.add k) = some (.int .u8 x.toNat) := hc k _ (by simp [hx])
      have HX := Lib.hid hx
      have HW := Lib.hid hcell
      have HB := Lib.hid hb
      have HR := Lib.hid hr
      have HL := Lib.hid hbel
      clear hx hc hRd hb hr hbel hlt hcell
      obtain ⟨wo, HO⟩ : ∃ wo : World, Hid (wo = wr) := ⟨wr, rfl⟩
      go_wp2
      go_loopw [5] (fun j wr => ∃ m : Nat, m ≤ 8 ∧ j = .int .i64 m ∧ Blk wr (w.heap.size + 1) 24 ((packAt bs k m).map W64) ∧
        Blk wr w.heap.size 24 (List.replicate 8 (W64 0)) ∧ Below w.heap.size w wr) (fun i _ => 8 - (intOf i).toNat)
      case atStart => exact ⟨0, by omega, rfl, HB.out, HR.out, HL.out⟩
      case round =>
        obtain ⟨m, hm, rfl, hb, hr, hbel⟩ := hrel
        clear HB HR HL
        by_cases hlt : m < 8
        · have hm0 : (0 : Int) ≤ (m : Int) := Int.natCast_nonneg _
          obtain ⟨y, hy⟩ : ∃ y : UInt64, (packAt bs k m)[m]? = some y := ⟨_, packAt_get _ _ _ hlt⟩
          have HY := Lib.hid (rpack_yes bs k m x y HX.out hy (by omega) hlt)
          have HN := Lib.hid (rpack_no bs k m x HX.out)
          have hcell : wr.cell? (ad.add k) = some (.int .u8 x.toNat) := by
            rw [hbel.cell (by rw [block_of_add]; exact hab)]; exact HW.out
          have hcell2 : wr.cell? ⟨w.heap.size + 1, m, none⟩ = some (.int .u64 y.toNat) := hb.cell (by simp [hy])
          have hfz : wr.frozen? ⟨w.heap.size + 1, m, none⟩ = false := hb.froz
          have hbit := mod_bit x.toNat m
          have HB := Lib.hid hb
          have HR := Lib.hid hr
          have HL := Lib.hid hbel
          clear hb hr hbel hy
          go_wp2
          · obtain ⟨z, hz, hset⟩ := HY.out (by assumption)
            go_roundw
            case rel =>
              refine ⟨m + 1, by omega, by go_num, ?_, ?_, ?_⟩
              · rw [hz, ← hset, List.map_set]; exact HB.out.set _
              · exact HR.out.other (by simp) _
              · exact (HL.out).setCell (by simp) _
            case measure => simp [intOf]; omega
          · go_roundw
            case rel => exact ⟨m + 1, by omega, by go_num, by rw [← HN.out (by assumption)]; exact HB.out, HR.out, HL.out⟩
            case measure => simp [intOf]; omega
        · obtain rfl : m = 8 := by omega
          rw [packAt_next] at hb
          have HB := Lib.hid hb
          have HR := Lib.hid hr
          have HL := Lib.hid hbel
          clear hb hr hbel
          go_wp2
          go_roundw
          case rel => exact ⟨k + 1, by omega, by go_num, HB.out, HR.out, HL.out⟩
          case measure => simp [intOf]; omega
    · have hkk : k = min bs.length 64 := by omega
      have hb' : Blk wr (w.heap.size + 1) 24 ((pack bs).map W64) := by rw [← packAt_end, ← hkk]; exact hb
      have HB := Lib.hid hb'
      have HR := Lib.hid hr
      have HL := Lib.hid hbel
      have HK := Lib.hid hkk
      clear hb hb' hr hbel hRd hkk
      by_cases hkl : (k : Int) < (bs.length : Int)
      · have hk64 : ¬ (k : Int) < 64 := by have := HK.out; omega
        go_wp2_with (first
          | (refine ld_arr rfl 24 _ rfl (w.heap.size + 1) rfl _ _ _ _ HB.out Try.underlying24 (planes_info _ (pack_length bs)) ?_)
          | (refine st_arr rfl 24 _ _ rfl (w.heap.size) ((pack bs).map W64) rfl rfl _ _ HR.out (planes_info _ (pack_length bs)) (by rw [List.length_replicate, List.length_map, (pack_length bs)]) (w64_one _) ?_; intro w1 hb1 hp1))
        refine ret_arr rfl rfl (w.heap.size) rfl _ _ _ _ hb1 Try.underlying24 (planes_info _ (pack_length bs)) ⟨rfl, hp1.bel HL.out (Nat.le_refl _)⟩
      · have hd : decide ((k : Int) < (bs.length : Int)) = false := by simpa using hkl
        go_wp2_with (first
          | (refine ld_arr rfl 24 _ rfl (w.heap.size + 1) rfl _ _ _ _ HB.out Try.underlying24 (planes_info _ (pack_length bs)) ?_)
          | (refine st_arr rfl 24 _ _ rfl (w.heap.size) ((pack bs).map W64) rfl rfl _ _ HR.out (planes_info _ (pack_length bs)) (by rw [List.length_replicate, List.length_map, (pack_length bs)]) (w64_one _) ?_; intro w1 hb1 hp1))
        refine ret_arr rfl rfl (w.heap.size) rfl _ _ _ _ hb1 Try.underlying24 (planes_info _ (pack_length bs)) ⟨rfl, hp1.bel HL.out (Nat.le_refl _)⟩
end Go.Proofs.Ytcbkdlhmemibpaa

/- The walks of layer 21, sixteen: the law WeaveBack. -/
import Derived.Test.YtkjaonlelkfhaaaWeaveO
import Derived.Test.YtkjaonlelkfhaaaLists
namespace Go.Proofs.Ytkjaonlelkfhaaa
open Go.RowKit Gf Bt

/-- The place of a place's block and byte is that place. -/
theorem place_back {N D a : Nat} (hD : 0 < D) (hN : 0 < N) : placeN N D (xOf N D a) ((a % (N * D) / D : Nat) : Int) = (a : Int) := by
  obtain ⟨p1, p2, p3⟩ := ord_parts (N := N) (D := D) (a := a) hD hN
  obtain ⟨d1, d2⟩ := divmod (q := a / (N * D)) p1
  unfold placeN xOf
  rw [← Int.natCast_ediv, ← Int.natCast_emod, d1, d2, ← Int.natCast_mul, ← Int.natCast_mul, ← Int.natCast_mul, ← Int.natCast_add, ← Int.natCast_add]
  congr 1
  rw [Nat.mul_assoc]
  omega
theorem uErr_ok {N K B D M : Nat} {tt : List UInt8} (hK : 1 ≤ K) (hKN : K < N) (hN : N ≤ 255) (hB : B < 255) (hD : 1 ≤ D) (hD2 : D ≤ 255) (hM : tt.length = M * (N * D)) :
    uErr N K B D tt.length = 0 ∧ uRows N K B D tt = unweaveL N D tt M := by
  have hok := loomOk_nat hK hKN hN hB hD hD2
  have hm : (tt.length : Int) % ((N : Int) * (D : Int)) = 0 := by rw [hM, ← Int.natCast_mul, ← Int.natCast_emod, Nat.mul_mod_left]; rfl
  have hpos : 0 < N * D := Nat.mul_pos (by omega) (by omega)
  unfold uErr uRows
  rw [if_pos hok, if_pos hm, if_pos ⟨hok, hm⟩, Int.toNat_natCast, Int.toNat_natCast, hM, Nat.mul_div_cancel _ hpos]
  exact ⟨rfl, rfl⟩
set_option maxRecDepth 100000 in
set_option maxHeartbeats 4000000 in
theorem law_back (n k b e : UInt8) (A : Option Addr) (bs : List UInt8) (cap : Nat) (many : UInt8) (w : World) (hRd : Rd w w.heap.size A (bs.map B8)) (hcap : bs.length ≤ cap) (hmax : cap ≤ maxLen) :
    Calls Try.prog 6 #[B8 n, B8 k, B8 b, B8 e, .slice A bs.length cap, B8 many] w fun r w' => r = .returned (.bool true) ∧ Below w.heap.size w w' := by
  have hbl : bs.length ≤ 9223372036854775807 := by simp only [maxLen] at hmax; omega
  obtain ⟨N, K, B, hN2, hN22, hK1, hKN, hB, hcode⟩ := lawcode31 n k b
  obtain ⟨D, hD1, hD66, hdepth⟩ := depth200 e
  have HCODE := bx hcode
  have HDEPTH := bx hdepth
  clear hcode hdepth
  obtain ⟨q, hq⟩ : ∃ q, many.toNat % 4 = q := ⟨_, rfl⟩
  have hq4 : q < 4 := by omega
  have hqz : (many.toNat : Int) % 4 = (q : Int) := by omega
  obtain ⟨L, hL⟩ : ∃ L, D * q = L := ⟨_, rfl⟩
  have hL2 : L ≤ 198 := by rw [← hL]; exact Nat.le_trans (Nat.mul_le_mul hD66 (show q ≤ 3 by omega)) (by omega)
  have hLz : wrap64 ((D : Int) * (q : Int)) = (L : Int) := by rw [← Int.natCast_mul, hL]; exact w64 (by omega)
  have hL5 : L ≤ 100000 := Nat.le_trans hL2 (by decide)
  have hN5 : N ≤ 255 := Nat.le_trans hN22 (by decide)
  have HL := bx hL
  clear hL hq
  clear hmax
  go_enter Try.func6, Try.ntmps6
  go_upto_region 3 with (first
    | (go_at_call 9; refine (HCODE.out _).mono ?_; rintro e w1 ⟨rfl, hb1⟩; have HB1 := bx hb1; clear hb1)
    | (go_at_call 10; refine (HDEPTH.out _).mono ?_; rintro e _ ⟨rfl, rfl⟩))
  have hc0 := Blk.new w1 24 [.int .i64 N, .int .i64 K, .int .i64 B]
  have hb0 := HB1.out.alloc HB1.out.size (Obj.cells #[.int .i64 N, .int .i64 K, .int .i64 B] 24)
  have hs1 := HB1.out.size
  have hg := hc0.lt
  obtain ⟨wa, hwa⟩ : ∃ wa, w1.alloc (Obj.cells #[.int .i64 N, .int .i64 K, .int .i64 B] 24) = wa := ⟨_, rfl⟩
  have hwa' : w1.alloc (Obj.cells [.int .i64 N, .int .i64 K, .int .i64 B].toArray 24) = wa := hwa
  rw [hwa'] at hc0 hg
  rw [hwa] at hb0 ⊢
  obtain ⟨g, hgg⟩ : ∃ g, w1.heap.size = g := ⟨_, rfl⟩
  rw [hgg] at hc0 hs1 hg ⊢
  have HC := bx hc0
  have HB := bx hb0
  clear hwa hwa' hgg HB1 hb0 w1
  have c0 : wa.cell? ⟨g, 0, none⟩ = some (.int .i64 N) := hc0.cell rfl
  have c1 : wa.cell? ⟨g, 1, none⟩ = some (.int .i64 K) := hc0.cell rfl
  have c2 : wa.cell? ⟨g, 2, none⟩ = some (.int .i64 B) := hc0.cell rfl
  clear hc0
  go_wp2_with fail
  refine (words_any N K B A bs cap L wa ((hRd.below HB.out).more HB.out.size) hcap hbl hN5 hL5).mono ?_
  rintro e w2 ⟨v, rfl, hv, hb2⟩
  have hrow : ∀ x ∈ wordsL N bs L, x.length = N := fun x hx => by
    unfold wordsL at hx
    obtain ⟨j, _, rfl⟩ := List.mem_map.1 hx
    exact wordL_length _ _ _
  have hlen := wordsL_length N bs L
  obtain ⟨xs, hxs⟩ : ∃ xs, wordsL N bs L = xs := ⟨_, rfl⟩
  rw [hxs] at hrow hlen hv
  clear hxs
  obtain ⟨Av, cv, rfl, hcv, hcv2⟩ := hv.form
  have hc2 := HC.out.below hb2 hg
  have c0 : w2.cell? ⟨g, 0, none⟩ = some (.int .i64 N) := hc2.cell rfl
  have c1 : w2.cell? ⟨g, 1, none⟩ = some (.int .i64 K) := hc2.cell rfl
  have c2 : w2.cell? ⟨g, 2, none⟩ = some (.int .i64 B) := hc2.cell rfl
  have HLEN := bx hlen
  have HROW := bx hrow
  have HB := bx (HB.out.trans (hb2.mono HB.out.size))
  have HG := bx (Nat.lt_of_lt_of_le hg hb2.size)
  have HC := bx hc2
  have HV := bx hv
  have hD5 : D ≤ 255 := Nat.le_trans hD66 (by decide)
  have HE := bx (wErr_ok (M := q) hK1 hKN hN5 hB hD1 hD5 (by rw [hlen, ← HL.out, Nat.mul_comm]) hrow)
  have HXS := bx (show xs.length ≤ 1000000 by rw [hlen]; exact Nat.le_trans hL2 (by decide))
  have HM := bx (show xs.length = q * D by rw [hlen, ← HL.out, Nat.mul_comm])
  rw [hlen] at hv hcv ⊢
  clear hv hc2 hb2 hlen hrow hg
  go_upto_region 5 with (go_at_call 12; rw [← HLEN.out]; refine (weave_any N K B D _ xs _ HV.out HXS.out).mono ?_; rintro e w3 ⟨v1, rfl, hr1, hb3⟩; rw [HE.out.1]; have HR1 := bx hr1; have HB3 := bx hb3; clear hr1 hb3)
  have hN0 : 0 < N := Nat.lt_of_lt_of_le (by decide) hN2
  have hD0 : 0 < D := hD1
  obtain ⟨tt, htt⟩ : ∃ tt, weaveL N D xs = tt := ⟨_, rfl⟩
  obtain ⟨T, hT⟩ : ∃ T, xs.length * N = T := ⟨_, rfl⟩
  have httl : tt.length = T := by rw [← htt, weaveL_length, hT]
  have hTT : T = q * (N * D) := by rw [← hT, HM.out, Nat.mul_assoc, Nat.mul_comm D N]
  have HU := bx (uErr_ok (M := q) hK1 hKN hN5 hB hD1 hD5 (by rw [httl, hTT]))
  have hub : uRows N K B D tt = xs := by rw [HU.out.2, ← htt]; exact unweave_weave hD0 hN0 HM.out HROW.out
  have HUB := bx hub
  have HWT := bx htt
  have HAT := bx (fun (a : Nat) (ha : a < T) => weave_at (M := q) (xs := xs) hD0 hN0 HM.out (show a < xs.length * N by rw [hT]; exact ha))
  have HTL := bx httl
  have hT2 : T ≤ 4356 := by rw [← hT]; exact Nat.le_trans (Nat.mul_le_mul (show xs.length ≤ 198 by rw [HLEN.out]; exact hL2) hN22) (by decide)
  have hTw : wrap64 ((xs.length : Int) * (N : Int)) = (T : Int) := by rw [← Int.natCast_mul, hT]; exact w64 (Nat.le_trans hT2 (by decide))
  have hr1 := HR1.out
  rw [HE.out.2, htt] at hr1
  obtain ⟨A1, c1, rfl, hc1, hm1, hrd1, _⟩ := hr1
  have HR1 := bx (show IsRow w3 w3.heap.size none (.slice A1 tt.length c1) tt from ⟨A1, c1, rfl, hc1, hm1, hrd1, fun _ _ _ => by simp⟩)
  have HRD1 := bx hrd1
  have hc3 := HC.out.below HB3.out HG.out
  have k0 : w3.cell? ⟨g, 0, none⟩ = some (.int .i64 N) := hc3.cell rfl
  have k1 : w3.cell? ⟨g, 1, none⟩ = some (.int .i64 K) := hc3.cell rfl
  have k2 : w3.cell? ⟨g, 2, none⟩ = some (.int .i64 B) := hc3.cell rfl
  have HT := bx hT
  clear htt hT hTT hub hc1 hm1 hrd1 hc3 httl
  go_upto_region 6 with (go_at_call 17; refine (unweave_any N K B D _ tt none _ HR1.out (by rw [HTL.out]; exact Nat.le_trans hT2 (by decide))).mono ?_; rintro e w4 ⟨v2, rfl, hr2, hb4⟩; rw [HU.out.1]; have HR2 := bx hr2; have HB4 := bx hb4; clear hr2 hb4)
  have hr2 := HR2.out
  rw [HUB.out] at hr2
  have HR2 := bx hr2
  have k0 : w4.cell? ⟨g, 0, none⟩ = some (.int .i64 N) := ((HC.out.below HB3.out HG.out).below HB4.out (Nat.lt_of_lt_of_le HG.out HB3.out.size)).cell rfl
  clear hr2
  rw [HTL.out]
  have HTW := bx hTw
  have hT2z : (T : Int) ≤ 4356 := Int.ofNat_le.2 hT2
  have hLz' : (xs.length : Int) ≤ 198 := by have := HLEN.out; exact Int.ofNat_le.2 (this ▸ hL2)
  go_wp2
  clear hqz hLz hTw
  go_loopw [20] (fun i wr => ∃ a : Nat, a ≤ T ∧ i = .int .i64 a ∧ Below w4.heap.size w4 wr) (fun i _ => T - (intOf i).toNat)
  case atStart => exact ⟨0, Nat.zero_le _, rfl, Below.refl _ _⟩
  case round =>
    obtain ⟨a, ha, rfl, hbr⟩ := hrel
    have HBR := bx hbr
    clear hbr k0
    have ha0 : (0 : Int) ≤ (a : Int) := Int.natCast_nonneg _
    have HCr := bx (((HC.out.below HB3.out HG.out).below HB4.out (Nat.lt_of_lt_of_le HG.out HB3.out.size)).below HBR.out (Nat.lt_of_lt_of_le HG.out (Nat.le_trans HB3.out.size HB4.out.size)))
    by_cases hlt : a < T
    · have hltz : (a : Int) < (T : Int) := Int.ofNat_lt.2 hlt
      obtain ⟨hXl, hIN, hya⟩ := HAT.out a hlt
      obtain ⟨s1, s2, s3⟩ := spot_nat (a := a) hK1 hKN hN5 hB hD1 hD5 (Nat.le_trans (Nat.le_of_lt hlt) (Nat.le_trans hT2 (by decide)))
      have hpl := place_back (N := N) (D := D) (a := a) hD0 hN0
      rw [HWT.out] at hya
      obtain ⟨y, hy⟩ : ∃ y, wv N D xs a = y := ⟨_, rfl⟩
      rw [hy] at hya
      unfold wv at hy
      unfold xOf at s1 hpl
      obtain ⟨X, hX⟩ : ∃ X, a / (N * D) * D + a % (N * D) % D = X := ⟨_, rfl⟩
      obtain ⟨I, hI⟩ : ∃ I, a % (N * D) / D = I := ⟨_, rfl⟩
      rw [hX] at s1 hXl hy hpl
      rw [hI] at s2 hIN hy hpl
      obtain ⟨xr, hxr⟩ : ∃ xr, xs[X]? = some xr := ⟨_, List.getElem?_eq_getElem hXl⟩
      have hxrN : xr.length = N := HROW.out xr (List.mem_of_getElem? hxr)
      have hyr : xr[I]? = some y := by
        rw [List.getD_eq_getElem?_getD (l := xs), hxr, Option.getD_some, List.getD_eq_getElem?_getD] at hy
        rw [List.getElem?_eq_getElem (show I < xr.length by rw [hxrN]; exact hIN)] at hy ⊢
        rw [← hy]; rfl
      have HS : Bx (∀ w, Calls Try.prog 15 #[C3 N K B, .int .i64 D, .int .i64 a] w fun e w' => e = .returned (.tuple #[.int .i64 X, .int .i64 I]) ∧ Below w.heap.size w w') := bx fun w => by
        have := spot_any N K B D (a : Int) w (by omega)
        rw [s1, s2] at this
        exact this
      have hXL : X ≤ 16777216 := by have := HLEN.out; omega
      have HP : Bx (∀ w, Calls Try.prog 18 #[C3 N K B, .int .i64 D, .int .i64 X, .int .i64 I] w fun e w' => e = .returned (.int .i64 a) ∧ Below w.heap.size w w') := bx fun w => by
        have := place_yes N K B D X I w ⟨loomOk_nat hK1 hKN hN5 hB hD1 hD5, Int.natCast_nonneg _, by omega, Int.natCast_nonneg _, by omega⟩
        rw [hpl] at this
        exact this
      obtain ⟨ad1, rfl, hab1, hcs1⟩ := HRD1.out (by rw [List.length_map, HTL.out]; exact Nat.lt_of_le_of_lt (Nat.zero_le _) hlt)
      have hct := hcs1 a (B8 y) (by rw [List.getElem?_map, hya]; rfl)
      obtain ⟨adv, Xr, cr, rfl, habv, hcv', r1, r2, r3⟩ := HV.out.get hxr
      obtain ⟨adr, rfl, habr, hcr⟩ := r3 (by rw [List.length_map, hxrN]; exact hN0)
      have hcy := hcr I (B8 y) (by rw [List.getElem?_map, hyr]; rfl)
      rw [hxrN] at hcv'
      have hX0 : (0 : Int) ≤ (X : Int) := Int.natCast_nonneg _
      have hXz : (X : Int) < (xs.length : Int) := Int.ofNat_lt.2 hXl
      have hI0 : (0 : Int) ≤ (I : Int) := Int.natCast_nonneg _
      have hIz : (I : Int) < (N : Int) := Int.ofNat_lt.2 hIN
      have q0 : wr.cell? ⟨g, 0, none⟩ = some (.int .i64 N) := HCr.out.cell rfl
      have q1 : wr.cell? ⟨g, 1, none⟩ = some (.int .i64 K) := HCr.out.cell rfl
      have q2 : wr.cell? ⟨g, 2, none⟩ = some (.int .i64 B) := HCr.out.cell rfl
      have HCT := bx hct
      have HCV := bx hcv'
      have HCY := bx hcy
      clear hct hcv' hcy hcs1 hcr hya hy hX hI hxr hxrN hyr s1 s2 s3 hpl r1 r2 r3
      go_upto_region 12 with (go_at_call 15; refine (HS.out _).mono ?_; rintro e w5 ⟨rfl, hb5⟩; have HB5 := bx hb5; clear hb5)
      have HCr5 := bx (HCr.out.below HB5.out HCr.out.lt)
      have l5 := HCr5.out.lt
      clear q0 q1 q2
      refine wp_region_ext (w := w5) w5.heap.size (by kernel_rfl) (by kernel_rfl) ?_
      have s34 := HB3.out.size
      have s45 := HB4.out.size
      have s4r := HBR.out.size
      have sr5 := HB5.out.size
      have z0 : ∀ z : Ext w5.heap.size w5, z.w.cell? ⟨g, 0, none⟩ = some (.int .i64 N) := ext_cell HCr5.out l5 rfl
      have z1 : ∀ z : Ext w5.heap.size w5, z.w.cell? ⟨g, 1, none⟩ = some (.int .i64 K) := ext_cell HCr5.out l5 rfl
      have z2 : ∀ z : Ext w5.heap.size w5, z.w.cell? ⟨g, 2, none⟩ = some (.int .i64 B) := ext_cell HCr5.out l5 rfl
      have z3 : ∀ z : Ext w5.heap.size w5, z.w.cell? (ad1.add a) = some (.int .u8 y.toNat) := fun z => by
        rw [z.bel.cell (by rw [block_of_add]; omega), HB5.out.cell (by rw [block_of_add]; omega), HBR.out.cell (by rw [block_of_add]; omega), HB4.out.cell (by rw [block_of_add]; omega)]; exact HCT.out
      have z4 : ∀ z : Ext w5.heap.size w5, z.w.cell? (adv.add X) = some (.slice (some adr) N cr) := fun z => by
        rw [z.bel.cell (by rw [block_of_add]; omega), HB5.out.cell (by rw [block_of_add]; omega), HBR.out.cell (by rw [block_of_add]; omega), HB4.out.cell (by rw [block_of_add]; omega), HB3.out.cell (by rw [block_of_add]; omega)]; exact HCV.out
      have z5 : ∀ z : Ext w5.heap.size w5, z.w.cell? (adr.add I) = some (.int .u8 y.toNat) := fun z => by
        rw [z.bel.cell (by rw [block_of_add]; omega), HB5.out.cell (by rw [block_of_add]; omega), HBR.out.cell (by rw [block_of_add]; omega), HB4.out.cell (by rw [block_of_add]; omega), HB3.out.cell (by rw [block_of_add]; omega)]; exact HCY.out
      clear s34 s45 s4r sr5
      have b1 : decide ((X : Int) < 0) = false := decide_eq_false (Int.not_lt.2 hX0)
      have b2 : decide ((xs.length : Int) ≤ (X : Int)) = false := decide_eq_false (Int.not_le.2 hXz)
      have b3 : decide ((I : Int) < 0) = false := decide_eq_false (Int.not_lt.2 hI0)
      have b4 : decide ((N : Int) ≤ (I : Int)) = false := decide_eq_false (Int.not_le.2 hIz)
      have b7 : decide (xs.length ≤ X) = false := decide_eq_false (Nat.not_le.2 (Int.ofNat_lt.1 hXz))
      have b8 : decide (N ≤ I) = false := decide_eq_false (Nat.not_le.2 (Int.ofNat_lt.1 hIz))
      have b9 : (y != y) = false := by simp
      have b0 : (a != a) = false := by simp
      have b5 : ((y.toNat : Int) != (y.toNat : Int)) = false := by simp
      have b6 : ((a : Int) != (a : Int)) = false := by simp
      repeat (first | go_big_quiet_step ((go_at_call 18; exact ext_call (Nat.le_refl _) (HP.out _))) | simp only [b1, b2, b3, b4, b5, b6, b7, b8, b9, b0])
      refine wpQuiet_nil ?_
      rintro _ ⟨z, rfl⟩
      have HZ := bx (HBR.out.trans ((HB5.out.mono HBR.out.size).trans (z.bel.mono (Nat.le_trans HBR.out.size HB5.out.size))))
      go_wp2
      go_roundw
      case rel => exact ⟨a + 1, hlt, by go_num, HZ.out⟩
      case measure => simp [intOf]; omega
    · obtain rfl : a = T := Nat.le_antisymm ha (Nat.not_lt.1 hlt)
      have s34 := HB3.out.size
      have s45 := HB4.out.size
      have hvr := ((HR2.out.below HBR.out).more HBR.out.size)
      have hwr := (((HV.out.below HB3.out).more s34).below HB4.out |>.more s45 |>.below HBR.out |>.more HBR.out.size)
      have hall : Below w.heap.size w wr := HB.out.trans ((HB3.out.mono HB.out.size).trans ((HB4.out.mono (Nat.le_trans HB.out.size s34)).trans (HBR.out.mono (Nat.le_trans HB.out.size (Nat.le_trans s34 s45)))))
      have HVR := bx hvr
      have HWR := bx hwr
      have HALL := bx hall
      clear hvr hwr hall s34 s45
      go_wp2_with fail
      refine (known21 _).mono ?_
      rintro e wa1 ⟨rfl, hb⟩
      have P1 := bx ((HVR.out.below hb).more hb.size)
      have P2 := bx ((HWR.out.below hb).more hb.size)
      have HALL := bx (HALL.out.trans (hb.mono HALL.out.size))
      clear hb HVR HWR
      go_wp2_with fail
      refine (lists_any _ _ xs xs _ P1.out P2.out (Nat.le_trans HXS.out (by decide))).mono ?_
      rintro e wa2 ⟨rfl, hb⟩
      rw [show decide (xs = xs) = true from decide_eq_true rfl]
      have HALL := bx (HALL.out.trans (hb.mono HALL.out.size))
      clear hb P1 P2
      go_wp2_with fail
      go_ret
      exact ⟨rfl, HALL.out⟩
theorem law_back' (n k b e : UInt8) (A : Option Addr) (len : Nat) (bs : List UInt8) (cap : Nat) (many : UInt8) (w : World) (hlen : bs.length = len) (hRd : Rd w w.heap.size A (bs.map B8)) (hcap : len ≤ cap) (hmax : cap ≤ maxLen) :
    Calls Try.prog 6 #[B8 n, B8 k, B8 b, B8 e, .slice A len cap, B8 many] w fun r w' => r = .returned (.bool true) ∧ Below w.heap.size w w' := by
  subst hlen
  exact law_back n k b e A bs cap many w hRd hcap hmax
end Go.Proofs.Ytkjaonlelkfhaaa

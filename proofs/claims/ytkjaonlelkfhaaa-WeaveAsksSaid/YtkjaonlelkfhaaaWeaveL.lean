/- The walks of layer 21, twelve: the law WeaveApart. -/
import Derived.Test.YtkjaonlelkfhaaaWeaveK
import Derived.Test.YtkjaonlelkfhaaaApartPure
import Derived.Test.YtkjaonlelkfhaaaTwo
namespace Go.Proofs.Ytkjaonlelkfhaaa
open Go.RowKit Gf Bt

theorem loomOk_nat {N K B D : Nat} (hK : 1 ≤ K) (hKN : K < N) (hN : N ≤ 255) (hB : B < 255) (hD : 1 ≤ D) (hD2 : D ≤ 255) : loomOk N K B D = true := by
  unfold loomOk codeOk
  rw [decide_eq_false (show ¬ (K : Int) < 1 by omega), decide_eq_false (show ¬ (N : Int) ≤ K by omega), decide_eq_false (show ¬ (255 : Int) < N by omega), decide_eq_false (show ¬ (B : Int) < 0 by omega), decide_eq_false (show ¬ (255 : Int) ≤ B by omega), decide_eq_true (show (1 : Int) ≤ D by omega), decide_eq_true (show (D : Int) ≤ 255 by omega)]
  rfl
theorem spot_nat {N K B D a : Nat} (hK : 1 ≤ K) (hKN : K < N) (hN : N ≤ 255) (hB : B < 255) (hD : 1 ≤ D) (hD2 : D ≤ 255) (ha : a ≤ 100000000) :
    spotX N K B D a = xOf N D a ∧ spotI N K B D a = ((a % (N * D) / D : Nat) : Int) ∧ a % (N * D) / D < N := by
  have hok := loomOk_nat hK hKN hN hB hD hD2
  have ha0 : (0 : Int) ≤ (a : Int) := Int.natCast_nonneg _
  obtain ⟨p1, p2, p3⟩ := ord_parts (N := N) (D := D) (a := a) (by omega) (by omega)
  unfold spotX spotI xOf
  rw [if_pos ⟨hok, ha0⟩, if_pos ⟨hok, ha0⟩]
  refine ⟨?_, ?_, p2⟩
  · have h1 : a / (N * D) * D ≤ a := by
      have : a / (N * D) * D ≤ a / (N * D) * (N * D) := Nat.mul_le_mul_left _ (Nat.le_mul_of_pos_left _ (by omega))
      omega
    rw [← Int.natCast_mul, ← Int.natCast_ediv, ← Int.natCast_mul, ← Int.natCast_emod, ← Int.natCast_emod, w64 (by omega), ← Int.natCast_add, w64 (by omega)]
  · rw [← Int.natCast_mul, ← Int.natCast_emod, ← Int.natCast_ediv]

set_option maxRecDepth 100000 in
set_option maxHeartbeats 4000000 in
theorem law_apart (n k b e : UInt8) (f : Nat) (times : UInt8) (w : World) (hf : f < 65536) :
    Calls Try.prog 4 #[B8 n, B8 k, B8 b, B8 e, .int .u16 f, B8 times] w fun r w' => r = .returned (.bool true) ∧ Below w.heap.size w w' := by
  obtain ⟨N, K, B, hN2, hN22, hK1, hKN, hB, hcode⟩ := lawcode31 n k b
  obtain ⟨D, hD1, hD66, hdepth⟩ := depth_any e
  have HCODE := bx hcode
  have HDEPTH := bx hdepth
  clear hcode hdepth
  obtain ⟨m, hm⟩ : ∃ m, times.toNat % 5 = m := ⟨_, rfl⟩
  have hm5 : m < 5 := by omega
  have hmz : (times.toNat : Int) % 5 = (m : Int) := by omega
  obtain ⟨L, hL⟩ : ∃ L, D * m = L := ⟨_, rfl⟩
  have hL2 : L ≤ 264 := by rw [← hL]; exact Nat.le_trans (Nat.mul_le_mul hD66 (show m ≤ 4 by omega)) (by omega)
  have hLz : wrap64 ((D : Int) * (m : Int)) = (L : Int) := by rw [← Int.natCast_mul, hL]; exact w64 (by omega)
  have HL := bx hL
  clear hL hm
  have hN5 : N ≤ 255 := Nat.le_trans hN22 (by decide)
  have hD5 : D ≤ 255 := Nat.le_trans hD66 (by decide)
  have hfz : (f : Int) ≤ 65535 := by omega
  have hf0 : (0 : Int) ≤ (f : Int) := Int.natCast_nonneg _
  have hLi : (L : Int) ≤ 264 := by omega
  go_enter Try.func4, Try.ntmps4
  go_upto_region 3 with (first
    | (go_at_call 9; refine (HCODE.out _).mono ?_; rintro e w1 ⟨rfl, hb1⟩; have HB1 := bx hb1; clear hb1)
    | (go_at_call 10; refine (HDEPTH.out _).mono ?_; rintro e _ ⟨rfl, rfl⟩))
  have hc0 := Blk.new w1 24 [.int .i64 N, .int .i64 K, .int .i64 B]
  have hb0 := HB1.out.alloc HB1.out.size (Obj.cells #[.int .i64 N, .int .i64 K, .int .i64 B] 24)
  have hs1 := HB1.out.size
  have hg := hc0.lt
  obtain ⟨wa, hwa⟩ : ∃ wa, w1.alloc (Obj.cells #[.int .i64 N, .int .i64 K, .int .i64 B] 24) = wa := ⟨_, rfl⟩
  have hwa' : w1.alloc (Obj.cells [.int .i64 N, .int .i64 K, .int .i64 B].toArray 24) = wa := hwa
  rw [hwa'] at hc0 hg
  rw [hwa] at hb0 ⊢
  obtain ⟨g, hgg⟩ : ∃ g, w1.heap.size = g := ⟨_, rfl⟩
  rw [hgg] at hc0 hs1 hg ⊢
  have HC := bx hc0
  have HB := bx hb0
  have HG := bx hg
  clear hwa hwa' hgg HB1 hb0 hg hc0 hs1 w1
  go_wp2
  clear hmz
  go_loopw [16, 17, 18] (fun v16 v17 a wr => ∃ (t : Nat) (bl mn : List Int), t ≤ L ∧ a = .int .i64 ((f : Int) + (t : Int)) ∧ Two wr wa.heap.size v16 bl v17 mn ∧ Met N D f t bl mn ∧ Below wa.heap.size wa wr) (fun _ _ a _ => f + L - (intOf a).toNat)
  case atStart => exact ⟨0, [], [], Nat.zero_le _, by simp, Two.nil _ _, Met.start _ _ _, Below.refl _ _⟩
  case round =>
    rename World => wo
    obtain ⟨t, bl, mn, ht, rfl, htwo, hmet, hbo⟩ := hrel
    have HT := bx htwo
    have HM := bx hmet
    have HO := bx hbo
    obtain ⟨A1, c1, rfl, hc1, _⟩ := own_slice htwo.1
    obtain ⟨A2, c2, rfl, hc2, _⟩ := own_slice htwo.2.1
    have hbl : bl.length ≤ L := Nat.le_trans hmet.most ht
    clear htwo hmet hbo
    have ht0 : (0 : Int) ≤ (t : Int) := Int.natCast_nonneg _
    by_cases hlt : t < L
    · have hltz : (t : Int) < (L : Int) := by omega
      have k0 : wo.cell? ⟨g, 0, none⟩ = some (.int .i64 N) := (HC.out.below HO.out HG.out).cell rfl
      have k1 : wo.cell? ⟨g, 1, none⟩ = some (.int .i64 K) := (HC.out.below HO.out HG.out).cell rfl
      have k2 : wo.cell? ⟨g, 2, none⟩ = some (.int .i64 B) := (HC.out.below HO.out HG.out).cell rfl
      obtain ⟨s1, s2, s3⟩ := spot_nat (a := f + t) hK1 hKN hN5 hB hD1 hD5 (by omega)
      obtain ⟨iv, hiv⟩ : ∃ iv, (f + t) % (N * D) / D = iv := ⟨_, rfl⟩
      rw [hiv] at s2 s3
      obtain ⟨x, hx⟩ : ∃ x, xOf N D (f + t) = x := ⟨_, rfl⟩
      rw [hx] at s1
      have HS : Bx (∀ w, Calls Try.prog 15 #[C3 N K B, .int .i64 D, .int .i64 ((f : Int) + (t : Int))] w fun e w' => e = .returned (.tuple #[.int .i64 x, .int .i64 iv]) ∧ Below w.heap.size w w') := bx fun w => by
        have := spot_any N K B D ((f + t : Nat) : Int) w (by omega)
        rw [s1, s2, Int.natCast_add] at this
        exact this
      have HX := bx hx
      have hiv0 : (0 : Int) ≤ (iv : Int) := by omega
      have hivN : (iv : Int) < (N : Int) := by omega
      clear s1 s2 s3 hiv hx
      go_wp2_with (go_at_call 15; refine (HS.out _).mono ?_; rintro e w1 ⟨rfl, hb1⟩; have HB1 := bx hb1; have HT1 := bx (HT.out.keep hb1); have k0' : w1.cell? ⟨g, 0, none⟩ = some (.int .i64 N) := (((HC.out.below HO.out HG.out)).below (hb1.mono HO.out.size) HG.out).cell rfl; clear hb1)
      go_loopw [21, 22] (fun fo a wr => ∃ j : Nat, j ≤ bl.length ∧ a = .int .i64 j ∧ fo = .bool (decide (x ∈ bl.take j)) ∧ Two wr wa.heap.size (.slice A1 bl.length c1) bl (.slice A2 mn.length c2) (bumpTo bl mn x j) ∧ Below wa.heap.size w1 wr) (fun _ a _ => bl.length - (intOf a).toNat)
      case atStart => exact ⟨0, Nat.zero_le _, rfl, by simp, by rw [bumpTo_zero]; exact HT1.out, Below.refl _ _⟩
      case round =>
        obtain ⟨j, hj, rfl, rfl, htw, hbr⟩ := hrel
        have HTW := bx htw
        have HBR := bx hbr
        clear htw hbr
        have hj0 : (0 : Int) ≤ (j : Int) := Int.natCast_nonneg _
        by_cases hjl : j < bl.length
        · have hjz : (j : Int) < (bl.length : Int) := by omega
          have hml : mn.length = bl.length := HM.out.len.symm
          obtain ⟨y, hy⟩ : ∃ y, bl[j]? = some y := ⟨_, List.getElem?_eq_getElem hjl⟩
          obtain ⟨c, hc⟩ : ∃ c, mn[j]? = some c := ⟨_, List.getElem?_eq_getElem (by omega)⟩
          have hcb : (bumpTo bl mn x j)[j]? = some c := by rw [bumpTo_get hc, if_neg (by omega), Int.add_zero]
          obtain ⟨r, hr, _, hc0, hcle⟩ := HM.out.cnt j y c hy hc
          have hcm : c ≤ 100000 := by
            have h1 : fOf D r (f + t) ≤ f + t + (D - 1 - r) := Nat.div_le_self _ _
            omega
          obtain ⟨g1, cap1, e1, _, _, hlt1, rd1, _, _⟩ := HTW.out.first (by omega)
          cases e1
          obtain ⟨g2, cap2, e2, hcap2, _, hlt2, rd2, fz2, st2⟩ := HTW.out.swap.first (by rw [bumpTo_length]; omega)
          rw [bumpTo_length] at e2
          cases e2
          have hcy : wr.cell? ⟨g1, j, none⟩ = some (.int .i64 y) := rd1 j y hy
          have hcc : wr.cell? ⟨g2, j, none⟩ = some (.int .i64 c) := rd2 j c hcb
          have hcf : wr.frozen? ⟨g2, j, none⟩ = false := fz2 j
          have hjm : (j : Int) < (mn.length : Int) := by omega
          have HY := bx hy
          have HCC := bx hc
          have HST := bx (st2 j (c + 1))
          clear hy hc hcb hr hcle rd1 rd2 fz2 st2 hlt1 hlt2 hml
          by_cases hyx : y = x
          · go_wp2
            go_roundw
            case rel =>
              refine ⟨j + 1, by omega, by go_num, ?_, ?_, HBR.out.setCell (by simp; omega) _⟩
              · congr 1; exact (decide_eq_true ((mem_take_succ HY.out).2 (.inr hyx))).symm
              · have h := HST.out.swap
                rw [show (bumpTo bl mn x j).set j (c + 1) = bumpTo bl mn x (j + 1) from bumpTo_yes HCC.out (by rw [← hyx]; exact HY.out)] at h
                exact h
            case measure => simp [intOf]; omega
          · go_wp2
            go_roundw
            case rel =>
              refine ⟨j + 1, by omega, by go_num, ?_, ?_, HBR.out⟩
              · congr 1
                rw [decide_eq_decide, mem_take_succ HY.out]
                exact ⟨.inl, fun h => h.resolve_right hyx⟩
              · rw [← bumpTo_no HY.out hyx]; exact HTW.out
            case measure => simp [intOf]; omega
        · obtain rfl : j = bl.length := by omega
          have htk : bl.take bl.length = bl := List.take_of_length_le (Nat.le_refl _)
          have HBB := bx (HB1.out.size)
          by_cases hin : x ∈ bl
          · have hd : decide (x ∈ bl.take bl.length) = true := decide_eq_true (by rw [htk]; exact hin)
            rw [hd]
            go_wp2
            go_roundw
            case rel =>
              have hmt := HM.out.old (show 0 < D by omega) (by rw [HX.out]; exact hin)
              rw [HX.out] at hmt
              exact ⟨t + 1, bl, _, by omega, by go_num, HTW.out, hmt, HO.out.trans ((HB1.out.mono HO.out.size).trans HBR.out)⟩
            case measure => simp [intOf]; omega
          · have hd : decide (x ∈ bl.take bl.length) = false := decide_eq_false (by rw [htk]; exact hin)
            rw [hd]
            have hbw : wa.heap.size ≤ wr.heap.size := by have := HBR.out.size; have := HB1.out.size; have := HO.out.size; omega
            have HBW := bx hbw
            have hb9 : bl.length ≤ 1000000000 := by omega
            have hm9 : (bumpTo bl mn x bl.length).length ≤ 1000000000 := by rw [bumpTo_length, ← HM.out.len]; exact hb9
            clear hd htk hbw
            go_wp2_with (first
              | (refine ap_two rfl _ _ rfl wa.heap.size _ _ _ _ rfl HTW.out 1 rfl hb9 HBW.out ?_; intro v3 w3 htw3 hb3; have HTW3 := bx htw3; have HB3 := bx hb3; clear htw3 hb3)
              | (refine ap_two rfl _ _ rfl wa.heap.size _ _ _ _ rfl HTW3.out.swap 1 rfl hm9 (Nat.le_trans HBW.out (HB3.out.size)) ?_; intro v4 w4 htw4 hb4; have HTW4 := bx htw4; have HB4 := bx hb4; clear htw4 hb4))
            go_roundw
            case rel =>
              have hmt := HM.out.fresh (show 0 < D by omega) (by rw [HX.out]; exact hin)
              rw [HX.out] at hmt
              exact ⟨t + 1, _, _, by omega, by go_num, HTW4.out.swap, hmt, HO.out.trans ((HB1.out.mono HO.out.size).trans (HBR.out.trans (HB3.out.trans HB4.out)))⟩
            case measure => simp [intOf]; omega
    · have hge : (L : Int) ≤ (t : Int) := by omega
      have hmt := HM.out
      rw [show t = D * m by rw [HL.out]; omega] at hmt
      have HBD := bx (fun (i : Nat) (c : Int) (hc : mn[i]? = some c) => hmt.bound (show 0 < D by omega) hc)
      have HAL := bx (fun h : 0 < m => hmt.all h)
      have hml : mn.length = bl.length := hmt.len.symm
      clear hmt
      go_wp2
      go_loopw [23] (fun a wr => ∃ j : Nat, j ≤ mn.length ∧ a = .int .i64 j ∧ Below wo.heap.size wo wr) (fun a _ => mn.length - (intOf a).toNat)
      case atStart => exact ⟨0, Nat.zero_le _, rfl, Below.refl _ _⟩
      case round =>
        obtain ⟨j, hj, rfl, hbr⟩ := hrel
        have HBR := bx hbr
        have HTR := bx (HT.out.keep hbr)
        clear hbr
        have hj0 : (0 : Int) ≤ (j : Int) := Int.natCast_nonneg _
        by_cases hjl : j < mn.length
        · have hjz : (j : Int) < (mn.length : Int) := by omega
          obtain ⟨c, hc⟩ : ∃ c, mn[j]? = some c := ⟨_, List.getElem?_eq_getElem hjl⟩
          have hcm := HBD.out j c hc
          obtain ⟨g2, cap2, e2, _, _, _, rd2, _, _⟩ := HTR.out.swap.first (by omega)
          cases e2
          have hcc : wr.cell? ⟨g2, j, none⟩ = some (.int .i64 c) := rd2 j c hc
          clear rd2 hc
          go_wp2
          go_roundw
          case rel => exact ⟨j + 1, by omega, by go_num, HBR.out⟩
          case measure => simp [intOf]; omega
        · obtain rfl : j = mn.length := by omega
          have hall : Below w.heap.size w wr := HB.out.trans ((HO.out.mono HB.out.size).trans (HBR.out.mono (Nat.le_trans HB.out.size HO.out.size)))
          have HALL := bx hall
          clear hall
          by_cases hm0 : m = 0
          · subst hm0
            go_wp2_with (go_at_call 13; refine (known21 _).mono ?_; rintro e w5 ⟨rfl, hb5⟩; have HE := bx (HALL.out.trans (hb5.mono HALL.out.size)); clear hb5)
            go_ret
            exact ⟨rfl, HE.out⟩
          · have hmz0 : ¬ (m : Int) = 0 := by omega
            have hdl : (D : Int) ≤ (bl.length : Int) := by have := HAL.out (by omega); omega
            go_wp2_with (go_at_call 13; refine (known21 _).mono ?_; rintro e w5 ⟨rfl, hb5⟩; have HE := bx (HALL.out.trans (hb5.mono HALL.out.size)); clear hb5)
            go_ret
            exact ⟨rfl, HE.out⟩
end Go.Proofs.Ytkjaonlelkfhaaa

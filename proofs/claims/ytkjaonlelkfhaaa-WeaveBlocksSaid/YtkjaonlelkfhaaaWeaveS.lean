/- The walks of layer 21, nineteen: the law WeaveBlocks. -/
import Derived.Test.YtkjaonlelkfhaaaWeaveR
import Derived.Test.YtkjaonlelkfhaaaWeaveP
namespace Go.Proofs.Ytkjaonlelkfhaaa
open Go.RowKit Gf Bt

theorem upMD_mod (K D len : Nat) : upMD K D len % D = 0 := Nat.mul_mod_left _ _
theorem upMD_ge {K D len : Nat} (hD : 0 < D) : upM K len ≤ upMD K D len := by
  unfold upMD
  have h1 := Nat.div_add_mod (upM K len + (D - 1)) D
  have h2 := Nat.mod_lt (upM K len + (D - 1)) hD
  rw [Nat.mul_comm] at h1
  omega
theorem upMD_lt {K D len : Nat} (hD : 0 < D) : upMD K D len < upM K len + D := by
  have h : upMD K D len ≤ upM K len + (D - 1) := Nat.div_mul_le_self _ _
  omega
theorem upM_zero {K : Nat} (hK : 0 < K) : upM K 0 = 0 := by
  unfold upM
  exact Nat.div_eq_of_lt (by omega)
theorem upM_small {K len : Nat} : upM K len ≤ len := by
  rcases Nat.eq_zero_or_pos K with h | h
  · subst h; simp [upM]
  · rcases Nat.eq_zero_or_pos len with h0 | h0
    · subst h0; rw [upM_zero h]; exact Nat.le_refl _
    · unfold upM
      refine Nat.div_le_of_le_mul ?_
      obtain ⟨k, rfl⟩ : ∃ k, K = k + 1 := ⟨K - 1, by omega⟩
      obtain ⟨l, rfl⟩ : ∃ l, len = l + 1 := ⟨len - 1, by omega⟩
      rw [Nat.add_mul, Nat.mul_add]; omega
/-- As few blocks as there can be. -/
theorem few {K D len : Nat} (hK : 0 < K) (hD : 0 < D) (hl : 0 < len) : D ≤ upMD K D len ∧ (upMD K D len - D) * K < len := by
  have h1 := upM_le (len := len) hK
  have h2 := upMD_ge (K := K) (len := len) hD
  have h3 := upMD_lt (K := K) (len := len) hD
  have hM : 0 < upM K len := by
    rcases Nat.eq_zero_or_pos (upM K len) with h | h
    · rw [h, Nat.zero_mul] at h1; omega
    · exact h
  have h4 : D ≤ upMD K D len := by
    obtain ⟨q, hq⟩ := Nat.dvd_of_mod_eq_zero (upMD_mod K D len)
    rw [hq]
    refine Nat.le_mul_of_pos_right _ ?_
    rcases Nat.eq_zero_or_pos q with h | h
    · rw [h, Nat.mul_zero] at hq; omega
    · exact h
  refine ⟨h4, ?_⟩
  rcases upM_lt (K := K) (len := len) with h | h
  · exact Nat.lt_of_le_of_lt (Nat.mul_le_mul_right _ (by omega)) h
  · omega
theorem blocksL_length (K : Nat) (s : List UInt8) (m : Nat) : (blocksL K s m).length = m := by simp [blocksL]
theorem blocksL_get {K : Nat} {s : List UInt8} {m a : Nat} (h : a < m) : (blocksL K s m)[a]? = some (blkU K s a) := by
  unfold blocksL; rw [List.getElem?_map, List.getElem?_range h]; rfl
theorem blkU_get {K : Nat} {s : List UInt8} {a i : Nat} (h : i < K) : (blkU K s a)[i]? = some (s.getD (a * K + i) 0) := by
  unfold blkU; rw [List.getElem?_map, List.getElem?_range h]; rfl
set_option maxRecDepth 100000 in
set_option maxHeartbeats 4000000 in
theorem law_blocks (n k b e : UInt8) (A : Option Addr) (bs : List UInt8) (cap : Nat) (w : World) (hRd : Rd w w.heap.size A (bs.map B8)) (hcap : bs.length ≤ cap) (hmax : cap ≤ maxLen) :
    Calls Try.prog 5 #[B8 n, B8 k, B8 b, B8 e, .slice A bs.length cap] w fun r w' => r = .returned (.bool true) ∧ Below w.heap.size w w' := by
  by_cases hs : bs.length ≤ 400
  · obtain ⟨N, K, B, hN2, hN22, hK1, hKN, hB, hcode⟩ := lawcode31 n k b
    obtain ⟨D, hD1, hD66, hdepth⟩ := depth_any e
    have HCODE := bx hcode
    have HDEPTH := bx hdepth
    clear hcode hdepth
    have hN5 : N ≤ 255 := Nat.le_trans hN22 (by decide)
    have hD5 : D ≤ 255 := Nat.le_trans hD66 (by decide)
    have hsz : (bs.length : Int) ≤ 400 := Int.ofNat_le.2 hs
    have hK22 : K ≤ 22 := Nat.le_trans (Nat.le_of_lt hKN) hN22
    go_enter Try.func5, Try.ntmps5
    go_upto_region 5 with (first
      | (go_at_call 9; refine (HCODE.out _).mono ?_; rintro e w1 ⟨rfl, hb1⟩; have HB1 := bx hb1; clear hb1)
      | (go_at_call 10; refine (HDEPTH.out _).mono ?_; rintro e _ ⟨rfl, rfl⟩))
    have hc0 := Blk.new w1 24 [.int .i64 N, .int .i64 K, .int .i64 B]
    have hb0 := HB1.out.alloc HB1.out.size (Obj.cells #[.int .i64 N, .int .i64 K, .int .i64 B] 24)
    have hs1 := HB1.out.size
    have hg := hc0.lt
    obtain ⟨wa, hwa⟩ : ∃ wa, w1.alloc (Obj.cells #[.int .i64 N, .int .i64 K, .int .i64 B] 24) = wa := ⟨_, rfl⟩
    have hwa' : w1.alloc (Obj.cells [.int .i64 N, .int .i64 K, .int .i64 B].toArray 24) = wa := hwa
    rw [hwa'] at hc0 hg
    rw [hwa] at hb0 ⊢
    obtain ⟨g, hgg⟩ : ∃ g, w1.heap.size = g := ⟨_, rfl⟩
    rw [hgg] at hc0 hs1 hg ⊢
    have HC := bx hc0
    have HB := bx hb0
    have HG := bx hg
    clear hwa hwa' hgg HB1 hb0 w1
    have c0 : wa.cell? ⟨g, 0, none⟩ = some (.int .i64 N) := hc0.cell rfl
    have c1 : wa.cell? ⟨g, 1, none⟩ = some (.int .i64 K) := hc0.cell rfl
    have c2 : wa.cell? ⟨g, 2, none⟩ = some (.int .i64 B) := hc0.cell rfl
    clear hc0
    obtain ⟨m, hm⟩ : ∃ m, upMD K D bs.length = m := ⟨_, rfl⟩
    have hRa : Rd wa wa.heap.size A (bs.map B8) := (hRd.below HB.out).more HB.out.size
    have HE := bx (show bErr N K B D = 0 ∧ bRows N K B D bs = blocksL K bs m by
      have hok := loomOk_nat hK1 hKN hN5 hB hD1 hD5
      unfold bErr bRows
      rw [if_pos hok, if_pos hok, Int.toNat_natCast, Int.toNat_natCast, hm]
      exact ⟨rfl, rfl⟩)
    have HRD := bx hRd
    clear hRd
    have HM := bx hm
    have hm466 : m ≤ 466 := by
      have h1 := upMD_lt (K := K) (len := bs.length) hD1
      have h2 := upM_small (K := K) (len := bs.length)
      rw [hm] at h1; omega
    have hmD : (m : Int) % (D : Int) = 0 := by rw [← Int.natCast_emod, ← hm, upMD_mod]; rfl
    have HROW : Bx (IsRow wa wa.heap.size none (.slice A bs.length cap) bs) := bx ⟨A, cap, rfl, hcap, hmax, hRa, fun _ _ _ => by simp⟩
    clear hm hRa
    clear hmax
    go_upto_region 6 with (go_at_call 16; refine (blocks_any N K B D _ bs none _ HROW.out (Nat.le_trans hs (by decide))).mono ?_; rintro e w2 ⟨v, rfl, hv, hb2⟩; rw [HE.out.1]; have HV := bx hv; have HB2 := bx hb2; clear hv hb2)
    have hv := HV.out
    rw [HE.out.2] at hv
    have HV := bx hv
    obtain ⟨Av, cv, rfl, hcv, hcv2⟩ := hv.form
    clear hv c0 c1 c2 hcv2
    rw [blocksL_length] at hcv ⊢
    have HC2 := bx (HC.out.below HB2.out HG.out)
    have hg2 : g < w2.heap.size := HC2.out.lt
    have hm0 : (0 : Int) ≤ (m : Int) := Int.natCast_nonneg _
    have hD0 : ¬ (D : Int) = 0 := by omega
    go_wp2
    clear hmD
    go_loopw [15] (fun i wr => ∃ a : Nat, a ≤ m ∧ i = .int .i64 a ∧ Below w2.heap.size w2 wr) (fun i _ => m - (intOf i).toNat)
    case atStart => exact ⟨0, Nat.zero_le _, rfl, Below.refl _ _⟩
    case round =>
      obtain ⟨a, ha, rfl, hbr⟩ := hrel
      have HBR := bx hbr
      clear hbr
      have ha0 : (0 : Int) ≤ (a : Int) := Int.natCast_nonneg _
      have q1 : wr.cell? ⟨g, 1, none⟩ = some (.int .i64 K) := (HC2.out.below HBR.out hg2).cell rfl
      by_cases hlt : a < m
      · have hltz : (a : Int) < (m : Int) := Int.ofNat_lt.2 hlt
        obtain ⟨adv, Xr, cr, rfl, habv, hcv', r1, r2, r3⟩ := HV.out.get (blocksL_get hlt)
        obtain ⟨adr, rfl, habr, hcr⟩ := r3 (by rw [List.length_map, blkU_length]; exact hK1)
        rw [blkU_length] at hcv'
        have hcw : wr.cell? (adv.add a) = some (.slice (some adr) K cr) := by
          rw [HBR.out.cell (by rw [block_of_add]; exact habv)]; exact hcv'
        have HCR := bx hcr
        have HCV := bx hcv'
        obtain ⟨q, hq⟩ : ∃ q, a * K = q := ⟨_, rfl⟩
        have hq2 : q ≤ 10252 := by rw [← hq]; exact Nat.le_trans (Nat.mul_le_mul (show a ≤ 466 by omega) (show K ≤ 22 by omega)) (by decide)
        have HW1 := bx (show wrap64 ((a : Int) * (K : Int)) = (q : Int) from wprod hq (Nat.le_trans hq2 (by decide)))
        have HQ := bx hq
        clear hq hcr r1 r2 r3 hcv'
        go_wp2
        go_region
        go_wp2
        clear hcw
        rename World => wo
        go_loopw [16] (fun i wr => ∃ j : Nat, j ≤ K ∧ i = .int .i64 j ∧ Below w2.heap.size w2 wr) (fun i _ => K - (intOf i).toNat)
        case atStart => exact ⟨0, Nat.zero_le _, rfl, by first | exact HBR.out | exact HBR.out.drew⟩
        case round =>
          obtain ⟨j, hj, rfl, hbr⟩ := hrel
          have HBJ := bx hbr
          clear hbr
          have hj0 : (0 : Int) ≤ (j : Int) := Int.natCast_nonneg _
          obtain ⟨Kz, hKzz⟩ : ∃ Kz : Int, (K : Int) = Kz := ⟨_, rfl⟩
          have q2 : wr.cell? ⟨g, 1, none⟩ = some (.int .i64 Kz) := by rw [← hKzz]; exact (HC2.out.below HBJ.out hg2).cell rfl
          have hw2 : wrap64 ((a : Int) * Kz) = (q : Int) := by rw [← hKzz]; exact HW1.out
          by_cases hjK : j < K
          · have hjz : (j : Int) < Kz := by rw [← hKzz]; exact Int.ofNat_lt.2 hjK
            obtain ⟨y, hy⟩ : ∃ y, bs.getD (q + j) 0 = y := ⟨_, rfl⟩
            have hq0 : (0 : Int) ≤ (q : Int) := Int.natCast_nonneg _
            have hqz : (q : Int) ≤ 10252 := Int.ofNat_le.2 hq2
            have hKz : Kz ≤ 22 := by rw [← hKzz]; exact Int.ofNat_le.2 hK22
            clear hKzz
            have hrc : wr.cell? (adr.add j) = some (.int .u8 y.toNat) := by
              rw [HBJ.out.cell (by rw [block_of_add]; exact habr)]
              refine HCR.out j (B8 y) ?_
              rw [List.getElem?_map, blkU_get hjK, HQ.out, hy]; rfl
            have hrv : wr.cell? (adv.add a) = some (.slice (some adr) K cr) := by
              rw [HBJ.out.cell (by rw [block_of_add]; exact habv)]; exact HCV.out
            by_cases htl : q + j < bs.length
            · have htz : (q : Int) + (j : Int) < (bs.length : Int) := by rw [← Int.natCast_add]; exact Int.ofNat_lt.2 htl
              obtain ⟨ad1, rfl, hab1, hcs1⟩ := HRD.out (by rw [List.length_map]; exact Nat.lt_of_le_of_lt (Nat.zero_le _) htl)
              have hcs : wr.cell? (ad1.add (q + j)) = some (.int .u8 y.toNat) := by
                rw [HBJ.out.cell (by rw [block_of_add]; exact Nat.lt_of_lt_of_le hab1 (Nat.le_trans HB.out.size HB2.out.size)), HB2.out.cell (by rw [block_of_add]; exact Nat.lt_of_lt_of_le hab1 HB.out.size), HB.out.cell (by rw [block_of_add]; exact hab1)]
                refine hcs1 (q + j) (B8 y) ?_
                rw [List.getElem?_map, ← hy, List.getD_eq_getElem?_getD, List.getElem?_eq_getElem htl]; rfl
              clear hcs1 hy htl
              go_wp2
              go_roundw
              case rel => exact ⟨j + 1, hjK, by go_num, HBJ.out⟩
              case measure => simp [intOf]; omega
            · have htz : ¬ (q : Int) + (j : Int) < (bs.length : Int) := by rw [← Int.natCast_add]; exact fun h => htl (Int.ofNat_lt.1 h)
              have hy0 : y = 0 := by rw [← hy, List.getD_eq_getElem?_getD, List.getElem?_eq_none (Nat.le_of_not_lt htl)]; rfl
              subst hy0
              clear hy htl
              go_wp2
              go_roundw
              case rel => exact ⟨j + 1, hjK, by go_num, HBJ.out⟩
              case measure => simp [intOf]; omega
          · obtain rfl : K = j := Nat.le_antisymm (Nat.not_lt.1 hjK) hj
            have hjn : ¬ (K : Int) < Kz := by rw [← hKzz]; exact Int.lt_irrefl _
            clear hKzz
            go_wp2
            go_roundw
            case rel => exact ⟨a + 1, hlt, by go_num, HBJ.out⟩
            case measure => simp [intOf]; omega
      · obtain rfl : a = m := Nat.le_antisymm ha (Nat.not_lt.1 hlt)
        have hcnt : bs.length ≤ a * K ∧ a ≤ 466 ∧ (bs.length = 0 → a = 0) ∧ (0 < bs.length → D ≤ a ∧ (a - D) * K < bs.length) := by
          rw [← HM.out]
          refine ⟨Nat.le_trans (upM_le hK1) (Nat.mul_le_mul_right _ (upMD_ge hD1)), by rw [HM.out]; exact hm466, fun h0 => ?_, few hK1 hD1⟩
          rw [h0]
          have h1 := upMD_lt (K := K) (len := 0) hD1
          obtain ⟨z, hz⟩ := Nat.dvd_of_mod_eq_zero (upMD_mod K D 0)
          rw [upM_zero hK1, Nat.zero_add, hz] at h1
          rcases Nat.eq_zero_or_pos z with h | h
          · rw [hz, h, Nat.mul_zero]
          · exact absurd (Nat.le_mul_of_pos_right D h) (Nat.not_le.2 h1)
        obtain ⟨hc1, hc2, hc3, hc4⟩ := hcnt
        obtain ⟨p, hp⟩ : ∃ p, a * K = p := ⟨_, rfl⟩
        obtain ⟨Kz, hKzz⟩ : ∃ Kz : Int, (K : Int) = Kz := ⟨_, rfl⟩
        obtain ⟨Dz, hDzz⟩ : ∃ Dz : Int, (D : Int) = Dz := ⟨_, rfl⟩
        obtain ⟨Pz, hPzz⟩ : ∃ Pz : Int, (p : Int) = Pz := ⟨_, rfl⟩
        have hwp : wrap64 ((a : Int) * Kz) = Pz := by
          rw [← hKzz, ← hPzz]
          exact wprod hp (by rw [← hp]; exact Nat.le_trans (Nat.mul_le_mul hc2 hK22) (by decide))
        have hpl : (bs.length : Int) ≤ Pz := by rw [← hPzz]; exact Int.ofNat_le.2 (by rw [← hp]; exact hc1)
        have hend : bs.length = 0 ∧ a = 0 ∨ (¬ (bs.length : Int) = 0) ∧ ∃ s t : Int, wrap64 ((a : Int) - Dz) = s ∧ wrap64 (s * Kz) = t ∧ t < (bs.length : Int) := by
          rcases Nat.eq_zero_or_pos bs.length with h0 | h0
          · exact .inl ⟨h0, hc3 h0⟩
          · obtain ⟨h1, h2⟩ := hc4 h0
            refine .inr ⟨fun h => Nat.ne_of_gt h0 (Int.ofNat_eq_zero.1 h), ((a - D : Nat) : Int), (((a - D) * K : Nat) : Int), ?_, ?_, Int.ofNat_lt.2 h2⟩
            · rw [← hDzz, ← Int.ofNat_sub h1]; exact w64 (Nat.le_trans (Nat.sub_le _ _) (Nat.le_trans hc2 (by decide)))
            · rw [← hKzz]; exact wprod rfl (Nat.le_trans (Nat.le_of_lt h2) (Nat.le_trans hs (by decide)))
        have HC3 := bx (HC2.out.below HBR.out hg2)
        have HALL := bx (HB.out.trans ((HB2.out.mono HB.out.size).trans (HBR.out.mono (Nat.le_trans HB.out.size HB2.out.size))))
        rw [hDzz]
        have hkc : ∀ w' : World, Below wr.heap.size wr w' → w'.cell? ⟨g, 1, none⟩ = some (.int .i64 Kz) := fun w' h => by
          rw [← hKzz]; exact (HC3.out.below h HC3.out.lt).cell rfl
        have HKC := bx hkc
        clear hkc hc1 hc2 hc3 hc4 hp hKzz hDzz hPzz ha0 hD0 hm0 hsz q1 hm466
        rcases hend with ⟨e1, rfl⟩ | ⟨e1, s, t, e2, e3, e4⟩
        · have EP := bx hwp
          have EL := bx hpl
          have e1z : (bs.length : Int) = 0 := by rw [e1]; rfl
          have E1 := bx e1z
          clear hwp hpl e1z e1
          go_wp2_with fail
          refine (known21 _).mono ?_
          rintro e w1 ⟨rfl, hb1⟩
          have HB1 := bx (HALL.out.trans (hb1.mono HALL.out.size))
          have hk1 := HKC.out _ hb1
          clear hb1
          have e1 := E1.out
          have hwp := EP.out
          have hpl := EL.out
          rw [Int.natCast_zero, Int.zero_mul] at hwp
          go_wp2_with fail
          go_ret
          exact ⟨rfl, HB1.out⟩
        · have E1 := bx e1
          have E2 := bx e2
          have E3 := bx e3
          have E4 := bx e4
          have EP := bx hwp
          have EL := bx hpl
          clear e1 e2 e3 e4 hwp hpl
          go_wp2_with fail
          refine (known21 _).mono ?_
          rintro e w1 ⟨rfl, hb1⟩
          have HB1 := bx (HALL.out.trans (hb1.mono HALL.out.size))
          have hk1 := HKC.out _ hb1
          clear hb1
          have e1 := E1.out
          have e1n : ¬ bs.length = 0 := fun h => E1.out (by rw [h]; rfl)
          have e1b : bs ≠ [] := fun h => e1n (by rw [h]; rfl)
          have e2 := E2.out
          have e3 := E3.out
          have e4 := E4.out
          have hwp := EP.out
          have hpl := EL.out
          go_wp2_with fail
          go_ret
          exact ⟨rfl, HB1.out⟩
  · have hsz : (400 : Int) < (bs.length : Int) := Int.ofNat_lt.2 (Nat.not_le.1 hs)
    go_enter Try.func5, Try.ntmps5
    go_wp2_with (refine (known21 _).mono ?_; rintro e w1 ⟨rfl, hb1⟩; have HB1 := bx hb1; clear hb1)
    go_ret
    exact ⟨rfl, HB1.out⟩
theorem law_blocks' (n k b e : UInt8) (A : Option Addr) (len : Nat) (bs : List UInt8) (cap : Nat) (w : World) (hlen : bs.length = len) (hRd : Rd w w.heap.size A (bs.map B8)) (hcap : len ≤ cap) (hmax : cap ≤ maxLen) :
    Calls Try.prog 5 #[B8 n, B8 k, B8 b, B8 e, .slice A len cap] w fun r w' => r = .returned (.bool true) ∧ Below w.heap.size w w' := by
  subst hlen
  exact law_blocks n k b e A bs cap w hRd hcap hmax
end Go.Proofs.Ytkjaonlelkfhaaa

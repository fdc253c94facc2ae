/- The walks of layer 21, nine: blocks that are woven. -/
import Derived.Test.YtkjaonlelkfhaaaWeaveH
import Derived.Test.YtkjaonlelkfhaaaWeavePure
namespace Go.Proofs.Ytkjaonlelkfhaaa
open Go.RowKit Gf Bt

set_option maxHeartbeats 1000000 in
theorem weave_yes (n k b d : Int) (N D M : Nat) (hN : n = N) (hD : d = D) (v : Value) (xs : List (List UInt8)) (w : World) (hok : loomOk n k b d = true) (hx : IsLst w w.heap.size v xs) (hm : xs.length ≤ 1000000) (hM : xs.length = M * D) (hl : ∀ x ∈ xs, x.length = N) :
    Calls Try.prog 12 #[C3 n k b, .int .i64 d, v] w fun e w' => ∃ v', e = .returned (.tuple #[v', .int .u16 0]) ∧ IsRow w' w'.heap.size none v' (weaveL N D xs) ∧ Below w.heap.size w w' := by
  obtain ⟨A, c, rfl, hc, hc2⟩ := hx.form
  obtain ⟨k1, kn, nn, b0, b1, d1, d2⟩ := loomOk_bounds hok
  have HX := bx hx
  clear hx
  have hd0 : ¬ d = 0 := by omega
  have hl0 : (0 : Int) ≤ (xs.length : Int) := Int.natCast_nonneg _
  have hmod : (xs.length : Int) % d = 0 := by rw [hM, hD]; simp
  have hdiv : (xs.length : Int) / d = (M : Int) := by rw [hM, hD, Int.natCast_mul, Int.mul_ediv_cancel _ (by omega)]
  have hany : (xs.any fun x => decide ((x.length : Int) ≠ n)) = false := by
    rw [List.any_eq_false]
    intro x hx; simp [hl x hx, hN]
  obtain ⟨T, hT⟩ : ∃ T, xs.length * N = T := ⟨_, rfl⟩
  have hT2 : T ≤ 255000000 := by rw [← hT]; exact Nat.le_trans (Nat.mul_le_mul hm (show N ≤ 255 by omega)) (by omega)
  have hwT : wrap64 ((xs.length : Int) * n) = (T : Int) := by rw [hN, ← Int.natCast_mul, hT]; unfold wrap64; omega
  have hM2 : M ≤ 1000000 := by have : M * 1 ≤ M * D := Nat.mul_le_mul_left _ (by omega); omega
  have hwM : wrap64 (M : Int) = M := by unfold wrap64; omega
  have HM := bx hM
  have HT := bx hT
  have HLN := bx hl
  have HN := bx hN
  have HD := bx hD
  clear hM hT hl hN hD
  go_enter Try.func12, Try.ntmps12
  go_upto_region 8 with (first
    | (go_at_call 21; refine (loom_right n k b d _).mono ?_; rintro e w1 ⟨rfl, hb1⟩; rw [hok]; have HL := bx ((((Below.refl _ _).alloc (Nat.le_refl _) _).alloc (by simp) _ : Below w.heap.size w ((w.alloc (Obj.cells #[.int .i64 n, .int .i64 k, .int .i64 b] 24)).alloc (Obj.cells #[.int .i64 n, .int .i64 k, .int .i64 b, .int .i64 d] 50))).trans (hb1.mono (by simp; omega))); have HB := bx (Blk.below (blk_new1 w (Obj.cells #[.int .i64 n, .int .i64 k, .int .i64 b] 24) 50 [.int .i64 n, .int .i64 k, .int .i64 b, .int .i64 d]) hb1 (by simp)); clear hb1)
    | (go_at_call 23; refine (containsfunc_any n k b d _ _ xs _ HB.out ((HX.out.below HL.out).more HL.out.size) (by omega)).mono ?_; rintro e w2 ⟨rfl, hb2⟩; rw [hany]; have HL2 := bx (HL.out.trans (hb2.mono HL.out.size)); have HB2 := bx (HB.out.below hb2 HB.out.lt); have cn2 : w2.cell? ⟨w.heap.size + 1, 0, none⟩ = some (.int .i64 n) := HB2.out.cell rfl; clear hb2))
  have hTb : 1 * T ≤ 281474976710656 := by omega
  have hTc : T ≤ 9223372036854775807 := by omega
  go_upto_region 9 with (refine mk_row rfl 22 _ _ rfl 5 _ _ _ T 1 (congrArg (Value.int .i64) hwT) (congrArg (Value.int .i64) hwT) Try.underlying22 bytes_info rfl hTb hTc ?_)
  have HT2 := bx hT2
  clear hmod hany hTb hTc hT2 hwT
  have hq0 : 0 ≤ (M : Int) := Int.natCast_nonneg _
  have HDV := bx hdiv
  clear hdiv
  go_wp2
  rw [show wrap64 ((xs.length : Int) / d) = (M : Int) by rw [HDV.out]; exact hwM]
  clear hwM
  go_loopw [48] (fun i wr => ∃ kk : Nat, kk ≤ M ∧ i = .int .i64 kk ∧ Blk wr w2.heap.size 5 ((weaveTo N D xs T (kk * (N * D) + (0 * N + 0))).map B8) ∧ Below w2.heap.size w2 wr) (fun i _ => M - (intOf i).toNat)
  case atStart => exact ⟨0, by omega, rfl, by rw [show 0 * (N * D) + (0 * N + 0) = 0 by simp, weaveTo_zero, ← zs_u8]; exact Blk.new w2 _ _, (Below.refl _ _).alloc (Nat.le_refl _) _⟩
  case round =>
    rename World => wo
    obtain ⟨kk, hkk, rfl, hg, hbo⟩ := hrel
    have HG := bx hg
    have HO := bx hbo
    have HBo := bx (HB2.out.below hbo HB2.out.lt)
    clear hg hbo HB HL HB2
    have hkk0 : (0 : Int) ≤ (kk : Int) := Int.natCast_nonneg _
    by_cases hlt : kk < M
    · have hltz : (kk : Int) < (M : Int) := by omega
      obtain ⟨s, hs⟩ : ∃ s, n * d = s := ⟨_, rfl⟩
      obtain ⟨S, hS⟩ : ∃ S, N * D = S := ⟨_, rfl⟩
      have hsS : s = (S : Int) := by rw [← hs, ← hS, HN.out, HD.out, Int.natCast_mul]
      have s1 : 1 ≤ s := by rw [← hs]; exact Int.mul_pos (by omega) (by omega)
      have s2 : s ≤ 65025 := by rw [← hs]; exact Int.le_trans (Int.mul_le_mul_of_nonneg_right nn (by omega)) (by omega)
      have hw : wrap64 (n * d) = s := by rw [hs]; unfold wrap64; omega
      have HSH : Bx (∀ w, Calls Try.prog 24 #[L4 n k b d] w fun e w' => e = .returned (.int .i64 s) ∧ Below w.heap.size w w') := bx fun w => by have := sheaf_any n k b d w; rwa [hw] at this
      obtain ⟨lo, hlo⟩ : ∃ lo, kk * S = lo := ⟨_, rfl⟩
      have hT' : T = M * S := by rw [← HT.out, HM.out, ← hS, Nat.mul_assoc, Nat.mul_comm D N]
      have hhi : lo + S ≤ T := by rw [hT', ← hlo]; have := Nat.mul_le_mul_right S hlt; rw [Nat.succ_mul] at this; exact this
      have hT2 := HT2.out
      have e1 : (kk : Int) * s = (lo : Int) := by rw [hsS, ← Int.natCast_mul, hlo]
      have e2 : ((kk : Int) + 1) * s = (lo : Int) + s := by rw [Int.add_mul, e1, Int.one_mul]
      have w1' : wrap64 ((kk : Int) * s) = (lo : Int) := by rw [e1]; unfold wrap64; omega

      have w3' : wrap64 (((kk : Int) + 1) * s) = (lo : Int) + s := by rw [e2]; unfold wrap64; omega
      have b1' : (0 : Int) ≤ (lo : Int) := Int.natCast_nonneg _
      have b2' : (lo : Int) ≤ (lo : Int) + s := by omega
      have b3' : (lo : Int) + s ≤ (T : Int) := by omega
      have HHI := bx hhi
      have HTM := bx hT'
      have HSS := bx hsS
      have HLO := bx hlo
      have HE1 := bx e1
      have HE2 := bx e2
      have HHS := bx hs
      have HSN := bx hS
      clear hT2 hhi hT' hsS hlo e1 e2 hs hS hw
      go_upto_region 12 with (fail)
      refine wp_region_ext (w := wo) wo.heap.size (by kernel_rfl) (by kernel_rfl) ?_
      have lB := HBo.out.lt
      have c0 : ∀ x : Ext wo.heap.size wo, x.w.cell? ⟨w.heap.size + 1, 0, none⟩ = some (.int .i64 n) := ext_cell HBo.out lB rfl
      have c1 : ∀ x : Ext wo.heap.size wo, x.w.cell? ⟨w.heap.size + 1, 1, none⟩ = some (.int .i64 k) := ext_cell HBo.out lB rfl
      have c2 : ∀ x : Ext wo.heap.size wo, x.w.cell? ⟨w.heap.size + 1, 2, none⟩ = some (.int .i64 b) := ext_cell HBo.out lB rfl
      have c3 : ∀ x : Ext wo.heap.size wo, x.w.cell? ⟨w.heap.size + 1, 3, none⟩ = some (.int .i64 d) := ext_cell HBo.out lB rfl
      have HS : Bx (∀ w, Calls Try.prog 24 #[L4 n k b d] w fun e w' => e = .returned (.int .i64 s) ∧ Below w.heap.size w w') := HSH
      repeat (go_big_quiet_step ((go_at_call 24; exact ext_call (Nat.le_refl _) (HS.out _))))
      refine wpQuiet_nil ?_
      rintro _ ⟨x, rfl⟩
      have hxo := x.bel
      obtain ⟨wq, hwq⟩ : ∃ wq, x.w = wq := ⟨_, rfl⟩
      rw [hwq] at hxo ⊢
      rw [show ((lo : Int) + s).toNat - lo = S by rw [HSS.out]; omega]
      have HO := bx (HO.out.trans (hxo.mono HO.out.size))
      have HG := bx (HG.out.below hxo HG.out.lt)
      clear hwq hxo x c0 c1 c2 c3 lB HS HSH HBo w1' w3'
      obtain ⟨p, hp⟩ : ∃ p, kk * D = p := ⟨_, rfl⟩
      have hpl : p + D ≤ xs.length := by rw [HM.out, ← hp]; have := Nat.mul_le_mul_right D hlt; rw [Nat.succ_mul] at this; exact this
      have f1 : (kk : Int) * d = (p : Int) := by rw [HD.out, ← Int.natCast_mul, hp]
      have f2 : ((kk : Int) + 1) * d = (p : Int) + d := by rw [Int.add_mul, f1, Int.one_mul]
      have w4 : wrap64 ((kk : Int) * d) = (p : Int) := by rw [f1]; unfold wrap64; omega
      have w5 : wrap64 (((kk : Int) + 1) * d) = (p : Int) + d := by have := HD.out; rw [f2]; unfold wrap64; omega
      have g1 : (0 : Int) ≤ (p : Int) := Int.natCast_nonneg _
      have g2 : (p : Int) ≤ (p : Int) + d := by omega
      have g3 : (p : Int) + d ≤ (xs.length : Int) := by have := HD.out; omega
      have g4 : (p : Int) + d ≤ (c : Int) := by omega
      obtain ⟨ad, rfl, hab⟩ : ∃ ad, A = some ad ∧ ad.block < w.heap.size := by
        obtain ⟨ad, _, _, h1, h2, _⟩ := HX.out.get (List.getElem?_eq_getElem (show 0 < xs.length by have := HD.out; omega))
        exact ⟨ad, h1, h2⟩
      have HPP := bx hp
      have HPL := bx hpl
      have HF1 := bx f1
      have HF2 := bx f2
      clear hp hpl f1 f2
      go_wp2
      rw [show ((p : Int) + d).toNat - p = D by rw [HD.out]; omega]
      go_loopw [77] (fun i wr => ∃ j : Nat, j ≤ D ∧ i = .int .i64 j ∧ Blk wr w2.heap.size 5 ((weaveTo N D xs T (kk * (N * D) + (j * N + 0))).map B8) ∧ Below w2.heap.size w2 wr) (fun i _ => D - (intOf i).toNat)
      case atStart => exact ⟨0, by omega, rfl, HG.out, HO.out⟩
      case round =>
        rename World => wj
        obtain ⟨j, hj, rfl, hg, hbo⟩ := hrel
        clear HG HO
        have HG := bx hg
        have HO := bx hbo
        clear hg hbo
        have hj0 : (0 : Int) ≤ (j : Int) := Int.natCast_nonneg _
        by_cases hjd : j < D
        · have hjdz : (j : Int) < (D : Int) := by omega
          have hNz : (N : Int) ≤ 255 := by have := HN.out; omega
          have hDz : (D : Int) ≤ 255 := by have := HD.out; omega
          obtain ⟨x, hx⟩ : ∃ x : List UInt8, xs[p + j]? = some x := ⟨_, List.getElem?_eq_getElem (by have := HPL.out; omega)⟩
          have hxN := HLN.out x (List.mem_of_getElem? hx)
          obtain ⟨ad', A', c', he, hab', hcell, r1, r2, hrd⟩ := HX.out.get hx
          cases he
          have hcell' : wj.cell? ((ad.add p).add j) = some (.slice A' N c') := by
            rw [HO.out.cell (by rw [block_of_add, block_of_add]; have := HL2.out.size; omega), HL2.out.cell (by rw [block_of_add, block_of_add]; exact hab), add_of_add, ← hxN]; exact hcell
          have HRD := bx hrd
          have HXX := bx hx
          have HXN := bx hxN
          clear hcell hrd hx hxN
          go_wp2
          go_loopw [84] (fun i wr => ∃ i' : Nat, i' ≤ N ∧ i = .int .i64 i' ∧ Blk wr w2.heap.size 5 ((weaveTo N D xs T (kk * (N * D) + (j * N + i'))).map B8) ∧ Below w2.heap.size w2 wr) (fun i _ => N - (intOf i).toNat)
          case atStart => exact ⟨0, by omega, rfl, HG.out, HO.out⟩
          case round =>
            obtain ⟨i, hi, rfl, hg, hbo⟩ := hrel
            clear HG HO
            have HG := bx hg
            have HO := bx hbo
            clear hg hbo hcell'
            have hi0 : (0 : Int) ≤ (i : Int) := Int.natCast_nonneg _
            by_cases hin : i < N
            · have hinz : (i : Int) < (N : Int) := by omega
              obtain ⟨y, hy⟩ : ∃ y : UInt8, x[i]? = some y := ⟨_, List.getElem?_eq_getElem (by rw [HXN.out]; exact hin)⟩
              obtain ⟨ad2, rfl, hab2, hc2⟩ := HRD.out (by simp [HXN.out]; omega)
              have hcy : wr.cell? (ad2.add i) = some (.int .u8 y.toNat) := by
                rw [HO.out.cell (by rw [block_of_add]; have := HL2.out.size; omega), HL2.out.cell (by rw [block_of_add]; exact hab2)]; exact hc2 _ _ (by simp [hy])
              obtain ⟨q, hq⟩ : ∃ q, i * D = q := ⟨_, rfl⟩
              have hqS : q + j < S := by rw [← hq, ← HSN.out]; exact pair_lt' hjd hin
              have hwq : wrap64 ((i : Int) * d) = (q : Int) := by have := HHI.out; have := HT2.out; rw [HD.out, ← Int.natCast_mul, hq]; unfold wrap64; omega
              have hq0 : (0 : Int) ≤ (q : Int) := Int.natCast_nonneg _
              have hqz : (q : Int) + (j : Int) < (S : Int) := by omega
              have hS2 : (S : Int) ≤ 65025 := by have := HSS.out; omega
              have hcs : wr.cell? ⟨w2.heap.size, lo + (q + j), none⟩ = some (.int .u8 ((weaveTo N D xs T (kk * (N * D) + (j * N + i))).getD (lo + (q + j)) 0).toNat) := HG.out.cell (by have := HHI.out; rw [List.getElem?_map, List.getD_eq_getElem?_getD, List.getElem?_eq_getElem (by rw [weaveTo_length]; omega)]; rfl)
              have hfs : wr.frozen? ⟨w2.heap.size, lo + (q + j), none⟩ = false := HG.out.froz
              have HV := bx (show (xs.getD (kk * D + j) []).getD i 0 = y by rw [HPP.out, List.getD_eq_getElem?_getD (l := xs), HXX.out, Option.getD_some, List.getD_eq_getElem?_getD, hy]; rfl)
              have HQ := bx (show kk * (N * D) + (i * D + j) = lo + (q + j) by rw [HSN.out, HLO.out, hq])
              clear hc2 hy hq hqS
              go_wp2
              go_roundw
              case rel =>
                refine ⟨i + 1, by omega, by go_num, ?_, HO.out.setCell (by simp) _⟩
                rw [← weaveTo_step hjd hin, HV.out, HQ.out, List.map_set]; exact HG.out.set _
              case measure => simp [intOf]; omega
            · obtain rfl : i = N := by omega
              have HN' := bx (show kk * (i * D) + (j * i + i) = kk * (i * D) + ((j + 1) * i + 0) from weave_next_block _ _ _ _)
              go_wp2
              go_roundw
              case rel => exact ⟨j + 1, by omega, by go_num, by rw [← HN'.out]; exact HG.out, HO.out⟩
              case measure => simp [intOf]; omega
        · obtain rfl : j = D := by omega
          have HN' := bx (weave_next_sheaf N j kk)
          go_wp2
          go_roundw
          case rel => exact ⟨kk + 1, by omega, by go_num, by rw [← HN'.out]; exact HG.out, HO.out⟩
          case measure => simp [intOf]; omega
    · obtain rfl : kk = M := by omega
      go_wp2
      go_ret2
      have hD0 : 0 < D := by have := HD.out; omega
      have hN0 : 0 < N := by have := HN.out; omega
      have hg := HG.out
      have hT := HT.out
      rw [show kk * (N * D) + (0 * N + 0) = T by rw [← hT, HM.out, Nat.mul_assoc, Nat.mul_comm D N]; omega, ← hT, weaveTo_all hD0 hN0 HM.out] at hg
      have hr := IsRow.of_blk (o := none) (c := T) hg hg.lt (by simp) (by rw [weaveL_length]; omega) (by have := HT2.out; simp only [maxLen]; omega)
      rw [weaveL_length, hT] at hr
      exact ⟨_, rfl, hr, HL2.out.trans (HO.out.mono HL2.out.size)⟩
/-- What Weave tells. -/
def wErr (n k b d : Int) (xs : List (List UInt8)) : Int := if loomOk n k b d = true then (if (xs.length : Int) % d = 0 ∧ ∀ x ∈ xs, (x.length : Int) = n then 0 else 12) else 10
def wRow (n k b d : Int) (xs : List (List UInt8)) : List UInt8 := if loomOk n k b d = true ∧ (xs.length : Int) % d = 0 ∧ ∀ x ∈ xs, (x.length : Int) = n then weaveL n.toNat d.toNat xs else []
theorem isRow_nil (w : World) (B : Nat) (o : Option Nat) : IsRow w B o (.slice none 0 0) [] := ⟨none, 0, rfl, Nat.le_refl _, by simp [maxLen], Rd.nil, fun h => absurd h (by simp)⟩
theorem weave_any (n k b d : Int) (v : Value) (xs : List (List UInt8)) (w : World) (hx : IsLst w w.heap.size v xs) (hm : xs.length ≤ 1000000) :
    Calls Try.prog 12 #[C3 n k b, .int .i64 d, v] w fun e w' => ∃ v', e = .returned (.tuple #[v', .int .u16 (wErr n k b d xs)]) ∧ IsRow w' w'.heap.size none v' (wRow n k b d xs) ∧ Below w.heap.size w w' := by
  unfold wErr wRow
  by_cases hok : loomOk n k b d = true
  · obtain ⟨k1, kn, nn, b0, b1, d1, d2⟩ := loomOk_bounds hok
    by_cases hs : (xs.length : Int) % d = 0 ∧ ∀ x ∈ xs, (x.length : Int) = n
    · rw [if_pos hok, if_pos hs, if_pos ⟨hok, hs⟩]
      have hd : d = (d.toNat : Int) := by omega
      have hdm : (d.toNat : Int) ∣ (xs.length : Int) := by rw [← hd]; exact Int.dvd_of_emod_eq_zero hs.1
      obtain ⟨M, hM⟩ := Int.natCast_dvd_natCast.1 hdm
      exact weave_yes n k b d n.toNat d.toNat M (by omega) hd v xs w hok hx hm (by rw [hM, Nat.mul_comm]) (fun x hx => by have := hs.2 x hx; omega)
    · rw [if_pos hok, if_neg hs, if_neg (fun h => hs h.2)]
      exact (weave_short n k b d v xs w hok hx hm hs).mono fun e w' ⟨h1, h2⟩ => ⟨_, h1, isRow_nil _ _ _, h2⟩
  · rw [if_neg hok, if_neg (fun h => hok h.1)]
    exact (weave_no n k b d v xs w (by cases h : loomOk n k b d <;> simp_all)).mono fun e w' ⟨h1, h2⟩ => ⟨_, h1, isRow_nil _ _ _, h2⟩
end Go.Proofs.Ytkjaonlelkfhaaa

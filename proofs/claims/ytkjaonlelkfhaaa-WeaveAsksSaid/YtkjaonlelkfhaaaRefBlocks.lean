/- The walk of erratumref21.Blocks: a text that is cut, by definition. -/
import Derived.Test.YtkjaonlelkfhaaaWeaveR
namespace Go.Proofs.Ytkjaonlelkfhaaa
open Go.RowKit Gf Bt

def blkTo (K : Nat) (s : List UInt8) (q j : Nat) : List UInt8 := (List.range K).map fun i => if i < j then s.getD (q * K + i) 0 else 0
theorem blkTo_length (K s q j) : (blkTo K s q j).length = K := by simp [blkTo]
theorem blkTo_zero (K s q) : blkTo K s q 0 = List.replicate K 0 := by
  unfold blkTo
  apply List.ext_getElem
  · simp
  · intro i h1 h2; simp
theorem blkTo_end {K : Nat} {s : List UInt8} {q j : Nat} (h : K ≤ j ∨ s.length ≤ q * K + j) : blkTo K s q j = blkU K s q := by
  unfold blkTo blkU
  apply List.ext_getElem
  · simp
  · intro i h1 h2
    have hi : i < K := by simpa using h1
    simp only [List.getElem_map, List.getElem_range]
    split
    · rfl
    · rw [List.getD_eq_getElem?_getD, List.getElem?_eq_none (by omega)]; rfl
theorem blkTo_step (K s q j) : (blkTo K s q j).set j (s.getD (q * K + j) 0) = blkTo K s q (j + 1) := by
  unfold blkTo
  apply List.ext_getElem
  · simp
  · intro i h1 h2
    simp only [List.getElem_set, List.getElem_map, List.getElem_range]
    by_cases e : j = i
    · subst e; rw [if_pos rfl, if_pos (by omega)]
    · rw [if_neg e]
      by_cases h : i < j
      · rw [if_pos h, if_pos (by omega)]
      · rw [if_neg h, if_neg (by omega)]
theorem blocksL_succ (K s m) : blocksL K s (m + 1) = blocksL K s m ++ [blkU K s m] := by
  simp [blocksL, List.range_succ]
theorem blocksL_len (K : Nat) (s : List UInt8) (m : Nat) : (blocksL K s m).length = m := by simp [blocksL]
/-- Blocks are cut as long as there is text, or the sheaf isn't whole. -/
theorem cut_on {K D len j : Nat} (hK : 0 < K) (hD : 0 < D) (h : j < upMD K D len) : j * K < len ∨ ¬ j % D = 0 := by
  rcases Nat.lt_or_ge (j * K) len with h1 | h1
  · exact .inl h1
  · refine .inr fun h2 => ?_
    have h3 : upM K len ≤ j := by
      rcases upM_lt (K := K) (len := len) with h4 | h4
      · rcases Nat.lt_or_ge j (upM K len) with h5 | h5
        · have : j * K ≤ (upM K len - 1) * K := Nat.mul_le_mul_right _ (by omega)
          omega
        · exact h5
      · omega
    have h6 : upMD K D len ≤ upM K len + (D - 1) := Nat.div_mul_le_self _ _
    have := upMD_only (K := K) (len := len) hD h3 (by omega) h2
    omega
theorem cut_end {K D len : Nat} (hK : 0 < K) (hD : 0 < D) : len ≤ upMD K D len * K ∧ upMD K D len % D = 0 := by
  refine ⟨?_, Nat.mul_mod_left _ _⟩
  have h1 := Nat.div_add_mod (upM K len + (D - 1)) D
  have h2 := Nat.mod_lt (upM K len + (D - 1)) hD
  rw [Nat.mul_comm] at h1
  have h3 : upM K len ≤ upMD K D len := by unfold upMD; omega
  exact Nat.le_trans (upM_le hK) (Nat.mul_le_mul_right _ h3)
theorem blk_row {w : World} {g B K q j : Nat} {o : Option Nat} {bs : List UInt8} (h : Blk w g 5 ((blkTo K bs q j).map B8)) (he : blkTo K bs q j = blkU K bs q) (hg : g < B) (ho : some g ≠ o) (hn : K ≤ 255) :
    IsRow w B o (.slice (some ⟨g, 0, none⟩) K K) (blkU K bs q) := by
  rw [he] at h
  have := IsRow.of_blk (c := K) h hg ho (by rw [blkU_length]; exact Nat.le_refl _) (by simp only [maxLen]; omega)
  rwa [blkU_length] at this
theorem w64b {a : Nat} (h : a ≤ 1000000000) : wrap64 (a : Int) = (a : Int) := by unfold wrap64; omega
theorem ref_blocks_no (n k b d : Int) (A : Option Addr) (len cap : Nat) (w : World) (hno : loomOk n k b d = false) :
    Calls Try.prog 27 #[C3 n k b, .int .i64 d, .slice A len cap] w fun e w' => e = .returned (.tuple #[.slice none 0 0, .int .i64 10]) ∧ Below w.heap.size w w' := by
  go_enter Try.func27, Try.ntmps27
  go_wp2_with (go_at_call 35; refine (ref21right n k b d _).mono ?_; rintro e w1 ⟨rfl, hb1⟩; rw [hno]; have HL := bx (((Below.refl _ _).alloc (Nat.le_refl _) _ : Below w.heap.size w (w.alloc (Obj.cells #[.int .i64 n, .int .i64 k, .int .i64 b] 24))).trans (hb1.mono (by simp))); clear hb1)
  go_ret2
  exact ⟨rfl, HL.out⟩
set_option maxRecDepth 100000 in
set_option maxHeartbeats 4000000 in
theorem ref_blocks_yes (n b : Int) (K D : Nat) (A : Option Addr) (bs : List UInt8) (cap : Nat) (w : World) (hok : loomOk n K b D = true) (hcap : bs.length ≤ cap) (hlen : bs.length ≤ 1000000) (hRd : Rd w w.heap.size A (bs.map B8)) :
    Calls Try.prog 27 #[C3 n K b, .int .i64 D, .slice A bs.length cap] w fun e w' => ∃ v, e = .returned (.tuple #[v, .int .i64 0]) ∧ IsLst w' w'.heap.size v (blocksL K bs (upMD K D bs.length)) ∧ Below w.heap.size w w' := by
  obtain ⟨k1, kn, nn, b0, b1, d1, d2⟩ := loomOk_bounds hok
  have hK1 : 1 ≤ K := by omega
  have hK2 : K ≤ 255 := by omega
  have hD1 : 1 ≤ D := by omega
  have hD2 : D ≤ 255 := by omega
  have hD0 : ¬ (D : Int) = 0 := by omega
  have hlz : (bs.length : Int) ≤ 1000000 := Int.ofNat_le.2 hlen
  obtain ⟨m, hm⟩ : ∃ m, upMD K D bs.length = m := ⟨_, rfl⟩
  have hCE := cut_end (len := bs.length) hK1 hD1
  have hCO := fun j => cut_on (j := j) (len := bs.length) hK1 hD1
  rw [hm] at hCE hCO ⊢
  have HCE := bx hCE
  have HCO := bx hCO
  have hmK : m * K ≤ 1000000 + 255 * 255 := by
    have h1 : m ≤ upM K bs.length + (D - 1) := by rw [← hm]; exact Nat.div_mul_le_self _ _
    have h2 : upM K bs.length * K ≤ bs.length + (K - 1) := Nat.div_mul_le_self _ _
    have h3 : m * K ≤ (upM K bs.length + (D - 1)) * K := Nat.mul_le_mul_right _ h1
    rw [Nat.add_mul] at h3
    have h4 : (D - 1) * K ≤ 254 * 255 := Nat.mul_le_mul (by omega) hK2
    omega
  have hm2 : m ≤ 1065025 := Nat.le_trans (Nat.le_mul_of_pos_right _ hK1) (Nat.le_trans hmK (by decide))
  have HMK := bx hmK
  clear hm hCE hCO hmK k1 kn nn b0 b1 d1 d2
  go_enter Try.func27, Try.ntmps27
  go_upto_region 3 with (go_at_call 35; refine (ref21right n K b D _).mono ?_; rintro e w1 ⟨rfl, hb1⟩; rw [hok]; have HC1 := bx (Blk.below (Blk.new w 24 [.int .i64 n, .int .i64 K, .int .i64 b]) hb1 (by simp)); have HL := bx (((Below.refl _ _).alloc (Nat.le_refl _) _ : Below w.heap.size w (w.alloc (Obj.cells #[.int .i64 n, .int .i64 K, .int .i64 b] 24))).trans (hb1.mono (by simp))); clear hb1)
  have hg1 : w.heap.size < w1.heap.size := HC1.out.lt
  go_wp2
  go_loopw [8, 9] (fun v i wr => ∃ j : Nat, j ≤ m ∧ i = .int .i64 ((j * K : Nat) : Int) ∧ OwnLst wr w1.heap.size v (blocksL K bs j) ∧ Below w1.heap.size w1 wr) (fun _ i _ => m - (intOf i).toNat / K)
  case atStart => exact ⟨0, by omega, by rw [Nat.zero_mul]; rfl, OwnLst.nil _ _, Below.refl _ _⟩
  case round =>
    rename World => wo
    obtain ⟨q, hq, rfl, hown, hbel⟩ := hrel
    have HB := bx hbel
    have cn : wo.cell? ⟨w.heap.size, 1, none⟩ = some (.int .i64 K) := (HC1.out.below hbel hg1).cell rfl
    obtain ⟨lo, hlo⟩ : ∃ lo, q * K = lo := ⟨_, rfl⟩
    have hlo2 : lo ≤ 1065025 := by rw [← hlo]; exact Nat.le_trans (Nat.mul_le_mul_right _ hq) HMK.out
    have HLO := bx hlo
    have HQ := bx hq
    obtain ⟨A1, c1, vs1, rfl, hjunk⟩ := hown.lst
    clear hjunk vs1
    rw [blocksL_len] at hown ⊢
    rw [hlo]
    have HO := bx hown
    have hq0 : (0 : Int) ≤ (q : Int) := Int.natCast_nonneg _
    have hlo0 : (0 : Int) ≤ (lo : Int) := Int.natCast_nonneg _
    have hqz : (q : Int) ≤ 1065025 := Int.ofNat_le.2 (Nat.le_trans hq hm2)
    by_cases hqm : q < m
    · obtain ⟨lo', hlo'⟩ : ∃ lo', (q + 1) * K = lo' := ⟨_, rfl⟩
      have hlo3 : lo + K = lo' := by rw [← hlo', Nat.add_mul, Nat.one_mul, hlo]
      have HLO3 := bx hlo'
      have hloz : (lo : Int) ≤ 1065025 := Int.ofNat_le.2 hlo2
      have hKw : (K : Int) ≤ 255 := Int.ofNat_le.2 hK2
      have finish : ∀ v2 w2 wi, Below wo.heap.size wo wi → OwnLst w2 w1.heap.size v2 (blocksL K bs q ++ [blkU K bs q]) → Below w1.heap.size wi w2 →
          ∃ k' : Nat, k' ≤ m ∧ (.int .i64 ((lo : Int) + (K : Int)) : Value) = .int .i64 ((k' * K : Nat) : Int) ∧ OwnLst w2 w1.heap.size v2 (blocksL K bs k') ∧ Below w1.heap.size w1 w2 := by
        intro v2 w2 wi hi h1 h2
        exact ⟨q + 1, hqm, by rw [HLO3.out, ← hlo3, Int.natCast_add], by rw [blocksL_succ]; exact h1, HB.out.trans ((hi.mono HB.out.size).trans (h2.mono (Nat.le_refl _)))⟩
      have Fin := bx finish
      have HMZ : Bx (m - (lo + K) / K < m - lo / K) := bx (by
        rw [Nat.add_div_right _ hK1, ← hlo, Nat.mul_div_cancel _ hK1]; omega)
      have hgo : (lo < bs.length) ∨ (¬ lo < bs.length ∧ ¬ (q : Int) % (D : Int) = 0) := by
        by_cases h : lo < bs.length
        · exact .inl h
        · refine .inr ⟨h, fun h2 => ?_⟩
          rcases HCO.out q hqm with h3 | h3
          · rw [hlo] at h3; exact h h3
          · exact h3 (by rw [← Int.natCast_emod] at h2; exact Int.ofNat_eq_zero.1 h2)
      clear finish hlo' hlo3 hlo
      rcases hgo with hll | ⟨hll, hqd⟩
      · have hllz : (lo : Int) < (bs.length : Int) := Int.ofNat_lt.2 hll
        clear hown hbel
        go_wp2_with (refine mk_row rfl 22 _ _ rfl 5 _ _ _ K 1 rfl rfl Try.underlying22 bytes_info rfl (by omega) (by omega) ?_)
        go_loopw [11] (fun i wi => ∃ j : Nat, j ≤ K ∧ i = .int .i64 j ∧ Blk wi wo.heap.size 5 ((blkTo K bs q j).map B8) ∧ Below wo.heap.size wo wi) (fun i _ => K - (intOf i).toNat)
        case atStart => exact ⟨0, by omega, rfl, by rw [blkTo_zero, ← zs_u8]; exact Blk.new wo _ _, (Below.refl _ _).alloc (Nat.le_refl _) _⟩
        case round =>
          skip
          obtain ⟨j, hj, rfl, hg, hbi⟩ := hrel
          have HG := bx hg
          have HI := bx hbi
          have cn1 : wr.cell? ⟨w.heap.size, 1, none⟩ = some (.int .i64 K) := ((HC1.out.below HB.out hg1).below hbi (Nat.lt_of_lt_of_le hg1 HB.out.size)).cell rfl
          clear hg hbi cn
          have HO1 := bx (HO.out.keep HI.out)
          have HGE := bx HG.out.lt
          have HCr := bx ((HC1.out.below HB.out hg1).below HI.out (Nat.lt_of_lt_of_le hg1 HB.out.size))
          have hj0 : (0 : Int) ≤ (j : Int) := Int.natCast_nonneg _
          by_cases hjK : j < K
          · have hjz : (j : Int) < (K : Int) := Int.ofNat_lt.2 hjK
            by_cases htl : lo + j < bs.length
            · have htz : (lo : Int) + (j : Int) < (bs.length : Int) := by rw [← Int.natCast_add]; exact Int.ofNat_lt.2 htl
              obtain ⟨x, hx⟩ : ∃ x : UInt8, bs[lo + j]? = some x := ⟨_, List.getElem?_eq_getElem htl⟩
              obtain ⟨ad, rfl, hab, hc⟩ := hRd (by rw [List.length_map]; exact Nat.lt_of_le_of_lt (Nat.zero_le _) htl)
              have hcell : wr.cell? (ad.add (lo + j)) = some (.int .u8 x.toNat) := by
                rw [HI.out.cell (by rw [block_of_add]; exact Nat.lt_of_lt_of_le hab (Nat.le_trans HL.out.size HB.out.size)), HB.out.cell (by rw [block_of_add]; exact Nat.lt_of_lt_of_le hab HL.out.size), HL.out.cell (by rw [block_of_add]; exact hab)]; exact hc _ _ (by simp [hx])
              have hg0 : wr.cell? ⟨wo.heap.size, j, none⟩ = some (.int .u8 ((blkTo K bs q j).getD j 0).toNat) := HG.out.cell (by simp [List.getD_eq_getElem?_getD, blkTo_length, hjK])
              have hgf : wr.frozen? ⟨wo.heap.size, j, none⟩ = false := HG.out.froz
              have HV := bx (show bs.getD (q * K + j) 0 = x by rw [HLO.out, List.getD_eq_getElem?_getD, hx]; rfl)
              clear hc hx htl
              go_wp2
              go_roundw
              case rel =>
                refine ⟨j + 1, by omega, by go_num, ?_, HI.out.setCell (by simp) _⟩
                rw [← blkTo_step, List.map_set, HV.out]; exact HG.out.set _
              case measure => simp [intOf]; omega
            · have htz : ¬ (lo : Int) + (j : Int) < (bs.length : Int) := by rw [← Int.natCast_add]; exact fun h => htl (Int.ofNat_lt.1 h)
              have HE := bx (blkTo_end (K := K) (s := bs) (q := q) (j := j) (.inr (by rw [HLO.out]; exact Nat.le_of_not_lt htl)))
              have HR := bx (blk_row (o := (Value.slice A1 q c1).ownBlock) HG.out HE.out HGE.out (HO.out.new (Nat.le_refl _)) hK2)
              go_wp2_with (first | (refine ap_lst rfl _ _ rfl w1.heap.size _ _ rfl HO1.out _ 1 rfl HR.out (by rw [blocksL_len]; exact Nat.le_trans hq (Nat.le_trans hm2 (by decide))) (Nat.le_trans HB.out.size HI.out.size) ?_; intro v2 w2 hown2 hb2; have cn2 : w2.cell? ⟨w.heap.size, 1, none⟩ = some _ := (HCr.out.below hb2 hg1).cell rfl))
              go_roundw
              case rel => exact Fin.out _ _ _ HI.out hown2 hb2
              case measure =>
              rw [show ((intOf (.int .i64 ((lo : Int) + (K : Int)))).toNat) = lo + K from Int.toNat_natCast _, show (intOf (.int .i64 (lo : Int))).toNat = lo from Int.toNat_natCast _]; exact HMZ.out
          · obtain rfl : K = j := Nat.le_antisymm (Nat.le_of_not_lt hjK) hj
            have HR := bx (blk_row (o := (Value.slice A1 q c1).ownBlock) HG.out (blkTo_end (.inl (Nat.le_refl _))) HGE.out (HO.out.new (Nat.le_refl _)) hK2)
            go_wp2_with (first | (refine ap_lst rfl _ _ rfl w1.heap.size _ _ rfl HO1.out _ 1 rfl HR.out (by rw [blocksL_len]; exact Nat.le_trans hq (Nat.le_trans hm2 (by decide))) (Nat.le_trans HB.out.size HI.out.size) ?_; intro v2 w2 hown2 hb2; have cn2 : w2.cell? ⟨w.heap.size, 1, none⟩ = some _ := (HCr.out.below hb2 hg1).cell rfl))
            go_roundw
            case rel => exact Fin.out _ _ _ HI.out hown2 hb2
            case measure =>
              rw [show ((intOf (.int .i64 ((lo : Int) + (K : Int)))).toNat) = lo + K from Int.toNat_natCast _, show (intOf (.int .i64 (lo : Int))).toNat = lo from Int.toNat_natCast _]; exact HMZ.out
      · have hllz : ¬ (lo : Int) < (bs.length : Int) := fun h => hll (Int.ofNat_lt.1 h)
        clear hown hbel
        go_wp2_with (refine mk_row rfl 22 _ _ rfl 5 _ _ _ K 1 rfl rfl Try.underlying22 bytes_info rfl (by omega) (by omega) ?_)
        go_loopw [11] (fun i wi => ∃ j : Nat, j ≤ K ∧ i = .int .i64 j ∧ Blk wi wo.heap.size 5 ((blkTo K bs q j).map B8) ∧ Below wo.heap.size wo wi) (fun i _ => K - (intOf i).toNat)
        case atStart => exact ⟨0, by omega, rfl, by rw [blkTo_zero, ← zs_u8]; exact Blk.new wo _ _, (Below.refl _ _).alloc (Nat.le_refl _) _⟩
        case round =>
          skip
          obtain ⟨j, hj, rfl, hg, hbi⟩ := hrel
          have HG := bx hg
          have HI := bx hbi
          have cn1 : wr.cell? ⟨w.heap.size, 1, none⟩ = some (.int .i64 K) := ((HC1.out.below HB.out hg1).below hbi (Nat.lt_of_lt_of_le hg1 HB.out.size)).cell rfl
          clear hg hbi cn
          have HO1 := bx (HO.out.keep HI.out)
          have HGE := bx HG.out.lt
          have HCr := bx ((HC1.out.below HB.out hg1).below HI.out (Nat.lt_of_lt_of_le hg1 HB.out.size))
          have hj0 : (0 : Int) ≤ (j : Int) := Int.natCast_nonneg _
          by_cases hjK : j < K
          · have hjz : (j : Int) < (K : Int) := Int.ofNat_lt.2 hjK
            by_cases htl : lo + j < bs.length
            · exact absurd (Nat.lt_of_le_of_lt (Nat.le_add_right _ _) htl) hll
            · have htz : ¬ (lo : Int) + (j : Int) < (bs.length : Int) := by rw [← Int.natCast_add]; exact fun h => htl (Int.ofNat_lt.1 h)
              have HE := bx (blkTo_end (K := K) (s := bs) (q := q) (j := j) (.inr (by rw [HLO.out]; exact Nat.le_of_not_lt htl)))
              have HR := bx (blk_row (o := (Value.slice A1 q c1).ownBlock) HG.out HE.out HGE.out (HO.out.new (Nat.le_refl _)) hK2)
              go_wp2_with (first | (refine ap_lst rfl _ _ rfl w1.heap.size _ _ rfl HO1.out _ 1 rfl HR.out (by rw [blocksL_len]; exact Nat.le_trans hq (Nat.le_trans hm2 (by decide))) (Nat.le_trans HB.out.size HI.out.size) ?_; intro v2 w2 hown2 hb2; have cn2 : w2.cell? ⟨w.heap.size, 1, none⟩ = some _ := (HCr.out.below hb2 hg1).cell rfl))
              go_roundw
              case rel => exact Fin.out _ _ _ HI.out hown2 hb2
              case measure =>
              rw [show ((intOf (.int .i64 ((lo : Int) + (K : Int)))).toNat) = lo + K from Int.toNat_natCast _, show (intOf (.int .i64 (lo : Int))).toNat = lo from Int.toNat_natCast _]; exact HMZ.out
          · obtain rfl : K = j := Nat.le_antisymm (Nat.le_of_not_lt hjK) hj
            have HR := bx (blk_row (o := (Value.slice A1 q c1).ownBlock) HG.out (blkTo_end (.inl (Nat.le_refl _))) HGE.out (HO.out.new (Nat.le_refl _)) hK2)
            go_wp2_with (first | (refine ap_lst rfl _ _ rfl w1.heap.size _ _ rfl HO1.out _ 1 rfl HR.out (by rw [blocksL_len]; exact Nat.le_trans hq (Nat.le_trans hm2 (by decide))) (Nat.le_trans HB.out.size HI.out.size) ?_; intro v2 w2 hown2 hb2; have cn2 : w2.cell? ⟨w.heap.size, 1, none⟩ = some _ := (HCr.out.below hb2 hg1).cell rfl))
            go_roundw
            case rel => exact Fin.out _ _ _ HI.out hown2 hb2
            case measure =>
              rw [show ((intOf (.int .i64 ((lo : Int) + (K : Int)))).toNat) = lo + K from Int.toNat_natCast _, show (intOf (.int .i64 (lo : Int))).toNat = lo from Int.toNat_natCast _]; exact HMZ.out
    · obtain rfl : q = m := Nat.le_antisymm hq (Nat.le_of_not_lt hqm)
      have hend : ¬ (lo : Int) < (bs.length : Int) := fun h => by
        have h2 := HCE.out.1
        rw [hlo] at h2
        have := Int.ofNat_lt.1 h
        omega
      have hqd : (q : Int) % (D : Int) = 0 := by rw [← Int.natCast_emod, HCE.out.2]; rfl
      have hown2 := HO.out.lst
      have HOW := bx hown2
      clear hown hbel hown2
      go_wp2
      go_ret2
      exact ⟨_, rfl, HOW.out, HL.out.trans (HB.out.mono HL.out.size)⟩
theorem ref_blocks_any (n k b d : Int) (v : Value) (bs : List UInt8) (o : Option Nat) (w : World) (hv : IsRow w w.heap.size o v bs) (hlen : bs.length ≤ 1000000) :
    Calls Try.prog 27 #[C3 n k b, .int .i64 d, v] w fun e w' => ∃ v', e = .returned (.tuple #[v', .int .i64 (bErr n k b d)]) ∧ IsLst w' w'.heap.size v' (bRows n k b d bs) ∧ Below w.heap.size w w' := by
  obtain ⟨A, c, rfl, hc, hm, hr, _⟩ := hv
  unfold bErr bRows
  by_cases hok : loomOk n k b d = true
  · obtain ⟨k1, kn, nn, b0, b1, d1, d2⟩ := loomOk_bounds hok
    obtain ⟨K, rfl⟩ : ∃ K : Nat, k = K := ⟨k.toNat, by omega⟩
    obtain ⟨D, rfl⟩ : ∃ D : Nat, d = D := ⟨d.toNat, by omega⟩
    rw [if_pos hok, if_pos hok]
    exact ref_blocks_yes n b K D A bs c w hok hc hlen hr
  · rw [if_neg hok, if_neg hok]
    exact (ref_blocks_no n k b d A bs.length c w (by cases h : loomOk n k b d <;> simp_all)).mono fun e w' ⟨h1, h2⟩ => ⟨_, h1, IsLst.nil _ _, h2⟩
end Go.Proofs.Ytkjaonlelkfhaaa

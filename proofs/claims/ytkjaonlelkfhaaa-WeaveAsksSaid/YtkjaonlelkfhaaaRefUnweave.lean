/- The walk of erratumref21.Unweave: what is unwoven, by definition. -/
import Derived.Test.YtkjaonlelkfhaaaRefWeave
import Derived.Test.YtkjaonlelkfhaaaWeaveO
namespace Go.Proofs.Ytkjaonlelkfhaaa
open Go.RowKit Gf Bt

def lstTo (N D : Nat) (t : List UInt8) (x : Nat) : List (List UInt8) := (List.range x).map fun x => rowU N D t (x / D) (x % D)
theorem lstTo_length (N D t x) : (lstTo N D t x).length = x := by simp [lstTo]
theorem lstTo_succ (N D t x) : lstTo N D t (x + 1) = lstTo N D t x ++ [rowU N D t (x / D) (x % D)] := by simp [lstTo, List.range_succ]
theorem unweaveL_succ (N D : Nat) (t : List UInt8) (M : Nat) : unweaveL N D t (M + 1) = unweaveL N D t M ++ rowsU N D t M := by simp [unweaveL, List.range_succ]
theorem lstTo_sheaf (N D : Nat) (t : List UInt8) (M : Nat) : ∀ j, j ≤ D → lstTo N D t (M * D + j) = lstTo N D t (M * D) ++ (List.range j).map (rowU N D t M)
  | 0, _ => by simp
  | j + 1, h => by
    have hj : j < D := h
    rw [← Nat.add_assoc, lstTo_succ, lstTo_sheaf N D t M j (Nat.le_of_lt hj), List.range_succ, List.map_append, List.append_assoc]
    obtain ⟨h1, h2⟩ := divmod (q := M) hj
    rw [h1, h2]; rfl
theorem lstTo_all (N D : Nat) (t : List UInt8) : ∀ M, lstTo N D t (M * D) = unweaveL N D t M
  | 0 => by simp [lstTo, unweaveL]
  | M + 1 => by
    rw [Nat.add_mul, Nat.one_mul, lstTo_sheaf N D t M D (Nat.le_refl _), lstTo_all N D t M, unweaveL_succ]; rfl
theorem rowU_get {N D : Nat} {t : List UInt8} {q j i : Nat} (h : i < N) : (rowU N D t q j)[i]? = some (t.getD (q * (N * D) + (i * D + j)) 0) := by
  unfold rowU; rw [List.getElem?_map, List.getElem?_range h]; rfl
theorem own_rowo {w : World} {base n : Nat} {v : Value} {bs : List UInt8} {o : Option Nat} (h : w.ownsRow base 5 1 v n (bs.map B8)) (ho : ∀ k, o = some k → k < base) : IsRow w w.heap.size o v bs := by
  have hl := h.1
  rw [Nat.mul_one, List.length_map] at hl
  rcases h.2 with ⟨rfl, h0⟩ | ⟨g, cap, cur, rfl, hg, hh, hn, hc, hs, ht⟩
  · obtain rfl : bs = [] := List.length_eq_zero_iff.1 (by omega)
    exact ⟨none, 0, rfl, Nat.le_refl _, by simp [maxLen], Rd.nil, fun h => absurd h (by simp)⟩
  · obtain ⟨A, c, e, h1, h2⟩ := own_slice h
    cases e
    subst hl
    exact ⟨_, _, rfl, h1, hc, h2, fun _ ad e e2 => by cases e; have := ho _ e2.symm; simp at this; omega⟩
theorem ref_unweave_no (n k b d : Int) (A : Option Addr) (len cap : Nat) (w : World) (hno : loomOk n k b d = false) :
    Calls Try.prog 29 #[C3 n k b, .int .i64 d, .slice A len cap] w fun e w' => e = .returned (.tuple #[.slice none 0 0, .int .i64 10]) ∧ Below w.heap.size w w' := by
  go_enter Try.func29, Try.ntmps29
  go_wp2_with (go_at_call 35; refine (ref21right n k b d _).mono ?_; rintro e w1 ⟨rfl, hb1⟩; rw [hno]; have HL := bx (((Below.refl _ _).alloc (Nat.le_refl _) _ : Below w.heap.size w (w.alloc (Obj.cells #[.int .i64 n, .int .i64 k, .int .i64 b] 24))).trans (hb1.mono (by simp))); clear hb1)
  go_ret2
  exact ⟨rfl, HL.out⟩
theorem ref_unweave_short (n k b d : Int) (A : Option Addr) (len cap : Nat) (w : World) (hok : loomOk n k b d = true) (hbad : ¬ (len : Int) % (n * d) = 0) :
    Calls Try.prog 29 #[C3 n k b, .int .i64 d, .slice A len cap] w fun e w' => e = .returned (.tuple #[.slice none 0 0, .int .i64 12]) ∧ Below w.heap.size w w' := by
  obtain ⟨k1, kn, nn, b0, b1, d1, d2⟩ := loomOk_bounds hok
  obtain ⟨s, hs⟩ : ∃ s, n * d = s := ⟨_, rfl⟩
  have s1 : 1 ≤ s := by rw [← hs]; exact Int.mul_pos (by omega) (by omega)
  have s2 : s ≤ 65025 := by rw [← hs]; exact Int.le_trans (Int.mul_le_mul_of_nonneg_right nn (by omega)) (by omega)
  have hw : wrap64 (n * d) = s := by rw [hs]; unfold wrap64; omega
  rw [hs] at hbad
  have hs0 : ¬ s = 0 := by omega
  have hl0 : (0 : Int) ≤ (len : Int) := Int.natCast_nonneg _
  clear hs k1 kn nn b0 b1 d1 d2
  go_enter Try.func29, Try.ntmps29
  go_wp2_with (go_at_call 35; refine (ref21right n k b d _).mono ?_; rintro e w1 ⟨rfl, hb1⟩; rw [hok]; have c0 : w1.cell? ⟨w.heap.size, 0, none⟩ = some (.int .i64 n) := (Blk.below (Blk.new w 24 [.int .i64 n, .int .i64 k, .int .i64 b]) hb1 (by simp)).cell rfl; have HL := bx (((Below.refl _ _).alloc (Nat.le_refl _) _ : Below w.heap.size w (w.alloc (Obj.cells #[.int .i64 n, .int .i64 k, .int .i64 b] 24))).trans (hb1.mono (by simp))); clear hb1)
  go_ret2
  exact ⟨rfl, HL.out⟩
set_option maxRecDepth 100000 in
set_option maxHeartbeats 4000000 in
theorem ref_unweave_yes (n k b d : Int) (N D M : Nat) (hn : n = N) (hd : d = D) (A : Option Addr) (bs : List UInt8) (cap : Nat) (w : World) (hok : loomOk n k b d = true) (hcap : bs.length ≤ cap) (hlen : bs.length ≤ 1000000) (hM : bs.length = M * (N * D)) (hRd : Rd w w.heap.size A (bs.map B8)) :
    Calls Try.prog 29 #[C3 n k b, .int .i64 d, .slice A bs.length cap] w fun e w' => ∃ v, e = .returned (.tuple #[v, .int .i64 0]) ∧ IsLst w' w'.heap.size v (unweaveL N D bs M) ∧ Below w.heap.size w w' := by
  obtain ⟨k1, kn, nn, b0, b1, d1, d2⟩ := loomOk_bounds hok
  obtain ⟨s, hs⟩ : ∃ s, n * d = s := ⟨_, rfl⟩
  have s1 : 1 ≤ s := by rw [← hs]; exact Int.mul_pos (by omega) (by omega)
  have s2 : s ≤ 65025 := by rw [← hs]; exact Int.le_trans (Int.mul_le_mul_of_nonneg_right nn (by omega)) (by omega)
  have hw : wrap64 (n * d) = s := by rw [hs]; unfold wrap64; omega
  have hs0 : ¬ s = 0 := by omega
  have hn0 : ¬ n = 0 := by omega
  have hD0 : 0 < D := by omega
  have hN0 : 0 < N := by omega
  have hN5 : N ≤ 255 := by omega
  have hD5 : D ≤ 255 := by omega
  obtain ⟨X, hX⟩ : ∃ X, M * D = X := ⟨_, rfl⟩
  have hXN : bs.length = X * N := by rw [hM, ← hX, Nat.mul_assoc, Nat.mul_comm N D]
  have hX6 : X ≤ 1000000 := Nat.le_trans (Nat.le_mul_of_pos_right _ hN0) (hXN ▸ hlen)
  have hrem : (bs.length : Int) % s = 0 := by rw [← hs, hn, hd, ← Int.natCast_mul, ← Int.natCast_emod, hM, Nat.mul_mod_left]; rfl
  have hdv : (bs.length : Int) / n = (X : Int) := by rw [hn, ← Int.natCast_ediv, hXN, Nat.mul_div_cancel _ hN0]
  have hwX : wrap64 (X : Int) = (X : Int) := w64 (Nat.le_trans hX6 (by decide))
  have hl0 : (0 : Int) ≤ (bs.length : Int) := Int.natCast_nonneg _
  have hnz : n ≤ 255 := nn
  have HN := bx hn
  have HD := bx hd
  have HOK := bx hok
  have HM := bx hM
  have HX := bx hX
  have HRD := bx hRd
  have HDV := bx hdv
  have HWX := bx hwX
  clear hs hn hd hM hX hXN hok hRd hdv hwX k1 kn nn b0 b1 d1 d2
  go_enter Try.func29, Try.ntmps29
  go_upto_region 5 with (go_at_call 35; refine (ref21right n k b d _).mono ?_; rintro e w1 ⟨rfl, hb1⟩; rw [HOK.out]; have HC1 := bx (Blk.below (Blk.new w 24 [.int .i64 n, .int .i64 k, .int .i64 b]) hb1 (by simp)); have c0 : w1.cell? ⟨w.heap.size, 0, none⟩ = some (.int .i64 n) := HC1.out.cell rfl; have HL := bx (((Below.refl _ _).alloc (Nat.le_refl _) _ : Below w.heap.size w (w.alloc (Obj.cells #[.int .i64 n, .int .i64 k, .int .i64 b] 24))).trans (hb1.mono (by simp))); clear hb1)
  have hg1 : w.heap.size < w1.heap.size := HC1.out.lt
  clear hw hrem hs0 c0
  go_wp2
  go_loopw [8, 9] (fun v i wr => ∃ x : Nat, x ≤ X ∧ i = .int .i64 x ∧ OwnLst wr w1.heap.size v (lstTo N D bs x) ∧ Below w1.heap.size w1 wr) (fun _ i _ => X - (intOf i).toNat)
  case atStart => exact ⟨0, Nat.zero_le _, rfl, OwnLst.nil _ _, Below.refl _ _⟩
  case round =>
    rename World => wo
    obtain ⟨x, hx, rfl, hown, hbel⟩ := hrel
    have HB := bx hbel
    have HO := bx hown
    have hso := hbel.size
    clear hown hbel
    have hx0 : (0 : Int) ≤ (x : Int) := Int.natCast_nonneg _
    have HCo := bx (HC1.out.below HB.out hg1)
    have q0 : wo.cell? ⟨w.heap.size, 0, none⟩ = some (.int .i64 n) := HCo.out.cell rfl
    obtain ⟨Xz, hXz⟩ : ∃ Xz : Int, (X : Int) = Xz := ⟨_, rfl⟩
    have hwX : wrap64 ((bs.length : Int) / n) = Xz := by rw [HDV.out, HWX.out, hXz]
    by_cases hlt : x < X
    · have hltz : (x : Int) < Xz := by rw [← hXz]; exact Int.ofNat_lt.2 hlt
      clear hXz
      obtain ⟨row, hrow⟩ : ∃ row, rowU N D bs (x / D) (x % D) = row := ⟨_, rfl⟩
      have HROW := bx hrow
      have HRL : Bx (row.length = N) := bx (by rw [← hrow]; exact rowU_length _ _ _ _ _)
      have HSZ := bx hso
      clear hrow hso
      go_wp2
      clear q0 hwX hltz
      go_loopw [10, 11] (fun v i wi => ∃ j : Nat, j ≤ N ∧ i = .int .i64 j ∧ wi.ownsRow wo.heap.size 5 1 v j ((row.take j).map B8) ∧ Below wo.heap.size wo wi) (fun _ i _ => N - (intOf i).toNat)
      case atStart => exact ⟨0, Nat.zero_le _, rfl, own_nil _ _ _, Below.refl _ _⟩
      case round =>
        obtain ⟨j, hj, rfl, hw10, hbi⟩ := hrel
        have HW := bx hw10
        have HI := bx hbi
        clear hw10 hbi
        have hj0 : (0 : Int) ≤ (j : Int) := Int.natCast_nonneg _
        have HCi := bx (HCo.out.below HI.out HCo.out.lt)
        have q0 : wr.cell? ⟨w.heap.size, 0, none⟩ = some (.int .i64 n) := HCi.out.cell rfl
        have q1 : wr.cell? ⟨w.heap.size, 1, none⟩ = some (.int .i64 k) := HCi.out.cell rfl
        have q2 : wr.cell? ⟨w.heap.size, 2, none⟩ = some (.int .i64 b) := HCi.out.cell rfl
        by_cases hjN : j < N
        · have hjz : (j : Int) < n := by rw [HN.out]; exact Int.ofNat_lt.2 hjN
          obtain ⟨p, hp⟩ : ∃ p, x / D * (N * D) + (j * D + x % D) = p := ⟨_, rfl⟩
          have hpl : p < bs.length := by
            have h1 : x / D < M := (Nat.div_lt_iff_lt_mul hD0).2 (by rw [HX.out]; exact hlt)
            have h2 := pair_lt' (N := N) (Nat.mod_lt x hD0) hjN
            have h3 : (x / D + 1) * (N * D) ≤ M * (N * D) := Nat.mul_le_mul_right _ h1
            rw [Nat.add_mul, Nat.one_mul] at h3
            rw [HM.out, ← hp]
            exact Nat.lt_of_lt_of_le (Nat.add_lt_add_left h2 _) h3
          obtain ⟨y, hy⟩ : ∃ y, bs[p]? = some y := ⟨_, List.getElem?_eq_getElem hpl⟩
          have hry : row[j]? = some y := by
            rw [← HROW.out, rowU_get hjN, hp, List.getD_eq_getElem?_getD, hy]; rfl
          have HP : Bx (∀ w, Calls Try.prog 31 #[C3 n k b, .int .i64 d, .int .i64 x, .int .i64 j] w fun e w' => e = .returned (.int .i64 p) ∧ Below w.heap.size w w') := bx fun w => by
            have h := ref_place_yes n k b d (x : Int) (j : Int) w ⟨HOK.out, hx0, Int.ofNat_le.2 (Nat.le_trans hx (Nat.le_trans hX6 (by decide))), hj0, hjz⟩
            have e : placeN n d (x : Int) (j : Int) = (p : Int) := by
              unfold placeN
              rw [HN.out, HD.out, ← hp, ← Int.natCast_ediv, ← Int.natCast_emod, ← Int.natCast_mul, ← Int.natCast_mul, ← Int.natCast_mul, ← Int.natCast_add, ← Int.natCast_add, Nat.mul_assoc, Nat.add_assoc]
            rw [e] at h
            exact h
          obtain ⟨ad, rfl, hab, hcs⟩ := HRD.out (by rw [List.length_map]; exact Nat.lt_of_le_of_lt (Nat.zero_le _) hpl)
          have HCY := bx (hcs p (B8 y) (by rw [List.getElem?_map, hy]; rfl))
          have hp0 : (0 : Int) ≤ (p : Int) := Int.natCast_nonneg _
          have hpz : (p : Int) < (bs.length : Int) := Int.ofNat_lt.2 hpl
          have HRY := bx hry
          have HS1 := bx (Nat.le_trans HL.out.size HSZ.out)
          clear hp hpl hy hry hcs
          go_wp2_with (first
            | (go_at_call 31; refine (HP.out _).mono ?_; rintro e w5 ⟨rfl, hb5⟩; have HB5 := bx hb5; have hcy : w5.cell? (ad.add p) = some (.int .u8 y.toNat) := (by rw [HB5.out.cell (by rw [block_of_add]; exact Nat.lt_of_lt_of_le hab (Nat.le_trans HS1.out HI.out.size)), HI.out.cell (by rw [block_of_add]; exact Nat.lt_of_lt_of_le hab HS1.out), HB.out.cell (by rw [block_of_add]; exact Nat.lt_of_lt_of_le hab HL.out.size), HL.out.cell (by rw [block_of_add]; exact hab)]; exact HCY.out); have HW5 := bx (own_below HW.out HB5.out); have HI5 := bx (HI.out.trans (HB5.out.mono HI.out.size)); clear hb5)
            | (refine ap_byte rfl _ _ rfl wo.heap.size _ _ _ rfl HW5.out rfl (Nat.le_trans hjN (Nat.le_trans hN5 (by decide))) HI5.out.size ?_; intro v7 w9 hown9 hb9; have HW9 := bx hown9; have HI9 := bx (HI5.out.trans hb9); clear hown9 hb9))
          go_roundw
          case rel =>
            refine ⟨j + 1, hjN, by go_num, ?_, HI9.out⟩
            have := HW9.out
            rw [List.take_add_one, HRY.out, List.map_append]
            exact this
          case measure => simp [intOf]; omega
        · obtain rfl : N = j := Nat.le_antisymm (Nat.not_lt.1 hjN) hj
          have hjz : ¬ (N : Int) < n := by rw [HN.out]; exact Int.lt_irrefl _
          obtain ⟨A10, c10, rfl, _, _⟩ := own_slice HW.out
          have hrowr := HW.out
          rw [show row.take N = row by rw [← HRL.out]; exact List.take_length] at hrowr
          have HO1 := bx (HO.out.keep HI.out)
          have HR := bx (own_rowo (o := u8.ownBlock) hrowr (fun k hk => HO.out.blt k hk))
          clear hrowr q1 q2
          go_wp2_with (first | (refine ap_lst rfl _ _ rfl w1.heap.size _ _ rfl HO1.out _ 1 rfl HR.out (by rw [lstTo_length]; exact Nat.le_trans hx (Nat.le_trans hX6 (by decide))) (Nat.le_trans HSZ.out HI.out.size) ?_; intro v2 w2 hown2 hb2; have HO2 := bx hown2; have HB2 := bx hb2; clear hown2 hb2))
          go_roundw
          case rel => exact ⟨x + 1, hlt, by go_num, by rw [lstTo_succ, HROW.out]; exact HO2.out, HB.out.trans ((HI.out.mono HB.out.size).trans (HB2.out.mono (Nat.le_refl _)))⟩
          case measure => simp [intOf]; omega
    · obtain rfl : X = x := Nat.le_antisymm (Nat.not_lt.1 hlt) hx
      have hnl : ¬ (X : Int) < Xz := by rw [← hXz]; exact Int.lt_irrefl _
      clear hXz
      go_wp2
      go_ret2
      refine ⟨_, rfl, ?_, HL.out.trans (HB.out.mono HL.out.size)⟩
      have h := HO.out.lst
      rw [← HX.out, lstTo_all] at h
      exact h
theorem ref_unweave_any (n k b d : Int) (v : Value) (bs : List UInt8) (o : Option Nat) (w : World) (hv : IsRow w w.heap.size o v bs) (hlen : bs.length ≤ 1000000) :
    Calls Try.prog 29 #[C3 n k b, .int .i64 d, v] w fun e w' => ∃ v', e = .returned (.tuple #[v', .int .i64 (uErr n k b d bs.length)]) ∧ IsLst w' w'.heap.size v' (uRows n k b d bs) ∧ Below w.heap.size w w' := by
  obtain ⟨A, c, rfl, hc, hm, hr, _⟩ := hv
  unfold uErr uRows
  by_cases hok : loomOk n k b d = true
  · obtain ⟨k1, kn, nn, b0, b1, d1, d2⟩ := loomOk_bounds hok
    by_cases hs : (bs.length : Int) % (n * d) = 0
    · rw [if_pos hok, if_pos hs, if_pos ⟨hok, hs⟩]
      have hn : n = (n.toNat : Int) := by omega
      have hd : d = (d.toNat : Int) := by omega
      have hdm : ((n.toNat * d.toNat : Nat) : Int) ∣ (bs.length : Int) := by rw [Int.natCast_mul, ← hn, ← hd]; exact Int.dvd_of_emod_eq_zero hs
      obtain ⟨M, hM⟩ := Int.natCast_dvd_natCast.1 hdm
      have hpos : 0 < n.toNat * d.toNat := Nat.mul_pos (by omega) (by omega)
      have hq : bs.length / (n.toNat * d.toNat) = M := by rw [hM, Nat.mul_div_cancel_left _ hpos]
      rw [hq]
      exact ref_unweave_yes n k b d n.toNat d.toNat M hn hd A bs c w hok hc hlen (by rw [hM, Nat.mul_comm]) hr
    · rw [if_pos hok, if_neg hs, if_neg (fun h => hs h.2)]
      exact (ref_unweave_short n k b d A bs.length c w hok hs).mono fun e w' ⟨h1, h2⟩ => ⟨_, h1, IsLst.nil _ _, h2⟩
  · rw [if_neg hok, if_neg (fun h => hok h.1)]
    exact (ref_unweave_no n k b d A bs.length c w (by cases h : loomOk n k b d <;> simp_all)).mono fun e w' ⟨h1, h2⟩ => ⟨_, h1, IsLst.nil _ _, h2⟩
end Go.Proofs.Ytkjaonlelkfhaaa

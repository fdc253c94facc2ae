/- The walk of erratumref21.Weave: blocks that are woven, by definition. -/
import Derived.Test.YtkjaonlelkfhaaaWeaveL
namespace Go.Proofs.Ytkjaonlelkfhaaa
open Go.RowKit Gf Bt

section
variable {ops : Array Oper} {rest : List Oper} {o : Oper} {a : Act} {w : World} {Q : Exit → Act → World → Prop}
/-- A byte is appended to a slice of the call's own. -/
theorem ap_byte {y : UInt8} (hgd : o.guard = none) (s x : Operand) (ho : o.op = .call { callee := .builtin .append, args := #[s, x], argTypes := #[22, 22] }) (base : Nat)
    (v : Value) (n : Nat) (ks : List Value) (hs : a.eval s = v) (hown : w.ownsRow base 5 1 v n ks)
    (hx : a.eval x = .slice (some ⟨w.heap.size, 0, none⟩) 1 1) (hlen : n + 1 ≤ 1000000000) (hbase : base ≤ w.heap.size)
    (h : ∀ v' w', w'.ownsRow base 5 1 v' (n + 1) (ks ++ [B8 y]) → Below base w w' → wpList Try.prog ops Q rest (a.put o.dst v') w') : wpList Try.prog ops Q (o :: rest) a (w.alloc (.cells #[.int .u8 y.toNat] 5)) := by
  have hblk := Blk.new w 5 [B8 y]
  refine ap_row (oo := none) (B := w.heap.size + 1) hgd s x ho base v n ks hs (own_below hown ((Below.refl _ w).alloc (Nat.le_refl _) _)) [y] hx ?_ hlen (by simp; omega) (fun v' w' h1 h2 => h v' w' h1 (((Below.refl _ w).alloc hbase _).trans h2))
  exact IsRow.of_blk (bs := [y]) (c := 1) hblk (by omega) (by simp) (by simp) (by simp [maxLen])
end
theorem spot_nat' {N K D a : Nat} {B : Int} (hok : loomOk N K B D = true) (ha : a ≤ 100000000) :
    spotX N K B D a = xOf N D a ∧ spotI N K B D a = ((a % (N * D) / D : Nat) : Int) ∧ a % (N * D) / D < N := by
  obtain ⟨k1, kn, nn, b0, b1, d1, d2⟩ := loomOk_bounds hok
  obtain ⟨B', rfl⟩ : ∃ B' : Nat, B = B' := ⟨B.toNat, by omega⟩
  exact spot_nat (by omega) (by omega) (by omega) (by omega) (by omega) (by omega) ha
theorem ref_weave_no (n k b d : Int) (A : Option Addr) (len cap : Nat) (w : World) (hno : loomOk n k b d = false) :
    Calls Try.prog 28 #[C3 n k b, .int .i64 d, .slice A len cap] w fun e w' => e = .returned (.tuple #[.slice none 0 0, .int .i64 10]) ∧ Below w.heap.size w w' := by
  go_enter Try.func28, Try.ntmps28
  go_wp2_with (go_at_call 35; refine (ref21right n k b d _).mono ?_; rintro e w1 ⟨rfl, hb1⟩; rw [hno]; have HL := bx (((Below.refl _ _).alloc (Nat.le_refl _) _ : Below w.heap.size w (w.alloc (Obj.cells #[.int .i64 n, .int .i64 k, .int .i64 b] 24))).trans (hb1.mono (by simp))); clear hb1)
  go_ret2
  exact ⟨rfl, HL.out⟩
theorem ref_weave_odd (n k b d : Int) (A : Option Addr) (len cap : Nat) (w : World) (hok : loomOk n k b d = true) (hodd : ¬ (len : Int) % d = 0) :
    Calls Try.prog 28 #[C3 n k b, .int .i64 d, .slice A len cap] w fun e w' => e = .returned (.tuple #[.slice none 0 0, .int .i64 12]) ∧ Below w.heap.size w w' := by
  obtain ⟨k1, kn, nn, b0, b1, d1, d2⟩ := loomOk_bounds hok
  have hd0 : ¬ d = 0 := by omega
  go_enter Try.func28, Try.ntmps28
  go_wp2_with (go_at_call 35; refine (ref21right n k b d _).mono ?_; rintro e w1 ⟨rfl, hb1⟩; rw [hok]; have HL := bx (((Below.refl _ _).alloc (Nat.le_refl _) _ : Below w.heap.size w (w.alloc (Obj.cells #[.int .i64 n, .int .i64 k, .int .i64 b] 24))).trans (hb1.mono (by simp))); clear hb1)
  go_ret2
  exact ⟨rfl, HL.out⟩
set_option maxRecDepth 100000 in
set_option maxHeartbeats 4000000 in
theorem ref_weave_bad (k b : Int) (N D : Nat) (v : Value) (xs : List (List UInt8)) (w : World) (hok : loomOk N k b D = true) (hx : IsLst w w.heap.size v xs) (hm : xs.length ≤ 9223372036854775807) (hmod : (xs.length : Int) % (D : Int) = 0) (hbad : ¬ ∀ x ∈ xs, x.length = N) :
    Calls Try.prog 28 #[C3 N k b, .int .i64 D, v] w fun e w' => e = .returned (.tuple #[.slice none 0 0, .int .i64 12]) ∧ Below w.heap.size w w' := by
  obtain ⟨k1, kn, nn, b0, b1, d1, d2⟩ := loomOk_bounds hok
  have hd0 : ¬ (D : Int) = 0 := by omega
  have HX := bx hx
  obtain ⟨A, c, rfl, hc, hc2⟩ := hx.form
  have HBAD := bx hbad
  clear hx hbad
  go_enter Try.func28, Try.ntmps28
  go_upto_region 5 with (go_at_call 35; refine (ref21right N k b D _).mono ?_; rintro e w1 ⟨rfl, hb1⟩; rw [hok]; have HC1 := bx (Blk.below (Blk.new w 24 [.int .i64 N, .int .i64 k, .int .i64 b]) hb1 (by simp)); have HL := bx (((Below.refl _ _).alloc (Nat.le_refl _) _ : Below w.heap.size w (w.alloc (Obj.cells #[.int .i64 N, .int .i64 k, .int .i64 b] 24))).trans (hb1.mono (by simp))); clear hb1)
  have hg1 : w.heap.size < w1.heap.size := HC1.out.lt
  go_wp2
  clear hmod
  go_loopw [8] (fun i wr => ∃ j : Nat, j ≤ xs.length ∧ i = .int .i64 j ∧ (∀ x ∈ xs.take j, x.length = N) ∧ Below w1.heap.size w1 wr) (fun i _ => xs.length - (intOf i).toNat)
  case atStart => exact ⟨0, Nat.zero_le _, rfl, by simp, Below.refl _ _⟩
  case round =>
    obtain ⟨j, hj, rfl, hall, hbr⟩ := hrel
    have HB := bx hbr
    have HALL := bx hall
    have cn : wr.cell? ⟨w.heap.size, 0, none⟩ = some (.int .i64 N) := (HC1.out.below hbr hg1).cell rfl
    clear hall hbr
    have hj0 : (0 : Int) ≤ (j : Int) := Int.natCast_nonneg _
    by_cases hlt : j < xs.length
    · have hltz : (j : Int) < (xs.length : Int) := Int.ofNat_lt.2 hlt
      obtain ⟨x, hx⟩ : ∃ x, xs[j]? = some x := ⟨_, List.getElem?_eq_getElem hlt⟩
      obtain ⟨adv, Xr, cr, rfl, habv, hcv, r1, r2, r3⟩ := HX.out.get hx
      have hcw : wr.cell? (adv.add j) = some (.slice Xr x.length cr) := by
        rw [HB.out.cell (by rw [block_of_add]; omega), HL.out.cell (by rw [block_of_add]; exact habv)]; exact hcv
      have HXJ := bx hx
      clear hx r1 r2 r3 hcv
      by_cases hxN : x.length = N
      · have hxz : (x.length : Int) = (N : Int) := by rw [hxN]
        have HXN := bx hxN
        clear hxN
        go_wp2
        go_region
        go_wp2
        go_roundw
        case rel =>
          refine ⟨j + 1, hlt, by go_num, fun y hy => ?_, by first | exact HB.out | exact HB.out.drew⟩
          rw [List.take_add_one, HXJ.out] at hy
          rcases List.mem_append.1 hy with h | h
          · exact HALL.out y h
          · simp at h; subst h; exact HXN.out
        case measure => simp [intOf]; omega
      · have hxz : ¬ (x.length : Int) = (N : Int) := fun h => hxN (Int.ofNat_inj.1 h)
        clear hxN
        go_wp2
        go_region
        go_wp2
        go_ret2
        exact ⟨rfl, HL.out.trans ((by first | exact HB.out | exact HB.out.drew : Below w1.heap.size w1 _).mono HL.out.size)⟩
    · obtain rfl : j = xs.length := Nat.le_antisymm hj (Nat.not_lt.1 hlt)
      exact absurd (by have h := HALL.out; rwa [List.take_length] at h) HBAD.out
set_option maxRecDepth 100000 in
set_option maxHeartbeats 4000000 in
theorem ref_weave_yes (b : Int) (N K D M : Nat) (v : Value) (xs : List (List UInt8)) (w : World) (hok : loomOk N K b D = true) (hx : IsLst w w.heap.size v xs) (hm : xs.length ≤ 100000) (hM : xs.length = M * D) (hall : ∀ x ∈ xs, x.length = N) :
    Calls Try.prog 28 #[C3 N K b, .int .i64 D, v] w fun e w' => ∃ v', e = .returned (.tuple #[v', .int .i64 0]) ∧ IsRow w' w'.heap.size none v' (weaveL N D xs) ∧ Below w.heap.size w w' := by
  obtain ⟨k1, kn, nn, b0, b1, d1, d2⟩ := loomOk_bounds hok
  have hd0 : ¬ (D : Int) = 0 := by omega
  have hN0 : 0 < N := by omega
  have hD0 : 0 < D := by omega
  have hN5 : N ≤ 255 := by omega
  have hmod : (xs.length : Int) % (D : Int) = 0 := by rw [hM, ← Int.natCast_emod, Nat.mul_mod_left]; rfl
  have HX := bx hx
  obtain ⟨A, c, rfl, hc, hc2⟩ := hx.form
  have HALL := bx hall
  have HM := bx hM
  obtain ⟨T, hT⟩ : ∃ T, xs.length * N = T := ⟨_, rfl⟩
  have hT2 : T ≤ 25500000 := by rw [← hT]; exact Nat.le_trans (Nat.mul_le_mul hm hN5) (by decide)
  have hTw : wrap64 ((xs.length : Int) * (N : Int)) = (T : Int) := by rw [← Int.natCast_mul, hT]; exact w64 (Nat.le_trans hT2 (by decide))
  have HAT := bx (fun (a : Nat) (ha : a < T) => weave_at (M := M) (xs := xs) hD0 hN0 hM (show a < xs.length * N by rw [hT]; exact ha))
  have hTL : (weaveL N D xs).length = T := by rw [weaveL_length, hT]
  obtain ⟨tt, htt⟩ : ∃ tt, weaveL N D xs = tt := ⟨_, rfl⟩
  rw [htt] at HAT hTL
  have HTL := bx hTL
  have HWT := bx htt
  clear hx hall hM hT hTL htt
  go_enter Try.func28, Try.ntmps28
  go_upto_region 5 with (go_at_call 35; refine (ref21right N K b D _).mono ?_; rintro e w1 ⟨rfl, hb1⟩; rw [hok]; have HC1 := bx (Blk.below (Blk.new w 24 [.int .i64 N, .int .i64 K, .int .i64 b]) hb1 (by simp)); have HL := bx (((Below.refl _ _).alloc (Nat.le_refl _) _ : Below w.heap.size w (w.alloc (Obj.cells #[.int .i64 N, .int .i64 K, .int .i64 b] 24))).trans (hb1.mono (by simp))); clear hb1)
  have hg1 : w.heap.size < w1.heap.size := HC1.out.lt
  go_wp2
  clear hmod
  go_loopw [8] (fun i wr => ∃ j : Nat, j ≤ xs.length ∧ i = .int .i64 j ∧ Below w1.heap.size w1 wr) (fun i _ => xs.length - (intOf i).toNat)
  case atStart => exact ⟨0, Nat.zero_le _, rfl, Below.refl _ _⟩
  case round =>
    obtain ⟨j, hj, rfl, hbr⟩ := hrel
    have HB := bx hbr
    have cn : wr.cell? ⟨w.heap.size, 0, none⟩ = some (.int .i64 N) := (HC1.out.below hbr hg1).cell rfl
    clear hbr
    have hj0 : (0 : Int) ≤ (j : Int) := Int.natCast_nonneg _
    by_cases hlt : j < xs.length
    · have hltz : (j : Int) < (xs.length : Int) := Int.ofNat_lt.2 hlt
      obtain ⟨x, hx⟩ : ∃ x, xs[j]? = some x := ⟨_, List.getElem?_eq_getElem hlt⟩
      obtain ⟨adv, Xr, cr, rfl, habv, hcv, r1, r2, r3⟩ := HX.out.get hx
      have hcw : wr.cell? (adv.add j) = some (.slice Xr x.length cr) := by
        rw [HB.out.cell (by rw [block_of_add]; omega), HL.out.cell (by rw [block_of_add]; exact habv)]; exact hcv
      have hxN : x.length = N := HALL.out x (List.mem_of_getElem? hx)
      rw [hxN] at hcw
      clear hx r1 r2 r3 hcv hxN
      go_wp2
      go_region
      go_wp2
      go_roundw
      case rel => exact ⟨j + 1, hlt, by go_num, by first | exact HB.out | exact HB.out.drew⟩
      case measure => simp [intOf]; omega
    · obtain rfl : j = xs.length := Nat.le_antisymm hj (Nat.not_lt.1 hlt)
      clear cn
      rename World => wo
      go_wp2
      go_loopw [9, 10] (fun v i wq => ∃ a : Nat, a ≤ T ∧ i = .int .i64 a ∧ wq.ownsRow w1.heap.size 5 1 v a ((tt.take a).map B8) ∧ Below w1.heap.size w1 wq) (fun _ i _ => T - (intOf i).toNat)
      case atStart => exact ⟨0, Nat.zero_le _, rfl, own_nil _ _ _, HB.out⟩
      case round =>
        obtain ⟨a, ha, rfl, hown, hbr⟩ := hrel
        have HO := bx hown
        have HBR := bx hbr
        clear hown hbr
        have ha0 : (0 : Int) ≤ (a : Int) := Int.natCast_nonneg _
        have HCr := bx (HC1.out.below HBR.out hg1)
        have k0 : wr.cell? ⟨w.heap.size, 0, none⟩ = some (.int .i64 N) := HCr.out.cell rfl
        have k1' : wr.cell? ⟨w.heap.size, 1, none⟩ = some (.int .i64 K) := HCr.out.cell rfl
        have k2 : wr.cell? ⟨w.heap.size, 2, none⟩ = some (.int .i64 b) := HCr.out.cell rfl
        by_cases hlt : a < T
        · have hltz : (a : Int) < (T : Int) := Int.ofNat_lt.2 hlt
          obtain ⟨hXl, hIN, hya⟩ := HAT.out a hlt
          obtain ⟨s1, s2, s3⟩ := spot_nat' (N := N) (K := K) (B := b) (D := D) (a := a) hok (Nat.le_trans (Nat.le_of_lt hlt) (Nat.le_trans hT2 (by decide)))
          obtain ⟨y, hy⟩ : ∃ y, wv N D xs a = y := ⟨_, rfl⟩
          rw [hy] at hya
          unfold wv at hy
          unfold xOf at s1
          obtain ⟨X, hX⟩ : ∃ X, a / (N * D) * D + a % (N * D) % D = X := ⟨_, rfl⟩
          obtain ⟨I, hI⟩ : ∃ I, a % (N * D) / D = I := ⟨_, rfl⟩
          rw [hX] at s1 hXl hy
          rw [hI] at s2 hIN hy
          obtain ⟨xr, hxr⟩ : ∃ xr, xs[X]? = some xr := ⟨_, List.getElem?_eq_getElem hXl⟩
          have hxrN : xr.length = N := HALL.out xr (List.mem_of_getElem? hxr)
          have hyr : xr[I]? = some y := by
            rw [List.getD_eq_getElem?_getD (l := xs), hxr, Option.getD_some, List.getD_eq_getElem?_getD] at hy
            rw [List.getElem?_eq_getElem (show I < xr.length by rw [hxrN]; exact hIN)] at hy ⊢
            rw [← hy]; rfl
          have HS : Bx (∀ w, Calls Try.prog 30 #[C3 N K b, .int .i64 D, .int .i64 a] w fun e w' => e = .returned (.tuple #[.int .i64 X, .int .i64 I]) ∧ Below w.heap.size w w') := bx fun w => by
            have := ref_spot N K b D (a : Int) w (by omega) (by omega)
            rw [s1, s2] at this
            exact this
          obtain ⟨adv, Xr, cr, rfl, habv, hcv, r1, r2, r3⟩ := HX.out.get hxr
          obtain ⟨adr, rfl, habr, hcr⟩ := r3 (by rw [List.length_map, hxrN]; exact hN0)
          have hcy := hcr I (B8 y) (by rw [List.getElem?_map, hyr]; rfl)
          rw [hxrN] at hcv
          have hX0 : (0 : Int) ≤ (X : Int) := Int.natCast_nonneg _
          have hXz : (X : Int) < (xs.length : Int) := Int.ofNat_lt.2 hXl
          have hI0 : (0 : Int) ≤ (I : Int) := Int.natCast_nonneg _
          have hIz : (I : Int) < (N : Int) := Int.ofNat_lt.2 hIN
          have HALLW := bx (HL.out.trans (HBR.out.mono HL.out.size))
          have HCV := bx hcv
          have HCY := bx hcy
          have HYA := bx hya
          clear hcv hcy hcr hya hy hX hI hxr hxrN hyr s1 s2 s3 r1 r2 r3
          go_upto_region 15 with (go_at_call 30; refine (HS.out _).mono ?_; rintro e w5 ⟨rfl, hb5⟩; have HB5 := bx hb5; clear hb5)
          have z4 : w5.cell? (adv.add X) = some (.slice (some adr) N cr) := by
            rw [HB5.out.cell (by rw [block_of_add]; exact Nat.lt_of_lt_of_le habv HALLW.out.size), HALLW.out.cell (by rw [block_of_add]; exact habv)]; exact HCV.out
          have z5 : w5.cell? (adr.add I) = some (.int .u8 y.toNat) := by
            rw [HB5.out.cell (by rw [block_of_add]; exact Nat.lt_of_lt_of_le habr HALLW.out.size), HALLW.out.cell (by rw [block_of_add]; exact habr)]; exact HCY.out
          have HO5 := bx (own_below HO.out HB5.out)
          have hs5 := HB5.out.size
          have hsr := HBR.out.size
          clear k0 k1' k2
          go_wp2_with (refine ap_byte rfl _ _ rfl w1.heap.size _ _ _ rfl HO5.out rfl (by omega) (by omega) ?_; intro v7 w9 hown9 hb9; have HO9 := bx hown9; have HB9 := bx (HBR.out.trans ((HB5.out.mono HBR.out.size).trans hb9)); clear hown9 hb9)
          go_roundw
          case rel =>
            refine ⟨a + 1, hlt, by go_num, ?_, HB9.out⟩
            have := HO9.out
            rw [List.take_add_one, HYA.out, List.map_append]
            exact this
          case measure => simp [intOf]; omega
        · obtain rfl : a = T := Nat.le_antisymm ha (Nat.not_lt.1 hlt)
          go_wp2
          go_ret2
          refine ⟨_, rfl, ?_, HL.out.trans (HBR.out.mono HL.out.size)⟩
          have h := HO.out
          rw [show tt.take a = tt by rw [← HTL.out]; exact List.take_length] at h
          rw [HWT.out]
          exact own_row h
/-- Blocks of which one is longer than any code's. -/
def Giant (xs : List (List UInt8)) : Prop := ∃ x ∈ xs, 255 < x.length
theorem IsLst.len {w : World} {B : Nat} {v : Value} {xs : List (List UInt8)} (h : IsLst w B v xs) : xs.length ≤ 9223372036854775807 := by
  obtain ⟨A, c, _, h1, h2⟩ := h.form
  exact Nat.le_trans h1 (by simpa [maxLen] using h2)
theorem ref_weave_any (n k b d : Int) (v : Value) (xs : List (List UInt8)) (w : World) (hx : IsLst w w.heap.size v xs) (hm : xs.length ≤ 100000 ∨ Giant xs) :
    Calls Try.prog 28 #[C3 n k b, .int .i64 d, v] w fun e w' => ∃ v', e = .returned (.tuple #[v', .int .i64 (wErr n k b d xs)]) ∧ IsRow w' w'.heap.size none v' (wRow n k b d xs) ∧ Below w.heap.size w w' := by
  have hlen := hx.len
  obtain ⟨A, c, rfl, hc, hc2⟩ := hx.form
  unfold wErr wRow
  by_cases hok : loomOk n k b d = true
  · obtain ⟨k1, kn, nn, b0, b1, d1, d2⟩ := loomOk_bounds hok
    obtain ⟨N, rfl⟩ : ∃ N : Nat, n = N := ⟨n.toNat, by omega⟩
    obtain ⟨K, rfl⟩ : ∃ K : Nat, k = K := ⟨k.toNat, by omega⟩
    obtain ⟨D, rfl⟩ : ∃ D : Nat, d = D := ⟨d.toNat, by omega⟩
    rw [if_pos hok]
    by_cases hs : (xs.length : Int) % (D : Int) = 0
    · by_cases hall : ∀ x ∈ xs, x.length = N
      · have hall' : ∀ x ∈ xs, (x.length : Int) = (N : Int) := fun x hx => by rw [hall x hx]
        have hm' : xs.length ≤ 100000 := by
          rcases hm with h | ⟨x, hx, h⟩
          · exact h
          · have := hall x hx; omega
        rw [if_pos ⟨hs, hall'⟩, if_pos ⟨hok, hs, hall'⟩]
        obtain ⟨M, hM⟩ := Int.natCast_dvd_natCast.1 (Int.dvd_of_emod_eq_zero hs)
        exact ref_weave_yes b N K D M _ xs w hok hx hm' (by rw [hM, Nat.mul_comm]) hall
      · have hall' : ¬ ∀ x ∈ xs, (x.length : Int) = (N : Int) := fun h => hall fun x hx => Int.ofNat_inj.1 (h x hx)
        rw [if_neg (fun h => hall' h.2), if_neg (fun h => hall' h.2.2)]
        exact (ref_weave_bad K b N D _ xs w hok hx hlen hs hall).mono fun e w' ⟨h1, h2⟩ => ⟨_, h1, isRow_nil _ _ _, h2⟩
    · rw [if_neg (fun h => hs h.1), if_neg (fun h => hs h.2.1)]
      exact (ref_weave_odd N K b D A xs.length c w hok hs).mono fun e w' ⟨h1, h2⟩ => ⟨_, h1, isRow_nil _ _ _, h2⟩
  · rw [if_neg hok, if_neg (fun h => hok h.1)]
    exact (ref_weave_no n k b d A xs.length c w (by cases h : loomOk n k b d <;> simp_all)).mono fun e w' ⟨h1, h2⟩ => ⟨_, h1, isRow_nil _ _ _, h2⟩
theorem weave_short' (n k b d : Int) (v : Value) (xs : List (List UInt8)) (w : World) (hok : loomOk n k b d = true) (hx : IsLst w w.heap.size v xs) (hm : xs.length ≤ 9223372036854775807) (hbad : ¬ ((xs.length : Int) % d = 0 ∧ ∀ x ∈ xs, (x.length : Int) = n)) :
    Calls Try.prog 12 #[C3 n k b, .int .i64 d, v] w fun e w' => e = .returned (.tuple #[.slice none 0 0, .int .u16 12]) ∧ Below w.heap.size w w' := by
  obtain ⟨A, c, rfl, hc, hc2⟩ := hx.form
  obtain ⟨k1, kn, nn, b0, b1, d1, d2⟩ := loomOk_bounds hok
  have HX := bx hx
  clear hx
  have hd0 : ¬ d = 0 := by omega
  have hl0 : (0 : Int) ≤ (xs.length : Int) := Int.natCast_nonneg _
  by_cases hd : (xs.length : Int) % d = 0
  · have hany : (xs.any fun x => decide ((x.length : Int) ≠ n)) = true := by
      cases h : (xs.any fun x => decide ((x.length : Int) ≠ n)) with
      | true => rfl
      | false =>
        refine absurd ⟨hd, fun x hx => ?_⟩ hbad
        have := List.any_eq_false.1 h x hx
        simpa using this
    clear hbad
    go_enter Try.func12, Try.ntmps12
    go_wp2_with (first
      | (go_at_call 21; refine (loom_right n k b d _).mono ?_; rintro e w1 ⟨rfl, hb1⟩; rw [hok]; have HL := bx ((((Below.refl _ _).alloc (Nat.le_refl _) _).alloc (by simp) _ : Below w.heap.size w ((w.alloc (Obj.cells #[.int .i64 n, .int .i64 k, .int .i64 b] 24)).alloc (Obj.cells #[.int .i64 n, .int .i64 k, .int .i64 b, .int .i64 d] 50))).trans (hb1.mono (by simp; omega))); have HB := bx (Blk.below (blk_new1 w (Obj.cells #[.int .i64 n, .int .i64 k, .int .i64 b] 24) 50 [.int .i64 n, .int .i64 k, .int .i64 b, .int .i64 d]) hb1 (by simp)); clear hb1)
      | (go_at_call 23; refine (containsfunc_any n k b d _ _ xs _ HB.out ((HX.out.below HL.out).more HL.out.size) (by omega)).mono ?_; rintro e w2 ⟨rfl, hb2⟩; rw [hany]; have HL2 := bx (HL.out.trans (hb2.mono HL.out.size)); clear hb2))
    go_ret2
    exact ⟨rfl, HL2.out⟩
  · go_enter Try.func12, Try.ntmps12
    clear hbad
    go_wp2_with (go_at_call 21; refine (loom_right n k b d _).mono ?_; rintro e w1 ⟨rfl, hb1⟩; rw [hok]; have HL := bx ((((Below.refl _ _).alloc (Nat.le_refl _) _).alloc (by simp) _ : Below w.heap.size w ((w.alloc (Obj.cells #[.int .i64 n, .int .i64 k, .int .i64 b] 24)).alloc (Obj.cells #[.int .i64 n, .int .i64 k, .int .i64 b, .int .i64 d] 50))).trans (hb1.mono (by simp; omega))); have HB := bx (Blk.below (blk_new1 w (Obj.cells #[.int .i64 n, .int .i64 k, .int .i64 b] 24) 50 [.int .i64 n, .int .i64 k, .int .i64 b, .int .i64 d]) hb1 (by simp)); clear hb1)
    go_ret2
    exact ⟨rfl, HL.out⟩
theorem weave_any' (n k b d : Int) (v : Value) (xs : List (List UInt8)) (w : World) (hx : IsLst w w.heap.size v xs) (hm : xs.length ≤ 100000 ∨ Giant xs) :
    Calls Try.prog 12 #[C3 n k b, .int .i64 d, v] w fun e w' => ∃ v', e = .returned (.tuple #[v', .int .u16 (wErr n k b d xs)]) ∧ IsRow w' w'.heap.size none v' (wRow n k b d xs) ∧ Below w.heap.size w w' := by
  rcases hm with hm | ⟨x, hxm, hx255⟩
  · exact weave_any n k b d v xs w hx (Nat.le_trans hm (by decide))
  · unfold wErr wRow
    by_cases hok : loomOk n k b d = true
    · obtain ⟨k1, kn, nn, b0, b1, d1, d2⟩ := loomOk_bounds hok
      have hs : ¬ ((xs.length : Int) % d = 0 ∧ ∀ x ∈ xs, (x.length : Int) = n) := fun h => by have := h.2 x hxm; omega
      rw [if_pos hok, if_neg hs, if_neg (fun h => hs h.2)]
      exact (weave_short' n k b d v xs w hok hx hx.len hs).mono fun e w' ⟨h1, h2⟩ => ⟨_, h1, isRow_nil _ _ _, h2⟩
    · rw [if_neg hok, if_neg (fun h => hok h.1)]
      exact (weave_no n k b d v xs w (by cases h : loomOk n k b d <;> simp_all)).mono fun e w' ⟨h1, h2⟩ => ⟨_, h1, isRow_nil _ _ _, h2⟩
end Go.Proofs.Ytkjaonlelkfhaaa

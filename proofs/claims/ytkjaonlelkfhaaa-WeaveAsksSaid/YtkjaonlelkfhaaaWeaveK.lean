/- The walks of layer 21, eleven: the law WeaveOne. -/
import Derived.Test.YtkjaonlelkfhaaaWeaveJ
import Derived.Test.YtkjaonlelkfhaaaLst2
namespace Go.Proofs.Ytkjaonlelkfhaaa
open Go.RowKit Gf Bt

theorem u8_mod (n : UInt8) (m : Nat) (hm : m < 256) : (((n % UInt8.ofNat m).toNat : Nat) : Int) = (n.toNat : Int) % (m : Int) := by
  rw [UInt8.toNat_mod, UInt8.toNat_ofNat', Nat.mod_eq_of_lt (show m < 2 ^ 8 by omega)]; simp
theorem w64 {a : Nat} (h : a ≤ 1000000000) : wrap64 (a : Int) = (a : Int) := by unfold wrap64; omega
theorem IsLst.take {w : World} {B : Nat} {A : Option Addr} {c : Nat} {xs : List (List UInt8)} (h : IsLst w B (.slice A xs.length c) xs) (m : Nat) (hm : m ≤ xs.length) : IsLst w B (.slice A m c) (xs.take m) := by
  obtain ⟨A0, c0, vs, e, h1, h2, h3, h4, h5⟩ := h
  cases e
  have hl : (xs.take m).length = m := by rw [List.length_take]; omega
  refine ⟨A, c, vs.take m, by rw [hl], by omega, h2, by rw [List.length_take, hl]; omega, h4.take m, fun j x hj => ?_⟩
  rw [List.getElem?_take] at hj
  split at hj
  · rename_i hlt
    obtain ⟨u, hu, hr⟩ := h5 j x hj
    exact ⟨u, by rw [List.getElem?_take, if_pos hlt]; exact hu, hr⟩
  · cases hj
theorem IsLst.drop {w : World} {B : Nat} {A : Option Addr} {c : Nat} {xs : List (List UInt8)} (h : IsLst w B (.slice A xs.length c) xs) (m : Nat) : IsLst w B (.slice (if c = m then A else A.map (·.add m)) (xs.length - m) (c - m)) (xs.drop m) := by
  obtain ⟨A0, c0, vs, e, h1, h2, h3, h4, h5⟩ := h
  cases e
  refine ⟨_, _, vs.drop m, by rw [List.length_drop], by rw [List.length_drop]; omega, by omega, by rw [List.length_drop, List.length_drop, h3], h4.cut (by omega), fun j x hj => ?_⟩
  rw [List.getElem?_drop] at hj
  obtain ⟨u, hu, hr⟩ := h5 _ x hj
  exact ⟨u, by rw [List.getElem?_drop]; exact hu, hr⟩
/-- What Weave tells of blocks that may be woven. -/
theorem wErr_ok {N K B D M : Nat} {xs : List (List UInt8)} (hK : 1 ≤ K) (hKN : K < N) (hN : N ≤ 255) (hB : B < 255) (hD : 1 ≤ D) (hD2 : D ≤ 255) (hM : xs.length = M * D) (hl : ∀ x ∈ xs, x.length = N) :
    wErr N K B D xs = 0 ∧ wRow N K B D xs = weaveL N D xs := by
  have hok : loomOk N K B D = true := by
    unfold loomOk codeOk
    rw [decide_eq_false (show ¬ (K : Int) < 1 by omega), decide_eq_false (show ¬ (N : Int) ≤ K by omega), decide_eq_false (show ¬ (255 : Int) < N by omega), decide_eq_false (show ¬ (B : Int) < 0 by omega), decide_eq_false (show ¬ (255 : Int) ≤ B by omega), decide_eq_true (show (1 : Int) ≤ D by omega), decide_eq_true (show (D : Int) ≤ 255 by omega)]
    rfl
  have hm : (xs.length : Int) % (D : Int) = 0 := by rw [hM]; simp
  have hl' : ∀ x ∈ xs, (x.length : Int) = (N : Int) := fun x hx => by rw [hl x hx]
  unfold wErr wRow
  rw [if_pos hok, if_pos ⟨hm, hl'⟩, if_pos ⟨hok, hm, hl'⟩]
  exact ⟨rfl, by simp⟩
theorem lawcode31 (n k b : UInt8) : ∃ N K B : Nat, 2 ≤ N ∧ N ≤ 22 ∧ 1 ≤ K ∧ K < N ∧ B < 255 ∧ ∀ w, Calls Try.prog 9 #[.int .u8 ((n.toNat : Int) % 31), B8 k, B8 b] w fun e w' => e = .returned (C3 N K B) ∧ Below w.heap.size w w' := by
  obtain ⟨N, K, B, h1, h2, h3, h4, h5, h⟩ := lawcode (n % UInt8.ofNat 31) k b (by have := u8_mod n 31 (by decide); have := n.toNat_lt; omega)
  refine ⟨N, K, B, h1, h2, h3, h4, h5, fun w => ?_⟩
  have := h w
  unfold B8 at this
  rw [u8_mod n 31 (by decide)] at this
  exact this
theorem depth200 (e : UInt8) : ∃ d : Nat, 1 ≤ d ∧ d ≤ 66 ∧ ∀ w, Calls Try.prog 10 #[.int .u8 ((e.toNat : Int) % 200)] w fun r w' => r = .returned (.int .i64 (d : Int)) ∧ w' = w := by
  obtain ⟨d, h1, h2, h⟩ := depth_any (e % UInt8.ofNat 200)
  refine ⟨d, h1, h2, fun w => ?_⟩
  have := h w
  unfold B8 at this
  rw [u8_mod e 200 (by decide)] at this
  exact this

set_option maxRecDepth 100000 in
set_option maxHeartbeats 4000000 in
theorem law_one (n k b e : UInt8) (A : Option Addr) (bs : List UInt8) (cap : Nat) (many at_ : UInt8) (w : World) (hRd : Rd w w.heap.size A (bs.map B8)) (hcap : bs.length ≤ cap) (hmax : cap ≤ maxLen) :
    Calls Try.prog 3 #[B8 n, B8 k, B8 b, B8 e, .slice A bs.length cap, B8 many, B8 at_] w fun r w' => r = .returned (.bool true) ∧ Below w.heap.size w w' := by
  have hbl : bs.length ≤ 9223372036854775807 := by simp only [maxLen] at hmax; omega
  obtain ⟨N, K, B, hN2, hN22, hK1, hKN, hB, hcode⟩ := lawcode31 n k b
  obtain ⟨D, hD1, hD66, hdepth⟩ := depth200 e
  have HCODE := bx hcode
  have HDEPTH := bx hdepth
  clear hcode hdepth
  obtain ⟨q, hq⟩ : ∃ q, many.toNat % 4 = q := ⟨_, rfl⟩
  have hq4 : q < 4 := by omega
  have hqz : (many.toNat : Int) % 4 = (q : Int) := by omega
  obtain ⟨L, hL⟩ : ∃ L, D * q = L := ⟨_, rfl⟩
  have hL2 : L ≤ 198 := by rw [← hL]; exact Nat.le_trans (Nat.mul_le_mul hD66 (show q ≤ 3 by omega)) (by omega)
  have hLz : wrap64 ((D : Int) * (q : Int)) = (L : Int) := by rw [← Int.natCast_mul, hL]; exact w64 (by omega)
  have hL5 : L ≤ 100000 := Nat.le_trans hL2 (by decide)
  have hN5 : N ≤ 255 := Nat.le_trans hN22 (by decide)
  obtain ⟨x', hx'⟩ : ∃ x, at_.toNat % (q + 1) = x := ⟨_, rfl⟩
  have hx'q : x' ≤ q := by have := Nat.mod_lt at_.toNat (show 0 < q + 1 by omega); omega
  obtain ⟨X, hX⟩ : ∃ X, D * x' = X := ⟨_, rfl⟩
  have hXL : X ≤ L := by rw [← hX, ← hL]; exact Nat.mul_le_mul_left _ hx'q
  have hx'z : (at_.toNat : Int) % ((q : Int) + 1) = (x' : Int) := by rw [← hx']; simp
  have hXz : wrap64 ((D : Int) * (x' : Int)) = (X : Int) := by rw [← Int.natCast_mul, hX]; exact w64 (Nat.le_trans hXL (Nat.le_trans hL2 (by decide)))
  have HXZ := bx hx'z
  have HL := bx hL
  have HX := bx hX
  clear hL hX hq hx' hx'z
  clear hmax
  go_enter Try.func3, Try.ntmps3
  go_upto_region 3 with (first
    | (go_at_call 9; refine (HCODE.out _).mono ?_; rintro e w1 ⟨rfl, hb1⟩; have HB1 := bx hb1; clear hb1)
    | (go_at_call 10; refine (HDEPTH.out _).mono ?_; rintro e _ ⟨rfl, rfl⟩))
  have hc0 := Blk.new w1 24 [.int .i64 N, .int .i64 K, .int .i64 B]
  have hb0 := HB1.out.alloc HB1.out.size (Obj.cells #[.int .i64 N, .int .i64 K, .int .i64 B] 24)
  have hs1 := HB1.out.size
  have hg := hc0.lt
  obtain ⟨wa, hwa⟩ : ∃ wa, w1.alloc (Obj.cells #[.int .i64 N, .int .i64 K, .int .i64 B] 24) = wa := ⟨_, rfl⟩
  have hwa' : w1.alloc (Obj.cells [.int .i64 N, .int .i64 K, .int .i64 B].toArray 24) = wa := hwa
  rw [hwa'] at hc0 hg
  rw [hwa] at hb0 ⊢
  obtain ⟨g, hgg⟩ : ∃ g, w1.heap.size = g := ⟨_, rfl⟩
  rw [hgg] at hc0 hs1 hg ⊢
  have HC := bx hc0
  have HB := bx hb0
  clear hwa hwa' hgg HB1 hb0 w1
  have c0 : wa.cell? ⟨g, 0, none⟩ = some (.int .i64 N) := hc0.cell rfl
  have c1 : wa.cell? ⟨g, 1, none⟩ = some (.int .i64 K) := hc0.cell rfl
  have c2 : wa.cell? ⟨g, 2, none⟩ = some (.int .i64 B) := hc0.cell rfl
  clear hc0
  go_wp2_with fail
  refine (words_any N K B A bs cap L wa ((hRd.below HB.out).more HB.out.size) hcap hbl hN5 hL5).mono ?_
  rintro e w2 ⟨v, rfl, hv, hb2⟩
  have hrow : ∀ x ∈ wordsL N bs L, x.length = N := fun x hx => by
    unfold wordsL at hx
    obtain ⟨j, _, rfl⟩ := List.mem_map.1 hx
    exact wordL_length _ _ _
  have hlen := wordsL_length N bs L
  obtain ⟨xs, hxs⟩ : ∃ xs, wordsL N bs L = xs := ⟨_, rfl⟩
  rw [hxs] at hrow hlen hv
  clear hxs
  obtain ⟨Av, cv, rfl, hcv, hcv2⟩ := hv.form
  have hc2 := HC.out.below hb2 hg
  have c0 : w2.cell? ⟨g, 0, none⟩ = some (.int .i64 N) := hc2.cell rfl
  have c1 : w2.cell? ⟨g, 1, none⟩ = some (.int .i64 K) := hc2.cell rfl
  have c2 : w2.cell? ⟨g, 2, none⟩ = some (.int .i64 B) := hc2.cell rfl
  have HLEN := bx hlen
  have HROW := bx hrow
  have HB := bx (HB.out.trans (hb2.mono HB.out.size))
  have HG := bx (Nat.lt_of_lt_of_le hg hb2.size)
  have HC := bx hc2
  have HV := bx hv
  have hq0 : (0 : Int) ≤ (q : Int) := Int.natCast_nonneg _
  have hq1 : ¬ (q : Int) + 1 = 0 := by omega
  have hx'z := HXZ.out
  have hat0 : (0 : Int) ≤ (at_.toNat : Int) := Int.natCast_nonneg _
  have hat1 : (at_.toNat : Int) < 256 := Int.ofNat_lt.2 at_.toNat_lt
  have HE := bx (wErr_ok (M := q) hK1 hKN hN5 hB hD1 (show D ≤ 255 from Nat.le_trans hD66 (by decide)) (by rw [hlen, ← HL.out, Nat.mul_comm]) hrow)
  have HXS := bx (show xs.length ≤ 1000000 by rw [hlen]; exact Nat.le_trans hL2 (by decide))
  rw [hlen] at hv hcv ⊢
  clear hv hc2 hb2 hlen hrow hg HXZ
  go_upto_region 6 with (go_at_call 12; rw [← HLEN.out]; refine (weave_any N K B D _ xs _ HV.out HXS.out).mono ?_; rintro e w3 ⟨v1, rfl, hr1, hb3⟩; rw [HE.out.1]; have HR1 := bx hr1; have HB3 := bx hb3; clear hr1 hb3)
  have hXlen : X ≤ xs.length := by rw [HLEN.out]; exact hXL
  have hXz0 : (0 : Int) ≤ (X : Int) := Int.natCast_nonneg _
  have hXl1 : (X : Int) ≤ (xs.length : Int) := Int.ofNat_le.2 hXlen
  have hXl2 : (X : Int) ≤ (cv : Int) := Int.ofNat_le.2 (Nat.le_trans hXL hcv)
  have k0 : ∀ w', Below w3.heap.size w3 w' → w'.cell? ⟨g, 0, none⟩ = some (.int .i64 N) := fun w' h => ((HC.out.below HB3.out HG.out).below h (Nat.lt_of_lt_of_le HG.out HB3.out.size)).cell rfl
  have k1 : ∀ w', Below w3.heap.size w3 w' → w'.cell? ⟨g, 1, none⟩ = some (.int .i64 K) := fun w' h => ((HC.out.below HB3.out HG.out).below h (Nat.lt_of_lt_of_le HG.out HB3.out.size)).cell rfl
  have k2 : ∀ w', Below w3.heap.size w3 w' → w'.cell? ⟨g, 2, none⟩ = some (.int .i64 B) := fun w' h => ((HC.out.below HB3.out HG.out).below h (Nat.lt_of_lt_of_le HG.out HB3.out.size)).cell rfl
  have HSc : Hid (Below w3.heap.size w3 w3.drew) := Lib.hid (Below.refl _ _).drew
  have HE2 := bx (wErr_ok (M := x') (xs := xs.take X) hK1 hKN hN5 hB hD1 (show D ≤ 255 from Nat.le_trans hD66 (by decide)) (by rw [List.length_take, Nat.min_eq_left hXlen, ← HX.out, Nat.mul_comm]) (fun x hx => HROW.out x (List.mem_of_mem_take hx)))
  have HXS2 := bx (show (xs.take X).length ≤ 1000000 by rw [List.length_take]; exact Nat.le_trans (Nat.min_le_right _ _) HXS.out)
  have HV2 := bx (show IsLst w3 w3.heap.size (.slice Av X cv) (xs.take X) from ((HV.out.below HB3.out).more HB3.out.size).take X hXlen)
  go_region_held3 (fun w' => Below w3.heap.size w3 w') (first | exact HSc.out | exact HSc.out.trans hb4)
    (first
      | (go_at_call 12; with_reducible refine (weave_any N K B D _ (xs.take X) _ ((HV2.out.below HSc.out).more HSc.out.size) HXS2.out).mono ?_; rintro e w4 ⟨v2, rfl, hr2, hb4'⟩; rw [HE2.out.1]; have hb4 : Below w3.heap.size _ w4 := hb4'.mono HSc.out.size))
  have hS4 := (by assumption : Below w3.heap.size w3 w4)
  have HR2 := bx (show IsRow w4 w4.heap.size none v2 (weaveL N D (xs.take X)) by rw [← HE2.out.2]; exact hr2)
  have HB4 := bx hS4
  clear hr2 hb4 hb4' hS4 HSc k0 k1 k2
  have HC4 := bx ((HC.out.below HB3.out HG.out).below HB4.out (Nat.lt_of_lt_of_le HG.out HB3.out.size))
  have HG4 := bx HC4.out.lt
  have k0 : ∀ w', Below w4.heap.size w4 w' → w'.cell? ⟨g, 0, none⟩ = some (.int .i64 N) := fun w' h => (HC4.out.below h HG4.out).cell rfl
  have k1 : ∀ w', Below w4.heap.size w4 w' → w'.cell? ⟨g, 1, none⟩ = some (.int .i64 K) := fun w' h => (HC4.out.below h HG4.out).cell rfl
  have k2 : ∀ w', Below w4.heap.size w4 w' → w'.cell? ⟨g, 2, none⟩ = some (.int .i64 B) := fun w' h => (HC4.out.below h HG4.out).cell rfl
  have HSc : Hid (Below w4.heap.size w4 w4.drew) := Lib.hid (Below.refl _ _).drew
  have HE3 := bx (wErr_ok (M := q - x') (xs := xs.drop X) hK1 hKN hN5 hB hD1 (show D ≤ 255 from Nat.le_trans hD66 (by decide)) (by rw [List.length_drop, HLEN.out, ← HL.out, ← HX.out, ← Nat.mul_sub, Nat.mul_comm]) (fun x hx => HROW.out x (List.mem_of_mem_drop hx)))
  have HXS3 := bx (show (xs.drop X).length ≤ 1000000 by rw [List.length_drop]; exact Nat.le_trans (Nat.sub_le _ _) HXS.out)
  have HV4 := bx (((HV.out.below HB3.out).more HB3.out.size).below HB4.out)
  have hv3 : IsLst w4 w4.heap.size (.slice (if cv = X then Av else Option.map (fun x => x.add X) Av) (xs.length - X) (cv - X)) (xs.drop X) := (HV4.out.more HB4.out.size).drop X
  obtain ⟨Ad, hAd⟩ : ∃ Ad, (if cv = X then Av else Option.map (fun x => x.add X) Av) = Ad := ⟨_, rfl⟩
  rw [hAd] at hv3
  have HV3 := bx hv3
  clear hv3
  go_wp2
  go_region_held3 (fun w' => Below w4.heap.size w4 w') (first | exact HSc.out | exact HSc.out.trans hb5)
    (first
      | (go_at_call 12; with_reducible refine (weave_any N K B D _ (xs.drop X) _ ((HV3.out.below HSc.out).more HSc.out.size) HXS3.out).mono ?_; rintro e w5 ⟨v3, rfl, hr3, hb5'⟩; rw [HE3.out.1]; have hb5 : Below w4.heap.size _ w5 := hb5'.mono HSc.out.size))
  have hS5 := (by assumption : Below w4.heap.size w4 w5)
  have HR3 := bx (show IsRow w5 w5.heap.size none v3 (weaveL N D (xs.drop X)) by rw [← HE3.out.2]; exact hr3)
  have HB5 := bx hS5
  clear hr3 hb5 hb5' hS5 HSc k0 k1 k2
  have HC5 := bx (HC4.out.below HB5.out HG4.out)
  have HV5 := bx ((HV4.out.more HB4.out.size).below HB5.out)
  have k0 : w5.cell? ⟨g, 0, none⟩ = some (.int .i64 N) := HC5.out.cell rfl
  have k1 : w5.cell? ⟨g, 1, none⟩ = some (.int .i64 K) := HC5.out.cell rfl
  have k2 : w5.cell? ⟨g, 2, none⟩ = some (.int .i64 B) := HC5.out.cell rfl
  have HE4 := bx (show wErr N K B 1 xs = 0 ∧ wRow N K B 1 xs = weaveL N 1 xs from wErr_ok (D := 1) (M := xs.length) hK1 hKN hN5 hB (by decide) (by decide) (by rw [Nat.mul_one]) HROW.out)
  clear HC4 HG4 HV4 HV3 HE3 HE2 HXS3 HXS2 HV2
  go_upto_region 9 with (go_at_call 12; refine (weave_any N K B 1 _ xs _ (HV5.out.more HB5.out.size) HXS.out).mono ?_; rintro e w6 ⟨v4, rfl, hr4, hb6⟩; rw [HE4.out.1]; have HR4 := bx (show IsRow w6 w6.heap.size none v4 (weaveL N 1 xs) by rw [← HE4.out.2]; exact hr4); have HB6 := bx hb6; clear hr4 hb6)
  have r2 := (HR2.out.below HB5.out).below (HB6.out.mono HB5.out.size)
  have r3 := HR3.out.below HB6.out
  have hlen2 : (weaveL N D (xs.take X)).length ≤ 1000000 := by
    rw [weaveL_length, List.length_take]
    exact Nat.le_trans (Nat.mul_le_mul (Nat.min_le_left _ _) hN22) (Nat.le_trans (Nat.mul_le_mul_right _ (Nat.le_trans hXL hL2)) (by decide))
  have hlen3 : (weaveL N D (xs.drop X)).length ≤ 1000000 := by
    rw [weaveL_length, List.length_drop, HLEN.out]
    exact Nat.le_trans (Nat.mul_le_mul (Nat.sub_le _ _) hN22) (Nat.le_trans (Nat.mul_le_mul_right _ hL2) (by decide))
  have HL2 := bx hlen2
  have HL3 := bx hlen3
  have HR2' := bx r2
  have HR3' := bx r3
  clear r2 r3 hlen2 hlen3
  go_upto_region 11 with (refine ap_row rfl _ _ rfl w6.heap.size _ 0 [] rfl (own_nil _ _ _) (weaveL N D (xs.take X)) rfl HR2'.out (by rw [Nat.zero_add]; exact Nat.le_trans HL2.out (by decide)) (Nat.le_refl _) ?_; intro v5 w7 hown7 hb7; have HO7 := bx hown7; have HB7 := bx hb7; clear hown7 hb7)
  go_upto_region 12 with (refine ap_row rfl _ _ rfl w6.heap.size _ _ _ rfl HO7.out (weaveL N D (xs.drop X)) rfl (HR3'.out.below (HB7.out.mono HB6.out.size)) (by rw [Nat.zero_add]; exact Nat.le_trans (Nat.add_le_add HL2.out HL3.out) (by decide)) HB7.out.size ?_; intro v6 w8 hown8 hb8; have HO8 := bx hown8; have HB8 := bx (HB7.out.trans hb8); clear hown8 hb8)
  have HVW := bx (((HV5.out.below (HB6.out.mono HB5.out.size)).below (HB8.out.mono (Nat.le_trans HB5.out.size HB6.out.size))).more (Nat.le_trans HB5.out.size (Nat.le_trans HB6.out.size HB8.out.size)))
  have HLF := bx (fun j => (flatten_length (xs.take j) fun x hx => HROW.out x (List.mem_of_mem_take hx)))
  have hLi : (xs.length : Int) ≤ 198 := by have := HLEN.out; exact Int.ofNat_le.2 (this ▸ hL2)
  go_wp2
  go_loopw [28, 29] (fun v i wr => ∃ j : Nat, j ≤ xs.length ∧ i = .int .i64 j ∧ wr.ownsRow w8.heap.size 5 1 v (j * N) ((xs.take j).flatten.map B8) ∧ Below w8.heap.size w8 wr) (fun _ i _ => xs.length - (intOf i).toNat)
  case atStart => exact ⟨0, Nat.zero_le _, rfl, by rw [Nat.zero_mul]; exact own_nil _ _ _, Below.refl _ _⟩
  case round =>
    obtain ⟨j, hj, rfl, hown, hbr⟩ := hrel
    have HO := bx hown
    have HBR := bx hbr
    clear hown hbr
    have hj0 : (0 : Int) ≤ (j : Int) := Int.natCast_nonneg _
    by_cases hlt : j < xs.length
    · have hltz : (j : Int) < (xs.length : Int) := Int.ofNat_lt.2 hlt
      obtain ⟨x, hx⟩ : ∃ x : List UInt8, xs[j]? = some x := ⟨_, List.getElem?_eq_getElem hlt⟩
      have hxN := HROW.out x (List.mem_of_getElem? hx)
      obtain ⟨ad, A', c', rfl, hab, hcell, r1, r2, r3⟩ := HVW.out.get hx
      have hcell' : wr.cell? (ad.add j) = some (.slice A' x.length c') := by rw [HBR.out.cell (by rw [block_of_add]; exact hab)]; exact hcell
      have HROWX := bx (show IsRow wr w8.heap.size none (.slice A' x.length c') x from ⟨A', c', rfl, r1, r2, r3.below HBR.out, fun _ _ _ => by simp⟩)
      have HX' := bx hx
      have HXN := bx hxN
      have HB' : Bx (j * N + x.length ≤ 1000000000) := bx (by rw [hxN]; have : j * N ≤ 198 * 22 := Nat.mul_le_mul (by have := HLEN.out; exact Nat.le_trans (Nat.le_of_lt hlt) (this ▸ hL2)) hN22; exact Nat.le_trans (Nat.add_le_add this hN22) (by decide))
      clear hx hxN hcell r1 r2 r3
      go_wp2_with (refine ap_row rfl _ _ rfl w8.heap.size _ _ _ rfl HO.out x rfl HROWX.out HB'.out HBR.out.size ?_; intro v7 w9 hown9 hb9; have HO9 := bx hown9; have HB9 := bx (HBR.out.trans hb9); clear hown9 hb9)
      go_roundw
      case rel =>
        refine ⟨j + 1, hlt, by go_num, ?_, HB9.out⟩
        have := HO9.out
        rw [HXN.out] at this
        rw [flatten_take HX'.out, List.map_append, Nat.add_mul, Nat.one_mul]
        exact this
      case measure => simp [intOf]; omega
    · obtain rfl : j = xs.length := Nat.le_antisymm hj (Nat.not_lt.1 hlt)
      have hN0 : 0 < N := Nat.lt_of_lt_of_le (by decide) hN2
      have s34 := HB4.out.size
      have s45 := HB5.out.size
      have s56 := HB6.out.size
      have s68 := HB8.out.size
      have s8r := HBR.out.size
      have q1 : IsRow wr wr.heap.size none v1 (weaveL N D xs) := by
        have h := HR1.out
        rw [HE.out.2] at h
        exact ((((((h.below HB4.out).below (HB5.out.mono s34)).below (HB6.out.mono (Nat.le_trans s34 s45))).below (HB8.out.mono (Nat.le_trans s34 (Nat.le_trans s45 s56)))).below (HBR.out.mono (Nat.le_trans s34 (Nat.le_trans s45 (Nat.le_trans s56 s68))))).more (Nat.le_trans s34 (Nat.le_trans s45 (Nat.le_trans s56 (Nat.le_trans s68 s8r)))))
      have q2 : IsRow wr wr.heap.size none v6 (weaveL N D xs) := by
        have h := HO8.out
        rw [List.nil_append, ← List.map_append, ← weave_append (m := x') (Nat.lt_of_lt_of_le (by decide) hD1) hN0 (by rw [List.length_take, Nat.min_eq_left hXlen, ← HX.out, Nat.mul_comm]), List.take_append_drop] at h
        exact ((own_row h).below HBR.out).more s8r
      have q4 : IsRow wr wr.heap.size none v4 xs.flatten := by
        have h := HR4.out
        rw [weave_flat hN0 xs HROW.out] at h
        exact ((h.below HB8.out).below (HBR.out.mono s68)).more (Nat.le_trans s68 s8r)
      have q5 : IsRow wr wr.heap.size none u28 xs.flatten := by
        have h := HO.out
        rw [List.take_of_length_le (Nat.le_refl _)] at h
        exact own_row h
      have hall : Below w.heap.size w wr := HB.out.trans ((HB3.out.mono HB.out.size).trans ((HB4.out.mono (Nat.le_trans HB.out.size HB3.out.size)).trans ((HB5.out.mono (Nat.le_trans HB.out.size (Nat.le_trans HB3.out.size s34))).trans ((HB6.out.mono (Nat.le_trans HB.out.size (Nat.le_trans HB3.out.size (Nat.le_trans s34 s45)))).trans ((HB8.out.mono (Nat.le_trans HB.out.size (Nat.le_trans HB3.out.size (Nat.le_trans s34 (Nat.le_trans s45 s56))))).trans (HBR.out.mono (Nat.le_trans HB.out.size (Nat.le_trans HB3.out.size (Nat.le_trans s34 (Nat.le_trans s45 (Nat.le_trans s56 s68)))))))))))
      have Q1 := bx q1
      have Q2 := bx q2
      have Q4 := bx q4
      have Q5 := bx q5
      have HALL := bx hall
      clear q1 q2 q4 q5 hall s34 s45 s56 s68 s8r
      go_wp2_with fail
      refine (known21 _).mono ?_
      rintro e wa1 ⟨rfl, hb⟩
      have P1 := bx ((Q1.out.below hb).more hb.size)
      have P2 := bx ((Q2.out.below hb).more hb.size)
      have P4 := bx ((Q4.out.below hb).more hb.size)
      have P5 := bx ((Q5.out.below hb).more hb.size)
      have HALL := bx (HALL.out.trans (hb.mono HALL.out.size))
      clear hb Q1 Q2 Q4 Q5
      go_wp2_with fail
      refine (same_row P1.out P2.out).mono ?_
      rintro e wa2 ⟨rfl, hb⟩
      rw [show decide (weaveL N D xs = weaveL N D xs) = true from decide_eq_true rfl]
      have Q4 := bx ((P4.out.below hb).more hb.size)
      have Q5 := bx ((P5.out.below hb).more hb.size)
      have HALL := bx (HALL.out.trans (hb.mono HALL.out.size))
      clear hb P1 P2 P4 P5
      go_wp2_with fail
      refine (same_row Q4.out Q5.out).mono ?_
      rintro e wa3 ⟨rfl, hb⟩
      rw [show decide (xs.flatten = xs.flatten) = true from decide_eq_true rfl]
      have HALL := bx (HALL.out.trans (hb.mono HALL.out.size))
      clear hb Q4 Q5
      go_wp2_with fail
      go_ret
      exact ⟨rfl, HALL.out⟩
theorem law_one' (n k b e : UInt8) (A : Option Addr) (len : Nat) (bs : List UInt8) (cap : Nat) (many at_ : UInt8) (w : World) (hlen : bs.length = len) (hRd : Rd w w.heap.size A (bs.map B8)) (hcap : len ≤ cap) (hmax : cap ≤ maxLen) :
    Calls Try.prog 3 #[B8 n, B8 k, B8 b, B8 e, .slice A len cap, B8 many, B8 at_] w fun r w' => r = .returned (.bool true) ∧ Below w.heap.size w w' := by
  subst hlen
  exact law_one n k b e A bs cap many at_ w hRd hcap hmax
end Go.Proofs.Ytkjaonlelkfhaaa

/- The walks of layer 1, thirteen: the laws, the last. -/
import Derived.Test.YtidgenjpfccfgaaDoorShL
namespace Go.Proofs.YtidgenjpfccfgaaDoor
open Go.RowKit Go.Shelf Gf Bt

set_option maxRecDepth 100000 in
set_option maxHeartbeats 1000000 in
theorem law_pow0 (b : UInt8) (n m : Int) (n1 : -32768 ≤ n) (n2 : n ≤ 32767) (nz : Bool) (hnz : (n = 0 ∧ nz = true) ∨ (n ≠ 0 ∧ nz = false)) (w : World) (hT : Tab w) : Calls Tryd.prog 6 #[.int .u8 0, B8 b, .int .i16 n, .int .i16 m] w fun r w' => r = .returned (.bool true) ∧ Below w.heap.size w w' := by
  have hS0 : Sh w w := ⟨hT, Below.refl _ _⟩
  obtain ⟨z, hz⟩ : ∃ z, powZ 0 n = z := ⟨_, rfl⟩
  have P1 : Bx (∀ w, Tab w → Calls Tryd.prog 18 #[.int .u8 0, .int .i64 0] w fun e w' => e = .returned (.int .u8 1) ∧ Below w.heap.size w w') := bx fun w hT => by have h := pow_any 0 0 w hT; rw [show powZ 0 0 = 1 from by unfold powZ; rw [if_neg (fun h => h.2 rfl)]; rfl] at h; exact h
  have P2 : Bx (∀ w, Tab w → Calls Tryd.prog 18 #[.int .u8 0, .int .i64 n] w fun e w' => e = .returned (B8 z) ∧ Below w.heap.size w w') := bx fun w hT => by have h := pow_any 0 n w hT; rw [hz] at h; exact h
  have z1 : (n == 0) = nz := by
    rcases hnz with ⟨h, rfl⟩ | ⟨h, rfl⟩
    · rw [h]; rfl
    · exact beq_false_of_ne h
  have z3 : nz = true ∨ (nz = false ∧ z = 0) := by
    rcases hnz with ⟨h, rfl⟩ | ⟨h, rfl⟩
    · exact .inl rfl
    · exact .inr ⟨rfl, by rw [← hz]; exact if_pos ⟨rfl, h⟩⟩
  clear hT hz hnz
  rcases z3 with rfl | ⟨rfl, rfl⟩
  · go_enter Tryd.func6, Tryd.ntmps6
    go_wp2_with (first
      | (go_at_call 11; refine (known01 _ (Sh.tab (by assumption))).mono ?_; rintro e w' ⟨rfl, hb⟩; have hS' := Sh.step (by assumption) hb; clear hb)
      | (go_at_call 18; first | (with_reducible refine (P1.out _ (Sh.tab (by assumption))).mono ?_; rintro e w' ⟨rfl, hb⟩; have hS' := Sh.step (by assumption) hb; clear hb) | (with_reducible refine (P2.out _ (Sh.tab (by assumption))).mono ?_; rintro e w' ⟨rfl, hb⟩; have hS' := Sh.step (by assumption) hb; clear hb)))
    go_ret
    exact ⟨rfl, Sh.below (by assumption)⟩
  · go_enter Tryd.func6, Tryd.ntmps6
    go_wp2_with (first
      | (go_at_call 11; refine (known01 _ (Sh.tab (by assumption))).mono ?_; rintro e w' ⟨rfl, hb⟩; have hS' := Sh.step (by assumption) hb; clear hb)
      | (go_at_call 18; first | (with_reducible refine (P1.out _ (Sh.tab (by assumption))).mono ?_; rintro e w' ⟨rfl, hb⟩; have hS' := Sh.step (by assumption) hb; clear hb) | (with_reducible refine (P2.out _ (Sh.tab (by assumption))).mono ?_; rintro e w' ⟨rfl, hb⟩; have hS' := Sh.step (by assumption) hb; clear hb)))
    go_ret
    exact ⟨rfl, Sh.below (by assumption)⟩
set_option maxRecDepth 100000 in
set_option maxHeartbeats 1000000 in
theorem law_pow1 (a b : UInt8) (ha : a ≠ 0) (n m : Int) (n1 : -32768 ≤ n) (n2 : n ≤ 32767) (m1 : -32768 ≤ m) (m2 : m ≤ 32767) (w : World) (hT : Tab w) : Calls Tryd.prog 6 #[B8 a, B8 b, .int .i16 n, .int .i16 m] w fun r w' => r = .returned (.bool true) ∧ Below w.heap.size w w' := by
  have hS0 : Sh w w := ⟨hT, Below.refl _ _⟩
  obtain ⟨u, hu⟩ : ∃ z, powZ a n = z := ⟨_, rfl⟩
  obtain ⟨v, hv⟩ : ∃ z, powZ a m = z := ⟨_, rfl⟩
  obtain ⟨s, hs⟩ : ∃ z, gmul u v = z := ⟨_, rfl⟩
  have hnm : powZ a (n + m) = s := by rw [← powZ_add ha, hu, hv, hs]
  obtain ⟨d, hd⟩ : ∃ z, a ^^^ b = z := ⟨_, rfl⟩
  obtain ⟨x, hx⟩ : ∃ z, powZ d 2 = z := ⟨_, rfl⟩
  obtain ⟨y, hy⟩ : ∃ z, powZ a 2 = z := ⟨_, rfl⟩
  obtain ⟨z, hz⟩ : ∃ z, powZ b 2 = z := ⟨_, rfl⟩
  have P1 : Bx (∀ w, Tab w → Calls Tryd.prog 18 #[B8 a, .int .i64 n] w fun e w' => e = .returned (B8 u) ∧ Below w.heap.size w w') := bx fun w hT => by have h := pow_any a n w hT; rw [hu] at h; exact h
  have P2 : Bx (∀ w, Tab w → Calls Tryd.prog 18 #[B8 a, .int .i64 m] w fun e w' => e = .returned (B8 v) ∧ Below w.heap.size w w') := bx fun w hT => by have h := pow_any a m w hT; rw [hv] at h; exact h
  have M1 : Bx (∀ w, Tab w → Calls Tryd.prog 16 #[B8 u, B8 v] w fun e w' => e = .returned (B8 s) ∧ Below w.heap.size w w') := bx fun w hT => by have h := mul_any u v w hT; rw [hs] at h; exact h
  have P3 : Bx (∀ w, Tab w → Calls Tryd.prog 18 #[B8 a, .int .i64 (n + m)] w fun e w' => e = .returned (B8 s) ∧ Below w.heap.size w w') := bx fun w hT => by have h := pow_any a (n + m) w hT; rw [hnm] at h; exact h
  have P4 : Bx (∀ w, Tab w → Calls Tryd.prog 18 #[B8 a, .int .i64 255] w fun e w' => e = .returned (.int .u8 1) ∧ Below w.heap.size w w') := bx fun w hT => by have h := pow_any a 255 w hT; rw [show powZ a 255 = 1 by rw [powZ_of ha]; rfl] at h; exact h
  have P5 : Bx (∀ w, Tab w → Calls Tryd.prog 18 #[B8 a, .int .i64 1] w fun e w' => e = .returned (B8 a) ∧ Below w.heap.size w w') := bx fun w hT => by have h := pow_any a 1 w hT; rw [show powZ a 1 = a by rw [powZ_of ha]; exact gpow_one a] at h; exact h
  have P6 : Bx (∀ w, Tab w → Calls Tryd.prog 18 #[B8 a, .int .i64 0] w fun e w' => e = .returned (.int .u8 1) ∧ Below w.heap.size w w') := bx fun w hT => by have h := pow_any a 0 w hT; rw [show powZ a 0 = 1 by rw [powZ_of ha]; rfl] at h; exact h
  have P7 : Bx (∀ w, Tab w → Calls Tryd.prog 18 #[B8 d, .int .i64 2] w fun e w' => e = .returned (B8 x) ∧ Below w.heap.size w w') := bx fun w hT => by have h := pow_any d 2 w hT; rw [hx] at h; exact h
  have P8 : Bx (∀ w, Tab w → Calls Tryd.prog 18 #[B8 a, .int .i64 2] w fun e w' => e = .returned (B8 y) ∧ Below w.heap.size w w') := bx fun w hT => by have h := pow_any a 2 w hT; rw [hy] at h; exact h
  have P9 : Bx (∀ w, Tab w → Calls Tryd.prog 18 #[B8 b, .int .i64 2] w fun e w' => e = .returned (B8 z) ∧ Below w.heap.size w w') := bx fun w hT => by have h := pow_any b 2 w hT; rw [hz] at h; exact h
  have x1 : bits .xor .u8 (a.toNat : Int) (b.toNat : Int) = (d.toNat : Int) := by rw [xor_b8, hd]
  have x2 : bits .xor .u8 (y.toNat : Int) (z.toNat : Int) = (x.toNat : Int) := by rw [xor_b8, ← hx, ← hy, ← hz, powZ_two, powZ_two, powZ_two, ← hd, sq_xor]
  have h1 := u8_ne ha
  have h2 := u8_ne_nat ha
  clear hT hu hv hs hnm hd hx hy hz ha
  go_enter Tryd.func6, Tryd.ntmps6
  go_wp2_with (first
    | (go_at_call 11; refine (known01 _ (Sh.tab (by assumption))).mono ?_; rintro e w' ⟨rfl, hb⟩; have hS' := Sh.step (by assumption) hb; clear hb)
    | (go_at_call 18; first | (with_reducible refine (P1.out _ (Sh.tab (by assumption))).mono ?_; rintro e w' ⟨rfl, hb⟩; have hS' := Sh.step (by assumption) hb; clear hb) | (with_reducible refine (P2.out _ (Sh.tab (by assumption))).mono ?_; rintro e w' ⟨rfl, hb⟩; have hS' := Sh.step (by assumption) hb; clear hb) | (with_reducible refine (P3.out _ (Sh.tab (by assumption))).mono ?_; rintro e w' ⟨rfl, hb⟩; have hS' := Sh.step (by assumption) hb; clear hb) | (with_reducible refine (P4.out _ (Sh.tab (by assumption))).mono ?_; rintro e w' ⟨rfl, hb⟩; have hS' := Sh.step (by assumption) hb; clear hb) | (with_reducible refine (P5.out _ (Sh.tab (by assumption))).mono ?_; rintro e w' ⟨rfl, hb⟩; have hS' := Sh.step (by assumption) hb; clear hb) | (with_reducible refine (P6.out _ (Sh.tab (by assumption))).mono ?_; rintro e w' ⟨rfl, hb⟩; have hS' := Sh.step (by assumption) hb; clear hb) | (with_reducible refine (P7.out _ (Sh.tab (by assumption))).mono ?_; rintro e w' ⟨rfl, hb⟩; have hS' := Sh.step (by assumption) hb; clear hb) | (with_reducible refine (P8.out _ (Sh.tab (by assumption))).mono ?_; rintro e w' ⟨rfl, hb⟩; have hS' := Sh.step (by assumption) hb; clear hb) | (with_reducible refine (P9.out _ (Sh.tab (by assumption))).mono ?_; rintro e w' ⟨rfl, hb⟩; have hS' := Sh.step (by assumption) hb; clear hb))
    | (go_at_call 16; first | (with_reducible refine (M1.out _ (Sh.tab (by assumption))).mono ?_; rintro e w' ⟨rfl, hb⟩; have hS' := Sh.step (by assumption) hb; clear hb)))
  go_ret
  exact ⟨rfl, Sh.below (by assumption)⟩
theorem law_ShiftPowers (a b : UInt8) (n m : Int) (n1 : -32768 ≤ n) (n2 : n ≤ 32767) (m1 : -32768 ≤ m) (m2 : m ≤ 32767) (w : World) (hT : Tab w) : Calls Tryd.prog 6 #[B8 a, B8 b, .int .i16 n, .int .i16 m] w fun r w' => r = .returned (.bool true) ∧ Below w.heap.size w w' := by
  by_cases ha : a = 0
  · subst ha
    by_cases hn : n = 0
    · exact law_pow0 b n m n1 n2 true (.inl ⟨hn, rfl⟩) w hT
    · exact law_pow0 b n m n1 n2 false (.inr ⟨hn, rfl⟩) w hT
  · exact law_pow1 a b ha n m n1 n2 m1 m2 w hT
set_option maxRecDepth 100000 in
set_option maxHeartbeats 1000000 in
theorem law_all (n m : UInt8) (x y : Nat) (hx : n.toNat % 255 = x) (hy : m.toNat % 255 = y) (e : Bool) (he : (x = y ∧ e = true) ∨ (x ≠ y ∧ e = false)) (w : World) (hT : Tab w) : Calls Tryd.prog 8 #[B8 n, B8 m] w fun r w' => r = .returned (.bool true) ∧ Below w.heap.size w w' := by
  have hS0 : Sh w w := ⟨hT, Below.refl _ _⟩
  have hxl : x < 255 := by omega
  have hyl : y < 255 := by omega
  obtain ⟨u, hu⟩ : ∃ z, powZ 2 (x : Int) = z := ⟨_, rfl⟩
  obtain ⟨v, hv⟩ : ∃ z, powZ 2 (y : Int) = z := ⟨_, rfl⟩
  have h20 : (2 : UInt8) ≠ 0 := by decide
  have hux : gpow 2 x = u := by rw [← hu, powZ_of h20]; congr 1; omega
  have hvy : gpow 2 y = v := by rw [← hv, powZ_of h20]; congr 1; omega
  have hu2 : powZ 2 ((x : Int) + 255) = u := by rw [← hux, powZ_of h20]; congr 1; omega
  have huv : u = v ↔ x = y := ⟨fun h => gpow_two_inj hxl hyl (by rw [hux, hvy, h]), fun h => by rw [← hux, ← hvy, h]⟩
  have hu0 : u ≠ 0 := by rw [← hux]; exact gpow_ne_zero h20 x
  have P1 : Bx (∀ w, Tab w → Calls Tryd.prog 18 #[.int .u8 2, .int .i64 (x : Int)] w fun e w' => e = .returned (B8 u) ∧ Below w.heap.size w w') := bx fun w hT => by have h := pow_any 2 (x : Int) w hT; rw [hu] at h; exact h
  have P2 : Bx (∀ w, Tab w → Calls Tryd.prog 18 #[.int .u8 2, .int .i64 (y : Int)] w fun e w' => e = .returned (B8 v) ∧ Below w.heap.size w w') := bx fun w hT => by have h := pow_any 2 (y : Int) w hT; rw [hv] at h; exact h
  have P3 : Bx (∀ w, Tab w → Calls Tryd.prog 18 #[.int .u8 2, .int .i64 ((x : Int) + 255)] w fun e w' => e = .returned (B8 u) ∧ Below w.heap.size w w') := bx fun w hT => by have h := pow_any 2 ((x : Int) + 255) w hT; rw [hu2] at h; exact h
  have e1 : ((u.toNat : Int) == (v.toNat : Int)) = e := by
    rcases he with ⟨h, rfl⟩ | ⟨h, rfl⟩
    · rw [huv.2 h]; exact beq_self_eq_true _
    · exact beq_false_of_ne (fun h2 => h (huv.1 (u8_ext (Int.ofNat_inj.1 h2))))
  have e2 : (u.toNat == v.toNat) = e := by
    rcases he with ⟨h, rfl⟩ | ⟨h, rfl⟩
    · rw [huv.2 h]; exact beq_self_eq_true _
    · exact beq_false_of_ne (fun h2 => h (huv.1 (u8_ext h2)))
  have e3 : ((x : Int) == (y : Int)) = e := by
    rcases he with ⟨h, rfl⟩ | ⟨h, rfl⟩
    · rw [h]; exact beq_self_eq_true _
    · exact beq_false_of_ne (fun h2 => h (Int.ofNat_inj.1 h2))
  have e4 : (x == y) = e := by
    rcases he with ⟨h, rfl⟩ | ⟨h, rfl⟩
    · rw [h]; exact beq_self_eq_true _
    · exact beq_false_of_ne h
  have h1 := u8_ne hu0
  have h3 : ((u.toNat : Int) != 0) = true := bne_iff_ne.2 (u8_ne hu0)
  have h4 : (u.toNat != 0) = true := bne_iff_ne.2 (u8_ne_nat hu0)
  have h2 := u8_ne_nat hu0
  have hnz : (n.toNat : Int) % 255 = (x : Int) := by omega
  have hmz : (m.toNat : Int) % 255 = (y : Int) := by omega
  have hx0 : (0 : Int) ≤ (x : Int) := Int.natCast_nonneg _
  have hxz : (x : Int) < 255 := by omega
  have n0 : (0 : Int) ≤ (n.toNat : Int) := Int.natCast_nonneg _
  have m0 : (0 : Int) ≤ (m.toNat : Int) := Int.natCast_nonneg _
  have n1 : (n.toNat : Int) < 256 := Int.ofNat_lt.2 n.toNat_lt
  have m1 : (m.toNat : Int) < 256 := Int.ofNat_lt.2 m.toNat_lt
  have nt : ((n.toNat : Nat) : Int).tmod 255 = (x : Int) := by rw [Int.tmod_eq_emod_of_nonneg n0, hnz]
  have mt : ((m.toNat : Nat) : Int).tmod 255 = (y : Int) := by rw [Int.tmod_eq_emod_of_nonneg m0, hmz]
  clear hT hu hv hux hvy hu2 huv hu0 hx hy he hxl hyl h20
  go_enter Tryd.func8, Tryd.ntmps8
  go_wp2_with (first
    | (go_at_call 11; refine (known01 _ (Sh.tab (by assumption))).mono ?_; rintro e w' ⟨rfl, hb⟩; have hS' := Sh.step (by assumption) hb; clear hb)
    | (go_at_call 18; first | (with_reducible refine (P1.out _ (Sh.tab (by assumption))).mono ?_; rintro e w' ⟨rfl, hb⟩; have hS' := Sh.step (by assumption) hb; clear hb) | (with_reducible refine (P2.out _ (Sh.tab (by assumption))).mono ?_; rintro e w' ⟨rfl, hb⟩; have hS' := Sh.step (by assumption) hb; clear hb) | (with_reducible refine (P3.out _ (Sh.tab (by assumption))).mono ?_; rintro e w' ⟨rfl, hb⟩; have hS' := Sh.step (by assumption) hb; clear hb)))
  go_ret
  exact ⟨rfl, Sh.below (by assumption)⟩
theorem law_ShiftAll (n m : UInt8) (w : World) (hT : Tab w) : Calls Tryd.prog 8 #[B8 n, B8 m] w fun r w' => r = .returned (.bool true) ∧ Below w.heap.size w w' := by
  by_cases h : n.toNat % 255 = m.toNat % 255
  · exact law_all n m _ _ rfl rfl true (.inl ⟨h, rfl⟩) w hT
  · exact law_all n m _ _ rfl rfl false (.inr ⟨h, rfl⟩) w hT
set_option maxRecDepth 100000 in
set_option maxHeartbeats 1000000 in
theorem law_ShiftAsks (a b : UInt8) (v : Nat) (hv : v < 65536) (n k : Int) (k1 : -32768 ≤ k) (k2 : k ≤ 32767) (w : World) (hT : Tab w) : Calls Tryd.prog 3 #[B8 a, B8 b, .int .u16 v, .int .i64 n, .int .i16 k] w fun r w' => r = .returned (.bool true) ∧ Below w.heap.size w w' := by
  have hS0 : Sh w w := ⟨hT, Below.refl _ _⟩
  obtain ⟨x, hx⟩ : ∃ z, ginv a = z := ⟨_, rfl⟩
  obtain ⟨z, hz⟩ : ∃ z, decide (a ≠ 0) = z := ⟨_, rfl⟩
  obtain ⟨wd, hwd⟩ : ∃ z, wideN a.toNat b.toNat = z := ⟨_, rfl⟩
  obtain ⟨rd, hrd⟩ : ∃ z, redN v = z := ⟨_, rfl⟩
  obtain ⟨p, hp⟩ : ∃ z, gmul a b = z := ⟨_, rfl⟩
  obtain ⟨s, hs⟩ : ∃ z, powZ a n = z := ⟨_, rfl⟩
  obtain ⟨t, ht⟩ : ∃ z, powZ a k = z := ⟨_, rfl⟩
  have I1 : Bx (∀ w, Tab w → Calls Tryd.prog 9 #[B8 a] w fun e w' => e = .returned (.tuple #[B8 x, .bool z]) ∧ Below w.heap.size w w') := bx fun w hT => by have h := inv_any a w hT; rw [hx, hz] at h; exact h
  have I2 : Bx (∀ w, Tab w → Calls Tryd.prog 10 #[B8 a] w fun e w' => e = .returned (.tuple #[B8 x, .bool z]) ∧ Below w.heap.size w w') := bx fun w hT => by have h := calls_same (ref_inv a w); rw [hx, hz] at h; exact h
  have W1 : Bx (∀ w, Tab w → Calls Tryd.prog 12 #[B8 a, B8 b] w fun e w' => e = .returned (.int .u16 (wd : Nat)) ∧ Below w.heap.size w w') := bx fun w hT => by have h := callsIn_wide.1 (wide_any a b w hT); rw [hwd] at h; exact h
  have W2 : Bx (∀ w, Tab w → Calls Tryd.prog 13 #[B8 a, B8 b] w fun e w' => e = .returned (.int .u16 (wd : Nat)) ∧ Below w.heap.size w w') := bx fun w hT => by have h := calls_same (ref_wide a b w); rw [hwd] at h; exact h
  have R1 : Bx (∀ w, Tab w → Calls Tryd.prog 14 #[.int .u16 (v : Int)] w fun e w' => e = .returned (.int .u8 (rd : Nat)) ∧ Below w.heap.size w w') := bx fun w hT => by have h := calls_same (reduce_any v hv w); rw [hrd] at h; exact h
  have R2 : Bx (∀ w, Tab w → Calls Tryd.prog 15 #[.int .u16 (v : Int)] w fun e w' => e = .returned (.int .u8 (rd : Nat)) ∧ Below w.heap.size w w') := bx fun w hT => by have h := calls_same (ref_reduce v hv w); rw [hrd] at h; exact h
  have M1 : Bx (∀ w, Tab w → Calls Tryd.prog 16 #[B8 a, B8 b] w fun e w' => e = .returned (B8 p) ∧ Below w.heap.size w w') := bx fun w hT => by have h := mul_any a b w hT; rw [hp] at h; exact h
  have M2 : Bx (∀ w, Tab w → Calls Tryd.prog 17 #[B8 a, B8 b] w fun e w' => e = .returned (B8 p) ∧ Below w.heap.size w w') := bx fun w hT => by have h := calls_same (ref_mul a b w); rw [hp] at h; exact h
  have P1 : Bx (∀ w, Tab w → Calls Tryd.prog 18 #[B8 a, .int .i64 n] w fun e w' => e = .returned (B8 s) ∧ Below w.heap.size w w') := bx fun w hT => by have h := pow_any a n w hT; rw [hs] at h; exact h
  have P2 : Bx (∀ w, Tab w → Calls Tryd.prog 19 #[B8 a, .int .i64 n] w fun e w' => e = .returned (B8 s) ∧ Below w.heap.size w w') := bx fun w hT => by have h := calls_same (ref_pow a n w); rw [hs] at h; exact h
  have P3 : Bx (∀ w, Tab w → Calls Tryd.prog 18 #[B8 a, .int .i64 k] w fun e w' => e = .returned (B8 t) ∧ Below w.heap.size w w') := bx fun w hT => by have h := pow_any a k w hT; rw [ht] at h; exact h
  have P4 : Bx (∀ w, Tab w → Calls Tryd.prog 19 #[B8 a, .int .i64 k] w fun e w' => e = .returned (B8 t) ∧ Below w.heap.size w w') := bx fun w hT => by have h := calls_same (ref_pow a k w); rw [ht] at h; exact h
  have q1 : (z == z) = true := beq_self_eq_true _
  clear hT hx hz hwd hrd hp hs ht hv
  go_enter Tryd.func3, Tryd.ntmps3
  go_wp2_with (first
    | (go_at_call 11; refine (known01 _ (Sh.tab (by assumption))).mono ?_; rintro e w' ⟨rfl, hb⟩; have hS' := Sh.step (by assumption) hb; clear hb)
    | (go_at_call 9; first | (with_reducible refine (I1.out _ (Sh.tab (by assumption))).mono ?_; rintro e w' ⟨rfl, hb⟩; have hS' := Sh.step (by assumption) hb; clear hb))
    | (go_at_call 10; first | (with_reducible refine (I2.out _ (Sh.tab (by assumption))).mono ?_; rintro e w' ⟨rfl, hb⟩; have hS' := Sh.step (by assumption) hb; clear hb))
    | (go_at_call 12; first | (with_reducible refine (W1.out _ (Sh.tab (by assumption))).mono ?_; rintro e w' ⟨rfl, hb⟩; have hS' := Sh.step (by assumption) hb; clear hb))
    | (go_at_call 13; first | (with_reducible refine (W2.out _ (Sh.tab (by assumption))).mono ?_; rintro e w' ⟨rfl, hb⟩; have hS' := Sh.step (by assumption) hb; clear hb))
    | (go_at_call 14; first | (with_reducible refine (R1.out _ (Sh.tab (by assumption))).mono ?_; rintro e w' ⟨rfl, hb⟩; have hS' := Sh.step (by assumption) hb; clear hb))
    | (go_at_call 15; first | (with_reducible refine (R2.out _ (Sh.tab (by assumption))).mono ?_; rintro e w' ⟨rfl, hb⟩; have hS' := Sh.step (by assumption) hb; clear hb))
    | (go_at_call 16; first | (with_reducible refine (M1.out _ (Sh.tab (by assumption))).mono ?_; rintro e w' ⟨rfl, hb⟩; have hS' := Sh.step (by assumption) hb; clear hb))
    | (go_at_call 17; first | (with_reducible refine (M2.out _ (Sh.tab (by assumption))).mono ?_; rintro e w' ⟨rfl, hb⟩; have hS' := Sh.step (by assumption) hb; clear hb))
    | (go_at_call 18; first | (with_reducible refine (P1.out _ (Sh.tab (by assumption))).mono ?_; rintro e w' ⟨rfl, hb⟩; have hS' := Sh.step (by assumption) hb; clear hb) | (with_reducible refine (P3.out _ (Sh.tab (by assumption))).mono ?_; rintro e w' ⟨rfl, hb⟩; have hS' := Sh.step (by assumption) hb; clear hb))
    | (go_at_call 19; first | (with_reducible refine (P2.out _ (Sh.tab (by assumption))).mono ?_; rintro e w' ⟨rfl, hb⟩; have hS' := Sh.step (by assumption) hb; clear hb) | (with_reducible refine (P4.out _ (Sh.tab (by assumption))).mono ?_; rintro e w' ⟨rfl, hb⟩; have hS' := Sh.step (by assumption) hb; clear hb)))
  go_ret
  exact ⟨rfl, Sh.below (by assumption)⟩
end Go.Proofs.YtidgenjpfccfgaaDoor

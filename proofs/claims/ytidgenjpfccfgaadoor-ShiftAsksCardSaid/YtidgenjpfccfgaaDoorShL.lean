/- The walks of layer 1, twelve: the laws, on. -/
import Derived.Test.YtidgenjpfccfgaaDoorShK
namespace Go.Proofs.YtidgenjpfccfgaaDoor
open Go.RowKit Go.Shelf Gf Bt

theorem wideN_xor_left (a b c : Nat) : wideN (a ^^^ b) c = wideN a c ^^^ wideN b c := wideTo_xor_left a b c 8
theorem wideN_xor_right (a b c : Nat) : wideN a (b ^^^ c) = wideN a b ^^^ wideN a c := wideTo_xor_right a b c 8
theorem wideN_zero_right (a : Nat) : wideN a 0 = 0 := by
  have h := wideN_xor_right a 0 0
  rw [Nat.xor_self, Nat.xor_self] at h
  exact h
theorem wideN_zero_left (a : Nat) : wideN 0 a = 0 := by
  have h := wideN_xor_left 0 0 a
  rw [Nat.xor_self, Nat.xor_self] at h
  exact h
theorem wide_basis : ∀ i, i < 8 → ∀ j, j < 8 → wideN (2 ^ i) (2 ^ j) = wideN (2 ^ j) (2 ^ i) := by decide +kernel
theorem wideN_comm : ∀ a, a < 256 → ∀ b, b < 256 → wideN a b = wideN b a := by
  refine byte_ind _ (fun b _ => by rw [wideN_zero_left, wideN_zero_right]) (fun a c _ _ h1 h2 b hb => by rw [wideN_xor_left, wideN_xor_right, h1 b hb, h2 b hb]) (fun i hi => ?_)
  exact byte_ind _ (by rw [wideN_zero_left, wideN_zero_right]) (fun a c _ _ h1 h2 => by rw [wideN_xor_left, wideN_xor_right, h1, h2]) (fun j hj => wide_basis i hi j hj)
theorem xor_u8 {r s : Nat} (hr : r < 256) (hs : s < 256) : bits .xor .u8 (r : Int) (s : Int) = ((r ^^^ s : Nat) : Int) := by
  have h := xor_b8 (UInt8.ofNat r) (UInt8.ofNat s)
  rw [UInt8.toNat_xor, UInt8.toNat_ofNat', UInt8.toNat_ofNat', Nat.mod_eq_of_lt hr, Nat.mod_eq_of_lt hs] at h
  exact h
theorem powZ_of {a : UInt8} (ha : a ≠ 0) (n : Int) : powZ a n = gpow a (n % 255).toNat := by unfold powZ; rw [if_neg (fun h => ha h.1)]
theorem powZ_add {a : UInt8} (ha : a ≠ 0) (n m : Int) : gmul (powZ a n) (powZ a m) = powZ a (n + m) := by
  rw [powZ_of ha, powZ_of ha, powZ_of ha, ← gpow_add, ← gpow_mod a ha]
  congr 1
  omega
theorem powZ_two (c : UInt8) : powZ c 2 = gmul c c := by
  by_cases h : c = 0
  · subst h; decide +kernel
  · rw [powZ_of h, show ((2 : Int) % 255).toNat = 2 from rfl, gpow, gpow, gpow, one_gmul]
set_option maxRecDepth 100000 in
set_option maxHeartbeats 1000000 in
theorem law_back0 (b : UInt8) (w : World) (hT : Tab w) : Calls Tryd.prog 5 #[.int .u8 0, B8 b] w fun r w' => r = .returned (.bool true) ∧ Below w.heap.size w w' := by
  have hS0 : Sh w w := ⟨hT, Below.refl _ _⟩
  have I1 : Bx (∀ w, Tab w → Calls Tryd.prog 9 #[.int .u8 0] w fun e w' => e = .returned (.tuple #[.int .u8 0, .bool false]) ∧ Below w.heap.size w w') := bx fun w hT => by have h := inv_any 0 w hT; rw [ginv_zero] at h; exact h
  clear hT
  go_enter Tryd.func5, Tryd.ntmps5
  go_wp2_with (first
    | (go_at_call 11; refine (known01 _ (Sh.tab (by assumption))).mono ?_; rintro e w' ⟨rfl, hb⟩; have hS' := Sh.step (by assumption) hb; clear hb)
    | (go_at_call 9; first | (with_reducible refine (I1.out _ (Sh.tab (by assumption))).mono ?_; rintro e w' ⟨rfl, hb⟩; have hS' := Sh.step (by assumption) hb; clear hb)))
  go_ret
  exact ⟨rfl, Sh.below (by assumption)⟩
set_option maxRecDepth 100000 in
set_option maxHeartbeats 1000000 in
theorem law_back1 (a b : UInt8) (ha : a ≠ 0) (bz : Bool) (hbz : (b = 0 ∧ bz = true) ∨ (b ≠ 0 ∧ bz = false)) (w : World) (hT : Tab w) : Calls Tryd.prog 5 #[B8 a, B8 b] w fun r w' => r = .returned (.bool true) ∧ Below w.heap.size w w' := by
  have hS0 : Sh w w := ⟨hT, Below.refl _ _⟩
  obtain ⟨x, hx⟩ : ∃ x, ginv a = x := ⟨_, rfl⟩
  have hxx : ginv x = a := by rw [← hx]; exact ginv_ginv a ha
  have hx0 : x ≠ 0 := by rw [← hx]; exact ginv_ne_zero ha
  have hm1 : gmul a x = 1 := by rw [← hx]; exact gmul_ginv a ha
  obtain ⟨u, hu⟩ : ∃ u, gmul a b = u := ⟨_, rfl⟩
  obtain ⟨v, hv⟩ : ∃ v, gmul b a = v := ⟨_, rfl⟩
  have hvx : gmul v x = b := by rw [← hv, gmul_assoc, hm1, gmul_one]
  have I1 : Bx (∀ w, Tab w → Calls Tryd.prog 9 #[B8 a] w fun e w' => e = .returned (.tuple #[B8 x, .bool true]) ∧ Below w.heap.size w w') := bx fun w hT => by have h := inv_any a w hT; rw [hx, show decide (a ≠ 0) = true from decide_eq_true ha] at h; exact h
  have I2 : Bx (∀ w, Tab w → Calls Tryd.prog 9 #[B8 x] w fun e w' => e = .returned (.tuple #[B8 a, .bool true]) ∧ Below w.heap.size w w') := bx fun w hT => by have h := inv_any x w hT; rw [hxx, show decide (x ≠ 0) = true from decide_eq_true hx0] at h; exact h
  have M1 : Bx (∀ w, Tab w → Calls Tryd.prog 16 #[B8 a, B8 x] w fun e w' => e = .returned (.int .u8 1) ∧ Below w.heap.size w w') := bx fun w hT => by have h := mul_any a x w hT; rw [hm1] at h; exact h
  have M2 : Bx (∀ w, Tab w → Calls Tryd.prog 16 #[B8 a, B8 b] w fun e w' => e = .returned (B8 u) ∧ Below w.heap.size w w') := bx fun w hT => by have h := mul_any a b w hT; rw [hu] at h; exact h
  have M3 : Bx (∀ w, Tab w → Calls Tryd.prog 16 #[B8 b, B8 a] w fun e w' => e = .returned (B8 v) ∧ Below w.heap.size w w') := bx fun w hT => by have h := mul_any b a w hT; rw [hv] at h; exact h
  have M4 : Bx (∀ w, Tab w → Calls Tryd.prog 16 #[B8 v, B8 x] w fun e w' => e = .returned (B8 b) ∧ Below w.heap.size w w') := bx fun w hT => by have h := mul_any v x w hT; rw [hvx] at h; exact h
  have h1 := u8_ne ha
  have h2 := u8_ne_nat ha
  have z1 : ((b.toNat : Int) == 0) = bz := by
    rcases hbz with ⟨h, rfl⟩ | ⟨h, rfl⟩
    · rw [h]; rfl
    · exact beq_false_of_ne (u8_ne h)
  have z2 : (b.toNat == 0) = bz := by
    rcases hbz with ⟨h, rfl⟩ | ⟨h, rfl⟩
    · rw [h]; rfl
    · exact beq_false_of_ne (u8_ne_nat h)
  have z3 : bz = true ∨ (bz = false ∧ ((u.toNat : Int) != 0) = true ∧ (u.toNat != 0) = true) := by
    rcases hbz with ⟨h, rfl⟩ | ⟨h, rfl⟩
    · exact .inl rfl
    · have hu0 : u ≠ 0 := fun e => by
        rw [← hu] at e
        rcases gmul_eq_zero e with e | e
        · exact ha e
        · exact h e
      exact .inr ⟨rfl, bne_iff_ne.2 (u8_ne hu0), bne_iff_ne.2 (u8_ne_nat hu0)⟩
  clear hT hx hxx hx0 hm1 hu hv hvx ha hbz
  rcases z3 with rfl | ⟨rfl, z4, z5⟩
  · go_enter Tryd.func5, Tryd.ntmps5
    go_wp2_with (first
      | (go_at_call 11; refine (known01 _ (Sh.tab (by assumption))).mono ?_; rintro e w' ⟨rfl, hb⟩; have hS' := Sh.step (by assumption) hb; clear hb)
      | (go_at_call 9; first | (with_reducible refine (I1.out _ (Sh.tab (by assumption))).mono ?_; rintro e w' ⟨rfl, hb⟩; have hS' := Sh.step (by assumption) hb; clear hb) | (with_reducible refine (I2.out _ (Sh.tab (by assumption))).mono ?_; rintro e w' ⟨rfl, hb⟩; have hS' := Sh.step (by assumption) hb; clear hb))
      | (go_at_call 16; first | (with_reducible refine (M1.out _ (Sh.tab (by assumption))).mono ?_; rintro e w' ⟨rfl, hb⟩; have hS' := Sh.step (by assumption) hb; clear hb) | (with_reducible refine (M2.out _ (Sh.tab (by assumption))).mono ?_; rintro e w' ⟨rfl, hb⟩; have hS' := Sh.step (by assumption) hb; clear hb) | (with_reducible refine (M3.out _ (Sh.tab (by assumption))).mono ?_; rintro e w' ⟨rfl, hb⟩; have hS' := Sh.step (by assumption) hb; clear hb) | (with_reducible refine (M4.out _ (Sh.tab (by assumption))).mono ?_; rintro e w' ⟨rfl, hb⟩; have hS' := Sh.step (by assumption) hb; clear hb)))
    go_ret
    exact ⟨rfl, Sh.below (by assumption)⟩
  · go_enter Tryd.func5, Tryd.ntmps5
    go_wp2_with (first
      | (go_at_call 11; refine (known01 _ (Sh.tab (by assumption))).mono ?_; rintro e w' ⟨rfl, hb⟩; have hS' := Sh.step (by assumption) hb; clear hb)
      | (go_at_call 9; first | (with_reducible refine (I1.out _ (Sh.tab (by assumption))).mono ?_; rintro e w' ⟨rfl, hb⟩; have hS' := Sh.step (by assumption) hb; clear hb) | (with_reducible refine (I2.out _ (Sh.tab (by assumption))).mono ?_; rintro e w' ⟨rfl, hb⟩; have hS' := Sh.step (by assumption) hb; clear hb))
      | (go_at_call 16; first | (with_reducible refine (M1.out _ (Sh.tab (by assumption))).mono ?_; rintro e w' ⟨rfl, hb⟩; have hS' := Sh.step (by assumption) hb; clear hb) | (with_reducible refine (M2.out _ (Sh.tab (by assumption))).mono ?_; rintro e w' ⟨rfl, hb⟩; have hS' := Sh.step (by assumption) hb; clear hb) | (with_reducible refine (M3.out _ (Sh.tab (by assumption))).mono ?_; rintro e w' ⟨rfl, hb⟩; have hS' := Sh.step (by assumption) hb; clear hb) | (with_reducible refine (M4.out _ (Sh.tab (by assumption))).mono ?_; rintro e w' ⟨rfl, hb⟩; have hS' := Sh.step (by assumption) hb; clear hb)))
    go_ret
    exact ⟨rfl, Sh.below (by assumption)⟩
theorem law_ShiftBack (a b : UInt8) (w : World) (hT : Tab w) : Calls Tryd.prog 5 #[B8 a, B8 b] w fun r w' => r = .returned (.bool true) ∧ Below w.heap.size w w' := by
  by_cases ha : a = 0
  · subst ha; exact law_back0 b w hT
  · by_cases hb : b = 0
    · exact law_back1 a b ha true (.inl ⟨hb, rfl⟩) w hT
    · exact law_back1 a b ha false (.inr ⟨hb, rfl⟩) w hT
set_option maxRecDepth 100000 in
set_option maxHeartbeats 1000000 in
theorem law_ShiftWide (a b : UInt8) (v u : Nat) (hv : v < 65536) (hu : u < 65536) (w : World) (hT : Tab w) : Calls Tryd.prog 7 #[B8 a, B8 b, .int .u16 v, .int .u16 u] w fun r w' => r = .returned (.bool true) ∧ Below w.heap.size w w' := by
  have hS0 : Sh w w := ⟨hT, Below.refl _ _⟩
  obtain ⟨vu, hvu⟩ : ∃ x, v ^^^ u = x := ⟨_, rfl⟩
  obtain ⟨rvu, hrvu⟩ : ∃ x, redN vu = x := ⟨_, rfl⟩
  obtain ⟨rv, hrv⟩ : ∃ x, redN v = x := ⟨_, rfl⟩
  obtain ⟨ru, hru⟩ : ∃ x, redN u = x := ⟨_, rfl⟩
  obtain ⟨wd, hwd⟩ : ∃ x, wideN a.toNat b.toNat = x := ⟨_, rfl⟩
  have hwl : wd < 32768 := by rw [← hwd]; exact wideN_lt a.toNat_lt
  obtain ⟨p, hp⟩ : ∃ x, redN wd = x := ⟨_, rfl⟩
  obtain ⟨v2, hv2⟩ : ∃ x, v ^^^ 285 = x := ⟨_, rfl⟩
  have hrv2 : redN v2 = rv := by rw [← hv2, redN_xor, show redN 285 = 0 by decide +kernel, Nat.xor_zero, hrv]
  have R1 : Bx (∀ w, Tab w → Calls Tryd.prog 14 #[.int .u16 (vu : Int)] w fun e w' => e = .returned (.int .u8 (rvu : Int)) ∧ Below w.heap.size w w') := bx fun w hT => by have h := calls_same (reduce_any vu (by rw [← hvu]; exact Nat.xor_lt_two_pow (n := 16) hv hu) w); rw [hrvu] at h; exact h
  have R2 : Bx (∀ w, Tab w → Calls Tryd.prog 14 #[.int .u16 (v : Int)] w fun e w' => e = .returned (.int .u8 (rv : Int)) ∧ Below w.heap.size w w') := bx fun w hT => by have h := calls_same (reduce_any v hv w); rw [hrv] at h; exact h
  have R3 : Bx (∀ w, Tab w → Calls Tryd.prog 14 #[.int .u16 (u : Int)] w fun e w' => e = .returned (.int .u8 (ru : Int)) ∧ Below w.heap.size w w') := bx fun w hT => by have h := calls_same (reduce_any u hu w); rw [hru] at h; exact h
  have W1 : Bx (∀ w, Tab w → Calls Tryd.prog 12 #[B8 a, B8 b] w fun e w' => e = .returned (.int .u16 (wd : Nat)) ∧ Below w.heap.size w w') := bx fun w hT => by have h := callsIn_wide.1 (wide_any a b w hT); rw [hwd] at h; exact h
  have W2 : Bx (∀ w, Tab w → Calls Tryd.prog 12 #[B8 b, B8 a] w fun e w' => e = .returned (.int .u16 (wd : Nat)) ∧ Below w.heap.size w w') := bx fun w hT => by have h := callsIn_wide.1 (wide_any b a w hT); rw [wideN_comm _ b.toNat_lt _ a.toNat_lt, hwd] at h; exact h
  have R4 : Bx (∀ w, Tab w → Calls Tryd.prog 14 #[.int .u16 (a.toNat : Int)] w fun e w' => e = .returned (.int .u8 (a.toNat : Int)) ∧ Below w.heap.size w w') := bx fun w hT => by have h := calls_same (reduce_any a.toNat (Nat.lt_trans a.toNat_lt (by decide)) w); rw [redN_small a.toNat_lt] at h; exact h
  have R5 : Bx (∀ w, Tab w → Calls Tryd.prog 14 #[.int .u16 (wd : Int)] w fun e w' => e = .returned (.int .u8 (p : Int)) ∧ Below w.heap.size w w') := bx fun w hT => by have h := calls_same (reduce_any wd (Nat.lt_trans hwl (by decide)) w); rw [hp] at h; exact h
  have M1 : Bx (∀ w, Tab w → Calls Tryd.prog 16 #[B8 a, B8 b] w fun e w' => e = .returned (.int .u8 (p : Int)) ∧ Below w.heap.size w w') := bx fun w hT => by have h := mul_any a b w hT; rw [show B8 (gmul a b) = .int .u8 (p : Int) by rw [B8, ← gmul_nat, hwd, hp]] at h; exact h
  have R6 : Bx (∀ w, Tab w → Calls Tryd.prog 14 #[.int .u16 (v2 : Int)] w fun e w' => e = .returned (.int .u8 (rv : Int)) ∧ Below w.heap.size w w') := bx fun w hT => by have h := calls_same (reduce_any v2 (by rw [← hv2]; exact Nat.xor_lt_two_pow (n := 16) hv (by decide)) w); rw [hrv2] at h; exact h
  have x1 : bits .xor .u16 (v : Int) (u : Int) = (vu : Int) := by rw [bits_u16_xor _ _ hv hu, hvu]
  have x2 : bits .xor .u8 (rv : Int) (ru : Int) = (rvu : Int) := by rw [xor_u8 (by rw [← hrv]; exact redN_lt hv) (by rw [← hru]; exact redN_lt hu), ← hrv, ← hru, ← redN_xor, hvu, hrvu]
  have x3 : bits .xor .u16 (v : Int) 285 = (v2 : Int) := by have h := bits_u16_xor v 285 hv (by decide); rw [hv2] at h; exact h
  have l1 : (wd : Int) < 32768 := Int.ofNat_lt.2 hwl
  have a0 : (0 : Int) ≤ (a.toNat : Int) := Int.natCast_nonneg _
  have a1 : (a.toNat : Int) < 256 := Int.ofNat_lt.2 a.toNat_lt
  clear hT hvu hrvu hrv hru hwd hwl hp hv2 hrv2 hv hu
  go_enter Tryd.func7, Tryd.ntmps7
  go_wp2_with (first
    | (go_at_call 11; refine (known01 _ (Sh.tab (by assumption))).mono ?_; rintro e w' ⟨rfl, hb⟩; have hS' := Sh.step (by assumption) hb; clear hb)
    | (go_at_call 14; first | (with_reducible refine (R1.out _ (Sh.tab (by assumption))).mono ?_; rintro e w' ⟨rfl, hb⟩; have hS' := Sh.step (by assumption) hb; clear hb) | (with_reducible refine (R2.out _ (Sh.tab (by assumption))).mono ?_; rintro e w' ⟨rfl, hb⟩; have hS' := Sh.step (by assumption) hb; clear hb) | (with_reducible refine (R3.out _ (Sh.tab (by assumption))).mono ?_; rintro e w' ⟨rfl, hb⟩; have hS' := Sh.step (by assumption) hb; clear hb) | (with_reducible refine (R4.out _ (Sh.tab (by assumption))).mono ?_; rintro e w' ⟨rfl, hb⟩; have hS' := Sh.step (by assumption) hb; clear hb) | (with_reducible refine (R5.out _ (Sh.tab (by assumption))).mono ?_; rintro e w' ⟨rfl, hb⟩; have hS' := Sh.step (by assumption) hb; clear hb) | (with_reducible refine (R6.out _ (Sh.tab (by assumption))).mono ?_; rintro e w' ⟨rfl, hb⟩; have hS' := Sh.step (by assumption) hb; clear hb))
    | (go_at_call 12; first | (with_reducible refine (W1.out _ (Sh.tab (by assumption))).mono ?_; rintro e w' ⟨rfl, hb⟩; have hS' := Sh.step (by assumption) hb; clear hb) | (with_reducible refine (W2.out _ (Sh.tab (by assumption))).mono ?_; rintro e w' ⟨rfl, hb⟩; have hS' := Sh.step (by assumption) hb; clear hb))
    | (go_at_call 16; first | (with_reducible refine (M1.out _ (Sh.tab (by assumption))).mono ?_; rintro e w' ⟨rfl, hb⟩; have hS' := Sh.step (by assumption) hb; clear hb)))
  go_ret
  exact ⟨rfl, Sh.below (by assumption)⟩
end Go.Proofs.YtidgenjpfccfgaaDoor

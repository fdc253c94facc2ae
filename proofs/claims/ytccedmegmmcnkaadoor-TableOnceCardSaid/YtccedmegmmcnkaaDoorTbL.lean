/- The walks of layer 2, twelve: the laws. -/
import Derived.Test.YtccedmegmmcnkaaDoorTbK
namespace Go.Proofs.YtccedmegmmcnkaaDoor
open Go.RowKit Go.Shelf Gf Bt

theorem lt_known {w0 : World} {b : Nat} {s : Bool} {w : World} (h : Lt w0 b s w) : Calls Tryd.prog 11 #[] w fun e w' => e = .returned (.bool true) ∧ Lt w0 b s w' :=
  (known02 w h.2.2.2.1).mono fun _ _ ⟨h1, h2⟩ => ⟨h1, h.mute h2⟩
theorem tex_ne (n : Int) : tex n ≠ 0 := gpow_ne_zero two_ne _
theorem tlog_tex {n : Int} {r : Nat} (h : n % 255 = (r : Int)) (hr : r < 255) : tlog (tex n) = r := by
  unfold tlog
  rw [if_neg (tex_ne n)]
  unfold tex
  rw [h, Int.toNat_natCast]
  exact logN_pow hr
theorem tex_tlog {a : UInt8} (ha : a ≠ 0) : tex (tlog a : Int) = a := by rw [tex_nat, tlog_pow ha]
theorem tex_two {a b : UInt8} (ha : a ≠ 0) (hb : b ≠ 0) : tex ((tlog a : Int) + (tlog b : Int)) = gmul a b := by
  rw [← Int.natCast_add, tex_nat, gpow_add, tlog_pow ha, tlog_pow hb]
set_option maxRecDepth 100000 in
set_option maxHeartbeats 1600000 in
theorem law_TableNone (a b : UInt8) (n : Int) (w : World) (hT : Tab w) : Calls Tryd.prog 7 #[B8 a, B8 b, .int .i64 n] w fun r w' => r = .returned (.bool true) ∧ Below w.heap.size w w' := by
  have HK := bx (known02 w hT)
  have N1 := bx (fun a w' => log_nil a w')
  have N2 := bx (fun w' => made_nil w')
  have N3 := bx (fun n w' => exp_nil n w')
  have N4 := bx (fun a b w' => tmul_nil a b w')
  have N5 := bx (fun a w' => tinv_nil a w')
  have N6 := bx (fun a n w' => tpow_nil a n w')
  have hnot : ∀ (x : Bool) (w : World), (Op.unary .not (.bool x)).run Tryd.prog w = .ok (.bool (!x)) w := fun _ _ => rfl
  clear hT
  go_enter Tryd.func7, Tryd.ntmps7
  go_wp2_with (first
    | (go_at_call 11; refine HK.out.mono ?_; rintro e w1 ⟨rfl, hb⟩; have HB := bx hb; clear hb)
    | (go_at_call 9; refine (N1.out _ _).mono ?_; rintro e w' ⟨rfl, hw'⟩; have hw' := hw'.symm; subst hw')
    | (go_at_call 13; refine (N2.out _).mono ?_; rintro e w' ⟨rfl, hw'⟩; have hw' := hw'.symm; subst hw')
    | (go_at_call 10; refine (N3.out _ _).mono ?_; rintro e w' ⟨rfl, hw'⟩; have hw' := hw'.symm; subst hw')
    | (go_at_call 12; refine (N4.out _ _ _).mono ?_; rintro e w' ⟨rfl, hw'⟩; have hw' := hw'.symm; subst hw')
    | (go_at_call 14; refine (N5.out _ _).mono ?_; rintro e w' ⟨rfl, hw'⟩; have hw' := hw'.symm; subst hw')
    | (go_at_call 19; refine (N6.out _ _ _).mono ?_; rintro e w' ⟨rfl, hw'⟩; have hw' := hw'.symm; subst hw'))
  go_ret
  exact ⟨rfl, HB.out⟩
set_option maxRecDepth 100000 in
set_option maxHeartbeats 1600000 in
theorem law_TableAsks (a b : UInt8) (n k : Int) (w : World) (hT : Tab w) (hk : -32768 ≤ k) (hk2 : k ≤ 32767) : Calls Tryd.prog 5 #[B8 a, B8 b, .int .i64 n, .int .i16 k] w fun r w' => r = .returned (.bool true) ∧ Below w.heap.size w w' := by
  have HN := bx (lt_new w hT)
  obtain ⟨g, hg⟩ : ∃ g, w.heap.size = g := ⟨_, rfl⟩
  have HK := bx (fun s w' (h : Lt w g s w') => lt_known h)
  rw [hg] at HN
  clear hT
  have HI := bx (fun s w' (h : Lt w g s w') => lt_inv a h)
  have HI2 := bx (fun w' => ref_inv a w')
  have HL := bx (fun s w' (h : Lt w g s w') => lt_log a h)
  have HL2 := bx (fun w' => ref2_log a w')
  generalize decide (a ≠ 0) = da at HI HI2 HL HL2
  obtain ⟨p, hp⟩ : ∃ p, gmul a b = p := ⟨_, rfl⟩
  obtain ⟨q, hq⟩ : ∃ q, tex n = q := ⟨_, rfl⟩
  obtain ⟨r, hr⟩ : ∃ r, tex k = r := ⟨_, rfl⟩
  obtain ⟨u, hu⟩ : ∃ u, powZ a n = u := ⟨_, rfl⟩
  obtain ⟨v, hv⟩ : ∃ v, powZ a k = v := ⟨_, rfl⟩
  generalize ginv a = i at HI HI2
  generalize tlog a = l at HL HL2
  have HM : Bx (∀ s w', Lt w g s w' → Calls Tryd.prog 12 #[.pointer (some ⟨g, 0, none⟩), B8 a, B8 b] w' fun e w'' => e = .returned (B8 p) ∧ Lt w g true w'') := bx fun s w' h => by have h := lt_mul a b h; rw [hp] at h; exact h
  have HM2 : Bx (∀ w', Calls Tryd.prog 17 #[B8 a, B8 b] w' fun e w'' => e = .returned (B8 p) ∧ w'' = w') := bx fun w' => by have h := ref_mul a b w'; rw [hp] at h; exact h
  have HE : Bx (∀ s w', Lt w g s w' → Calls Tryd.prog 10 #[.pointer (some ⟨g, 0, none⟩), .int .i64 n] w' fun e w'' => e = .returned (B8 q) ∧ Lt w g true w'') := bx fun s w' h => by have h := lt_exp n h; rw [hq] at h; exact h
  have HE2 : Bx (∀ w', Calls Tryd.prog 18 #[.int .i64 n] w' fun e w'' => e = .returned (B8 q) ∧ w'' = w') := bx fun w' => by have h := ref2_exp n w'; rw [hq] at h; exact h
  have HF : Bx (∀ s w', Lt w g s w' → Calls Tryd.prog 10 #[.pointer (some ⟨g, 0, none⟩), .int .i64 k] w' fun e w'' => e = .returned (B8 r) ∧ Lt w g true w'') := bx fun s w' h => by have h := lt_exp k h; rw [hr] at h; exact h
  have HF2 : Bx (∀ w', Calls Tryd.prog 18 #[.int .i64 k] w' fun e w'' => e = .returned (B8 r) ∧ w'' = w') := bx fun w' => by have h := ref2_exp k w'; rw [hr] at h; exact h
  have HP : Bx (∀ s w', Lt w g s w' → Calls Tryd.prog 19 #[.pointer (some ⟨g, 0, none⟩), B8 a, .int .i64 n] w' fun e w'' => e = .returned (B8 u) ∧ Lt w g true w'') := bx fun s w' h => by have h := lt_pow a n h; rw [hu] at h; exact h
  have HP2 : Bx (∀ w', Calls Tryd.prog 20 #[B8 a, .int .i64 n] w' fun e w'' => e = .returned (B8 u) ∧ w'' = w') := bx fun w' => by have h := ref_pow a n w'; rw [hu] at h; exact h
  have HQ : Bx (∀ s w', Lt w g s w' → Calls Tryd.prog 19 #[.pointer (some ⟨g, 0, none⟩), B8 a, .int .i64 k] w' fun e w'' => e = .returned (B8 v) ∧ Lt w g true w'') := bx fun s w' h => by have h := lt_pow a k h; rw [hv] at h; exact h
  have HQ2 : Bx (∀ w', Calls Tryd.prog 20 #[B8 a, .int .i64 k] w' fun e w'' => e = .returned (B8 v) ∧ w'' = w') := bx fun w' => by have h := ref_pow a k w'; rw [hv] at h; exact h
  clear hp hq hr hu hv hg
  go_enter Tryd.func5, Tryd.ntmps5
  go_wp2_with (first
    | (go_at_call 8; refine HN.out.mono ?_; rintro e w1 ⟨rfl, hS⟩)
    | (go_at_call 11; with_reducible refine (HK.out _ _ (by assumption)).mono ?_; rintro e w' ⟨rfl, hS'⟩)
    | (go_at_call 14; first | (with_reducible refine (HI.out _ _ (by assumption)).mono ?_; rintro e w' ⟨rfl, hS'⟩))
    | (go_at_call 15; first | (with_reducible refine (HI2.out _).mono ?_; rintro e w' ⟨rfl, hw'⟩; have hw' := hw'.symm; subst hw'))
    | (go_at_call 9; first | (with_reducible refine (HL.out _ _ (by assumption)).mono ?_; rintro e w' ⟨rfl, hS'⟩))
    | (go_at_call 16; first | (with_reducible refine (HL2.out _).mono ?_; rintro e w' ⟨rfl, hw'⟩; have hw' := hw'.symm; subst hw'))
    | (go_at_call 12; first | (with_reducible refine (HM.out _ _ (by assumption)).mono ?_; rintro e w' ⟨rfl, hS'⟩))
    | (go_at_call 17; first | (with_reducible refine (HM2.out _).mono ?_; rintro e w' ⟨rfl, hw'⟩; have hw' := hw'.symm; subst hw'))
    | (go_at_call 10; first | (with_reducible refine (HE.out _ _ (by assumption)).mono ?_; rintro e w' ⟨rfl, hS'⟩) | (with_reducible refine (HF.out _ _ (by assumption)).mono ?_; rintro e w' ⟨rfl, hS'⟩))
    | (go_at_call 18; first | (with_reducible refine (HE2.out _).mono ?_; rintro e w' ⟨rfl, hw'⟩; have hw' := hw'.symm; subst hw') | (with_reducible refine (HF2.out _).mono ?_; rintro e w' ⟨rfl, hw'⟩; have hw' := hw'.symm; subst hw'))
    | (go_at_call 19; first | (with_reducible refine (HP.out _ _ (by assumption)).mono ?_; rintro e w' ⟨rfl, hS'⟩) | (with_reducible refine (HQ.out _ _ (by assumption)).mono ?_; rintro e w' ⟨rfl, hS'⟩))
    | (go_at_call 20; first | (with_reducible refine (HP2.out _).mono ?_; rintro e w' ⟨rfl, hw'⟩; have hw' := hw'.symm; subst hw') | (with_reducible refine (HQ2.out _).mono ?_; rintro e w' ⟨rfl, hw'⟩; have hw' := hw'.symm; subst hw')))
  go_ret
  exact ⟨rfl, Lt.below (by assumption)⟩
set_option maxRecDepth 100000 in
set_option maxHeartbeats 1600000 in
theorem logs_00 (n : Int) (w : World) (hT : Tab w) (hn : -32768 ≤ n) (hn2 : n ≤ 32767) : Calls Tryd.prog 3 #[.int .u8 0, .int .u8 0, .int .i16 n] w fun r w' => r = .returned (.bool true) ∧ Below w.heap.size w w' := by
  have HN := bx (lt_new w hT)
  obtain ⟨g, hg⟩ : ∃ g, w.heap.size = g := ⟨_, rfl⟩
  have HK := bx (fun s w' (h : Lt w g s w') => lt_known h)
  rw [hg] at HN
  clear hT
  obtain ⟨r, hr, hr2⟩ := mod_nat n
  have hye := tex_ne n
  have hyl := tlog_tex hr hr2
  obtain ⟨y, hy⟩ : ∃ y, tex n = y := ⟨_, rfl⟩
  rw [hy] at hye hyl
  obtain ⟨R, hR⟩ : ∃ R : Int, (r : Int) = R := ⟨_, rfl⟩
  have j1 : 0 ≤ R := by omega
  have j2 : R < 255 := by omega
  have j3 : (R - n).tmod 255 = 0 := Int.tmod_eq_zero_of_dvd (by omega)
  have E1 : Bx (∀ s w', Lt w g s w' → Calls Tryd.prog 10 #[.pointer (some ⟨g, 0, none⟩), .int .i64 n] w' fun e w'' => e = .returned (B8 y) ∧ Lt w g true w'') := bx fun s w' h => by have h := lt_exp n h; rw [hy] at h; exact h
  have L3 : Bx (∀ s w', Lt w g s w' → Calls Tryd.prog 9 #[.pointer (some ⟨g, 0, none⟩), B8 y] w' fun e w'' => e = .returned (.tuple #[.int .i64 R, .bool true]) ∧ Lt w g true w'') := bx fun s w' h => by have h := lt_log y h; rw [hyl, hR, show decide (y ≠ 0) = true by simp [hye]] at h; exact h
  have L1 : Bx (∀ s w', Lt w g s w' → Calls Tryd.prog 9 #[.pointer (some ⟨g, 0, none⟩), .int .u8 0] w' fun e w'' => e = .returned (.tuple #[.int .i64 0, .bool false]) ∧ Lt w g true w'') := bx fun s w' h => by have h := lt_log 0 h; exact h
  have M : Bx (∀ s w', Lt w g s w' → Calls Tryd.prog 12 #[.pointer (some ⟨g, 0, none⟩), .int .u8 0, .int .u8 0] w' fun e w'' => e = .returned (.int .u8 0) ∧ Lt w g true w'') := bx fun s w' h => by have h := lt_mul 0 0 h; exact h
  clear hr hr2 hye hyl hy hR hg
  go_enter Tryd.func3, Tryd.ntmps3
  go_wp2_with (first
    | (go_at_call 8; refine HN.out.mono ?_; rintro e w1 ⟨rfl, hS⟩)
    | (go_at_call 11; with_reducible refine (HK.out _ _ (by assumption)).mono ?_; rintro e w' ⟨rfl, hS'⟩)
    | (go_at_call 10; first | (with_reducible refine (E1.out _ _ (by assumption)).mono ?_; rintro e w' ⟨rfl, hS'⟩))
    | (go_at_call 9; first | (with_reducible refine (L3.out _ _ (by assumption)).mono ?_; rintro e w' ⟨rfl, hS'⟩) | (with_reducible refine (L1.out _ _ (by assumption)).mono ?_; rintro e w' ⟨rfl, hS'⟩))
    | (go_at_call 12; first | (with_reducible refine (M.out _ _ (by assumption)).mono ?_; rintro e w' ⟨rfl, hS'⟩)))
  go_ret
  exact ⟨rfl, Lt.below (by assumption)⟩
set_option maxRecDepth 100000 in
set_option maxHeartbeats 1600000 in
theorem logs_0b (b : UInt8) (n : Int) (w : World) (hT : Tab w) (hb : b ≠ 0) (hn : -32768 ≤ n) (hn2 : n ≤ 32767) : Calls Tryd.prog 3 #[.int .u8 0, B8 b, .int .i16 n] w fun r w' => r = .returned (.bool true) ∧ Below w.heap.size w w' := by
  have HN := bx (lt_new w hT)
  obtain ⟨g, hg⟩ : ∃ g, w.heap.size = g := ⟨_, rfl⟩
  have HK := bx (fun s w' (h : Lt w g s w') => lt_known h)
  rw [hg] at HN
  clear hT
  obtain ⟨r, hr, hr2⟩ := mod_nat n
  have hye := tex_ne n
  have hyl := tlog_tex hr hr2
  obtain ⟨y, hy⟩ : ∃ y, tex n = y := ⟨_, rfl⟩
  rw [hy] at hye hyl
  obtain ⟨R, hR⟩ : ∃ R : Int, (r : Int) = R := ⟨_, rfl⟩
  have j1 : 0 ≤ R := by omega
  have j2 : R < 255 := by omega
  have j3 : (R - n).tmod 255 = 0 := Int.tmod_eq_zero_of_dvd (by omega)
  have n4b : ((b.toNat : Int) == 0) = false := beq_false_of_ne (u8_ne hb)
  have N3b := bx (show (((b.toNat : Int) != 0) = true) from bne_iff_ne.2 (u8_ne hb))
  have n1b := u8_ne hb
  have n2b := u8_ne_nat hb
  obtain ⟨Y, hY⟩ : ∃ Y : Int, (tlog b : Int) = Y := ⟨_, rfl⟩
  have E1 : Bx (∀ s w', Lt w g s w' → Calls Tryd.prog 10 #[.pointer (some ⟨g, 0, none⟩), .int .i64 n] w' fun e w'' => e = .returned (B8 y) ∧ Lt w g true w'') := bx fun s w' h => by have h := lt_exp n h; rw [hy] at h; exact h
  have L3 : Bx (∀ s w', Lt w g s w' → Calls Tryd.prog 9 #[.pointer (some ⟨g, 0, none⟩), B8 y] w' fun e w'' => e = .returned (.tuple #[.int .i64 R, .bool true]) ∧ Lt w g true w'') := bx fun s w' h => by have h := lt_log y h; rw [hyl, hR, show decide (y ≠ 0) = true by simp [hye]] at h; exact h
  have L1 : Bx (∀ s w', Lt w g s w' → Calls Tryd.prog 9 #[.pointer (some ⟨g, 0, none⟩), .int .u8 0] w' fun e w'' => e = .returned (.tuple #[.int .i64 0, .bool false]) ∧ Lt w g true w'') := bx fun s w' h => by have h := lt_log 0 h; exact h
  have L2 : Bx (∀ s w', Lt w g s w' → Calls Tryd.prog 9 #[.pointer (some ⟨g, 0, none⟩), B8 b] w' fun e w'' => e = .returned (.tuple #[.int .i64 Y, .bool true]) ∧ Lt w g true w'') := bx fun s w' h => by have h := lt_log b h; rw [hY, show decide (b ≠ 0) = true by simp [hb]] at h; exact h
  have M : Bx (∀ s w', Lt w g s w' → Calls Tryd.prog 12 #[.pointer (some ⟨g, 0, none⟩), .int .u8 0, B8 b] w' fun e w'' => e = .returned (.int .u8 0) ∧ Lt w g true w'') := bx fun s w' h => by have h := lt_mul 0 b h; rw [zero_gmul] at h; exact h
  clear hr hr2 hye hyl hy hR hg hb hY
  go_enter Tryd.func3, Tryd.ntmps3
  go_wp2_with (first
    | (go_at_call 8; refine HN.out.mono ?_; rintro e w1 ⟨rfl, hS⟩)
    | (go_at_call 11; with_reducible refine (HK.out _ _ (by assumption)).mono ?_; rintro e w' ⟨rfl, hS'⟩)
    | (go_at_call 10; first | (with_reducible refine (E1.out _ _ (by assumption)).mono ?_; rintro e w' ⟨rfl, hS'⟩))
    | (go_at_call 9; first | (with_reducible refine (L3.out _ _ (by assumption)).mono ?_; rintro e w' ⟨rfl, hS'⟩) | (with_reducible refine (L1.out _ _ (by assumption)).mono ?_; rintro e w' ⟨rfl, hS'⟩) | (with_reducible refine (L2.out _ _ (by assumption)).mono ?_; rintro e w' ⟨rfl, hS'⟩))
    | (go_at_call 12; first | (with_reducible refine (M.out _ _ (by assumption)).mono ?_; rintro e w' ⟨rfl, hS'⟩)))
  go_ret
  exact ⟨by show Ending.returned (Value.bool ((b.toNat : Int) != 0)) = _; rw [N3b.out], Lt.below (by assumption)⟩
set_option maxRecDepth 100000 in
set_option maxHeartbeats 1600000 in
theorem logs_a0 (a : UInt8) (n : Int) (w : World) (hT : Tab w) (ha : a ≠ 0) (hn : -32768 ≤ n) (hn2 : n ≤ 32767) : Calls Tryd.prog 3 #[B8 a, .int .u8 0, .int .i16 n] w fun r w' => r = .returned (.bool true) ∧ Below w.heap.size w w' := by
  have HN := bx (lt_new w hT)
  obtain ⟨g, hg⟩ : ∃ g, w.heap.size = g := ⟨_, rfl⟩
  have HK := bx (fun s w' (h : Lt w g s w') => lt_known h)
  rw [hg] at HN
  clear hT
  obtain ⟨r, hr, hr2⟩ := mod_nat n
  have hye := tex_ne n
  have hyl := tlog_tex hr hr2
  obtain ⟨y, hy⟩ : ∃ y, tex n = y := ⟨_, rfl⟩
  rw [hy] at hye hyl
  obtain ⟨R, hR⟩ : ∃ R : Int, (r : Int) = R := ⟨_, rfl⟩
  have j1 : 0 ≤ R := by omega
  have j2 : R < 255 := by omega
  have j3 : (R - n).tmod 255 = 0 := Int.tmod_eq_zero_of_dvd (by omega)
  have n4a : ((a.toNat : Int) == 0) = false := beq_false_of_ne (u8_ne ha)
  have N3a := bx (show (((a.toNat : Int) != 0) = true) from bne_iff_ne.2 (u8_ne ha))
  have n1a := u8_ne ha
  have n2a := u8_ne_nat ha
  obtain ⟨X, hX⟩ : ∃ X : Int, (tlog a : Int) = X := ⟨_, rfl⟩
  have E1 : Bx (∀ s w', Lt w g s w' → Calls Tryd.prog 10 #[.pointer (some ⟨g, 0, none⟩), .int .i64 n] w' fun e w'' => e = .returned (B8 y) ∧ Lt w g true w'') := bx fun s w' h => by have h := lt_exp n h; rw [hy] at h; exact h
  have L3 : Bx (∀ s w', Lt w g s w' → Calls Tryd.prog 9 #[.pointer (some ⟨g, 0, none⟩), B8 y] w' fun e w'' => e = .returned (.tuple #[.int .i64 R, .bool true]) ∧ Lt w g true w'') := bx fun s w' h => by have h := lt_log y h; rw [hyl, hR, show decide (y ≠ 0) = true by simp [hye]] at h; exact h
  have L1 : Bx (∀ s w', Lt w g s w' → Calls Tryd.prog 9 #[.pointer (some ⟨g, 0, none⟩), .int .u8 0] w' fun e w'' => e = .returned (.tuple #[.int .i64 0, .bool false]) ∧ Lt w g true w'') := bx fun s w' h => by have h := lt_log 0 h; exact h
  have L2 : Bx (∀ s w', Lt w g s w' → Calls Tryd.prog 9 #[.pointer (some ⟨g, 0, none⟩), B8 a] w' fun e w'' => e = .returned (.tuple #[.int .i64 X, .bool true]) ∧ Lt w g true w'') := bx fun s w' h => by have h := lt_log a h; rw [hX, show decide (a ≠ 0) = true by simp [ha]] at h; exact h
  have M : Bx (∀ s w', Lt w g s w' → Calls Tryd.prog 12 #[.pointer (some ⟨g, 0, none⟩), B8 a, .int .u8 0] w' fun e w'' => e = .returned (.int .u8 0) ∧ Lt w g true w'') := bx fun s w' h => by have h := lt_mul a 0 h; rw [gmul_zero] at h; exact h
  clear hr hr2 hye hyl hy hR hg ha hX
  go_enter Tryd.func3, Tryd.ntmps3
  go_wp2_with (first
    | (go_at_call 8; refine HN.out.mono ?_; rintro e w1 ⟨rfl, hS⟩)
    | (go_at_call 11; with_reducible refine (HK.out _ _ (by assumption)).mono ?_; rintro e w' ⟨rfl, hS'⟩)
    | (go_at_call 10; first | (with_reducible refine (E1.out _ _ (by assumption)).mono ?_; rintro e w' ⟨rfl, hS'⟩))
    | (go_at_call 9; first | (with_reducible refine (L3.out _ _ (by assumption)).mono ?_; rintro e w' ⟨rfl, hS'⟩) | (with_reducible refine (L1.out _ _ (by assumption)).mono ?_; rintro e w' ⟨rfl, hS'⟩) | (with_reducible refine (L2.out _ _ (by assumption)).mono ?_; rintro e w' ⟨rfl, hS'⟩))
    | (go_at_call 12; first | (with_reducible refine (M.out _ _ (by assumption)).mono ?_; rintro e w' ⟨rfl, hS'⟩)))
  go_ret
  exact ⟨by show Ending.returned (Value.bool ((a.toNat : Int) != 0)) = _; rw [N3a.out], Lt.below (by assumption)⟩
set_option maxRecDepth 100000 in
set_option maxHeartbeats 1600000 in
theorem logs_ab (a b : UInt8) (n : Int) (w : World) (hT : Tab w) (ha : a ≠ 0) (hb : b ≠ 0) (hn : -32768 ≤ n) (hn2 : n ≤ 32767) : Calls Tryd.prog 3 #[B8 a, B8 b, .int .i16 n] w fun r w' => r = .returned (.bool true) ∧ Below w.heap.size w w' := by
  have HN := bx (lt_new w hT)
  obtain ⟨g, hg⟩ : ∃ g, w.heap.size = g := ⟨_, rfl⟩
  have HK := bx (fun s w' (h : Lt w g s w') => lt_known h)
  rw [hg] at HN
  clear hT
  obtain ⟨r, hr, hr2⟩ := mod_nat n
  have hye := tex_ne n
  have hyl := tlog_tex hr hr2
  obtain ⟨y, hy⟩ : ∃ y, tex n = y := ⟨_, rfl⟩
  rw [hy] at hye hyl
  obtain ⟨R, hR⟩ : ∃ R : Int, (r : Int) = R := ⟨_, rfl⟩
  have j1 : 0 ≤ R := by omega
  have j2 : R < 255 := by omega
  have j3 : (R - n).tmod 255 = 0 := Int.tmod_eq_zero_of_dvd (by omega)
  have n4a : ((a.toNat : Int) == 0) = false := beq_false_of_ne (u8_ne ha)
  have N3a := bx (show (((a.toNat : Int) != 0) = true) from bne_iff_ne.2 (u8_ne ha))
  have n1a := u8_ne ha
  have n2a := u8_ne_nat ha
  have n4b : ((b.toNat : Int) == 0) = false := beq_false_of_ne (u8_ne hb)
  have N3b := bx (show (((b.toNat : Int) != 0) = true) from bne_iff_ne.2 (u8_ne hb))
  have n1b := u8_ne hb
  have n2b := u8_ne_nat hb
  obtain ⟨p, hp⟩ : ∃ p, gmul a b = p := ⟨_, rfl⟩
  have ta := tlog_lt a
  have tb := tlog_lt b
  obtain ⟨X, hX⟩ : ∃ X : Int, (tlog a : Int) = X := ⟨_, rfl⟩
  obtain ⟨Y, hY⟩ : ∃ Y : Int, (tlog b : Int) = Y := ⟨_, rfl⟩
  have x1 : 0 ≤ X := by omega
  have x2 : X < 255 := by omega
  have y1 : 0 ≤ Y := by omega
  have y2 : Y < 255 := by omega
  have E1 : Bx (∀ s w', Lt w g s w' → Calls Tryd.prog 10 #[.pointer (some ⟨g, 0, none⟩), .int .i64 n] w' fun e w'' => e = .returned (B8 y) ∧ Lt w g true w'') := bx fun s w' h => by have h := lt_exp n h; rw [hy] at h; exact h
  have L3 : Bx (∀ s w', Lt w g s w' → Calls Tryd.prog 9 #[.pointer (some ⟨g, 0, none⟩), B8 y] w' fun e w'' => e = .returned (.tuple #[.int .i64 R, .bool true]) ∧ Lt w g true w'') := bx fun s w' h => by have h := lt_log y h; rw [hyl, hR, show decide (y ≠ 0) = true by simp [hye]] at h; exact h
  have L1 : Bx (∀ s w', Lt w g s w' → Calls Tryd.prog 9 #[.pointer (some ⟨g, 0, none⟩), B8 a] w' fun e w'' => e = .returned (.tuple #[.int .i64 X, .bool true]) ∧ Lt w g true w'') := bx fun s w' h => by have h := lt_log a h; rw [hX, show decide (a ≠ 0) = true by simp [ha]] at h; exact h
  have L2 : Bx (∀ s w', Lt w g s w' → Calls Tryd.prog 9 #[.pointer (some ⟨g, 0, none⟩), B8 b] w' fun e w'' => e = .returned (.tuple #[.int .i64 Y, .bool true]) ∧ Lt w g true w'') := bx fun s w' h => by have h := lt_log b h; rw [hY, show decide (b ≠ 0) = true by simp [hb]] at h; exact h
  have M : Bx (∀ s w', Lt w g s w' → Calls Tryd.prog 12 #[.pointer (some ⟨g, 0, none⟩), B8 a, B8 b] w' fun e w'' => e = .returned (B8 p) ∧ Lt w g true w'') := bx fun s w' h => by have h := lt_mul a b h; rw [hp] at h; exact h
  have E2 : Bx (∀ s w', Lt w g s w' → Calls Tryd.prog 10 #[.pointer (some ⟨g, 0, none⟩), .int .i64 X] w' fun e w'' => e = .returned (B8 a) ∧ Lt w g true w'') := bx fun s w' h => by have h := lt_exp X h; rw [← hX, tex_tlog ha] at h; rw [← hX]; exact h
  have E3 : Bx (∀ s w', Lt w g s w' → Calls Tryd.prog 10 #[.pointer (some ⟨g, 0, none⟩), .int .i64 (X + Y)] w' fun e w'' => e = .returned (B8 p) ∧ Lt w g true w'') := bx fun s w' h => by have h := lt_exp (X + Y) h; rw [show tex (X + Y) = p by rw [← hX, ← hY, tex_two ha hb, hp]] at h; exact h
  clear hr hr2 hye hyl hy hR hg ha hb hX hY ta tb hp
  go_enter Tryd.func3, Tryd.ntmps3
  go_wp2_with (first
    | (go_at_call 8; refine HN.out.mono ?_; rintro e w1 ⟨rfl, hS⟩)
    | (go_at_call 11; with_reducible refine (HK.out _ _ (by assumption)).mono ?_; rintro e w' ⟨rfl, hS'⟩)
    | (go_at_call 10; first | (with_reducible refine (E1.out _ _ (by assumption)).mono ?_; rintro e w' ⟨rfl, hS'⟩) | (with_reducible refine (E2.out _ _ (by assumption)).mono ?_; rintro e w' ⟨rfl, hS'⟩) | (with_reducible refine (E3.out _ _ (by assumption)).mono ?_; rintro e w' ⟨rfl, hS'⟩))
    | (go_at_call 9; first | (with_reducible refine (L3.out _ _ (by assumption)).mono ?_; rintro e w' ⟨rfl, hS'⟩) | (with_reducible refine (L1.out _ _ (by assumption)).mono ?_; rintro e w' ⟨rfl, hS'⟩) | (with_reducible refine (L2.out _ _ (by assumption)).mono ?_; rintro e w' ⟨rfl, hS'⟩))
    | (go_at_call 12; first | (with_reducible refine (M.out _ _ (by assumption)).mono ?_; rintro e w' ⟨rfl, hS'⟩)))
  go_ret
  exact ⟨rfl, Lt.below (by assumption)⟩
theorem law_TableLogs (a b : UInt8) (n : Int) (w : World) (hT : Tab w) (hn : -32768 ≤ n) (hn2 : n ≤ 32767) : Calls Tryd.prog 3 #[B8 a, B8 b, .int .i16 n] w fun r w' => r = .returned (.bool true) ∧ Below w.heap.size w w' := by
  by_cases ha : a = 0
  · subst ha
    by_cases hb : b = 0
    · subst hb; exact logs_00 n w hT hn hn2
    · exact logs_0b b n w hT hb hn hn2
  · by_cases hb : b = 0
    · subst hb; exact logs_a0 a n w hT ha hn hn2
    · exact logs_ab a b n w hT ha hb hn hn2
end Go.Proofs.YtccedmegmmcnkaaDoor

/- The walks of layer 2, seven: Mul, Inv, Pow. -/
import Derived.Test.YtccedmegmmcnkaaDoorTbF
namespace Go.Proofs.YtccedmegmmcnkaaDoor
open Go.RowKit Go.Shelf Gf Bt

theorem u8_ne {a : UInt8} (h : a ≠ 0) : ¬ (a.toNat : Int) = 0 := fun e => h (u8_ext ((Int.ofNat_eq_zero.1 e).trans rfl))
theorem u8_ne_nat {a : UInt8} (h : a ≠ 0) : ¬ a.toNat = 0 := fun e => h (u8_ext (by rw [e]; rfl))
theorem ginv_zero : ginv 0 = 0 := by decide +kernel
/-- A power: of 0 all but the first are 0. -/
def powZ (a : UInt8) (n : Int) : UInt8 := if a = 0 ∧ n ≠ 0 then 0 else gpow a (n % 255).toNat
theorem two_ne : (2 : UInt8) ≠ 0 := by decide
theorem tex_nat (n : Nat) : tex (n : Int) = gpow 2 n := by
  unfold tex
  rw [show ((n : Int) % 255).toNat = n % 255 by omega]
  exact gpow_mod 2 two_ne n
theorem exp_sum {a b : UInt8} (ha : a ≠ 0) (hb : b ≠ 0) : gpow 2 ((tlog a + tlog b) % 255) = gmul a b := by
  rw [gpow_mod 2 two_ne, gpow_add, tlog_pow ha, tlog_pow hb]
theorem exp_neg {a : UInt8} (ha : a ≠ 0) : tex (-(tlog a : Int)) = ginv a := by
  refine ginv_unique ?_
  have h : tex (-(tlog a : Int)) = gpow 2 ((-(tlog a : Int)) % 255).toNat := rfl
  rw [h]
  have hx := tlog_lt a
  conv => lhs; arg 1; rw [← tlog_pow ha]
  rw [← gpow_add]
  generalize tlog a = x at hx
  by_cases h0 : x = 0
  · subst h0; rfl
  · rw [show x + (-(x : Int) % 255).toNat = 255 by omega]
    exact gpow_two_255
theorem exp_times {a : UInt8} (ha : a ≠ 0) {n : Int} {r : Nat} (hr : n % 255 = (r : Int)) : tex (((tlog a * r : Nat)) : Int) = powZ a n := by
  rw [tex_nat, gpow_mul, tlog_pow ha]
  unfold powZ
  rw [if_neg (fun h => ha h.1), hr, Int.toNat_natCast]
theorem powZ_zero (a : UInt8) : powZ a 0 = 1 := by unfold powZ; rw [if_neg (fun h => h.2 rfl)]; rfl
/-- A table that is made, all else as it was. -/
def Td (b : Nat) (w w' : World) : Prop := St b true w' ∧ w.grownBy w' (some b)
section
variable {b : Nat} {w w' : World} (hT : Tab w) (hne : 1 ≠ b)
include hT hne
theorem log_rd (a : UInt8) (h : Td b w w') : Calls Tryd.prog 9 #[.pointer (some ⟨b, 0, none⟩), B8 a] w' fun e w'' => e = .returned (.tuple #[.int .i64 (tlog a), .bool (decide (a ≠ 0))]) ∧ Td b w w'' :=
  (log_any b true a w' (hT.grown h.2 hne) h.1 hne).mono fun _ _ ⟨h1, h2, h3⟩ => ⟨h1, h2, h.2.trans h3⟩
theorem exp_rd (n : Int) (h : Td b w w') : Calls Tryd.prog 10 #[.pointer (some ⟨b, 0, none⟩), .int .i64 n] w' fun e w'' => e = .returned (B8 (tex n)) ∧ Td b w w'' :=
  (exp_any b true n w' (hT.grown h.2 hne) h.1 hne).mono fun _ _ ⟨h1, h2, h3⟩ => ⟨h1, h2, h.2.trans h3⟩
theorem of_rd (h : Td b w w') : Calls Tryd.prog 21 #[.pointer (some ⟨b, 0, none⟩)] w' fun e w'' => e = .returned (.pointer (some ⟨b, 4, none⟩)) ∧ Td b w w'' :=
  (of_any b true w' (hT.grown h.2 hne) h.1 hne).mono fun _ _ ⟨h1, h2, h3⟩ => ⟨h1, h2, h.2.trans h3⟩
end
set_option maxRecDepth 100000 in
set_option maxHeartbeats 1600000 in
theorem tmul_any (b : Nat) (s : Bool) (x y : UInt8) (w : World) (hT : Tab w) (h : St b s w) (hne : 1 ≠ b) :
    Calls Tryd.prog 12 #[.pointer (some ⟨b, 0, none⟩), B8 x, B8 y] w fun e w' => e = .returned (B8 (gmul x y)) ∧ Td b w w' := by
  have HL1 := bx (log_any b s x w hT h hne)
  have HL2 := bx (fun w' (h : Td b w w') => log_rd hT hne y h)
  have HO := bx (fun w' (h : Td b w w') => of_rd hT hne h)
  have hnot : ∀ (x : Bool) (w : World), (Op.unary .not (.bool x)).run Tryd.prog w = .ok (.bool (!x)) w := fun _ _ => rfl
  clear hT h hne
  by_cases hx : x = 0
  · subst hx
    rw [show decide ((0 : UInt8) ≠ 0) = false from rfl] at HL1
    rw [zero_gmul]
    go_enter Tryd.func12, Tryd.ntmps12
    go_wp2_with (go_at_call 9; first | (refine (HL2.out _ HW2.out).mono ?_; rintro e w3 ⟨rfl, hw3⟩; have HW3 := bx hw3; clear hw3) | (refine HL1.out.mono ?_; rintro e w2 ⟨rfl, hw2⟩; have HW2 : Bx (Td b w w2) := bx hw2; clear hw2))
    go_ret
    exact ⟨rfl, HW3.out⟩
  · by_cases hy : y = 0
    · subst hy
      rw [show decide (x ≠ 0) = true by simp [hx]] at HL1
      rw [show decide ((0 : UInt8) ≠ 0) = false from rfl] at HL2
      rw [gmul_zero]
      clear hx
      go_enter Tryd.func12, Tryd.ntmps12
      go_wp2_with (go_at_call 9; first | (refine (HL2.out _ HW2.out).mono ?_; rintro e w3 ⟨rfl, hw3⟩; have HW3 := bx hw3; clear hw3) | (refine HL1.out.mono ?_; rintro e w2 ⟨rfl, hw2⟩; have HW2 : Bx (Td b w w2) := bx hw2; clear hw2))
      go_ret
      exact ⟨rfl, HW3.out⟩
    · rw [show decide (x ≠ 0) = true by simp [hx]] at HL1
      rw [show decide (y ≠ 0) = true by simp [hy]] at HL2
      have hl1 := tlog_lt x
      have hl2 := tlog_lt y
      have HC : Bx (∀ w2 : World, Td b w w2 → w2.cell? ⟨b, 4 + (tlog x + tlog y), none⟩ = some (B8 (gmul x y))) := bx (fun w2 h => by
        rw [cell_exp h.1 (show tlog x + tlog y < 510 by omega), exp_sum hx hy])
      generalize tlog x = p at *
      generalize tlog y = q at *
      generalize gmul x y = z at *
      have i1 : (p : Int) < 255 := by omega
      have i2 : (q : Int) < 255 := by omega
      have i3 : (0 : Int) ≤ (p : Int) := by omega
      have i4 : (0 : Int) ≤ (q : Int) := by omega
      clear hx hy hl1 hl2
      go_enter Tryd.func12, Tryd.ntmps12
      go_wp2_with (first
        | (go_at_call 9; first | (refine (HL2.out _ HW2.out).mono ?_; rintro e w3 ⟨rfl, hw3⟩; have HW3 := bx hw3; clear hw3) | (refine HL1.out.mono ?_; rintro e w2 ⟨rfl, hw2⟩; have HW2 : Bx (Td b w w2) := bx hw2; clear hw2))
        | (go_at_call 21; refine (HO.out _ HW3.out).mono ?_; rintro e w4 ⟨rfl, hw4⟩; have HW4 := bx hw4; have cc := HC.out w4 hw4; clear hw4))
      go_ret
      exact ⟨rfl, HW4.out⟩
theorem tmul_nil (x y : UInt8) (w : World) : Calls Tryd.prog 12 #[.pointer none, B8 x, B8 y] w fun e w' => e = .returned (B8 0) ∧ w' = w := by
  have HL := bx (fun a w => log_nil a w)
  have hnot : ∀ (x : Bool) (w : World), (Op.unary .not (.bool x)).run Tryd.prog w = .ok (.bool (!x)) w := fun _ _ => rfl
  go_enter Tryd.func12, Tryd.ntmps12
  go_wp2_with (go_at_call 9; refine (HL.out _ _).mono ?_; rintro e w' ⟨rfl, hw'⟩; have hw' := hw'.symm; subst hw')
  go_ret
  exact ⟨rfl, rfl⟩
set_option maxRecDepth 100000 in
set_option maxHeartbeats 1600000 in
theorem tinv_any (b : Nat) (s : Bool) (x : UInt8) (w : World) (hT : Tab w) (h : St b s w) (hne : 1 ≠ b) :
    Calls Tryd.prog 14 #[.pointer (some ⟨b, 0, none⟩), B8 x] w fun e w' => e = .returned (.tuple #[B8 (ginv x), .bool (decide (x ≠ 0))]) ∧ Td b w w' := by
  have HL1 := bx (log_any b s x w hT h hne)
  have HE := bx (fun w' (h : Td b w w') => exp_rd hT hne (-(tlog x : Int)) h)
  have hnot : ∀ (x : Bool) (w : World), (Op.unary .not (.bool x)).run Tryd.prog w = .ok (.bool (!x)) w := fun _ _ => rfl
  clear hT h hne
  by_cases hx : x = 0
  · subst hx
    rw [show decide ((0 : UInt8) ≠ 0) = false from rfl] at HL1 ⊢
    rw [ginv_zero]
    clear HE
    go_enter Tryd.func14, Tryd.ntmps14
    go_wp2_with (go_at_call 9; refine HL1.out.mono ?_; rintro e w2 ⟨rfl, hw2⟩; have HW2 : Bx (Td b w w2) := bx hw2; clear hw2)
    go_ret2
    exact ⟨rfl, HW2.out⟩
  · rw [show decide (x ≠ 0) = true by simp [hx]] at HL1 ⊢
    rw [exp_neg hx] at HE
    have hl1 := tlog_lt x
    generalize tlog x = p at *
    generalize ginv x = z at *
    have i1 : (p : Int) < 255 := by omega
    have i3 : (0 : Int) ≤ (p : Int) := by omega
    clear hx hl1
    go_enter Tryd.func14, Tryd.ntmps14
    go_wp2_with (first
      | (go_at_call 9; refine HL1.out.mono ?_; rintro e w2 ⟨rfl, hw2⟩; have HW2 : Bx (Td b w w2) := bx hw2; clear hw2)
      | (go_at_call 10; refine (HE.out _ HW2.out).mono ?_; rintro e w3 ⟨rfl, hw3⟩; have HW3 := bx hw3; clear hw3))
    go_ret2
    exact ⟨rfl, HW3.out⟩
theorem tinv_nil (x : UInt8) (w : World) : Calls Tryd.prog 14 #[.pointer none, B8 x] w fun e w' => e = .returned (.tuple #[B8 0, .bool false]) ∧ w' = w := by
  have HL := bx (fun a w => log_nil a w)
  have hnot : ∀ (x : Bool) (w : World), (Op.unary .not (.bool x)).run Tryd.prog w = .ok (.bool (!x)) w := fun _ _ => rfl
  go_enter Tryd.func14, Tryd.ntmps14
  go_wp2_with (go_at_call 9; refine (HL.out _ _).mono ?_; rintro e w' ⟨rfl, hw'⟩; have hw' := hw'.symm; subst hw')
  go_ret2
  exact ⟨rfl, rfl⟩
end Go.Proofs.YtccedmegmmcnkaaDoor

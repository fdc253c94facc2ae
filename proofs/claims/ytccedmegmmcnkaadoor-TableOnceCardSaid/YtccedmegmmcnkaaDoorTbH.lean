/- The walks of layer 2, eight: Pow. -/
import Derived.Test.YtccedmegmmcnkaaDoorTbG
namespace Go.Proofs.YtccedmegmmcnkaaDoor
open Go.RowKit Go.Shelf Gf Bt

set_option maxRecDepth 100000 in
theorem tpow_nil (x : UInt8) (n : Int) (w : World) : Calls Tryd.prog 19 #[.pointer none, B8 x, .int .i64 n] w fun e w' => e = .returned (B8 0) ∧ w' = w := by
  have HL := bx (fun a w => log_nil a w)
  have hnot : ∀ (x : Bool) (w : World), (Op.unary .not (.bool x)).run Tryd.prog w = .ok (.bool (!x)) w := fun _ _ => rfl
  go_enter Tryd.func19, Tryd.ntmps19
  go_wp2_with (go_at_call 9; refine (HL.out _ _).mono ?_; rintro e w' ⟨rfl, hw'⟩; have hw' := hw'.symm; subst hw')
  all_goals
    go_ret
    exact ⟨rfl, rfl⟩
set_option maxRecDepth 100000 in
set_option maxHeartbeats 1600000 in
theorem tpow_any (b : Nat) (s : Bool) (x : UInt8) (n : Int) (w : World) (hT : Tab w) (h : St b s w) (hne : 1 ≠ b) :
    Calls Tryd.prog 19 #[.pointer (some ⟨b, 0, none⟩), B8 x, .int .i64 n] w fun e w' => e = .returned (B8 (powZ x n)) ∧ Td b w w' := by
  have HL1 := bx (log_any b s x w hT h hne)
  have HLE := bx (fun w' => least_any n w')
  have HE := bx (fun k w' (h : Td b w w') => exp_rd hT hne k h)
  have hnot : ∀ (x : Bool) (w : World), (Op.unary .not (.bool x)).run Tryd.prog w = .ok (.bool (!x)) w := fun _ _ => rfl
  clear hT h hne
  by_cases hn : n = 0
  · subst hn
    rw [powZ_zero]
    clear HLE HE
    generalize decide (x ≠ 0) = dx at HL1
    generalize tlog x = p at HL1
    go_enter Tryd.func19, Tryd.ntmps19
    cases dx
    all_goals
      go_wp2_with (go_at_call 9; refine HL1.out.mono ?_; rintro e w2 ⟨rfl, hw2⟩; have HW2 : Bx (Td b w w2) := bx hw2; clear hw2)
      go_ret
      exact ⟨rfl, HW2.out⟩
  · by_cases hx : x = 0
    · subst hx
      rw [show decide ((0 : UInt8) ≠ 0) = false from rfl] at HL1
      rw [show powZ 0 n = 0 from if_pos ⟨rfl, hn⟩]
      clear HLE HE
      generalize tlog 0 = p at HL1
      go_enter Tryd.func19, Tryd.ntmps19
      go_wp2_with (go_at_call 9; refine HL1.out.mono ?_; rintro e w2 ⟨rfl, hw2⟩; have HW2 : Bx (Td b w w2) := bx hw2; clear hw2)
      go_ret
      exact ⟨rfl, HW2.out⟩
    · rw [show decide (x ≠ 0) = true by simp [hx]] at HL1
      obtain ⟨r, hr, hr2⟩ := mod_nat n
      rw [hr] at HLE
      have hl1 := tlog_lt x
      have HX := bx (exp_times hx hr)
      obtain ⟨p, hp⟩ : ∃ p, tlog x = p := ⟨_, rfl⟩
      rw [hp] at HL1 HX hl1
      obtain ⟨P, hP⟩ : ∃ P : Int, (p : Int) = P := ⟨_, rfl⟩
      obtain ⟨R, hR⟩ : ∃ R : Int, (r : Int) = R := ⟨_, rfl⟩
      have HX2 := bx (show tex (P * R) = powZ x n by rw [← hP, ← hR, ← Int.natCast_mul]; exact HX.out)
      rw [hP] at HL1
      rw [hR] at HLE
      have i1 : P < 255 := by omega
      have i2 : R < 255 := by omega
      have i3 : 0 ≤ P := by omega
      have i4 : 0 ≤ R := by omega
      have i5 : 0 ≤ P * R := Int.mul_nonneg i3 i4
      have i6 : P * R ≤ 255 * 255 := Int.mul_le_mul (by omega) (by omega) i4 (by omega)
      clear hx hl1 hP hR hr HX hp hr2
      go_enter Tryd.func19, Tryd.ntmps19
      go_wp2_with (first
        | (go_at_call 9; refine HL1.out.mono ?_; rintro e w2 ⟨rfl, hw2⟩; have HW2 : Bx (Td b w w2) := bx hw2; clear hw2)
        | (go_at_call 22; refine (HLE.out _).mono ?_; rintro e w' ⟨rfl, hw'⟩; have hw' := hw'.symm; subst hw')
        | (go_at_call 10; refine (HE.out (P * R) _ HW2.out).mono ?_; rintro e w3 ⟨rfl, hw3⟩; have HW3 := bx hw3; clear hw3))
      go_ret
      exact ⟨by rw [HX2.out]; rfl, HW3.out⟩
end Go.Proofs.YtccedmegmmcnkaaDoor

/- The walks of layer 21, eighteen: Blocks at any arguments. -/
import Derived.Test.YtkjaonlelkfhaaaWeaveQ
namespace Go.Proofs.Ytkjaonlelkfhaaa
open Go.RowKit Gf Bt

theorem blocks_no (n k b d : Int) (A : Option Addr) (len cap : Nat) (w : World) (hno : loomOk n k b d = false) :
    Calls Try.prog 16 #[C3 n k b, .int .i64 d, .slice A len cap] w fun e w' => e = .returned (.tuple #[.slice none 0 0, .int .u16 10]) ∧ Below w.heap.size w w' := by
  go_enter Try.func16, Try.ntmps16
  go_wp2_with (go_at_call 21; refine (loom_right n k b d _).mono ?_; rintro e w1 ⟨rfl, hb1⟩; rw [hno]; have HL := bx ((((Below.refl _ _).alloc (Nat.le_refl _) _).alloc (by simp) _ : Below w.heap.size w ((w.alloc (Obj.cells #[.int .i64 n, .int .i64 k, .int .i64 b] 24)).alloc (Obj.cells #[.int .i64 n, .int .i64 k, .int .i64 b, .int .i64 d] 50))).trans (hb1.mono (by simp; omega))); clear hb1)
  go_ret2
  exact ⟨rfl, HL.out⟩

theorem wsum {a b c : Nat} (h : a + b = c) (ha : a ≤ 2000000) (hb : b ≤ 2000000) : wrap64 ((a : Int) + (b : Int)) = (c : Int) := by unfold wrap64; omega
theorem wprod {a b c : Nat} (h : a * b = c) (hc : c ≤ 1000000000) : wrap64 ((a : Int) * (b : Int)) = (c : Int) := by rw [← Int.natCast_mul, h]; unfold wrap64; omega
/-- How many blocks there are. -/
def upM (K len : Nat) : Nat := (len + (K - 1)) / K
def upMD (K D len : Nat) : Nat := (upM K len + (D - 1)) / D * D
theorem upM_le {K len : Nat} (hK : 0 < K) : len ≤ upM K len * K := by
  unfold upM
  have h1 := Nat.div_add_mod (len + (K - 1)) K
  have h2 := Nat.mod_lt (len + (K - 1)) hK
  rw [Nat.mul_comm] at h1
  omega
theorem upM_lt {K len : Nat} : (upM K len - 1) * K < len ∨ upM K len = 0 := by
  rcases Nat.eq_zero_or_pos (upM K len) with h0 | h0
  · exact .inr h0
  · refine .inl ?_
    obtain ⟨m, hm⟩ : ∃ m, upM K len = m + 1 := ⟨upM K len - 1, by omega⟩
    rw [hm, Nat.add_sub_cancel]
    have h2 : upM K len * K ≤ len + (K - 1) := Nat.div_mul_le_self _ _
    rw [hm, Nat.add_mul, Nat.one_mul] at h2
    rcases Nat.eq_zero_or_pos K with hK | hK
    · subst hK; simp [upM] at hm
    · omega
theorem upMD_only {K D len m : Nat} (hD : 0 < D) (h1 : upM K len ≤ m) (h2 : m < upM K len + D) (h3 : m % D = 0) : m = upMD K D len := by
  unfold upMD
  obtain ⟨q, rfl⟩ := Nat.dvd_of_mod_eq_zero h3
  rw [Nat.mul_comm D q] at h1 h2 ⊢
  have : (upM K len + (D - 1)) / D = q := Nat.div_eq_of_lt_le (by omega) (by rw [Nat.add_mul, Nat.one_mul]; omega)
  rw [this]
/-- What Blocks tells. -/
def bErr (n k b d : Int) : Int := if loomOk n k b d = true then 0 else 10
def bRows (n k b d : Int) (bs : List UInt8) : List (List UInt8) := if loomOk n k b d = true then blocksL k.toNat bs (upMD k.toNat d.toNat bs.length) else []
theorem blocks_any (n k b d : Int) (v : Value) (bs : List UInt8) (o : Option Nat) (w : World) (hv : IsRow w w.heap.size o v bs) (hlen : bs.length ≤ 1000000) :
    Calls Try.prog 16 #[C3 n k b, .int .i64 d, v] w fun e w' => ∃ v', e = .returned (.tuple #[v', .int .u16 (bErr n k b d)]) ∧ IsLst w' w'.heap.size v' (bRows n k b d bs) ∧ Below w.heap.size w w' := by
  obtain ⟨A, c, rfl, hc, hm, hr, _⟩ := hv
  unfold bErr bRows
  by_cases hok : loomOk n k b d = true
  · obtain ⟨k1, kn, nn, b0, b1, d1, d2⟩ := loomOk_bounds hok
    rw [if_pos hok, if_pos hok]
    refine (callsIn_wide.1 (blocks_yes n k b d k.toNat d.toNat (upM k.toNat bs.length) (by omega) (by omega) A bs c w hok hc hlen (upM_le (by omega)) upM_lt hr)).mono ?_
    rintro e w' ⟨v', m, he, h1, h2, h3, h4, h5⟩
    refine ⟨v', he, ?_, h5⟩
    rw [← upMD_only (by omega) h1 h2 h3]
    exact h4
  · rw [if_neg hok, if_neg hok]
    exact (blocks_no n k b d A bs.length c w (by cases h : loomOk n k b d <;> simp_all)).mono fun e w' ⟨h1, h2⟩ => ⟨_, h1, IsLst.nil _ _, h2⟩
end Go.Proofs.Ytkjaonlelkfhaaa

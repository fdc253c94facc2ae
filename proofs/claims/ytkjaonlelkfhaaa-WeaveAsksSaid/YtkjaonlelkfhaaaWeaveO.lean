/- The walks of layer 21, fifteen: Unweave at any arguments; lists that are the same. -/
import Derived.Test.YtkjaonlelkfhaaaWeaveN
namespace Go.Proofs.Ytkjaonlelkfhaaa
open Go.RowKit Gf Bt

/-- What Unweave tells. -/
def uErr (n k b d : Int) (len : Nat) : Int := if loomOk n k b d = true then (if (len : Int) % (n * d) = 0 then 0 else 12) else 10
def uRows (n k b d : Int) (bs : List UInt8) : List (List UInt8) := if loomOk n k b d = true ∧ (bs.length : Int) % (n * d) = 0 then unweaveL n.toNat d.toNat bs (bs.length / (n.toNat * d.toNat)) else []
theorem unweave_any (n k b d : Int) (v : Value) (bs : List UInt8) (o : Option Nat) (w : World) (hv : IsRow w w.heap.size o v bs) (hlen : bs.length ≤ 1000000) :
    Calls Try.prog 17 #[C3 n k b, .int .i64 d, v] w fun e w' => ∃ v', e = .returned (.tuple #[v', .int .u16 (uErr n k b d bs.length)]) ∧ IsLst w' w'.heap.size v' (uRows n k b d bs) ∧ Below w.heap.size w w' := by
  obtain ⟨A, c, rfl, hc, hm, hr, _⟩ := hv
  unfold uErr uRows
  by_cases hok : loomOk n k b d = true
  · obtain ⟨k1, kn, nn, b0, b1, d1, d2⟩ := loomOk_bounds hok
    by_cases hs : (bs.length : Int) % (n * d) = 0
    · rw [if_pos hok, if_pos hs, if_pos ⟨hok, hs⟩]
      have hn : n = (n.toNat : Int) := by omega
      have hd : d = (d.toNat : Int) := by omega
      have hdm : ((n.toNat * d.toNat : Nat) : Int) ∣ (bs.length : Int) := by rw [Int.natCast_mul, ← hn, ← hd]; exact Int.dvd_of_emod_eq_zero hs
      obtain ⟨M, hM⟩ := Int.natCast_dvd_natCast.1 hdm
      have hpos : 0 < n.toNat * d.toNat := Nat.mul_pos (by omega) (by omega)
      have hq : bs.length / (n.toNat * d.toNat) = M := by rw [hM, Nat.mul_div_cancel_left _ hpos]
      rw [hq]
      exact callsIn_wide.1 (unweave_yes n k b d n.toNat d.toNat M hn hd A bs c w hok hc hlen (by rw [hM, Nat.mul_comm]) hr)
    · rw [if_pos hok, if_neg hs, if_neg (fun h => hs h.2)]
      exact (unweave_short n k b d A bs.length c w hok hs).mono fun e w' ⟨h1, h2⟩ => ⟨_, h1, IsLst.nil _ _, h2⟩
  · rw [if_neg hok, if_neg (fun h => hok h.1)]
    exact (unweave_no n k b d A bs.length c w (by cases h : loomOk n k b d <;> simp_all)).mono fun e w' ⟨h1, h2⟩ => ⟨_, h1, IsLst.nil _ _, h2⟩
end Go.Proofs.Ytkjaonlelkfhaaa

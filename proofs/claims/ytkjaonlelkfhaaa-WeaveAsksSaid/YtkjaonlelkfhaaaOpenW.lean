/- The arguments of a law, opened by their kinds; bytes, numbers, slices of bytes. -/
import Derived.Test.YtkjaonlelkfhaaaRows
import Derived.Test.YtkjaonlelkfhaaaKit
import Derived.WalkKit
import Derived.ProofKit
import Derived.OpenShut
import Derived.ShutString
import Derived.ChangeOld
import Derived.Below
namespace Go.Proofs.Ytkjaonlelkfhaaa
open Go.ChangeShapes Go.WideShapes Go.ChangeAt Go.RowKit
open Gf Bt

set_option maxRecDepth 100000
theorem own : ownKnob Try.prog.godebug = none := by kernel_rfl
theorem laidOut : laidOutB Try.prog = true := by kernel_rfl
section
variable {H : Type} {enc : TypeId × Value → H} {W : World} {base : Nat} {v : Value} {d : DataW H} {p : List MemPlace}
theorem B8_of {n : Int} (h : (Lit.int .u8 n).wf = true) : ∃ a : UInt8, Value.int .u8 n = B8 a := by
  obtain ⟨h0, h1⟩ := bounds_u8 h
  refine ⟨UInt8.ofNat n.toNat, ?_⟩
  rw [B8, UInt8.toNat_ofNat', Nat.mod_eq_of_lt (by omega)]
  congr 1; omega
theorem W64_of {n : Int} (h : (Lit.int .u64 n).wf = true) : ∃ a : UInt64, Value.int .u64 n = W64 a := by
  obtain ⟨h0, h1⟩ := bounds_u64 h
  refine ⟨UInt64.ofNat n.toNat, ?_⟩
  rw [W64, UInt64.toNat_ofNat', Nat.mod_eq_of_lt (by omega)]
  congr 1; omega
theorem lt_places {t : TypeId} (h : DataW.Trod enc Try.prog W 0 (fun _ => true) true t v d p) : ∀ x ∈ p, x.block < W.heap.size := by
  obtain ⟨m, hm⟩ := h; exact DataW.trod_lt m _ _ _ hm
theorem open_u8 (hv : Value.okWide Try.prog W .any base 5 v) (h : DataW.Trod enc Try.prog W 0 (fun _ => true) true 5 v d p) : ∃ a : UInt8, v = B8 a := by
  obtain ⟨n, rfl, _, _, hw⟩ := open_int Try.underlying5 hv h
  exact B8_of hw
theorem open_i64 (hv : Value.okWide Try.prog W .any base 3 v) (h : DataW.Trod enc Try.prog W 0 (fun _ => true) true 3 v d p) : ∃ n : Int, v = .int .i64 n ∧ -9223372036854775808 ≤ n ∧ n ≤ 9223372036854775807 := by
  obtain ⟨n, rfl, _, _, hw⟩ := open_int Try.underlying3 hv h
  exact ⟨n, rfl, bounds_i64 hw⟩
theorem open_u16 (hv : Value.okWide Try.prog W .any base 29 v) (h : DataW.Trod enc Try.prog W 0 (fun _ => true) true 29 v d p) : ∃ n : Nat, v = .int .u16 n ∧ n < 65536 := by
  obtain ⟨n, rfl, _, _, hw⟩ := open_int Try.underlying29 hv h
  obtain ⟨h0, h1⟩ := bounds_u16 hw
  exact ⟨n.toNat, by congr 1; omega, by omega⟩
/-- A slice of bytes that came in. -/
def IsBytes (w : World) (A : Option Addr) (len cap : Nat) (bs : List UInt8) : Prop :=
  bs.length = len ∧ len ≤ cap ∧ cap ≤ maxLen ∧ Rd w w.heap.size A (bs.map B8)
theorem values_B8 : ∀ (zs : List Int), (∀ n ∈ zs, (Lit.int .u8 n).wf = true) → ∃ q : List UInt8, zs.map (Value.int .u8) = q.map B8
  | [], _ => ⟨[], rfl⟩
  | z :: zs, h => by
    obtain ⟨x, hx⟩ := B8_of (h z (List.mem_cons_self ..))
    obtain ⟨q, hq⟩ := values_B8 zs fun c hc => h c (List.mem_cons_of_mem _ hc)
    exact ⟨x :: q, by rw [List.map_cons, List.map_cons, hq, hx]⟩
theorem open_bytes (hv : Value.okWide Try.prog W .any base 22 v) (h : DataW.Trod enc Try.prog W 0 (fun _ => true) true 22 v d p) : ∃ A len cap bs, v = .slice A len cap ∧ IsBytes W A len cap bs := by
  obtain ⟨a, len, cap, rfl⟩ := okWide_slice Try.underlying22 hv
  obtain ⟨fuel, hf⟩ := h
  refine ⟨a, len, cap, ?_⟩
  rcases open_ints Try.underlying22 Try.underlying5 (by kernel_rfl) hf with ⟨hcs, _⟩ | ⟨x, l, c, zs, hcs, _, hl, hm, hz, _, hcell, hwz⟩
  · simp [Value.cells] at hcs
    obtain ⟨rfl, rfl, rfl⟩ := hcs
    exact ⟨[], rfl, rfl, Nat.le_refl _, by simp [maxLen], Rd.nil⟩
  · simp [Value.cells] at hcs
    obtain ⟨rfl, rfl, rfl⟩ := hcs
    obtain ⟨q, hq⟩ := values_B8 zs hwz
    have hzl : zs.length = cap := by simpa using hz
    have hql : q.length = cap := by have := congrArg List.length hq; simp at this; omega
    refine ⟨q.take len, rfl, by simp [hql]; omega, hl, hm, fun hpos => ?_⟩
    have hpos' : 0 < len := by simp at hpos; omega
    refine ⟨x, rfl, ?_, fun j u hu => ?_⟩
    · have := hcell 0 (by omega)
      have := World.block_lt_of_cell? _ _ this
      simpa [block_of_add] using this
    · rw [List.map_take, ← hq, List.getElem?_take] at hu
      split at hu
      · have hj : j < zs.length := by omega
        rw [List.getElem?_map, List.getElem?_eq_getElem hj] at hu
        rw [hcell j hj, ← hu, List.getD_eq_getElem?_getD, List.getElem?_eq_getElem hj]; rfl
      · cases hu
end
end Go.Proofs.Ytkjaonlelkfhaaa

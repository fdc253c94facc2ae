/- A slice of bytes that came in, opened: layer 2. -/
import Derived.Test.YtccedmegmmcnkaaDoorOpenTb
namespace Go.Proofs.YtccedmegmmcnkaaDoor
open Go.ChangeShapes Go.WideShapes Go.ChangeAt Go.WideMaps Go.WideElems Go.RowKit
open Gf Bt

set_option maxRecDepth 100000
section
variable {H : Type} {enc : TypeId × Value → H} {W : World} {base : Nat} {v : Value} {d : DataW H} {p : List MemPlace}
/-- A slice of bytes that came in. -/
def IsBytes (w : World) (A : Option Addr) (len cap : Nat) (bs : List UInt8) : Prop :=
  bs.length = len ∧ len ≤ cap ∧ cap ≤ maxLen ∧ Rd w w.heap.size A (bs.map B8)
theorem values_B8 : ∀ (zs : List Int), (∀ n ∈ zs, (Lit.int .u8 n).wf = true) → ∃ q : List UInt8, zs.map (Value.int .u8) = q.map B8
  | [], _ => ⟨[], rfl⟩
  | z :: zs, h => by
    obtain ⟨x, hx⟩ := B8_of (h z (List.mem_cons_self ..))
    obtain ⟨q, hq⟩ := values_B8 zs fun c hc => h c (List.mem_cons_of_mem _ hc)
    exact ⟨x :: q, by rw [List.map_cons, List.map_cons, hq, hx]⟩
theorem open_bytes (hv : Value.okWide Tryd.prog W .any base 37 v) (h : DataW.Trod enc Tryd.prog W 0 (fun _ => true) true 37 v d p) : ∃ A len cap bs, v = .slice A len cap ∧ IsBytes W A len cap bs := by
  obtain ⟨a, len, cap, rfl⟩ := okWide_slice Tryd.underlying37 hv
  obtain ⟨fuel, hf⟩ := h
  refine ⟨a, len, cap, ?_⟩
  rcases open_ints Tryd.underlying37 Tryd.underlying5 (by kernel_rfl) hf with ⟨hcs, _⟩ | ⟨x, l, c, zs, hcs, _, hl, hm, hz, _, hcell, hwz⟩
  · simp [Value.cells] at hcs
    obtain ⟨rfl, rfl, rfl⟩ := hcs
    exact ⟨[], rfl, rfl, Nat.le_refl _, by simp [maxLen], Rd.nil⟩
  · simp [Value.cells] at hcs
    obtain ⟨rfl, rfl, rfl⟩ := hcs
    obtain ⟨q, hq⟩ := values_B8 zs hwz
    have hzl : zs.length = cap := by simpa using hz
    have hql : q.length = cap := by have := congrArg List.length hq; simp at this; omega
    refine ⟨q.take len, rfl, by simp [hql]; omega, hl, hm, fun hpos => ?_⟩
    have hpos' : 0 < len := by simp at hpos; omega
    refine ⟨x, rfl, ?_, fun j u hu => ?_⟩
    · have := hcell 0 (by omega)
      have := World.block_lt_of_cell? _ _ this
      simpa [block_of_add] using this
    · rw [List.map_take, ← hq, List.getElem?_take] at hu
      split at hu
      · have hj : j < zs.length := by omega
        rw [List.getElem?_map, List.getElem?_eq_getElem hj] at hu
        rw [hcell j hj, ← hu, List.getD_eq_getElem?_getD, List.getElem?_eq_getElem hj]; rfl
      · cases hu
end
end Go.Proofs.YtccedmegmmcnkaaDoor

/- The arguments of a law, opened by their kinds: lists of rows of bytes; codes. -/
import Derived.Test.YtkjaonlelkfhaaaOpenW
import Derived.Test.YtkjaonlelkfhaaaLst
import Derived.Test.YtkjaonlelkfhaaaWeaveB
import Derived.Deep.Slices
import Derived.Lib.SmallJoins
namespace Go.Proofs.Ytkjaonlelkfhaaa
open Go.ChangeShapes Go.WideShapes Go.ChangeAt Go.RowKit Go.Deep
open Gf Bt

set_option maxRecDepth 100000
section
variable {H : Type} {enc : TypeId × Value → H} {W : World} {base : Nat} {v : Value} {d : DataW H} {p : List MemPlace}
theorem row_of_trod {V : Value} {fuel : Nat} {x : DataW H × List MemPlace} (hf : DataW.trod enc Try.prog W 0 (fun _ => true) true fuel 22 [V] = some x) : ∃ bs, IsRow W W.heap.size none V bs := by
  rcases open_ints Try.underlying22 Try.underlying5 (by kernel_rfl) hf with ⟨hcs, _⟩ | ⟨x, len, cap, zs, hcs, _, hl, hm, hz, _, hcell, hwz⟩
  · simp at hcs
    subst hcs
    exact ⟨[], none, 0, rfl, Nat.le_refl _, by simp [maxLen], Rd.nil, fun h => absurd h (by simp)⟩
  · simp at hcs
    subst hcs
    obtain ⟨q, hq⟩ := values_B8 zs hwz
    have hzl : zs.length = cap := by simpa using hz
    have hql : q.length = cap := by have := congrArg List.length hq; simp at this; omega
    have hlen : (q.take len).length = len := by simp [hql]; omega
    refine ⟨q.take len, some x, cap, by rw [hlen], by rw [hlen]; exact hl, hm, fun hpos => ?_, fun _ _ _ => by simp⟩
    have hpos' : 0 < len := by simp at hpos; omega
    refine ⟨x, rfl, ?_, fun j u hu => ?_⟩
    · have := hcell 0 (by omega)
      have := World.block_lt_of_cell? _ _ this
      simpa [block_of_add] using this
    · rw [List.map_take, ← hq, List.getElem?_take] at hu
      split at hu
      · have hj : j < zs.length := by omega
        rw [List.getElem?_map, List.getElem?_eq_getElem hj] at hu
        rw [hcell j hj, ← hu, List.getD_eq_getElem?_getD, List.getElem?_eq_getElem hj]; rfl
      · cases hu
/-- A list of rows of bytes that came in. -/
theorem open_rows (hv : Value.okWide Try.prog W .any base 27 v) (h : DataW.Trod enc Try.prog W 0 (fun _ => true) true 27 v d p) : ∃ A len cap xs, v = .slice A len cap ∧ xs.length = len ∧ IsLst W W.heap.size (.slice A len cap) xs := by
  obtain ⟨a, len, cap, rfl⟩ := okWide_slice Try.underlying27 hv
  obtain ⟨fuel, hf⟩ := h
  rcases open_slice1 Try.underlying27 (by kernel_rfl) hf with ⟨hcs, _⟩ | ⟨x, l, c, m, n, V, D, Pl, hcs, _, hl, hm, hmm, _, hV⟩
  · simp [Value.cells] at hcs
    obtain ⟨rfl, rfl, rfl⟩ := hcs
    exact ⟨none, 0, 0, [], rfl, rfl, IsLst.nil _ _⟩
  · simp [Value.cells] at hcs
    obtain ⟨rfl, rfl, rfl⟩ := hcs
    have hmc : m = cap := by simpa using hmm
    subst hmc
    obtain ⟨X, hX⟩ := choose_lt (n := len) (α := List UInt8) (p := fun i xs => IsRow W W.heap.size none (V i) xs) (fun i hi => row_of_trod (hV i (Nat.lt_of_lt_of_le hi hl)).2)
    refine ⟨some x, len, m, (List.range len).map X, rfl, by simp, some x, m, (List.range len).map V, by simp, by simpa using hl, hm, by simp, fun hpos => ⟨x, rfl, ?_, fun j u hu => ?_⟩, fun j y hy => ?_⟩
    · have hpos' : 0 < len := by simpa using hpos
      have := World.block_lt_of_cell? _ _ (hV 0 (Nat.lt_of_lt_of_le hpos' hl)).1
      simpa [block_of_add] using this
    · rw [List.getElem?_map] at hu
      rcases Nat.lt_or_ge j len with hj | hj
      · rw [List.getElem?_range hj] at hu
        cases hu
        exact (hV j (Nat.lt_of_lt_of_le hj hl)).1
      · rw [List.getElem?_eq_none (by simpa using hj)] at hu; cases hu
    · rw [List.getElem?_map] at hy
      rcases Nat.lt_or_ge j len with hj | hj
      · rw [List.getElem?_range hj] at hy
        cases hy
        exact ⟨V j, by rw [List.getElem?_map, List.getElem?_range hj]; rfl, hX j hj⟩
      · rw [List.getElem?_eq_none (by simpa using hj)] at hy; cases hy
/-- A code that came in. -/
theorem open_code (hv : Value.okWide Try.prog W .any base 24 v) (h : DataW.Trod enc Try.prog W 0 (fun _ => true) true 24 v d p) : ∃ N K B : Int, v = C3 N K B := by
  obtain ⟨v0, v1, v2, y0, y1, y2, n, rfl, _, _, h0, h1, h2⟩ := Joins.open_agg3 Try.underlying24 (by kernel_rfl) (by kernel_rfl) hv h
  obtain ⟨n0, e0, _⟩ := DataW.trod_int Try.underlying3 h0
  obtain ⟨n1, e1, _⟩ := DataW.trod_int Try.underlying3 h1
  obtain ⟨n2, e2, _⟩ := DataW.trod_int Try.underlying3 h2
  cases e0; cases e1; cases e2
  exact ⟨n0, n1, n2, rfl⟩
end
end Go.Proofs.Ytkjaonlelkfhaaa

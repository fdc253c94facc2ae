/- The plain laws of unweaving. -/
import Derived.Test.YtkjaonlelkfhaaaWeavePure
namespace Go.Proofs.Ytkjaonlelkfhaaa
open Gf Bt

/-- n bytes, the first m of them said by f. -/
def upTo (n : Nat) (f : Nat → UInt8) (m : Nat) : List UInt8 := (List.range n).map fun i => if i < m then f i else 0
theorem upTo_length (n f m) : (upTo n f m).length = n := by simp [upTo]
theorem upTo_zero (n f) : upTo n f 0 = List.replicate n 0 := by
  unfold upTo
  apply List.ext_getElem
  · simp
  · intro i h1 h2; simp
theorem upTo_all (n f) : upTo n f n = (List.range n).map f := by
  unfold upTo
  apply List.ext_getElem
  · simp
  · intro i h1 h2; simp at h1; simp [h1]
theorem upTo_step (n : Nat) (f : Nat → UInt8) (m : Nat) : (upTo n f m).set m (f m) = upTo n f (m + 1) := by
  unfold upTo
  apply List.ext_getElem
  · simp
  · intro i h1 h2
    simp only [List.getElem_set, List.getElem_map, List.getElem_range]
    by_cases h : m = i
    · subst h; simp
    · by_cases hi : i < m
      · rw [if_neg h, if_pos hi, if_pos (by omega)]
      · rw [if_neg h, if_neg hi, if_neg (by omega)]
/-- Block j of sheaf q. -/
def rowU (N D : Nat) (t : List UInt8) (q j : Nat) : List UInt8 := (List.range N).map fun i => t.getD (q * (N * D) + (i * D + j)) 0
def rowsU (N D : Nat) (t : List UInt8) (q : Nat) : List (List UInt8) := (List.range D).map (rowU N D t q)
def unweaveL (N D : Nat) (t : List UInt8) (M : Nat) : List (List UInt8) := (List.range M).flatMap (rowsU N D t)
theorem rowU_length (N D t q j) : (rowU N D t q j).length = N := by simp [rowU]
theorem rowsU_length (N D t q) : (rowsU N D t q).length = D := by simp [rowsU]
theorem flat_rows_length (N D : Nat) (t : List UInt8) : ∀ qs : List Nat, (qs.flatMap (rowsU N D t)).length = qs.length * D
  | [] => by simp
  | q :: qs => by rw [List.flatMap_cons, List.length_append, rowsU_length, flat_rows_length N D t qs, List.length_cons, Nat.add_mul, Nat.one_mul, Nat.add_comm]
/-- What is woven is unwoven. -/
theorem unweave_weave {N D M : Nat} {xs : List (List UInt8)} (hD : 0 < D) (hN : 0 < N) (hM : xs.length = M * D) (hl : ∀ x ∈ xs, x.length = N) : unweaveL N D (weaveL N D xs) M = xs := by
  have hrow : ∀ q, q < M → rowsU N D (weaveL N D xs) q = (List.range D).map fun j => xs.getD (q * D + j) [] := by
    intro q hq
    unfold rowsU
    apply List.map_congr_left
    intro j hj
    have hjD : j < D := List.mem_range.1 hj
    have hqj : q * D + j < xs.length := by
      rw [hM]
      have : (q + 1) * D ≤ M * D := Nat.mul_le_mul_right _ hq
      rw [Nat.add_mul, Nat.one_mul] at this; omega
    have hx : xs.getD (q * D + j) [] ∈ xs := by rw [List.getD_eq_getElem?_getD, List.getElem?_eq_getElem hqj]; exact List.getElem_mem hqj
    have hxl := hl _ hx
    apply List.ext_getElem
    · rw [rowU_length, hxl]
    · intro i h1 h2
      have hi : i < N := by rwa [rowU_length] at h1
      simp only [rowU, List.getElem_map, List.getElem_range]
      obtain ⟨p1, p2, p3, p4⟩ := place_parts (kk := q) hjD hi
      have hlt : q * (N * D) + (i * D + j) < xs.length * N := by
        have e : xs.length * N = M * (N * D) := by rw [hM, Nat.mul_assoc, Nat.mul_comm D N]
        rw [e]
        have h3 := pair_lt' hjD hi
        have : (q + 1) * (N * D) ≤ M * (N * D) := Nat.mul_le_mul_right _ hq
        rw [Nat.add_mul, Nat.one_mul] at this; omega
      obtain ⟨_, _, h5⟩ := weave_at (M := M) (xs := xs) hD hN hM hlt
      rw [List.getD_eq_getElem?_getD, h5, Option.getD_some, wv, p1, p2, p3, p4, List.getD_eq_getElem?_getD (l := xs.getD (q * D + j) []), List.getElem?_eq_getElem h2, Option.getD_some]
  have hflat : ∀ m, m ≤ M → (List.range m).flatMap (rowsU N D (weaveL N D xs)) = xs.take (m * D) := by
    intro m
    induction m with
    | zero => intro _; simp
    | succ m ih =>
      intro hm
      have hmD : m * D + D ≤ xs.length := by
        rw [hM]
        have : (m + 1) * D ≤ M * D := Nat.mul_le_mul_right _ hm
        rw [Nat.add_mul, Nat.one_mul] at this; exact this
      rw [List.range_succ, List.flatMap_append, ih (by omega), List.flatMap_singleton, hrow m (by omega), Nat.add_mul, Nat.one_mul, List.take_add]
      congr 1
      apply List.ext_getElem
      · simp; omega
      · intro j h1 h2
        simp at h1
        simp [List.getD_eq_getElem?_getD, List.getElem?_eq_getElem (show m * D + j < xs.length by omega)]
  unfold unweaveL
  rw [hflat M (Nat.le_refl _), List.take_of_length_le (by omega)]
end Go.Proofs.Ytkjaonlelkfhaaa

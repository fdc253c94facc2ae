/- The plain laws of weaving: where each byte of blocks goes, and in which order they are written. -/
import Derived.Test.YtkjaonlelkfhaaaLst
namespace Go.Proofs.Ytkjaonlelkfhaaa
open Gf Bt

/-- The byte at a place of what is woven. -/
def wv (N D : Nat) (xs : List (List UInt8)) (a : Nat) : UInt8 := (xs.getD (a / (N * D) * D + a % (N * D) % D) []).getD (a % (N * D) / D) 0
def weaveL (N D : Nat) (xs : List (List UInt8)) : List UInt8 := (List.range (xs.length * N)).map (wv N D xs)
/-- When a place is written: sheaf by sheaf, block by block, byte by byte. -/
def ordW (N D a : Nat) : Nat := a / (N * D) * (N * D) + (a % (N * D) % D * N + a % (N * D) / D)
def weaveTo (N D : Nat) (xs : List (List UInt8)) (T m : Nat) : List UInt8 := (List.range T).map fun a => if ordW N D a < m then wv N D xs a else 0
theorem weaveL_length (N D xs) : (weaveL N D xs).length = xs.length * N := by simp [weaveL]
theorem weaveTo_length (N D xs T m) : (weaveTo N D xs T m).length = T := by simp [weaveTo]
theorem weaveTo_zero (N D xs T) : weaveTo N D xs T 0 = List.replicate T 0 := by
  unfold weaveTo
  apply List.ext_getElem
  · simp
  · intro i h1 h2; simp
theorem pair_lt {N D j i : Nat} (hj : j < D) (hi : i < N) : j * N + i < N * D := by
  have : (j + 1) * N ≤ D * N := Nat.mul_le_mul_right _ hj
  rw [Nat.add_mul, Nat.one_mul, Nat.mul_comm D N] at this
  omega
theorem pair_lt' {N D j i : Nat} (hj : j < D) (hi : i < N) : i * D + j < N * D := by
  have : (i + 1) * D ≤ N * D := Nat.mul_le_mul_right _ hi
  rw [Nat.add_mul, Nat.one_mul] at this
  omega
theorem divmod {q s r : Nat} (h : r < s) : (q * s + r) / s = q ∧ (q * s + r) % s = r := by
  have hs : 0 < s := by omega
  constructor
  · rw [Nat.mul_comm, Nat.mul_add_div hs, Nat.div_eq_of_lt h]; simp
  · rw [Nat.mul_comm, Nat.mul_add_mod]; exact Nat.mod_eq_of_lt h
/-- A place, by its sheaf, its byte and its block. -/
theorem place_parts {N D kk j i : Nat} (hj : j < D) (hi : i < N) :
    (kk * (N * D) + (i * D + j)) / (N * D) = kk ∧ (kk * (N * D) + (i * D + j)) % (N * D) = i * D + j ∧ (i * D + j) % D = j ∧ (i * D + j) / D = i := by
  obtain ⟨h1, h2⟩ := divmod (q := kk) (pair_lt' hj hi)
  obtain ⟨h3, h4⟩ := divmod (q := i) hj
  exact ⟨h1, h2, h4, h3⟩
theorem ord_parts {N D a : Nat} (hD : 0 < D) (hN : 0 < N) : a % (N * D) % D < D ∧ a % (N * D) / D < N ∧ a = a / (N * D) * (N * D) + (a % (N * D) / D * D + a % (N * D) % D) := by
  have hs : 0 < N * D := Nat.mul_pos hN hD
  refine ⟨Nat.mod_lt _ hD, ?_, ?_⟩
  · rw [Nat.div_lt_iff_lt_mul hD]; exact Nat.mod_lt _ hs
  · have h1 := Nat.div_add_mod a (N * D)
    have h2 := Nat.div_add_mod (a % (N * D)) D
    rw [Nat.mul_comm (N * D)] at h1
    rw [Nat.mul_comm D] at h2
    omega
theorem ord_place {N D kk j i : Nat} (hj : j < D) (hi : i < N) : ordW N D (kk * (N * D) + (i * D + j)) = kk * (N * D) + (j * N + i) := by
  obtain ⟨h1, h2, h3, h4⟩ := place_parts (kk := kk) hj hi
  unfold ordW; rw [h1, h2, h3, h4]
theorem ord_inj {N D kk j i a : Nat} (hj : j < D) (hi : i < N) (h : ordW N D a = kk * (N * D) + (j * N + i)) : a = kk * (N * D) + (i * D + j) := by
  obtain ⟨p1, p2, p3⟩ := ord_parts (a := a) (show 0 < D by omega) (show 0 < N by omega)
  unfold ordW at h
  obtain ⟨q1, q2⟩ := divmod (q := a / (N * D)) (pair_lt p1 p2)
  obtain ⟨r1, r2⟩ := divmod (q := kk) (pair_lt hj hi)
  rw [h] at q1 q2
  rw [q1] at r1
  rw [q2] at r2
  obtain ⟨s1, s2⟩ := divmod (q := a % (N * D) % D) p2
  obtain ⟨t1, t2⟩ := divmod (q := j) hi
  rw [r2] at s1 s2
  rw [s1] at t1
  rw [s2] at t2
  rw [p3, r1, t1, t2]
theorem ord_lt {N D M a : Nat} (hD : 0 < D) (hN : 0 < N) (h : a < M * D * N) : ordW N D a < M * D * N := by
  have e : M * D * N = M * (N * D) := by rw [Nat.mul_assoc, Nat.mul_comm D N]
  rw [e] at h ⊢
  obtain ⟨p1, p2, p3⟩ := ord_parts (a := a) hD hN
  have hq : a / (N * D) < M := by rw [Nat.div_lt_iff_lt_mul (Nat.mul_pos hN hD)]; exact h
  have := pair_lt p1 p2
  have h2 : (a / (N * D) + 1) * (N * D) ≤ M * (N * D) := Nat.mul_le_mul_right _ hq
  rw [Nat.add_mul, Nat.one_mul] at h2
  unfold ordW; omega
theorem weaveTo_all {N D M : Nat} {xs : List (List UInt8)} (hD : 0 < D) (hN : 0 < N) (hM : xs.length = M * D) : weaveTo N D xs (xs.length * N) (xs.length * N) = weaveL N D xs := by
  unfold weaveTo weaveL
  apply List.ext_getElem
  · simp
  · intro a h1 h2
    simp only [List.getElem_map, List.getElem_range]
    rw [if_pos]
    rw [hM]
    exact ord_lt hD hN (by simpa [hM] using h1)
theorem weaveTo_step {N D T kk j i : Nat} {xs : List (List UInt8)} (hj : j < D) (hi : i < N) :
    (weaveTo N D xs T (kk * (N * D) + (j * N + i))).set (kk * (N * D) + (i * D + j)) ((xs.getD (kk * D + j) []).getD i 0) = weaveTo N D xs T (kk * (N * D) + (j * N + (i + 1))) := by
  obtain ⟨h1, h2, h3, h4⟩ := place_parts (kk := kk) hj hi
  have h5 := ord_place (kk := kk) hj hi
  unfold weaveTo
  apply List.ext_getElem
  · simp
  · intro a g1 g2
    simp only [List.getElem_set, List.getElem_map, List.getElem_range]
    by_cases e : kk * (N * D) + (i * D + j) = a
    · rw [if_pos e, if_pos (by rw [← e, h5]; omega), ← e, wv, h1, h2, h3, h4]
    · rw [if_neg e]
      have hne : ordW N D a ≠ kk * (N * D) + (j * N + i) := fun h => e (ord_inj hj hi h).symm
      by_cases hlt : ordW N D a < kk * (N * D) + (j * N + i)
      · rw [if_pos hlt, if_pos (by omega)]
      · rw [if_neg hlt, if_neg (by omega)]
theorem weave_next_block (N D kk j : Nat) : kk * (N * D) + (j * N + N) = kk * (N * D) + ((j + 1) * N + 0) := by rw [Nat.add_mul, Nat.one_mul]; omega
theorem weave_next_sheaf (N D kk : Nat) : kk * (N * D) + (D * N + 0) = (kk + 1) * (N * D) + (0 * N + 0) := by rw [Nat.add_mul (kk) 1, Nat.one_mul, Nat.mul_comm D N]; omega
/-- The weaving, by the place. -/
theorem weave_at {N D M : Nat} {xs : List (List UInt8)} (hD : 0 < D) (hN : 0 < N) (hM : xs.length = M * D) {a : Nat} (h : a < xs.length * N) :
    a / (N * D) * D + a % (N * D) % D < xs.length ∧ a % (N * D) / D < N ∧ (weaveL N D xs)[a]? = some (wv N D xs a) := by
  obtain ⟨p1, p2, p3⟩ := ord_parts (a := a) hD hN
  refine ⟨?_, p2, by simp [weaveL, h]⟩
  rw [hM] at h ⊢
  have e : M * D * N = M * (N * D) := by rw [Nat.mul_assoc, Nat.mul_comm D N]
  rw [e] at h
  have hq : a / (N * D) < M := by rw [Nat.div_lt_iff_lt_mul (Nat.mul_pos hN hD)]; exact h
  have h2 : (a / (N * D) + 1) * D ≤ M * D := Nat.mul_le_mul_right _ hq
  rw [Nat.add_mul, Nat.one_mul] at h2
  omega
/-- Sheaves are woven each for itself. -/
theorem weave_append {N D m : Nat} {ys zs : List (List UInt8)} (hD : 0 < D) (hN : 0 < N) (hm : ys.length = m * D) : weaveL N D (ys ++ zs) = weaveL N D ys ++ weaveL N D zs := by
  have hs : 0 < N * D := Nat.mul_pos hN hD
  have e : ys.length * N = m * (N * D) := by rw [hm, Nat.mul_assoc, Nat.mul_comm D N]
  apply List.ext_getElem
  · simp [weaveL, Nat.add_mul]
  · intro a h1 h2
    by_cases ha : a < ys.length * N
    · rw [List.getElem_append_left (by simpa [weaveL] using ha)]
      simp only [weaveL, List.getElem_map, List.getElem_range, wv]
      obtain ⟨g1, _, _⟩ := weave_at (M := m) (xs := ys) hD hN hm ha
      rw [List.getD_eq_getElem?_getD (l := ys ++ zs), List.getElem?_append_left g1, ← List.getD_eq_getElem?_getD (l := ys)]
    · rw [List.getElem_append_right (by simpa [weaveL] using ha)]
      simp only [weaveL, List.getElem_map, List.getElem_range, wv, List.length_map, List.length_range]
      obtain ⟨a', rfl⟩ : ∃ a', a = m * (N * D) + a' := ⟨a - m * (N * D), by omega⟩
      rw [e, Nat.add_sub_cancel_left]
      have d1 : (m * (N * D) + a') / (N * D) = m + a' / (N * D) := by rw [Nat.mul_comm, Nat.mul_add_div hs]
      have d2 : (m * (N * D) + a') % (N * D) = a' % (N * D) := by rw [Nat.mul_comm, Nat.mul_add_mod]
      rw [d1, d2, Nat.add_mul, List.getD_eq_getElem?_getD (l := ys ++ zs), List.getElem?_append_right (by omega), ← List.getD_eq_getElem?_getD (l := zs)]
      congr 2
      omega
theorem weave_flat {N : Nat} (hN : 0 < N) : ∀ (xs : List (List UInt8)), (∀ x ∈ xs, x.length = N) → weaveL N 1 xs = xs.flatten
  | [], _ => by simp [weaveL]
  | x :: xs, h => by
    have h1 := weave_append (N := N) (D := 1) (m := 1) (ys := [x]) (zs := xs) (by decide) hN (by simp)
    rw [List.singleton_append] at h1
    rw [h1, weave_flat hN xs (fun y hy => h y (List.mem_cons_of_mem _ hy)), List.flatten_cons]
    congr 1
    have hx := h x (List.mem_cons_self ..)
    apply List.ext_getElem
    · simp [weaveL, hx]
    · intro a g1 g2
      have ha : a < N := by omega
      simp only [weaveL, List.getElem_map, List.getElem_range, wv, Nat.mul_one, Nat.div_eq_of_lt ha, Nat.mod_eq_of_lt ha, Nat.mod_one, Nat.div_one]
      simp [List.getD_eq_getElem?_getD, g2]
theorem flatten_length {N : Nat} : ∀ (xs : List (List UInt8)), (∀ x ∈ xs, x.length = N) → xs.flatten.length = xs.length * N
  | [], _ => by simp
  | x :: xs, h => by rw [List.flatten_cons, List.length_append, flatten_length xs (fun y hy => h y (List.mem_cons_of_mem _ hy)), h x (List.mem_cons_self ..), List.length_cons, Nat.add_mul, Nat.one_mul, Nat.add_comm]
theorem flatten_take {xs : List (List UInt8)} {j : Nat} {x : List UInt8} (h : xs[j]? = some x) : (xs.take (j + 1)).flatten = (xs.take j).flatten ++ x := by
  rw [List.take_add_one, h]; simp
end Go.Proofs.Ytkjaonlelkfhaaa

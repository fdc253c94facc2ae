/- The plain law of WeaveApart: how often a block is met in so many places in a row. -/
import Derived.Test.YtkjaonlelkfhaaaWeavePure
namespace Go.Proofs.Ytkjaonlelkfhaaa

/-- The block of a place. -/
def xOf (N D a : Nat) : Int := ((a / (N * D) * D + a % (N * D) % D : Nat) : Int)
/-- Of so many numbers from 0 on, how many leave r. -/
def fOf (D r u : Nat) : Nat := (u + (D - 1 - r)) / D
theorem fOf_le (D r : Nat) {u v : Nat} (h : u ≤ v) : fOf D r u ≤ fOf D r v := Nat.div_le_div_right (by omega)
theorem fOf_step {D r u : Nat} (hr : r < D) (h : u % D = r) : fOf D r u + 1 ≤ fOf D r (u + 1) := by
  have e := Nat.div_add_mod u D
  rw [h] at e
  have hD : 0 < D := by omega
  unfold fOf
  have e1 : ∀ P : Nat, P + r = u → u + (D - 1 - r) = P + (D - 1) := fun P h => by omega
  have e2 : ∀ P : Nat, P + r = u → u + 1 + (D - 1 - r) = P + D := fun P h => by omega
  rw [e1 _ e, e2 _ e, Nat.mul_add_div hD, Nat.mul_add_div hD, Nat.div_self hD, Nat.div_eq_of_lt (show D - 1 < D by omega)]
  exact Nat.le_refl _
theorem fOf_all {D : Nat} (hD : 0 < D) (r u m : Nat) : fOf D r (u + D * m) = fOf D r u + m := by
  unfold fOf
  rw [show u + D * m + (D - 1 - r) = u + (D - 1 - r) + D * m by omega, Nat.add_mul_div_left _ _ hD]
theorem xOf_mod {N D a : Nat} (hD : 0 < D) : xOf N D a % (D : Int) = ((a % D : Nat) : Int) := by
  unfold xOf
  rw [← Int.natCast_emod, Nat.mul_add_mod_self_right, Nat.mod_mod, Nat.mod_mul_left_mod]
/-- Each that is x is met once more: the first j. -/
def bumpTo (bl mn : List Int) (x : Int) (j : Nat) : List Int := (List.range mn.length).map fun i => mn.getD i 0 + (if i < j ∧ bl.getD i 0 = x then 1 else 0)
theorem bumpTo_length (bl mn x j) : (bumpTo bl mn x j).length = mn.length := by simp [bumpTo]
theorem bumpTo_get {bl mn : List Int} {x : Int} {j i : Nat} {c : Int} (hc : mn[i]? = some c) : (bumpTo bl mn x j)[i]? = some (c + (if i < j ∧ bl.getD i 0 = x then 1 else 0)) := by
  have hlt : i < mn.length := by
    rcases Nat.lt_or_ge i mn.length with h | h
    · exact h
    · rw [List.getElem?_eq_none h] at hc; cases hc
  unfold bumpTo
  rw [List.getElem?_map, List.getElem?_range hlt]
  simp [List.getD_eq_getElem?_getD, hc]
theorem bumpTo_zero (bl mn x) : bumpTo bl mn x 0 = mn := by
  apply List.ext_getElem?
  intro i
  cases h : mn[i]? with
  | some c => rw [bumpTo_get h]; simp
  | none => rw [List.getElem?_eq_none_iff] at h; rw [List.getElem?_eq_none_iff, bumpTo_length]; exact h
theorem bumpTo_yes {bl mn : List Int} {x c : Int} {j : Nat} (hc : mn[j]? = some c) (hb : bl[j]? = some x) : (bumpTo bl mn x j).set j (c + 1) = bumpTo bl mn x (j + 1) := by
  apply List.ext_getElem?
  intro i
  rw [List.getElem?_set]
  by_cases e : j = i
  · subst e
    have hlt : j < mn.length := by
      rcases Nat.lt_or_ge j mn.length with h | h
      · exact h
      · rw [List.getElem?_eq_none h] at hc; cases hc
    rw [if_pos rfl, if_pos (by rw [bumpTo_length]; exact hlt), bumpTo_get hc, if_pos ⟨by omega, by rw [List.getD_eq_getElem?_getD, hb]; rfl⟩]
  · rw [if_neg e]
    cases h : mn[i]? with
    | some d =>
      rw [bumpTo_get h, bumpTo_get h]
      have : (i < j ∧ bl.getD i 0 = x) ↔ (i < j + 1 ∧ bl.getD i 0 = x) := ⟨fun ⟨a, b⟩ => ⟨by omega, b⟩, fun ⟨a, b⟩ => ⟨by omega, b⟩⟩
      simp only [this]
    | none =>
      rw [List.getElem?_eq_none_iff] at h
      rw [List.getElem?_eq_none (by rw [bumpTo_length]; exact h), List.getElem?_eq_none (by rw [bumpTo_length]; exact h)]
theorem bumpTo_no {bl mn : List Int} {x y : Int} {j : Nat} (hb : bl[j]? = some y) (hne : y ≠ x) : bumpTo bl mn x j = bumpTo bl mn x (j + 1) := by
  apply List.ext_getElem?
  intro i
  cases h : mn[i]? with
  | some d =>
    rw [bumpTo_get h, bumpTo_get h]
    have : (i < j ∧ bl.getD i 0 = x) ↔ (i < j + 1 ∧ bl.getD i 0 = x) := by
      refine ⟨fun ⟨a, b⟩ => ⟨by omega, b⟩, fun ⟨a, b⟩ => ⟨?_, b⟩⟩
      rcases Nat.lt_or_ge i j with hh | hh
      · exact hh
      · exfalso
        obtain rfl : i = j := by omega
        rw [List.getD_eq_getElem?_getD, hb] at b
        exact hne b
    simp only [this]
  | none =>
    rw [List.getElem?_eq_none_iff] at h
    rw [List.getElem?_eq_none (by rw [bumpTo_length]; exact h), List.getElem?_eq_none (by rw [bumpTo_length]; exact h)]
theorem mem_take_succ {bl : List Int} {x y : Int} {j : Nat} (hb : bl[j]? = some y) : x ∈ bl.take (j + 1) ↔ x ∈ bl.take j ∨ y = x := by
  rw [List.take_add_one, hb, List.mem_append]; simp [eq_comm]
/-- What is known of the blocks that were met, and of how often, when t places are behind. -/
structure Met (N D f t : Nat) (bl mn : List Int) : Prop where
  len : bl.length = mn.length
  seen : ∀ y ∈ bl, ∃ s, s < t ∧ y = xOf N D (f + s)
  cnt : ∀ (i : Nat) (y c : Int), bl[i]? = some y → mn[i]? = some c → ∃ r : Nat, r < D ∧ y % (D : Int) = (r : Int) ∧ 0 ≤ c ∧ c + (fOf D r f : Int) ≤ (fOf D r (f + t) : Int)
  least : min t D ≤ bl.length
  most : bl.length ≤ t
theorem Met.start (N D f : Nat) : Met N D f 0 [] [] := ⟨rfl, by simp, by simp, by simp, by simp⟩
theorem Met.old {N D f t : Nat} {bl mn : List Int} (h : Met N D f t bl mn) (hD : 0 < D) (hx : xOf N D (f + t) ∈ bl) : Met N D f (t + 1) bl (bumpTo bl mn (xOf N D (f + t)) bl.length) := by
  refine ⟨by rw [bumpTo_length]; exact h.len, fun y hy => ?_, fun i y c hy hc => ?_, ?_, Nat.le_succ_of_le h.most⟩
  · obtain ⟨s, hs, e⟩ := h.seen y hy; exact ⟨s, by omega, e⟩
  · have hil : i < mn.length := by
      rcases Nat.lt_or_ge i mn.length with hh | hh
      · exact hh
      · rw [List.getElem?_eq_none (by rw [bumpTo_length]; exact hh)] at hc; cases hc
    obtain ⟨c0, hc0⟩ : ∃ c0, mn[i]? = some c0 := ⟨_, List.getElem?_eq_getElem hil⟩
    obtain ⟨r, hr, hyr, hc00, hle⟩ := h.cnt i y c0 hy hc0
    rw [bumpTo_get hc0] at hc
    refine ⟨r, hr, hyr, ?_, ?_⟩
    · split at hc <;> cases hc <;> omega
    · split at hc
      · rename_i hh
        cases hc
        have hyx : y = xOf N D (f + t) := by rw [← hh.2, List.getD_eq_getElem?_getD, hy]; rfl
        have hmod : (f + t) % D = r := by
          have := xOf_mod (N := N) (a := f + t) hD
          rw [← hyx, hyr] at this
          omega
        have := fOf_step hr hmod
        rw [show f + (t + 1) = f + t + 1 by omega]; omega
      · cases hc
        have := fOf_le D r (show f + t ≤ f + (t + 1) by omega)
        omega
  · rcases Nat.lt_or_ge t D with ht | ht
    · exfalso
      obtain ⟨s, hs, e⟩ := h.seen _ hx
      have h1 := xOf_mod (N := N) (a := f + t) hD
      have h2 := xOf_mod (N := N) (a := f + s) hD
      rw [e, h2] at h1
      have h3 : (f + s) % D = (f + t) % D := by omega
      have h4 : (f + t) % D = ((f + s) % D + (t - s)) % D := by rw [Nat.mod_add_mod]; congr 1; omega
      have h5 := Nat.mod_lt (f + s) hD
      rw [← h3] at h4
      obtain ⟨p, hp⟩ : ∃ p, (f + s) % D = p := ⟨_, rfl⟩
      rw [hp] at h4 h5
      clear hp h3 h1 h2
      rcases Nat.lt_or_ge (p + (t - s)) D with hlt | hge
      · rw [Nat.mod_eq_of_lt hlt] at h4; omega
      · rw [Nat.mod_eq_sub_mod hge, Nat.mod_eq_of_lt (by omega)] at h4; omega
    · have := h.least
      omega
theorem Met.fresh {N D f t : Nat} {bl mn : List Int} (h : Met N D f t bl mn) (hD : 0 < D) (hx : xOf N D (f + t) ∉ bl) : Met N D f (t + 1) (bl ++ [xOf N D (f + t)]) (bumpTo bl mn (xOf N D (f + t)) bl.length ++ [1]) := by
  have hsame : bumpTo bl mn (xOf N D (f + t)) bl.length = mn := by
    apply List.ext_getElem?
    intro i
    cases hc : mn[i]? with
    | some c =>
      rw [bumpTo_get hc, if_neg, Int.add_zero]
      intro hh
      apply hx
      rw [← hh.2, List.getD_eq_getElem?_getD, List.getElem?_eq_getElem hh.1]
      exact List.getElem_mem hh.1
    | none => rw [List.getElem?_eq_none_iff] at hc; rw [List.getElem?_eq_none_iff, bumpTo_length]; exact hc
  rw [hsame]
  refine ⟨by simp [h.len], fun y hy => ?_, fun i y c hy hc => ?_, ?_, by simp; exact h.most⟩
  · rcases List.mem_append.1 hy with hy | hy
    · obtain ⟨s, hs, e⟩ := h.seen y hy; exact ⟨s, by omega, e⟩
    · simp at hy; exact ⟨t, by omega, hy⟩
  · rcases Nat.lt_or_ge i bl.length with hlt | hge
    · rw [List.getElem?_append_left hlt] at hy
      rw [List.getElem?_append_left (by rw [← h.len]; exact hlt)] at hc
      obtain ⟨r, hr, hyr, hc0, hle⟩ := h.cnt i y c hy hc
      have := fOf_le D r (show f + t ≤ f + (t + 1) by omega)
      exact ⟨r, hr, hyr, hc0, by omega⟩
    · rw [List.getElem?_append_right hge] at hy
      rw [List.getElem?_append_right (by rw [← h.len]; exact hge)] at hc
      have hi0 : i - bl.length = 0 := by
        rcases Nat.eq_zero_or_pos (i - bl.length) with h0 | h0
        · exact h0
        · rw [List.getElem?_eq_none (by simp; omega)] at hy; cases hy
      rw [hi0] at hy
      rw [show i - mn.length = 0 by rw [← h.len]; exact hi0] at hc
      simp at hy hc
      subst hy; subst hc
      have hr := Nat.mod_lt (f + t) hD
      refine ⟨(f + t) % D, hr, xOf_mod hD, by decide, ?_⟩
      have h1 := fOf_step hr rfl
      have h2 := fOf_le D ((f + t) % D) (show f ≤ f + t by omega)
      rw [show f + (t + 1) = f + t + 1 by omega]; omega
  · have := h.least; simp; omega
theorem Met.bound {N D f m : Nat} {bl mn : List Int} (h : Met N D f (D * m) bl mn) (hD : 0 < D) {i : Nat} {c : Int} (hc : mn[i]? = some c) : c ≤ (m : Int) := by
  have hil : i < bl.length := by
    rw [h.len]
    rcases Nat.lt_or_ge i mn.length with hh | hh
    · exact hh
    · rw [List.getElem?_eq_none hh] at hc; cases hc
  obtain ⟨r, hr, _, _, hle⟩ := h.cnt i _ c (List.getElem?_eq_getElem hil) hc
  rw [fOf_all hD] at hle
  omega
theorem Met.all {N D f m : Nat} {bl mn : List Int} (h : Met N D f (D * m) bl mn) (hm : 0 < m) : D ≤ bl.length := by
  have := h.least
  have h2 : D * 1 ≤ D * m := Nat.mul_le_mul_left _ hm
  omega
end Go.Proofs.Ytkjaonlelkfhaaa

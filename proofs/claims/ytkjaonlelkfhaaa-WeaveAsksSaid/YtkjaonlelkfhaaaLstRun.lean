/- A row appended to a list of the call's own, and noughts appended to a row: as they run. -/
import Derived.Test.YtkjaonlelkfhaaaLstIn
import Derived.Test.YtkjaonlelkfhaaaApMake
namespace Go.Proofs.Ytkjaonlelkfhaaa
open Go.RowKit Go.Shelf Gf Bt

theorem run_ap_lst {w : World} {u : Value} (ty : TypeId) (base : Nat) (v : Value) (xs : List (List UInt8)) (hown : OwnLst2 w base v xs) (bs : List UInt8) (c : Nat)
    (hrow : IsRow w w.heap.size v.ownBlock u bs) (hfrom : RowFrom base u bs) (hlen : xs.length ≤ 1000000000) (hbase : base ≤ w.heap.size) :
    ∃ g len cap w', (Builtin.append_ #[27, 27] ty #[v, .slice (some ⟨w.heap.size, 0, none⟩) 1 c]).run Try.prog (w.alloc (.cells #[u] 22)) = .ok (.slice (some ⟨g, 0, none⟩) len cap) w' ∧ OwnLst2 w' base (.slice (some ⟨g, 0, none⟩) len cap) (xs ++ [bs]) ∧ Below base w w' ∧ KeepsOthers w w' := by
  obtain ⟨i0, hi0, h11, h12, h13⟩ := info_parts rows_info
  have hown1 := hown.keep ((Below.refl _ w).alloc (Nat.le_refl _) (.cells #[u] 22))
  have hrow1 : IsRow (w.alloc (.cells #[u] 22)) w.heap.size v.ownBlock u bs := hrow.below ((Below.refl _ w).alloc (Nat.le_refl _) _)
  have hblk := Blk.new w 22 [u]
  have hblt := hown.own.blt
  obtain ⟨vs, h1, h2⟩ := hown1
  have hl := h1.1
  rw [Nat.mul_one] at hl
  have hu1 : u.oneCell' = true := by obtain ⟨A, c', rfl, _⟩ := hrow; rfl
  obtain ⟨g, cap, w', hr, h3, h4, h5, h6⟩ := run_append_lies (P := Try.prog) (w.alloc (.cells #[u] 22)) 27 ty base 22 i0 (.slice none 0 0) 1 24 Try.underlying27 hi0 h11 h12 h13 rfl (by decide) v xs.length vs h1 ⟨w.heap.size, 0, none⟩ 1 c [u] rfl
    (fun j q hj => by rw [add_zero_off]; exact hblk.cell hj) (fun q hq => by simp at hq; subst hq; exact hu1) (by decide) (by simp only [maxLen]; omega) (by omega) (by simp; omega) _ rfl
  have hkeep : ∀ p : Addr, p.block < w.heap.size + 1 → some p.block ≠ v.ownBlock → w'.cell? p = (w.alloc (.cells #[u] 22)).cell? p := fun p hp hne => h4.cell_far p (by simpa using hp) hne
  have hsz := h4.size
  rw [World.size_alloc] at hsz
  have hne : ∀ k, k < w.heap.size + 1 → some k ≠ v.ownBlock → some k ≠ (Value.slice (some ⟨g, 0, none⟩) (xs.length + 1) cap).ownBlock := by
    intro k hk hkv e
    have e' : k = g := by simpa [Value.ownBlock] using e
    rcases h5 with h5 | h5
    · exact hkv (by rw [e', h5])
    · rw [World.size_alloc] at h5; omega
  have hko : KeepsOthers (w.alloc (.cells #[u] 22)) w' := KeepsOthers.of_grownBy h4 fun j ob hj hob => by
    rcases h1.2 with ⟨rfl, _⟩ | ⟨g', cap', cur, rfl, _, hh, _⟩
    · cases hj
    · injection hj with hj; subst hj; rw [hh] at hob; cases hob; rfl
  refine ⟨g, _, cap, w', hr, ⟨vs ++ [u], by rw [List.length_append]; exact h3, fun j y hj => ?_⟩, ((Below.refl _ w).alloc hbase _).grown h4 (by simp; omega) (own_block h1), (KeepsOthers.alloc _ _).trans hko⟩
  rcases Nat.lt_or_ge j xs.length with hlt | hge
  · rw [List.getElem?_append_left hlt] at hj
    obtain ⟨q, hq, hr, hf⟩ := h2 j y hj
    refine ⟨q, by rw [List.getElem?_append_left (by omega)]; exact hq, ?_, hf⟩
    rw [World.size_alloc] at hr
    exact hr.keep hkeep hsz hne
  · rw [List.getElem?_append_right hge] at hj
    have hj0 : j - xs.length = 0 := by
      rcases Nat.eq_zero_or_pos (j - xs.length) with h0 | h0
      · exact h0
      · rw [List.getElem?_eq_none (by simp; omega)] at hj; cases hj
    rw [hj0] at hj
    simp at hj; subst hj
    refine ⟨u, by rw [List.getElem?_append_right (by omega), hl, hj0]; rfl, ?_, hfrom⟩
    exact hrow1.keep (fun p hp hne' => hkeep p (by omega) hne') (by omega) (fun k hk hkv => hne k (by omega) hkv)

end Go.Proofs.Ytkjaonlelkfhaaa

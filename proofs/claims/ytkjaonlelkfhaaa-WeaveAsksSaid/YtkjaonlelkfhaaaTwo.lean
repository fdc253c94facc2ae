/- Two lists of numbers that a call makes, side by side. -/
import Derived.Test.YtkjaonlelkfhaaaLst2
namespace Go.Proofs.Ytkjaonlelkfhaaa
open Go.RowKit Gf Bt

theorem int_info : (Try.prog.info? 3).map (fun i => (i.zero, i.size, i.bytes)) = some (some (.int .i64 0), 1, 8) := by kernel_rfl
abbrev I6 (x : Int) : Value := .int .i64 x
/-- Two lists of the call's own, in blocks that are not the same. -/
def Two (w : World) (base : Nat) (v : Value) (xs : List Int) (v2 : Value) (ys : List Int) : Prop :=
  w.ownsRow base 3 1 v xs.length (xs.map I6) ∧ w.ownsRow base 3 1 v2 ys.length (ys.map I6) ∧ ∀ k, v.ownBlock = some k → v2.ownBlock ≠ some k
section
variable {w w' : World} {base : Nat} {v v2 : Value} {xs ys : List Int}
theorem Two.swap (h : Two w base v xs v2 ys) : Two w base v2 ys v xs := ⟨h.2.1, h.1, fun k h2 h1 => h.2.2 k h1 h2⟩
theorem Two.nil (w : World) (base : Nat) : Two w base (.slice none 0 0) [] (.slice none 0 0) [] := ⟨own_nil _ _ _, own_nil _ _ _, fun k h => by cases h⟩
theorem Two.keep (h : Two w base v xs v2 ys) (hb : Below w.heap.size w w') : Two w' base v xs v2 ys := ⟨own_below h.1 hb, own_below h.2.1 hb, h.2.2⟩
theorem own_grown {e n : Nat} {vs : List Value} {row : Option Nat} (h : w.ownsRow base e 1 v n vs) (hg : w.grownBy w' row) (hne : ∀ k, row = some k → v.ownBlock ≠ some k) : w'.ownsRow base e 1 v n vs := by
  obtain ⟨h1, h2⟩ := h
  refine ⟨h1, ?_⟩
  rcases h2 with h2 | ⟨g, cap, cur, rfl, hb, hh, r⟩
  · exact .inl h2
  · have hlt : g < w.heap.size := (Array.getElem?_eq_some_iff.1 hh).1
    exact .inr ⟨g, cap, cur, rfl, hb, by rw [hg.block g hlt (fun e => hne g e.symm rfl)]; exact hh, r⟩
theorem Two.first (h : Two w base v xs v2 ys) (hpos : 0 < xs.length) : ∃ g cap, v = .slice (some ⟨g, 0, none⟩) xs.length cap ∧ xs.length ≤ cap ∧ base ≤ g ∧ g < w.heap.size ∧
    (∀ (j : Nat) (x : Int), xs[j]? = some x → w.cell? ⟨g, j, none⟩ = some (I6 x)) ∧ (∀ j, w.frozen? ⟨g, j, none⟩ = false) ∧ ∀ (j : Nat) (u : Int), Two (w.setCell ⟨g, j, none⟩ (I6 u)) base v (xs.set j u) v2 ys := by
  obtain ⟨h1, h2, h3⟩ := h
  obtain ⟨g, cap, rfl, hg, hlt⟩ := h1.form hpos
  have hcap : xs.length ≤ cap := by
    obtain ⟨A, c, e, hc, _⟩ := own_slice h1
    cases e; exact hc
  refine ⟨g, cap, rfl, hcap, hg, hlt, fun j x hj => ?_, fun j => h1.frozenAt j, fun j u => ?_⟩
  · have hjl : j < xs.length := by
      rcases Nat.lt_or_ge j xs.length with hh | hh
      · exact hh
      · rw [List.getElem?_eq_none hh] at hj; cases hj
    rw [h1.cellAt j (by omega), List.getElem?_map, hj]; rfl
  · obtain ⟨s1, s2⟩ := h1.stored j (I6 u)
    refine ⟨?_, own_grown h2 s2 (fun k hk => by cases hk; exact h3 _ rfl), h3⟩
    rw [← List.map_set] at s1
    rw [List.length_set]
    exact s1
end
section
variable {ops : Array Oper} {rest : List Oper} {o : Oper} {a : Act} {w : World} {Q : Exit → Act → World → Prop}
/-- A number is appended to the first of two. -/
theorem ap_two {u : Int} (hgd : o.guard = none) (s x : Operand) (ho : o.op = .call { callee := .builtin .append, args := #[s, x], argTypes := #[36, 36] }) (base : Nat)
    (v : Value) (xs : List Int) (v2 : Value) (ys : List Int) (hs : a.eval s = v) (hown : Two w base v xs v2 ys) (c : Nat)
    (hx : a.eval x = .slice (some ⟨w.heap.size, 0, none⟩) 1 c) (hlen : xs.length ≤ 1000000000) (hbase : base ≤ w.heap.size)
    (h : ∀ v' w', Two w' base v' (xs ++ [u]) v2 ys → Below base w w' → wpList Try.prog ops Q rest (a.put o.dst v') w') : wpList Try.prog ops Q (o :: rest) a (w.alloc (.cells #[.int .i64 u] 3)) := by
  obtain ⟨i0, hi0, h11, h12, h13⟩ := info_parts int_info
  have hblt1 := own_blt hown.1
  have hblt2 := own_blt hown.2.1
  have hown1 := hown.keep ((Below.refl _ w).alloc (Nat.le_refl _) (.cells #[.int .i64 u] 3))
  have hblk := Blk.new w 3 [I6 u]
  obtain ⟨h1, h2, h3⟩ := hown1
  refine wpList_append_lies _ hgd s x 36 ho base 3 i0 (.int .i64 0) 1 8 Try.underlying36 hi0 h11 h12 h13 rfl (by decide) v xs.length _ hs h1 ⟨w.heap.size, 0, none⟩ 1 c [I6 u] hx rfl ?_ ?_ (by decide) (by simp only [maxLen]; omega) (by omega) (by simp; omega) _ rfl ?_
  · intro j q hj
    rw [add_zero_off]
    exact hblk.cell hj
  · intro q hq; simp at hq; subst hq; rfl
  · intro g cap w' h4 h5 h6 h7
    refine h _ _ ⟨?_, own_grown h2 h5 (fun k hk => h3 k hk), fun k hk => ?_⟩ (((Below.refl _ w).alloc hbase _).grown h5 (by simp; omega) (own_block h1))
    · rw [List.map_append, List.length_append]; exact h4
    · have hk' : g = k := by simpa [Value.ownBlock] using hk
      subst hk'
      rcases h6 with h6 | h6
      · exact h3 _ h6
      · intro e
        have := hblt2 _ e
        rw [World.size_alloc] at h6; omega
end
end Go.Proofs.Ytkjaonlelkfhaaa

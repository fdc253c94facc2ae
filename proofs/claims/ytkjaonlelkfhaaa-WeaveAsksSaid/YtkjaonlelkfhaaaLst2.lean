/- Rows of bytes that are appended whole. -/
import Derived.Test.YtkjaonlelkfhaaaLst
import Derived.Laws.OwnMore
namespace Go.Proofs.Ytkjaonlelkfhaaa
open Go.RowKit Gf Bt

theorem run_append_none {P : Program} (w : World) (base : Nat) (t ty e : TypeId) (i : TypeInfo) (size : Nat) (ht : P.underlying t = some (.slice e)) (hi : P.info? e = some i)
    (v : Value) (n c : Nat) (xs : List Value) (hown : w.ownsRow base e size v n xs) :
    (Builtin.append_ #[t, t] ty #[v, .slice none 0 c]).run P w = .ok v w := by
  rcases hown.2 with ⟨rfl, rfl⟩ | ⟨g, cap, cur, rfl, _, _, hnc, _⟩
  · simp [Builtin.append_, run_underlying ht, sizeOf, typeInfo, hi, Builtin.lenOf, Builtin.firstCells]
  · simp [Builtin.append_, run_underlying ht, sizeOf, typeInfo, hi, Builtin.lenOf, Builtin.firstCells, hnc, storeCells]
section
variable {ops : Array Oper} {rest : List Oper} {o : Oper} {a : Act} {w : World} {Q : Exit → Act → World → Prop}
/-- A row of bytes is appended to a slice of the call's own. -/
theorem ap_row {u : Value} {B : Nat} {oo : Option Nat} (hgd : o.guard = none) (s x : Operand) (ho : o.op = .call { callee := .builtin .append, args := #[s, x], argTypes := #[22, 22] }) (base : Nat)
    (v : Value) (n : Nat) (ks : List Value) (hs : a.eval s = v) (hown : w.ownsRow base 5 1 v n ks) (bs : List UInt8)
    (hx : a.eval x = u) (hrow : IsRow w B oo u bs) (hlen : n + bs.length ≤ 1000000000) (hbase : base ≤ w.heap.size)
    (h : ∀ v' w', w'.ownsRow base 5 1 v' (n + bs.length) (ks ++ bs.map B8) → Below base w w' → wpList Try.prog ops Q rest (a.put o.dst v') w') : wpList Try.prog ops Q (o :: rest) a w := by
  obtain ⟨i0, hi0, h11, h12, h13⟩ := info_parts bytes_info
  obtain ⟨A, c, rfl, h1, h2, h3, h4⟩ := hrow
  cases A with
  | none =>
    have hb0 : bs = [] := by
      cases bs with
      | nil => rfl
      | cons b bs => obtain ⟨ad, e, _⟩ := h3 (by simp); cases e
    subst hb0
    refine wpList_plain hgd fun K hK => ?_
    have hr := run_append_none (P := Try.prog) w base 22 o.type 5 i0 1 Try.underlying22 hi0 v n c ks hown
    unfold Oper.wp execOp
    simp only [ho, resolve, invoke, builtin, Sem.run_bind, Sem.run_pure, Result.andThen_ok, List.map_toArray, List.map_cons, List.map_nil, hs, hx, List.length_nil, hr]
    exact hK _ _ (h v w (by simpa using hown) (Below.refl _ _))
  | some ad =>
    refine wpList_append_own _ hgd s x 22 ho base 5 i0 (.int .u8 0) 1 1 Try.underlying22 hi0 h11 h12 h13 rfl (by decide) v n ks hs hown ad bs.length c (bs.map B8) hx (by simp) ?_ ?_ (by simp only [maxLen]; omega) (by omega) hbase ?_
    · intro j q hj
      have hjl : j < bs.length := by
        rcases Nat.lt_or_ge j bs.length with hh | hh
        · exact hh
        · rw [List.getElem?_eq_none (by simpa using hh)] at hj; cases hj
      obtain ⟨ad', e, _, hc⟩ := h3 (by simp; omega)
      cases e
      exact hc j q hj
    · intro q hq
      obtain ⟨b, _, rfl⟩ := List.mem_map.1 hq
      rfl
    · intro v' w' g1 g2 _
      exact h v' w' g1 ((Below.refl _ _).grown g2 hbase (own_block hown))
end
/-- What a call has appended reads as a row. -/
theorem own_row {w : World} {base n : Nat} {v : Value} {bs : List UInt8} (h : w.ownsRow base 5 1 v n (bs.map B8)) : IsRow w w.heap.size none v bs := by
  have hl := h.1
  rw [Nat.mul_one, List.length_map] at hl
  rcases h.2 with ⟨rfl, h0⟩ | ⟨g, cap, cur, rfl, hg, hh, hn, hc, hs, ht⟩
  · obtain rfl : bs = [] := List.length_eq_zero_iff.1 (by omega)
    exact ⟨none, 0, rfl, Nat.le_refl _, by simp [maxLen], Rd.nil, fun h => absurd h (by simp)⟩
  · obtain ⟨A, c, e, h1, h2⟩ := own_slice h
    cases e
    subst hl
    exact ⟨_, _, rfl, h1, hc, h2, fun _ _ _ => by simp⟩
end Go.Proofs.Ytkjaonlelkfhaaa

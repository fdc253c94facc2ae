/- Lists of rows that a call makes, within a round of a range over a function. -/
import Derived.Test.YtkjaonlelkfhaaaChunk
namespace Go.Proofs.Ytkjaonlelkfhaaa
open Go.RowKit Go.Shelf Gf Bt

section
variable {F : Fence} {n : Nat} {ops : Array Oper} {rest : List Oper} {o : Oper} {a : Act} {w : World} {Q : Exit → Act → World → Prop}
theorem mk_row_in {P : Program} (hgd : o.guard = none) (ty : TypeId) (x y : Operand) (ho : o.op = .makeSlice ty x y) (e : TypeId) (z : Value) (kx ky : IntKind) (m by_ : Nat) (hx : a.eval x = .int kx m) (hy : a.eval y = .int ky m)
    (hu : P.underlying ty = some (.slice e)) (hi : (P.info? e).map (fun i => (i.zero, i.size, i.bytes)) = some (some z, 1, by_)) (hz : z.cells = #[z]) (hb : by_ * m ≤ 281474976710656) (h63 : m ≤ 9223372036854775807)
    (h : wpListIn F n P ops Q rest (a.put o.dst (.slice (some ⟨w.heap.size, 0, none⟩) m m)) (w.alloc (.cells (Zs m z).toArray e))) : wpListIn F n P ops Q (o :: rest) a w := by
  refine wpListIn_plain hgd fun K hK => ?_
  obtain ⟨i0, hi0, h1, h2, h3⟩ := info_parts hi
  have hm := run_make (P := P) w ty e i0 z hu hi0 h1 kx ky m m (by omega) (by omega) (by rw [h3]; have h : ((by_ * m : Nat) : Int) ≤ 281474976710656 := (by omega); rw [Int.natCast_mul] at h; exact h) (by omega)
  have e1 : madeCells z.cells ((m : Int).toNat * i0.size) = (Zs m z).toArray := by
    rw [hz, h2, Int.toNat_natCast, Nat.mul_one]
    apply Array.ext
    · simp [madeCells, Zs]
    · intro j h1 h2; simp [madeCells, Zs, Nat.mod_one]
  rw [e1, Int.toNat_natCast] at hm
  unfold Oper.wpIn
  refine ⟨?_, ?_⟩
  · simp [Oper.about, ho]
  · rw [Oper.semAt_plain F _ _ (by rw [ho]; intro c hc'; cases hc')]
    simp only [execOp, ho, hx, hy, Sem.run_bind, Sem.run_pure, Result.andThen_ok, hm]
    exact hK _ _ h
end
/-- The row lies at or beyond block lo. -/
def RowFrom (lo : Nat) (u : Value) (x : List UInt8) : Prop := 0 < x.length → ∀ ad n c, u = .slice (some ad) n c → lo ≤ ad.block
/-- A list of rows that the call itself makes, the rows too from block base on. -/
def OwnLst2 (w : World) (base : Nat) (v : Value) (xs : List (List UInt8)) : Prop :=
  ∃ vs : List Value, w.ownsRow base 22 1 v xs.length vs ∧ ∀ (j : Nat) (x : List UInt8), xs[j]? = some x → ∃ u : Value, vs[j]? = some u ∧ IsRow w w.heap.size v.ownBlock u x ∧ RowFrom base u x
theorem OwnLst2.own {w : World} {base : Nat} {v : Value} {xs : List (List UInt8)} (h : OwnLst2 w base v xs) : OwnLst w base v xs := by
  obtain ⟨vs, h1, h2⟩ := h
  exact ⟨vs, h1, fun j x hj => by obtain ⟨u, hu, hr, _⟩ := h2 j x hj; exact ⟨u, hu, hr⟩⟩
theorem OwnLst2.form {w : World} {base : Nat} {v : Value} {xs : List (List UInt8)} (h : OwnLst2 w base v xs) (hpos : 0 < xs.length) : ∃ g len cap, v = .slice (some ⟨g, 0, none⟩) len cap := by
  obtain ⟨vs, h1, _⟩ := h
  obtain ⟨g, cap, rfl, _⟩ := h1.form hpos
  exact ⟨g, _, cap, rfl⟩
theorem OwnLst2.nil (w : World) (base : Nat) : OwnLst2 w base (.slice none 0 0) [] := ⟨[], own_nil _ _ _, by simp⟩
theorem OwnLst2.keep {w w' : World} {base : Nat} {v : Value} {xs : List (List UInt8)} (h : OwnLst2 w base v xs) (hb : Below w.heap.size w w') : OwnLst2 w' base v xs := by
  obtain ⟨vs, h1, h2⟩ := h
  refine ⟨vs, own_below h1 hb, fun j x hj => ?_⟩
  obtain ⟨u, hu, hr, hf⟩ := h2 j x hj
  exact ⟨u, hu, hr.keep (fun _ hp _ => hb.cell hp) hb.size (fun _ _ h => h), hf⟩
/-- A store below base. -/
theorem OwnLst2.set {w : World} {base : Nat} {v : Value} {xs : List (List UInt8)} (h : OwnLst2 w base v xs) {g : Nat} (hg : g < base) (i : Nat) (u : Value) : OwnLst2 (w.setCell ⟨g, i, none⟩ u) base v xs := by
  obtain ⟨vs, h1, h2⟩ := h
  have h1' : (w.setCell ⟨g, i, none⟩ u).ownsRow base 22 1 v xs.length vs := by
    obtain ⟨p1, p2⟩ := h1
    refine ⟨p1, ?_⟩
    rcases p2 with p2 | ⟨g', cap, cur, rfl, hb, hh, r⟩
    · exact .inl p2
    · exact .inr ⟨g', cap, cur, rfl, hb, by rw [heap_setCell_other w _ g' u (by simp; omega)]; exact hh, r⟩
  refine ⟨vs, h1', fun j x hj => ?_⟩
  obtain ⟨q, hq, ⟨A, c, rfl, r1, r2, r3, r4⟩, hf⟩ := h2 j x hj
  refine ⟨_, hq, ⟨A, c, rfl, r1, r2, fun hn => ?_, r4⟩, hf⟩
  obtain ⟨ad, rfl, hb, hc⟩ := r3 hn
  have hlo := hf (by simpa using hn) ad _ _ rfl
  refine ⟨ad, rfl, by simpa using hb, fun k y hy => ?_⟩
  rw [World.cell?_of_block (heap_setCell_other w _ _ u (by rw [block_of_add]; simp; omega))]
  exact hc k y hy
section
variable {F : Fence} {n : Nat} {ops : Array Oper} {rest : List Oper} {o : Oper} {a : Act} {w : World} {Q : Exit → Act → World → Prop}
/-- A row is appended to a list of the call's own: within a fence. -/
theorem ap_lst_in {u : Value} (hgd : o.guard = none) (s x : Operand) (ho : o.op = .call { callee := .builtin .append, args := #[s, x], argTypes := #[27, 27] }) (base : Nat)
    (v : Value) (xs : List (List UInt8)) (hs : a.eval s = v) (hown : OwnLst2 w base v xs) (bs : List UInt8) (c : Nat)
    (hx : a.eval x = .slice (some ⟨w.heap.size, 0, none⟩) 1 c) (hrow : IsRow w w.heap.size v.ownBlock u bs) (hfrom : RowFrom base u bs) (hlen : xs.length ≤ 1000000000) (hbase : base ≤ w.heap.size)
    (h : ∀ v' w', OwnLst2 w' base v' (xs ++ [bs]) → Below base w w' → KeepsOthers w w' → v'.oneCell' = true → wpListIn F n Try.prog ops Q rest (a.put o.dst v') w') : wpListIn F n Try.prog ops Q (o :: rest) a (w.alloc (.cells #[u] 22)) := by
  obtain ⟨i0, hi0, h11, h12, h13⟩ := info_parts rows_info
  have hown1 := hown.keep ((Below.refl _ w).alloc (Nat.le_refl _) (.cells #[u] 22))
  have hrow1 : IsRow (w.alloc (.cells #[u] 22)) w.heap.size v.ownBlock u bs := hrow.below ((Below.refl _ w).alloc (Nat.le_refl _) _)
  have hblk := Blk.new w 22 [u]
  have hblt := hown.own.blt
  obtain ⟨vs, h1, h2⟩ := hown1
  have hl := h1.1
  rw [Nat.mul_one] at hl
  have hu1 : u.oneCell' = true := by obtain ⟨A, c', rfl, _⟩ := hrow; rfl
  obtain ⟨g, cap, w', hr, h3, h4, h5, h6⟩ := run_append_lies (P := Try.prog) (w.alloc (.cells #[u] 22)) 27 o.type base 22 i0 (.slice none 0 0) 1 24 Try.underlying27 hi0 h11 h12 h13 rfl (by decide) v xs.length vs h1 ⟨w.heap.size, 0, none⟩ 1 c [u] rfl
    (fun j q hj => by rw [add_zero_off]; exact hblk.cell hj) (fun q hq => by simp at hq; subst hq; exact hu1) (by decide) (by simp only [maxLen]; omega) (by omega) (by simp; omega) _ rfl
  refine wpListIn_plain hgd fun K hK => ?_
  unfold Oper.wpIn
  refine ⟨?_, ?_⟩
  · simp [Oper.about, ho, resolve, Target.leads, Sem.run_pure]
  · rw [Oper.semAt_plain F _ _ (by rw [ho]; intro c hc'; cases hc')]
    simp only [execOp, ho, resolve, invoke, builtin, Sem.run_bind, Sem.run_pure, Result.andThen_ok, List.map_toArray, List.map_cons, List.map_nil, hs, hx, hr]
    have hkeep : ∀ p : Addr, p.block < w.heap.size + 1 → some p.block ≠ v.ownBlock → w'.cell? p = (w.alloc (.cells #[u] 22)).cell? p := fun p hp hne => h4.cell_far p (by simpa using hp) hne
    have hsz := h4.size
    rw [World.size_alloc] at hsz
    have hne : ∀ k, k < w.heap.size + 1 → some k ≠ v.ownBlock → some k ≠ (Value.slice (some ⟨g, 0, none⟩) (xs.length + 1) cap).ownBlock := by
      intro k hk hkv e
      have e' : k = g := by simpa [Value.ownBlock] using e
      rcases h5 with h5 | h5
      · exact hkv (by rw [e', h5])
      · rw [World.size_alloc] at h5; omega
    have hko : KeepsOthers (w.alloc (.cells #[u] 22)) w' := KeepsOthers.of_grownBy h4 fun j ob hj hob => by
      rcases h1.2 with ⟨rfl, _⟩ | ⟨g', cap', cur, rfl, _, hh, _⟩
      · cases hj
      · injection hj with hj; subst hj; rw [hh] at hob; cases hob; rfl
    refine hK _ _ (h _ _ ⟨vs ++ [u], by rw [List.length_append]; exact h3, fun j y hj => ?_⟩ (((Below.refl _ w).alloc hbase _).grown h4 (by simp; omega) (own_block h1)) ((KeepsOthers.alloc _ _).trans hko) rfl)
    rcases Nat.lt_or_ge j xs.length with hlt | hge
    · rw [List.getElem?_append_left hlt] at hj
      obtain ⟨q, hq, hr, hf⟩ := h2 j y hj
      refine ⟨q, by rw [List.getElem?_append_left (by omega)]; exact hq, ?_, hf⟩
      rw [World.size_alloc] at hr
      exact hr.keep hkeep hsz hne
    · rw [List.getElem?_append_right hge] at hj
      have hj0 : j - xs.length = 0 := by
        rcases Nat.eq_zero_or_pos (j - xs.length) with h0 | h0
        · exact h0
        · rw [List.getElem?_eq_none (by simp; omega)] at hj; cases hj
      rw [hj0] at hj
      simp at hj; subst hj
      refine ⟨u, by rw [List.getElem?_append_right (by omega), hl, hj0]; rfl, ?_, hfrom⟩
      exact hrow1.keep (fun p hp hne' => hkeep p (by omega) hne') (by omega) (fun k hk hkv => hne k (by omega) hkv)
end
section
variable {w w' : World} {base : Nat} {v : Value} {xs : List (List UInt8)} {row : Option Nat}
/-- What is no cells may turn: a list of the call's own is as it was. -/
theorem OwnLst2.kept (h : OwnLst2 w base v xs) (hg : w.grownBy w' row) (hr : ∀ r, row = some r → ∃ o : Obj, w.heap[r]? = some o ∧ o.isCells = false) : OwnLst2 w' base v xs := by
  obtain ⟨vs, h1, h2⟩ := h
  have hno : ∀ k, row = some k → v.ownBlock ≠ some k := fun k hk hv => by
    obtain ⟨ob, hob, hc⟩ := hr k hk
    rcases h1.2 with ⟨rfl, _⟩ | ⟨g, cap, cur, rfl, _, hh, _⟩
    · cases hv
    · injection hv with hv; subst hv; rw [hh] at hob; cases hob; cases hc
  have h1' : w'.ownsRow base 22 1 v xs.length vs := by
    obtain ⟨p1, p2⟩ := h1
    refine ⟨p1, ?_⟩
    rcases p2 with p2 | ⟨g, cap, cur, rfl, hb, hh, r⟩
    · exact .inl p2
    · have hlt : g < w.heap.size := (Array.getElem?_eq_some_iff.1 hh).1
      exact .inr ⟨g, cap, cur, rfl, hb, by rw [hg.block g hlt (fun e => hno g e.symm rfl)]; exact hh, r⟩
  refine ⟨vs, h1', fun j x hj => ?_⟩
  obtain ⟨u, hu, ⟨A, c, rfl, r1, r2, r3, r4⟩, hf⟩ := h2 j x hj
  refine ⟨_, hu, ⟨A, c, rfl, r1, r2, fun hn => ?_, r4⟩, hf⟩
  obtain ⟨ad, rfl, hb, hc⟩ := r3 hn
  exact ⟨ad, rfl, Nat.lt_of_lt_of_le hb hg.size, fun j u hu => cell_kept (hc j u hu) hg hr⟩
end
end Go.Proofs.Ytkjaonlelkfhaaa

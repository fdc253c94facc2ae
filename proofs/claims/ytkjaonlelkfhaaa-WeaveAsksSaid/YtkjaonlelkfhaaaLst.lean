/- Lists of rows of bytes, in memory: as they are read, and as a call of one's own makes them. -/
import Derived.Test.YtkjaonlelkfhaaaKit
namespace Go.Proofs.Ytkjaonlelkfhaaa
open Go.RowKit Gf Bt

theorem bytes_info : (Try.prog.info? 5).map (fun i => (i.zero, i.size, i.bytes)) = some (some (.int .u8 0), 1, 1) := by kernel_rfl
theorem rows_info : (Try.prog.info? 22).map (fun i => (i.zero, i.size, i.bytes)) = some (some (.slice none 0 0), 1, 24) := by kernel_rfl
/-- A slice that reads as these bytes, below block B and outside block o. -/
def IsRow (w : World) (B : Nat) (o : Option Nat) (v : Value) (bs : List UInt8) : Prop :=
  ∃ A c, v = .slice A bs.length c ∧ bs.length ≤ c ∧ c ≤ maxLen ∧ Rd w B A (bs.map B8) ∧ (0 < bs.length → ∀ ad, A = some ad → some ad.block ≠ o)
theorem IsRow.keep {w w' : World} {B B' : Nat} {o o' : Option Nat} {v : Value} {bs : List UInt8} (h : IsRow w B o v bs) (hk : ∀ p : Addr, p.block < B → some p.block ≠ o → w'.cell? p = w.cell? p)
    (hB : B ≤ B') (ho : ∀ k, k < B → some k ≠ o → some k ≠ o') : IsRow w' B' o' v bs := by
  obtain ⟨A, c, rfl, h1, h2, h3, h4⟩ := h
  refine ⟨A, c, rfl, h1, h2, fun hn => ?_, fun hn ad e => ?_⟩
  · obtain ⟨ad, rfl, hb, hc⟩ := h3 hn
    have hn' : 0 < bs.length := by simpa using hn
    refine ⟨ad, rfl, by omega, fun j u hu => ?_⟩
    rw [hk _ (by rw [block_of_add]; exact hb) (by rw [block_of_add]; exact h4 hn' ad rfl)]
    exact hc j u hu
  · obtain ⟨ad', e', hb, hc⟩ := h3 (by simpa using hn)
    rw [e] at e'; cases e'
    exact ho _ hb (h4 hn ad e)
theorem IsRow.below {w w' : World} {B : Nat} {o : Option Nat} {v : Value} {bs : List UInt8} (h : IsRow w B o v bs) (hb : Below B w w') : IsRow w' B o v bs :=
  h.keep (fun _ hp _ => hb.cell hp) (Nat.le_refl _) (fun _ _ h => h)
theorem IsRow.of_blk {w : World} {g B : Nat} {o : Option Nat} {bs : List UInt8} {c : Nat} (h : Blk w g 5 (bs.map B8)) (hB : g < B) (ho : some g ≠ o) (hc : bs.length ≤ c) (hm : c ≤ maxLen) : IsRow w B o (.slice (some ⟨g, 0, none⟩) bs.length c) bs :=
  ⟨_, _, rfl, hc, hm, Rd.of_blk h hB, fun _ ad e => by cases e; exact ho⟩
/-- A list of rows that reads as xs, all below block B. -/
def IsLst (w : World) (B : Nat) (v : Value) (xs : List (List UInt8)) : Prop :=
  ∃ (A : Option Addr) (c : Nat) (vs : List Value), v = .slice A xs.length c ∧ xs.length ≤ c ∧ c ≤ maxLen ∧ vs.length = xs.length ∧ Rd w B A vs ∧ ∀ (j : Nat) (x : List UInt8), xs[j]? = some x → ∃ u : Value, vs[j]? = some u ∧ IsRow w B none u x
theorem IsLst.below {w w' : World} {B : Nat} {v : Value} {xs : List (List UInt8)} (h : IsLst w B v xs) (hb : Below B w w') : IsLst w' B v xs := by
  obtain ⟨A, c, vs, rfl, h1, h2, h3, h4, h5⟩ := h
  exact ⟨A, c, vs, rfl, h1, h2, h3, h4.below hb, fun j x hj => by obtain ⟨u, hu, hr⟩ := h5 j x hj; exact ⟨u, hu, hr.below hb⟩⟩
theorem IsLst.more {w : World} {B B' : Nat} {v : Value} {xs : List (List UInt8)} (h : IsLst w B v xs) (hB : B ≤ B') : IsLst w B' v xs := by
  obtain ⟨A, c, vs, rfl, h1, h2, h3, h4, h5⟩ := h
  exact ⟨A, c, vs, rfl, h1, h2, h3, h4.more hB, fun j x hj => by obtain ⟨u, hu, hr⟩ := h5 j x hj; exact ⟨u, hu, hr.keep (fun _ _ _ => rfl) hB (fun _ _ h => h)⟩⟩
/-- A cell of the list, and the row in it. -/
theorem IsLst.get {w : World} {B : Nat} {A : Option Addr} {n c : Nat} {xs : List (List UInt8)} (h : IsLst w B (.slice A n c) xs) {j : Nat} {x : List UInt8} (hj : xs[j]? = some x) :
    ∃ ad A' c', A = some ad ∧ ad.block < B ∧ w.cell? (ad.add j) = some (.slice A' x.length c') ∧ x.length ≤ c' ∧ c' ≤ maxLen ∧ Rd w B A' (x.map B8) := by
  obtain ⟨A0, c0, vs, e, h1, h2, h3, h4, h5⟩ := h
  cases e
  obtain ⟨u, hu, A', c', rfl, r1, r2, r3, r4⟩ := h5 j x hj
  have hlt : j < vs.length := by
    rcases Nat.lt_or_ge j vs.length with h | h
    · exact h
    · rw [List.getElem?_eq_none h] at hu; cases hu
  obtain ⟨ad, rfl, hb, hc⟩ := h4 (by omega)
  exact ⟨ad, A', c', rfl, hb, hc j _ hu, r1, r2, r3⟩
theorem IsLst.form {w : World} {B : Nat} {v : Value} {xs : List (List UInt8)} (h : IsLst w B v xs) : ∃ A c, v = .slice A xs.length c ∧ xs.length ≤ c ∧ c ≤ maxLen := by
  obtain ⟨A, c, vs, rfl, h1, h2, _⟩ := h
  exact ⟨A, c, rfl, h1, h2⟩
theorem IsLst.nil (w : World) (B : Nat) : IsLst w B (.slice none 0 0) [] := ⟨none, 0, [], rfl, Nat.le_refl _, by simp [maxLen], rfl, Rd.nil, by simp⟩

/-- A list of rows that the call itself makes. -/
def OwnLst (w : World) (base : Nat) (v : Value) (xs : List (List UInt8)) : Prop :=
  ∃ vs : List Value, w.ownsRow base 22 1 v xs.length vs ∧ ∀ (j : Nat) (x : List UInt8), xs[j]? = some x → ∃ u : Value, vs[j]? = some u ∧ IsRow w w.heap.size v.ownBlock u x
theorem OwnLst.nil (w : World) (base : Nat) : OwnLst w base (.slice none 0 0) [] := ⟨[], own_nil _ _ _, by simp⟩
theorem OwnLst.keep {w w' : World} {base : Nat} {v : Value} {xs : List (List UInt8)} (h : OwnLst w base v xs) (hb : Below w.heap.size w w') : OwnLst w' base v xs := by
  obtain ⟨vs, h1, h2⟩ := h
  refine ⟨vs, own_below h1 hb, fun j x hj => ?_⟩
  obtain ⟨u, hu, hr⟩ := h2 j x hj
  exact ⟨u, hu, hr.keep (fun _ hp _ => hb.cell hp) hb.size (fun _ _ h => h)⟩
theorem own_blt {w : World} {base e n : Nat} {v : Value} {vs : List Value} (h : w.ownsRow base e 1 v n vs) : ∀ k, v.ownBlock = some k → k < w.heap.size := by
  intro k hk
  rcases h.2 with ⟨rfl, rfl⟩ | ⟨g, cap, cur, hv, hg, hh, _⟩
  · cases hk
  · subst hv; injection hk with hk; subst hk; exact (Array.getElem?_eq_some_iff.1 hh).1
theorem OwnLst.blt {w : World} {base : Nat} {v : Value} {xs : List (List UInt8)} (h : OwnLst w base v xs) : ∀ k, v.ownBlock = some k → k < w.heap.size := by
  obtain ⟨vs, h1, _⟩ := h; exact own_blt h1
theorem OwnLst.new {w : World} {base : Nat} {v : Value} {xs : List (List UInt8)} (h : OwnLst w base v xs) {g : Nat} (hg : w.heap.size ≤ g) : some g ≠ v.ownBlock := fun e => by
  have := h.blt g e.symm; omega
theorem OwnLst.lst {w : World} {base : Nat} {v : Value} {xs : List (List UInt8)} (h : OwnLst w base v xs) : IsLst w w.heap.size v xs := by
  obtain ⟨vs, h1, h2⟩ := h
  have hl := h1.1
  rw [Nat.mul_one] at hl
  rcases h1.2 with ⟨rfl, h0⟩ | ⟨g, cap, cur, rfl, hg, hh, hn, hm, hs, ht⟩
  · obtain rfl : xs = [] := List.length_eq_zero_iff.1 h0
    exact IsLst.nil _ _
  · refine ⟨some ⟨g, 0, none⟩, cap, vs, rfl, hn, hm, hl, fun _ => ⟨_, rfl, (Array.getElem?_eq_some_iff.1 hh).1, fun j u hu => ?_⟩, fun j x hj => ?_⟩
    · rw [add_zero_off, cell_of_row w g j cur _ (0, 0) hh]
      rw [← ht, List.getElem?_take] at hu
      split at hu
      · rw [← hu]; simp
      · cases hu
    · obtain ⟨u, hu, hr⟩ := h2 j x hj
      exact ⟨u, hu, hr.keep (fun _ _ _ => rfl) (Nat.le_refl _) (fun _ _ _ => by simp)⟩
section
variable {ops : Array Oper} {rest : List Oper} {o : Oper} {a : Act} {w : World} {Q : Exit → Act → World → Prop}
/-- A row is appended to a list of the call's own: the world at the append is the one in which the argument's cell has just been laid. -/
theorem ap_lst {u : Value} (hgd : o.guard = none) (s x : Operand) (ho : o.op = .call { callee := .builtin .append, args := #[s, x], argTypes := #[27, 27] }) (base : Nat)
    (v : Value) (xs : List (List UInt8)) (hs : a.eval s = v) (hown : OwnLst w base v xs) (bs : List UInt8) (c : Nat)
    (hx : a.eval x = .slice (some ⟨w.heap.size, 0, none⟩) 1 c) (hrow : IsRow w w.heap.size v.ownBlock u bs) (hlen : xs.length ≤ 1000000000) (hbase : base ≤ w.heap.size)
    (h : ∀ v' w', OwnLst w' base v' (xs ++ [bs]) → Below base w w' → wpList Try.prog ops Q rest (a.put o.dst v') w') : wpList Try.prog ops Q (o :: rest) a (w.alloc (.cells #[u] 22)) := by
  obtain ⟨i0, hi0, h11, h12, h13⟩ := info_parts rows_info
  have hown1 := hown.keep ((Below.refl _ w).alloc (Nat.le_refl _) (.cells #[u] 22))
  have hrow1 : IsRow (w.alloc (.cells #[u] 22)) w.heap.size v.ownBlock u bs := hrow.below ((Below.refl _ w).alloc (Nat.le_refl _) _)
  have hblk := Blk.new w 22 [u]
  have hblt := hown.blt
  obtain ⟨vs, h1, h2⟩ := hown1
  have hl := h1.1
  rw [Nat.mul_one] at hl
  have hu1 : u.oneCell' = true := by obtain ⟨A, c', rfl, _⟩ := hrow; rfl
  refine wpList_append_lies _ hgd s x 27 ho base 22 i0 (.slice none 0 0) 1 24 Try.underlying27 hi0 h11 h12 h13 rfl (by decide) v xs.length vs hs h1 ⟨w.heap.size, 0, none⟩ 1 c [u] hx rfl ?_ ?_ (by decide) (by simp only [maxLen]; omega) (by omega) (by simp; omega) _ rfl ?_
  · intro j q hj
    rw [add_zero_off]
    exact hblk.cell hj
  · intro q hq; simp at hq; subst hq; exact hu1
  · intro g cap w' h3 h4 h5 h6
    have hkeep : ∀ p : Addr, p.block < w.heap.size + 1 → some p.block ≠ v.ownBlock → w'.cell? p = (w.alloc (.cells #[u] 22)).cell? p := fun p hp hne => h4.cell_far p (by simpa using hp) hne
    have hsz := h4.size
    rw [World.size_alloc] at hsz
    have hne : ∀ k, k < w.heap.size + 1 → some k ≠ v.ownBlock → some k ≠ (Value.slice (some ⟨g, 0, none⟩) (xs.length + 1) cap).ownBlock := by
      intro k hk hkv e
      have e' : k = g := by simpa [Value.ownBlock] using e
      rcases h5 with h5 | h5
      · exact hkv (by rw [e', h5])
      · rw [World.size_alloc] at h5; omega
    refine h _ _ ⟨vs ++ [u], by rw [List.length_append]; exact h3, fun j y hj => ?_⟩ (((Below.refl _ w).alloc hbase _).grown h4 (by simp; omega) (own_block h1))
    rcases Nat.lt_or_ge j xs.length with hlt | hge
    · rw [List.getElem?_append_left hlt] at hj
      obtain ⟨q, hq, hr⟩ := h2 j y hj
      refine ⟨q, by rw [List.getElem?_append_left (by omega)]; exact hq, ?_⟩
      rw [World.size_alloc] at hr
      exact hr.keep hkeep hsz hne
    · rw [List.getElem?_append_right hge] at hj
      have hj0 : j - xs.length = 0 := by
        rcases Nat.eq_zero_or_pos (j - xs.length) with h0 | h0
        · exact h0
        · rw [List.getElem?_eq_none (by simp; omega)] at hj; cases hj
      rw [hj0] at hj
      simp at hj; subst hj
      refine ⟨u, by rw [List.getElem?_append_right (by omega), hl, hj0]; rfl, ?_⟩
      exact hrow1.keep (fun p hp hne' => hkeep p (by omega) hne') (by omega) (fun k hk hkv => hne k (by omega) hkv)
end
end Go.Proofs.Ytkjaonlelkfhaaa

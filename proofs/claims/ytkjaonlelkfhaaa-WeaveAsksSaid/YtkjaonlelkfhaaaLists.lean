/- The walk of erratumref09.Lists: lists of rows that are the same. -/
import Derived.Test.YtkjaonlelkfhaaaSame
namespace Go.Proofs.Ytkjaonlelkfhaaa
open Go.RowKit Gf Bt

theorem take_succ_eq {xs ys : List (List UInt8)} {k : Nat} {x y : List UInt8} (hx : xs[k]? = some x) (hy : ys[k]? = some y) (h : xs.take k = ys.take k) (hxy : x = y) : xs.take (k + 1) = ys.take (k + 1) := by
  rw [List.take_add_one, List.take_add_one, h, hx, hy, hxy]
set_option maxHeartbeats 1000000 in
theorem lists_any (v v' : Value) (xs ys : List (List UInt8)) (w : World) (h1 : IsLst w w.heap.size v xs) (h2 : IsLst w w.heap.size v' ys) (hm : xs.length ≤ 9223372036854775807) :
    Calls Try.prog 19 #[v, v'] w fun e w' => e = .returned (.bool (decide (xs = ys))) ∧ Below w.heap.size w w' := by
  obtain ⟨A, c, rfl, hc, hc2⟩ := h1.form
  obtain ⟨A', c', rfl, hc', hc2'⟩ := h2.form
  have H1 := bx h1
  have H2 := bx h2
  clear h1 h2
  by_cases hl : xs.length = ys.length
  · have hll : ((xs.length : Int) == (ys.length : Int)) = true := by rw [hl]; simp
    go_enter Try.func19, Try.ntmps19
    have HL := bx hl
    clear hl
    go_wp2
    go_loopw [5] (fun i wr => ∃ k : Nat, k ≤ xs.length ∧ i = .int .i64 k ∧ xs.take k = ys.take k ∧ Below w.heap.size w wr) (fun i _ => xs.length - (intOf i).toNat)
    case atStart => exact ⟨0, by omega, rfl, by simp, Below.refl _ _⟩
    case round =>
      obtain ⟨k, hk, rfl, htk, hbel⟩ := hrel
      have HT := bx htk
      have HB := bx hbel
      clear htk hbel
      have hk0 : (0 : Int) ≤ (k : Int) := Int.natCast_nonneg _
      by_cases hlt : k < xs.length
      · have hk1 : (k : Int) < (xs.length : Int) := by omega
        have hk2 : (k : Int) < (ys.length : Int) := by have := HL.out; omega
        obtain ⟨x, hx⟩ : ∃ x : List UInt8, xs[k]? = some x := ⟨_, List.getElem?_eq_getElem hlt⟩
        obtain ⟨y, hy⟩ : ∃ y : List UInt8, ys[k]? = some y := ⟨_, List.getElem?_eq_getElem (by have := HL.out; omega)⟩
        obtain ⟨ad, X, cx, rfl, hab, hcell, r1, r2, r3⟩ := H1.out.get hx
        obtain ⟨ad', Y, cy, rfl, hab', hcell', r1', r2', r3'⟩ := H2.out.get hy
        have c1 : ∀ z : Ext w.heap.size wr, z.w.cell? (ad.add k) = some (.slice X x.length cx) := fun z => by
          rw [z.bel.cell (by rw [block_of_add]; exact hab), HB.out.cell (by rw [block_of_add]; exact hab)]; exact hcell
        have c2 : ∀ z : Ext w.heap.size wr, z.w.cell? (ad'.add k) = some (.slice Y y.length cy) := fun z => by
          rw [z.bel.cell (by rw [block_of_add]; exact hab'), HB.out.cell (by rw [block_of_add]; exact hab')]; exact hcell'
        have HS : ∀ z : Ext w.heap.size wr, Calls Try.prog 14 #[.slice X x.length cx, .slice Y y.length cy] z.w fun e w' => e = .returned (.bool (decide (x = y))) ∧ Below z.w.heap.size z.w w' := fun z =>
          same_row (o := none) (o' := none) ⟨X, cx, rfl, r1, r2, ((r3.below HB.out).below z.bel).more (Nat.le_trans HB.out.size z.bel.size), fun _ _ _ => by simp⟩ ⟨Y, cy, rfl, r1', r2', ((r3'.below HB.out).below z.bel).more (Nat.le_trans HB.out.size z.bel.size), fun _ _ _ => by simp⟩
        have HSS := bx HS
        have HX := bx hx
        have HY := bx hy
        clear HS hx hy hcell hcell' r1 r2 r3 r1' r2' r3'
        go_upto_region 6 with fail
        refine wp_region_ext (w := wr) w.heap.size (by kernel_rfl) (by kernel_rfl) ?_
        repeat (go_big_quiet_step ((go_at_call 14; exact ext_call HB.out.size (HSS.out _))))
        refine wpQuiet_nil ?_
        rintro _ ⟨z, rfl⟩
        have HZ := bx (HB.out.trans z.bel)
        by_cases hxy : x = y
        · have hd : decide (x = y) = true := decide_eq_true hxy
          rw [hd]
          go_wp2
          go_roundw
          case rel => exact ⟨k + 1, by omega, by go_num, take_succ_eq HX.out HY.out HT.out hxy, HZ.out⟩
          case measure => simp [intOf]; omega
        · have hd : decide (x = y) = false := decide_eq_false hxy
          rw [hd]
          go_wp2
          go_ret
          refine ⟨ret_bool ?_, HZ.out⟩
          have h3 : ¬ xs = ys := fun h => by
            have h4 := HX.out; rw [h, HY.out] at h4
            exact hxy (Option.some.inj h4).symm
          simp [h3]
      · obtain rfl : k = xs.length := by omega
        go_wp2
        go_ret
        exact ⟨ret_bool (by
          have h := HT.out
          rw [List.take_of_length_le (Nat.le_refl _), List.take_of_length_le (by have := HL.out; omega)] at h
          simp [h]), HB.out⟩
  · have hll : ((xs.length : Int) == (ys.length : Int)) = false := by
      rw [beq_eq_false_iff_ne]; omega
    have hne : decide (xs = ys) = false := by
      rw [decide_eq_false_iff_not]; intro h; exact hl (by rw [h])
    have HN := bx hne
    clear hne hl
    go_enter Try.func19, Try.ntmps19
    go_wp2
    go_ret
    exact ⟨by rw [HN.out]; rfl, Below.refl _ _⟩
end Go.Proofs.Ytkjaonlelkfhaaa

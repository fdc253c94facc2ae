/- The walk of erratumref01.Same: lists of bytes that are the same. -/
import Derived.Test.YtkjaonlelkfhaaaLst
namespace Go.Proofs.Ytkjaonlelkfhaaa
open Go.RowKit Gf Bt

theorem b8_inj {a b : UInt8} : ((a.toNat : Int) == (b.toNat : Int)) = (a == b) := by
  rw [Bool.eq_iff_iff]; simp only [beq_iff_eq]
  exact ⟨fun h => u8_ext (by omega), fun h => by rw [h]⟩
theorem take_succ_beq (xs ys : List UInt8) (k : Nat) (x y : UInt8) (hx : xs[k]? = some x) (hy : ys[k]? = some y) (h : xs.take k = ys.take k) (hxy : x = y) : xs.take (k + 1) = ys.take (k + 1) := by
  rw [List.take_add_one, List.take_add_one, h, hx, hy, hxy]
set_option maxHeartbeats 400000 in
theorem same_any (A A' : Option Addr) (xs ys : List UInt8) (c c' : Nat) (w : World) (h1 : Rd w w.heap.size A (xs.map B8)) (h2 : Rd w w.heap.size A' (ys.map B8)) (hm : xs.length ≤ 9223372036854775807) :
    Calls Try.prog 14 #[.slice A xs.length c, .slice A' ys.length c'] w fun e w' => e = .returned (.bool (decide (xs = ys))) ∧ Below w.heap.size w w' := by
  by_cases hl : xs.length = ys.length
  · have hll : ((xs.length : Int) == (ys.length : Int)) = true := by rw [hl]; simp
    go_enter Try.func14, Try.ntmps14
    have HL := Lib.hid hl
    clear hl
    go_wp2
    go_loopw [5] (fun i wr => ∃ k : Nat, k ≤ xs.length ∧ i = .int .i64 k ∧ xs.take k = ys.take k ∧ Below w.heap.size w wr) (fun i _ => xs.length - (intOf i).toNat)
    case atStart => exact ⟨0, by omega, rfl, by simp, Below.refl _ _⟩
    case round =>
      obtain ⟨k, hk, rfl, htk, hbel⟩ := hrel
      have HT := Lib.hid htk
      have HB := Lib.hid hbel
      clear htk hbel
      by_cases hlt : k < xs.length
      · have hk0 : (0 : Int) ≤ (k : Int) := Int.natCast_nonneg _
        have hk1 : (k : Int) < (xs.length : Int) := by omega
        have hk2 : (k : Int) < (ys.length : Int) := by have := HL.out; omega
        obtain ⟨x, hx⟩ : ∃ x : UInt8, xs[k]? = some x := ⟨_, List.getElem?_eq_getElem hlt⟩
        obtain ⟨y, hy⟩ : ∃ y : UInt8, ys[k]? = some y := ⟨_, List.getElem?_eq_getElem (by have := HL.out; omega)⟩
        obtain ⟨ad, rfl, hab, hc⟩ := h1 (by simp; omega)
        obtain ⟨ad', rfl, hab', hc'⟩ := h2 (by simp; have := HL.out; omega)
        have hcx : ∀ n, (wr.drewN n).cell? (ad.add k) = some (.int .u8 x.toNat) := fun n => by
          show wr.cell? _ = _
          rw [HB.out.cell (by rw [block_of_add]; exact hab)]; exact hc k _ (by simp [hx])
        have hcy : ∀ n, (wr.drewN n).cell? (ad'.add k) = some (.int .u8 y.toNat) := fun n => by
          show wr.cell? _ = _
          rw [HB.out.cell (by rw [block_of_add]; exact hab')]; exact hc' k _ (by simp [hy])
        have HX := Lib.hid hx
        have HY := Lib.hid hy
        clear hx hy hc hc'
        go_wp2
        go_quiet (fail)
        go_wp2
        · rename_i hne
          go_ret
          refine ⟨ret_bool ?_, bel_drewN HB.out nq⟩
          have h3 : ¬ xs = ys := fun h => by
            have h4 := HX.out; rw [h, HY.out] at h4
            rw [Option.some.inj h4] at hne; simp at hne
          simp [h3]
        · rename_i heq
          go_roundw
          case rel =>
            refine ⟨k + 1, by omega, by go_num, take_succ_beq xs ys k x y HX.out HY.out HT.out (u8_ext ?_), bel_drewN HB.out nq⟩
            have h3 : ((x.toNat : Int) == (y.toNat : Int)) = true := by simpa [bne] using heq
            have := beq_iff_eq.1 h3
            omega
          case measure => simp [intOf]; omega
      · obtain rfl : k = xs.length := by omega
        clear h1 h2
        go_wp2
        go_ret
        exact ⟨ret_bool (by
          have h := HT.out
          rw [List.take_of_length_le (Nat.le_refl _), List.take_of_length_le (by have := HL.out; omega)] at h
          simp [h]), HB.out⟩
  · have hll : ((xs.length : Int) == (ys.length : Int)) = false := by
      rw [beq_eq_false_iff_ne]; omega
    have hne : decide (xs = ys) = false := by
      rw [decide_eq_false_iff_not]; intro h; exact hl (by rw [h])
    have HN := Lib.hid hne
    clear hne hl
    go_enter Try.func14, Try.ntmps14
    go_wp2
    go_ret
    exact ⟨by rw [HN.out]; rfl, Below.refl _ _⟩
theorem same_row {v v' : Value} {xs ys : List UInt8} {o o' : Option Nat} {w : World} (h1 : IsRow w w.heap.size o v xs) (h2 : IsRow w w.heap.size o' v' ys) :
    Calls Try.prog 14 #[v, v'] w fun e w' => e = .returned (.bool (decide (xs = ys))) ∧ Below w.heap.size w w' := by
  obtain ⟨A, c, rfl, hc, hm, hr, _⟩ := h1
  obtain ⟨A', c', rfl, hc', hm', hr', _⟩ := h2
  simp only [maxLen] at hm
  exact same_any A A' xs ys c c' w hr hr' (by omega)
end Go.Proofs.Ytkjaonlelkfhaaa

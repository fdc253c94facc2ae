/- The walks of layer 21, seven: is a block of another length? -/
import Derived.Test.YtkjaonlelkfhaaaWeaveF
namespace Go.Proofs.Ytkjaonlelkfhaaa
open Go.RowKit Gf Bt

theorem short_any (n k b d : Int) (g : Nat) (A : Option Addr) (len cap : Nat) (w : World) (hg : Blk w g 50 [.int .i64 n, .int .i64 k, .int .i64 b, .int .i64 d]) :
    Calls Try.prog 22 #[.slice A len cap, .pointer (some ⟨g, 0, none⟩)] w fun e w' => e = .returned (.bool (decide ((len : Int) ≠ n))) ∧ Below w.heap.size w w' := by
  have c0 : w.cell? ⟨g, 0, none⟩ = some (.int .i64 n) := hg.cell rfl
  clear hg
  go_enter Try.func22, Try.ntmps22
  go_wp2
  go_ret
  refine ⟨ret_bool ?_, Below.refl _ _⟩
  by_cases h : (len : Int) = n <;> simp [h]
theorem indexfunc_any (n k b d : Int) (g : Nat) (v : Value) (xs : List (List UInt8)) (w : World) (hg : Blk w g 50 [.int .i64 n, .int .i64 k, .int .i64 b, .int .i64 d]) (hx : IsLst w w.heap.size v xs) (hm : xs.length ≤ 9223372036854775807) :
    Calls Try.prog 33 #[v, .func (.func 22) #[] #[.pointer (some ⟨g, 0, none⟩)]] w fun e w' => (∃ r : Int, e = .returned (.int .i64 r) ∧ (0 ≤ r ↔ ∃ x ∈ xs, (x.length : Int) ≠ n)) ∧ Below w.heap.size w w' := by
  obtain ⟨A, c, rfl, hc, hc2⟩ := hx.form
  have HX := bx hx
  have HG := bx hg
  clear hx hg
  go_enter Try.func33, Try.ntmps33
  go_wp2
  go_loopw [5, 8] (fun _ i wr => ∃ j : Nat, j ≤ xs.length ∧ i = .int .i64 j ∧ (∀ x ∈ xs.take j, (x.length : Int) = n) ∧ Below w.heap.size w wr) (fun _ i _ => xs.length - (intOf i).toNat)
  case atStart => exact ⟨0, by omega, rfl, by simp, Below.refl _ _⟩
  case round =>
    obtain ⟨j, hj, rfl, ht, hbel⟩ := hrel
    have HT := bx ht
    have HL := bx hbel
    clear ht hbel
    have hj0 : (0 : Int) ≤ (j : Int) := Int.natCast_nonneg _
    by_cases hlt : j < xs.length
    · obtain ⟨x, hxj⟩ : ∃ x : List UInt8, xs[j]? = some x := ⟨_, List.getElem?_eq_getElem hlt⟩
      obtain ⟨ad, A', c', rfl, hab, hcell, r1, r2, r3⟩ := HX.out.get hxj
      have hcell' : wr.cell? (ad.add j) = some (.slice A' x.length c') := by rw [HL.out.cell (by rw [block_of_add]; exact hab)]; exact hcell
      have HJ := bx hxj
      have HG1 := bx (HG.out.below HL.out HG.out.lt)
      clear hxj hcell r3
      have hltz : (j : Int) < (xs.length : Int) := by omega
      go_wp2_with (go_at_call 22; refine (short_any n k b d g A' x.length c' _ HG1.out).mono ?_; rintro e w1 ⟨rfl, hb1⟩; have HL1 := bx (HL.out.trans (hb1.mono HL.out.size)); clear hb1)
      · rename_i hne
        go_ret
        have hne' : (x.length : Int) ≠ n := by simpa using hne
        exact ⟨⟨j, rfl, fun _ => ⟨x, List.mem_of_getElem? HJ.out, hne'⟩, fun _ => hj0⟩, HL1.out⟩
      · rename_i heq
        have heq' : (x.length : Int) = n := by simpa using heq
        go_roundw
        case rel =>
          refine ⟨j + 1, by omega, by go_num, fun y hy => ?_, HL1.out⟩
          rw [List.take_add_one, HJ.out] at hy
          rcases List.mem_append.1 hy with h | h
          · exact HT.out y h
          · simp at h; rw [h]; exact heq'
        case measure => simp [intOf]; omega
    · obtain rfl : j = xs.length := by omega
      go_wp2
      go_ret
      refine ⟨⟨-1, rfl, fun h => absurd h (by decide), fun ⟨x, hx, hne⟩ => ?_⟩, HL.out⟩
      exact absurd (HT.out x (by rw [List.take_of_length_le (Nat.le_refl _)]; exact hx)) hne
theorem containsfunc_any (n k b d : Int) (g : Nat) (v : Value) (xs : List (List UInt8)) (w : World) (hg : Blk w g 50 [.int .i64 n, .int .i64 k, .int .i64 b, .int .i64 d]) (hx : IsLst w w.heap.size v xs) (hm : xs.length ≤ 9223372036854775807) :
    Calls Try.prog 23 #[v, .func (.func 22) #[] #[.pointer (some ⟨g, 0, none⟩)]] w fun e w' => e = .returned (.bool (xs.any fun x => decide ((x.length : Int) ≠ n))) ∧ Below w.heap.size w w' := by
  have HI := bx (indexfunc_any n k b d g v xs w hg hx hm)
  clear hg hx
  go_enter Try.func23, Try.ntmps23
  go_wp2_with (go_at_call 33; refine HI.out.mono ?_; rintro e w1 ⟨⟨r, rfl, hr⟩, hb1⟩; have HR := bx hr; have HL := bx hb1; clear hr hb1)
  go_ret
  refine ⟨ret_bool ?_, HL.out⟩
  have hr := HR.out
  by_cases h : 0 ≤ r
  · obtain ⟨x, hx, hne⟩ := hr.1 h
    have : xs.any (fun x => decide ((x.length : Int) ≠ n)) = true := List.any_eq_true.2 ⟨x, hx, by simpa using hne⟩
    rw [this]; simp [h]
  · have : xs.any (fun x => decide ((x.length : Int) ≠ n)) = false := by
      rw [List.any_eq_false]
      intro x hx hc
      exact h (hr.2 ⟨x, hx, by simpa using hc⟩)
    rw [this]; simp; omega
end Go.Proofs.Ytkjaonlelkfhaaa

/- The walks of layer 21, ten: the chapter's example. -/
import Derived.Test.YtkjaonlelkfhaaaWeaveI
import Derived.Test.YtkjaonlelkfhaaaSame
namespace Go.Proofs.Ytkjaonlelkfhaaa
open Go.RowKit Gf Bt

theorem IsRow.more {w : World} {B B' : Nat} {v : Value} {bs : List UInt8} (h : IsRow w B none v bs) (hB : B ≤ B') : IsRow w B' none v bs := h.keep (fun _ _ _ => rfl) hB (fun _ _ h => h)
theorem IsLst.of_blk {w : World} {g B : Nat} {vs : List Value} {xs : List (List UInt8)} {c : Nat} (h : Blk w g 22 vs) (hB : g < B) (hl : vs.length = xs.length) (hc : xs.length ≤ c) (hm : c ≤ maxLen)
    (hr : ∀ (j : Nat) (x : List UInt8), xs[j]? = some x → ∃ u : Value, vs[j]? = some u ∧ IsRow w B none u x) : IsLst w B (.slice (some ⟨g, 0, none⟩) xs.length c) xs :=
  ⟨_, c, vs, rfl, hc, hm, hl, Rd.of_blk h hB, hr⟩
theorem lst1 {w : World} {g g1 B : Nat} {a b : UInt8} (h : Blk w g 22 [.slice (some ⟨g1, 0, none⟩) 2 2]) (h1 : Blk w g1 5 [B8 a, B8 b]) (hB : g < B) (hB1 : g1 < B) : IsLst w B (.slice (some ⟨g, 0, none⟩) 1 1) [[a, b]] :=
  IsLst.of_blk (xs := [[a, b]]) h hB rfl (Nat.le_refl _) (by simp [maxLen]) fun j x hj => by
    cases j with
    | zero => cases hj; exact ⟨_, rfl, IsRow.of_blk (bs := [a, b]) h1 hB1 (by simp) (Nat.le_refl _) (by simp [maxLen])⟩
    | succ j => simp at hj
theorem lst2 {w : World} {g g1 g2 B : Nat} {a b c d : UInt8} (h : Blk w g 22 [.slice (some ⟨g1, 0, none⟩) 2 2, .slice (some ⟨g2, 0, none⟩) 2 2]) (h1 : Blk w g1 5 [B8 a, B8 b]) (h2 : Blk w g2 5 [B8 c, B8 d]) (hB : g < B) (hB1 : g1 < B) (hB2 : g2 < B) :
    IsLst w B (.slice (some ⟨g, 0, none⟩) 2 2) [[a, b], [c, d]] :=
  IsLst.of_blk (xs := [[a, b], [c, d]]) h hB rfl (Nat.le_refl _) (by simp [maxLen]) fun j x hj => by
    match j, hj with
    | 0, hj => cases hj; exact ⟨_, rfl, IsRow.of_blk (bs := [a, b]) h1 hB1 (by simp) (Nat.le_refl _) (by simp [maxLen])⟩
    | 1, hj => cases hj; exact ⟨_, rfl, IsRow.of_blk (bs := [c, d]) h2 hB2 (by simp) (Nat.le_refl _) (by simp [maxLen])⟩
    | j + 2, hj => simp at hj
theorem ex_err2 : wErr 2 1 0 2 [[1, 2], [3, 4]] = 0 := by decide +kernel
theorem ex_row2 : wRow 2 1 0 2 [[1, 2], [3, 4]] = [1, 3, 2, 4] := by decide +kernel
theorem ex_err1 : wErr 2 1 0 2 [[1, 2]] = 12 := by decide +kernel
theorem ex_place : placeOk 2 1 0 2 1 1 ∧ placeN 2 2 1 1 = 3 := by unfold placeOk; decide +kernel

theorem lit2 (w : World) : IsLst (((w.alloc (Obj.cells #[.int .u8 1, .int .u8 2] 5)).alloc (Obj.cells #[.int .u8 3, .int .u8 4] 5)).alloc (Obj.cells #[.slice (some ⟨w.heap.size, 0, none⟩) 2 2, .slice (some ⟨w.heap.size + 1, 0, none⟩) 2 2] 22)) (w.heap.size + 3) (.slice (some ⟨w.heap.size + 1 + 1, 0, none⟩) 2 2) [[1, 2], [3, 4]] := by
  have h1 := ((Blk.new w 5 [.int .u8 1, .int .u8 2]).alloc (Obj.cells #[.int .u8 3, .int .u8 4] 5)).alloc (Obj.cells #[.slice (some ⟨w.heap.size, 0, none⟩) 2 2, .slice (some ⟨w.heap.size + 1, 0, none⟩) 2 2] 22)
  have h2 := (blk_new1 w (Obj.cells #[.int .u8 1, .int .u8 2] 5) 5 [.int .u8 3, .int .u8 4]).alloc (Obj.cells #[.slice (some ⟨w.heap.size, 0, none⟩) 2 2, .slice (some ⟨w.heap.size + 1, 0, none⟩) 2 2] 22)
  have h3 := blk_new2 w (Obj.cells #[.int .u8 1, .int .u8 2] 5) (Obj.cells #[.int .u8 3, .int .u8 4] 5) 22 [.slice (some ⟨w.heap.size, 0, none⟩) 2 2, .slice (some ⟨w.heap.size + 1, 0, none⟩) 2 2]
  exact lst2 (a := 1) (b := 2) (c := 3) (d := 4) h3 h1 h2 (by omega) (by omega) (by omega)
theorem lit1 (w : World) : IsLst ((w.alloc (Obj.cells #[.int .u8 1, .int .u8 2] 5)).alloc (Obj.cells #[.slice (some ⟨w.heap.size, 0, none⟩) 2 2] 22)) (w.heap.size + 2) (.slice (some ⟨w.heap.size + 1, 0, none⟩) 1 1) [[1, 2]] := by
  have h1 := (Blk.new w 5 [.int .u8 1, .int .u8 2]).alloc (Obj.cells #[.slice (some ⟨w.heap.size, 0, none⟩) 2 2] 22)
  have h2 := blk_new1 w (Obj.cells #[.int .u8 1, .int .u8 2] 5) 22 [.slice (some ⟨w.heap.size, 0, none⟩) 2 2]
  exact lst1 (a := 1) (b := 2) h2 h1 (by omega) (by omega)
theorem lit4 (w : World) (B : Nat) (o : Option Nat) (hB : w.heap.size < B) (ho : some w.heap.size ≠ o) : IsRow (w.alloc (Obj.cells #[.int .u8 1, .int .u8 3, .int .u8 2, .int .u8 4] 5)) B o (.slice (some ⟨w.heap.size, 0, none⟩) 4 4) [1, 3, 2, 4] :=
  IsRow.of_blk (bs := [1, 3, 2, 4]) (Blk.new w 5 [.int .u8 1, .int .u8 3, .int .u8 2, .int .u8 4]) hB ho (Nat.le_refl _) (by simp [maxLen])

theorem known21 (w : World) : Calls Try.prog 13 #[] w fun e w' => e = .returned (.bool true) ∧ Below w.heap.size w w' := by
  go_enter Try.func13, Try.ntmps13
  go_wp2_with fail
  have hw0 := Blk.new w 24 [.int .i64 2, .int .i64 1, .int .i64 0]
  have hb0 := (Below.refl w.heap.size w).alloc (Nat.le_refl _) (Obj.cells #[.int .i64 2, .int .i64 1, .int .i64 0] 24)
  have hs0 : (w.alloc (Obj.cells #[.int .i64 2, .int .i64 1, .int .i64 0] 24)).heap.size = w.heap.size + 1 := by simp
  rw [← hs0]
  obtain ⟨wa, hwa⟩ : ∃ wa, w.alloc (Obj.cells #[.int .i64 2, .int .i64 1, .int .i64 0] 24) = wa := ⟨_, rfl⟩
  have hwa' : w.alloc (Obj.cells [.int .i64 2, .int .i64 1, .int .i64 0].toArray 24) = wa := hwa
  rw [hwa'] at hw0
  rw [hwa] at hb0 hs0 ⊢
  clear hwa hwa'
  have hl2 := lit2 wa
  refine (weave_any 2 1 0 2 _ [[1, 2], [3, 4]] _ (hl2.more (by simp)) (by decide)).mono ?_
  rintro e w1 ⟨v1, rfl, hr1, hb1⟩
  rw [ex_err2]
  rw [ex_row2] at hr1
  have hb1' : Below wa.heap.size wa w1 := (((Below.refl wa.heap.size wa).alloc (Nat.le_refl _) _).alloc (by simp) _ |>.alloc (by simp <;> omega) _).trans (hb1.mono (by simp <;> omega))
  have hw1 := hw0.below hb1' hw0.lt
  have HB1 := bx (hb0.trans (hb1'.mono hb0.size))
  have HR1 := bx hr1
  have HW1 := bx hw1
  have c0 : w1.cell? ⟨w.heap.size, 0, none⟩ = some (.int .i64 2) := hw1.cell rfl
  have c1 : w1.cell? ⟨w.heap.size, 1, none⟩ = some (.int .i64 1) := hw1.cell rfl
  have c2 : w1.cell? ⟨w.heap.size, 2, none⟩ = some (.int .i64 0) := hw1.cell rfl
  clear hr1 hb1 hb1' hb0 hw0 hw1 hs0 hl2
  go_wp2_with fail
  have hl1 := lit1 w1
  refine (weave_any 2 1 0 2 _ [[1, 2]] _ (hl1.more (by simp)) (by decide)).mono ?_
  rintro e w2 ⟨v2, rfl, hr2, hb2⟩
  rw [ex_err1]
  have hb2' : Below w1.heap.size w1 w2 := (((Below.refl w1.heap.size w1).alloc (Nat.le_refl _) _).alloc (by simp) _).trans (hb2.mono (by simp <;> omega))
  have hw2 := HW1.out.below hb2' HW1.out.lt
  have HB2 := bx (HB1.out.trans (hb2'.mono HB1.out.size))
  have HR2 := bx (HR1.out.below hb2')
  have HW2 := bx hw2
  have HZ := bx hb2'.size
  clear hr2 hb2 hb2' hw2 hl1 c0 c1 c2
  go_wp2_with fail
  refine (same_row (o := none) (o' := none) ((HR2.out.below ((Below.refl w1.heap.size w2).alloc HZ.out _)).more (by have := HZ.out; simp; omega)) (lit4 w2 _ none (by simp) (by simp))).mono ?_
  rintro e w3 ⟨rfl, hb3⟩
  rw [show decide (([1, 3, 2, 4] : List UInt8) = [1, 3, 2, 4]) = true from by decide]
  have hb3' : Below w2.heap.size w2 w3 := ((Below.refl w2.heap.size w2).alloc (Nat.le_refl _) _).trans (hb3.mono (by simp))
  have hw3 := HW2.out.below hb3' HW2.out.lt
  have HB3 := bx (HB2.out.trans (hb3'.mono HB2.out.size))
  have c0 : w3.cell? ⟨w.heap.size, 0, none⟩ = some (.int .i64 2) := hw3.cell rfl
  have c1 : w3.cell? ⟨w.heap.size, 1, none⟩ = some (.int .i64 1) := hw3.cell rfl
  have c2 : w3.cell? ⟨w.heap.size, 2, none⟩ = some (.int .i64 0) := hw3.cell rfl
  clear hb3 hb3' hw3
  go_wp2_with fail
  refine (place_yes 2 1 0 2 1 1 _ ex_place.1).mono ?_
  rintro e w4 ⟨rfl, hb4⟩
  rw [ex_place.2]
  have HB4 := bx (HB3.out.trans (hb4.mono HB3.out.size))
  clear hb4 c0 c1 c2
  go_wp2_with fail
  go_ret
  exact ⟨rfl, HB4.out⟩
end Go.Proofs.Ytkjaonlelkfhaaa

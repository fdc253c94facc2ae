/- slices.Clone over bytes, of a slice that is not nil. -/
import Derived.Test.YtkjaonlelkfhaaaLst2
import Derived.Laws.Cover3
namespace Go.Proofs.Ytkjaonlelkfhaaa
open Go.RowKit Gf Bt

theorem own_empty (w : World) (base : Nat) (hb : base ≤ w.heap.size) : (w.alloc (.cells #[] 5)).ownsRow base 5 1 (.slice (some ⟨w.heap.size, 0, none⟩) 0 0) 0 [] :=
  ⟨rfl, .inr ⟨w.heap.size, 0, #[], rfl, hb, heap_alloc_new w _, Nat.le_refl _, by simp [maxLen], rfl, rfl⟩⟩
theorem clone_any (ad : Addr) (len cap : Nat) (bs : List UInt8) (w : World) (hlen : bs.length = len) (hpos : 0 < len) (hsm : len ≤ 1000000) (hrow : IsRow w w.heap.size none (.slice (some ad) len cap) bs) :
    Calls Try.prog 26 #[.slice (some ad) len cap] w fun e w' => ∃ g c, e = .returned (.slice (some ⟨g, 0, none⟩) len c) ∧ w'.ownsRow w.heap.size 5 1 (.slice (some ⟨g, 0, none⟩) len c) len (bs.map B8) ∧ Below w.heap.size w w' := by
  subst hlen
  have HROW := bx hrow
  clear hrow
  have hu := Try.underlying22
  have heq := fun W : World => run_equal_slice_nil (P := Try.prog) W 22 5 (some ad) bs.length cap hu
  have hbo : ∀ W : World, (binOp .eql 22 (.slice (some ad) bs.length cap) (.slice none 0 0)).run Try.prog W = .ok (.bool false) W := fun W => by simp [binOp, heq W]
  clear heq hu
  go_enter Try.func26, Try.ntmps26
  go_wp2_with (refine ap_row rfl _ _ rfl w.heap.size _ 0 [] rfl (own_empty w w.heap.size (Nat.le_refl _)) bs rfl (HROW.out.below ((Below.refl _ w).alloc (Nat.le_refl _) (.cells #[] 5))) (by omega) (by simp) ?_; intro v1 w1 hown1 hb1; have HO1 := bx hown1; have HB1 := bx hb1; clear hown1 hb1)
  have ho := HO1.out
  rw [Nat.zero_add, List.nil_append] at ho
  obtain ⟨g, c, rfl, hg, hlt⟩ := ho.form hpos
  go_ret
  exact ⟨g, c, rfl, ho, ((Below.refl w.heap.size w).alloc (Nat.le_refl _) _).trans HB1.out⟩
end Go.Proofs.Ytkjaonlelkfhaaa

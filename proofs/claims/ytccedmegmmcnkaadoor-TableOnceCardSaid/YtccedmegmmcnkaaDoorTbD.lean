/- The walks of layer 2, four: a table's rows, made if they were not; New; Made. -/
import Derived.Test.YtccedmegmmcnkaaDoorTbC
namespace Go.Proofs.YtccedmegmmcnkaaDoor
open Go.RowKit Go.Shelf Gf Bt

def RW : List Value := (rowsTo 255).map B8
/-- A table that is made, or isn't. -/
def St (b : Nat) (s : Bool) (w : World) : Prop := if s then TbW b 1 0 0 1 RW w else ∃ R, R.length = 766 ∧ TbW b 0 0 0 0 R w
theorem St.made {b : Nat} {w : World} (h : St b true w) : TbW b 1 0 0 1 RW w := h
theorem St.fresh {b : Nat} {w : World} (h : St b false w) : ∃ R, R.length = 766 ∧ TbW b 0 0 0 0 R w := h
theorem St.below {b n : Nat} {s : Bool} {w w' : World} (h : St b s w) (hb : Below n w w') (hn : b < n) : St b s w' := by
  cases s
  · obtain ⟨R, h1, h2⟩ := h.fresh
    exact ⟨R, h1, Blk.below h2 hb hn⟩
  · exact Blk.below (show Blk w b _ _ from h.made) hb hn
theorem St.other {b b' : Nat} {s : Bool} {w w' : World} (h : St b s w) (hg : w.grownBy w' (some b')) (hne : b ≠ b') : St b s w' := by
  cases s
  · obtain ⟨R, h1, h2⟩ := h.fresh
    exact ⟨R, h1, blk_grown h2 hg hne⟩
  · exact blk_grown (show Blk w b _ _ from h.made) hg hne
set_option maxRecDepth 100000 in
set_option maxHeartbeats 1600000 in
theorem of_any (b : Nat) (s : Bool) (w : World) (hT : Tab w) (h : St b s w) (hne : 1 ≠ b) :
    Calls Tryd.prog 21 #[.pointer (some ⟨b, 0, none⟩)] w fun e w' => e = .returned (.pointer (some ⟨b, 4, none⟩)) ∧ St b true w' ∧ w.grownBy w' (some b) := by
  have hmf : ∀ (fn : Fn) (first cap : Array Value) (w : World), (Instr.makeFunc fn first cap).run Tryd.prog w = .ok (.func fn first cap) w := fun _ _ _ _ => rfl
  have HD : Bx (Calls Tryd.prog 26 #[.pointer (some ⟨b, 0, none⟩), .func (.func 27) #[.pointer (some ⟨b, 0, none⟩)] #[]] w fun e w' => e = .returned (.tuple #[]) ∧ St b true w' ∧ w.grownBy w' (some b)) := bx (by
    cases s
    · obtain ⟨R, h1, h2⟩ := h.fresh
      exact do_first b 0 1 R RW w h2 (fun w1 hw1 hg1 => lay_any b R w1 (hT.grown hg1 hne) hw1 h1 hne)
    · refine (do_done b 1 0 RW _ w h.made).mono ?_
      rintro e w' ⟨rfl, hw'⟩
      have hw' := hw'.symm
      subst hw'
      exact ⟨rfl, h, World.grownBy.refl _ _⟩)
  clear h hT
  go_enter Tryd.func21, Tryd.ntmps21
  go_wp2_with (go_at_call 26; refine HD.out.mono ?_; rintro e w2 ⟨rfl, hw2⟩; have HW2 := bx hw2; clear hw2)
  go_ret
  exact ⟨rfl, HW2.out⟩
theorem zero_table : Tryd.zeroCells59 = ([Value.int .u32 0, Value.int .i32 0, Value.int .u32 0, Value.int .i32 0] ++ (rowsTo 0).map B8).toArray := by rw [rowsTo_zero]; kernel_rfl
set_option maxRecDepth 100000 in
theorem new_any (w : World) : Calls Tryd.prog 8 #[] w fun e w' => e = .returned (.pointer (some ⟨w.heap.size, 0, none⟩)) ∧ St w.heap.size false w' ∧ Below w.heap.size w w' ∧ w.heap.size < w'.heap.size := by
  go_enter Tryd.func8, Tryd.ntmps8
  go_wp2
  go_ret
  refine ⟨rfl, ⟨(rowsTo 0).map B8, by rw [List.length_map, rowsTo_length], ?_⟩, (Below.refl _ w).alloc (Nat.le_refl _) _, by simp⟩
  rw [zero_table]
  exact Blk.new _ _ _
end Go.Proofs.YtccedmegmmcnkaaDoor

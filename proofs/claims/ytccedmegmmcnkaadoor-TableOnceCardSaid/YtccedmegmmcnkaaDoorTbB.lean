/- The walks of layer 2, two: sync.Once over a table: not yet done, and done. -/
import Derived.Test.YtccedmegmmcnkaaDoorTbA
import Derived.Test.YtccedmegmmcnkaaDoorTbMul
import Derived.Laws.NewBlocks
namespace Go.Proofs.YtccedmegmmcnkaaDoor
open Go.RowKit Go.Shelf Gf Bt

/-- Block b is a table: the Once's word, its lock's two, how many times it was made, the rows. -/
def TbW (b : Nat) (d l s m : Int) (R : List Value) (w : World) : Prop := Blk w b 59 ([.int .u32 d, .int .i32 l, .int .u32 s, .int .i32 m] ++ R)
section
variable {b : Nat} {d l s m : Int} {R : List Value} {w : World}
theorem TbW.c0 (h : TbW b d l s m R w) : w.cell? ⟨b, 0, none⟩ = some (.int .u32 d) := Blk.cell h rfl
theorem TbW.c1 (h : TbW b d l s m R w) : w.cell? ⟨b, 1, none⟩ = some (.int .i32 l) := Blk.cell h rfl
theorem TbW.c3 (h : TbW b d l s m R w) : w.cell? ⟨b, 3, none⟩ = some (.int .i32 m) := Blk.cell h rfl
theorem TbW.fz (h : TbW b d l s m R w) (i : Nat) : w.frozen? ⟨b, i, none⟩ = false := Blk.froz h
theorem TbW.set0 (h : TbW b d l s m R w) (x : Int) : TbW b x l s m R (w.setCell ⟨b, 0, none⟩ (.int .u32 x)) := by have := Blk.set (i := 0) h (.int .u32 x); exact this
theorem TbW.set1 (h : TbW b d l s m R w) (x : Int) : TbW b d x s m R (w.setCell ⟨b, 1, none⟩ (.int .i32 x)) := by have := Blk.set (i := 1) h (.int .i32 x); exact this
theorem TbW.set3 (h : TbW b d l s m R w) (x : Int) : TbW b d l s x R (w.setCell ⟨b, 3, none⟩ (.int .i32 x)) := by have := Blk.set (i := 3) h (.int .i32 x); exact this
theorem TbW.drew (h : TbW b d l s m R w) : TbW b d l s m R w.drew := h
theorem grown_set (w : World) (b i : Nat) (v : Value) : w.grownBy (w.setCell ⟨b, i, none⟩ v) (some b) := ⟨rfl, rfl, rfl, by simp, fun k _ hne => heap_setCell_other _ _ _ _ (fun e => hne (by rw [e]))⟩
theorem grown_drew (w : World) (row : Option Nat) : w.grownBy w.drew row := below_grown ((Below.refl _ w).drew) row
end
set_option maxRecDepth 100000 in
theorem bool_load (b : Nat) (x : Int) (w : World) (hc : w.cell? ⟨b, 0, none⟩ = some (.int .u32 x)) : Calls Tryd.prog 29 #[.pointer (some ⟨b, 0, none⟩)] w fun e w' => e = .returned (.bool (x != 0)) ∧ w' = w := by
  have hl := run_call_load (P := Tryd.prog) Tryd.func33 (by kernel_rfl) (by kernel_rfl) (by kernel_rfl) .u32 (by kernel_rfl) hc
  go_enter Tryd.func29, Tryd.ntmps29
  go_wp2
  go_ret
  exact ⟨rfl, rfl⟩
set_option maxRecDepth 100000 in
set_option maxHeartbeats 1600000 in
theorem slow_any (b : Nat) (m m' : Int) (R R' : List Value) (w : World) (h : TbW b 0 0 0 m R w)
    (hlay : ∀ w1, TbW b 0 1 0 m R w1 → w.grownBy w1 (some b) → Calls Tryd.prog 27 #[.pointer (some ⟨b, 0, none⟩)] w1 fun e w' => e = .returned (.tuple #[]) ∧ TbW b 0 1 0 m' R' w' ∧ w1.grownBy w' (some b)) :
    Calls Tryd.prog 30 #[.pointer (some ⟨b, 0, none⟩), .func (.func 27) #[.pointer (some ⟨b, 0, none⟩)] #[]] w fun e w' => e = .returned (.tuple #[]) ∧ TbW b 1 0 0 m' R' w' ∧ w.grownBy w' (some b) := by
  have h1 := h.set1 1
  have HLAY := bx (hlay _ h1 (grown_set w b 1 _))
  have HBL := bx (bool_load b 0 _ h1.c0)
  have c1 := h.c1
  have f1 := h.fz 1
  have H := bx h
  clear h hlay h1
  have hnot : ∀ (x : Bool) (w : World), (Op.unary .not (.bool x)).run Tryd.prog w = .ok (.bool (!x)) w := fun _ _ => rfl
  go_enter_defers Tryd.func30, Tryd.ntmps30
  go_wp2_with (first
    | (go_at_call 34; refine (lock_free ⟨b, 1, none⟩ _ c1 f1).mono ?_; rintro e w' ⟨rfl, rfl⟩)
    | (go_at_call 29; refine HBL.out.mono ?_; rintro e w' ⟨rfl, hw'⟩; have hw' := hw'.symm; subst hw')
    | (go_at_call 27; refine HLAY.out.mono ?_; rintro e w2 ⟨rfl, hw2, hg2⟩; have HW2 := bx hw2; have HG2 := bx hg2; clear hw2 hg2))
  refine leaves_cons (f := 36) (args := #[.pointer (some ⟨b, 0, none⟩), .bool true]) (by simp) (by simp [go_sem]) ?_
  refine (store_deferred ⟨b, 0, none⟩ (.int .u32 0) .returning _ HW2.out.c0 (HW2.out.fz 0)).mono ?_
  rintro e u' w'' ⟨rfl, rfl, rfl⟩
  have h3 : TbW b 1 1 0 m' R' (w2.drew.setCell ⟨b, 0, none⟩ (.int .u32 1)) := HW2.out.drew.set0 1
  refine leaves_cons (f := 35) (args := #[.pointer (some ⟨b, 1, none⟩)]) (by simp [settle]) (by simp [go_sem]) ?_
  refine (unlock_deferred ⟨b, 1, none⟩ _ _ h3.c1 (h3.fz 1)).mono ?_
  rintro e u' w'' ⟨rfl, rfl, rfl⟩
  have HF := bx (And.intro (h3.set1 0) (((((grown_set w b 1 (.int .i32 1)).trans HG2.out).trans (grown_drew w2 _)).trans (grown_set _ b 0 (.int .u32 1))).trans (grown_set _ b 1 (.int .i32 0))))
  simp [Leaves, settle, results, Tryd.results30]
  exact HF.out
set_option maxRecDepth 100000 in
set_option maxHeartbeats 1600000 in
theorem do_first (b : Nat) (m m' : Int) (R R' : List Value) (w : World) (h : TbW b 0 0 0 m R w)
    (hlay : ∀ w1, TbW b 0 1 0 m R w1 → w.grownBy w1 (some b) → Calls Tryd.prog 27 #[.pointer (some ⟨b, 0, none⟩)] w1 fun e w' => e = .returned (.tuple #[]) ∧ TbW b 0 1 0 m' R' w' ∧ w1.grownBy w' (some b)) :
    Calls Tryd.prog 26 #[.pointer (some ⟨b, 0, none⟩), .func (.func 27) #[.pointer (some ⟨b, 0, none⟩)] #[]] w fun e w' => e = .returned (.tuple #[]) ∧ TbW b 1 0 0 m' R' w' ∧ w.grownBy w' (some b) := by
  have HS := bx (slow_any b m m' R R' w h hlay)
  have HBL := bx (bool_load b 0 w h.c0)
  clear h hlay
  have hnot : ∀ (x : Bool) (w : World), (Op.unary .not (.bool x)).run Tryd.prog w = .ok (.bool (!x)) w := fun _ _ => rfl
  go_enter Tryd.func26, Tryd.ntmps26
  go_wp2_with (first
    | (go_at_call 29; refine HBL.out.mono ?_; rintro e w' ⟨rfl, hw'⟩; have hw' := hw'.symm; subst hw')
    | (go_at_call 30; refine HS.out.mono ?_; rintro e w2 ⟨rfl, hw2⟩; have HW2 := bx hw2; clear hw2))
  go_end0
  exact ⟨rfl, HW2.out⟩
set_option maxRecDepth 100000 in
theorem do_done (b : Nat) (m s : Int) (R : List Value) (fv : Value) (w : World) (h : TbW b 1 0 s m R w) :
    Calls Tryd.prog 26 #[.pointer (some ⟨b, 0, none⟩), fv] w fun e w' => e = .returned (.tuple #[]) ∧ w' = w := by
  have HBL := bx (bool_load b 1 w h.c0)
  clear h
  have hnot : ∀ (x : Bool) (w : World), (Op.unary .not (.bool x)).run Tryd.prog w = .ok (.bool (!x)) w := fun _ _ => rfl
  go_enter Tryd.func26, Tryd.ntmps26
  go_wp2_with (go_at_call 29; refine HBL.out.mono ?_; rintro e w' ⟨rfl, hw'⟩; have hw' := hw'.symm; subst hw')
  go_end0
  exact ⟨rfl, rfl⟩
end Go.Proofs.YtccedmegmmcnkaaDoor

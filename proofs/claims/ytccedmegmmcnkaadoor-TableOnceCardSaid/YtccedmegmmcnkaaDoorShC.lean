/- The walks of layer 1, three: a range over the places of a number's bits. -/
import Derived.Test.YtccedmegmmcnkaaDoorShB
import Derived.RangeFuncNested
import Derived.RangeFuncBound
import Derived.RangeFuncCalls
import Derived.RangeFuncLeaves
import Derived.RangeFuncBox
import Derived.Shelf.Abstract
import Derived.Shelf.RegionOpen
import Derived.OwnWalkIn
import Derived.TacticsInMore
import Derived.LoopNIn
import Derived.LoopIn
namespace Go.Proofs.YtccedmegmmcnkaaDoor
open Go.RowKit Go.Shelf Gf Bt
attribute [local go_sem] Oper.semAt_some

/-- A number without its lowest one. -/
def nxt (r : Nat) : Nat := r &&& (r - 1)
def placesF : Nat → Nat → List Nat
  | 0, _ => []
  | f + 1, r => if r = 0 then [] else low r :: placesF f (nxt r)
/-- The places of a byte's ones, from the lowest on. -/
def places (r : Nat) : List Nat := placesF 8 r
theorem places_all : ((List.range 256).all fun r => r == 0 || ((places r == low r :: places (nxt r)) && decide (nxt r < r) && (bits BinOp.and IntKind.u64 (r : Int) ((r : Int) - 1) == (nxt r : Int)))) = true := by decide +kernel
theorem places_step {r : Nat} (hr : r < 256) (h0 : 0 < r) : places r = low r :: places (nxt r) ∧ nxt r < r ∧ bits BinOp.and IntKind.u64 (r : Int) ((r : Int) - 1) = (nxt r : Int) := by
  have h := List.all_eq_true.1 places_all r (List.mem_range.2 hr)
  have hz : (r == 0) = false := beq_false_of_ne (by omega)
  rw [hz, Bool.false_or, Bool.and_eq_true, Bool.and_eq_true] at h
  obtain ⟨⟨h1, h2⟩, h3⟩ := h
  exact ⟨eq_of_beq h1, of_decide_eq_true h2, eq_of_beq h3⟩
theorem places_zero : places 0 = [] := rfl
/-- What lies in a number's box. -/
def boxN (w : World) (b : Nat) : Nat := match w.cell? ⟨b, 0, none⟩ with
  | some (.int _ r) => r.toNat
  | _ => 0
theorem boxN_of {w : World} {b r : Nat} (h : w.cell? ⟨b, 0, none⟩ = some (.int .u64 r)) : boxN w b = r := by unfold boxN; rw [h]; exact Int.toNat_natCast r
set_option maxRecDepth 100000 in
set_option maxHeartbeats 2000000 in
theorem ones1_in (n' l b n : Nat) (hn : n < 256) (J : List Nat → World → Prop)
    (hJb : ∀ pre V v, J pre V → J pre (V.setCell ⟨b, 0, none⟩ v)) (hJT : ∀ pre V, J pre V → Tab V)
    (hY : ∀ pre x W, J pre W → (∃ rest, places n = pre ++ x :: rest) → YieldAt Fence.wide (n' - 1) Tryd.prog l #[.int .i64 (x : Nat)] W fun e W' => e = .returned (.bool true) ∧ J (pre ++ [x]) W' ∧ W'.heap[b]? = W.heap[b]?)
    (W : World) (hb : Blk W b 71 [.int .u64 n]) (h0 : J [] W) :
    CallsIn Fence.wide n' Tryd.prog 53 #[.func (.yield l) #[] #[], .pointer (some ⟨b, 0, none⟩)] W fun e W' => (∃ v, e = .returned v) ∧ J (places n) W' := by
  refine callsIn_of_wp Tryd.func53 rfl trivial ?_ rfl
  simp only [Tryd.ntmps53, List.size_toArray, List.length_cons, List.length_nil, Nat.reduceAdd, Nat.reduceSub, Array.replicate_succ, Array.replicate_zero, List.push_toArray, List.append_toArray, List.nil_append, List.cons_append]
  have HJB := bx hJb
  have HJT := bx hJT
  have HY := bx hY
  clear hJb hJT hY
  gi_wp2
  gi_loopw [] (fun wr => ∃ (pre : List Nat) (r : Nat), r < 256 ∧ pre ++ places r = places n ∧ J pre wr ∧ Blk wr b 71 [.int .u64 r]) (fun wr => boxN wr b)
  case atStart => exact ⟨[], n, hn, rfl, h0, hb⟩
  case round =>
    obtain ⟨pre, r, hr, hpre, hJ, hbox⟩ := hrel
    have HB := bx hbox
    have HJ := bx hJ
    have HPRE := bx hpre
    have hcell : wr.cell? ⟨b, 0, none⟩ = some (.int .u64 r) := hbox.cell rfl
    have HM := bx (boxN_of hcell)
    clear hb h0 hbox hJ hpre
    by_cases hr0 : r = 0
    · subst hr0
      gi_wp2
      go_end0
      refine ⟨⟨_, rfl⟩, ?_⟩
      have h := HPRE.out
      rw [places_zero, List.append_nil] at h
      rw [← h]
      exact HJ.out
    · obtain ⟨p1, p2, p3⟩ := places_step hr (Nat.pos_of_ne_zero hr0)
      have hrz : ¬ (r : Int) = 0 := fun h => hr0 (Int.ofNat_eq_zero.1 h)
      have hr1 : (1 : Int) ≤ (r : Int) := by omega
      have hr2 : (r : Int) < 256 := Int.ofNat_lt.2 hr
      have HP1 := bx p1
      have HP2 := bx p2
      have hpre2 : pre ++ low r :: places (nxt r) = places n := by rw [← p1]; exact HPRE.out
      have HPRE2 := bx hpre2
      have HTZ := bx (tz r hr (Nat.pos_of_ne_zero hr0) wr (HJT.out _ _ HJ.out))
      obtain ⟨fn, tmps, assign, body, hy, hR⟩ := HY.out pre (low r) wr HJ.out ⟨_, hpre2.symm⟩
      have HR := bx hR
      clear hR p1 p2 hpre2 hr0
      gi_wp2_with (refine ⟨trivial, fun h => (by cases h), ?_⟩; gi_at_call 54; refine (callsIn_wide.2 HTZ.out).mono ?_; rintro e w' ⟨rfl, hw'⟩; have hw' := hw'.symm; subst hw')
      refine ⟨fun h => (by cases h), ?_⟩
      refine HR.out.mono ?_
      rintro e' W3 ⟨rfl, hJ3, hb3⟩
      have hB3 : Blk W3 b 71 [.int .u64 r] := hb3.trans HB.out
      have hc3 : W3.cell? ⟨b, 0, none⟩ = some (.int .u64 r) := hB3.cell rfl
      have hf3 : W3.frozen? ⟨b, 0, none⟩ = false := hB3.froz
      have HB3 := bx hB3
      have HJ3 := bx hJ3
      clear hJ3 hb3 hB3 hcell hy
      gi_wp2
      go_roundw
      case rel => exact ⟨pre ++ [low r], nxt r, Nat.lt_trans HP2.out hr, by rw [List.append_assoc]; exact HPRE2.out, HJB.out _ _ _ HJ3.out, HB3.out.set _⟩
      case measure => rw [HM.out, boxN_of ((HB3.out.set (i := 0) (.int .u64 (nxt r))).cell rfl)]; exact HP2.out
end Go.Proofs.YtccedmegmmcnkaaDoor

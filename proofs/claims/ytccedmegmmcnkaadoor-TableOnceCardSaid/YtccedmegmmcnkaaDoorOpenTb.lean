/- The arguments of a law of layer 2, opened; the library's table, as the statement lays it. -/
import Derived.Test.YtccedmegmmcnkaaDoorRows
import Derived.Test.YtccedmegmmcnkaaDoorTbL
import Derived.WalkKit
import Derived.ProofKit
import Derived.LaidMore
import Derived.OpenShut
import Derived.ChangeOld
import Derived.Below
import Derived.Stop.Joined
namespace Go.Proofs.YtccedmegmmcnkaaDoor
open Go.ChangeShapes Go.WideShapes Go.ChangeAt Go.WideMaps Go.WideElems Go.RowKit
open Gf Bt

set_option maxRecDepth 100000
theorem own : ownKnob Tryd.prog.godebug = none := by kernel_rfl
theorem laidOut : laidOutB Tryd.prog = true := by kernel_rfl
section
variable {H : Type} {enc : TypeId × Value → H} {W : World} {base : Nat} {v : Value} {d : DataW H} {p : List MemPlace}
theorem B8_of {n : Int} (h : (Lit.int .u8 n).wf = true) : ∃ a : UInt8, Value.int .u8 n = B8 a := by
  obtain ⟨h0, h1⟩ := bounds_u8 h
  refine ⟨UInt8.ofNat n.toNat, ?_⟩
  rw [B8, UInt8.toNat_ofNat', Nat.mod_eq_of_lt (by omega)]
  congr 1; omega
theorem lt_places {t : TypeId} (h : DataW.Trod enc Tryd.prog W 0 (fun _ => true) true t v d p) : ∀ x ∈ p, x.block < W.heap.size := by
  obtain ⟨m, hm⟩ := h; exact DataW.trod_lt m _ _ _ hm
theorem open_u8 (hv : Value.okWide Tryd.prog W .any base 5 v) (h : DataW.Trod enc Tryd.prog W 0 (fun _ => true) true 5 v d p) : ∃ a : UInt8, v = B8 a := by
  obtain ⟨n, rfl, _, _, hw⟩ := open_int Tryd.underlying5 hv h
  exact B8_of hw
theorem open_i64 (hv : Value.okWide Tryd.prog W .any base 3 v) (h : DataW.Trod enc Tryd.prog W 0 (fun _ => true) true 3 v d p) : ∃ n : Int, v = .int .i64 n ∧ -9223372036854775808 ≤ n ∧ n ≤ 9223372036854775807 := by
  obtain ⟨n, rfl, _, _, hw⟩ := open_int Tryd.underlying3 hv h
  exact ⟨n, rfl, bounds_i64 hw⟩
theorem open_i16 (hv : Value.okWide Tryd.prog W .any base 22 v) (h : DataW.Trod enc Tryd.prog W 0 (fun _ => true) true 22 v d p) : ∃ n : Int, v = .int .i16 n ∧ -32768 ≤ n ∧ n ≤ 32767 := by
  obtain ⟨n, rfl, _, _, hw⟩ := open_int Tryd.underlying22 hv h
  exact ⟨n, rfl, bounds_i16 hw⟩
theorem open_u16 (hv : Value.okWide Tryd.prog W .any base 65 v) (h : DataW.Trod enc Tryd.prog W 0 (fun _ => true) true 65 v d p) : ∃ n : Nat, v = .int .u16 n ∧ n < 65536 := by
  obtain ⟨n, rfl, _, _, hw⟩ := open_int Tryd.underlying65 hv h
  obtain ⟨h0, h1⟩ := bounds_u16 hw
  exact ⟨n.toNat, by congr 1; omega, by omega⟩
end
theorem g32 : Tryd.prog.globalNamed "math/bits.deBruijn32tab" = some 0 := by kernel_rfl
theorem g64 : Tryd.prog.globalNamed "math/bits.deBruijn64tab" = some 1 := by kernel_rfl
theorem t64 : (Tryd.prog.globals[1]?).map (·.type) = some 100 := by kernel_rfl
/-- What every statement of the layer lays. -/
def laid2 {H : Type} : List (String × DataW H) := [("math/bits.deBruijn32tab", Rows.laid_math_bits_deBruijn32tab), ("math/bits.deBruijn64tab", Rows.laid_math_bits_deBruijn64tab)]
theorem lay64 {H : Type} : (Rows.laid_math_bits_deBruijn64tab : DataW H) = .agg (deB.map fun k => .lit (.int .u8 (k : Nat))) := rfl
theorem tab_of {W : World} (h : laidMetH Tryd.prog laid2 W) : Tab W := by
  rw [MakeChecks.laidMetH_plain _ _ _ (by kernel_rfl)] at h
  obtain ⟨ps, ⟨g0, t0, cs0, f0, p0, q0, hg0, ht0, hv0, hd0, ⟨g1, t1, cs1, f1, p1, q1, hg1, ht1, hv1, hd1, _, _⟩, _⟩, _, _⟩ := h
  obtain rfl := Option.some.inj (g64.symm.trans hg1)
  obtain rfl := Option.some.inj (t64.symm.trans ht1)
  obtain ⟨xs, m, e, hx, hlen, hn, hel⟩ := DataW.trod_array Tryd.underlying100 hd1
  have hx1 : xs.map (fun x => x.fst) = deB.map fun k => .lit (.int .u8 (k : Nat)) := by
    have h1 := congrArg Prod.fst hx
    rw [lay64] at h1
    exact (DataW.agg.inj h1).symm
  have h5 : Tryd.prog.cellsOf 5 = 1 := by kernel_rfl
  intro i hi
  have h2 := hel i hi
  have hxl : i < xs.length := by omega
  rw [h5, Nat.mul_one, List.getElem?_eq_getElem hxl] at h2
  obtain ⟨k, ek, dk, _⟩ := DataW.trod_int Tryd.underlying5 h2
  have hk : k = ((deB.getD i 0 : Nat) : Int) := by
    have h3 : (xs.map (fun x => x.fst))[i]? = some (.lit (.int .u8 k)) := by rw [List.getElem?_map, List.getElem?_eq_getElem hxl, dk]; rfl
    rw [hx1, List.getElem?_map] at h3
    have hdl : i < deB.length := hi
    rw [List.getElem?_eq_getElem hdl] at h3
    simp only [Option.map_some, Option.some.injEq, DataW.lit.injEq, Lit.int.injEq, true_and] at h3
    rw [List.getD_eq_getElem?_getD, List.getElem?_eq_getElem hdl, ← h3]; rfl
  have hc := World.var?_cell hg1 hv1 i
  rw [hc, ← hk]
  have h4 : cs1.toList[i]? = some (.int .u8 k) := by
    have h6 := congrArg (fun l => l[0]?) ek
    simpa [List.getElem?_take, List.getElem?_drop] using h6
  simpa using h4
/-- The door's own heap meets the condition. -/
theorem door_met (os : Os) (args : Array Value) : laidMetH Tryd.prog laid2 ((World.doorLaid Tryd.prog 4000 os).forCall (fun _ _ => 0) ⟨#[], args, []⟩).memory :=
  laidMetH_of_parts3 (fuel := 8) (laidMet_of_run' 8 (by kernel_rfl) (by kernel_rfl)) (by kernel_rfl) (by kernel_rfl)
end Go.Proofs.YtccedmegmmcnkaaDoor

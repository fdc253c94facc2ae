/- erratumlaw21.WeaveErrors returns true for every three bytes, number, slice of bytes and byte: a code that is none, or a depth that is none, is told first, then a length; the arguments read as they did. No condition. -/
import Derived.Test.YtkjaonlelkfhaaaOpenW
import Derived.Test.YtkjaonlelkfhaaaWeaveT
import Derived.ProofKit
import Derived.OpenShut
import Derived.ChangeOld
namespace Go.Proofs.Ytkjaonlelkfhaaa.weaveErrorsDone
open Go.ChangeShapes Go.WideShapes Go.ChangeAt Go.RowKit

set_option maxRecDepth 100000 in
theorem lifted (os : Os) (started : os.Started) (H : Type) (enc : TypeId × Value → H) :
    ReturnsInHanded {} Try.checked os 7 .any (Rows.weaveErrorsSpec.pre6 enc Try.prog Try.f7 Rows.weaveErrorsRow.domain false) (Rows.weaveErrorsSpec.post enc Try.prog Try.f7 false true false false) := by
  refine returnsInHanded_of_change (C := Try.checked) own started (by kernel_rfl) Try.func7
    (ChangeSpec.witness6 (enc := enc) (C := Try.checked) false ⟨#[], #[.int .u8 0, .int .u8 0, .int .u8 0, .int .i64 0, .slice none 0 0, .int .u8 0], []⟩ 8 (by kernel_rfl) (by kernel_rfl) (by kernel_rfl) (by kernel_rfl)) ?_
  intro W base args ds gs before hval0 hW hcnd _
  have hval : ∀ (j : Nat) t v, Try.f7.params[j]? = some t → args[j]? = some v → Value.okWide Try.prog W .any base t v := hval0
  have hW1 := hW
  obtain ⟨pp, qq, hA0, hV, rfl, hfz, hnd⟩ := hW
  have hA : DataW.TrodAll enc Try.prog W 0 (fun _ => true) true Try.f7.params.toList args.toList ds pp := hA0
  rw [Try.params7] at hA hval
  obtain ⟨v0, vs0, d0, ds0, p0, q0, hargs, rfl, rfl, h0, r0⟩ := trodAll_cons hA
  obtain ⟨v1, vs1, d1, ds1, p1, q1, rfl, rfl, rfl, h1, r1⟩ := trodAll_cons r0
  obtain ⟨v2, vs2, d2, ds2, p2, q2, rfl, rfl, rfl, h2, r2⟩ := trodAll_cons r1
  obtain ⟨v3, vs3, d3, ds3, p3, q3, rfl, rfl, rfl, h3, r3⟩ := trodAll_cons r2
  obtain ⟨v4, vs4, d4, ds4, p4, q4, rfl, rfl, rfl, h4, r4⟩ := trodAll_cons r3
  obtain ⟨v5, vs5, d5, ds5, p5, q5, rfl, rfl, rfl, h5, r5⟩ := trodAll_cons r4
  obtain ⟨rfl, rfl, rfl⟩ := trodAll_nil r5
  obtain rfl : args = #[v0, v1, v2, v3, v4, v5] := by cases args; simp_all
  obtain ⟨rfl, rfl⟩ := trodVars_none hV
  have lt0 := lt_places h0
  have k0 := h0
  have lt1 := lt_places h1
  have k1 := h1
  have lt2 := lt_places h2
  have k2 := h2
  have lt3 := lt_places h3
  have k3 := h3
  have lt4 := lt_places h4
  have k4 := h4
  have lt5 := lt_places h5
  have k5 := h5
  obtain ⟨n, rfl⟩ := open_u8 (hval 0 5 v0 rfl rfl) h0
  obtain ⟨k, rfl⟩ := open_u8 (hval 1 5 v1 rfl rfl) h1
  obtain ⟨b, rfl⟩ := open_u8 (hval 2 5 v2 rfl rfl) h2
  obtain ⟨d, rfl, ld, ud⟩ := open_i64 (hval 3 3 v3 rfl rfl) h3
  obtain ⟨Al, nl, cl, l, rfl, bl⟩ := open_bytes (hval 4 22 v4 rfl rfl) h4
  obtain ⟨e, rfl⟩ := open_u8 (hval 5 5 v5 rfl rfl) h5
  clear hA0 hval0
  refine (law_errors' n k b d Al nl l cl e W bl.1 bl.2.2.2 bl.2.1 bl.2.2.1).mono fun e W1 ⟨he, bel⟩ => ?_
  subst he
  exact ⟨_, rfl, _, _, _, [], _, [], hW1, trodAll_mk1 (shut_bool Try.underlying4 _), (trodAll_cons_mk (Below.trod laidOut (by kernel_rfl) (of_decide_eq_true (by kernel_rfl)) k0 bel lt0) (trodAll_cons_mk (Below.trod laidOut (by kernel_rfl) (of_decide_eq_true (by kernel_rfl)) k1 bel lt1) (trodAll_cons_mk (Below.trod laidOut (by kernel_rfl) (of_decide_eq_true (by kernel_rfl)) k2 bel lt2) (trodAll_cons_mk (Below.trod laidOut (by kernel_rfl) (of_decide_eq_true (by kernel_rfl)) k3 bel lt3) (trodAll_cons_mk (Below.trod laidOut (by kernel_rfl) (of_decide_eq_true (by kernel_rfl)) k4 bel lt4) (trodAll_cons_mk (Below.trod laidOut (by kernel_rfl) (of_decide_eq_true (by kernel_rfl)) k5 bel lt5) trodAll_mk0)))))), rfl, bel.frame _, fun h => by cases h⟩

theorem proved : Rows.WeaveErrorsSaid :=
  OpenClaim.holds_of_wide 7 Try.f7 rfl rfl rfl rfl rfl rfl rfl ⟨rfl, rfl, rfl, rfl, rfl⟩ rfl rfl rfl rfl rfl (by kernel_rfl) Try.func7 (by kernel_rfl)
    (of_decide_eq_true (by kernel_rfl)) (by unfold Func.isWrapper; rw [if_neg (of_decide_eq_false (by kernel_rfl))]; exact ⟨rfl, rfl⟩)
    (fun os started H enc _ => lifted os started H enc)
#print axioms proved
end Go.Proofs.Ytkjaonlelkfhaaa.weaveErrorsDone

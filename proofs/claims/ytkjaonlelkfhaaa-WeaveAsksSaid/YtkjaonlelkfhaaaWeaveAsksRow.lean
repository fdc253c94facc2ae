/- erratumlaw21.WeaveAsks returns true for every code, number, slice of bytes, slice of slices of bytes, two numbers and four bytes: all calls are what the chapter says; the arguments read as they did. No condition. -/
import Derived.Test.YtkjaonlelkfhaaaOpenW
import Derived.Test.YtkjaonlelkfhaaaOpenR
import Derived.Test.YtkjaonlelkfhaaaWeaveU
import Derived.ProofKit
import Derived.OpenShut
import Derived.ChangeOld
namespace Go.Proofs.Ytkjaonlelkfhaaa.weaveAsksDone
open Go.ChangeShapes Go.WideShapes Go.ChangeAt Go.RowKit

set_option maxRecDepth 100000 in
theorem lifted (os : Os) (started : os.Started) (H : Type) (enc : TypeId × Value → H) :
    ReturnsInHanded {} Try.checked os 8 .any (Rows.weaveAsksSpec.pre6 enc Try.prog Try.f8 Rows.weaveAsksRow.domain false) (Rows.weaveAsksSpec.post enc Try.prog Try.f8 false true false false) := by
  refine returnsInHanded_of_change (C := Try.checked) own started (by kernel_rfl) Try.func8
    (ChangeSpec.witness6 (enc := enc) (C := Try.checked) false ⟨#[], #[.agg #[.int .i64 0, .int .i64 0, .int .i64 0], .int .i64 0, .slice none 0 0, .slice none 0 0, .int .i64 0, .int .i64 0, .int .u8 0, .int .u8 0, .int .u8 0, .int .u8 0], []⟩ 8 (by kernel_rfl) (by kernel_rfl) (by kernel_rfl) (by kernel_rfl)) ?_
  intro W base args ds gs before hval0 hW hcnd _
  have hval : ∀ (j : Nat) t v, Try.f8.params[j]? = some t → args[j]? = some v → Value.okWide Try.prog W .any base t v := hval0
  have hW1 := hW
  obtain ⟨pp, qq, hA0, hV, rfl, hfz, hnd⟩ := hW
  have hA : DataW.TrodAll enc Try.prog W 0 (fun _ => true) true Try.f8.params.toList args.toList ds pp := hA0
  rw [Try.params8] at hA hval
  obtain ⟨v0, vs0, d0, ds0, p0, q0, hargs, rfl, rfl, h0, r0⟩ := trodAll_cons hA
  obtain ⟨v1, vs1, d1, ds1, p1, q1, rfl, rfl, rfl, h1, r1⟩ := trodAll_cons r0
  obtain ⟨v2, vs2, d2, ds2, p2, q2, rfl, rfl, rfl, h2, r2⟩ := trodAll_cons r1
  obtain ⟨v3, vs3, d3, ds3, p3, q3, rfl, rfl, rfl, h3, r3⟩ := trodAll_cons r2
  obtain ⟨v4, vs4, d4, ds4, p4, q4, rfl, rfl, rfl, h4, r4⟩ := trodAll_cons r3
  obtain ⟨v5, vs5, d5, ds5, p5, q5, rfl, rfl, rfl, h5, r5⟩ := trodAll_cons r4
  obtain ⟨v6, vs6, d6, ds6, p6, q6, rfl, rfl, rfl, h6, r6⟩ := trodAll_cons r5
  obtain ⟨v7, vs7, d7, ds7, p7, q7, rfl, rfl, rfl, h7, r7⟩ := trodAll_cons r6
  obtain ⟨v8, vs8, d8, ds8, p8, q8, rfl, rfl, rfl, h8, r8⟩ := trodAll_cons r7
  obtain ⟨v9, vs9, d9, ds9, p9, q9, rfl, rfl, rfl, h9, r9⟩ := trodAll_cons r8
  obtain ⟨rfl, rfl, rfl⟩ := trodAll_nil r9
  obtain rfl : args = #[v0, v1, v2, v3, v4, v5, v6, v7, v8, v9] := by cases args; simp_all
  obtain ⟨rfl, rfl⟩ := trodVars_none hV
  have lt0 := lt_places h0
  have k0 := h0
  have lt1 := lt_places h1
  have k1 := h1
  have lt2 := lt_places h2
  have k2 := h2
  have lt3 := lt_places h3
  have k3 := h3
  have lt4 := lt_places h4
  have k4 := h4
  have lt5 := lt_places h5
  have k5 := h5
  have lt6 := lt_places h6
  have k6 := h6
  have lt7 := lt_places h7
  have k7 := h7
  have lt8 := lt_places h8
  have k8 := h8
  have lt9 := lt_places h9
  have k9 := h9
  obtain ⟨cN, cK, cB, rfl⟩ := open_code (hval 0 24 v0 rfl rfl) h0
  obtain ⟨d, rfl, ld, ud⟩ := open_i64 (hval 1 3 v1 rfl rfl) h1
  obtain ⟨As, ns, cs, s, rfl, bs⟩ := open_bytes (hval 2 22 v2 rfl rfl) h2
  obtain ⟨Al, nl, cl, l, rfl, bl⟩ := open_rows (hval 3 27 v3 rfl rfl) h3
  obtain ⟨p, rfl, lp, up⟩ := open_i64 (hval 4 3 v4 rfl rfl) h4
  obtain ⟨i, rfl, li, ui⟩ := open_i64 (hval 5 3 v5 rfl rfl) h5
  obtain ⟨n, rfl⟩ := open_u8 (hval 6 5 v6 rfl rfl) h6
  obtain ⟨k, rfl⟩ := open_u8 (hval 7 5 v7 rfl rfl) h7
  obtain ⟨b, rfl⟩ := open_u8 (hval 8 5 v8 rfl rfl) h8
  obtain ⟨e, rfl⟩ := open_u8 (hval 9 5 v9 rfl rfl) h9
  clear hA0 hval0
  refine (law_wasks' cN cK cB d p i As ns s cs _ l n k b e W bs.1 bs.2.2.2 bs.2.1 bs.2.2.1 bl.2 lp up).mono fun e W1 ⟨he, bel⟩ => ?_
  subst he
  exact ⟨_, rfl, _, _, _, [], _, [], hW1, trodAll_mk1 (shut_bool Try.underlying4 _), (trodAll_cons_mk (Below.trod laidOut (by kernel_rfl) (of_decide_eq_true (by kernel_rfl)) k0 bel lt0) (trodAll_cons_mk (Below.trod laidOut (by kernel_rfl) (of_decide_eq_true (by kernel_rfl)) k1 bel lt1) (trodAll_cons_mk (Below.trod laidOut (by kernel_rfl) (of_decide_eq_true (by kernel_rfl)) k2 bel lt2) (trodAll_cons_mk (Below.trod laidOut (by kernel_rfl) (of_decide_eq_true (by kernel_rfl)) k3 bel lt3) (trodAll_cons_mk (Below.trod laidOut (by kernel_rfl) (of_decide_eq_true (by kernel_rfl)) k4 bel lt4) (trodAll_cons_mk (Below.trod laidOut (by kernel_rfl) (of_decide_eq_true (by kernel_rfl)) k5 bel lt5) (trodAll_cons_mk (Below.trod laidOut (by kernel_rfl) (of_decide_eq_true (by kernel_rfl)) k6 bel lt6) (trodAll_cons_mk (Below.trod laidOut (by kernel_rfl) (of_decide_eq_true (by kernel_rfl)) k7 bel lt7) (trodAll_cons_mk (Below.trod laidOut (by kernel_rfl) (of_decide_eq_true (by kernel_rfl)) k8 bel lt8) (trodAll_cons_mk (Below.trod laidOut (by kernel_rfl) (of_decide_eq_true (by kernel_rfl)) k9 bel lt9) trodAll_mk0)))))))))), rfl, bel.frame _, fun h => by cases h⟩

theorem proved : Rows.WeaveAsksSaid :=
  OpenClaim.holds_of_wide 8 Try.f8 rfl rfl rfl rfl rfl rfl rfl ⟨rfl, rfl, rfl, rfl, rfl⟩ rfl rfl rfl rfl rfl (by kernel_rfl) Try.func8 (by kernel_rfl)
    (of_decide_eq_true (by kernel_rfl)) (by unfold Func.isWrapper; rw [if_neg (of_decide_eq_false (by kernel_rfl))]; exact ⟨rfl, rfl⟩)
    (fun os started H enc _ => lifted os started H enc)
#print axioms proved
end Go.Proofs.Ytkjaonlelkfhaaa.weaveAsksDone

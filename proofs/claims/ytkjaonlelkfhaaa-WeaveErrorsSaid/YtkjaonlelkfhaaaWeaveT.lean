/- The walks of layer 21, twenty: the law WeaveErrors. -/
import Derived.Test.YtkjaonlelkfhaaaWeaveR
import Derived.Test.YtkjaonlelkfhaaaWeaveP
namespace Go.Proofs.Ytkjaonlelkfhaaa
open Go.RowKit Gf Bt

theorem loom300 (k b d : Int) : loomOk 300 k b d = false := by
  unfold loomOk codeOk
  rw [decide_eq_true (show (255 : Int) < 300 by decide)]
  simp
/-- Unweave of one byte tells an error, and nothing. -/
theorem unweave_one (N K B : Nat) (d : Int) (A : Option Addr) (hN2 : 2 ≤ N) (hK : 1 ≤ K) (hKN : K < N) (hN : N ≤ 255) (hB : B < 255) (w : World) :
    Calls Try.prog 17 #[C3 N K B, .int .i64 d, .slice A 1 1] w fun e w' => e = .returned (.tuple #[.slice none 0 0, .int .u16 (if 1 ≤ d ∧ d ≤ 255 then 12 else 10)]) ∧ Below w.heap.size w w' := by
  by_cases hd : 1 ≤ d ∧ d ≤ 255
  · rw [if_pos hd]
    obtain ⟨D, rfl⟩ : ∃ D : Nat, d = D := ⟨d.toNat, by omega⟩
    refine unweave_short N K B D A 1 1 w (loomOk_nat hK hKN hN hB (by omega) (by omega)) (fun h => ?_)
    have h1 : (((1 : Nat) : Int) % ((N : Int) * (D : Int))) = ((1 % (N * D) : Nat) : Int) := by rw [← Int.natCast_mul, ← Int.natCast_emod]
    have h2 : 2 ≤ N * D := Nat.le_trans hN2 (Nat.le_mul_of_pos_right _ (by omega))
    rw [h1, Nat.mod_eq_of_lt h2] at h
    exact absurd h (by decide)
  · rw [if_neg hd]
    refine unweave_no N K B d A 1 1 w ?_
    cases h : loomOk N K B d with
    | false => rfl
    | true =>
      obtain ⟨_, _, _, _, _, d1, d2⟩ := loomOk_bounds h
      exact absurd ⟨d1, d2⟩ hd
/-- A block more than a sheaf holds: nothing, unless a sheaf is a block. -/
theorem wErr_more {N K B D : Nat} (bs : List UInt8) (hK : 1 ≤ K) (hKN : K < N) (hN : N ≤ 255) (hB : B < 255) (hD : 1 ≤ D) (hD2 : D ≤ 255) :
    wErr N K B D (wordsL N bs (D + 1)) = if D = 1 then 0 else 12 := by
  unfold wErr
  rw [if_pos (loomOk_nat hK hKN hN hB hD hD2), wordsL_length, ← Int.natCast_emod]
  by_cases h1 : D = 1
  · subst h1
    have h2 : ∀ x ∈ wordsL N bs (1 + 1), (x.length : Int) = (N : Int) := fun x hx => by
      unfold wordsL at hx
      obtain ⟨j, _, rfl⟩ := List.mem_map.1 hx
      rw [wordL_length]
    rw [if_pos ⟨rfl, h2⟩, if_pos rfl]
  · rw [if_neg h1, if_neg]
    intro h
    have h2 : (D + 1) % D = 1 := by rw [Nat.add_mod_left, Nat.mod_eq_of_lt (by omega)]
    rw [h2] at h
    exact absurd h.1 (by decide)
theorem upon_mk {P : Program} {o : Oper} {a : Act} {K : Act → World → Prop} {Q : Exit → Act → World → Prop} {r : Value} {w' : World} {R : Result Next} (hr : R = .ok (.value r) w') (hk : K (a.put o.dst r) w') : o.upon P a K Q R := by
  subst hr
  exact hk
theorem wrap_succ {D : Nat} (h : D ≤ 66) : IntKind.i64.wrap ((D : Int) + 1) = (D : Int) + 1 := by simp only [IntKind.wrap, IntKind.bits, IntKind.signed]; simp; omega
theorem bErr_in {N K B : Nat} {d : Int} (hK : 1 ≤ K) (hKN : K < N) (hN : N ≤ 255) (hB : B < 255) : bErr N K B d = if 1 ≤ d ∧ d ≤ 255 then 0 else 10 := by
  unfold bErr
  by_cases hd : 1 ≤ d ∧ d ≤ 255
  · obtain ⟨D, rfl⟩ : ∃ D : Nat, d = D := ⟨d.toNat, by omega⟩
    rw [if_pos hd, if_pos (loomOk_nat hK hKN hN hB (by omega) (by omega))]
  · rw [if_neg hd, if_neg]
    intro h
    obtain ⟨_, _, _, _, _, d1, d2⟩ := loomOk_bounds h
    exact hd ⟨d1, d2⟩
set_option maxRecDepth 100000 in
set_option maxHeartbeats 4000000 in
theorem law_errors (n k b : UInt8) (d : Int) (A : Option Addr) (bs : List UInt8) (cap : Nat) (e : UInt8) (w : World) (hRd : Rd w w.heap.size A (bs.map B8)) (hcap : bs.length ≤ cap) (hmax : cap ≤ maxLen) :
    Calls Try.prog 7 #[B8 n, B8 k, B8 b, .int .i64 d, .slice A bs.length cap, B8 e] w fun r w' => r = .returned (.bool true) ∧ Below w.heap.size w w' := by
  by_cases hs : bs.length ≤ 200
  · obtain ⟨N, K, B, hN2, hN22, hK1, hKN, hB, hcode⟩ := lawcode31 n k b
    obtain ⟨D, hD1, hD66, hdepth⟩ := depth_any e
    have HCODE := bx hcode
    have HDEPTH := bx hdepth
    clear hcode hdepth
    have hN5 : N ≤ 255 := Nat.le_trans hN22 (by decide)
    have hD5 : D ≤ 255 := Nat.le_trans hD66 (by decide)
    have hsz : (bs.length : Int) ≤ 200 := Int.ofNat_le.2 hs
    obtain ⟨E2, hE2⟩ : ∃ E2 : Int, (if 1 ≤ d ∧ d ≤ 255 then (12 : Int) else 10) = E2 := ⟨_, rfl⟩
    obtain ⟨E3, hE3⟩ : ∃ E3 : Int, (if 1 ≤ d ∧ d ≤ 255 then (0 : Int) else 10) = E3 := ⟨_, rfl⟩
    obtain ⟨E4, hE4⟩ : ∃ E4 : Int, (if D = 1 then (0 : Int) else 12) = E4 := ⟨_, rfl⟩
    have HU : Bx (∀ (A : Option Addr) (w : World), Calls Try.prog 17 #[C3 N K B, .int .i64 d, .slice A 1 1] w fun e w' => e = .returned (.tuple #[.slice none 0 0, .int .u16 E2]) ∧ Below w.heap.size w w') := bx fun A w => by
      rw [← hE2]; exact unweave_one N K B d A hN2 hK1 hKN hN5 hB w
    have HW3 := bx (hE3 ▸ bErr_in (d := d) hK1 hKN hN5 hB)
    have HW4 := bx (hE4 ▸ wErr_more bs hK1 hKN hN5 hB hD1 hD5)
    have HWB : Bx (∀ (v : Value) (w : World), Calls Try.prog 12 #[C3 300 K B, .int .i64 D, v] w fun e w' => e = .returned (.tuple #[.slice none 0 0, .int .u16 10]) ∧ Below w.heap.size w w') := bx fun v w => weave_no 300 K B D v [] w (loom300 _ _ _)
    have HWD : Bx (∀ w' : World, Below w.heap.size w w' → Calls Try.prog 11 #[C3 N K B, .slice A bs.length cap, .int .i64 ((D : Int) + 1)] w' fun e w'' => ∃ v, e = .returned v ∧ IsLst w'' w''.heap.size v (wordsL N bs (D + 1)) ∧ Below w'.heap.size w' w'') := bx fun w' hb => words_any N K B A bs cap (D + 1) w' ((hRd.below hb).more hb.size) hcap (Nat.le_trans hs (by decide)) hN5 (Nat.le_trans (Nat.succ_le_succ hD66) (by decide))
    have HBL : Bx (∀ w' : World, Below w.heap.size w w' → Calls Try.prog 16 #[C3 N K B, .int .i64 d, .slice A bs.length cap] w' fun e w'' => ∃ v, e = .returned (.tuple #[v, .int .u16 E3]) ∧ Below w'.heap.size w' w'') := bx fun w' hb => by
      have hrow : IsRow w' w'.heap.size none (.slice A bs.length cap) bs := ⟨A, cap, rfl, hcap, hmax, (hRd.below hb).more hb.size, fun _ _ _ => by simp⟩
      refine (blocks_any N K B d _ bs none w' hrow (Nat.le_trans hs (by decide))).mono ?_
      rintro e w'' ⟨v, rfl, _, h⟩
      rw [HW3.out]
      exact ⟨v, rfl, h⟩
    have HPL : Bx (∀ w : World, Calls Try.prog 18 #[C3 N K B, .int .i64 D, .int .i64 (-1), .int .i64 0] w fun e w' => e = .returned (.int .i64 (-1)) ∧ Below w.heap.size w w') := bx fun w => place_no N K B D (-1) 0 w (fun h => absurd h.2.1 (by decide))
    have HPN : Bx (∀ w : World, Calls Try.prog 18 #[C3 N K B, .int .i64 D, .int .i64 0, .int .i64 N] w fun e w' => e = .returned (.int .i64 (-1)) ∧ Below w.heap.size w w') := bx fun w => place_no N K B D 0 N w (fun h => Int.lt_irrefl _ h.2.2.2.2)
    have HWS : Bx ((wordsL N bs (D + 1)).length ≤ 1000000) := bx (by rw [wordsL_length]; exact Nat.le_trans (Nat.succ_le_succ hD66) (by decide))
    have hcase : (¬ 1 ≤ d ∧ E2 = 10 ∧ E3 = 10) ∨ (1 ≤ d ∧ d ≤ 255 ∧ E2 = 12 ∧ E3 = 0) ∨ (1 ≤ d ∧ ¬ d ≤ 255 ∧ E2 = 10 ∧ E3 = 10) := by
      rw [← hE2, ← hE3]
      by_cases h1 : 1 ≤ d
      · by_cases h2 : d ≤ 255
        · exact .inr (.inl ⟨h1, h2, if_pos ⟨h1, h2⟩, if_pos ⟨h1, h2⟩⟩)
        · exact .inr (.inr ⟨h1, h2, if_neg (fun h => h2 h.2), if_neg (fun h => h2 h.2)⟩)
      · exact .inl ⟨h1, if_neg (fun h => h1 h.1), if_neg (fun h => h1 h.1)⟩
    have HE4 := bx hE4
    have HDW := bx (wrap_succ hD66)
    clear hE2 hE3 hE4 hmax
    have hDz : (D : Int) ≤ 66 := Int.ofNat_le.2 hD66
    have hD0 : (0 : Int) ≤ (D : Int) := Int.natCast_nonneg _
    rcases hcase with ⟨hda, rfl, rfl⟩ | ⟨hda, hdb, rfl, rfl⟩ | ⟨hda, hdb, rfl, rfl⟩
    all_goals (
      go_enter Try.func7, Try.ntmps7
      go_upto_region 5 with (first
        | (go_at_call 9; refine (HCODE.out _).mono ?_; rintro e w1 ⟨rfl, hb1⟩; have HB1 := bx hb1; clear hb1)
        | (go_at_call 10; refine (HDEPTH.out _).mono ?_; rintro e _ ⟨rfl, rfl⟩))
      have hc0 := Blk.new w1 24 [.int .i64 N, .int .i64 K, .int .i64 B]
      have hb0 := HB1.out.alloc HB1.out.size (Obj.cells #[.int .i64 N, .int .i64 K, .int .i64 B] 24)
      have hg := hc0.lt
      obtain ⟨wa, hwa⟩ : ∃ wa, w1.alloc (Obj.cells #[.int .i64 N, .int .i64 K, .int .i64 B] 24) = wa := ⟨_, rfl⟩
      have hwa' : w1.alloc (Obj.cells [.int .i64 N, .int .i64 K, .int .i64 B].toArray 24) = wa := hwa
      rw [hwa'] at hc0 hg
      rw [hwa] at hb0 ⊢
      obtain ⟨g, hgg⟩ : ∃ g, w1.heap.size = g := ⟨_, rfl⟩
      rw [hgg] at hc0 hg ⊢
      have HC := bx hc0
      have HB := bx hb0
      clear hwa hwa' hgg HB1 hb0 w1
      have c0 : wa.cell? ⟨g, 0, none⟩ = some (.int .i64 N) := hc0.cell rfl
      have c1 : wa.cell? ⟨g, 1, none⟩ = some (.int .i64 K) := hc0.cell rfl
      have c2 : wa.cell? ⟨g, 2, none⟩ = some (.int .i64 B) := hc0.cell rfl
      clear hc0
      go_upto_region 8 with fail
      obtain ⟨wb, hwb⟩ : ∃ wb, wa.alloc (Obj.cells #[.int .i64 300, .int .i64 K, .int .i64 B] 24) = wb := ⟨_, rfl⟩
      have HD : Bx (Blk wb wa.heap.size 24 [.int .i64 300, .int .i64 K, .int .i64 B]) := bx (by rw [← hwb]; exact Blk.new wa _ _)
      have HC : Bx (Blk wb g 24 [.int .i64 N, .int .i64 K, .int .i64 B]) := bx (by rw [← hwb]; exact HC.out.alloc _)
      have HB : Bx (Below w.heap.size w wb) := bx (by rw [← hwb]; exact HB.out.alloc HB.out.size _)
      rw [hwb]
      obtain ⟨g2, hg2⟩ : ∃ g2, wa.heap.size = g2 := ⟨_, rfl⟩
      rw [hg2] at HD ⊢
      clear c0 c1 c2 hwb hg2 hg
      have d0 : wb.cell? ⟨g2, 0, none⟩ = some (.int .i64 300) := HD.out.cell rfl
      have d1 : wb.cell? ⟨g2, 1, none⟩ = some (.int .i64 K) := HD.out.cell rfl
      have d2 : wb.cell? ⟨g2, 2, none⟩ = some (.int .i64 B) := HD.out.cell rfl
      go_upto_region 9 with (go_at_call 12; refine (HWB.out _ _).mono ?_; rintro e w2 ⟨rfl, hb2⟩; have HB2 : Bx (Below wb.heap.size wb w2) := bx (((Below.refl wb.heap.size wb).alloc (Nat.le_refl _) (Obj.cells #[.slice A bs.length cap] 22)).trans (hb2.mono (by simp))); clear hb2)
      have HC := bx (HC.out.below HB2.out HC.out.lt)
      have HB := bx (HB.out.trans (HB2.out.mono HB.out.size))
      clear d0 d1 d2 HB2 HD
      have hl2 := HC.out.lt
      have k0 : ∀ w', Below w2.heap.size w2 w' → w'.cell? ⟨g, 0, none⟩ = some (.int .i64 N) := fun w' h => (HC.out.below h hl2).cell rfl
      have k1 : ∀ w', Below w2.heap.size w2 w' → w'.cell? ⟨g, 1, none⟩ = some (.int .i64 K) := fun w' h => (HC.out.below h hl2).cell rfl
      have k2 : ∀ w', Below w2.heap.size w2 w' → w'.cell? ⟨g, 2, none⟩ = some (.int .i64 B) := fun w' h => (HC.out.below h hl2).cell rfl
      have HSc : Hid (Below w2.heap.size w2 w2.drew) := Lib.hid (Below.refl _ _).drew
      have hmk : ∀ W : World, (Instr.makeSlice 22 (.int .i64 1) (.int .i64 1)).run Try.prog W = .ok (.slice (some ⟨W.heap.size, 0, none⟩) 1 1) (W.alloc (.cells (Zs 1 (.int .u8 0)).toArray 5)) := fun W => run_mk (k := 1) (K := 1) rfl (by decide) W
      go_region_held3 (fun w' => Below w2.heap.size w2 w') (first | exact HSc.out | exact HSc.out.alloc HSc.out.size _ | exact (HSc.out.alloc HSc.out.size _).trans hb4)
        (first
          | (go_at_call 17; refine (HU.out _ _).mono ?_; rintro e w4 ⟨rfl, hb4'⟩; have hb4 : Below w2.heap.size _ w4 := hb4'.mono (Nat.le_trans HSc.out.size (by simp))))
      have hS4 := (by assumption : Below w2.heap.size w2 w4)
      have HB4 := bx hS4
      clear hb4 hb4' hS4 HSc hmk k0 k1 k2
      have HC := bx (HC.out.below HB4.out HC.out.lt)
      have HB := bx (HB.out.trans (HB4.out.mono HB.out.size))
      have c0 : w4.cell? ⟨g, 0, none⟩ = some (.int .i64 N) := HC.out.cell rfl
      have c1 : w4.cell? ⟨g, 1, none⟩ = some (.int .i64 K) := HC.out.cell rfl
      have c2 : w4.cell? ⟨g, 2, none⟩ = some (.int .i64 B) := HC.out.cell rfl
      go_upto_region 11 with (go_at_call 16; refine (HBL.out _ HB.out).mono ?_; rintro e w5 ⟨v5, rfl, hb5⟩; have HB5 := bx hb5; clear hb5)
      clear c0 c1 c2
      have HC := bx (HC.out.below HB5.out HC.out.lt)
      have HB := bx (HB.out.trans (HB5.out.mono HB.out.size))
      have hl5 := HC.out.lt
      have k0 : ∀ w', Below w5.heap.size w5 w' → w'.cell? ⟨g, 0, none⟩ = some (.int .i64 N) := fun w' h => (HC.out.below h hl5).cell rfl
      have k1 : ∀ w', Below w5.heap.size w5 w' → w'.cell? ⟨g, 1, none⟩ = some (.int .i64 K) := fun w' h => (HC.out.below h hl5).cell rfl
      have k2 : ∀ w', Below w5.heap.size w5 w' → w'.cell? ⟨g, 2, none⟩ = some (.int .i64 B) := fun w' h => (HC.out.below h hl5).cell rfl
      have HSc : Hid (Below w5.heap.size w5 w5.drew) := Lib.hid (Below.refl _ _).drew
      go_region_held3 (fun w' => Below w5.heap.size w5 w') (first | exact HSc.out | exact HSc.out.trans hb6 | exact (HSc.out.trans hb6).trans hb7)
        (first
          | (go_at_call 11; rw [HDW.out]; refine (HWD.out _ (HB.out.trans (HSc.out.mono HB.out.size))).mono ?_; rintro e w6 ⟨v6, rfl, hv6, hb6'⟩; have hb6 : Below w5.heap.size _ w6 := hb6'.mono HSc.out.size)
          | (go_at_call 12; refine (weave_any N K B D v6 _ w6 hv6 HWS.out).mono ?_; rintro e w7 ⟨v7, rfl, _, hb7'⟩; rw [HW4.out]; have hb7 : Below w5.heap.size w6 w7 := hb7'.mono (HSc.out.trans hb6).size))
      have hS7 := (by assumption : Below w5.heap.size w5 w7)
      have HB7 := bx hS7
      clear hb6 hb6' hb7 hb7' hv6 hS7 HSc k0 k1 k2
      have HC := bx (HC.out.below HB7.out hl5)
      have HB := bx (HB.out.trans (HB7.out.mono HB.out.size))
      have h4 : (((D : Int) == 1) = true ∧ (D == 1) = true ∧ E4 = 0) ∨ (((D : Int) == 1) = false ∧ (D == 1) = false ∧ E4 = 12) := by
        rw [← HE4.out]
        by_cases h : D = 1
        · exact .inl ⟨by rw [h]; rfl, by rw [h]; rfl, if_pos h⟩
        · exact .inr ⟨beq_false_of_ne (fun h2 => h (Int.ofNat_inj.1 h2)), beq_false_of_ne h, if_neg h⟩
      clear hl5
      rcases h4 with ⟨m1, m2, rfl⟩ | ⟨m1, m2, rfl⟩
      all_goals (
        go_wp2_with fail
        refine (known21 _).mono ?_
        rintro e w8 ⟨rfl, hb8⟩
        have HC := bx (HC.out.below hb8 HC.out.lt)
        have HB := bx (HB.out.trans (hb8.mono HB.out.size))
        clear hb8
        have c0 : w8.cell? ⟨g, 0, none⟩ = some (.int .i64 N) := HC.out.cell rfl
        have c1 : w8.cell? ⟨g, 1, none⟩ = some (.int .i64 K) := HC.out.cell rfl
        have c2 : w8.cell? ⟨g, 2, none⟩ = some (.int .i64 B) := HC.out.cell rfl
        go_wp2_with fail
        refine (HPL.out _).mono ?_
        rintro e w9 ⟨rfl, hb9⟩
        have HC := bx (HC.out.below hb9 HC.out.lt)
        have HB := bx (HB.out.trans (hb9.mono HB.out.size))
        clear hb9 c0 c1 c2
        have c0 : w9.cell? ⟨g, 0, none⟩ = some (.int .i64 N) := HC.out.cell rfl
        have c1 : w9.cell? ⟨g, 1, none⟩ = some (.int .i64 K) := HC.out.cell rfl
        have c2 : w9.cell? ⟨g, 2, none⟩ = some (.int .i64 B) := HC.out.cell rfl
        go_wp2_with fail
        refine (HPN.out _).mono ?_
        rintro e w10 ⟨rfl, hb10⟩
        have HB := bx (HB.out.trans (hb10.mono HB.out.size))
        clear hb10 c0 c1 c2
        go_wp2_with fail
        go_ret
        first | exact ⟨rfl, HB.out⟩ | exact ⟨ret_bool (by rw [decide_eq_false (Int.not_le.2 hdb)]; rfl), HB.out⟩))
  · have hsz : (200 : Int) < (bs.length : Int) := Int.ofNat_lt.2 (Nat.not_le.1 hs)
    go_enter Try.func7, Try.ntmps7
    go_wp2_with (refine (known21 _).mono ?_; rintro e w1 ⟨rfl, hb1⟩; have HB1 := bx hb1; clear hb1)
    go_ret
    exact ⟨rfl, HB1.out⟩
theorem law_errors' (n k b : UInt8) (d : Int) (A : Option Addr) (len : Nat) (bs : List UInt8) (cap : Nat) (e : UInt8) (w : World) (hlen : bs.length = len) (hRd : Rd w w.heap.size A (bs.map B8)) (hcap : len ≤ cap) (hmax : cap ≤ maxLen) :
    Calls Try.prog 7 #[B8 n, B8 k, B8 b, .int .i64 d, .slice A len cap, B8 e] w fun r w' => r = .returned (.bool true) ∧ Below w.heap.size w w' := by
  subst hlen
  exact law_errors n k b d A bs cap e w hRd hcap hmax
end Go.Proofs.Ytkjaonlelkfhaaa

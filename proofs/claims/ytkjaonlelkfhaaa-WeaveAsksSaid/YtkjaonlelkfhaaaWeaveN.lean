/- The walks of layer 21, fourteen: what is unwoven. -/
import Derived.Test.YtkjaonlelkfhaaaWeaveM
import Derived.Test.YtkjaonlelkfhaaaLstIn
import Derived.Test.YtkjaonlelkfhaaaUnPure
namespace Go.Proofs.Ytkjaonlelkfhaaa
open Go.RowKit Go.Shelf Gf Bt
attribute [local go_sem] Oper.semAt_some

theorem flat_mod (N D : Nat) (bs : List UInt8) (M : Nat) : ((List.range M).flatMap fun x => rowsU N D bs (x % M)) = unweaveL N D bs M := by
  unfold unweaveL
  rw [List.flatMap_def, List.flatMap_def]
  congr 1
  apply List.map_congr_left
  intro x hx
  rw [Nat.mod_eq_of_lt (List.mem_range.1 hx)]
theorem box_below {W W' : World} {B n : Nat} {t : TypeId} {v : Value} (h : Boxed W B t v) (hb : Below n W W') (hlt : B < n) : Boxed W' B t v := (hb.block B hlt).trans h
set_option maxRecDepth 100000 in
set_option maxHeartbeats 4000000 in
theorem unweave_yes (n k b d : Int) (N D M : Nat) (hN : n = N) (hD : d = D) (A : Option Addr) (bs : List UInt8) (cap : Nat) (w : World) (hok : loomOk n k b d = true) (hcap : bs.length ≤ cap) (hlen : bs.length ≤ 1000000) (hM : bs.length = M * (N * D)) (hRd : Rd w w.heap.size A (bs.map B8)) :
    CallsIn Fence.wide 5 Try.prog 17 #[C3 n k b, .int .i64 d, .slice A bs.length cap] w fun e w' => ∃ v, e = .returned (.tuple #[v, .int .u16 0]) ∧ IsLst w' w'.heap.size v (unweaveL N D bs M) ∧ Below w.heap.size w w' := by
  obtain ⟨k1, kn, nn, b0, b1, d1, d2⟩ := loomOk_bounds hok
  obtain ⟨s, hs⟩ : ∃ s, n * d = s := ⟨_, rfl⟩
  obtain ⟨S, hS⟩ : ∃ S, N * D = S := ⟨_, rfl⟩
  have hsS : s = (S : Int) := by rw [← hs, ← hS, hN, hD, Int.natCast_mul]
  have s1 : 1 ≤ s := by rw [← hs]; exact Int.mul_pos (by omega) (by omega)
  have s2 : s ≤ 65025 := by rw [← hs]; exact Int.le_trans (Int.mul_le_mul_of_nonneg_right nn (by omega)) (by omega)
  have hw : wrap64 (n * d) = s := by rw [hs]; unfold wrap64; omega
  have HS : Bx (∀ w, Calls Try.prog 24 #[L4 n k b d] w fun e w' => e = .returned (.int .i64 s) ∧ Below w.heap.size w w') := bx fun w => by have := sheaf_any n k b d w; rwa [hw] at this
  have hs0 : ¬ s = 0 := by omega
  have hmod : (bs.length : Int) % s = 0 := by rw [hM, hS, hsS, Int.natCast_mul]; simp
  have hl0 : (0 : Int) ≤ (bs.length : Int) := Int.natCast_nonneg _
  have HN := bx hN
  have HD := bx hD
  have HM := bx hM
  have HSS := bx hsS
  have HSN := bx hS
  have HRD := bx hRd
  have HK1 := bx k1
  have HKN := bx kn
  have HB0 := bx b0
  have HB1 := bx b1
  clear hw hs hsS hS hN hD hM hRd k1 kn b0 b1
  refine callsIn_of_wp_marks Try.func17 rfl trivial ?_ rfl
  simp only [Try.ntmps17, List.size_toArray, List.length_cons, List.length_nil, Nat.reduceAdd, Nat.reduceSub, Array.replicate_succ, Array.replicate_zero, List.push_toArray, List.append_toArray, List.nil_append, List.cons_append]
  gi_wp2_with (first
    | (refine ⟨trivial, ?_⟩; gi_at_call 21; refine (callsIn_wide.2 (loom_right n k b d _)).mono ?_; rintro e w1 ⟨rfl, hb1⟩; rw [hok]; have HL := bx (((((Below.refl _ _).alloc (Nat.le_refl _) _).alloc (by simp) _).alloc (by simp <;> omega) _ : Below w.heap.size w (((w.alloc (Obj.cells #[.int .i64 n, .int .i64 k, .int .i64 b] 24)).alloc (Obj.cells #[.int .i64 d] 3)).alloc (Obj.cells #[.int .i64 n, .int .i64 k, .int .i64 b, .int .i64 d] 50))).trans (hb1.mono (by simp; omega))); have HB := bx (Blk.below (blk_new2 w (Obj.cells #[.int .i64 n, .int .i64 k, .int .i64 b] 24) (Obj.cells #[.int .i64 d] 3) 50 [.int .i64 n, .int .i64 k, .int .i64 b, .int .i64 d]) hb1 (by simp)); have HDB := bx (Blk.below ((blk_new1 w (Obj.cells #[.int .i64 n, .int .i64 k, .int .i64 b] 24) 3 [.int .i64 d]).alloc (Obj.cells #[.int .i64 n, .int .i64 k, .int .i64 b, .int .i64 d] 50)) hb1 (by simp <;> omega)); have l0 : w1.cell? ⟨w.heap.size + 2, 0, none⟩ = some (.int .i64 n) := HB.out.cell rfl; have l1 : w1.cell? ⟨w.heap.size + 2, 1, none⟩ = some (.int .i64 k) := HB.out.cell rfl; have l2 : w1.cell? ⟨w.heap.size + 2, 2, none⟩ = some (.int .i64 b) := HB.out.cell rfl; have l3 : w1.cell? ⟨w.heap.size + 2, 3, none⟩ = some (.int .i64 d) := HB.out.cell rfl; clear hb1)
    | (refine ⟨trivial, ?_⟩; gi_at_call 24; refine (callsIn_wide.2 (HS.out _)).mono ?_; rintro e w2 ⟨rfl, hb2⟩; have HL2 := bx (HL.out.trans (hb2.mono HL.out.size)); have HB2 := bx (HB.out.below hb2 HB.out.lt); have HD2 := bx (HDB.out.below hb2 HDB.out.lt); have m0 : w2.cell? ⟨w.heap.size + 2, 0, none⟩ = some (.int .i64 n) := HB2.out.cell rfl; have m1 : w2.cell? ⟨w.heap.size + 2, 1, none⟩ = some (.int .i64 k) := HB2.out.cell rfl; have m2 : w2.cell? ⟨w.heap.size + 2, 2, none⟩ = some (.int .i64 b) := HB2.out.cell rfl; have m3 : w2.cell? ⟨w.heap.size + 2, 3, none⟩ = some (.int .i64 d) := HB2.out.cell rfl; have p0 : ∀ j u, [Value.int .i64 n, .int .i64 k, .int .i64 b, .int .i64 d][j]? = some u → (w2.alloc (Obj.cells #[.slice none 0 0] 27)).cell? ⟨w.heap.size + 2, j, none⟩ = some u := fun j u h => (HB2.out.alloc _).cell h; have q0 := p0 0 _ rfl; have q1 := p0 1 _ rfl; have q2 := p0 2 _ rfl; have q3 := p0 3 _ rfl; clear p0; clear hb2)
    | (refine ⟨trivial, ?_⟩; gi_at_call 24; refine (callsIn_wide.2 (HS.out _)).mono ?_; rintro e w3 ⟨rfl, hb3⟩; have HL3 := bx ((HL2.out.alloc HL2.out.size _).trans (hb3.mono (by have := HL2.out.size; simp; omega))); have HB3 := bx ((HB2.out.alloc _).below hb3 (by have := HB2.out.lt; simp; omega)); have HD3 := bx ((HD2.out.alloc _).below hb3 (by have := HD2.out.lt; simp; omega)); have HOUT := bx (Blk.below (Blk.new w2 27 [.slice none 0 0]) hb3 (by simp)); clear hb3)
    | (refine ⟨trivial, ?_⟩; gi_at_call 25; refine (chunk_in Fence.wide _ trivial rfl A bs.length cap s s1 _).mono ?_; rintro e w4 ⟨rfl, rfl⟩))
  obtain ⟨W0, hW0⟩ : ∃ W0, (w3.alloc (Obj.cells #[.slice A bs.length cap] 22)).alloc (Obj.cells #[.int .i64 s] 3) = W0 := ⟨_, rfl⟩
  have hbs : Blk W0 w3.heap.size 22 [.slice A bs.length cap] := by rw [← hW0]; exact (Blk.new w3 22 [.slice A bs.length cap]).alloc _
  have hbn : Blk W0 (w3.heap.size + 1) 3 [.int .i64 s] := by rw [← hW0]; exact blk_new1 w3 (Obj.cells #[.slice A bs.length cap] 22) 3 [.int .i64 s]
  have hsz : W0.heap.size = w3.heap.size + 2 := by rw [← hW0]; simp
  have hO1 : w2.heap.size < w3.heap.size := HOUT.out.lt
  have hwO : w.heap.size ≤ w2.heap.size := HL2.out.size
  have hlO : w.heap.size + 2 < w2.heap.size := HB2.out.lt
  have h3W : Below w3.heap.size w3 W0 := by rw [← hW0]; exact ((Below.refl _ w3).alloc (Nat.le_refl _) _).alloc (by simp) _
  have hOUT0 : Boxed W0 w2.heap.size 27 (.slice none 0 0) := HOUT.out.below h3W hO1
  have hwW : Below w.heap.size w W0 := HL3.out.trans (h3W.mono HL3.out.size)
  have HD0 := bx (HD3.out.below h3W HD3.out.lt)
  have HL0 := bx (HB3.out.below h3W HB3.out.lt)
  rw [hW0]
  have hS1 : 1 ≤ S := by have := HSS.out; omega
  have hSS := HSS.out
  have HS65 : Bx (S ≤ 65025) := bx (by omega)
  have hlM : bs.length = M * S := by rw [HM.out, HSN.out]
  have hM2 : (M - 1) * S < bs.length ∨ M = 0 := by
    rcases Nat.eq_zero_or_pos M with h | h
    · exact .inr h
    · left
      obtain ⟨m, rfl⟩ : ∃ m, M = m + 1 := ⟨M - 1, by omega⟩
      rw [hlM, Nat.add_sub_cancel, Nat.add_mul]; omega
  have HLM := bx hlM
  clear hlM hSS
  refine wpIn_rangeFunc_ownG rfl (by decide) (gf := 34) (lb := #[.pointer (some ⟨w3.heap.size, 0, none⟩), .pointer (some ⟨w3.heap.size + 1, 0, none⟩)]) rfl trivial (enters_of Try.func34 (by kernel_rfl) rfl)
    (chunk_stops _ w3.heap.size (w3.heap.size + 1) w2.heap.size A bs.length cap S M hS1 (by rw [HLM.out]; exact Nat.le_refl _) hM2 hcap (by omega) (by have := HS65.out; omega) (fun h => by obtain ⟨ad, e, _⟩ := HRD.out (by simpa using h); exact ⟨ad, e⟩) W0 (hbs.cell rfl) (by rw [← HSS.out]; exact hbn.cell rfl))
    kpC_t (kpC_b (by omega) (by omega) (by omega)) (Below.refl _ _) (fun _ => rfl)
    (fun pre W => (∃ v, Boxed W w2.heap.size 27 v ∧ OwnLst2 W W0.heap.size v (pre.flatMap fun x => rowsU N D bs (x % M))) ∧ Below w2.heap.size W0 W ∧ pre.length ≤ M)
    (fun _ _ _ => False)
    ?hI (fun _ _ _ _ _ hs _ _ => hs)
    ⟨⟨_, hOUT0, OwnLst2.nil _ _⟩, Below.refl _ _, Nat.zero_le _⟩
    (fun x => { tmps := #[C3 n k b, .int .i64 d, .slice A bs.length cap, .pointer (some ⟨w.heap.size, 0, none⟩), .pointer (some ⟨w.heap.size + 1, 0, none⟩), undef, .slice none 0 0, .int .u16 0, .pointer (some ⟨w.heap.size + 1 + 1, 0, none⟩), .int .u16 0, .pointer (some ⟨w2.heap.size, 0, none⟩), chunkV A S bs.length (x % M), undef, undef, undef, .agg #[.int .i64 n, .int .i64 k, .int .i64 b], .int .i64 d, .agg #[.int .i64 n, .int .i64 k, .int .i64 b, .int .i64 d], .agg #[.int .i64 n, .int .i64 k, .int .i64 b, .int .i64 d], .int .u16 0, .int .u16 0, .bool false, undef, .slice A bs.length cap, .int .i64 bs.length, .agg #[.int .i64 n, .int .i64 k, .int .i64 b, .int .i64 d], .int .i64 s, .int .i64 0, .bool false, .slice A bs.length cap, .agg #[.int .i64 n, .int .i64 k, .int .i64 b, .int .i64 d], .int .i64 s, .func (.func 34) #[] #[.pointer (some ⟨w3.heap.size, 0, none⟩), .pointer (some ⟨w3.heap.size + 1, 0, none⟩)], chunkV A S bs.length (x % M), undef, undef, undef, undef, undef, undef, undef, undef, undef, undef, undef, undef, undef, undef, undef, undef, undef, undef, undef, undef, undef, undef, undef, undef, undef, undef, undef, undef, undef, undef, undef], defers := [] }) ?assign ?body ?done ?stop
  case hI =>
    rintro pre W W' row ⟨⟨v, hv, hown⟩, hbel, hle⟩ hg hr
    refine ⟨⟨v, hv.kept hg (fun e => ?_), hown.kept hg (fun r e => (hr r e).2)⟩, hbel.grown hg (by have := hbel.size; omega) (fun k e => by have := (hr k e).1; omega), hle⟩
    have := (hr _ e.symm).1; omega
  case assign =>
    intro l x W K hK
    gi_wp2
    exact hK
  case body =>
    rintro l pre x W ⟨⟨v, hv, hown⟩, hbel, hle⟩ hlt
    have hM0 : 0 < M := by omega
    obtain ⟨q, hq⟩ : ∃ q, x % M = q := ⟨_, rfl⟩
    have hqM : q < M := by rw [← hq]; exact Nat.mod_lt _ hM0
    obtain ⟨lo, hlo⟩ : ∃ lo, q * S = lo := ⟨_, rfl⟩
    have hloS : lo + S ≤ bs.length := by
      rw [HLM.out, ← hlo]
      have := Nat.mul_le_mul_right S hqM
      rw [Nat.succ_mul] at this; exact this
    obtain ⟨ad, rfl, hab, hcs⟩ := HRD.out (by simp; omega)
    have hch : chunkV (some ad) S bs.length (x % M) = .slice (some (ad.add lo)) S S := by
      rw [hq]
      simp only [chunkV, Option.map_some, hlo]
      rw [Nat.min_eq_left (by omega)]
    rw [hch]
    have hbwW : Below w.heap.size w W := hwW.trans (hbel.mono hwO)
    have hld : W.cell? ⟨w.heap.size + 1, 0, none⟩ = some (.int .i64 d) := (HD0.out.below hbel (by omega)).cell rfl
    have HV := bx hv
    have HOWN := bx hown
    have HBEL := bx hbel
    have HBW := bx hbwW
    have HCS := bx hcs
    have HLOS := bx hloS
    have HLO := bx hlo
    have HQ := bx hq
    clear hv hown hbel hbwW hcs hloS hlo hq hch hmod
    obtain ⟨old, hold⟩ : ∃ old, (pre.flatMap fun x => rowsU N D bs (x % M)) = old := ⟨_, rfl⟩
    have HOLD := bx hold
    have hol : old.length ≤ 1000000 := by
      rw [← hold]
      have h1 : ∀ ps : List Nat, (ps.flatMap fun x => rowsU N D bs (x % M)).length = ps.length * D := fun ps => by
        induction ps with
        | nil => simp
        | cons p ps ih => rw [List.flatMap_cons, List.length_append, rowsU_length, ih, List.length_cons, Nat.add_mul, Nat.one_mul, Nat.add_comm]
      rw [h1]
      have h2 : pre.length * D ≤ M * D := Nat.mul_le_mul_right _ hle
      have h3 : M * D ≤ M * S := Nat.mul_le_mul_left _ (by rw [← HSN.out]; exact Nat.le_mul_of_pos_left _ (by have := HN.out; have := HK1.out; have := HKN.out; omega))
      have := HLM.out
      omega
    have HOL := bx hol
    have HOWN := bx (show OwnLst2 W W0.heap.size v old by rw [← hold]; exact HOWN.out)
    clear hold hol
    gi_wp2
    gi_loopw [35] (fun i wr => ∃ j : Nat, j ≤ D ∧ i = .int .i64 j ∧ (∃ v', Boxed wr w2.heap.size 27 v' ∧ OwnLst2 wr W0.heap.size v' (old ++ (List.range j).map (rowU N D bs q))) ∧ KpC w2.heap.size w3.heap.size (w3.heap.size + 1) W wr ∧ KeepsFrom W0.heap.size W wr) (fun i _ => D - (intOf i).toNat)
    case atStart => exact ⟨0, Nat.zero_le _, rfl, ⟨v, HV.out, by simpa using HOWN.out⟩, ⟨Below.refl _ _, rfl, rfl⟩, KeepsFrom.refl _ _⟩
    case round =>
      rename World => wj
      obtain ⟨j, hj, rfl, ⟨v', hv', hown'⟩, hkp, hkf⟩ := hrel
      have HV' := bx hv'
      have HOWN' := bx hown'
      have HKP := bx hkp
      have HKF := bx hkf
      clear hv' hown' hkp hkf
      have hj0 : (0 : Int) ≤ (j : Int) := Int.natCast_nonneg _
      by_cases hjD : j < D
      · have hjd : (j : Int) < d := by have := HD.out; omega
        have hln : wj.cell? ⟨w.heap.size + 2, 0, none⟩ = some (.int .i64 n) := ((HL0.out.below HBEL.out (by omega)).below HKP.out.1 (by omega)).cell rfl
        have hN2 : 1 * N ≤ 281474976710656 := by have := HN.out; omega
        have hN3 : N ≤ 9223372036854775807 := by omega
        gi_wp2_with (gi_at_make; refine mk_row_in rfl 22 _ _ rfl 5 _ _ _ N 1 (congrArg (Value.int .i64) HN.out) (congrArg (Value.int .i64) HN.out) Try.underlying22 bytes_info rfl hN2 hN3 ?_)
        have hNle : N ≤ 255 := by have := HN.out; omega
        clear hln hN2 hN3
        gi_loopw [44] (fun i wr => ∃ i' : Nat, i' ≤ N ∧ i = .int .i64 i' ∧ Blk wr wj.heap.size 5 ((upTo N (fun i => bs.getD (q * (N * D) + (i * D + j)) 0) i').map B8) ∧ Below wj.heap.size wj wr ∧ KeepsOthers wj wr) (fun i _ => N - (intOf i).toNat)
        case atStart => exact ⟨0, Nat.zero_le _, rfl, by rw [upTo_zero, ← zs_u8]; exact Blk.new wj _ _, (Below.refl _ _).alloc (Nat.le_refl _) _, KeepsOthers.alloc _ _⟩
        case round =>
          rename World => wi
          obtain ⟨i, hi, rfl, hg, hbi, hko⟩ := hrel
          have HG := bx hg
          have HBI := bx hbi
          have HKO := bx hko
          clear hg hbi hko
          have hi0 : (0 : Int) ≤ (i : Int) := Int.natCast_nonneg _
          have hjs := HKP.out.1.size
          have hWs := HBEL.out.size
          have HSZ := bx (show w2.heap.size < wj.heap.size by omega)
          clear hjs hWs
          by_cases hiN : i < N
          · have hin : (i : Int) < (N : Int) := by omega
            have hld2 : wi.cell? ⟨w.heap.size + 1, 0, none⟩ = some (.int .i64 d) := (((HD0.out.below HBEL.out (by omega)).below HKP.out.1 (by omega)).below HBI.out (by have := HSZ.out; omega)).cell rfl
            obtain ⟨p, hp⟩ : ∃ p, i * D = p := ⟨_, rfl⟩
            have hpS : p + j < S := by rw [← hp, ← HSN.out]; exact pair_lt' hjD hiN
            have hwp : wrap64 ((i : Int) * d) = (p : Int) := by have := HS65.out; rw [HD.out, ← Int.natCast_mul, hp]; exact w64 (by omega)
            have hp0 : (0 : Int) ≤ (p : Int) := Int.natCast_nonneg _
            have hpz : (p : Int) + (j : Int) < (S : Int) := by omega
            have hS2 : (S : Int) ≤ 65025 := by have := HS65.out; omega
            obtain ⟨y, hy⟩ : ∃ y, bs[lo + (p + j)]? = some y := ⟨_, List.getElem?_eq_getElem (by have := HLOS.out; omega)⟩
            have hcy : wi.cell? ((ad.add lo).add (p + j)) = some (.int .u8 y.toNat) := by
              rw [add_of_add]
              have h1 := HCS.out (lo + (p + j)) (B8 y) (by rw [List.getElem?_map, hy]; rfl)
              rw [HBI.out.cell (by rw [block_of_add]; have := HSZ.out; omega), HKP.out.1.cell (by rw [block_of_add]; omega), HBW.out.cell (by rw [block_of_add]; exact hab)]
              exact h1
            have hcg : wi.cell? ⟨wj.heap.size, i, none⟩ = some (.int .u8 ((upTo N (fun i => bs.getD (q * (N * D) + (i * D + j)) 0) i).getD i 0).toNat) := HG.out.cell (by rw [List.getElem?_map, List.getD_eq_getElem?_getD, List.getElem?_eq_getElem (by rw [upTo_length]; exact hiN)]; rfl)
            have hcf : wi.frozen? ⟨wj.heap.size, i, none⟩ = false := HG.out.froz
            have HYY := bx (show bs.getD (q * (N * D) + (i * D + j)) 0 = y by rw [HSN.out, HLO.out, hp, List.getD_eq_getElem?_getD, hy]; rfl)
            clear hp hpS hy
            gi_wp2
            go_roundw
            case rel =>
              refine ⟨i + 1, hiN, by go_num, ?_, HBI.out.setCell (by simp) _, HKO.out.trans (KeepsOthers.setCell _ _ _)⟩
              rw [← upTo_step, HYY.out, List.map_set]; exact HG.out.set _
            case measure => simp [intOf]; omega
          · obtain rfl : i = N := by omega
            have hg := HG.out
            rw [upTo_all] at hg
            have hrl : (rowU i D bs q j).length = i := rowU_length _ _ _ _ _
            have hO := HV'.out.lt
            have hbase : W0.heap.size ≤ wj.heap.size := by have := HKF.out.size; have := HBEL.out.size; have := HKP.out.1.size; exact Nat.le_trans (by assumption) (by assumption)
            have hOi : Boxed wi w2.heap.size 27 v' := box_below HV'.out HBI.out hO
            have hcO : wi.cell? ⟨w2.heap.size, 0, none⟩ = some v' := hOi.cell
            have hROW : IsRow wi wi.heap.size v'.ownBlock (.slice (some ⟨wj.heap.size, 0, none⟩) i i) (rowU i D bs q j) := by
              have := IsRow.of_blk (o := v'.ownBlock) (c := i) (bs := rowU i D bs q j) hg hg.lt (HOWN'.out.own.new (Nat.le_refl _)) (by rw [hrl]; exact Nat.le_refl _) (by simp only [maxLen]; omega)
              rwa [hrl] at this
            have HROW := bx hROW
            have HFROM := bx (show RowFrom W0.heap.size (.slice (some ⟨wj.heap.size, 0, none⟩) i i) (rowU i D bs q j) from fun _ ad n c e => by cases e; exact hbase)
            have HOW := bx (HOWN'.out.keep HBI.out)
            have HOB := bx hOi
            have HBASE := bx hbase
            have HLEN9 := bx (show (old ++ (List.range j).map (rowU i D bs q)).length ≤ 1000000000 by have := HOL.out; have := HS65.out; rw [List.length_append, List.length_map, List.length_range]; have := HD.out; omega)
            have HBASE2 := bx (Nat.le_trans hbase HBI.out.size)
            clear hg hrl hbase hOi hROW
            gi_wp2_with (refine ap_lst_in rfl _ _ rfl W0.heap.size _ _ rfl HOW.out _ 1 rfl HROW.out HFROM.out HLEN9.out HBASE2.out ?_; intro v5 w5 hown5 hb5 hko5 h15; obtain ⟨g5, l5, c5, rfl⟩ := hown5.form (by rw [List.length_append, List.length_singleton]; exact Nat.succ_pos _); clear h15; have HO5 := bx hown5; have HB5 := bx hb5; have HK5 := bx hko5; have hc5 : w5.cell? ⟨w2.heap.size, 0, none⟩ = some v' := (box_below HOB.out hb5 (by omega)).cell; have hf5 : w5.frozen? ⟨w2.heap.size, 0, none⟩ = false := (box_below HOB.out hb5 (by omega)).frozen; clear hown5 hb5 hko5)
            go_roundw
            case rel =>
              have hO9 : w2.heap.size < W0.heap.size := by omega
              have hs5 := HB5.out.size
              have hb5 : Blk w5 w2.heap.size 27 [v'] := box_below HOB.out HB5.out hO9
              refine ⟨j + 1, hjD, by go_num, ⟨_, hb5.set _, ?_⟩, ⟨?_, ?_, ?_⟩, ?_⟩
              · rw [List.range_succ, List.map_append, ← List.append_assoc]
                exact HO5.out.set hO9 _ _
              · exact ((HKP.out.1.trans (HBI.out.mono (Nat.le_of_lt hO))).trans (HB5.out.mono (Nat.le_of_lt hO9))).setCell (Nat.le_refl _) _
              · rw [heap_setCell_other _ _ _ _ (by simp; omega), HB5.out.block _ (by omega), HBI.out.block _ (by have := HBASE.out; omega)]; exact HKP.out.2.1
              · rw [heap_setCell_other _ _ _ _ (by simp; omega), HB5.out.block _ (by omega), HBI.out.block _ (by have := HBASE.out; omega)]; exact HKP.out.2.2
              · exact HKF.out.trans (((HKO.out.trans HK5.out).trans (KeepsOthers.setCell _ _ _)).from _)
            case measure => simp [intOf]; omega
      · obtain rfl : j = D := by omega
        have hge : d ≤ (j : Int) := by have := HD.out; omega
        gi_wp2
        refine ⟨HKF.out, HKP.out, ⟨_, HV'.out, ?_⟩, HBEL.out.trans HKP.out.1, ?_⟩
        · have h := HOWN'.out
          rw [List.flatMap_append, HOLD.out, List.flatMap_singleton, HQ.out]
          exact h
        · rw [List.length_append, List.length_singleton]; exact hlt
  case done =>
    rintro D' ys W hD' rfl ⟨⟨v, hv, hown⟩, hbel, _⟩ hK
    have hcO : W.cell? ⟨w2.heap.size, 0, none⟩ = some v := hv.cell
    have HOWN := bx hown
    have HBEL := bx hbel
    clear hv hown hbel
    gi_wp2
    refine ⟨by simp, .inl ⟨_, _, rfl, run_takeDeferred hK, ?_⟩⟩
    have hlst := (HOWN.out.kept (grownBy_putObj' W D' (.deferred none)) (fun r e => by cases e; exact ⟨_, hK, rfl⟩)).own.lst
    rw [flat_mod] at hlst
    exact ⟨_, results_tmp2 rfl _ _ _, ⟨_, rfl, hlst, (hwW.trans (HBEL.out.mono hwO)).trans (belowK_b (w := W0) hwW.size W D' _ _ hD' hK rfl rfl)⟩⟩
  case stop =>
    rintro D' c pre W _ _ h _
    exact h.elim
end Go.Proofs.Ytkjaonlelkfhaaa

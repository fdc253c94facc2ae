/- The walk of the law LanesOwn. -/
import Derived.Test.YtcbkdlhmemibpaaLaw03E
namespace Go.Proofs.Ytcbkdlhmemibpaa
open Go.RowKit Gf Bt

theorem laneL (p : List UInt64) (x0 x1 x2 x3 x4 x5 x6 x7 : UInt64) (h : p = [x0, x1, x2, x3, x4, x5, x6, x7]) (n : Nat) (w : World) :
    Calls Try.prog 13 #[.agg #[W64 x0, W64 x1, W64 x2, W64 x3, W64 x4, W64 x5, W64 x6, W64 x7], .int .i64 (n : Int)] w fun e w' => e = .returned (B8 (lane p n)) ∧ Below w.heap.size w w' := by
  have := lane_any p (by rw [h]; rfl) n w
  rw [laneI_nat, arr8 h] at this
  exact this
/-- The lanes of p, one of them turned. -/
def turned (p : List UInt64) (n : Nat) (b : UInt8) : List UInt64 := pack ((lanes p).set n b)
theorem turned_length (p : List UInt64) (n : Nat) (b : UInt8) : (turned p n b).length = 8 := pack_length _
theorem lane_turned (p : List UInt64) (n : Nat) (b : UInt8) {k : Nat} (hk : k < 64) : lane (turned p n b) k = if k = n then b else lane p k := by
  unfold turned
  rw [lane_pack _ hk, List.getD_eq_getElem?_getD, List.getElem?_set]
  by_cases h : n = k
  · subst h; rw [if_pos rfl, lanes_length, if_pos hk]; simp
  · rw [if_neg h, lanes_get p hk, if_neg (fun e => h e.symm)]; rfl
theorem pack_turned (A : Option Addr) (cap : Nat) (p : List UInt64) (m : Nat) (b : UInt8) (w : World) (hRd : Rd w w.heap.size A (((lanes p).set m b).map B8)) (hcap : 64 ≤ cap) :
    Calls Try.prog 11 #[.slice A 64 cap] w fun e w' => e = .returned (.agg ((turned p m b).map W64).toArray) ∧ Below w.heap.size w w' :=
  pack_n A ((lanes p).set m b) 64 cap (by rw [List.length_set, lanes_length]) w hRd hcap (by decide)
theorem mul_turned (T q Y : List UInt64) (hT : T.length = 8) (y0 y1 y2 y3 y4 y5 y6 y7 : UInt64) (h2 : q = [y0, y1, y2, y3, y4, y5, y6, y7]) (hY : mulP T q = Y) (w : World) :
    Calls Try.prog 12 #[.agg (T.map W64).toArray, .agg #[W64 y0, W64 y1, W64 y2, W64 y3, W64 y4, W64 y5, W64 y6, W64 y7]] w fun e w' => e = .returned (.agg (Y.map W64).toArray) ∧ Below w.heap.size w w' := by
  subst hY; exact mulTL T q hT y0 y1 y2 y3 y4 y5 y6 y7 h2 w
theorem own_other (p q : List UInt64) (hp : p.length = 8) (hq : q.length = 8) (n k : Nat) (b : UInt8) (hk : k < 64) (h : k ≠ n) : lane (mulP p q) k = lane (mulP (turned p n b) q) k := by
  rw [lane_mulP p q hp hq hk, lane_mulP _ q (turned_length ..) hq hk, lane_turned _ _ _ hk, if_neg h]
theorem own_at (p q : List UInt64) (hq : q.length = 8) (n : Nat) (b : UInt8) (hn : n < 64) : lane (mulP (turned p n b) q) n = gmul b (lane q n) := by
  rw [lane_mulP _ q (turned_length ..) hq hn, lane_turned _ _ _ hn, if_pos rfl]
set_option linter.unusedSimpArgs false in
set_option maxRecDepth 100000 in
set_option maxHeartbeats 1000000 in
theorem own_any (p q : List UInt64) (hp : p.length = 8) (hq : q.length = 8) (n b : UInt8) (w : World) :
    Calls Try.prog 4 #[.agg (p.map W64).toArray, .agg (q.map W64).toArray, B8 n, B8 b] w fun e w' => e = .returned (.bool true) ∧ Below w.heap.size w w' := by
  obtain ⟨y0, y1, y2, y3, y4, y5, y6, y7, hy⟩ := list8 q hq
  have HP := bx hp
  have HQ := bx hq
  have HY := bx hy
  clear hp hq hy
  have hn := n.toNat_lt
  obtain ⟨m, hm⟩ : ∃ m, n.toNat % 64 = m := ⟨_, rfl⟩
  have hm64 : m < 64 := by omega
  have hmi : ((n.toNat : Int)).tmod 64 = (m : Int) := by rw [Int.tmod_eq_emod_of_nonneg (by omega)]; omega
  have hmi2 : ((n.toNat : Int)) % 64 = (m : Int) := by omega
  have HM := bx hm
  clear hm
  go_enter Try.func4, Try.ntmps4
  go_upto_region 6 with ((first
    | (refine ld_arr rfl 24 _ rfl (w.heap.size) rfl _ _ _ _ ((Blk.new w 24 (p.map W64)).alloc _) Try.underlying24 (planes_info _ HP.out) ?_)
    | (go_at_call 10; refine (unpack_any p HP.out _).mono ?_; rintro e w1 ⟨g, rfl, hg, hbg, hb1⟩
       have H1 := bx (Blk.below ((Blk.new w 24 (p.map W64)).alloc _) hb1 (by simp; omega))
       have H2 := bx (Blk.below (blk_new1 w _ 24 (q.map W64)) hb1 (by simp))
       have HG := bx hbg
       have HL := bx ((((Below.refl w.heap.size w).alloc (Nat.le_refl _) _).alloc (by simp) _).trans (hb1.mono (by simp; omega)))
       have hg2 : w.heap.size + 2 ≤ g := by simpa using hg
       have hg3 := hbg.lt
       have hcell : w1.cell? ⟨g, m, none⟩ = some (B8 (lane p m)) := hbg.cell (by rw [List.getElem?_map, lanes_get p hm64]; rfl)
       have hfz : w1.frozen? ⟨g, m, none⟩ = false := hbg.froz
       clear hb1 hbg hg)))
  obtain ⟨w2, hw2⟩ : ∃ w2, w1.setCell ⟨g, m, none⟩ (B8 b) = w2 := ⟨_, rfl⟩
  have h12 : Put1 g w1 w2 := by rw [← hw2]; exact put1_setCell w1 g m _
  have hg22 : Blk w2 g 5 (((lanes p).set m b).map B8) := by rw [← hw2, List.map_set]; exact HG.out.set _
  have H1 := bx (h12.blk H1.out (by omega))
  have H2 := bx (h12.blk H2.out (by omega))
  have HG := bx hg22
  have HL := bx (h12.bel HL.out (by omega))
  have hs12 := h12.size
  have hsl2 : w1.heap.size ≤ w2.heap.size := by omega
  rw [hw2]
  clear h12 hg22 hw2 hcell hfz
  go_upto_region 7 with ((first
    | (refine ld_arr rfl 24 _ rfl (w.heap.size) rfl _ _ _ _ H1.out Try.underlying24 (planes_info _ HP.out) ?_)
    | (refine ld_arr rfl 24 _ rfl (w.heap.size + 1) rfl _ _ _ _ H2.out Try.underlying24 (planes_info _ HQ.out) ?_)
    | (go_at_call 12; refine (mul_any p q HP.out HQ.out _).mono ?_; rintro e w3 ⟨rfl, hb3⟩
       have H2 := bx (H2.out.below hb3 (by omega))
       have HG := bx (HG.out.below hb3 (by omega))
       have HL := bx (HL.out.trans (hb3.mono HL.out.size))
       have hs3 := hb3.size
       clear hb3)
    | (refine st_arr rfl 24 _ _ rfl w3.heap.size ((mulP p q).map W64) rfl rfl _ _ (Blk.new w3 24 (List.replicate 8 (W64 0))) (planes_info _ (mulP_length p q)) (by rw [List.length_replicate, List.length_map, mulP_length]) (w64_one _) ?_; intro w4 hb4 hp4
       have H2 := bx (hp4.blk (H2.out.alloc _) (by omega))
       have HG := bx (hp4.blk (HG.out.alloc _) (by omega))
       have HL := bx (hp4.bel (HL.out.alloc HL.out.size _) (by omega))
       have HA := bx hb4
       have hs4 : w3.heap.size < w4.heap.size := by rw [hp4.size]; simp
       clear hb4 hp4)))
  obtain ⟨Y, hY⟩ : ∃ Y, mulP (turned p m b) q = Y := ⟨_, rfl⟩
  have hYl : Y.length = 8 := by rw [← hY]; exact mulP_length _ _
  have HYE := bx hY
  have HYL := bx hYl
  clear hY hYl
  dsimp only [Act.put]
  go_cut [12] (fun y w' => ∃ g2, y = .pointer (some ⟨g2, 0, none⟩) ∧ Blk w' g2 24 (Y.map W64) ∧ Blk w' w3.heap.size 24 ((mulP p q).map W64) ∧
    Blk w' (w.heap.size + 1) 24 (q.map W64) ∧ Below w.heap.size w w')
  case first =>
    have HSc : Bx (Below w4.heap.size w4 w4.drew) := bx (Below.refl _ _).drew
    refine wp_region_noPanic ?_
    refine wp_region_held_drew (S := fun w' => Below w4.heap.size w4 w') (by kernel_rfl) HSc.out (fun hHeld => ?_)
    refine wpAnyH_take (i := 0) (v := .slice (some ⟨g, 0, none⟩) 64 64) rfl (by kernel_rfl) (by kernel_rfl) (by kernel_rfl) (fun _ _ _ h => h) (Or.inl ⟨by rfl, fun w _ => by go_simp⟩) hHeld ?_
    try simp only [Act.put, List.setIfInBounds_toArray, List.set_cons_zero, List.set_cons_succ]
    refine wpAnyH_take (i := 2) (v := .agg (q.map W64).toArray) rfl (by kernel_rfl) (by kernel_rfl) (by kernel_rfl) (fun _ _ _ h => h) (yields_arr (by rfl) 24 _ rfl (w.heap.size + 1) rfl 24 (q.map W64) 8 22 (fun w' h => H2.out.below h (by omega)) Try.underlying24 (planes_info q HQ.out)) hHeld ?_
    try simp only [Act.put, List.setIfInBounds_toArray, List.set_cons_zero, List.set_cons_succ]
    refine wpAnyH_ready (rs := [1, 4]) (by kernel_rfl) (by simp) ?_
    refine AllReadyH.cons rfl (fun K hK => ?_) (AllReadyH.cons rfl (fun K hK => ?_) AllReadyH.nil)
    · skip
      rw [if_pos (by rfl)]
      try go_simp
      refine (pack_turned _ 64 p m b _ (Rd.of_blk (HG.out.below HSc.out (by omega)) (by have := HSc.out.size; simp at this ⊢; omega)) (by decide)).mono ?_
      rintro e w5 ⟨rfl, hb5⟩
      have HS5 : Bx (Below w4.heap.size w4 w5) := bx (HSc.out.trans (hb5.mono HSc.out.size))
      have hs5 := HS5.out.size
      try go_simp
      refine hK.out _ _ HS5.out (fun _ => ?_)
      clear hK K
      try simp only [Act.put, List.setIfInBounds_toArray, List.set_cons_zero, List.set_cons_succ]
      refine wpAnyH_ready (rs := [3, 4]) (by kernel_rfl) (by simp) ?_
      refine AllReadyH.cons rfl (fun K hK => ?_) (AllReadyH.cons rfl (fun K hK => ?_) AllReadyH.nil)
      · skip
        rw [if_pos (by rfl)]
        try go_simp
        refine (mul_any (turned p m b) q (turned_length p m b) HQ.out _).mono ?_
        rintro e w6 ⟨rfl, hb6⟩
        rw [HYE.out]
        have HS6 : Bx (Below w4.heap.size w4 w6) := bx (HS5.out.trans (hb6.mono HS5.out.size))
        have hs6 := HS6.out.size
        try go_simp
        refine hK.out _ _ HS6.out (fun _ => ?_)
        clear hK K
        try simp only [Act.put, List.setIfInBounds_toArray, List.set_cons_zero, List.set_cons_succ]
        refine wpAnyH_ready (rs := [4]) (by kernel_rfl) (by simp) ?_
        refine AllReadyH.cons rfl (fun K hK => ?_) AllReadyH.nil
        rw [if_pos (by rfl)]
        try go_simp
        refine hK.out _ _ (HS6.out.alloc HS6.out.size _) (fun _ => ?_)
        clear hK K
        try simp only [Act.put, List.setIfInBounds_toArray, List.set_cons_zero, List.set_cons_succ]
        refine wpAnyH_ready (rs := [5]) (by kernel_rfl) (by simp) ?_
        refine AllReadyH.cons rfl (fun K hK => ?_) AllReadyH.nil
        rw [if_pos (by rfl)]
        refine stw_arr 24 _ _ rfl _ (Y.map W64) rfl rfl _ _ (Blk.new _ 24 (List.replicate 8 (W64 0))) (planes_info Y HYL.out) (by rw [List.length_replicate, List.length_map, HYL.out]) (w64_one _) ?_
        intro w7 hb7 hp7
        have HS7 : Bx (Below w4.heap.size w4 w7) := bx (hp7.bel (HS6.out.alloc HS6.out.size _) (by first | omega | (simp; done) | (simp at *; omega)))
        refine hK.out _ _ HS7.out (fun _ => ?_)
        clear hK K
        try simp only [Act.put, List.setIfInBounds_toArray, List.set_cons_zero, List.set_cons_succ]
        refine wpAnyH_done (by kernel_rfl) ?_ _
        refine NoPanic.normal ?_
        go_step
        go_step
        go_meet
        exact ⟨_, rfl, hb7, HA.out.below HS7.out (by omega), H2.out.below HS7.out (by omega), HL.out.trans (HS7.out.mono (by have := HL.out.size; omega))⟩
      · skip
        rw [if_pos (by rfl)]
        try go_simp
        refine hK.out _ _ (HS5.out.alloc HS5.out.size _) (fun _ => ?_)
        clear hK K
        try simp only [Act.put, List.setIfInBounds_toArray, List.set_cons_zero, List.set_cons_succ]
        refine wpAnyH_ready (rs := [3]) (by kernel_rfl) (by simp) ?_
        refine AllReadyH.cons rfl (fun K hK => ?_) AllReadyH.nil
        rw [if_pos (by rfl)]
        try go_simp
        refine (mul_any (turned p m b) q (turned_length p m b) HQ.out _).mono ?_
        rintro e w6 ⟨rfl, hb6⟩
        rw [HYE.out]
        have HS6 : Bx (Below w4.heap.size w4 w6) := bx ((HS5.out.alloc HS5.out.size _).trans (hb6.mono (HS5.out.alloc HS5.out.size _).size))
        have hs6 := HS6.out.size
        have HZ : Bx (Blk w6 w5.heap.size 24 (List.replicate 8 (W64 0))) := bx (Blk.below (Blk.new w5 24 (List.replicate 8 (W64 0))) hb6 (by simp))
        try go_simp
        refine hK.out _ _ HS6.out (fun _ => ?_)
        clear hK K
        try simp only [Act.put, List.setIfInBounds_toArray, List.set_cons_zero, List.set_cons_succ]
        refine wpAnyH_ready (rs := [5]) (by kernel_rfl) (by simp) ?_
        refine AllReadyH.cons rfl (fun K hK => ?_) AllReadyH.nil
        rw [if_pos (by rfl)]
        refine stw_arr 24 _ _ rfl _ (Y.map W64) rfl rfl _ _ HZ.out (planes_info Y HYL.out) (by rw [List.length_replicate, List.length_map, HYL.out]) (w64_one _) ?_
        intro w7 hb7 hp7
        have HS7 : Bx (Below w4.heap.size w4 w7) := bx (hp7.bel HS6.out (by first | omega | (simp; done) | (simp at *; omega)))
        refine hK.out _ _ HS7.out (fun _ => ?_)
        clear hK K
        try simp only [Act.put, List.setIfInBounds_toArray, List.set_cons_zero, List.set_cons_succ]
        refine wpAnyH_done (by kernel_rfl) ?_ _
        refine NoPanic.normal ?_
        go_step
        go_step
        go_meet
        exact ⟨_, rfl, hb7, HA.out.below HS7.out (by omega), H2.out.below HS7.out (by omega), HL.out.trans (HS7.out.mono (by have := HL.out.size; omega))⟩
    · skip
      rw [if_pos (by rfl)]
      try go_simp
      refine hK.out _ _ (HSc.out.alloc HSc.out.size _) (fun _ => ?_)
      clear hK K
      try simp only [Act.put, List.setIfInBounds_toArray, List.set_cons_zero, List.set_cons_succ]
      refine wpAnyH_ready (rs := [1]) (by kernel_rfl) (by simp) ?_
      refine AllReadyH.cons rfl (fun K hK => ?_) AllReadyH.nil
      rw [if_pos (by rfl)]
      try go_simp
      refine (pack_turned _ 64 p m b _ (Rd.of_blk (HG.out.below (HSc.out.alloc HSc.out.size _) (by omega)) (Nat.lt_of_lt_of_le (by omega : g < w4.heap.size) (HSc.out.alloc HSc.out.size _).size)) (by decide)).mono ?_
      rintro e w5 ⟨rfl, hb5⟩
      have HS5 : Bx (Below w4.heap.size w4 w5) := bx ((HSc.out.alloc HSc.out.size _).trans (hb5.mono (HSc.out.alloc HSc.out.size _).size))
      have HZ5 : Bx (Blk w5 w4.heap.size 24 (List.replicate 8 (W64 0))) := bx (Blk.below (Blk.new w4.drew 24 (List.replicate 8 (W64 0))) hb5 (by simp))
      have hs5 := HS5.out.size
      try go_simp
      refine hK.out _ _ HS5.out (fun _ => ?_)
      clear hK K
      try simp only [Act.put, List.setIfInBounds_toArray, List.set_cons_zero, List.set_cons_succ]
      refine wpAnyH_ready (rs := [3]) (by kernel_rfl) (by simp) ?_
      refine AllReadyH.cons rfl (fun K hK => ?_) AllReadyH.nil
      rw [if_pos (by rfl)]
      try go_simp
      refine (mul_any (turned p m b) q (turned_length p m b) HQ.out _).mono ?_
      rintro e w6 ⟨rfl, hb6⟩
      rw [HYE.out]
      have HS6 : Bx (Below w4.heap.size w4 w6) := bx (HS5.out.trans (hb6.mono HS5.out.size))
      have hs6 := HS6.out.size
      have HZ := bx (HZ5.out.below hb6 HZ5.out.lt)
      try go_simp
      refine hK.out _ _ HS6.out (fun _ => ?_)
      clear hK K
      try simp only [Act.put, List.setIfInBounds_toArray, List.set_cons_zero, List.set_cons_succ]
      refine wpAnyH_ready (rs := [5]) (by kernel_rfl) (by simp) ?_
      refine AllReadyH.cons rfl (fun K hK => ?_) AllReadyH.nil
      rw [if_pos (by rfl)]
      refine stw_arr 24 _ _ rfl _ (Y.map W64) rfl rfl _ _ HZ.out (planes_info Y HYL.out) (by rw [List.length_replicate, List.length_map, HYL.out]) (w64_one _) ?_
      intro w7 hb7 hp7
      have HS7 : Bx (Below w4.heap.size w4 w7) := bx (hp7.bel HS6.out (by first | omega | (simp; done) | (simp at *; omega)))
      refine hK.out _ _ HS7.out (fun _ => ?_)
      clear hK K
      try simp only [Act.put, List.setIfInBounds_toArray, List.set_cons_zero, List.set_cons_succ]
      refine wpAnyH_done (by kernel_rfl) ?_ _
      refine NoPanic.normal ?_
      go_step
      go_step
      go_meet
      exact ⟨_, rfl, hb7, HA.out.below HS7.out (by omega), H2.out.below HS7.out (by omega), HL.out.trans (HS7.out.mono (by have := HL.out.size; omega))⟩
  case rest =>
    obtain ⟨g2, rfl, b1, b2, b3, b4⟩ := hcut
    have HQE : Bx (∀ k, k < 64 → k ≠ m → lane (mulP p q) k = lane Y k) := bx (by rw [← HYE.out]; exact fun k hk h => own_other p q HP.out HQ.out m k b hk h)
    have HAT : Bx (lane Y m = gmul b (lane q m)) := bx (by rw [← HYE.out]; exact own_at p q HQ.out m b hm64)
    have hXl : (mulP p q).length = 8 := mulP_length p q
    clear HG H2 HL HA HYE hmi hmi2 HM hn
    generalize mulP p q = X at *
    obtain ⟨x0, x1, x2, x3, x4, x5, x6, x7, hx8⟩ := list8 X hXl
    obtain ⟨z0, z1, z2, z3, z4, z5, z6, z7, hz8⟩ := list8 Y HYL.out
    have HB := bx b1
    have HA := bx b2
    have HC := bx b3
    have HL := bx b4
    have HXE := bx hx8
    have HZE := bx hz8
    clear b1 b2 b3 b4 hx8 hz8 hXl
    go_wp2
    go_loopw [13] (fun i wr => ∃ k : Nat, k ≤ 64 ∧ i = .int .i64 k ∧ Blk wr g2 24 [W64 z0, W64 z1, W64 z2, W64 z3, W64 z4, W64 z5, W64 z6, W64 z7] ∧ Blk wr w3.heap.size 24 [W64 x0, W64 x1, W64 x2, W64 x3, W64 x4, W64 x5, W64 x6, W64 x7] ∧ Blk wr (w.heap.size + 1) 24 [W64 y0, W64 y1, W64 y2, W64 y3, W64 y4, W64 y5, W64 y6, W64 y7] ∧ Below w.heap.size w wr) (fun i _ => 64 - (intOf i).toNat)
    case atStart => exact ⟨0, by omega, rfl, by have := HB.out; rw [HZE.out] at this; exact this, by have := HA.out; rw [HXE.out] at this; exact this, by have := HC.out; rw [HY.out] at this; exact this, HL.out⟩
    case round =>
      obtain ⟨k, hk, rfl, h1, h2, h3, hbel⟩ := hrel
      obtain ⟨w1, rfl⟩ : ∃ w1, w1 = wr := ⟨_, rfl⟩
      have l1 := h1.lt
      have l2 := h2.lt
      have l3 := h3.lt
      have H1 := bx h1
      have H2 := bx h2
      have H3 := bx h3
      have HL1 := bx hbel
      clear h1 h2 h3 hbel HB HA HC HL
      by_cases hlt : k < 64
      · have hk0 : (0 : Int) ≤ (k : Int) := Int.natCast_nonneg _
        by_cases hkm : k = m
        · subst hkm
          go_upto_region 11 with (fail)
          refine wp_region_ext (w := w1) w1.heap.size (by kernel_rfl) (by kernel_rfl) ?_
          repeat (first | (simp only [bne_self_eq_false]) | go_big_quiet_step (fail))
          refine wpQuiet_nil ?_
          rintro _ ⟨x, rfl⟩
          go_wp2
          go_roundw
          case rel => exact ⟨k + 1, by omega, by go_num, H1.out.below x.bel l1, H2.out.below x.bel l2, H3.out.below x.bel l3, HL1.out.trans (x.bel.mono (by omega))⟩
          case measure => simp [intOf]; omega
        · have hne : ((k : Int) != (m : Int)) = true := by simp; omega
          have hv := HQE.out k hlt hkm
          have hc1 := fun w => laneL X x0 x1 x2 x3 x4 x5 x6 x7 HXE.out k w
          have hc2 := fun w => laneL Y z0 z1 z2 z3 z4 z5 z6 z7 HZE.out k w
          rw [← hv] at hc2
          generalize lane X k = v at *
          have HC1 := bx hc1
          have HC2 := bx hc2
          clear hc1 hc2 hv
          go_upto_region 11 with (fail)
          refine wp_region_ext (w := w1) w1.heap.size (by kernel_rfl) (by kernel_rfl) ?_
          have c0 : ∀ x : Ext w1.heap.size w1, x.w.cell? ⟨g2, 0, none⟩ = some (W64 z0) := ext_cell H1.out l1 rfl
          have c1 : ∀ x : Ext w1.heap.size w1, x.w.cell? ⟨g2, 1, none⟩ = some (W64 z1) := ext_cell H1.out l1 rfl
          have c2 : ∀ x : Ext w1.heap.size w1, x.w.cell? ⟨g2, 2, none⟩ = some (W64 z2) := ext_cell H1.out l1 rfl
          have c3 : ∀ x : Ext w1.heap.size w1, x.w.cell? ⟨g2, 3, none⟩ = some (W64 z3) := ext_cell H1.out l1 rfl
          have c4 : ∀ x : Ext w1.heap.size w1, x.w.cell? ⟨g2, 4, none⟩ = some (W64 z4) := ext_cell H1.out l1 rfl
          have c5 : ∀ x : Ext w1.heap.size w1, x.w.cell? ⟨g2, 5, none⟩ = some (W64 z5) := ext_cell H1.out l1 rfl
          have c6 : ∀ x : Ext w1.heap.size w1, x.w.cell? ⟨g2, 6, none⟩ = some (W64 z6) := ext_cell H1.out l1 rfl
          have c7 : ∀ x : Ext w1.heap.size w1, x.w.cell? ⟨g2, 7, none⟩ = some (W64 z7) := ext_cell H1.out l1 rfl
          have d0 : ∀ x : Ext w1.heap.size w1, x.w.cell? ⟨w3.heap.size, 0, none⟩ = some (W64 x0) := ext_cell H2.out l2 rfl
          have d1 : ∀ x : Ext w1.heap.size w1, x.w.cell? ⟨w3.heap.size, 1, none⟩ = some (W64 x1) := ext_cell H2.out l2 rfl
          have d2 : ∀ x : Ext w1.heap.size w1, x.w.cell? ⟨w3.heap.size, 2, none⟩ = some (W64 x2) := ext_cell H2.out l2 rfl
          have d3 : ∀ x : Ext w1.heap.size w1, x.w.cell? ⟨w3.heap.size, 3, none⟩ = some (W64 x3) := ext_cell H2.out l2 rfl
          have d4 : ∀ x : Ext w1.heap.size w1, x.w.cell? ⟨w3.heap.size, 4, none⟩ = some (W64 x4) := ext_cell H2.out l2 rfl
          have d5 : ∀ x : Ext w1.heap.size w1, x.w.cell? ⟨w3.heap.size, 5, none⟩ = some (W64 x5) := ext_cell H2.out l2 rfl
          have d6 : ∀ x : Ext w1.heap.size w1, x.w.cell? ⟨w3.heap.size, 6, none⟩ = some (W64 x6) := ext_cell H2.out l2 rfl
          have d7 : ∀ x : Ext w1.heap.size w1, x.w.cell? ⟨w3.heap.size, 7, none⟩ = some (W64 x7) := ext_cell H2.out l2 rfl
          repeat (first | (simp only [hne]) | go_big_quiet_step ((go_at_call 13; first | with_reducible exact ext_call (Nat.le_refl _) (HC1.out _) | with_reducible exact ext_call (Nat.le_refl _) (HC2.out _))))
          refine wpQuiet_nil ?_
          rintro _ ⟨x, rfl⟩
          go_wp2
          go_roundw
          case rel => exact ⟨k + 1, by omega, by go_num, H1.out.below x.bel l1, H2.out.below x.bel l2, H3.out.below x.bel l3, HL1.out.trans (x.bel.mono (by omega))⟩
          case measure => simp [intOf]; omega
      · obtain rfl : k = 64 := by omega
        clear hlt
        go_wp2
        have hc1 := fun w => laneL Y z0 z1 z2 z3 z4 z5 z6 z7 HZE.out m w
        have hc2 := fun w => laneL q y0 y1 y2 y3 y4 y5 y6 y7 HY.out m w
        rw [HAT.out] at hc1
        have HC1 := bx hc1
        have HC2 := bx hc2
        clear hc1 hc2
        refine wp_region_ext (w := w1) w1.heap.size (by kernel_rfl) (by kernel_rfl) ?_
        have c0 : ∀ x : Ext w1.heap.size w1, x.w.cell? ⟨g2, 0, none⟩ = some (W64 z0) := ext_cell H1.out l1 rfl
        have c1 : ∀ x : Ext w1.heap.size w1, x.w.cell? ⟨g2, 1, none⟩ = some (W64 z1) := ext_cell H1.out l1 rfl
        have c2 : ∀ x : Ext w1.heap.size w1, x.w.cell? ⟨g2, 2, none⟩ = some (W64 z2) := ext_cell H1.out l1 rfl
        have c3 : ∀ x : Ext w1.heap.size w1, x.w.cell? ⟨g2, 3, none⟩ = some (W64 z3) := ext_cell H1.out l1 rfl
        have c4 : ∀ x : Ext w1.heap.size w1, x.w.cell? ⟨g2, 4, none⟩ = some (W64 z4) := ext_cell H1.out l1 rfl
        have c5 : ∀ x : Ext w1.heap.size w1, x.w.cell? ⟨g2, 5, none⟩ = some (W64 z5) := ext_cell H1.out l1 rfl
        have c6 : ∀ x : Ext w1.heap.size w1, x.w.cell? ⟨g2, 6, none⟩ = some (W64 z6) := ext_cell H1.out l1 rfl
        have c7 : ∀ x : Ext w1.heap.size w1, x.w.cell? ⟨g2, 7, none⟩ = some (W64 z7) := ext_cell H1.out l1 rfl
        have d0 : ∀ x : Ext w1.heap.size w1, x.w.cell? ⟨w.heap.size + 1, 0, none⟩ = some (W64 y0) := ext_cell H3.out l3 rfl
        have d1 : ∀ x : Ext w1.heap.size w1, x.w.cell? ⟨w.heap.size + 1, 1, none⟩ = some (W64 y1) := ext_cell H3.out l3 rfl
        have d2 : ∀ x : Ext w1.heap.size w1, x.w.cell? ⟨w.heap.size + 1, 2, none⟩ = some (W64 y2) := ext_cell H3.out l3 rfl
        have d3 : ∀ x : Ext w1.heap.size w1, x.w.cell? ⟨w.heap.size + 1, 3, none⟩ = some (W64 y3) := ext_cell H3.out l3 rfl
        have d4 : ∀ x : Ext w1.heap.size w1, x.w.cell? ⟨w.heap.size + 1, 4, none⟩ = some (W64 y4) := ext_cell H3.out l3 rfl
        have d5 : ∀ x : Ext w1.heap.size w1, x.w.cell? ⟨w.heap.size + 1, 5, none⟩ = some (W64 y5) := ext_cell H3.out l3 rfl
        have d6 : ∀ x : Ext w1.heap.size w1, x.w.cell? ⟨w.heap.size + 1, 6, none⟩ = some (W64 y6) := ext_cell H3.out l3 rfl
        have d7 : ∀ x : Ext w1.heap.size w1, x.w.cell? ⟨w.heap.size + 1, 7, none⟩ = some (W64 y7) := ext_cell H3.out l3 rfl
        repeat (go_big_quiet_step ((first
          | (go_at_call 9; exact ext_call (Nat.le_refl _) (known03 _))
          | (go_at_call 14; exact ext_same (ref_mul b (lane q m) _))
          | (go_at_call 13; first | with_reducible exact ext_call (Nat.le_refl _) (HC1.out _) | with_reducible exact ext_call (Nat.le_refl _) (HC2.out _)))))
        refine wpQuiet_nil ?_
        rintro _ ⟨x, rfl⟩
        go_wp2
        go_ret
        exact ⟨rfl, HL1.out.trans (x.bel.mono (by omega))⟩
end Go.Proofs.Ytcbkdlhmemibpaa

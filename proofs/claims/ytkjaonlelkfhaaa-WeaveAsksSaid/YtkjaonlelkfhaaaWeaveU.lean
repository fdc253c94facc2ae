/- The walks of layer 21, twenty-one: the law WeaveAsks. -/
import Derived.Test.YtkjaonlelkfhaaaAsks21
namespace Go.Proofs.Ytkjaonlelkfhaaa
open Go.RowKit Gf Bt

theorem bstep {B w' w'' : World} (hb : Below w'.heap.size w' w'') (h : Below B.heap.size B w') : Below B.heap.size B w'' := h.trans (hb.mono h.size)
theorem balloc {B w' : World} {o : Obj} (h : Below B.heap.size B w') : Below B.heap.size B (w'.alloc o) := h.alloc h.size _
theorem run_mk3 {K : Nat} (hK : K ≤ 100000) (W : World) : (Instr.makeSlice 22 (.int .i64 (K : Int)) (.int .i64 (K : Int))).run Try.prog W = .ok (.slice (some ⟨W.heap.size, 0, none⟩) K K) (W.alloc (.cells (Zs K (.int .u8 0)).toArray 5)) := by
  obtain ⟨i0, hi0, h1, h2, h3⟩ := info_parts bytes_info
  have hm := run_make (P := Try.prog) W 22 5 i0 (.int .u8 0) Try.underlying22 hi0 h1 .i64 .i64 K K (by omega) (by omega) (by rw [h3]; omega) (by omega)
  have e1 : madeCells (Value.int .u8 0).cells ((K : Int).toNat * i0.size) = (Zs K (.int .u8 0)).toArray := by
    rw [show (Value.int .u8 0).cells = #[.int .u8 0] from rfl, h2, Int.toNat_natCast, Nat.mul_one]
    apply Array.ext
    · simp [madeCells, Zs]
    · intro j h1 h2; simp [madeCells, Zs, Nat.mod_one]
  rwa [e1, Int.toNat_natCast] at hm
theorem iw {a : Nat} (h : a ≤ 100000) : IntKind.i64.wrap (a : Int) = (a : Int) := by simp only [IntKind.wrap, IntKind.bits, IntKind.signed]; simp; omega
theorem iw_mul {a b c : Nat} (h : a * b = c) (hc : c ≤ 100000) : IntKind.i64.wrap ((a : Int) * (b : Int)) = (c : Int) := by rw [← Int.natCast_mul, h]; exact iw hc
theorem tm {a : Nat} {m : Int} : ((a : Nat) : Int).tmod m = (a : Int) % m := by rw [Int.tmod_eq_emod_of_nonneg (Int.natCast_nonneg _)]
theorem iw_seven {a : Nat} (h : a ≤ 255) : IntKind.i64.wrap ((a : Int) * 7) = ((a * 7 : Nat) : Int) := by rw [show (a : Int) * 7 = ((a * 7 : Nat) : Int) by omega]; exact iw (by omega)
set_option maxRecDepth 100000 in
set_option maxHeartbeats 4000000 in
theorem law_wasks (cn ck cb d at_ i : Int) (A : Option Addr) (s : List UInt8) (cap : Nat) (vl : Value) (xs : List (List UInt8)) (n k b e : UInt8) (w : World) (hRd : Rd w w.heap.size A (s.map B8)) (hcap : s.length ≤ cap) (hmax : cap ≤ maxLen) (hl : IsLst w w.heap.size vl xs) (h1 : -9223372036854775808 ≤ at_) (h2 : at_ < 9223372036854775808) :
    Calls Try.prog 8 #[C3 cn ck cb, .int .i64 d, .slice A s.length cap, vl, .int .i64 at_, .int .i64 i, B8 n, B8 k, B8 b, B8 e] w fun r w' => r = .returned (.bool true) ∧ Below w.heap.size w w' := by
  have HROW : Bx (IsRow w w.heap.size none (.slice A s.length cap) s) := bx ⟨A, cap, rfl, hcap, hmax, hRd, fun _ _ _ => by simp⟩
  have HRD := bx hRd
  have HL := bx hl
  have HLE := bx h1
  have HLT := bx h2
  have hxl : xs.length ≤ 9223372036854775807 := hl.len
  obtain ⟨Av, cv, rfl, hcv, hcv2⟩ := hl.form
  have hsl : s.length ≤ 9223372036854775807 := Nat.le_trans hcap (by simpa [maxLen] using hmax)
  have hslz : (s.length : Int) ≤ 9223372036854775807 := Int.ofNat_le.2 hsl
  have hsl0 : (0 : Int) ≤ (s.length : Int) := Int.natCast_nonneg _
  obtain ⟨N, K, B, hN2, hN22, hK1, hKN, hB, hcode⟩ := lawcode31 n k b
  obtain ⟨D, hD1, hD66, hdepth⟩ := depth_any e
  have HCODE := bx hcode
  have HDEPTH := bx hdepth
  have HCAP := bx hcap
  clear hcode hdepth hl hRd hmax hcv2 h1 h2 hcap hcv
  go_enter Try.func8, Try.ntmps8
  go_upto_region 3 with fail
  obtain ⟨w0, hw0⟩ : ∃ w0, w.alloc (Obj.cells #[.int .i64 cn, .int .i64 ck, .int .i64 cb] 24) = w0 := ⟨_, rfl⟩
  have HC : Bx (Blk w0 w.heap.size 24 [.int .i64 cn, .int .i64 ck, .int .i64 cb]) := bx (by rw [← hw0]; exact Blk.new w _ _)
  have HB : Bx (Below w.heap.size w w0) := bx (by rw [← hw0]; exact (Below.refl _ _).alloc (Nat.le_refl _) _)
  rw [hw0]
  clear hw0
  go_wp2_with fail
  go_loopw [21, 22] (fun t i wr => ∃ (a : Nat) (T : Int), a ≤ xs.length ∧ i = .int .i64 a ∧ t = .int .i64 T ∧ ((a = 0 ∧ T = s.length) ∨ s.length ≤ 400) ∧ (Giant xs ∨ ((s.length + a : Nat) : Int) ≤ T) ∧ wr = w0) (fun _ i _ => xs.length - (intOf i).toNat)
  case atStart => exact ⟨0, s.length, Nat.zero_le _, rfl, rfl, .inl ⟨rfl, rfl⟩, .inr (Int.le_refl _), rfl⟩
  case round =>
    obtain ⟨a, T, ha, rfl, rfl, hT, hT2, rfl⟩ := hrel
    have ha0 : (0 : Int) ≤ (a : Int) := Int.natCast_nonneg _
    have HT := bx hT
    have HT2 := bx hT2
    clear hT hT2
    by_cases hgo : a < xs.length ∧ T ≤ 400
    · obtain ⟨hlt, hT4⟩ := hgo
      have hltz : (a : Int) < (xs.length : Int) := Int.ofNat_lt.2 hlt
      have hs4 : s.length ≤ 400 := by
        rcases HT.out with ⟨_, h⟩ | h
        · rw [h] at hT4; exact Int.ofNat_le.1 hT4
        · exact h
      have HS4 := bx hs4
      obtain ⟨x, hx⟩ : ∃ x, xs[a]? = some x := ⟨_, List.getElem?_eq_getElem hlt⟩
      obtain ⟨adv, Xr, cr, rfl, habv, hcv', r1, r2, r3⟩ := HL.out.get hx
      have hcw : wr.cell? (adv.add a) = some (.slice Xr x.length cr) := by rw [HB.out.cell (by rw [block_of_add]; exact habv)]; exact hcv'
      have hmem := List.mem_of_getElem? hx
      have HXL := bx (show Giant xs ∨ (x.length ≤ 255) from by
        by_cases h : x.length ≤ 255
        · exact .inr h
        · exact .inl ⟨x, hmem, Nat.not_le.1 h⟩)
      have HGo : Bx (Giant xs ∨ (((s.length + (a + 1) : Nat) : Int) ≤ T + (1 + (x.length : Int)) ∧ 0 ≤ T ∧ x.length ≤ 255)) := bx (by
        rcases HXL.out with h | h
        · exact .inl h
        · rcases HT2.out with h2 | h2
          · exact .inl h2
          · exact .inr ⟨by omega, by omega, h⟩)
      clear hx hcv' r1 r2 r3 hmem hs4 hsl hslz
      have hxz : (xs.length : Int) ≤ 9223372036854775807 := Int.ofNat_le.2 hxl
      rcases HGo.out with hG | ⟨hG1, hG2, hG3⟩
      · have HG := bx hG
        clear hG
        go_wp2_with fail
        go_roundw
        case rel => exact ⟨a + 1, _, hlt, by go_num, rfl, .inr HS4.out, .inl HG.out, by first | rfl | trivial⟩
        case measure => simp [intOf]; omega
      · have hxlz : (x.length : Int) ≤ 255 := Int.ofNat_le.2 hG3
        have hxl0 : (0 : Int) ≤ (x.length : Int) := Int.natCast_nonneg _
        have HG1 := bx hG1
        clear hG1 hG3
        go_wp2_with fail
        go_roundw
        case rel => exact ⟨a + 1, _, hlt, by go_num, rfl, .inr HS4.out, .inr HG1.out, by first | rfl | trivial⟩
        case measure => simp [intOf]; omega
    · by_cases hT4 : T ≤ 400
      · have hend : xs.length ≤ 400 ∨ Giant xs := by
          rcases HT2.out with h | h
          · exact .inr h
          · have h3 : ¬ a < xs.length := fun h2 => hgo ⟨h2, hT4⟩
            exact .inl (by omega)
        have hs4 : s.length ≤ 400 := by
          rcases HT.out with ⟨_, h⟩ | h
          · rw [h] at hT4; exact Int.ofNat_le.1 hT4
          · exact h
        have hae : a = xs.length := Nat.le_antisymm ha (Nat.not_lt.1 fun h2 => hgo ⟨h2, hT4⟩)
        subst hae
        have HEND : Bx (xs.length ≤ 100000 ∨ Giant xs) := bx (hend.imp_left fun h => Nat.le_trans h (by decide))
        have HSR : Bx (s.length ≤ 100000) := bx (Nat.le_trans hs4 (by decide))
        have HRK := bx hs4
        clear hend hs4 hslz hgo
        go_wp2_with fail
        refine (known21 _).mono ?_
        rintro e w1 ⟨rfl, hb1⟩
        have HC := bx (HC.out.below hb1 HC.out.lt)
        have HB := bx (HB.out.trans (hb1.mono HB.out.size))
        clear hb1
        go_upto_region 9 with (first
          | (go_at_call 9; refine (HCODE.out _).mono ?_; rintro e w2 ⟨rfl, hb2⟩; have HB2 := bx hb2; clear hb2))
        obtain ⟨w3, hw3⟩ : ∃ w3, w2.alloc (Obj.cells #[.int .i64 N, .int .i64 K, .int .i64 B] 24) = w3 := ⟨_, rfl⟩
        have HO : Bx (Blk w3 w2.heap.size 24 [.int .i64 N, .int .i64 K, .int .i64 B]) := bx (by rw [← hw3]; exact Blk.new w2 _ _)
        have HC : Bx (Blk w3 w.heap.size 24 [.int .i64 cn, .int .i64 ck, .int .i64 cb]) := bx (by rw [← hw3]; exact (HC.out.below HB2.out HC.out.lt).alloc _)
        have HB' := bx (HB.out.trans (HB2.out.mono HB.out.size))
        have HB : Bx (Below w.heap.size w w3) := bx (by rw [← hw3]; exact HB'.out.alloc HB'.out.size _)
        rw [hw3]
        obtain ⟨g, hg⟩ : ∃ g, w2.heap.size = g := ⟨_, rfl⟩
        rw [hg] at HO ⊢
        clear hg hw3 HB' HB2
        obtain ⟨q3, hq3⟩ : ∃ q, e.toNat % 3 = q := ⟨_, rfl⟩
        have hqz : (e.toNat : Int) % 3 = (q3 : Int) := by omega
        obtain ⟨L, hL⟩ : ∃ L, D * q3 = L := ⟨_, rfl⟩
        have hL2 : L ≤ 132 := by rw [← hL]; exact Nat.le_trans (Nat.mul_le_mul hD66 (show q3 ≤ 2 by omega)) (by decide)
        have hLz : IntKind.i64.wrap ((D : Int) * (q3 : Int)) = (L : Int) := iw_mul hL (Nat.le_trans hL2 (by decide))
        have hqw : IntKind.i64.wrap (q3 : Int) = (q3 : Int) := iw (by omega)
        obtain ⟨r9, hr9⟩ : ∃ q, k.toNat % 9 = q := ⟨_, rfl⟩
        have hrz : (k.toNat : Int) % 9 = (r9 : Int) := by omega
        have hr92 : r9 ≤ 8 := by omega
        have hrw : IntKind.i64.wrap (r9 : Int) = (r9 : Int) := iw (by omega)
        obtain ⟨r3, hr3⟩ : ∃ q, k.toNat % 3 = q := ⟨_, rfl⟩
        have hr3z : (k.toNat : Int) % 3 = (r3 : Int) := by omega
        have hr3w : IntKind.i64.wrap (r3 : Int) = (r3 : Int) := iw (by omega)
        obtain ⟨ND, hND⟩ : ∃ q, N * D = q := ⟨_, rfl⟩
        have hND2 : ND ≤ 1452 := by rw [← hND]; exact Nat.le_trans (Nat.mul_le_mul hN22 hD66) (by decide)
        have hNDz : IntKind.i64.wrap ((N : Int) * (D : Int)) = (ND : Int) := iw_mul hND (Nat.le_trans hND2 (by decide))
        obtain ⟨Z, hZ⟩ : ∃ q, ND * r3 = q := ⟨_, rfl⟩
        have hZ2 : Z ≤ 2904 := by rw [← hZ]; exact Nat.le_trans (Nat.mul_le_mul hND2 (show r3 ≤ 2 by omega)) (by decide)
        have hZz : IntKind.i64.wrap ((ND : Int) * (r3 : Int)) = (Z : Int) := iw_mul hZ (Nat.le_trans hZ2 (by decide))
        have hnn : n.toNat ≤ 255 := by have := n.toNat_lt; omega
        have hkn : k.toNat ≤ 255 := by have := k.toNat_lt; omega
        have hbn : b.toNat ≤ 255 := by have := b.toNat_lt; omega
        have hnw : IntKind.i64.wrap (n.toNat : Int) = (n.toNat : Int) := iw (by omega)
        have hkw : IntKind.i64.wrap (k.toNat : Int) = (k.toNat : Int) := iw (by omega)
        have hbw : IntKind.i64.wrap (b.toNat : Int) = (b.toNat : Int) := iw (by omega)
        have hn7 := iw_seven hnn
        obtain ⟨n7, hn77⟩ : ∃ q, n.toNat * 7 = q := ⟨_, rfl⟩
        have hn72 : n7 ≤ 1785 := by omega
        rw [hn77] at hn7
        have hN5 : N ≤ 255 := Nat.le_trans hN22 (by decide)
        clear hq3 hL hr9 hr3 hND hZ hn77
        have E1 : IntKind.i64.wrap ((D : Int) * IntKind.i64.wrap (((e.toNat : Nat) : Int).tmod 3)) = (L : Int) := by rw [tm, hqz, hqw, hLz]
        have E3 : IntKind.i64.wrap (((k.toNat : Nat) : Int).tmod 9) = (r9 : Int) := by rw [tm, hrz, hrw]
        have E4 : IntKind.i64.wrap (IntKind.i64.wrap ((N : Int) * (D : Int)) * IntKind.i64.wrap (((k.toNat : Nat) : Int).tmod 3)) = (Z : Int) := by rw [tm, hr3z, hr3w, hNDz, hZz]
        have E5 : IntKind.i64.wrap (IntKind.i64.wrap ((n.toNat : Nat) : Int) * 7) = (n7 : Int) := by rw [hnw, hn7]
        have hmk : ∀ W : World, (Instr.makeSlice 22 (.int .i64 (IntKind.i64.wrap (IntKind.i64.wrap ((N : Int) * (D : Int)) * IntKind.i64.wrap (((k.toNat : Nat) : Int).tmod 3)))) (.int .i64 (IntKind.i64.wrap (IntKind.i64.wrap ((N : Int) * (D : Int)) * IntKind.i64.wrap (((k.toNat : Nat) : Int).tmod 3))))).run Try.prog W = .ok (.slice (some ⟨W.heap.size, 0, none⟩) Z Z) (W.alloc (.cells (Zs Z (.int .u8 0)).toArray 5)) := fun W => by rw [E4]; exact run_mk3 (Nat.le_trans hZ2 (by decide)) W
        go_wp2_with fail
        refine (HDEPTH.out _).mono ?_
        rintro e4 w' ⟨rfl, hw'⟩
        have hw' := hw'.symm
        subst hw'
        go_wp2_with fail
        have HA : Bx (∀ w', Below w3.heap.size w3 w' → Below w.heap.size w w') := bx fun w' h => HB.out.trans (h.mono HB.out.size)
        have HA1 : Bx (∀ w', Below w3.heap.size w3 w' → Calls Try.prog 20 #[C3 cn ck cb, .int .i64 d, .slice A s.length cap, .slice Av xs.length cv, .int .i64 at_, .int .i64 i] w' fun e w'' => e = .returned (.bool true) ∧ Below w'.heap.size w' w'') := bx fun w' h => asks21 cn ck cb d at_ i _ _ s xs w' ((HROW.out.below (HA.out _ h)).more (HA.out _ h).size) ((HL.out.below (HA.out _ h)).more (HA.out _ h).size) HSR.out HEND.out HLE.out HLT.out
        have HA3 : Bx (∀ w', Below w3.heap.size w3 w' → Calls Try.prog 20 #[C3 N K B, .int .i64 D, .slice A s.length cap, .slice Av xs.length cv, .int .i64 at_, .int .i64 i] w' fun e w'' => e = .returned (.bool true) ∧ Below w'.heap.size w' w'') := bx fun w' h => asks21 N K B D at_ i _ _ s xs w' ((HROW.out.below (HA.out _ h)).more (HA.out _ h).size) ((HL.out.below (HA.out _ h)).more (HA.out _ h).size) HSR.out HEND.out HLE.out HLT.out
        have HA2 : Bx (∀ w' v, Below w3.heap.size w3 w' → IsLst w' w'.heap.size v (wordsL N s L) → Calls Try.prog 20 #[C3 N K B, .int .i64 D, .slice A s.length cap, v, .int .i64 (IntKind.i64.wrap (n.toNat : Int)), .int .i64 (IntKind.i64.wrap (k.toNat : Int))] w' fun e w'' => e = .returned (.bool true) ∧ Below w'.heap.size w' w'') := bx fun w' v h hv => by rw [hnw, hkw]; exact asks21 N K B D n.toNat k.toNat _ v s (wordsL N s L) w' ((HROW.out.below (HA.out _ h)).more (HA.out _ h).size) hv HSR.out (.inl (by rw [wordsL_length]; exact Nat.le_trans hL2 (by decide))) (by omega) (by omega)
        have HA4 : Bx (∀ w' v, Below w3.heap.size w3 w' → IsLst w' w'.heap.size v (wordsL N s r9) → Calls Try.prog 20 #[C3 N K B, .int .i64 d, .slice A s.length cap, v, .int .i64 at_, .int .i64 (IntKind.i64.wrap (b.toNat : Int))] w' fun e w'' => e = .returned (.bool true) ∧ Below w'.heap.size w' w'') := bx fun w' v h hv => by rw [hbw]; exact asks21 N K B d at_ b.toNat _ v s (wordsL N s r9) w' ((HROW.out.below (HA.out _ h)).more (HA.out _ h).size) hv HSR.out (.inl (by rw [wordsL_length]; exact Nat.le_trans hr92 (by decide))) HLE.out HLT.out
        have HA5 : Bx (∀ w' : World, Calls Try.prog 20 #[C3 N K B, .int .i64 D, .slice (some ⟨w'.heap.size, 0, none⟩) Z Z, .slice none 0 0, .int .i64 (IntKind.i64.wrap (IntKind.i64.wrap ((n.toNat : Nat) : Int) * 7)), .int .i64 i] (w'.alloc (.cells (Zs Z (.int .u8 0)).toArray 5)) fun e w'' => e = .returned (.bool true) ∧ Below (w'.alloc (.cells (Zs Z (.int .u8 0)).toArray 5)).heap.size (w'.alloc (.cells (Zs Z (.int .u8 0)).toArray 5)) w'') := bx fun w' => by
          rw [E5]
          have hb := Blk.new w' 5 (Zs Z (.int .u8 0))
          rw [zs_u8] at hb ⊢
          have hr := IsRow.of_blk (o := none) (c := Z) hb hb.lt (by simp) (by rw [List.length_replicate]; exact Nat.le_refl _) (by simp only [maxLen]; omega)
          rw [List.length_replicate] at hr
          exact asks21 N K B D n7 i _ _ (List.replicate Z 0) [] _ hr (IsLst.nil _ _) (by rw [List.length_replicate]; omega) (.inl (by simp)) (by omega) (by omega)
        have HW1 : Bx (∀ w', Below w3.heap.size w3 w' → Calls Try.prog 11 #[C3 N K B, .slice A s.length cap, .int .i64 (IntKind.i64.wrap ((D : Int) * IntKind.i64.wrap (((e.toNat : Nat) : Int).tmod 3)))] w' fun e w'' => ∃ v, e = .returned v ∧ IsLst w'' w''.heap.size v (wordsL N s L) ∧ Below w'.heap.size w' w'') := bx fun w' h => by rw [E1]; exact words_any N K B A s cap L w' ((HRD.out.below (HA.out _ h)).more (HA.out _ h).size) HCAP.out hsl hN5 (Nat.le_trans hL2 (by decide))
        have HW2 : Bx (∀ w', Below w3.heap.size w3 w' → Calls Try.prog 11 #[C3 N K B, .slice A s.length cap, .int .i64 (IntKind.i64.wrap (((k.toNat : Nat) : Int).tmod 9))] w' fun e w'' => ∃ v, e = .returned v ∧ IsLst w'' w''.heap.size v (wordsL N s r9) ∧ Below w'.heap.size w' w'') := bx fun w' h => by rw [E3]; exact words_any N K B A s cap r9 w' ((HRD.out.below (HA.out _ h)).more (HA.out _ h).size) HCAP.out hsl hN5 (Nat.le_trans hr92 (by decide))
        have hc3 := HC.out.lt
        have ho3 := HO.out.lt
        have c0 : ∀ w', Below w3.heap.size w3 w' → w'.cell? ⟨w.heap.size, 0, none⟩ = some (.int .i64 cn) := fun w' h => (HC.out.below h hc3).cell rfl
        have c1 : ∀ w', Below w3.heap.size w3 w' → w'.cell? ⟨w.heap.size, 1, none⟩ = some (.int .i64 ck) := fun w' h => (HC.out.below h hc3).cell rfl
        have c2 : ∀ w', Below w3.heap.size w3 w' → w'.cell? ⟨w.heap.size, 2, none⟩ = some (.int .i64 cb) := fun w' h => (HC.out.below h hc3).cell rfl
        have o0 : ∀ w', Below w3.heap.size w3 w' → w'.cell? ⟨g, 0, none⟩ = some (.int .i64 N) := fun w' h => (HO.out.below h ho3).cell rfl
        have o1 : ∀ w', Below w3.heap.size w3 w' → w'.cell? ⟨g, 1, none⟩ = some (.int .i64 K) := fun w' h => (HO.out.below h ho3).cell rfl
        have o2 : ∀ w', Below w3.heap.size w3 w' → w'.cell? ⟨g, 2, none⟩ = some (.int .i64 B) := fun w' h => (HO.out.below h ho3).cell rfl
        have hS3 : Below w3.heap.size w3 w3.drew := (Below.refl _ _).drew
        clear hN2 hN22 hK1 hKN hB hD1 hD66 hxl hsl hsl0 hND2 hZ2 hL2 hr92 hnn hkn hbn hn72 hN5 hc3 ho3 ha0 ha
        dbg_trace "A1"
        simp only [List.append_eq, List.cons_append, List.nil_append]
        dbg_trace "A1b"
        clear E1 E3 E4 E5 hqz hLz hqw hrz hrw hr3z hr3w hNDz hZz hnw hkw hbw hn7
        go_region_held3 (fun w' => Below w3.heap.size w3 w') (first | assumption | exact balloc (by assumption))
          (first
            | (go_at_call 20; dbg_trace "asks"; first
              | (with_reducible refine (HA1.out _ (by assumption)).mono ?_; rintro e wA ⟨rfl, hb⟩; have hSA := bstep hb (by first | assumption | exact balloc (by assumption)); clear hb)
              | (with_reducible refine (HA3.out _ (by assumption)).mono ?_; rintro e wC ⟨rfl, hb⟩; have hSC := bstep hb (by first | assumption | exact balloc (by assumption)); clear hb)
              | (with_reducible refine (HA2.out _ _ (by assumption) (by assumption)).mono ?_; rintro e wB ⟨rfl, hb⟩; have hSB := bstep hb (by first | assumption | exact balloc (by assumption)); clear hb)
              | (with_reducible refine (HA4.out _ _ (by assumption) (by assumption)).mono ?_; rintro e wD ⟨rfl, hb⟩; have hSD := bstep hb (by first | assumption | exact balloc (by assumption)); clear hb)
              | (with_reducible refine (HA5.out _).mono ?_; rintro e wE ⟨rfl, hb⟩; have hSE := bstep hb (by first | assumption | exact balloc (by assumption)); clear hb))
            | (go_at_call 11; dbg_trace "words"; first
              | (with_reducible refine (HW1.out _ (by assumption)).mono ?_; rintro e wF ⟨v5, rfl, hv5, hb⟩; have hSF := bstep hb (by first | assumption | exact balloc (by assumption)); clear hb)
              | (with_reducible refine (HW2.out _ (by assumption)).mono ?_; rintro e wG ⟨v8, rfl, hv8, hb⟩; have hSG := bstep hb (by first | assumption | exact balloc (by assumption)); clear hb)))
        have hE := (by assumption : Below w3.heap.size w3 wE)
        have HFIN := bx (HA.out _ hE)
        dbg_trace "A2"
        go_wp2_with fail
        go_ret
        exact ⟨rfl, HFIN.out⟩
      · have hT4z : ¬ T ≤ 400 := hT4
        clear hgo
        go_wp2_with fail
        all_goals (
          refine (known21 _).mono ?_
          rintro e w1 ⟨rfl, hb1⟩
          have HB := bx (HB.out.trans (hb1.mono HB.out.size))
          clear hb1
          go_wp2_with fail
          go_ret
          exact ⟨rfl, HB.out⟩)
theorem law_wasks' (cn ck cb d at_ i : Int) (A : Option Addr) (len : Nat) (s : List UInt8) (cap : Nat) (vl : Value) (xs : List (List UInt8)) (n k b e : UInt8) (w : World) (hlen : s.length = len) (hRd : Rd w w.heap.size A (s.map B8)) (hcap : len ≤ cap) (hmax : cap ≤ maxLen) (hl : IsLst w w.heap.size vl xs) (h1 : -9223372036854775808 ≤ at_) (h2 : at_ ≤ 9223372036854775807) :
    Calls Try.prog 8 #[C3 cn ck cb, .int .i64 d, .slice A len cap, vl, .int .i64 at_, .int .i64 i, B8 n, B8 k, B8 b, B8 e] w fun r w' => r = .returned (.bool true) ∧ Below w.heap.size w w' := by
  subst hlen
  exact law_wasks cn ck cb d at_ i A s cap vl xs n k b e w hRd hcap hmax hl h1 (by omega)
end Go.Proofs.Ytkjaonlelkfhaaa

/- The walks of layer 2, three: a table is laid. -/
import Derived.Test.YtccedmegmmcnkaaDoorTbB
import Derived.Test.YtccedmegmmcnkaaDoorTbPure
namespace Go.Proofs.YtccedmegmmcnkaaDoor
open Go.RowKit Go.Shelf Gf Bt

theorem blk_setCells : ∀ (new : List Value) {w : World} {g t : Nat} {pre old : List Value}, Blk w g t (pre ++ old) → old.length = new.length → Blk (w.setCells g pre.length new) g t (pre ++ new)
  | [], w, g, t, pre, old, h, hl => by
    obtain rfl : old = [] := List.length_eq_zero_iff.1 hl
    exact h
  | v :: r, w, g, t, pre, [], h, hl => by simp at hl
  | v :: r, w, g, t, pre, o :: os, h, hl => by
    have h1 := Blk.set (i := pre.length) h v
    rw [List.set_append_right _ _ (Nat.le_refl _), Nat.sub_self, List.set_cons_zero, show pre ++ v :: os = (pre ++ [v]) ++ os by simp] at h1
    have h2 := blk_setCells r h1 (by simpa using hl)
    rw [List.length_append, List.length_singleton, List.append_assoc] at h2
    exact h2
theorem grown_setCells : ∀ (new : List Value) (w : World) (g o : Nat), w.grownBy (w.setCells g o new) (some g)
  | [], w, g, o => World.grownBy.refl _ _
  | v :: r, w, g, o => (grown_set w g o v).trans (grown_setCells r _ g (o + 1))
set_option maxRecDepth 100000 in
theorem int32_add (b : Nat) (w : World) (hc : w.cell? ⟨b, 3, none⟩ = some (.int .i32 0)) (hz : w.frozen? ⟨b, 3, none⟩ = false) :
    Calls Tryd.prog 32 #[.pointer (some ⟨b, 3, none⟩), .int .i32 1] w fun e w' => (∃ v, e = .returned v) ∧ w' = w.setCell ⟨b, 3, none⟩ (.int .i32 1) := by
  have hadd := run_call_add (P := Tryd.prog) Tryd.func39 (by kernel_rfl) (by kernel_rfl) (by kernel_rfl) .i32 (by kernel_rfl) (y := 1) (s := 1) hc hz (by simp [go_sem]; rfl)
  go_enter Tryd.func32, Tryd.ntmps32
  go_wp2
  go_ret
  exact ⟨⟨_, rfl⟩, rfl⟩
theorem rows_size : (Tryd.prog.info? 57).map (·.size) = some 766 := by kernel_rfl
theorem zero_rows : Tryd.zeroCells57 = ((rowsTo 0).map B8).toArray := by rw [rowsTo_zero]; kernel_rfl
set_option maxRecDepth 100000 in
set_option maxHeartbeats 1600000 in
theorem lay_any (b : Nat) (R : List Value) (w : World) (hT : Tab w) (h : TbW b 0 1 0 0 R w) (hR : R.length = 766) (hbG : 1 ≠ b) :
    Calls Tryd.prog 27 #[.pointer (some ⟨b, 0, none⟩)] w fun e w' => e = .returned (.tuple #[]) ∧ TbW b 0 1 0 1 ((rowsTo 255).map B8) w' ∧ w.grownBy w' (some b) := by
  have HT := bx hT
  have H := bx h
  clear hT h
  go_enter Tryd.func27, Tryd.ntmps27
  go_upto_region 3 with fail
  have hG : 1 < w.heap.size := HT.out.lt
  obtain ⟨g, hg⟩ : ∃ g, w.heap.size = g := ⟨_, rfl⟩
  have HB0 : Bx (Below g w (w.alloc (Obj.cells Tryd.zeroCells57 57))) := bx (by rw [← hg]; exact (Below.refl _ w).alloc (Nat.le_refl _) _)
  have HG0 : Bx (Blk (w.alloc (Obj.cells Tryd.zeroCells57 57)) g 57 ((rowsTo 0).map B8)) := bx (by rw [← hg, zero_rows]; exact Blk.new w _ _)
  obtain ⟨w0, hw0⟩ : ∃ w0, w.alloc (Obj.cells Tryd.zeroCells57 57) = w0 := ⟨_, rfl⟩
  rw [hw0] at HB0 HG0 ⊢
  rw [hg] at hG ⊢
  have HGS := bx hg
  clear hw0 hg
  go_loopw [3, 5] (fun xv i wr => ∃ n : Nat, n ≤ 255 ∧ i = .int .i64 n ∧ xv = B8 (gpow 2 n) ∧ Blk wr g 57 ((rowsTo n).map B8) ∧ Below g w wr) (fun _ i _ => 255 - (intOf i).toNat)
  case atStart => exact ⟨0, by omega, rfl, rfl, HG0.out, HB0.out⟩
  case round =>
    obtain ⟨n, hn, rfl, rfl, hgb, hbel⟩ := hrel
    have HGB := bx hgb
    have HB := bx hbel
    have hn0 : (0 : Int) ≤ (n : Int) := Int.natCast_nonneg _
    obtain ⟨x, hx⟩ : ∃ x, gpow 2 n = x := ⟨_, rfl⟩
    rw [hx]
    have HX := bx hx
    by_cases hlt : n < 255
    · have hltz : (n : Int) < 255 := Int.ofNat_lt.2 hlt
      have x0 : (0 : Int) ≤ (x.toNat : Int) := Int.natCast_nonneg _
      have x1 : (x.toNat : Int) < 256 := Int.ofNat_lt.2 x.toNat_lt
      have hxn := x.toNat_lt
      obtain ⟨x', hx'⟩ : ∃ x', gmul x 2 = x' := ⟨_, rfl⟩
      have HM : Bx (∀ w, Tab w → Calls Tryd.prog 31 #[B8 x, .int .u8 2] w fun e w' => e = .returned (B8 x') ∧ Below w.heap.size w w') := bx fun w hT => by have h := mul_any x 2 w hT; rw [hx'] at h; exact h
      have HX' := bx (show gpow 2 (n + 1) = x' by rw [← hx', ← hx]; rfl)
      have ex : ∀ i, i < 766 → ∃ v, ((rowsTo n).map B8)[i]? = some v := fun i hi => ⟨_, List.getElem?_eq_getElem (by rw [List.length_map, rowsTo_length]; exact hi)⟩
      obtain ⟨v1, e1⟩ := ex n (by omega)
      obtain ⟨v2, e2⟩ := ex (n + 255) (by omega)
      obtain ⟨v3, e3⟩ := ex (510 + x.toNat) (by omega)
      have c1 : wr.cell? ⟨g, n, none⟩ = some v1 := hgb.cell e1
      have c2 : wr.cell? ⟨g, n + 255, none⟩ = some v2 := hgb.cell e2
      have c3 : wr.cell? ⟨g, 510 + x.toNat, none⟩ = some v3 := hgb.cell e3
      have f1 : wr.frozen? ⟨g, n, none⟩ = false := hgb.froz
      have f2 : wr.frozen? ⟨g, n + 255, none⟩ = false := hgb.froz
      have f3 : wr.frozen? ⟨g, 510 + x.toNat, none⟩ = false := hgb.froz
      clear hgb hbel hx hx' ex e1 e2 e3
      go_wp2_with (go_at_call 31; refine (HM.out _ (HT.out.below (((HB.out.setCell (Nat.le_refl _) _).setCell (Nat.le_refl _) _).setCell (Nat.le_refl _) _) hG)).mono ?_; rintro e w5 ⟨rfl, hb5⟩; have HB5 := bx hb5; clear hb5)
      go_roundw
      case rel =>
        have h3 : Blk (((wr.setCell ⟨g, n, none⟩ (.int .u8 x.toNat)).setCell ⟨g, n + 255, none⟩ (.int .u8 x.toNat)).setCell ⟨g, 510 + x.toNat, none⟩ (.int .u8 (n : Int))) g 57 ((rowsTo (n + 1)).map B8) := by
          have h := ((HGB.out.set (i := n) (B8 x)).set (i := n + 255) (B8 x)).set (i := 510 + x.toNat) (B8 (UInt8.ofNat n))
          rw [← List.map_set, ← List.map_set, ← List.map_set, rowsTo_step hlt HX.out] at h
          rw [show B8 (UInt8.ofNat n) = .int .u8 (n : Int) by rw [B8, UInt8.toNat_ofNat', Nat.mod_eq_of_lt (by omega)]] at h
          exact h
        refine ⟨n + 1, hlt, by go_num, by rw [HX'.out], h3.below HB5.out h3.lt, ?_⟩
        have hB3 : Below g w (((wr.setCell ⟨g, n, none⟩ (.int .u8 x.toNat)).setCell ⟨g, n + 255, none⟩ (.int .u8 x.toNat)).setCell ⟨g, 510 + x.toNat, none⟩ (.int .u8 (n : Int))) := ((HB.out.setCell (Nat.le_refl _) _).setCell (Nat.le_refl _) _).setCell (Nat.le_refl _) _
        exact hB3.trans (HB5.out.mono (Nat.le_of_lt h3.lt))
      case measure => simp [intOf]; omega
    · obtain rfl : n = 255 := by omega
      obtain ⟨CS, hCS⟩ : ∃ CS, (rowsTo 255).map B8 = CS := ⟨_, rfl⟩
      have hlen : CS.length = 766 := by rw [← hCS, List.length_map, rowsTo_length]
      have hone : CS.toArray.all (·.oneCell') = true := Array.all_eq_true_iff_forall_mem.2 fun v hv => by
        rw [← hCS] at hv
        obtain ⟨y, _, rfl⟩ := List.mem_map.1 (by simpa using hv)
        rfl
      rw [hCS] at hgb
      have hbel' : Below g w wr := hbel
      have hgs := HGS.out
      have hbl : b < g := by rw [← hgs]; exact H.out.lt
      have HTB : Bx (TbW b 0 1 0 0 R wr) := bx (Blk.below H.out hbel (by exact hbl))
      have HTB2 : Bx (TbW b 0 1 0 0 CS (wr.setCells b 4 CS)) := bx (blk_setCells (pre := [.int .u32 0, .int .i32 1, .int .u32 0, .int .i32 0]) CS HTB.out (by rw [hR, hlen]))
      have hth : wr.there b 4 CS.toArray.size := fun j hj => by
        have hjR : j < R.length := by rw [hR]; simpa [hlen] using hj
        refine ⟨?_, HTB.out.fz _⟩
        have : wr.cell? ⟨b, 4 + j, none⟩ = some R[j] := Blk.cell HTB.out (by rw [show 4 + j = j + 4 by omega]; simp [hjR])
        rw [this]; rfl
      have hrg : wr.rangeAt g 0 CS := fun j v hv => by rw [Nat.zero_add]; exact hgb.cell hv
      have HADD := bx (int32_add b (wr.setCells b 4 CS) HTB2.out.c3 (HTB2.out.fz 3))
      have HGR := bx (show w.grownBy (wr.setCells b 4 CS) (some b) from (below_grown (by rw [hgs]; exact hbel) (some b)).trans (grown_setCells CS wr b 4))
      have HCS := bx hCS
      clear hgb hbel hbel' hCS HT H HG0 HB0
      go_wp2_with (first
        | (refine wpList_load_mid rfl 57 _ rfl g 0 rfl CS _ hrg Tryd.underlying57 rfl (by rw [hlen]; exact rows_size) ?_)
        | (refine wpList_store_mid rfl 57 _ _ rfl b 4 CS.toArray rfl rfl hth (by rw [show CS.toArray.size = 766 by simp [hlen]]; exact rows_size) hone ?_)
        | (go_at_call 32; refine HADD.out.mono ?_; rintro e w' ⟨⟨v, rfl⟩, hw'⟩; have hw' := hw'.symm; subst hw'))
      go_end0
      refine ⟨rfl, ?_, HGR.out.trans (grown_set _ b 3 _)⟩
      rw [HCS.out]
      exact HTB2.out.set3 1
end Go.Proofs.YtccedmegmmcnkaaDoor

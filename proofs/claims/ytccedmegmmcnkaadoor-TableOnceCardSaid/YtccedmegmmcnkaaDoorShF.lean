/- The walks of layer 1, six: Wide. -/
import Derived.Test.YtccedmegmmcnkaaDoorShE
namespace Go.Proofs.YtccedmegmmcnkaaDoor
open Go.RowKit Go.Shelf Gf Bt
attribute [local go_sem] Oper.semAt_some

set_option maxRecDepth 100000 in
set_option maxHeartbeats 4000000 in
theorem wide_any (a b : UInt8) (w : World) (hT : Tab w) : CallsIn Fence.wide 5 Tryd.prog 38 #[B8 a, B8 b] w fun e w' => e = .returned (.int .u16 (wideN a.toNat b.toNat : Nat)) ∧ Below w.heap.size w w' := by
  have ha := a.toNat_lt
  have hb := b.toNat_lt
  have hG := hT.lt
  have HT := bx hT
  clear hT
  refine callsIn_of_wp_marks Tryd.func38 rfl trivial ?_ rfl
  simp only [Tryd.ntmps38, List.size_toArray, List.length_cons, List.length_nil, Nat.reduceAdd, Nat.reduceSub, Array.replicate_succ, Array.replicate_zero, List.push_toArray, List.append_toArray, List.nil_append, List.cons_append]
  gi_wp2_with (refine ⟨trivial, ?_⟩; gi_at_call 45; refine (ones_in _ b.toNat _).mono ?_; rintro e w1 ⟨rfl, rfl⟩)
  obtain ⟨W0, hW0⟩ : ∃ W0, ((w.alloc (Obj.cells #[.int .u8 a.toNat] 5)).alloc (Obj.cells #[.int .u16 0] 65)).alloc (Obj.cells #[.int .u64 b.toNat] 71) = W0 := ⟨_, rfl⟩
  have hBA : Blk W0 w.heap.size 5 [B8 a] := by rw [← hW0]; exact ((Blk.new w 5 [B8 a]).alloc _).alloc _
  have hBW : Blk W0 (w.heap.size + 1) 65 [.int .u16 (wideL a.toNat [] : Nat)] := by rw [← hW0]; exact (blk_new1 w (Obj.cells #[.int .u8 a.toNat] 5) 65 [.int .u16 0]).alloc _
  have hBN : Blk W0 (w.heap.size + 1 + 1) 71 [.int .u64 b.toNat] := by rw [← hW0]; exact blk_new2 w (Obj.cells #[.int .u8 a.toNat] 5) (Obj.cells #[.int .u16 0] 65) 71 [.int .u64 b.toNat]
  have hsz : W0.heap.size = w.heap.size + 3 := by rw [← hW0]; simp
  have hBel : Below w.heap.size w W0 := by rw [← hW0]; exact (((Below.refl _ w).alloc (Nat.le_refl _) _).alloc (by simp) _).alloc (by simp <;> omega) _
  rw [hW0]
  clear hW0
  refine range_ones (by decide) rfl rfl hb hBN (fun pre V => Blk V w.heap.size 5 [B8 a] ∧ Blk V (w.heap.size + 1) 65 [.int .u16 (wideL a.toNat pre : Nat)] ∧ Below w.heap.size w V)
    ?hIo ?hIa ?hIb ?hIT ⟨hBA, hBW, hBel⟩
    (fun x => { tmps := #[B8 a, B8 b, .pointer (some ⟨w.heap.size, 0, none⟩), undef, .int .u16 0, .pointer (some ⟨w.heap.size + 1, 0, none⟩), .int .i64 (x : Nat), B8 b, .int .u64 b.toNat, .func (.func 53) #[] #[.pointer (some ⟨w.heap.size + 1 + 1, 0, none⟩)], .int .i64 (x : Nat), undef, undef, undef, undef, undef, undef, undef], defers := [] }) ?assign ?body ?done
  case hIo =>
    rintro pre V l o o' ⟨h1, h2, h3⟩ hl ho hc
    have hs := h3.size
    have l1 := h1.lt
    have l2 := h2.lt
    refine ⟨(World.putObj_heap_other (by omega)).trans h1, (World.putObj_heap_other (by omega)).trans h2, h3.grown (grownBy_putObj' V l o') hs (fun k e => by cases e; omega)⟩
  case hIa =>
    rintro pre V o ⟨h1, h2, h3⟩
    exact ⟨h1.alloc _, h2.alloc _, h3.alloc h3.size _⟩
  case hIb =>
    rintro pre V v ⟨h1, h2, h3⟩
    exact ⟨(heap_setCell_other _ _ _ _ (by simp <;> omega)).trans h1, (heap_setCell_other _ _ _ _ (by simp <;> omega)).trans h2, h3.setCell (by simp <;> omega) _⟩
  case hIT =>
    rintro pre V ⟨_, _, h3⟩
    exact HT.out.below h3 hG
  case assign =>
    intro l x W K hK
    gi_wp2
    exact hK
  case body =>
    rintro l pre x W ⟨hA, hWb, hbel⟩ ⟨rest, hx⟩
    have hx7 := places_lt hb hx
    have hacc : wideL a.toNat pre < 32768 := wideL_lt ha pre fun y hy => by
      obtain ⟨p1, p2, rfl⟩ := List.append_of_mem hy
      exact places_lt hb (by rw [hx, List.append_assoc]; rfl)
    have hcell := wide_cell2 ha hacc hx7
    rw [← wideL_snoc] at hcell
    obtain ⟨acc, hac⟩ : ∃ acc, wideL a.toNat pre = acc := ⟨_, rfl⟩
    obtain ⟨acc', hac'⟩ : ∃ acc', wideL a.toNat (pre ++ [x]) = acc' := ⟨_, rfl⟩
    rw [hac] at hWb hcell
    rw [hac'] at hcell
    have HX := bx hx
    have hx0 : (0 : Int) ≤ (x : Int) := Int.natCast_nonneg _
    have hxz : (x : Int) ≤ 7 := Int.ofNat_le.2 hx7
    gi_wp2
    have HA := bx hA
    have HAD : Bx (Blk W.drew w.heap.size 5 [B8 a]) := bx (hA.below ((Below.refl _ W).drew) hA.lt)
    have HWD : Bx (Blk W.drew (w.heap.size + 1) 65 [.int .u16 (acc : Nat)]) := bx (hWb.below ((Below.refl _ W).drew) hWb.lt)
    have hcw : W.drew.cell? ⟨w.heap.size + 1, 0, none⟩ = some (.int .u16 (acc : Nat)) := (hWb.below ((Below.refl _ W).drew) hWb.lt).cell rfl
    have hfz : W.drew.frozen? ⟨w.heap.size + 1, 0, none⟩ = false := (hWb.below ((Below.refl _ W).drew) hWb.lt).froz
    refine wpIn_region_held_drew (S := fun w' => Blk w' w.heap.size 5 [B8 a]) (by kernel_rfl) ?hnd ?hlo (hA.below ((Below.refl _ W).drew) hA.lt) (fun hHeld => ?_)
    case hnd =>
      intro i o ho c hc
      have hm := Array.mem_of_getElem? ho
      simp only [List.mem_toArray, List.mem_cons, List.not_mem_nil, or_false] at hm
      rcases hm with rfl | rfl | rfl | rfl | rfl | rfl | rfl <;> cases hc
    case hlo =>
      rintro ⟨a', w', h⟩
      exact nomatch h.1
    refine wpAnyH_take (i := 1) (oi := ⟨some 12, Op.load 5 (Operand.tmp 2), 5, "shift.go:31", #[], none⟩) (v := .int .u8 a.toNat) rfl (by kernel_rfl) (by kernel_rfl) (by kernel_rfl) (fun _ _ _ h => h) (Or.inl ⟨by rfl, fun w' hS => by have h : w'.cell? ⟨w.heap.size, 0, none⟩ = some (.int .u8 a.toNat) := hS.cell rfl; go_simp⟩) hHeld ?_
    try simp only [Act.put, List.setIfInBounds_toArray, List.set_cons_zero, List.set_cons_succ]
    refine wpAnyH_take (i := 2) (oi := ⟨some 13, Op.convert 5 65 (Operand.tmp 12), 65, "shift.go:31", #[⟨1, .data⟩], none⟩) (v := .int .u16 a.toNat) rfl (by kernel_rfl) (by kernel_rfl) (by kernel_rfl) (fun _ _ _ h => h) (Or.inl ⟨by rfl, fun w' hS => by (go_simp; exact wrap_u16_nat (by omega))⟩) hHeld ?_
    try simp only [Act.put, List.setIfInBounds_toArray, List.set_cons_zero, List.set_cons_succ]
    refine wpAnyH_take (i := 3) (oi := ⟨some 14, Op.move (Operand.tmp 6), 3, "shift.go:31", #[], none⟩) (v := .int .i64 (x : Nat)) rfl (by kernel_rfl) (by kernel_rfl) (by kernel_rfl) (fun _ _ _ h => h) (Or.inl ⟨by rfl, fun w' hS => by go_simp⟩) hHeld ?_
    try simp only [Act.put, List.setIfInBounds_toArray, List.set_cons_zero, List.set_cons_succ]
    refine wpAnyH_take (i := 4) (oi := ⟨some 15, Op.binOp BinOp.shl 65 (Operand.tmp 13) (Operand.tmp 14) 3, 65, "shift.go:31", #[⟨2, .data⟩, ⟨3, .data⟩], none⟩) (v := .int .u16 (IntKind.u16.wrap ((a.toNat : Int) * 2 ^ x))) rfl (by kernel_rfl) (by kernel_rfl) (by kernel_rfl) (fun _ _ _ h => h) (Or.inl ⟨by rfl, fun w' hS => by go_simp⟩) hHeld ?_
    try simp only [Act.put, List.setIfInBounds_toArray, List.set_cons_zero, List.set_cons_succ]
    refine wpAnyH_ready (rs := [0]) (by kernel_rfl) (by simp) ?_
    refine AllReadyH.cons (o := ⟨some 11, Op.load 65 (Operand.tmp 5), 65, "shift.go:31", #[], none⟩) rfl (fun Kc hKc => ?_) AllReadyH.nil
    rw [if_pos (by rfl)]
    try go_simp
    refine hKc.out _ _ HAD.out (fun _ => ?_)
    clear hKc Kc
    try simp only [Act.put, List.setIfInBounds_toArray, List.set_cons_zero, List.set_cons_succ]
    refine wpAnyH_take (i := 5) (oi := ⟨some 16, Op.binOp BinOp.xor 65 (Operand.tmp 11) (Operand.tmp 15) 65, 65, "shift.go:31", #[⟨0, .data⟩, ⟨4, .data⟩], none⟩) (v := .int .u16 (acc' : Nat)) rfl (by kernel_rfl) (by kernel_rfl) (by kernel_rfl) (fun _ _ _ h => h) (Or.inl ⟨by rfl, fun w' hS => by go_simp⟩) hHeld ?_
    try simp only [Act.put, List.setIfInBounds_toArray, List.set_cons_zero, List.set_cons_succ]
    refine wpAnyH_ready (rs := [6]) (by kernel_rfl) (by simp) ?_
    refine AllReadyH.cons (o := ⟨none, Op.store 65 (Operand.tmp 5) (Operand.tmp 16), 0, "shift.go:31", #[⟨5, .data⟩, ⟨0, .phase⟩, ⟨1, .phase⟩, ⟨2, .phase⟩, ⟨3, .phase⟩, ⟨4, .phase⟩, ⟨5, .phase⟩], none⟩) rfl (fun Kc hKc => ?_) AllReadyH.nil
    rw [if_pos (by rfl)]
    try go_simp
    refine hKc.out _ _ ((heap_setCell_other _ _ _ _ (by simp)).trans HAD.out) (fun _ => ?_)
    clear hKc Kc
    try simp only [Act.put, List.setIfInBounds_toArray, List.set_cons_zero, List.set_cons_succ]
    refine wpAnyH_done (by kernel_rfl) ?_ _
    refine ⟨rfl, (KeepsOthers.drew W).trans (KeepsOthers.setCell _ _ _), ?_, (heap_setCell_other _ _ _ _ (by simp)).trans HAD.out, ?_, (hbel.trans ((Below.refl w.heap.size W).drew)).setCell (by simp) _⟩
    · exact heap_setCell_other _ _ _ _ (by simp <;> omega)
    · rw [hac']; exact HWD.out.set (cs := [_]) _
  case done =>
    rintro D W hD ⟨_, hWb, hbel⟩ hd
    rw [wideL_all _ hb] at hWb
    have hcw : W.cell? ⟨w.heap.size + 1, 0, none⟩ = some (.int .u16 (wideN a.toNat b.toNat : Nat)) := hWb.cell rfl
    gi_wp2
    refine ⟨by simp, .inl ⟨_, _, rfl, run_takeDeferred hd, ?_⟩⟩
    exact ⟨_, results_tmp rfl _ _ _, rfl, hbel.trans (belowK_b (w := W0) hBel.size W D _ _ hD hd rfl rfl)⟩
end Go.Proofs.YtccedmegmmcnkaaDoor

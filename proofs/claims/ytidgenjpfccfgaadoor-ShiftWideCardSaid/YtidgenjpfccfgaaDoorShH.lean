/- The walks of layer 1, eight: powers, by squares. -/
import Derived.Test.YtidgenjpfccfgaaDoorShG
namespace Go.Proofs.YtidgenjpfccfgaaDoor
open Go.RowKit Go.Shelf Gf Bt
attribute [local go_sem] Oper.semAt_some

theorem run_store_func {P : Program} (w : World) (a : Addr) (f : Fn) (x y : Array Value) (m : Mode) : (store a (.func f x y) m).run P w = stored P w a (.func f x y) m := run_store P w a _ m rfl
attribute [local go_sem] run_store_func
theorem sqs_gpow (a : UInt8) (l : Nat) : ∀ k, sqs (gpow a (2 ^ l)) k = gpow a (2 ^ (l + k))
  | 0 => rfl
  | k + 1 => by rw [sqs, sqs_gpow a l k, ← gpow_add, ← Nat.add_assoc, Nat.pow_succ, Nat.mul_two]
def sumP (pre : List Nat) : Nat := pre.foldl (fun s i => s + 2 ^ i) 0
theorem sumP_snoc (pre : List Nat) (x : Nat) : sumP (pre ++ [x]) = sumP pre + 2 ^ x := by simp [sumP, List.foldl_append]
theorem sumP_all : ((List.range 256).all fun n => sumP (places n) == n) = true := by decide +kernel
theorem sumP_places {n : Nat} (hn : n < 256) : sumP (places n) = n := eq_of_beq (List.all_eq_true.1 sumP_all n (List.mem_range.2 hn))
def lastP (pre : List Nat) : Nat := pre.getLast?.getD 0
theorem lastP_snoc (pre : List Nat) (x : Nat) : lastP (pre ++ [x]) = x := by simp [lastP]
theorem places_sorted {n : Nat} (hn : n < 256) : (places n).Pairwise (· < ·) := by
  rw [places_filter hn]
  exact List.Pairwise.filter _ List.pairwise_lt_range
theorem lastP_le {n x : Nat} {pre rest : List Nat} (hn : n < 256) (h : places n = pre ++ x :: rest) : lastP pre ≤ x := by
  have hs := places_sorted hn
  rw [h, List.pairwise_append] at hs
  unfold lastP
  cases hl : pre.getLast? with
  | none => exact Nat.zero_le _
  | some y => exact Nat.le_of_lt (hs.2.2 y (List.mem_of_getLast? hl) x (List.mem_cons_self ..))
set_option maxRecDepth 100000 in
set_option maxHeartbeats 4000000 in
theorem power_any (a : UInt8) (n : Nat) (hn : n < 256) (w : World) (hT : Tab w) : CallsIn Fence.wide 5 Tryd.prog 20 #[B8 a, .int .u64 n] w fun e w' => e = .returned (B8 (gpow a n)) ∧ Below w.heap.size w w' := by
  have hG := hT.lt
  have HT := bx hT
  clear hT
  refine callsIn_of_wp_marks Tryd.func20 rfl trivial ?_ rfl
  simp only [Tryd.ntmps20, List.size_toArray, List.length_cons, List.length_nil, Nat.reduceAdd, Nat.reduceSub, Array.replicate_succ, Array.replicate_zero, List.push_toArray, List.append_toArray, List.nil_append, List.cons_append]
  gi_wp2_with (refine ⟨trivial, ?_⟩; gi_at_call 21; refine (ones_in _ n _).mono ?_; rintro e w1 ⟨rfl, rfl⟩)
  have HPOW : Bx (∀ k : Nat, k ≤ 8 → True) := bx fun _ _ => trivial
  obtain ⟨W0, hW0⟩ : ∃ W0, ((((w.alloc (Obj.cells #[B8 a] 5)).alloc (Obj.cells #[.int .u8 1] 5)).alloc (Obj.cells #[.int .i64 0] 3)).alloc (Obj.cells #[.func (.func 23) #[] #[.pointer (some ⟨w.heap.size, 0, none⟩)]] 42)).alloc (Obj.cells #[.int .u64 n] 37) = W0 := ⟨_, rfl⟩
  have hBA : Blk W0 w.heap.size 5 [B8 (gpow a (2 ^ lastP []))] := by rw [← hW0, show gpow a (2 ^ lastP []) = a from gpow_one a]; exact ((((Blk.new w 5 [B8 a]).alloc _).alloc _).alloc _).alloc _
  have hBO : Blk W0 (w.heap.size + 1) 5 [B8 (gpow a (sumP []))] := by rw [← hW0]; exact (((blk_new1 w (Obj.cells #[B8 a] 5) 5 [.int .u8 1]).alloc _).alloc _).alloc _
  have hBL : Blk W0 (w.heap.size + 1 + 1) 3 [.int .i64 (lastP [] : Nat)] := by rw [← hW0]; exact ((blk_new2 w (Obj.cells #[B8 a] 5) (Obj.cells #[.int .u8 1] 5) 3 [.int .i64 0]).alloc _).alloc _
  have hBF : Blk W0 (w.heap.size + 1 + 1 + 1) 42 [.func (.func 23) #[] #[.pointer (some ⟨w.heap.size, 0, none⟩)]] := by
    rw [← hW0]
    have h := Blk.new (((w.alloc (Obj.cells #[B8 a] 5)).alloc (Obj.cells #[.int .u8 1] 5)).alloc (Obj.cells #[.int .i64 0] 3)) 42 [.func (.func 23) #[] #[.pointer (some ⟨w.heap.size, 0, none⟩)]]
    simp only [World.size_alloc] at h
    exact h.alloc _
  have hBN : Blk W0 (w.heap.size + 1 + 1 + 1 + 1) 37 [.int .u64 n] := by
    rw [← hW0]
    have h := Blk.new ((((w.alloc (Obj.cells #[B8 a] 5)).alloc (Obj.cells #[.int .u8 1] 5)).alloc (Obj.cells #[.int .i64 0] 3)).alloc (Obj.cells #[.func (.func 23) #[] #[.pointer (some ⟨w.heap.size, 0, none⟩)]] 42)) 37 [.int .u64 n]
    simp only [World.size_alloc] at h
    exact h
  have hsz : W0.heap.size = w.heap.size + 5 := by rw [← hW0]; simp
  have hBel : Below w.heap.size w W0 := by rw [← hW0]; exact (((((Below.refl _ w).alloc (Nat.le_refl _) _).alloc (by simp) _).alloc (by simp <;> omega) _).alloc (by simp <;> omega) _).alloc (by simp <;> omega) _
  rw [hW0]
  clear hW0 HPOW
  refine range_ones (by decide) rfl rfl hn hBN (fun pre V => Blk V w.heap.size 5 [B8 (gpow a (2 ^ lastP pre))] ∧ Blk V (w.heap.size + 1) 5 [B8 (gpow a (sumP pre))] ∧ Blk V (w.heap.size + 1 + 1) 3 [.int .i64 (lastP pre : Nat)] ∧ Blk V (w.heap.size + 1 + 1 + 1) 42 [.func (.func 23) #[] #[.pointer (some ⟨w.heap.size, 0, none⟩)]] ∧ Below w.heap.size w V ∧ w.heap.size + 5 ≤ V.heap.size)
    ?hIo ?hIa ?hIb ?hIT ⟨hBA, hBO, hBL, hBF, hBel, Nat.le_of_eq hsz.symm⟩
    (fun x => { tmps := #[B8 a, .int .u64 n, .pointer (some ⟨w.heap.size, 0, none⟩), undef, .int .u8 0, .pointer (some ⟨w.heap.size + 1, 0, none⟩), .pointer (some ⟨w.heap.size + 1 + 1, 0, none⟩), .pointer (some ⟨w.heap.size + 1 + 1 + 1, 0, none⟩), .int .i64 (x : Nat), .func (.func 23) #[] #[.pointer (some ⟨w.heap.size, 0, none⟩)], .int .u64 n, .func (.func 24) #[] #[.pointer (some ⟨w.heap.size + 1 + 1 + 1 + 1, 0, none⟩)], .int .i64 (x : Nat), undef, undef, undef, undef, undef, undef, undef, undef, undef, undef], defers := [] }) ?assign ?body ?done
  case hIo =>
    rintro pre V l o o' ⟨h1, h2, h3, h4, h5, h6⟩ hl ho hc
    refine ⟨(World.putObj_heap_other (by omega)).trans h1, (World.putObj_heap_other (by omega)).trans h2, (World.putObj_heap_other (by omega)).trans h3, (World.putObj_heap_other (by omega)).trans h4, h5.grown (grownBy_putObj' V l o') h5.size (fun k e => by cases e; omega), by simpa using h6⟩
  case hIa =>
    rintro pre V o ⟨h1, h2, h3, h4, h5, h6⟩
    exact ⟨h1.alloc _, h2.alloc _, h3.alloc _, h4.alloc _, h5.alloc h5.size _, by simp; omega⟩
  case hIb =>
    rintro pre V v ⟨h1, h2, h3, h4, h5, h6⟩
    exact ⟨(heap_setCell_other _ _ _ _ (by simp <;> omega)).trans h1, (heap_setCell_other _ _ _ _ (by simp <;> omega)).trans h2, (heap_setCell_other _ _ _ _ (by simp <;> omega)).trans h3, (heap_setCell_other _ _ _ _ (by simp <;> omega)).trans h4, h5.setCell (by simp <;> omega) _, by simpa using h6⟩
  case hIT =>
    rintro pre V ⟨_, _, _, _, h5, _⟩
    exact HT.out.below h5 hG
  case assign =>
    intro l x W K hK
    gi_wp2
    exact hK
  case body =>
    rintro l pre x W ⟨h1, h2, h3, h4, h5, h6⟩ ⟨rest, hx⟩
    have hx7 := places_lt hn hx
    have hlx := lastP_le hn hx
    obtain ⟨p, hp⟩ : ∃ p, lastP pre = p := ⟨_, rfl⟩
    rw [hp] at h1 h3 hlx
    obtain ⟨q, hq⟩ : ∃ q, x - p = q := ⟨_, rfl⟩
    have hqx : p + q = x := by omega
    have hw : IntKind.i64.wrap ((x : Int) - (p : Int)) = (q : Int) := by simp only [IntKind.wrap, IntKind.bits, IntKind.signed]; simp; omega
    have H1 := bx h1
    have H2 := bx h2
    have H3 := bx h3
    have H4 := bx h4
    have H5 := bx h5
    have H6 := bx h6
    have hTW := HT.out.below h5 hG
    have HSQ := bx (square_any q w.heap.size (by omega) (gpow a (2 ^ p)) W hTW h1 (Nat.ne_of_lt hG))
    have f4 : W.cell? ⟨w.heap.size + 1 + 1 + 1, 0, none⟩ = some (.func (.func 23) #[] #[.pointer (some ⟨w.heap.size, 0, none⟩)]) := h4.cell rfl
    have f3 : W.cell? ⟨w.heap.size + 1 + 1, 0, none⟩ = some (.int .i64 p) := h3.cell rfl
    have hqz : (q : Int) = (x : Int) - (p : Int) := by omega
    have HQ := bx hqz
    have HQX := bx hqx
    have HX := bx hx
    have HTW := bx hTW
    have hx0 : (0 : Int) ≤ (x : Int) := Int.natCast_nonneg _
    have hxz : (x : Int) ≤ 7 := Int.ofNat_le.2 hx7
    have hp0 : (0 : Int) ≤ (p : Int) := Int.natCast_nonneg _
    have hpx : (p : Int) ≤ (x : Int) := Int.ofNat_le.2 hlx
    have HPP := bx hp
    clear h1 h2 h3 h4 h5 hTW hq hqx hw hqz hx hp hlx hx7
    have hneG : 1 ≠ w.heap.size := Nat.ne_of_lt hG
    have HKW : Bx (KeepsOthers W W) := bx (KeepsOthers.refl _)
    gi_wp2_with (first
      | (refine ⟨trivial, ?_⟩; gi_at_call 23; rw [← HQ.out]; refine (CallsIn.inRound l (callsIn_wide.2 HSQ.out)).mono ?_; rintro e w3 ⟨⟨v3, rfl⟩, hA3, hg3⟩
         have HA3 : Bx (Blk w3 w.heap.size 5 [B8 (gpow a (2 ^ x))]) := bx (by rw [sqs_gpow, HQX.out] at hA3; exact hA3)
         have HG3 := bx hg3
         have HO3 := bx (blk_grown H2.out hg3 (by omega))
         have HL3 := bx (blk_grown H3.out hg3 (by omega))
         have HF3 := bx (blk_grown H4.out hg3 (by omega))
         have HM := bx (mul_any (gpow a (sumP pre)) (gpow a (2 ^ x)) w3 (HTW.out.grown hg3 hneG))
         have f1 : w3.cell? ⟨w.heap.size + 1, 0, none⟩ = some (.int .u8 (gpow a (sumP pre)).toNat) := HO3.out.cell rfl
         have f2 : w3.cell? ⟨w.heap.size, 0, none⟩ = some (.int .u8 (gpow a (2 ^ x)).toNat) := HA3.out.cell rfl
         clear hA3 hg3)
      | (refine ⟨trivial, ?_⟩; gi_at_call 16; refine (CallsIn.inRound l (callsIn_wide.2 HM.out)).mono ?_; rintro e w4 ⟨rfl, hb4⟩
         have HB4 := bx hb4
         have HA4 := bx (HA3.out.below hb4 HA3.out.lt)
         have HO4 := bx (HO3.out.below hb4 HO3.out.lt)
         have HL4 := bx (HL3.out.below hb4 HL3.out.lt)
         have HF4 := bx (HF3.out.below hb4 HF3.out.lt)
         have m1 : w4.cell? ⟨w.heap.size + 1, 0, none⟩ = some (.int .u8 (gpow a (sumP pre)).toNat) := HO4.out.cell rfl
         have m2 : w4.cell? ⟨w.heap.size + 1 + 1, 0, none⟩ = some (.int .i64 (lastP pre : Nat)) := by rw [HPP.out]; exact HL4.out.cell rfl
         have z1 : w4.frozen? ⟨w.heap.size + 1, 0, none⟩ = false := HO4.out.froz
         have z2 : w4.frozen? ⟨w.heap.size + 1 + 1, 0, none⟩ = false := HL4.out.froz
         clear hb4))
    have hg4 : W.grownBy w4 (some w.heap.size) := HG3.out.trans (below_grown HB4.out _)
    refine ⟨((KeepsOthers.of_grownBy hg4 (fun j o hj ho => ?_)).trans (KeepsOthers.setCell _ _ _)).trans (KeepsOthers.setCell _ _ _), ?_, ?_, ?_, ?_, ?_, ?_, ?_⟩
    · cases hj
      rw [show W.heap[w.heap.size]? = _ from H1.out] at ho
      cases ho; rfl
    · rw [heap_setCell_other _ _ _ _ (by simp <;> omega), heap_setCell_other _ _ _ _ (by simp <;> omega)]
      exact hg4.block _ (by have := H6.out; omega) (by simp <;> omega)
    · rw [lastP_snoc]
      exact (heap_setCell_other _ _ _ _ (by simp <;> omega)).trans ((heap_setCell_other _ _ _ _ (by simp <;> omega)).trans HA4.out)
    · rw [sumP_snoc, gpow_add]
      exact (heap_setCell_other _ _ _ _ (by simp <;> omega)).trans (HO4.out.set (cs := [_]) _)
    · rw [lastP_snoc]
      have h := (show Blk (w4.setCell ⟨w.heap.size + 1, 0, none⟩ (.int .u8 (gmul (gpow a (sumP pre)) (gpow a (2 ^ x))).toNat)) (w.heap.size + 1 + 1) 3 [.int .i64 p] from (heap_setCell_other _ _ _ _ (by simp <;> omega)).trans HL4.out)
      exact h.set (cs := [_]) _
    · exact (heap_setCell_other _ _ _ _ (by simp <;> omega)).trans ((heap_setCell_other _ _ _ _ (by simp <;> omega)).trans HF4.out)
    · exact ((H5.out.grown hg4 H5.out.size (fun k e => by cases e; exact Nat.le_refl _)).setCell (by simp <;> omega) _).setCell (by simp <;> omega) _
    · have := hg4.size
      have := H6.out
      simp <;> omega
  case done =>
    rintro D W hD ⟨_, h2, _, _, h5, _⟩ hd
    rw [sumP_places hn] at h2
    have hcw : W.cell? ⟨w.heap.size + 1, 0, none⟩ = some (.int .u8 (gpow a n).toNat) := h2.cell rfl
    gi_wp2
    refine ⟨by simp, .inl ⟨_, _, rfl, run_takeDeferred hd, ?_⟩⟩
    exact ⟨_, results_tmp rfl _ _ _, rfl, h5.trans (belowK_b (w := W0) hBel.size W D _ _ hD hd rfl rfl)⟩
end Go.Proofs.YtidgenjpfccfgaaDoor

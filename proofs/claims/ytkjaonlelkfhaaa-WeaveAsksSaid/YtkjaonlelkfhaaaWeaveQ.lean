/- The walks of layer 21, seventeen: a text that is cut. -/
import Derived.Test.YtkjaonlelkfhaaaWeaveN
import Derived.Test.YtkjaonlelkfhaaaHeldIn
import Derived.Test.YtkjaonlelkfhaaaClone
import Derived.Test.YtkjaonlelkfhaaaLstRun
import Derived.Sort.LoopGhostIn
namespace Go.Proofs.Ytkjaonlelkfhaaa
open Go.RowKit Go.Shelf Gf Bt
attribute [local go_sem] Oper.semAt_some

/-- Block j of a text, and noughts behind it. -/
def blkU (K : Nat) (s : List UInt8) (j : Nat) : List UInt8 := (List.range K).map fun i => s.getD (j * K + i) 0
theorem blkU_length (K s j) : (blkU K s j).length = K := by simp [blkU]
def blocksL (K : Nat) (s : List UInt8) (m : Nat) : List (List UInt8) := (List.range m).map (blkU K s)

/-- A chunk and noughts behind it are a block. -/
theorem blk_chunk {K lo q e : Nat} {s : List UInt8} (hlo : q * K = lo) (he : min K (s.length - lo) = e) (hlt : lo < s.length) : (s.drop lo).take e ++ List.replicate (K - e) 0 = blkU K s q := by
  apply List.ext_getElem?
  intro i
  by_cases hi : i < K
  · have hr : (blkU K s q)[i]? = some (s.getD (lo + i) 0) := by unfold blkU; rw [List.getElem?_map, List.getElem?_range hi, hlo]; rfl
    rw [hr]
    have hl : ((s.drop lo).take e).length = e := by rw [List.length_take, List.length_drop]; omega
    by_cases hie : i < e
    · rw [List.getElem?_append_left (by omega), List.getElem?_take, if_pos hie, List.getElem?_drop, List.getD_eq_getElem?_getD, List.getElem?_eq_getElem (by omega)]; rfl
    · rw [List.getElem?_append_right (by omega), hl, List.getElem?_replicate, if_pos (by omega), List.getD_eq_getElem?_getD, List.getElem?_eq_none (by omega)]; rfl
  · rw [List.getElem?_eq_none (by rw [List.length_append, List.length_take, List.length_drop, List.length_replicate]; omega), List.getElem?_eq_none (by rw [blkU_length]; omega)]
section
variable {P : Program} {o : Oper} {a : Act} {w w' : World} {K : Act → World → Prop} {Q : Exit → Act → World → Prop}
theorem wp_append {v xv r : Value} (s x : Operand) (t tn : TypeId) (ho : o.op = .call { callee := .builtin .append, args := #[s, x], argTypes := #[t, tn] }) (hs : a.eval s = v) (hx : a.eval x = xv)
    (hr : (Builtin.append_ #[t, tn] o.type #[v, xv]).run P w = .ok r w') (hk : K (a.put o.dst r) w') : o.wp P a w K Q := by
  unfold Oper.wp execOp
  simp only [ho, resolve, invoke, builtin, Sem.run_bind, Sem.run_pure, Result.andThen_ok, List.map_toArray, List.map_cons, List.map_nil, hs, hx, hr]
  exact hk
end
theorem wrap_small {a : Nat} (h : a ≤ 1000000) : IntKind.i64.wrap (a : Int) = (a : Int) := by simp only [IntKind.wrap, IntKind.bits, IntKind.signed]; simp; omega
theorem chunk_bound {M K len : Nat} (h2 : (M - 1) * K < len ∨ M = 0) (hK : K ≤ 255) (hl : len ≤ 1000000) : M * K ≤ 1000255 := by
  rcases h2 with h | h
  · rcases Nat.eq_zero_or_pos M with h0 | h0
    · simp [h0]
    · obtain ⟨m, rfl⟩ : ∃ m, M = m + 1 := ⟨M - 1, by omega⟩
      rw [Nat.add_sub_cancel] at h
      rw [Nat.add_mul, Nat.one_mul]; omega
  · simp [h]
theorem HKO {W w' : World} (h : Below W.heap.size W w') : KeepsOthers W w' := ⟨h.size, fun k o hk _ => (h.block k (Array.getElem?_eq_some_iff.1 hk).1).trans hk⟩
theorem blk_own {w W W0 : World} {v vo : Value} {n K e q : Nat} {r s : List UInt8} (hfin : r ++ List.replicate (K - e) 0 = blkU K s q) (h : w.ownsRow W.heap.size 5 1 v n (r.map B8 ++ List.replicate (K - e) (.int .u8 0))) (ho : ∀ k, vo.ownBlock = some k → k < W.heap.size) (hWW : W0.heap.size ≤ W.heap.size) :
    IsRow w w.heap.size vo.ownBlock v (blkU K s q) ∧ RowFrom W0.heap.size v (blkU K s q) := by
  have e1 : r.map B8 ++ List.replicate (K - e) (.int .u8 0) = (blkU K s q).map B8 := by rw [← hfin, List.map_append, List.map_replicate]; rfl
  rw [e1] at h
  have hb := own_block h
  obtain ⟨A, c, rfl, h1, h2, h3, _⟩ := own_row h
  refine ⟨⟨A, c, rfl, h1, h2, h3, fun _ ad ha hk => ?_⟩, fun _ ad n c' ha => ?_⟩
  · subst ha
    have := ho _ hk.symm
    have := hb ad.block rfl
    omega
  · cases ha
    have := hb ad.block rfl
    omega
theorem blk_zero {K M m : Nat} {bs : List UInt8} (hm : M ≤ m) (hM : bs.length ≤ M * K) : blkU K bs m = List.replicate K 0 := by
  unfold blkU
  apply List.ext_getElem
  · simp
  · intro i h1 h2
    have h3 : M * K ≤ m * K := Nat.mul_le_mul_right _ hm
    simp only [List.getElem_map, List.getElem_range, List.getElem_replicate, List.getD_eq_getElem?_getD]
    rw [List.getElem?_eq_none (by omega)]; rfl
theorem run_mk {k : Int} {K : Nat} (hk : k = K) (hK : K ≤ 255) (W : World) : (Instr.makeSlice 22 (.int .i64 k) (.int .i64 k)).run Try.prog W = .ok (.slice (some ⟨W.heap.size, 0, none⟩) K K) (W.alloc (.cells (Zs K (.int .u8 0)).toArray 5)) := by
  subst hk
  obtain ⟨i0, hi0, h1, h2, h3⟩ := info_parts bytes_info
  have hm := run_make (P := Try.prog) W 22 5 i0 (.int .u8 0) Try.underlying22 hi0 h1 .i64 .i64 K K (by omega) (by omega) (by rw [h3]; omega) (by omega)
  have e1 : madeCells (Value.int .u8 0).cells ((K : Int).toNat * i0.size) = (Zs K (.int .u8 0)).toArray := by
    rw [show (Value.int .u8 0).cells = #[.int .u8 0] from rfl, h2, Int.toNat_natCast, Nat.mul_one]
    apply Array.ext
    · simp [madeCells, Zs]
    · intro j h1 h2; simp [madeCells, Zs, Nat.mod_one]
  rwa [e1, Int.toNat_natCast] at hm
theorem run_mk2 {k : Int} {K : Nat} (hk : k = K) (hK : K ≤ 255) (W : World) : ∃ w', (Instr.makeSlice 22 (.int .i64 k) (.int .i64 k)).run Try.prog W = .ok (.slice (some ⟨W.heap.size, 0, none⟩) K K) w' ∧ Below W.heap.size W w' ∧ Blk w' W.heap.size 5 (Zs K (.int .u8 0)) :=
  ⟨_, run_mk hk hK W, (Below.refl _ W).alloc (Nat.le_refl _) _, Blk.new W 5 _⟩
theorem wp_mk {P : Program} {o : Oper} {a : Act} {w w' : World} {K : Act → World → Prop} {Q : Exit → Act → World → Prop} {xv yv r : Value} (ty : TypeId) (x y : Operand) (ho : o.op = .makeSlice ty x y) (hx : a.eval x = xv) (hy : a.eval y = yv) (hr : (Instr.makeSlice ty xv yv).run P w = .ok r w') (hk : K (a.put o.dst r) w') : o.wp P a w K Q := by
  unfold Oper.wp execOp
  simp only [ho, hx, hy, Sem.run_bind, Sem.run_pure, Result.andThen_ok, hr]
  exact hk
set_option maxRecDepth 100000 in
set_option maxHeartbeats 4000000 in
theorem blocks_yes (n k b d : Int) (K D M : Nat) (hk : k = K) (hd : d = D) (A : Option Addr) (bs : List UInt8) (cap : Nat) (w : World) (hok : loomOk n k b d = true) (hcap : bs.length ≤ cap) (hlen : bs.length ≤ 1000000) (hM : bs.length ≤ M * K) (hM2 : (M - 1) * K < bs.length ∨ M = 0) (hRd : Rd w w.heap.size A (bs.map B8)) :
    CallsIn Fence.wide 5 Try.prog 16 #[C3 n k b, .int .i64 d, .slice A bs.length cap] w fun e w' => ∃ v m, e = .returned (.tuple #[v, .int .u16 0]) ∧ M ≤ m ∧ m < M + D ∧ m % D = 0 ∧ IsLst w' w'.heap.size v (blocksL K bs m) ∧ Below w.heap.size w w' := by
  obtain ⟨k1, kn, nn, b0, b1, d1, d2⟩ := loomOk_bounds hok
  have HK := bx hk
  have HD := bx hd
  have HM := bx hM
  have HM2 := bx hM2
  have HRD := bx hRd
  have hl0 : (0 : Int) ≤ (bs.length : Int) := Int.natCast_nonneg _
  clear hk hd hM hM2 hRd
  refine callsIn_of_wp_marks Try.func16 rfl trivial ?_ rfl
  simp only [Try.ntmps16, List.size_toArray, List.length_cons, List.length_nil, Nat.reduceAdd, Nat.reduceSub, Array.replicate_succ, Array.replicate_zero, List.push_toArray, List.append_toArray, List.nil_append, List.cons_append]
  gi_wp2_with (first
    | (refine ⟨trivial, ?_⟩; gi_at_call 21; refine (callsIn_wide.2 (loom_right n k b d _)).mono ?_; rintro e w1 ⟨rfl, hb1⟩; rw [hok]
       have HL := bx ((((Below.refl _ _).alloc (Nat.le_refl _) _).alloc (by simp) _ : Below w.heap.size w ((w.alloc (Obj.cells #[.int .i64 n, .int .i64 k, .int .i64 b] 24)).alloc (Obj.cells #[.int .i64 n, .int .i64 k, .int .i64 b, .int .i64 d] 50))).trans (hb1.mono (by simp; omega)))
       have HC1 := bx (Blk.below ((Blk.new w 24 [.int .i64 n, .int .i64 k, .int .i64 b]).alloc (Obj.cells #[.int .i64 n, .int .i64 k, .int .i64 b, .int .i64 d] 50)) hb1 (by simp <;> omega))
       have q1 : (w1.alloc (Obj.cells #[.slice none 0 0] 27)).cell? ⟨w.heap.size, 1, none⟩ = some (.int .i64 k) := (HC1.out.alloc _).cell rfl
       clear hb1)
    | (refine ⟨trivial, ?_⟩; gi_at_call 25; refine (chunk_in Fence.wide _ trivial rfl A bs.length cap k k1 _).mono ?_; rintro e w4 ⟨rfl, rfl⟩))
  obtain ⟨W0, hW0⟩ : ∃ W0, ((w1.alloc (Obj.cells #[.slice none 0 0] 27)).alloc (Obj.cells #[.slice A bs.length cap] 22)).alloc (Obj.cells #[.int .i64 k] 3) = W0 := ⟨_, rfl⟩
  have hOUT0 : Boxed W0 w1.heap.size 27 (.slice none 0 0) := by rw [← hW0]; exact ((Blk.new w1 27 [.slice none 0 0]).alloc _).alloc _
  have hbs : Blk W0 (w1.heap.size + 1) 22 [.slice A bs.length cap] := by rw [← hW0]; exact (blk_new1 w1 (Obj.cells #[.slice none 0 0] 27) 22 [.slice A bs.length cap]).alloc _
  have hbn : Blk W0 (w1.heap.size + 1 + 1) 3 [.int .i64 k] := by rw [← hW0]; exact blk_new2 w1 (Obj.cells #[.slice none 0 0] 27) (Obj.cells #[.slice A bs.length cap] 22) 3 [.int .i64 k]
  have hsz : W0.heap.size = w1.heap.size + 3 := by rw [← hW0]; simp
  have h1W : Below w1.heap.size w1 W0 := by rw [← hW0]; exact (((Below.refl _ w1).alloc (Nat.le_refl _) _).alloc (by simp) _).alloc (by simp <;> omega) _
  have hwO : w.heap.size ≤ w1.heap.size := HL.out.size
  have hcO : w.heap.size < w1.heap.size := HC1.out.lt
  have hwW : Below w.heap.size w W0 := HL.out.trans (h1W.mono hwO)
  have HC0 := bx (HC1.out.below h1W hcO)
  rw [hW0]
  have hK1 : 1 ≤ K := by have := HK.out; omega
  have hK2 : K ≤ 255 := by have := HK.out; omega
  have HML : Bx (M * K ≤ 1000255) := bx (chunk_bound HM2.out hK2 hlen)
  refine wpIn_rangeFunc_ownG rfl (by decide) (gf := 34) (lb := #[.pointer (some ⟨w1.heap.size + 1, 0, none⟩), .pointer (some ⟨w1.heap.size + 1 + 1, 0, none⟩)]) rfl trivial (enters_of Try.func34 (by kernel_rfl) rfl)
    (chunk_stops _ (w1.heap.size + 1) (w1.heap.size + 1 + 1) w1.heap.size A bs.length cap K M hK1 HM.out HM2.out hcap (by omega) (by omega) (fun h => by obtain ⟨ad, e, _⟩ := HRD.out (by simpa using h); exact ⟨ad, e⟩) W0 (hbs.cell rfl) (by rw [← HK.out]; exact hbn.cell rfl))
    kpC_t (kpC_b (by omega) (by omega) (by omega)) (Below.refl _ _) (fun _ => rfl)
    (fun pre W => (∃ v, Boxed W w1.heap.size 27 v ∧ OwnLst2 W W0.heap.size v (pre.map fun x => blkU K bs (x % M))) ∧ Below w1.heap.size W0 W ∧ pre.length ≤ M)
    (fun _ _ _ => False)
    ?hI (fun _ _ _ _ _ hs _ _ => hs)
    ⟨⟨_, hOUT0, OwnLst2.nil _ _⟩, Below.refl _ _, Nat.zero_le _⟩
    (fun x => { tmps := #[C3 n k b, .int .i64 d, .slice A bs.length cap, .pointer (some ⟨w.heap.size, 0, none⟩), undef, undef, .slice none 0 0, .int .u16 0, .pointer (some ⟨w.heap.size + 1, 0, none⟩), .int .u16 0, .pointer (some ⟨w1.heap.size, 0, none⟩), chunkV A K bs.length (x % M), .agg #[.int .i64 n, .int .i64 k, .int .i64 b], .int .i64 d, .agg #[.int .i64 n, .int .i64 k, .int .i64 b, .int .i64 d], .agg #[.int .i64 n, .int .i64 k, .int .i64 b, .int .i64 d], .int .u16 0, .int .u16 0, .bool false, undef, .slice A bs.length cap, .pointer (some ⟨w.heap.size, 1, none⟩), .int .i64 k, .func (.func 34) #[] #[.pointer (some ⟨w1.heap.size + 1, 0, none⟩), .pointer (some ⟨w1.heap.size + 1 + 1, 0, none⟩)], chunkV A K bs.length (x % M), undef, undef, undef, undef, undef, undef, undef, undef, undef, undef, undef, undef, undef, undef, undef, undef, undef, undef, undef, undef, undef, undef, undef], defers := [] }) ?assign ?body ?done ?stop
  case hI =>
    rintro pre W W' row ⟨⟨v, hv, hown⟩, hbel, hle⟩ hg hr
    refine ⟨⟨v, hv.kept hg (fun e => ?_), hown.kept hg (fun r e => (hr r e).2)⟩, hbel.grown hg (by have := hbel.size; omega) (fun k e => by have := (hr k e).1; omega), hle⟩
    have := (hr _ e.symm).1; omega
  case assign =>
    intro l x W K hK
    gi_wp2
    exact hK
  case body =>
    rintro l pre x W ⟨⟨v, hv, hown⟩, hbel, hle⟩ hlt
    have hM0 : 0 < M := by omega
    obtain ⟨q, hq⟩ : ∃ q, x % M = q := ⟨_, rfl⟩
    have hqM : q < M := by rw [← hq]; exact Nat.mod_lt _ hM0
    obtain ⟨lo, hlo⟩ : ∃ lo, q * K = lo := ⟨_, rfl⟩
    have hlol : lo < bs.length := by
      rcases HM2.out with h | h
      · rw [← hlo]; exact Nat.lt_of_le_of_lt (Nat.mul_le_mul_right _ (by omega)) h
      · omega
    obtain ⟨e, he⟩ : ∃ e, min K (bs.length - lo) = e := ⟨_, rfl⟩
    have he1 : 0 < e := by omega
    have heK : e ≤ K := by omega
    have hel : lo + e ≤ bs.length := by omega
    obtain ⟨ad, rfl, hab, hcs⟩ := HRD.out (by simp; omega)
    have hch : chunkV (some ad) K bs.length (x % M) = .slice (some (ad.add lo)) e e := by
      rw [hq]
      simp only [chunkV, Option.map_some, hlo, he]
    rw [hch]
    have hbwW : Below w.heap.size w W := hwW.trans (hbel.mono hwO)
    have hrow : IsRow W W.heap.size none (.slice (some (ad.add lo)) e e) ((bs.drop lo).take e) := by
      have hl : ((bs.drop lo).take e).length = e := by rw [List.length_take, List.length_drop]; omega
      refine ⟨some (ad.add lo), e, by rw [hl], by omega, by simp only [maxLen]; omega, fun _ => ⟨_, rfl, by rw [block_of_add]; exact Nat.lt_of_lt_of_le hab hbwW.size, fun j u hu => ?_⟩, fun _ _ _ => by simp⟩
      rw [add_of_add, hbwW.cell (by rw [block_of_add]; exact hab)]
      refine hcs _ u ?_
      rw [List.map_take, List.getElem?_take] at hu
      split at hu
      · rw [← hu, List.map_drop, List.getElem?_drop]
      · cases hu
    have hfin := blk_chunk hlo he hlol
    have hck : W.cell? ⟨w.heap.size, 1, none⟩ = some (.int .i64 k) := (HC0.out.below hbel hcO).cell rfl
    gi_wp2
    refine wpIn_region_held_drew (S := fun w' => Below w1.heap.size W w') (by kernel_rfl) ?hnd ?hlo (Below.refl _ _).drew (fun hHeld => ?_)
    case hnd =>
      intro i o ho c hc
      have hm := Array.mem_of_getElem? ho
      simp only [List.mem_toArray, List.mem_cons, List.not_mem_nil, or_false] at hm
      rcases hm with rfl | rfl | rfl | rfl | rfl | rfl | rfl | rfl | rfl | rfl | rfl | rfl <;> cases hc
    case hlo =>
      rintro ⟨a, w', h⟩
      exact h
    have hckS : ∀ w', Below w1.heap.size W w' → w'.cell? ⟨w.heap.size, 1, none⟩ = some (.int .i64 k) := fun w' h => (h.cell (p := ⟨w.heap.size, 1, none⟩) hcO).trans hck
    have hkw : IntKind.i64.wrap (k - (e : Int)) = ((K - e : Nat) : Int) := by have := HK.out; rw [this, ← Int.ofNat_sub heK]; exact wrap_small (Nat.le_trans (Nat.sub_le _ _) (Nat.le_trans hK2 (by decide)))
    refine wpAnyH_take (i := 1) (oi := ⟨some 26, Op.move (Operand.tmp 11), 22, "weave.go:36", #[], none⟩) (v := .slice (some (ad.add lo)) e e) rfl (by kernel_rfl) (by kernel_rfl) (by kernel_rfl) (fun _ _ _ h => h) (Or.inl ⟨by rfl, fun w' hS => by go_simp⟩) hHeld ?_
    try simp only [Act.put, List.setIfInBounds_toArray, List.set_cons_zero, List.set_cons_succ]
    refine wpAnyH_take (i := 3) (oi := ⟨some 28, Op.fieldAddr 24 (Operand.tmp 3) 1, 0, "weave.go:36", #[], none⟩) (v := .pointer (some ⟨w.heap.size, 1, none⟩)) rfl (by kernel_rfl) (by kernel_rfl) (by kernel_rfl) (fun _ _ _ h => h) (Or.inl ⟨by rfl, fun w' hS => by go_simp⟩) hHeld ?_
    try simp only [Act.put, List.setIfInBounds_toArray, List.set_cons_zero, List.set_cons_succ]
    refine wpAnyH_take (i := 4) (oi := ⟨some 29, Op.load 3 (Operand.tmp 28), 3, "weave.go:36", #[⟨3, .data⟩], none⟩) (v := .int .i64 k) rfl (by kernel_rfl) (by kernel_rfl) (by kernel_rfl) (fun _ _ _ h => h) (Or.inl ⟨by rfl, fun w' hS => by have h := hckS w' hS; go_simp⟩) hHeld ?_
    try simp only [Act.put, List.setIfInBounds_toArray, List.set_cons_zero, List.set_cons_succ]
    refine wpAnyH_take (i := 5) (oi := ⟨some 30, Op.move (Operand.tmp 11), 22, "weave.go:36", #[], none⟩) (v := .slice (some (ad.add lo)) e e) rfl (by kernel_rfl) (by kernel_rfl) (by kernel_rfl) (fun _ _ _ h => h) (Or.inl ⟨by rfl, fun w' hS => by go_simp⟩) hHeld ?_
    try simp only [Act.put, List.setIfInBounds_toArray, List.set_cons_zero, List.set_cons_succ]
    refine wpAnyH_take (i := 6) (oi := ⟨some 31, Op.call { callee := Callee.builtin Builtin.len, args := #[Operand.tmp 30], argTypes := #[22] }, 3, "weave.go:36", #[⟨5, .data⟩], none⟩) (v := .int .i64 (e : Int)) rfl (by kernel_rfl) (by kernel_rfl) (by kernel_rfl) (fun _ _ _ h => h) (Or.inl ⟨by rfl, fun w' hS => by go_simp⟩) hHeld ?_
    try simp only [Act.put, List.setIfInBounds_toArray, List.set_cons_zero, List.set_cons_succ]
    refine wpAnyH_take (i := 7) (oi := ⟨some 32, Op.binOp BinOp.sub 3 (Operand.tmp 29) (Operand.tmp 31) 3, 3, "weave.go:36", #[⟨4, .data⟩, ⟨6, .data⟩], none⟩) (v := .int .i64 ((K - e : Nat) : Int)) rfl (by kernel_rfl) (by kernel_rfl) (by kernel_rfl) (fun _ _ _ h => h) (Or.inl ⟨by rfl, fun w' hS => by go_simp⟩) hHeld ?_
    try simp only [Act.put, List.setIfInBounds_toArray, List.set_cons_zero, List.set_cons_succ]
    obtain ⟨old, hold⟩ : ∃ old, (pre.map fun x => blkU K bs (x % M)) = old := ⟨_, rfl⟩
    have hol : old.length ≤ 1000255 := by rw [← hold, List.length_map]; exact Nat.le_trans hle (Nat.le_trans (Nat.le_mul_of_pos_right _ hK1) (Nat.le_trans HML.out (Nat.le_refl _)))
    rw [hold] at hown
    have hOlt : w1.heap.size < W.heap.size := by have := hbel.size; omega
    have hOle := Nat.le_of_lt hOlt
    have hWW : W0.heap.size ≤ W.heap.size := hbel.size
    have HB0 := bx ((Below.refl W.heap.size W).drew)
    have hrl : ((bs.drop lo).take e).length = e := by rw [List.length_take, List.length_drop]; omega
    have hrow0 : IsRow W.drew W.drew.heap.size none (.slice (some (ad.add lo)) e e) ((bs.drop lo).take e) := hrow.below (Below.refl _ W).drew
    obtain ⟨i0, hi0, h11, h12, h13⟩ := info_parts bytes_info
    refine wpAnyH_ready (rs := [0, 2]) (by kernel_rfl) (by simp) ?_
    refine AllReadyH.cons (o := ⟨some 25, Op.load 27 (Operand.tmp 10), 27, "weave.go:36", #[], none⟩) rfl (fun Kc hKc => ?_) (AllReadyH.cons (o := ⟨some 27, Op.call { callee := Callee.value (Operand.func 26), args := #[Operand.tmp 26], argTypes := #[22] }, 22, "weave.go:36", #[⟨1, .data⟩], none⟩) rfl (fun Kc hKc => ?_) AllReadyH.nil)
    · skip
      rw [if_pos (by rfl)]
      have hcb : (W.drew).cell? ⟨w1.heap.size, 0, none⟩ = some v := (box_below hv HB0.out hOlt).cell
      try go_simp
      refine hKc.out _ _ ((HB0.out).mono hOle) (fun _ => ?_)
      clear hKc Kc hcb
      try simp only [Act.put, List.setIfInBounds_toArray, List.set_cons_zero, List.set_cons_succ]
      refine wpAnyH_ready (rs := [2]) (by kernel_rfl) (by simp) ?_
      refine AllReadyH.cons (o := ⟨some 27, Op.call { callee := Callee.value (Operand.func 26), args := #[Operand.tmp 26], argTypes := #[22] }, 22, "weave.go:36", #[⟨1, .data⟩], none⟩) rfl (fun Kc hKc => ?_) AllReadyH.nil
      rw [if_pos (by rfl)]
      try go_simp
      refine (clone_any (ad.add lo) e e ((bs.drop lo).take e) _ hrl he1 (by omega) hrow0).mono ?_
      rintro e5 w5 ⟨g5, c5, rfl, ho5, hb5⟩
      have HB5 : Bx (Below W.heap.size W w5) := bx (HB0.out.trans hb5)
      try go_simp
      refine hKc.out _ _ (HB5.out.mono hOle) (fun _ => ?_)
      clear hKc Kc hb5
      try simp only [Act.put, List.setIfInBounds_toArray, List.set_cons_zero, List.set_cons_succ]
      refine wpAnyH_ready (rs := [8]) (by kernel_rfl) (by simp) ?_
      refine AllReadyH.cons (o := ⟨some 33, Op.call { callee := Callee.builtin Builtin.append, args := #[Operand.tmp 27, Operand.tmp 32], argTypes := #[22, 3] }, 22, "weave.go:36", #[⟨2, .data⟩, ⟨7, .data⟩, ⟨2, .chain⟩], none⟩) rfl (fun Kc hKc => ?_) AllReadyH.nil
      rw [if_pos (by rfl)]
      obtain ⟨_, _, hvv, hbg5, _⟩ := ho5.form he1
      cases hvv
      obtain ⟨g6, c6, w6, hr6, ho6, hg6, _, _⟩ := run_append_make w5 W.heap.size 22 3 22 5 .i64 i0 (.int .u8 0) 1 Try.underlying22 Try.underlying3 hi0 h11 h12 h13 rfl rfl g5 e c5 _ ho5 (K - e) (by omega) (by decide) HB5.out.size
      rw [show e + (K - e) = K by omega] at hr6 ho6
      refine wp_append (.tmp 27) (.tmp 32) 22 3 rfl rfl rfl hr6 ?_
      have HB6 : Bx (Below W.heap.size W w6) := bx (HB5.out.grown hg6 HB5.out.size (fun k hk => by cases hk; exact hbg5))
      refine hKc.out _ _ (HB6.out.mono hOle) (fun _ => ?_)
      clear hKc Kc
      try simp only [Act.put, List.setIfInBounds_toArray, List.set_cons_zero, List.set_cons_succ]
      refine wpAnyH_ready (rs := [9]) (by kernel_rfl) (by simp) ?_
      refine AllReadyH.cons (o := ⟨some 34, Op.buildSlice 27 1 #[(0, Operand.tmp 33)], 27, "weave.go:36", #[⟨8, .data⟩], none⟩) rfl (fun Kc hKc => ?_) AllReadyH.nil
      rw [if_pos (by rfl)]
      try go_simp
      have HB7 := bx (HB6.out.alloc HB6.out.size (.cells #[.slice (some ⟨g6, 0, none⟩) K c6] 22))
      refine hKc.out _ _ (HB7.out.mono hOle) (fun _ => ?_)
      clear hKc Kc
      try simp only [Act.put, List.setIfInBounds_toArray, List.set_cons_zero, List.set_cons_succ]
      refine wpAnyH_ready (rs := [10]) (by kernel_rfl) (by simp) ?_
      refine AllReadyH.cons (o := ⟨some 35, Op.call { callee := Callee.builtin Builtin.append, args := #[Operand.tmp 25, Operand.tmp 34], argTypes := #[27, 27] }, 27, "weave.go:36", #[⟨0, .data⟩, ⟨9, .data⟩, ⟨8, .chain⟩], none⟩) rfl (fun Kc hKc => ?_) AllReadyH.nil
      rw [if_pos (by rfl)]
      have hrow6 := blk_own hfin ho6 hown.own.blt hWW
      obtain ⟨g8, l8, c8, w8, hr8, ho8, hb8, hk8⟩ := run_ap_lst 27 W0.heap.size v old (hown.keep HB6.out) (blkU K bs q) 1 hrow6.1 hrow6.2 (by omega) (Nat.le_trans hWW HB6.out.size)
      refine wp_append (.tmp 25) (.tmp 34) 27 27 rfl rfl rfl hr8 ?_
      have HS8 : Bx (Below w1.heap.size W w8) := bx ((HB6.out.mono hOle).trans (hb8.mono (by omega)))
      refine hKc.out _ _ HS8.out (fun _ => ?_)
      clear hKc Kc
      try simp only [Act.put, List.setIfInBounds_toArray, List.set_cons_zero, List.set_cons_succ]
      refine wpAnyH_ready (rs := [11]) (by kernel_rfl) (by simp) ?_
      refine AllReadyH.cons (o := ⟨none, Op.store 27 (Operand.tmp 10) (Operand.tmp 35), 0, "weave.go:36", #[⟨10, .data⟩, ⟨10, .chain⟩, ⟨0, .phase⟩, ⟨1, .phase⟩, ⟨2, .phase⟩, ⟨3, .phase⟩, ⟨4, .phase⟩, ⟨5, .phase⟩, ⟨6, .phase⟩, ⟨7, .phase⟩, ⟨8, .phase⟩, ⟨9, .phase⟩, ⟨10, .phase⟩], none⟩) rfl (fun Kc hKc => ?_) AllReadyH.nil
      rw [if_pos (by rfl)]
      have hbx8 : Boxed w8 w1.heap.size 27 v := box_below (box_below hv HB6.out hOlt) hb8 (by omega)
      have hc8 : w8.cell? ⟨w1.heap.size, 0, none⟩ = some v := hbx8.cell
      have hf8 : w8.frozen? ⟨w1.heap.size, 0, none⟩ = false := hbx8.frozen
      try go_simp
      refine hKc.out _ _ (HS8.out.setCell (Nat.le_refl _) _) (fun _ => ?_)
      clear hKc Kc
      try simp only [Act.put, List.setIfInBounds_toArray, List.set_cons_zero, List.set_cons_succ]
      refine wpAnyH_done (by kernel_rfl) ?_ _
      refine ⟨(((HKO HB6.out).trans hk8).trans (KeepsOthers.setCell _ _ _)).from _, ⟨HS8.out.setCell (Nat.le_refl _) _, ?_, ?_⟩, ⟨_, Blk.set (cs := [v]) hbx8 _, ?_⟩, hbel.trans (HS8.out.setCell (Nat.le_refl _) _), ?_⟩
      · rw [heap_setCell_other _ _ _ _ (by simp), hb8.block _ (by omega), HB6.out.block _ (by omega)]
      · rw [heap_setCell_other _ _ _ _ (by simp <;> omega), hb8.block _ (by omega), HB6.out.block _ (by omega)]
      · rw [List.map_append, hold, List.map_singleton, hq]; exact ho8.set (by omega) _ _
      · rw [List.length_append, List.length_singleton]; exact hlt
    · skip
      rw [if_pos (by rfl)]
      try go_simp
      refine (clone_any (ad.add lo) e e ((bs.drop lo).take e) _ hrl he1 (by omega) hrow0).mono ?_
      rintro e5 w5 ⟨g5, c5, rfl, ho5, hb5⟩
      have HB5 : Bx (Below W.heap.size W w5) := bx (HB0.out.trans hb5)
      try go_simp
      refine hKc.out _ _ (HB5.out.mono hOle) (fun _ => ?_)
      clear hKc Kc hb5
      try simp only [Act.put, List.setIfInBounds_toArray, List.set_cons_zero, List.set_cons_succ]
      refine wpAnyH_ready (rs := [0, 8]) (by kernel_rfl) (by simp) ?_
      refine AllReadyH.cons (o := ⟨some 25, Op.load 27 (Operand.tmp 10), 27, "weave.go:36", #[], none⟩) rfl (fun Kc hKc => ?_) (AllReadyH.cons (o := ⟨some 33, Op.call { callee := Callee.builtin Builtin.append, args := #[Operand.tmp 27, Operand.tmp 32], argTypes := #[22, 3] }, 22, "weave.go:36", #[⟨2, .data⟩, ⟨7, .data⟩, ⟨2, .chain⟩], none⟩) rfl (fun Kc hKc => ?_) AllReadyH.nil)
      · skip
        rw [if_pos (by rfl)]
        have hcb : (w5).cell? ⟨w1.heap.size, 0, none⟩ = some v := (box_below hv HB5.out hOlt).cell
        try go_simp
        refine hKc.out _ _ ((HB5.out).mono hOle) (fun _ => ?_)
        clear hKc Kc hcb
        try simp only [Act.put, List.setIfInBounds_toArray, List.set_cons_zero, List.set_cons_succ]
        refine wpAnyH_ready (rs := [8]) (by kernel_rfl) (by simp) ?_
        refine AllReadyH.cons (o := ⟨some 33, Op.call { callee := Callee.builtin Builtin.append, args := #[Operand.tmp 27, Operand.tmp 32], argTypes := #[22, 3] }, 22, "weave.go:36", #[⟨2, .data⟩, ⟨7, .data⟩, ⟨2, .chain⟩], none⟩) rfl (fun Kc hKc => ?_) AllReadyH.nil
        rw [if_pos (by rfl)]
        obtain ⟨_, _, hvv, hbg5, _⟩ := ho5.form he1
        cases hvv
        obtain ⟨g6, c6, w6, hr6, ho6, hg6, _, _⟩ := run_append_make w5 W.heap.size 22 3 22 5 .i64 i0 (.int .u8 0) 1 Try.underlying22 Try.underlying3 hi0 h11 h12 h13 rfl rfl g5 e c5 _ ho5 (K - e) (by omega) (by decide) HB5.out.size
        rw [show e + (K - e) = K by omega] at hr6 ho6
        refine wp_append (.tmp 27) (.tmp 32) 22 3 rfl rfl rfl hr6 ?_
        have HB6 : Bx (Below W.heap.size W w6) := bx (HB5.out.grown hg6 HB5.out.size (fun k hk => by cases hk; exact hbg5))
        refine hKc.out _ _ (HB6.out.mono hOle) (fun _ => ?_)
        clear hKc Kc
        try simp only [Act.put, List.setIfInBounds_toArray, List.set_cons_zero, List.set_cons_succ]
        refine wpAnyH_ready (rs := [9]) (by kernel_rfl) (by simp) ?_
        refine AllReadyH.cons (o := ⟨some 34, Op.buildSlice 27 1 #[(0, Operand.tmp 33)], 27, "weave.go:36", #[⟨8, .data⟩], none⟩) rfl (fun Kc hKc => ?_) AllReadyH.nil
        rw [if_pos (by rfl)]
        try go_simp
        have HB7 := bx (HB6.out.alloc HB6.out.size (.cells #[.slice (some ⟨g6, 0, none⟩) K c6] 22))
        refine hKc.out _ _ (HB7.out.mono hOle) (fun _ => ?_)
        clear hKc Kc
        try simp only [Act.put, List.setIfInBounds_toArray, List.set_cons_zero, List.set_cons_succ]
        refine wpAnyH_ready (rs := [10]) (by kernel_rfl) (by simp) ?_
        refine AllReadyH.cons (o := ⟨some 35, Op.call { callee := Callee.builtin Builtin.append, args := #[Operand.tmp 25, Operand.tmp 34], argTypes := #[27, 27] }, 27, "weave.go:36", #[⟨0, .data⟩, ⟨9, .data⟩, ⟨8, .chain⟩], none⟩) rfl (fun Kc hKc => ?_) AllReadyH.nil
        rw [if_pos (by rfl)]
        have hrow6 := blk_own hfin ho6 hown.own.blt hWW
        obtain ⟨g8, l8, c8, w8, hr8, ho8, hb8, hk8⟩ := run_ap_lst 27 W0.heap.size v old (hown.keep HB6.out) (blkU K bs q) 1 hrow6.1 hrow6.2 (by omega) (Nat.le_trans hWW HB6.out.size)
        refine wp_append (.tmp 25) (.tmp 34) 27 27 rfl rfl rfl hr8 ?_
        have HS8 : Bx (Below w1.heap.size W w8) := bx ((HB6.out.mono hOle).trans (hb8.mono (by omega)))
        refine hKc.out _ _ HS8.out (fun _ => ?_)
        clear hKc Kc
        try simp only [Act.put, List.setIfInBounds_toArray, List.set_cons_zero, List.set_cons_succ]
        refine wpAnyH_ready (rs := [11]) (by kernel_rfl) (by simp) ?_
        refine AllReadyH.cons (o := ⟨none, Op.store 27 (Operand.tmp 10) (Operand.tmp 35), 0, "weave.go:36", #[⟨10, .data⟩, ⟨10, .chain⟩, ⟨0, .phase⟩, ⟨1, .phase⟩, ⟨2, .phase⟩, ⟨3, .phase⟩, ⟨4, .phase⟩, ⟨5, .phase⟩, ⟨6, .phase⟩, ⟨7, .phase⟩, ⟨8, .phase⟩, ⟨9, .phase⟩, ⟨10, .phase⟩], none⟩) rfl (fun Kc hKc => ?_) AllReadyH.nil
        rw [if_pos (by rfl)]
        have hbx8 : Boxed w8 w1.heap.size 27 v := box_below (box_below hv HB6.out hOlt) hb8 (by omega)
        have hc8 : w8.cell? ⟨w1.heap.size, 0, none⟩ = some v := hbx8.cell
        have hf8 : w8.frozen? ⟨w1.heap.size, 0, none⟩ = false := hbx8.frozen
        try go_simp
        refine hKc.out _ _ (HS8.out.setCell (Nat.le_refl _) _) (fun _ => ?_)
        clear hKc Kc
        try simp only [Act.put, List.setIfInBounds_toArray, List.set_cons_zero, List.set_cons_succ]
        refine wpAnyH_done (by kernel_rfl) ?_ _
        refine ⟨(((HKO HB6.out).trans hk8).trans (KeepsOthers.setCell _ _ _)).from _, ⟨HS8.out.setCell (Nat.le_refl _) _, ?_, ?_⟩, ⟨_, Blk.set (cs := [v]) hbx8 _, ?_⟩, hbel.trans (HS8.out.setCell (Nat.le_refl _) _), ?_⟩
        · rw [heap_setCell_other _ _ _ _ (by simp), hb8.block _ (by omega), HB6.out.block _ (by omega)]
        · rw [heap_setCell_other _ _ _ _ (by simp <;> omega), hb8.block _ (by omega), HB6.out.block _ (by omega)]
        · rw [List.map_append, hold, List.map_singleton, hq]; exact ho8.set (by omega) _ _
        · rw [List.length_append, List.length_singleton]; exact hlt
      · skip
        rw [if_pos (by rfl)]
        obtain ⟨_, _, hvv, hbg5, _⟩ := ho5.form he1
        cases hvv
        obtain ⟨g6, c6, w6, hr6, ho6, hg6, _, _⟩ := run_append_make w5 W.heap.size 22 3 22 5 .i64 i0 (.int .u8 0) 1 Try.underlying22 Try.underlying3 hi0 h11 h12 h13 rfl rfl g5 e c5 _ ho5 (K - e) (by omega) (by decide) HB5.out.size
        rw [show e + (K - e) = K by omega] at hr6 ho6
        refine wp_append (.tmp 27) (.tmp 32) 22 3 rfl rfl rfl hr6 ?_
        have HB6 : Bx (Below W.heap.size W w6) := bx (HB5.out.grown hg6 HB5.out.size (fun k hk => by cases hk; exact hbg5))
        refine hKc.out _ _ (HB6.out.mono hOle) (fun _ => ?_)
        clear hKc Kc
        try simp only [Act.put, List.setIfInBounds_toArray, List.set_cons_zero, List.set_cons_succ]
        refine wpAnyH_ready (rs := [0, 9]) (by kernel_rfl) (by simp) ?_
        refine AllReadyH.cons (o := ⟨some 25, Op.load 27 (Operand.tmp 10), 27, "weave.go:36", #[], none⟩) rfl (fun Kc hKc => ?_) (AllReadyH.cons (o := ⟨some 34, Op.buildSlice 27 1 #[(0, Operand.tmp 33)], 27, "weave.go:36", #[⟨8, .data⟩], none⟩) rfl (fun Kc hKc => ?_) AllReadyH.nil)
        · skip
          rw [if_pos (by rfl)]
          have hcb : (w6).cell? ⟨w1.heap.size, 0, none⟩ = some v := (box_below hv HB6.out hOlt).cell
          try go_simp
          refine hKc.out _ _ ((HB6.out).mono hOle) (fun _ => ?_)
          clear hKc Kc hcb
          try simp only [Act.put, List.setIfInBounds_toArray, List.set_cons_zero, List.set_cons_succ]
          refine wpAnyH_ready (rs := [9]) (by kernel_rfl) (by simp) ?_
          refine AllReadyH.cons (o := ⟨some 34, Op.buildSlice 27 1 #[(0, Operand.tmp 33)], 27, "weave.go:36", #[⟨8, .data⟩], none⟩) rfl (fun Kc hKc => ?_) AllReadyH.nil
          rw [if_pos (by rfl)]
          try go_simp
          have HB7 := bx (HB6.out.alloc HB6.out.size (.cells #[.slice (some ⟨g6, 0, none⟩) K c6] 22))
          refine hKc.out _ _ (HB7.out.mono hOle) (fun _ => ?_)
          clear hKc Kc
          try simp only [Act.put, List.setIfInBounds_toArray, List.set_cons_zero, List.set_cons_succ]
          refine wpAnyH_ready (rs := [10]) (by kernel_rfl) (by simp) ?_
          refine AllReadyH.cons (o := ⟨some 35, Op.call { callee := Callee.builtin Builtin.append, args := #[Operand.tmp 25, Operand.tmp 34], argTypes := #[27, 27] }, 27, "weave.go:36", #[⟨0, .data⟩, ⟨9, .data⟩, ⟨8, .chain⟩], none⟩) rfl (fun Kc hKc => ?_) AllReadyH.nil
          rw [if_pos (by rfl)]
          have hrow6 := blk_own hfin ho6 hown.own.blt hWW
          obtain ⟨g8, l8, c8, w8, hr8, ho8, hb8, hk8⟩ := run_ap_lst 27 W0.heap.size v old (hown.keep HB6.out) (blkU K bs q) 1 hrow6.1 hrow6.2 (by omega) (Nat.le_trans hWW HB6.out.size)
          refine wp_append (.tmp 25) (.tmp 34) 27 27 rfl rfl rfl hr8 ?_
          have HS8 : Bx (Below w1.heap.size W w8) := bx ((HB6.out.mono hOle).trans (hb8.mono (by omega)))
          refine hKc.out _ _ HS8.out (fun _ => ?_)
          clear hKc Kc
          try simp only [Act.put, List.setIfInBounds_toArray, List.set_cons_zero, List.set_cons_succ]
          refine wpAnyH_ready (rs := [11]) (by kernel_rfl) (by simp) ?_
          refine AllReadyH.cons (o := ⟨none, Op.store 27 (Operand.tmp 10) (Operand.tmp 35), 0, "weave.go:36", #[⟨10, .data⟩, ⟨10, .chain⟩, ⟨0, .phase⟩, ⟨1, .phase⟩, ⟨2, .phase⟩, ⟨3, .phase⟩, ⟨4, .phase⟩, ⟨5, .phase⟩, ⟨6, .phase⟩, ⟨7, .phase⟩, ⟨8, .phase⟩, ⟨9, .phase⟩, ⟨10, .phase⟩], none⟩) rfl (fun Kc hKc => ?_) AllReadyH.nil
          rw [if_pos (by rfl)]
          have hbx8 : Boxed w8 w1.heap.size 27 v := box_below (box_below hv HB6.out hOlt) hb8 (by omega)
          have hc8 : w8.cell? ⟨w1.heap.size, 0, none⟩ = some v := hbx8.cell
          have hf8 : w8.frozen? ⟨w1.heap.size, 0, none⟩ = false := hbx8.frozen
          try go_simp
          refine hKc.out _ _ (HS8.out.setCell (Nat.le_refl _) _) (fun _ => ?_)
          clear hKc Kc
          try simp only [Act.put, List.setIfInBounds_toArray, List.set_cons_zero, List.set_cons_succ]
          refine wpAnyH_done (by kernel_rfl) ?_ _
          refine ⟨(((HKO HB6.out).trans hk8).trans (KeepsOthers.setCell _ _ _)).from _, ⟨HS8.out.setCell (Nat.le_refl _) _, ?_, ?_⟩, ⟨_, Blk.set (cs := [v]) hbx8 _, ?_⟩, hbel.trans (HS8.out.setCell (Nat.le_refl _) _), ?_⟩
          · rw [heap_setCell_other _ _ _ _ (by simp), hb8.block _ (by omega), HB6.out.block _ (by omega)]
          · rw [heap_setCell_other _ _ _ _ (by simp <;> omega), hb8.block _ (by omega), HB6.out.block _ (by omega)]
          · rw [List.map_append, hold, List.map_singleton, hq]; exact ho8.set (by omega) _ _
          · rw [List.length_append, List.length_singleton]; exact hlt
        · skip
          rw [if_pos (by rfl)]
          try go_simp
          have HB7 := bx (HB6.out.alloc HB6.out.size (.cells #[.slice (some ⟨g6, 0, none⟩) K c6] 22))
          refine hKc.out _ _ (HB7.out.mono hOle) (fun _ => ?_)
          clear hKc Kc
          try simp only [Act.put, List.setIfInBounds_toArray, List.set_cons_zero, List.set_cons_succ]
          refine wpAnyH_ready (rs := [0]) (by kernel_rfl) (by simp) ?_
          refine AllReadyH.cons (o := ⟨some 25, Op.load 27 (Operand.tmp 10), 27, "weave.go:36", #[], none⟩) rfl (fun Kc hKc => ?_) AllReadyH.nil
          rw [if_pos (by rfl)]
          have hcb : (w6.alloc (.cells #[.slice (some ⟨g6, 0, none⟩) K c6] 22)).cell? ⟨w1.heap.size, 0, none⟩ = some v := (box_below hv HB7.out hOlt).cell
          try go_simp
          refine hKc.out _ _ ((HB7.out).mono hOle) (fun _ => ?_)
          clear hKc Kc hcb
          try simp only [Act.put, List.setIfInBounds_toArray, List.set_cons_zero, List.set_cons_succ]
          refine wpAnyH_ready (rs := [10]) (by kernel_rfl) (by simp) ?_
          refine AllReadyH.cons (o := ⟨some 35, Op.call { callee := Callee.builtin Builtin.append, args := #[Operand.tmp 25, Operand.tmp 34], argTypes := #[27, 27] }, 27, "weave.go:36", #[⟨0, .data⟩, ⟨9, .data⟩, ⟨8, .chain⟩], none⟩) rfl (fun Kc hKc => ?_) AllReadyH.nil
          rw [if_pos (by rfl)]
          have hrow6 := blk_own hfin ho6 hown.own.blt hWW
          obtain ⟨g8, l8, c8, w8, hr8, ho8, hb8, hk8⟩ := run_ap_lst 27 W0.heap.size v old (hown.keep HB6.out) (blkU K bs q) 1 hrow6.1 hrow6.2 (by omega) (Nat.le_trans hWW HB6.out.size)
          refine wp_append (.tmp 25) (.tmp 34) 27 27 rfl rfl rfl hr8 ?_
          have HS8 : Bx (Below w1.heap.size W w8) := bx ((HB6.out.mono hOle).trans (hb8.mono (by omega)))
          refine hKc.out _ _ HS8.out (fun _ => ?_)
          clear hKc Kc
          try simp only [Act.put, List.setIfInBounds_toArray, List.set_cons_zero, List.set_cons_succ]
          refine wpAnyH_ready (rs := [11]) (by kernel_rfl) (by simp) ?_
          refine AllReadyH.cons (o := ⟨none, Op.store 27 (Operand.tmp 10) (Operand.tmp 35), 0, "weave.go:36", #[⟨10, .data⟩, ⟨10, .chain⟩, ⟨0, .phase⟩, ⟨1, .phase⟩, ⟨2, .phase⟩, ⟨3, .phase⟩, ⟨4, .phase⟩, ⟨5, .phase⟩, ⟨6, .phase⟩, ⟨7, .phase⟩, ⟨8, .phase⟩, ⟨9, .phase⟩, ⟨10, .phase⟩], none⟩) rfl (fun Kc hKc => ?_) AllReadyH.nil
          rw [if_pos (by rfl)]
          have hbx8 : Boxed w8 w1.heap.size 27 v := box_below (box_below hv HB6.out hOlt) hb8 (by omega)
          have hc8 : w8.cell? ⟨w1.heap.size, 0, none⟩ = some v := hbx8.cell
          have hf8 : w8.frozen? ⟨w1.heap.size, 0, none⟩ = false := hbx8.frozen
          try go_simp
          refine hKc.out _ _ (HS8.out.setCell (Nat.le_refl _) _) (fun _ => ?_)
          clear hKc Kc
          try simp only [Act.put, List.setIfInBounds_toArray, List.set_cons_zero, List.set_cons_succ]
          refine wpAnyH_done (by kernel_rfl) ?_ _
          refine ⟨(((HKO HB6.out).trans hk8).trans (KeepsOthers.setCell _ _ _)).from _, ⟨HS8.out.setCell (Nat.le_refl _) _, ?_, ?_⟩, ⟨_, Blk.set (cs := [v]) hbx8 _, ?_⟩, hbel.trans (HS8.out.setCell (Nat.le_refl _) _), ?_⟩
          · rw [heap_setCell_other _ _ _ _ (by simp), hb8.block _ (by omega), HB6.out.block _ (by omega)]
          · rw [heap_setCell_other _ _ _ _ (by simp <;> omega), hb8.block _ (by omega), HB6.out.block _ (by omega)]
          · rw [List.map_append, hold, List.map_singleton, hq]; exact ho8.set (by omega) _ _
          · rw [List.length_append, List.length_singleton]; exact hlt
  case done =>
    rintro D' ys W hD' rfl ⟨⟨v, hv, hown⟩, hbel, _⟩ hKD
    have hD1 : 1 ≤ D := by have := HD.out; omega
    have hown0 : OwnLst2 W W0.heap.size v (blocksL K bs M) := by
      have e1 : ((List.range M).map fun x => blkU K bs (x % M)) = blocksL K bs M := by
        unfold blocksL
        apply List.map_congr_left
        intro x hx
        rw [Nat.mod_eq_of_lt (List.mem_range.1 hx)]
      rw [e1] at hown; exact hown
    obtain ⟨M', hM'⟩ : ∃ M', (M + D - 1) / D * D = M' := ⟨_, rfl⟩
    have hMM : M ≤ M' := by rw [← hM']; have h1 := Nat.div_add_mod (M + D - 1) D; have h2 := Nat.mod_lt (M + D - 1) hD1; rw [Nat.mul_comm] at h1; omega
    have hMD : M' < M + D := by rw [← hM']; have h1 := Nat.div_mul_le_self (M + D - 1) D; omega
    have hM0 : M' % D = 0 := by rw [← hM']; exact Nat.mul_mod_left _ _
    have HMM := bx hMM
    have HMD := bx hMD
    have HM0 := bx hM0
    have HV := bx hv
    have HO := bx hown0
    have HBL := bx hbel
    have HKD := bx hKD
    clear hown hown0 hM' hMM hMD hM0 hv hbel hKD
    gi_wp2
    have hMD9 : M + D ≤ 1000000000 := by have := HML.out; have h1 : M * 1 ≤ M * K := Nat.mul_le_mul_left _ hK1; have := HD.out; omega
    have hcO' := hcO
    gi_loopg [] (M' - M) (fun gg wr => ∃ (m : Nat) (v' : Value), M ≤ m ∧ m ≤ M' ∧ M' - m ≤ gg ∧ Boxed wr w1.heap.size 27 v' ∧ OwnLst2 wr W0.heap.size v' (blocksL K bs m) ∧ Below w1.heap.size W0 wr ∧ wr.heap[D']? = some (.deferred (some [])))
    case atStart => exact ⟨M, v, Nat.le_refl _, HMM.out, Nat.le_refl _, HV.out, HO.out, HBL.out, HKD.out⟩
    case round =>
      obtain ⟨m, v', hMm, hmM, hgg, hv', ho', hb', hk'⟩ := hrel
      have hbl : (blocksL K bs m).length = m := by simp [blocksL]
      obtain ⟨A3, c3, rfl⟩ : ∃ A3 c3, v' = .slice A3 m c3 := by
        obtain ⟨vs, h1, _⟩ := ho'
        obtain ⟨A3, c3, e3, _⟩ := own_slice h1
        exact ⟨A3, c3, by rw [e3, hbl]⟩
      have hcO : wr.cell? ⟨w1.heap.size, 0, none⟩ = some (.slice A3 m c3) := hv'.cell
      have hm0 : (0 : Int) ≤ (m : Int) := Int.natCast_nonneg _
      have hd0 : ¬ d = 0 := by omega
      have hmz : (m : Int) % d = ((m % D : Nat) : Int) := by rw [HD.out]; simp
      have HV' := bx hv'
      have HO' := bx ho'
      have HB' := bx hb'
      have HKD' := bx hk'
      have HMZ := bx hmz
      clear hv' ho' hb' hk' hmz
      by_cases hmd : m % D = 0
      · have hz : (m : Int) % d = 0 := by rw [HMZ.out, hmd]; rfl
        gi_wp2
        refine ⟨by simp, .inl ⟨_, _, rfl, run_takeDeferred HKD'.out, ?_⟩⟩
        have hlst := (HO'.out.kept (grownBy_putObj' wr D' (.deferred none)) (fun r e => by cases e; exact ⟨_, HKD'.out, rfl⟩)).own.lst
        exact ⟨_, results_tmp2 rfl _ _ _, ⟨_, m, rfl, hMm, Nat.lt_of_le_of_lt hmM HMD.out, hmd, hlst, (hwW.trans (HB'.out.mono hwO)).trans (belowK_b (w := W0) hwW.size wr D' _ _ hD' HKD'.out rfl rfl)⟩⟩
      · have hnz : ¬ (m : Int) % d = 0 := by rw [HMZ.out]; omega
        gi_wp2
        have hOlt : w1.heap.size < wr.heap.size := HV'.out.lt
        have hOle := Nat.le_of_lt hOlt
        have hWW : W0.heap.size ≤ wr.heap.size := HB'.out.size
        have hckS : ∀ w', Below w1.heap.size wr w' → w'.cell? ⟨w.heap.size, 1, none⟩ = some (.int .i64 k) := fun w' h => ((HC0.out.below HB'.out hcO').below h hcO').cell rfl
        have HB0 := bx ((Below.refl wr.heap.size wr).drew)
        have hmk := run_mk2 HK.out hK2
        have hrowL : (blkU K bs m).length = K := blkU_length _ _ _
        have HZERO := bx (blk_zero (bs := bs) (K := K) hMm HM.out)
        have HRL := bx hrowL
        have HBLL := bx hbl
        clear hrowL hbl
        clear hcO hnz hd0
        refine wpIn_wide.2 ?_
        refine wp_region_noPanic ?_
        refine wp_region_held_drew (S := fun w' => Below w1.heap.size wr w') (by kernel_rfl) (HB0.out.mono hOle) (fun hHeld => ?_)
        refine wpAnyH_take (i := 1) (oi := ⟨some 42, Op.fieldAddr 24 (Operand.tmp 3) 1, 0, "weave.go:39", #[], none⟩) (v := .pointer (some ⟨w.heap.size, 1, none⟩)) rfl (by kernel_rfl) (by kernel_rfl) (by kernel_rfl) (fun _ _ _ h => h) (Or.inl ⟨by rfl, fun w' hS => by go_simp⟩) hHeld ?_
        try simp only [Act.put, List.setIfInBounds_toArray, List.set_cons_zero, List.set_cons_succ]
        refine wpAnyH_take (i := 2) (oi := ⟨some 43, Op.load 3 (Operand.tmp 42), 3, "weave.go:39", #[⟨1, .data⟩], none⟩) (v := .int .i64 k) rfl (by kernel_rfl) (by kernel_rfl) (by kernel_rfl) (fun _ _ _ h => h) (Or.inl ⟨by rfl, fun w' hS => by have h := hckS w' hS; go_simp⟩) hHeld ?_
        try simp only [Act.put, List.setIfInBounds_toArray, List.set_cons_zero, List.set_cons_succ]
        refine wpAnyH_ready (rs := [0, 3]) (by kernel_rfl) (by simp) ?_
        refine AllReadyH.cons (o := ⟨some 41, Op.load 27 (Operand.tmp 10), 27, "weave.go:39", #[], none⟩) rfl (fun Kc hKc => ?_) (AllReadyH.cons (o := ⟨some 44, Op.makeSlice 22 (Operand.tmp 43) (Operand.tmp 43), 22, "weave.go:39", #[⟨2, .data⟩, ⟨2, .data⟩], none⟩) rfl (fun Kc hKc => ?_) AllReadyH.nil)
        · skip
          rw [if_pos (by rfl)]
          have hcb : (wr.drew).cell? ⟨w1.heap.size, 0, none⟩ = some (.slice A3 m c3) := (box_below HV'.out HB0.out hOlt).cell
          try go_simp
          refine hKc.out _ _ ((HB0.out).mono hOle) (fun _ => ?_)
          clear hKc Kc hcb
          try simp only [Act.put, List.setIfInBounds_toArray, List.set_cons_zero, List.set_cons_succ]
          refine wpAnyH_ready (rs := [3]) (by kernel_rfl) (by simp) ?_
          refine AllReadyH.cons (o := ⟨some 44, Op.makeSlice 22 (Operand.tmp 43) (Operand.tmp 43), 22, "weave.go:39", #[⟨2, .data⟩, ⟨2, .data⟩], none⟩) rfl (fun Kc hKc => ?_) AllReadyH.nil
          rw [if_pos (by rfl)]
          obtain ⟨w5, hr5, hb5, hz5⟩ := hmk wr.drew
          refine wp_mk 22 _ _ rfl rfl rfl hr5 ?_
          have HB5 : Bx (Below wr.heap.size wr w5) := bx (HB0.out.trans hb5)
          refine hKc.out _ _ (HB5.out.mono hOle) (fun _ => ?_)
          clear hKc Kc hmk hr5 hb5
          try simp only [Act.put, List.setIfInBounds_toArray, List.set_cons_zero, List.set_cons_succ]
          refine wpAnyH_ready (rs := [4]) (by kernel_rfl) (by simp) ?_
          refine AllReadyH.cons (o := ⟨some 45, Op.buildSlice 27 1 #[(0, Operand.tmp 44)], 27, "weave.go:39", #[⟨3, .data⟩], none⟩) rfl (fun Kc hKc => ?_) AllReadyH.nil
          rw [if_pos (by rfl)]
          try go_simp
          have HB6 : Bx (Below wr.heap.size wr (w5.alloc (.cells #[.slice (some ⟨wr.heap.size, 0, none⟩) K K] 22))) := bx (HB5.out.alloc HB5.out.size _)
          refine hKc.out _ _ (HB6.out.mono hOle) (fun _ => ?_)
          clear hKc Kc
          try simp only [Act.put, List.setIfInBounds_toArray, List.set_cons_zero, List.set_cons_succ]
          refine wpAnyH_ready (rs := [5]) (by kernel_rfl) (by simp) ?_
          refine AllReadyH.cons (o := ⟨some 46, Op.call { callee := Callee.builtin Builtin.append, args := #[Operand.tmp 41, Operand.tmp 45], argTypes := #[27, 27] }, 27, "weave.go:39", #[⟨0, .data⟩, ⟨4, .data⟩], none⟩) rfl (fun Kc hKc => ?_) AllReadyH.nil
          rw [if_pos (by rfl)]
          have hblk : Blk w5 wr.heap.size 5 ((blkU K bs m).map B8) := by rw [HZERO.out, ← zs_u8]; exact hz5
          have hrow6 : IsRow w5 w5.heap.size (Value.slice A3 m c3).ownBlock (.slice (some ⟨wr.heap.size, 0, none⟩) K K) (blkU K bs m) := by
            have h := IsRow.of_blk (o := (Value.slice A3 m c3).ownBlock) (c := K) hblk hblk.lt (HO'.out.own.new (Nat.le_refl _)) (by rw [HRL.out]; exact Nat.le_refl _) (by simp only [maxLen]; omega)
            rwa [HRL.out] at h
          have hfrom6 : RowFrom W0.heap.size (.slice (some ⟨wr.heap.size, 0, none⟩) K K) (blkU K bs m) := fun _ ad n c e => by cases e; exact hWW
          obtain ⟨g8, l8, c8, w8, hr8, ho8, hb8, hk8⟩ := run_ap_lst 27 W0.heap.size _ _ (HO'.out.keep HB5.out) (blkU K bs m) 1 hrow6 hfrom6 (by rw [HBLL.out]; exact Nat.le_trans hmM (Nat.le_trans (Nat.le_of_lt HMD.out) hMD9)) (Nat.le_trans hWW HB5.out.size)
          refine wp_append (.tmp 41) (.tmp 45) 27 27 rfl rfl rfl hr8 ?_
          have HS8 : Bx (Below w1.heap.size wr w8) := bx ((HB5.out.mono hOle).trans (hb8.mono (by omega)))
          refine hKc.out _ _ HS8.out (fun _ => ?_)
          clear hKc Kc
          try simp only [Act.put, List.setIfInBounds_toArray, List.set_cons_zero, List.set_cons_succ]
          refine wpAnyH_ready (rs := [6]) (by kernel_rfl) (by simp) ?_
          refine AllReadyH.cons (o := ⟨none, Op.store 27 (Operand.tmp 10) (Operand.tmp 46), 0, "weave.go:39", #[⟨5, .data⟩, ⟨5, .chain⟩, ⟨0, .phase⟩, ⟨1, .phase⟩, ⟨2, .phase⟩, ⟨3, .phase⟩, ⟨4, .phase⟩, ⟨5, .phase⟩], none⟩) rfl (fun Kc hKc => ?_) AllReadyH.nil
          rw [if_pos (by rfl)]
          have hbx8 : Boxed w8 w1.heap.size 27 (.slice A3 m c3) := box_below (box_below HV'.out HB5.out hOlt) hb8 (by omega)
          have hc8 : w8.cell? ⟨w1.heap.size, 0, none⟩ = some (.slice A3 m c3) := hbx8.cell
          have hf8 : w8.frozen? ⟨w1.heap.size, 0, none⟩ = false := hbx8.frozen
          try go_simp
          refine hKc.out _ _ (HS8.out.setCell (Nat.le_refl _) _) (fun _ => ?_)
          clear hKc Kc
          try simp only [Act.put, List.setIfInBounds_toArray, List.set_cons_zero, List.set_cons_succ]
          refine wpAnyH_done (by kernel_rfl) ?_ _
          refine NoPanic.normal ?_
          have hdf : (w8.setCell ⟨w1.heap.size, 0, none⟩ (.slice (some ⟨g8, 0, none⟩) l8 c8)).heap[D']? = some (.deferred (some [])) := by
            rw [heap_setCell_other _ _ _ _ (by simp; omega)]
            exact hk8.same _ _ ((HKO HB5.out).same _ _ HKD'.out rfl) rfl
          have HFIN := bx (show OwnLst2 (w8.setCell ⟨w1.heap.size, 0, none⟩ (.slice (some ⟨g8, 0, none⟩) l8 c8)) W0.heap.size (.slice (some ⟨g8, 0, none⟩) l8 c8) (blocksL K bs (m + 1)) by unfold blocksL; rw [List.range_succ, List.map_append]; exact ho8.set (by omega) _ _)
          have HBX := bx (show Boxed (w8.setCell ⟨w1.heap.size, 0, none⟩ (.slice (some ⟨g8, 0, none⟩) l8 c8)) w1.heap.size 27 (.slice (some ⟨g8, 0, none⟩) l8 c8) from Blk.set (cs := [.slice A3 m c3]) hbx8 _)
          have HS9 := bx (HB'.out.trans (HS8.out.setCell (p := ⟨w1.heap.size, 0, none⟩) (Nat.le_refl _) (.slice (some ⟨g8, 0, none⟩) l8 c8)))
          have hmlt : m < M' := by rcases Nat.lt_or_ge m M' with h | h; · exact h
                                   · exfalso; exact hmd (by rw [show m = M' by omega]; exact HM0.out)
          gi_wp2
          gi_roundg (M' - (m + 1))
          case measure => omega
          case rel => exact ⟨m + 1, _, by omega, hmlt, by omega, HBX.out, HFIN.out, HS9.out, hdf⟩
        · skip
          rw [if_pos (by rfl)]
          obtain ⟨w5, hr5, hb5, hz5⟩ := hmk wr.drew
          refine wp_mk 22 _ _ rfl rfl rfl hr5 ?_
          have HB5 : Bx (Below wr.heap.size wr w5) := bx (HB0.out.trans hb5)
          refine hKc.out _ _ (HB5.out.mono hOle) (fun _ => ?_)
          clear hKc Kc hmk hr5 hb5
          try simp only [Act.put, List.setIfInBounds_toArray, List.set_cons_zero, List.set_cons_succ]
          refine wpAnyH_ready (rs := [0, 4]) (by kernel_rfl) (by simp) ?_
          refine AllReadyH.cons (o := ⟨some 41, Op.load 27 (Operand.tmp 10), 27, "weave.go:39", #[], none⟩) rfl (fun Kc hKc => ?_) (AllReadyH.cons (o := ⟨some 45, Op.buildSlice 27 1 #[(0, Operand.tmp 44)], 27, "weave.go:39", #[⟨3, .data⟩], none⟩) rfl (fun Kc hKc => ?_) AllReadyH.nil)
          · skip
            rw [if_pos (by rfl)]
            have hcb : w5.cell? ⟨w1.heap.size, 0, none⟩ = some (.slice A3 m c3) := (box_below HV'.out HB5.out hOlt).cell
            try go_simp
            refine hKc.out _ _ ((HB5.out).mono hOle) (fun _ => ?_)
            clear hKc Kc hcb
            try simp only [Act.put, List.setIfInBounds_toArray, List.set_cons_zero, List.set_cons_succ]
            refine wpAnyH_ready (rs := [4]) (by kernel_rfl) (by simp) ?_
            refine AllReadyH.cons (o := ⟨some 45, Op.buildSlice 27 1 #[(0, Operand.tmp 44)], 27, "weave.go:39", #[⟨3, .data⟩], none⟩) rfl (fun Kc hKc => ?_) AllReadyH.nil
            rw [if_pos (by rfl)]
            try go_simp
            have HB6 : Bx (Below wr.heap.size wr (w5.alloc (.cells #[.slice (some ⟨wr.heap.size, 0, none⟩) K K] 22))) := bx (HB5.out.alloc HB5.out.size _)
            refine hKc.out _ _ (HB6.out.mono hOle) (fun _ => ?_)
            clear hKc Kc
            try simp only [Act.put, List.setIfInBounds_toArray, List.set_cons_zero, List.set_cons_succ]
            refine wpAnyH_ready (rs := [5]) (by kernel_rfl) (by simp) ?_
            refine AllReadyH.cons (o := ⟨some 46, Op.call { callee := Callee.builtin Builtin.append, args := #[Operand.tmp 41, Operand.tmp 45], argTypes := #[27, 27] }, 27, "weave.go:39", #[⟨0, .data⟩, ⟨4, .data⟩], none⟩) rfl (fun Kc hKc => ?_) AllReadyH.nil
            rw [if_pos (by rfl)]
            have hblk : Blk w5 wr.heap.size 5 ((blkU K bs m).map B8) := by rw [HZERO.out, ← zs_u8]; exact hz5
            have hrow6 : IsRow w5 w5.heap.size (Value.slice A3 m c3).ownBlock (.slice (some ⟨wr.heap.size, 0, none⟩) K K) (blkU K bs m) := by
              have h := IsRow.of_blk (o := (Value.slice A3 m c3).ownBlock) (c := K) hblk hblk.lt (HO'.out.own.new (Nat.le_refl _)) (by rw [HRL.out]; exact Nat.le_refl _) (by simp only [maxLen]; omega)
              rwa [HRL.out] at h
            have hfrom6 : RowFrom W0.heap.size (.slice (some ⟨wr.heap.size, 0, none⟩) K K) (blkU K bs m) := fun _ ad n c e => by cases e; exact hWW
            obtain ⟨g8, l8, c8, w8, hr8, ho8, hb8, hk8⟩ := run_ap_lst 27 W0.heap.size _ _ (HO'.out.keep HB5.out) (blkU K bs m) 1 hrow6 hfrom6 (by rw [HBLL.out]; exact Nat.le_trans hmM (Nat.le_trans (Nat.le_of_lt HMD.out) hMD9)) (Nat.le_trans hWW HB5.out.size)
            refine wp_append (.tmp 41) (.tmp 45) 27 27 rfl rfl rfl hr8 ?_
            have HS8 : Bx (Below w1.heap.size wr w8) := bx ((HB5.out.mono hOle).trans (hb8.mono (by omega)))
            refine hKc.out _ _ HS8.out (fun _ => ?_)
            clear hKc Kc
            try simp only [Act.put, List.setIfInBounds_toArray, List.set_cons_zero, List.set_cons_succ]
            refine wpAnyH_ready (rs := [6]) (by kernel_rfl) (by simp) ?_
            refine AllReadyH.cons (o := ⟨none, Op.store 27 (Operand.tmp 10) (Operand.tmp 46), 0, "weave.go:39", #[⟨5, .data⟩, ⟨5, .chain⟩, ⟨0, .phase⟩, ⟨1, .phase⟩, ⟨2, .phase⟩, ⟨3, .phase⟩, ⟨4, .phase⟩, ⟨5, .phase⟩], none⟩) rfl (fun Kc hKc => ?_) AllReadyH.nil
            rw [if_pos (by rfl)]
            have hbx8 : Boxed w8 w1.heap.size 27 (.slice A3 m c3) := box_below (box_below HV'.out HB5.out hOlt) hb8 (by omega)
            have hc8 : w8.cell? ⟨w1.heap.size, 0, none⟩ = some (.slice A3 m c3) := hbx8.cell
            have hf8 : w8.frozen? ⟨w1.heap.size, 0, none⟩ = false := hbx8.frozen
            try go_simp
            refine hKc.out _ _ (HS8.out.setCell (Nat.le_refl _) _) (fun _ => ?_)
            clear hKc Kc
            try simp only [Act.put, List.setIfInBounds_toArray, List.set_cons_zero, List.set_cons_succ]
            refine wpAnyH_done (by kernel_rfl) ?_ _
            refine NoPanic.normal ?_
            have hdf : (w8.setCell ⟨w1.heap.size, 0, none⟩ (.slice (some ⟨g8, 0, none⟩) l8 c8)).heap[D']? = some (.deferred (some [])) := by
              rw [heap_setCell_other _ _ _ _ (by simp; omega)]
              exact hk8.same _ _ ((HKO HB5.out).same _ _ HKD'.out rfl) rfl
            have HFIN := bx (show OwnLst2 (w8.setCell ⟨w1.heap.size, 0, none⟩ (.slice (some ⟨g8, 0, none⟩) l8 c8)) W0.heap.size (.slice (some ⟨g8, 0, none⟩) l8 c8) (blocksL K bs (m + 1)) by unfold blocksL; rw [List.range_succ, List.map_append]; exact ho8.set (by omega) _ _)
            have HBX := bx (show Boxed (w8.setCell ⟨w1.heap.size, 0, none⟩ (.slice (some ⟨g8, 0, none⟩) l8 c8)) w1.heap.size 27 (.slice (some ⟨g8, 0, none⟩) l8 c8) from Blk.set (cs := [.slice A3 m c3]) hbx8 _)
            have HS9 := bx (HB'.out.trans (HS8.out.setCell (p := ⟨w1.heap.size, 0, none⟩) (Nat.le_refl _) (.slice (some ⟨g8, 0, none⟩) l8 c8)))
            have hmlt : m < M' := by rcases Nat.lt_or_ge m M' with h | h; · exact h
                                     · exfalso; exact hmd (by rw [show m = M' by omega]; exact HM0.out)
            gi_wp2
            gi_roundg (M' - (m + 1))
            case measure => omega
            case rel => exact ⟨m + 1, _, by omega, hmlt, by omega, HBX.out, HFIN.out, HS9.out, hdf⟩
          · skip
            rw [if_pos (by rfl)]
            try go_simp
            have HB6 : Bx (Below wr.heap.size wr (w5.alloc (.cells #[.slice (some ⟨wr.heap.size, 0, none⟩) K K] 22))) := bx (HB5.out.alloc HB5.out.size _)
            refine hKc.out _ _ (HB6.out.mono hOle) (fun _ => ?_)
            clear hKc Kc
            try simp only [Act.put, List.setIfInBounds_toArray, List.set_cons_zero, List.set_cons_succ]
            refine wpAnyH_ready (rs := [0]) (by kernel_rfl) (by simp) ?_
            refine AllReadyH.cons (o := ⟨some 41, Op.load 27 (Operand.tmp 10), 27, "weave.go:39", #[], none⟩) rfl (fun Kc hKc => ?_) AllReadyH.nil
            rw [if_pos (by rfl)]
            have hcb : (w5.alloc (.cells #[.slice (some ⟨wr.heap.size, 0, none⟩) K K] 22)).cell? ⟨w1.heap.size, 0, none⟩ = some (.slice A3 m c3) := (box_below HV'.out HB6.out hOlt).cell
            try go_simp
            refine hKc.out _ _ ((HB6.out).mono hOle) (fun _ => ?_)
            clear hKc Kc hcb
            try simp only [Act.put, List.setIfInBounds_toArray, List.set_cons_zero, List.set_cons_succ]
            refine wpAnyH_ready (rs := [5]) (by kernel_rfl) (by simp) ?_
            refine AllReadyH.cons (o := ⟨some 46, Op.call { callee := Callee.builtin Builtin.append, args := #[Operand.tmp 41, Operand.tmp 45], argTypes := #[27, 27] }, 27, "weave.go:39", #[⟨0, .data⟩, ⟨4, .data⟩], none⟩) rfl (fun Kc hKc => ?_) AllReadyH.nil
            rw [if_pos (by rfl)]
            have hblk : Blk w5 wr.heap.size 5 ((blkU K bs m).map B8) := by rw [HZERO.out, ← zs_u8]; exact hz5
            have hrow6 : IsRow w5 w5.heap.size (Value.slice A3 m c3).ownBlock (.slice (some ⟨wr.heap.size, 0, none⟩) K K) (blkU K bs m) := by
              have h := IsRow.of_blk (o := (Value.slice A3 m c3).ownBlock) (c := K) hblk hblk.lt (HO'.out.own.new (Nat.le_refl _)) (by rw [HRL.out]; exact Nat.le_refl _) (by simp only [maxLen]; omega)
              rwa [HRL.out] at h
            have hfrom6 : RowFrom W0.heap.size (.slice (some ⟨wr.heap.size, 0, none⟩) K K) (blkU K bs m) := fun _ ad n c e => by cases e; exact hWW
            obtain ⟨g8, l8, c8, w8, hr8, ho8, hb8, hk8⟩ := run_ap_lst 27 W0.heap.size _ _ (HO'.out.keep HB5.out) (blkU K bs m) 1 hrow6 hfrom6 (by rw [HBLL.out]; exact Nat.le_trans hmM (Nat.le_trans (Nat.le_of_lt HMD.out) hMD9)) (Nat.le_trans hWW HB5.out.size)
            refine wp_append (.tmp 41) (.tmp 45) 27 27 rfl rfl rfl hr8 ?_
            have HS8 : Bx (Below w1.heap.size wr w8) := bx ((HB5.out.mono hOle).trans (hb8.mono (by omega)))
            refine hKc.out _ _ HS8.out (fun _ => ?_)
            clear hKc Kc
            try simp only [Act.put, List.setIfInBounds_toArray, List.set_cons_zero, List.set_cons_succ]
            refine wpAnyH_ready (rs := [6]) (by kernel_rfl) (by simp) ?_
            refine AllReadyH.cons (o := ⟨none, Op.store 27 (Operand.tmp 10) (Operand.tmp 46), 0, "weave.go:39", #[⟨5, .data⟩, ⟨5, .chain⟩, ⟨0, .phase⟩, ⟨1, .phase⟩, ⟨2, .phase⟩, ⟨3, .phase⟩, ⟨4, .phase⟩, ⟨5, .phase⟩], none⟩) rfl (fun Kc hKc => ?_) AllReadyH.nil
            rw [if_pos (by rfl)]
            have hbx8 : Boxed w8 w1.heap.size 27 (.slice A3 m c3) := box_below (box_below HV'.out HB5.out hOlt) hb8 (by omega)
            have hc8 : w8.cell? ⟨w1.heap.size, 0, none⟩ = some (.slice A3 m c3) := hbx8.cell
            have hf8 : w8.frozen? ⟨w1.heap.size, 0, none⟩ = false := hbx8.frozen
            try go_simp
            refine hKc.out _ _ (HS8.out.setCell (Nat.le_refl _) _) (fun _ => ?_)
            clear hKc Kc
            try simp only [Act.put, List.setIfInBounds_toArray, List.set_cons_zero, List.set_cons_succ]
            refine wpAnyH_done (by kernel_rfl) ?_ _
            refine NoPanic.normal ?_
            have hdf : (w8.setCell ⟨w1.heap.size, 0, none⟩ (.slice (some ⟨g8, 0, none⟩) l8 c8)).heap[D']? = some (.deferred (some [])) := by
              rw [heap_setCell_other _ _ _ _ (by simp; omega)]
              exact hk8.same _ _ ((HKO HB5.out).same _ _ HKD'.out rfl) rfl
            have HFIN := bx (show OwnLst2 (w8.setCell ⟨w1.heap.size, 0, none⟩ (.slice (some ⟨g8, 0, none⟩) l8 c8)) W0.heap.size (.slice (some ⟨g8, 0, none⟩) l8 c8) (blocksL K bs (m + 1)) by unfold blocksL; rw [List.range_succ, List.map_append]; exact ho8.set (by omega) _ _)
            have HBX := bx (show Boxed (w8.setCell ⟨w1.heap.size, 0, none⟩ (.slice (some ⟨g8, 0, none⟩) l8 c8)) w1.heap.size 27 (.slice (some ⟨g8, 0, none⟩) l8 c8) from Blk.set (cs := [.slice A3 m c3]) hbx8 _)
            have HS9 := bx (HB'.out.trans (HS8.out.setCell (p := ⟨w1.heap.size, 0, none⟩) (Nat.le_refl _) (.slice (some ⟨g8, 0, none⟩) l8 c8)))
            have hmlt : m < M' := by rcases Nat.lt_or_ge m M' with h | h; · exact h
                                     · exfalso; exact hmd (by rw [show m = M' by omega]; exact HM0.out)
            gi_wp2
            gi_roundg (M' - (m + 1))
            case measure => omega
            case rel => exact ⟨m + 1, _, by omega, hmlt, by omega, HBX.out, HFIN.out, HS9.out, hdf⟩
  case stop =>
    rintro D' c pre W _ _ h _
    exact h.elim
end Go.Proofs.Ytkjaonlelkfhaaa

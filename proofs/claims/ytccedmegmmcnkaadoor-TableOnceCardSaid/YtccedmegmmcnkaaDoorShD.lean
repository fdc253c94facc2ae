/- The walks of layer 1, four: a statement that ranges over the places of a number's bits. -/
import Derived.Test.YtccedmegmmcnkaaDoorShC
namespace Go.Proofs.YtccedmegmmcnkaaDoor
open Go.RowKit Go.Shelf Gf Bt

/-- 'for i := range ones(n)': its rounds end normally and keep the number's box. -/
theorem range_ones {g : Operand} {ps : Array Tmp} {assign body : Code} {Q : Exit → Act → World → Prop} {a : Act} {w : World} {n' b n : Nat} (h1 : 1 ≤ n')
    (hg : a.eval g = .func (.func 53) #[] #[.pointer (some ⟨b, 0, none⟩)]) (hps : ps.size = 1) (hn : n < 256) (hb : Blk w b 71 [.int .u64 n])
    (I : List Nat → World → Prop) (hIo : ∀ pre V l o o', I pre V → w.heap.size ≤ l → V.heap[l]? = some o → o.isCells = false → I pre (V.putObj l o')) (hIa : ∀ pre V o, I pre V → I pre (V.alloc o))
    (hIb : ∀ pre V v, I pre V → I pre (V.setCell ⟨b, 0, none⟩ v)) (hIT : ∀ pre V, I pre V → Tab V) (h0 : I [] w) (a₁ : Nat → Act)
    (hassign : ∀ (l x : Nat) (W : World) (K : Act → World → Prop), K (a₁ x) W → assign.wpIn (Fence.wide.inRound l) (n' - 1 - 1) Tryd.prog (Exit.then K (fun _ _ _ => False)) { tmps := (ps.zip #[.int .i64 (x : Nat)]).foldl (fun t (p, v) => t.setIfInBounds p v) a.tmps, defers := [] } W)
    (hbody : ∀ (l : Nat) (pre : List Nat) (x : Nat) (W : World), I pre W → (∃ rest, places n = pre ++ x :: rest) → body.wpIn (Fence.wide.inRound l) (n' - 1 - 1) Tryd.prog (fun e _ W' => e = .normal ∧ KeepsOthers W W' ∧ W'.heap[b]? = W.heap[b]? ∧ I (pre ++ [x]) W') (a₁ x) W)
    (hdone : ∀ (D : Nat) (W : World), w.heap.size ≤ D → I (places n) W → W.heap[D]? = some (.deferred (some [])) → Q .normal { a with defers := { target := .collected D, args := #[] } :: a.defers } W) :
    (Code.rangeFunc g ps assign body).wpIn Fence.wide n' Tryd.prog Q a w := by
  refine wpIn_rangeFunc fun fn hfn => ?_
  have hbl : b < w.heap.size := hb.lt
  obtain ⟨s, hs⟩ : ∃ s, w.heap.size = s := ⟨_, rfl⟩
  obtain ⟨R, hR⟩ : ∃ R : LoopState → Loop, R = fun st => { state := st, pending := none, fn, tmps := a.tmps, params := ps, assign, body, defers := s } := ⟨_, rfl⟩
  obtain ⟨W1, hW1⟩ : ∃ W1, (w.alloc (.deferred (some []))).alloc (.loop (R .ready)) = W1 := ⟨_, rfl⟩
  have hL : W1.heap[s + 1]? = some (.loop (R .ready)) := by
    rw [← hW1, ← hs]; have := World.alloc_heap_new (w.alloc (.deferred (some []))) (.loop (R .ready)); rwa [World.size_alloc] at this
  have hD : W1.heap[s]? = some (.deferred (some [])) := by
    rw [← hW1, ← hs]; exact (Below.heap_alloc _ _ _ (by simp)).trans (World.alloc_heap_new w _)
  have hB1 : Blk W1 b 71 [.int .u64 n] := by rw [← hW1]; exact (hb.alloc _).alloc _
  have hI1 : I [] W1 := by rw [← hW1]; exact hIa _ _ _ (hIa _ _ _ h0)
  refine ⟨s + 1, [{ target := .collected s, args := #[] }], W1, { target := .fn (.func 53) #[.pointer (some ⟨b, 0, none⟩)], args := #[.func (.yield (s + 1)) #[] #[]] }, W1, 53, #[.func (.yield (s + 1)) #[] #[]] ++ #[.pointer (some ⟨b, 0, none⟩)], W1, ?_, ?_, ?_, ?_, fun _ => h1, ?_⟩
  · rw [← hW1, ← hs, hR, ← hs]; exact run_enterLoop_outer _ _ _ _ _
  · simp only [resolve, hg]
    simp [go_sem]
  · intro f' hf'; trivial
  · have eg := enters_of (P := Tryd.prog) Tryd.func53 (by kernel_rfl) rfl
    simp [invoke, go_sem, eg]
  · refine (ones1_in (n' - 1) (s + 1) b n hn (fun pre W => I pre W ∧ W.heap[s + 1]? = some (.loop (R .ready)) ∧ W.heap[s]? = some (.deferred (some [])))
      (fun pre V v h => ⟨hIb _ _ _ h.1, by rw [heap_setCell_other _ _ _ _ (by simp; omega)]; exact h.2.1, by rw [heap_setCell_other _ _ _ _ (by simp; omega)]; exact h.2.2⟩)
      (fun pre V h => hIT _ _ h.1) ?_ W1 hB1 ⟨hI1, hL, hD⟩).mono ?_
    · rintro pre x W ⟨hi, hl, hd⟩ hx
      have hlt : s + 1 < W.heap.size := (Array.getElem?_eq_some_iff.1 hl).1
      have hy := run_yield (P := Tryd.prog) (args := #[.int .i64 (x : Nat)]) hl (by rw [hR]; exact hps.symm)
      rw [hR] at hy
      refine ⟨fn, _, assign, body, hy, roundIn_of_wpIn hfn (hassign _ x W _ ⟨_, run_beginRound hl (by rw [hR]), ?_⟩)⟩
      obtain ⟨V, hV⟩ : ∃ V, W.putObj (s + 1) (.loop { R .ready with state := .busy }) = V := ⟨_, rfl⟩
      have hVl : V.heap[s + 1]? = some (.loop { R .ready with state := .busy }) := by rw [← hV]; exact World.putObj_heap_same hlt
      have hVd : V.heap[s]? = some (.deferred (some [])) := by rw [← hV]; exact (World.putObj_heap_other (by omega)).trans hd
      have hVb : V.heap[b]? = W.heap[b]? := by rw [← hV]; exact World.putObj_heap_other (by omega)
      have hVi : I pre V := by rw [← hV]; exact hIo _ _ _ _ _ hi (by omega) hl rfl
      rw [hV]
      refine wpIn_mono (hbody _ pre x V hVi hx) ?_
      rintro e a3 W3 ⟨rfl, hk, hb3, hi3⟩
      have h3l := hk.same _ _ hVl rfl
      have h3d := hk.same _ _ hVd rfl
      have hr := run_endRound (P := Tryd.prog) none h3l
      have hRR : ({ ({ R .ready with state := .busy } : Loop) with state := (if (none : Option Code).isNone then LoopState.ready else LoopState.done), pending := none } : Loop) = R .ready := by rw [hR]; rfl
      rw [hRR] at hr
      refine ⟨_, _, hr, rfl, ⟨hIo _ _ _ _ _ hi3 (by omega) h3l rfl, World.putObj_heap_same (Array.getElem?_eq_some_iff.1 h3l).1, (World.putObj_heap_other (by omega)).trans h3d⟩, ?_⟩
      rw [World.putObj_heap_other (by omega), hb3, hVb]
    · rintro e W2 ⟨⟨v, rfl⟩, hi, hl, hd⟩
      refine ⟨none, _, by have := run_endLoop (P := Tryd.prog) hl (by rw [hR]; simp); rw [hR] at this; exact this, hdone s _ (by omega) (hIo _ _ _ _ _ hi (by omega) hl rfl) ((World.putObj_heap_other (by omega)).trans hd)⟩
end Go.Proofs.YtccedmegmmcnkaaDoor

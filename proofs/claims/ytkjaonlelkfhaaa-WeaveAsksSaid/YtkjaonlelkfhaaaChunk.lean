/- slices.Chunk over bytes: what it hands back, and what its rounds are handed. -/
import Derived.Test.YtkjaonlelkfhaaaLst2
import Derived.RangeFuncNested
import Derived.RangeFuncBound
import Derived.RangeFuncCalls
import Derived.RangeFuncLeaves
import Derived.RangeFuncBox
import Derived.Shelf.Abstract
import Derived.Shelf.RegionOpen
import Derived.OwnWalkIn
import Derived.TacticsInMore
import Derived.LoopNIn
import Derived.LoopIn
namespace Go.Proofs.Ytkjaonlelkfhaaa
open Go.RowKit Go.Shelf Gf Bt
attribute [local go_sem] Oper.semAt_some

/-- Chunk number j of a slice: K bytes, or what is left. -/
abbrev chunkV (A : Option Addr) (K len j : Nat) : Value := .slice (A.map fun ad => ad.add (j * K)) (min K (len - j * K)) (min K (len - j * K))
/-- What a round must keep for Chunk: what lay below n₀, and its two boxes. -/
def KpC (n₀ bs bn : Nat) (W W' : World) : Prop := Below n₀ W W' ∧ W'.heap[bs]? = W.heap[bs]? ∧ W'.heap[bn]? = W.heap[bn]?
theorem kpC_t {n₀ bs bn : Nat} {A B C : World} (h : KpC n₀ bs bn A B) (k : KpC n₀ bs bn B C) : KpC n₀ bs bn A C := ⟨h.1.trans k.1, k.2.1.trans h.2.1, k.2.2.trans h.2.2⟩
theorem kpC_b {n₀ bs bn : Nat} {w : World} (hn : n₀ ≤ w.heap.size) (hs : bs < w.heap.size) (hb : bn < w.heap.size) (W : World) (l : Nat) (o o' : Obj) (hl : w.heap.size ≤ l) (h : W.heap[l]? = some o) (h1 : o.isCells = false) (h2 : o.isWalk = false) : KpC n₀ bs bn W (W.putObj l o') :=
  ⟨belowK_b hn W l o o' hl h h1 h2, World.putObj_heap_other (by omega), World.putObj_heap_other (by omega)⟩
/-- Chunk itself: two boxes, and a function value that captures them. -/
theorem chunk_in (F : Fence) (n : Nat) (hF : F.fn 25) (hro : F.round = none) (A : Option Addr) (len cap : Nat) (K : Int) (hK : 1 ≤ K) (w : World) :
    CallsIn F n Try.prog 25 #[.slice A len cap, .int .i64 K] w fun e w' => e = .returned (.func (.func 34) #[] #[.pointer (some ⟨w.heap.size, 0, none⟩), .pointer (some ⟨w.heap.size + 1, 0, none⟩)]) ∧
      w' = (w.alloc (.cells #[.slice A len cap] 22)).alloc (.cells #[.int .i64 K] 3) := by
  refine callsIn_of_wp Try.func25 rfl hF ?_ hro
  simp only [Try.ntmps25, List.size_toArray, List.length_cons, List.length_nil, Nat.reduceAdd, Nat.reduceSub, Array.replicate_succ, Array.replicate_zero, List.push_toArray, List.append_toArray, List.nil_append, List.cons_append]
  gi_wp2
  go_ret
  exact ⟨rfl, rfl⟩

set_option maxRecDepth 100000 in
set_option maxHeartbeats 2000000 in
theorem chunk1_in (n : Nat) (l bs bn n₀ : Nat) (A : Option Addr) (len cap K M : Nat) (hK : 1 ≤ K) (hM : len ≤ M * K) (hM2 : (M - 1) * K < len ∨ M = 0) (hcap : len ≤ cap) (hlen : len ≤ 1000000000) (hK2 : K ≤ 1000000) (hA : 0 < len → ∃ ad, A = some ad)
    (J Jx : List Nat → World → Prop)
    (hY : ∀ pre x W, J pre W → pre.length < M → YieldAt Fence.wide (n - 1) Try.prog l #[chunkV A K len (x % M)] W fun e W' =>
      (e = .returned (.bool true) ∧ J (pre ++ [x]) W' ∧ KpC n₀ bs bn W W') ∨ (e = .returned (.bool false) ∧ Jx (pre ++ [x]) W'))
    (W : World) (hbs : W.cell? ⟨bs, 0, none⟩ = some (.slice A len cap)) (hbn : W.cell? ⟨bn, 0, none⟩ = some (.int .i64 K)) (hJd : ∀ pre V m, J pre V → J pre (V.drewN m)) (h0 : J [] W) :
    CallsIn Fence.wide n Try.prog 34 #[.func (.yield l) #[] #[], .pointer (some ⟨bs, 0, none⟩), .pointer (some ⟨bn, 0, none⟩)] W fun e W' => (∃ v, e = .returned v) ∧
      ((∃ ys, ys = List.range M ∧ J ys W') ∨ (∃ pre, True ∧ Jx pre W')) := by
  refine callsIn_of_wp Try.func34 rfl trivial ?_ rfl
  simp only [Try.ntmps34, List.size_toArray, List.length_cons, List.length_nil, Nat.reduceAdd, Nat.reduceSub, Array.replicate_succ, Array.replicate_zero, List.push_toArray, List.append_toArray, List.nil_append, List.cons_append]
  gi_wp2
  gi_loopw [4] (fun i wr => ∃ k i' : Nat, k ≤ M ∧ k * K = i' ∧ i = .int .i64 i' ∧ J (List.range k) wr ∧ wr.cell? ⟨bs, 0, none⟩ = some (.slice A len cap) ∧ wr.cell? ⟨bn, 0, none⟩ = some (.int .i64 K)) (fun i _ => len - (intOf i).toNat)
  case atStart => exact ⟨0, 0, Nat.zero_le _, Nat.zero_mul _, rfl, h0, hbs, hbn⟩
  case round =>
    obtain ⟨k, i', hk, hki, rfl, hJs, hbs', hbn'⟩ := hrel
    have HJ := bx hJs
    have HKI := bx hki
    clear hbs hbn hJs
    have hi0 : (0 : Int) ≤ (i' : Int) := Int.natCast_nonneg _
    by_cases hlt : k < M
    · have hil : i' < len := by
        rw [← hki]
        rcases hM2 with h | h
        · exact Nat.lt_of_le_of_lt (Nat.mul_le_mul_right _ (by omega)) h
        · omega
      obtain ⟨ad, rfl⟩ := hA (by omega)
      have hilz : (i' : Int) < (len : Int) := by omega
      have hilc : (i' : Int) ≤ (len : Int) := by omega
      have hci : ¬ cap = i' := by omega
      have hKz : (1 : Int) ≤ (K : Int) := by omega
      have hK2z : (K : Int) ≤ 1000000 := by omega
      have hlz : (len : Int) ≤ 1000000000 := by omega
      have HY := bx hY
      have HJD := bx hJd
      clear hki hM hM2 hY hJd
      gi_wp2
      gi_quiet (fail)
      obtain ⟨e, he⟩ : ∃ e, min K (len - i') = e := ⟨_, rfl⟩
      have hee : (if len - i' < K then ((len - i' : Nat) : Int) else (K : Int)) = (e : Int) := by split <;> omega
      rw [hee]
      have hek : chunkV (some ad) K len (k % M) = .slice (some (ad.add i')) e e := by rw [Nat.mod_eq_of_lt hlt]; simp only [chunkV, Option.map_some, HKI.out, he]
      obtain ⟨fn, tmps, assign, body, hy, hR⟩ := HY.out (List.range k) k (wr.drewN nq) (HJD.out _ _ _ HJ.out) (by rw [List.length_range]; exact hlt)
      rw [hek] at hy
      have hbs2 : (wr.drewN nq).cell? ⟨bs, 0, none⟩ = some (.slice (some ad) len cap) := hbs'
      have hbn2 : (wr.drewN nq).cell? ⟨bn, 0, none⟩ = some (.int .i64 K) := hbn'
      have he0 : (0 : Int) ≤ (e : Int) := Int.natCast_nonneg _
      have hie : (i' : Int) + (e : Int) ≤ (len : Int) := by omega
      have hie2 : (i' : Int) + (e : Int) ≤ (cap : Int) := by omega
      have hie3 : (i' : Int) ≤ (i' : Int) + (e : Int) := by omega
      have hen : ¬ e = 0 := by omega
      have HR := bx hR
      clear hR hee hek he
      gi_wp2
      refine ⟨fun h => (by cases h), ?_⟩
      refine HR.out.mono ?_
      rintro e' W3 (⟨rfl, hJ3, hk3⟩ | ⟨rfl, hJx3⟩)
      · have hbs3 : W3.cell? ⟨bs, 0, none⟩ = some (.slice (some ad) len cap) := (World.cell?_of_block hk3.2.1).trans hbs2
        have hbn3 : W3.cell? ⟨bn, 0, none⟩ = some (.int .i64 K) := (World.cell?_of_block hk3.2.2).trans hbn2
        have HJ3 := bx hJ3
        clear hJ3 hk3
        gi_wp2
        go_roundw
        case rel => exact ⟨k + 1, i' + K, hlt, by rw [Nat.add_mul, Nat.one_mul, HKI.out], by go_num, by rw [List.range_succ]; exact HJ3.out, hbs3, hbn3⟩
        case measure => simp [intOf]; omega
      · gi_wp2
        refine bodyPost_ret (results_none rfl _ _ _) rfl ?_
        exact ⟨⟨_, rfl⟩, .inr ⟨_, trivial, hJx3⟩⟩
    · obtain rfl : k = M := by omega
      have hge : (len : Int) ≤ (i' : Int) := by omega
      clear hki hM hM2 hY
      gi_wp2
      go_end0
      exact ⟨⟨_, rfl⟩, .inl ⟨_, rfl, HJ.out⟩⟩
theorem chunk_stops (n : Nat) (bs bn n₀ : Nat) (A : Option Addr) (len cap K M : Nat) (hK : 1 ≤ K) (hM : len ≤ M * K) (hM2 : (M - 1) * K < len ∨ M = 0) (hcap : len ≤ cap) (hlen : len ≤ 1000000000) (hK2 : K ≤ 1000000) (hA : 0 < len → ∃ ad, A = some ad) (w : World)
    (hs : w.cell? ⟨bs, 0, none⟩ = some (.slice A len cap)) (hn : w.cell? ⟨bn, 0, none⟩ = some (.int .i64 K)) :
    SeqStopsK Fence.wide n Try.prog 34 #[.pointer (some ⟨bs, 0, none⟩), .pointer (some ⟨bn, 0, none⟩)] (fun x : Nat => #[chunkV A K len (x % M)]) (KpC n₀ bs bn) (fun ys => ys = List.range M) (fun _ => True) M w := fun l J Jx W hW hJ _ hY h0 => by
  have hbs := World.block_lt_of_cell? _ _ hs
  have hbn := World.block_lt_of_cell? _ _ hn
  exact chunk1_in n l bs bn n₀ A len cap K M hK hM hM2 hcap hlen hK2 hA J Jx hY W ((hW.cell hbs).trans hs) ((hW.cell hbn).trans hn)
    (fun pre V m h => hJ pre V _ none h ⟨rfl, rfl, rfl, Nat.le_refl _, fun _ _ _ => rfl⟩ (fun r h => by cases h)) h0
end Go.Proofs.Ytkjaonlelkfhaaa

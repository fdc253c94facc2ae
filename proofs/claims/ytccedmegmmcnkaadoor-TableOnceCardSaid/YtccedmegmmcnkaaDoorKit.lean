/- Words of our own for the walks: bytes and 64-bit words as values, blocks known whole, slices that read as lists, bits of integers. -/
import Derived.WalkKit
import Derived.WalkSpells
import Derived.WalkLawsBesides
import Derived.Deep.QuietTactic
import Derived.BigQuiet
import Derived.BigRegion
import Derived.Lib.Hide
import Derived.Deep.LoopGhost
import Derived.WalkMore
import Derived.Deep.MidRow
import Derived.Deep.RegionHeld3
import Derived.Deep.AppendLies
import Derived.Deep.DeepCutAuto
import Derived.Deep.CutBlock
import Derived.Test.YtccedmegmmcnkaaDoorProg
import Derived.Test.YtccedmegmmcnkaaDoorBt
namespace Go.Proofs.YtccedmegmmcnkaaDoor
open Go.RowKit Gf Bt

/-- A fact that no tactic looks into: a structure, so that it is not laid open by whnf either. -/
structure Bx (p : Prop) : Prop where
  out : p
theorem bx {p : Prop} (h : p) : Bx p := ⟨h⟩
abbrev B8 (b : UInt8) : Value := .int .u8 b.toNat
abbrev W64 (b : UInt64) : Value := .int .u64 b.toNat

theorem block_of_add (a : Addr) (n : Nat) : (a.add n).block = a.block := by unfold Addr.add; split <;> rfl
theorem add_of_add (a : Addr) (i j : Nat) : (a.add i).add j = a.add (i + j) := by
  unfold Addr.add
  by_cases hi : i = 0 <;> by_cases hj : j = 0 <;> simp [hi, hj, Nat.add_assoc]
theorem add_zero_off (g i : Nat) : (⟨g, 0, none⟩ : Addr).add i = ⟨g, i, none⟩ := by unfold Addr.add; split <;> simp_all

/-- Block g is just these cells, of element type t, none frozen. -/
def Blk (w : World) (g : Nat) (t : TypeId) (cs : List Value) : Prop := w.heap[g]? = some (.cells cs.toArray t (0, 0))
section
variable {w w' : World} {g t i B : Nat} {cs : List Value} {v : Value}
theorem Blk.cell (h : Blk w g t cs) (hi : cs[i]? = some v) : w.cell? ⟨g, i, none⟩ = some v := by
  rw [cell_of_row w g i _ t _ h]; simpa using hi
theorem Blk.froz (h : Blk w g t cs) : w.frozen? ⟨g, i, none⟩ = false := frozen_of_row w g i _ t h
theorem Blk.lt (h : Blk w g t cs) : g < w.heap.size := by
  rcases Nat.lt_or_ge g w.heap.size with hlt | hge
  · exact hlt
  · have : w.heap[g]? = none := by simp; omega
    unfold Blk at h; rw [this] at h; cases h
theorem Blk.set (h : Blk w g t cs) (u : Value) : Blk (w.setCell ⟨g, i, none⟩ u) g t (cs.set i u) := by
  have := heap_setCell_same w g i cs.toArray t u h
  unfold Blk; rw [this]; simp
theorem Blk.drew (h : Blk w g t cs) : Blk w.drew g t cs := h
theorem Blk.drewN (h : Blk w g t cs) (n : Nat) : Blk (w.drewN n) g t cs := h
theorem Blk.other (h : Blk w g t cs) {a : Addr} (ha : g ≠ a.block) (u : Value) : Blk (w.setCell a u) g t cs := by
  unfold Blk; rw [heap_setCell_other w a g u ha]; exact h
theorem Blk.alloc (h : Blk w g t cs) (o : Obj) : Blk (w.alloc o) g t cs := by
  unfold Blk; rw [Below.heap_alloc w o g h.lt]; exact h
theorem Blk.below (h : Blk w g t cs) (hb : Below B w w') (hg : g < B) : Blk w' g t cs := by
  unfold Blk; rw [hb.block g hg]; exact h
theorem Blk.new (w : World) (t : TypeId) (cs : List Value) : Blk (w.alloc (.cells cs.toArray t)) w.heap.size t cs := heap_alloc_new w _
end
theorem blk_new1 (w : World) (o : Obj) (t : TypeId) (cs : List Value) : Blk ((w.alloc o).alloc (.cells cs.toArray t)) (w.heap.size + 1) t cs := by
  have := Blk.new (w.alloc o) t cs
  rwa [World.size_alloc] at this
theorem blk_new2 (w : World) (o o' : Obj) (t : TypeId) (cs : List Value) : Blk (((w.alloc o).alloc o').alloc (.cells cs.toArray t)) (w.heap.size + 2) t cs := by
  have := Blk.new ((w.alloc o).alloc o') t cs
  rwa [World.size_alloc, World.size_alloc] at this
theorem blk_new3 (w : World) (o o' o2 : Obj) (t : TypeId) (cs : List Value) : Blk ((((w.alloc o).alloc o').alloc o2).alloc (.cells cs.toArray t)) (w.heap.size + 3) t cs := by
  have := Blk.new (((w.alloc o).alloc o').alloc o2) t cs
  rwa [World.size_alloc, World.size_alloc, World.size_alloc] at this
theorem blk_range {w : World} {g t n : Nat} {cs : List Value} (h : Blk w g t cs) : w.rangeAt g 0 (cs.take n) := fun j v hv => by
  rw [List.getElem?_take] at hv
  split at hv
  · rw [Nat.zero_add]; exact h.cell hv
  · cases hv
theorem bel_drewN {B : Nat} {a w : World} (h : Below B a w) (n : Nat) : Below B a (w.drewN n) := ⟨h.os, h.tape, h.output, h.size, h.block⟩
/-- The address A begins n cells that hold xs, in a block below B. -/
def Rd (w : World) (B : Nat) (A : Option Addr) (xs : List Value) : Prop :=
  0 < xs.length → ∃ ad, A = some ad ∧ ad.block < B ∧ ∀ j u, xs[j]? = some u → w.cell? (ad.add j) = some u
section
variable {w w' : World} {B B' : Nat} {A : Option Addr} {xs : List Value}
theorem Rd.nil : Rd w B A [] := fun h => absurd h (by simp)
theorem Rd.keep (h : Rd w B A xs) (hk : ∀ p : Addr, p.block < B → w'.cell? p = w.cell? p) : Rd w' B A xs := fun hn => by
  obtain ⟨ad, e, hb, hc⟩ := h hn
  exact ⟨ad, e, hb, fun j u hu => (hk _ (by rw [block_of_add]; exact hb)).trans (hc j u hu)⟩
theorem Rd.more (h : Rd w B A xs) (hB : B ≤ B') : Rd w B' A xs := fun hn => by
  obtain ⟨ad, e, hb, hc⟩ := h hn
  exact ⟨ad, e, by omega, hc⟩
theorem Rd.below (h : Rd w B A xs) (hb : Below B w w') : Rd w' B A xs := h.keep fun _ hp => hb.cell hp
theorem Rd.of_blk {g t : Nat} (h : Blk w g t xs) (hB : g < B) : Rd w B (some ⟨g, 0, none⟩) xs := fun _ =>
  ⟨_, rfl, hB, fun j u hu => by rw [add_zero_off]; exact h.cell hu⟩
theorem Rd.cut (h : Rd w B A xs) {k cap : Nat} (hc : xs.length ≤ cap) : Rd w B (if cap = k then A else A.map (·.add k)) (xs.drop k) := fun hn => by
  rw [List.length_drop] at hn
  obtain ⟨ad, rfl, hb, hcell⟩ := h (by omega)
  rw [if_neg (by omega)]
  refine ⟨ad.add k, rfl, by rw [block_of_add]; exact hb, fun j u hu => ?_⟩
  rw [add_of_add]
  exact hcell _ u (by rw [← hu, List.getElem?_drop])
theorem Rd.take (h : Rd w B A xs) (k : Nat) : Rd w B A (xs.take k) := fun hn => by
  obtain ⟨ad, rfl, hb, hcell⟩ := h (by rw [List.length_take] at hn; omega)
  refine ⟨ad, rfl, hb, fun j u hu => hcell _ u ?_⟩
  rw [List.getElem?_take] at hu
  split at hu
  · exact hu
  · cases hu
end
theorem bcell {B : Nat} {W w1 : World} (hb : Below B W w1) : (∀ b o, b < B → w1.cell? ⟨b, o, none⟩ = W.cell? ⟨b, o, none⟩) ∧ (∀ b o, b < B → w1.frozen? ⟨b, o, none⟩ = W.frozen? ⟨b, o, none⟩) :=
  ⟨fun b o h => hb.cell (p := ⟨b, o, none⟩) h, fun b o h => hb.frozen (p := ⟨b, o, none⟩) h⟩
theorem ret_int {k : IntKind} {a b : Int} (h : a = b) : Ending.returned (.int k a) = .returned (.int k b) := by rw [h]
theorem ret_bool {a b : Bool} (h : a = b) : Ending.returned (.bool a) = .returned (.bool b) := by rw [h]

/-- Block g alone has turned. -/
structure Put1 (g : Nat) (w w1 : World) : Prop where
  below : Below g w w1
  other : ∀ k, k ≠ g → w1.heap[k]? = w.heap[k]?
  size : w1.heap.size = w.heap.size
theorem Put1.blk {g g' t : Nat} {w w1 : World} {cs : List Value} (h : Put1 g w w1) (hb : Blk w g' t cs) (hne : g' ≠ g) : Blk w1 g' t cs := by
  unfold Blk; rw [h.other g' hne]; exact hb
theorem Put1.bel {g B : Nat} {v w w1 : World} (h : Put1 g w w1) (hb : Below B v w) (hg : B ≤ g) : Below B v w1 := hb.trans (h.below.mono hg)
theorem put1_setRow (w : World) (g : Nat) (cs : Array Value) : Put1 g w (w.setRow g cs) :=
  ⟨⟨rfl, rfl, rfl, by simp, fun k hk => setRow_other w g k cs (by omega)⟩, fun k hk => setRow_other w g k cs hk, by simp⟩
theorem put1_setCell (w : World) (g i : Nat) (u : Value) : Put1 g w (w.setCell ⟨g, i, none⟩ u) :=
  ⟨⟨rfl, rfl, rfl, by simp, fun k hk => heap_setCell_other w _ k u (by simp; omega)⟩, fun k hk => heap_setCell_other w _ k u hk, by simp⟩
section
variable {P : Program} {ops : Array Oper} {rest : List Oper} {o : Oper} {a : Act} {w : World} {Q : Exit → Act → World → Prop}
theorem wpList_want (hw : Region.wanted o (yielded ops a.tmps) = true) (h : ∀ K : Act → World → Prop, (∀ a w, wpList P ops Q rest a w → K a w) → o.wp P a w K Q) : wpList P ops Q (o :: rest) a w :=
  wpList_step fun K hK => by rw [if_pos hw]; exact h K hK
/-- A whole array is read out of its block. -/
theorem ld_arr (hgd : Region.wanted o (yielded ops a.tmps) = true) (ty : TypeId) (x : Operand) (ho : o.op = .load ty x) (g : Nat) (hx : a.eval x = .pointer (some ⟨g, 0, none⟩)) (t : TypeId) (cs : List Value) (n : Nat) (e : TypeId)
    (hb : Blk w g t cs) (hu : P.underlying ty = some (.array n e)) (hi : (P.info? ty).map (·.size) = some cs.length) (h : wpList P ops Q rest (a.put o.dst (.agg cs.toArray)) w) : wpList P ops Q (o :: rest) a w :=
  wpList_want hgd fun _ hK => wp_load_row ty x ho g hx t cs.toArray (0, 0) _ hb hu rfl (by simpa using hi) (hK _ _ h)
/-- A whole array is written into its block. -/
theorem st_arr (hgd : Region.wanted o (yielded ops a.tmps) = true) (ty : TypeId) (x y : Operand) (ho : o.op = .store ty x y) (g : Nat) (cs : List Value) (hx : a.eval x = .pointer (some ⟨g, 0, none⟩)) (hy : a.eval y = .agg cs.toArray) (t : TypeId) (old : List Value)
    (hb : Blk w g t old) (hi : (P.info? ty).map (·.size) = some cs.length) (hold : old.length = cs.length) (h1 : ∀ v ∈ cs, v.oneCell' = true)
    (h : ∀ w1, Blk w1 g t cs → Put1 g w w1 → wpList P ops Q rest (a.put o.dst undef) w1) : wpList P ops Q (o :: rest) a w :=
  wpList_want hgd fun _ hK => wp_store_row ty x y ho g cs.toArray hx hy t old.toArray hb (by simpa using hi) (by simpa using hold) (Array.all_eq_true_iff_forall_mem.2 fun v hv => h1 v (by simpa using hv))
    (hK _ _ (h _ (setRow_heap w g old.toArray cs.toArray t (0, 0) hb) (put1_setRow w g _)))
end
theorem stw_arr {P : Program} {o : Oper} {a : Act} {w : World} {K : Act → World → Prop} {Q : Exit → Act → World → Prop} (ty : TypeId) (x y : Operand) (ho : o.op = .store ty x y) (g : Nat) (cs : List Value) (hx : a.eval x = .pointer (some ⟨g, 0, none⟩)) (hy : a.eval y = .agg cs.toArray) (t : TypeId) (old : List Value)
    (hb : Blk w g t old) (hi : (P.info? ty).map (·.size) = some cs.length) (hold : old.length = cs.length) (h1 : ∀ v ∈ cs, v.oneCell' = true)
    (h : ∀ w1, Blk w1 g t cs → Put1 g w w1 → K (a.put o.dst undef) w1) : o.wp P a w K Q :=
  wp_store_row ty x y ho g cs.toArray hx hy t old.toArray hb (by simpa using hi) (by simpa using hold) (Array.all_eq_true_iff_forall_mem.2 fun v hv => h1 v (by simpa using hv))
    (h _ (setRow_heap w g old.toArray cs.toArray t (0, 0) hb) (put1_setRow w g _))
/-- n times the same cell. -/
def Zs (n : Nat) (z : Value) : List Value := List.replicate n z
section
variable {P : Program} {ops : Array Oper} {rest : List Oper} {o : Oper} {a : Act} {w : World} {Q : Exit → Act → World → Prop}
/-- A row that is made, of n elements of one cell. -/
theorem mk_row (hgd : Region.wanted o (yielded ops a.tmps) = true) (ty : TypeId) (x y : Operand) (ho : o.op = .makeSlice ty x y) (e : TypeId) (z : Value) (kx ky : IntKind) (n by_ : Nat) (hx : a.eval x = .int kx n) (hy : a.eval y = .int ky n)
    (hu : P.underlying ty = some (.slice e)) (hi : (P.info? e).map (fun i => (i.zero, i.size, i.bytes)) = some (some z, 1, by_)) (hz : z.cells = #[z]) (hb : by_ * n ≤ 281474976710656) (h63 : n ≤ 9223372036854775807)
    (h : wpList P ops Q rest (a.put o.dst (.slice (some ⟨w.heap.size, 0, none⟩) n n)) (w.alloc (.cells (Zs n z).toArray e))) : wpList P ops Q (o :: rest) a w := by
  refine wpList_want hgd fun K hK => ?_
  obtain ⟨i0, hi0, h1, h2, h3⟩ := info_parts hi
  have hm := run_make (P := P) w ty e i0 z hu hi0 h1 kx ky n n (by omega) (by omega) (by rw [h3]; have h : ((by_ * n : Nat) : Int) ≤ 281474976710656 := (by omega); rw [Int.natCast_mul] at h; exact h) (by omega)
  have e1 : madeCells z.cells ((n : Int).toNat * i0.size) = (Zs n z).toArray := by
    rw [hz, h2, Int.toNat_natCast, Nat.mul_one]
    apply Array.ext
    · simp [madeCells, Zs]
    · intro j h1 h2; simp [madeCells, Zs, Nat.mod_one]
  rw [e1, Int.toNat_natCast] at hm
  unfold Oper.wp execOp
  simp only [ho, hx, hy, Sem.run_bind, Sem.run_pure, Result.andThen_ok, hm]
  exact hK _ _ h
end
theorem ret_arr {P : Program} {fn : Func} {R : Ending → World → Prop} {a : Act} {w : World} {p : Tmp} {ty : TypeId} (h : fn.results = #[.cell p ty]) (hd : a.defers = []) (g : Nat) (hx : a.tmps.getD p undef = .pointer (some ⟨g, 0, none⟩)) (t : TypeId) (cs : List Value) (n : Nat) (e : TypeId)
    (hb : Blk w g t cs) (hu : P.underlying ty = some (.array n e)) (hi : (P.info? ty).map (·.size) = some cs.length) (hR : R (.returned (.agg cs.toArray)) w) : bodyPost P fn R .ret a w :=
  bodyPost_ret (results_cell_row h a.tmps w g t cs.toArray (0, 0) _ hx hb hu rfl (by simpa using hi)) hd hR

/- Slices that the call appends to -/
section
variable {w w' : World} {base e n : Nat} {v : Value} {xs : List Value}
theorem own_nil (w : World) (base e : Nat) : w.ownsRow base e 1 (.slice none 0 0) 0 [] := ⟨rfl, .inl ⟨rfl, rfl⟩⟩
theorem own_below (h : w.ownsRow base e 1 v n xs) (hb : Below w.heap.size w w') : w'.ownsRow base e 1 v n xs := by
  obtain ⟨h1, h2⟩ := h
  refine ⟨h1, ?_⟩
  rcases h2 with h2 | ⟨g, cap, cur, hv, hg, hh, r⟩
  · exact .inl h2
  · have hlt : g < w.heap.size := (Array.getElem?_eq_some_iff.1 hh).1
    exact .inr ⟨g, cap, cur, hv, hg, by rw [hb.block g hlt]; exact hh, r⟩
theorem own_slice (h : w.ownsRow base e 1 v n xs) : ∃ A c, v = .slice A n c ∧ n ≤ c ∧ Rd w w.heap.size A xs := by
  obtain ⟨h1, h2⟩ := h
  rcases h2 with ⟨rfl, rfl⟩ | ⟨g, cap, cur, hv, hg, hh, hn, hc, hs, ht⟩
  · exact ⟨none, 0, rfl, Nat.le_refl _, by have : xs = [] := List.length_eq_zero_iff.1 (by simpa using h1); rw [this]; exact Rd.nil⟩
  · have hlt : g < w.heap.size := (Array.getElem?_eq_some_iff.1 hh).1
    refine ⟨some ⟨g, 0, none⟩, cap, hv, hn, fun _ => ⟨_, rfl, hlt, fun j u hu => ?_⟩⟩
    rw [add_zero_off, cell_of_row w g j cur e (0, 0) hh]
    rw [← ht, List.getElem?_take] at hu
    split at hu
    · rw [← hu]; simp
    · cases hu
theorem own_block (h : w.ownsRow base e 1 v n xs) : ∀ k, v.ownBlock = some k → base ≤ k := by
  intro k hk
  rcases h.2 with ⟨rfl, rfl⟩ | ⟨g, cap, cur, hv, hg, _⟩
  · cases hk
  · subst hv; injection hk with hk; subst hk; exact hg
end
section
variable {P : Program} {ops : Array Oper} {rest : List Oper} {o : Oper} {a : Act} {w : World} {Q : Exit → Act → World → Prop}
/-- One element of one cell is appended to a slice of the call's own. -/
theorem ap_wp {K : Act → World → Prop} (s x : Operand) (t : TypeId) (ho : o.op = .call { callee := .builtin .append, args := #[s, x], argTypes := #[t, t] }) (base : Nat) (e : TypeId) (z : Value) (by_ : Nat)
    (ht : P.underlying t = some (.slice e)) (hi : (P.info? e).map (fun i => (i.zero, i.size, i.bytes)) = some (some z, 1, by_)) (hz : z.cells = #[z])
    (v : Value) (n : Nat) (xs : List Value) (hs : a.eval s = v) (hown : w.ownsRow base e 1 v n xs) (g c : Nat) (u : Value) (hx : a.eval x = .slice (some ⟨g, 0, none⟩) 1 c)
    (hc : w.cell? ⟨g, 0, none⟩ = some u) (h1 : u.oneCell' = true) (hbytes : (n + 1) * by_ ≤ 140737488355328) (hpos : 0 < by_) (hbase : base ≤ w.heap.size)
    (h : ∀ v' w', w'.ownsRow base e 1 v' (n + 1) (xs ++ [u]) → Below base w w' → K (a.put o.dst v') w') : o.wp P a w K Q := by
  obtain ⟨i0, hi0, h11, h12, h13⟩ := info_parts hi
  have hn : n + 1 ≤ 140737488355328 := Nat.le_trans (Nat.le_mul_of_pos_right _ hpos) hbytes
  refine wp_append_own w s x t ho base e i0 z 1 by_ ht hi0 h11 h12 h13 (by rw [hz]; rfl) (by decide) v n xs hs hown ⟨g, 0, none⟩ 1 c [u] hx rfl ?_ ?_ ?_ hbytes hbase ?_
  · intro j q hj
    cases j with
    | zero => rw [add_zero_off]; injection hj with hj; subst hj; exact hc
    | succ j => simp at hj
  · intro q hq; simp at hq; subst hq; exact h1
  · simp only [maxLen]; omega
  · intro v' w' h2 h3 _
    exact h v' w' h2 ((Below.refl _ _).grown h3 hbase (own_block hown))
theorem ap_one (hgd : Region.wanted o (yielded ops a.tmps) = true) (s x : Operand) (t : TypeId) (ho : o.op = .call { callee := .builtin .append, args := #[s, x], argTypes := #[t, t] }) (base : Nat) (e : TypeId) (z : Value) (by_ : Nat)
    (ht : P.underlying t = some (.slice e)) (hi : (P.info? e).map (fun i => (i.zero, i.size, i.bytes)) = some (some z, 1, by_)) (hz : z.cells = #[z])
    (v : Value) (n : Nat) (xs : List Value) (hs : a.eval s = v) (hown : w.ownsRow base e 1 v n xs) (g c : Nat) (u : Value) (hx : a.eval x = .slice (some ⟨g, 0, none⟩) 1 c)
    (hc : w.cell? ⟨g, 0, none⟩ = some u) (h1 : u.oneCell' = true) (hbytes : (n + 1) * by_ ≤ 140737488355328) (hpos : 0 < by_) (hbase : base ≤ w.heap.size)
    (h : ∀ v' w', w'.ownsRow base e 1 v' (n + 1) (xs ++ [u]) → Below base w w' → wpList P ops Q rest (a.put o.dst v') w') : wpList P ops Q (o :: rest) a w :=
  wpList_want hgd fun _ hK => ap_wp s x t ho base e z by_ ht hi hz v n xs hs hown g c u hx hc h1 hbytes hpos hbase fun v' w' h2 h3 => hK _ _ (h v' w' h2 h3)
end

/- Regions that draw their order: every operation yields one value in every world that has grown from the one at the head -/
/-- A world that is as w0 was below block n. -/
def Ext (n : Nat) (w0 : World) : Type := { w : World // Below n w0 w }
def Ext.w {n : Nat} {w0 : World} (x : Ext n w0) : World := x.1
instance extNonempty (n : Nat) (w0 : World) : Nonempty (Ext n w0) := ⟨⟨w0, Below.refl n w0⟩⟩
theorem Ext.bel {n : Nat} {w0 : World} (x : Ext n w0) : Below n w0 x.w := x.2
theorem wp_region_ext {P : Program} {id : Nat} {Q : Exit → Act → World → Prop} {a : Act} {w : World} {l : List Oper} (n : Nat) (hm : P.follows .mixedOrders = true) (hB : Region.lexB .any l.toArray = true)
    (h : wpQuiet P l.toArray (fun w' => ∃ x : Ext n w, w' = x.w) (fun a' => ∀ w', (∃ x : Ext n w, w' = x.w) → Q .normal a' w') l a) : (Code.region id l.toArray true).wp P Q a w :=
  wp_region_quiet (C := fun w' => ∃ x : Ext n w, w' = x.w) hm hB ⟨⟨w.drew, (Below.refl n w).drew⟩, rfl⟩ (by simpa using h)
theorem ext_call {P : Program} {f : FuncId} {args : Array Value} {n : Nat} {w0 : World} {x : Ext n w0} {v : Value} (hn : n ≤ w0.heap.size)
    (h : Calls P f args x.w fun e w' => e = .returned v ∧ Below x.w.heap.size x.w w') : Calls P f args x.w fun e w'' => e = .returned v ∧ ∃ y : Ext n w0, w'' = y.w :=
  h.mono fun _ w' ⟨he, hb⟩ => ⟨he, ⟨w', x.bel.trans (hb.mono (Nat.le_trans hn x.bel.size))⟩, rfl⟩
theorem ext_same {P : Program} {f : FuncId} {args : Array Value} {n : Nat} {w0 : World} {x : Ext n w0} {v : Value}
    (h : Calls P f args x.w fun e w' => e = .returned v ∧ w' = x.w) : Calls P f args x.w fun e w'' => e = .returned v ∧ ∃ y : Ext n w0, w'' = y.w :=
  h.mono fun _ _ ⟨he, hb⟩ => ⟨he, x, hb⟩
theorem ext_cell {n g t i : Nat} {w0 : World} {cs : List Value} {v : Value} (h : Blk w0 g t cs) (hg : g < n) (hi : cs[i]? = some v) (x : Ext n w0) : x.w.cell? ⟨g, i, none⟩ = some v := (h.below x.bel hg).cell hi

/-- A load of a whole array may be taken first, where S tells its block. -/
theorem yields_arr {P : Program} {ops : Array Oper} {S : World → Prop} {o : Oper} {a : Act} (hw : Region.wanted o (yielded ops a.tmps) = true) (ty : TypeId) (x : Operand) (ho : o.op = .load ty x) (g : Nat) (hx : a.eval x = .pointer (some ⟨g, 0, none⟩)) (t : TypeId) (cs : List Value) (n : Nat) (e : TypeId)
    (hS : ∀ w, S w → Blk w g t cs) (hu : P.underlying ty = some (.array n e)) (hi : (P.info? ty).map (·.size) = some cs.length) : YieldsIf P ops S o (.agg cs.toArray) a := by
  refine Or.inl ⟨hw, fun w hSw => ?_⟩
  unfold execOp
  simp only [ho, hx, Instr.loadAt, Instr.sureAddr, Sem.run_bind, Sem.run_pure, Result.andThen_ok, run_loadVar_row w g t ty cs.toArray (0, 0) _ (hS w hSw) hu rfl (by simpa using hi)]

/- Bits of integers -/
theorem wrap_u64_nat {n : Nat} (h : n < 18446744073709551616) : IntKind.u64.wrap (n : Int) = n := by
  simp only [IntKind.wrap, IntKind.bits, IntKind.signed]
  simp; omega
theorem wrap_u16_nat {n : Nat} (h : n < 65536) : IntKind.u16.wrap (n : Int) = n := by
  simp only [IntKind.wrap, IntKind.bits, IntKind.signed]
  simp; omega
theorem wrap_u8_nat {n : Nat} (h : n < 256) : IntKind.u8.wrap (n : Int) = n := by rw [IntKind.wrap_u8]; omega
theorem ofInt_nat (k a : Nat) (h : a < 2 ^ k) : (BitVec.ofInt k (a : Int)).toNat = a := by
  rw [BitVec.ofInt_natCast, BitVec.toNat_ofNat, Nat.mod_eq_of_lt h]
theorem bits_u64_xor (a b : UInt64) : bits .xor .u64 (a.toNat : Int) b.toNat = ((a ^^^ b).toNat : Nat) := by
  simp only [bits]
  rw [BitVec.toNat_xor, ofInt_nat IntKind.u64.bits a.toNat a.toNat_lt, ofInt_nat IntKind.u64.bits b.toNat b.toNat_lt, ← UInt64.toNat_xor]
  exact wrap_u64_nat (UInt64.toNat_lt _)
theorem bits_u64_and (a b : UInt64) : bits .and .u64 (a.toNat : Int) b.toNat = ((a &&& b).toNat : Nat) := by
  simp only [bits]
  rw [BitVec.toNat_and, ofInt_nat IntKind.u64.bits a.toNat a.toNat_lt, ofInt_nat IntKind.u64.bits b.toNat b.toNat_lt, ← UInt64.toNat_and]
  exact wrap_u64_nat (UInt64.toNat_lt _)
theorem bits_u64_or (a b : UInt64) : bits .or .u64 (a.toNat : Int) b.toNat = ((a ||| b).toNat : Nat) := by
  simp only [bits]
  rw [BitVec.toNat_or, ofInt_nat IntKind.u64.bits a.toNat a.toNat_lt, ofInt_nat IntKind.u64.bits b.toNat b.toNat_lt, ← UInt64.toNat_or]
  exact wrap_u64_nat (UInt64.toNat_lt _)
theorem bits_u8_xor (a b : UInt8) : bits .xor .u8 (a.toNat : Int) b.toNat = ((a ^^^ b).toNat : Nat) := by
  simp only [bits]
  rw [BitVec.toNat_xor, ofInt_nat IntKind.u8.bits a.toNat a.toNat_lt, ofInt_nat IntKind.u8.bits b.toNat b.toNat_lt, ← UInt8.toNat_xor]
  exact wrap_u8_nat (UInt8.toNat_lt _)
theorem bits_u8_or (a b : UInt8) : bits .or .u8 (a.toNat : Int) b.toNat = ((a ||| b).toNat : Nat) := by
  simp only [bits]
  rw [BitVec.toNat_or, ofInt_nat IntKind.u8.bits a.toNat a.toNat_lt, ofInt_nat IntKind.u8.bits b.toNat b.toNat_lt, ← UInt8.toNat_or]
  exact wrap_u8_nat (UInt8.toNat_lt _)
theorem bits_u8_and (a b : UInt8) : bits .and .u8 (a.toNat : Int) b.toNat = ((a &&& b).toNat : Nat) := by
  simp only [bits]
  rw [BitVec.toNat_and, ofInt_nat IntKind.u8.bits a.toNat a.toNat_lt, ofInt_nat IntKind.u8.bits b.toNat b.toNat_lt, ← UInt8.toNat_and]
  exact wrap_u8_nat (UInt8.toNat_lt _)
/-- A bit, as Go asks it: (a >> m) & 1. -/
theorem bit_and (k : IntKind) (a m : Nat) (ha : a < 2 ^ k.bits) (h1 : 1 < 2 ^ k.bits) (hw : k.wrap ((1 : Nat) : Int) = (1 : Nat)) (hz : k.wrap ((0 : Nat) : Int) = (0 : Nat)) :
    bits .and k ((a : Int) / 2 ^ m) 1 = ((a.testBit m).toNat : Nat) := by
  have e : ((a : Int) / 2 ^ m) = ((a / 2 ^ m : Nat) : Int) := by simp
  have hq : a / 2 ^ m < 2 ^ k.bits := Nat.lt_of_le_of_lt (Nat.div_le_self _ _) ha
  rw [e, show (1 : Int) = ((1 : Nat) : Int) from rfl]
  simp only [bits]
  rw [BitVec.toNat_and, ofInt_nat k.bits _ hq, ofInt_nat k.bits 1 h1, Nat.and_one_is_mod, Nat.testBit_eq_decide_div_mod_eq]
  rcases Nat.mod_two_eq_zero_or_one (a / 2 ^ m) with h | h
  · rw [h]; simpa using hz
  · rw [h]; simpa using hw
theorem bit_u8 (x : UInt8) (m : Nat) : bits .and .u8 ((x.toNat : Int) / 2 ^ m) 1 = ((b8 x m).toNat : Nat) :=
  bit_and .u8 x.toNat m x.toNat_lt (by decide) (by decide) (by decide)
theorem bit_u64 (x : UInt64) (m : Nat) : bits .and .u64 ((x.toNat : Int) / 2 ^ m) 1 = ((b64 x m).toNat : Nat) :=
  bit_and .u64 x.toNat m x.toNat_lt (by decide) (by decide) (by decide)
end Go.Proofs.YtccedmegmmcnkaaDoor

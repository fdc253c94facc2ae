/- Bits of bytes and of 64-bit words; planes and lanes: plain Lean. -/
import Derived.Test.YtccedmegmmcnkaaDoorGf
namespace Go.Proofs.YtccedmegmmcnkaaDoor.Bt
open Gf

/-- The number whose first n bits are f's. -/
def mk (f : Nat → Bool) : Nat → Nat
  | 0 => 0
  | n + 1 => 2 ^ n * (f n).toNat + mk f n
theorem mk_lt (f : Nat → Bool) : ∀ n, mk f n < 2 ^ n
  | 0 => by simp [mk]
  | n + 1 => by
    have := mk_lt f n
    rw [mk, Nat.pow_succ]
    cases f n <;> simp <;> omega
theorem testBit_mk (f : Nat → Bool) (i : Nat) : ∀ n, (mk f n).testBit i = (decide (i < n) && f i)
  | 0 => by simp [mk]
  | n + 1 => by
    rw [mk, Nat.testBit_two_pow_mul_add _ (mk_lt f n)]
    by_cases h : i < n
    · rw [if_pos h, testBit_mk f i n]
      simp [h, Nat.lt_succ_of_lt h]
    · rw [if_neg h]
      by_cases h2 : i = n
      · subst h2
        cases f i <;> simp
      · have h3 : ¬ i < n + 1 := by omega
        have h4 : i - n ≠ 0 := by omega
        have h5 : (f n).toNat < 2 ^ (i - n) := Nat.lt_of_lt_of_le (Bool.toNat_lt _) (show 2 ^ 1 ≤ 2 ^ (i - n) from Nat.pow_le_pow_right (by decide) (by omega))
        rw [Nat.testBit_lt_two_pow h5]
        simp [h3]
theorem mk_congr {f g : Nat → Bool} : ∀ n, (∀ i, i < n → f i = g i) → mk f n = mk g n
  | 0, _ => rfl
  | n + 1, h => by rw [mk, mk, h n (by omega), mk_congr n fun i hi => h i (by omega)]
theorem nat_ext {a b n : Nat} (ha : a < 2 ^ n) (hb : b < 2 ^ n) (h : ∀ i, i < n → a.testBit i = b.testBit i) : a = b := by
  apply Nat.eq_of_testBit_eq
  intro i
  by_cases hi : i < n
  · exact h i hi
  · have hp : 2 ^ n ≤ 2 ^ i := Nat.pow_le_pow_right (by decide) (by omega)
    rw [Nat.testBit_lt_two_pow (Nat.lt_of_lt_of_le ha hp), Nat.testBit_lt_two_pow (Nat.lt_of_lt_of_le hb hp)]

def mk8 (f : Nat → Bool) : UInt8 := UInt8.ofNat (mk f 8)
def mk64 (f : Nat → Bool) : UInt64 := UInt64.ofNat (mk f 64)
theorem mk8_toNat (f : Nat → Bool) : (mk8 f).toNat = mk f 8 := by
  unfold mk8; rw [UInt8.toNat_ofNat']; exact Nat.mod_eq_of_lt (mk_lt f 8)
theorem mk64_toNat (f : Nat → Bool) : (mk64 f).toNat = mk f 64 := by
  unfold mk64; rw [UInt64.toNat_ofNat']; exact Nat.mod_eq_of_lt (mk_lt f 64)
def b8 (x : UInt8) (i : Nat) : Bool := x.toNat.testBit i
def b64 (x : UInt64) (i : Nat) : Bool := x.toNat.testBit i
theorem b8_mk8 (f : Nat → Bool) {i : Nat} (h : i < 8) : b8 (mk8 f) i = f i := by
  unfold b8; rw [mk8_toNat, testBit_mk]; simp [h]
theorem b64_mk64 (f : Nat → Bool) {i : Nat} (h : i < 64) : b64 (mk64 f) i = f i := by
  unfold b64; rw [mk64_toNat, testBit_mk]; simp [h]
theorem ext8 {a b : UInt8} (h : ∀ i, i < 8 → b8 a i = b8 b i) : a = b := u8_ext (nat_ext (n := 8) a.toNat_lt b.toNat_lt h)
theorem ext64 {a b : UInt64} (h : ∀ i, i < 64 → b64 a i = b64 b i) : a = b := UInt64.toNat.inj (nat_ext (n := 64) a.toNat_lt b.toNat_lt h)
theorem b8_xor (a b : UInt8) (i : Nat) : b8 (a ^^^ b) i = (b8 a i ^^ b8 b i) := by unfold b8; rw [UInt8.toNat_xor, Nat.testBit_xor]
theorem b64_xor (a b : UInt64) (i : Nat) : b64 (a ^^^ b) i = (b64 a i ^^ b64 b i) := by unfold b64; rw [UInt64.toNat_xor, Nat.testBit_xor]
theorem b64_and (a b : UInt64) (i : Nat) : b64 (a &&& b) i = (b64 a i && b64 b i) := by unfold b64; rw [UInt64.toNat_and, Nat.testBit_and]
theorem b64_zero (i : Nat) : b64 0 i = false := by simp [b64]
theorem b8_zero (i : Nat) : b8 0 i = false := by simp [b8]
theorem mk8_b8 (a : UInt8) : mk8 (b8 a) = a := ext8 fun _ hi => b8_mk8 _ hi
theorem mk8_congr {f g : Nat → Bool} (h : ∀ i, i < 8 → f i = g i) : mk8 f = mk8 g := by unfold mk8; rw [mk_congr 8 h]
theorem mk64_congr {f g : Nat → Bool} (h : ∀ i, i < 64 → f i = g i) : mk64 f = mk64 g := by unfold mk64; rw [mk_congr 64 h]

/- Lanes and planes -/
/-- Lane n of planes. -/
def lane (p : List UInt64) (n : Nat) : UInt8 := if n < 64 then mk8 fun i => b64 (p.getD i 0) n else 0
def lanes (p : List UInt64) : List UInt8 := (List.range 64).map (lane p)
/-- Planes of lanes. -/
def planes (f : Nat → UInt8) : List UInt64 := (List.range 8).map fun i => mk64 fun n => b8 (f n) i
def pack (l : List UInt8) : List UInt64 := planes fun n => if n < 64 then l.getD n 0 else 0
theorem planes_length (f : Nat → UInt8) : (planes f).length = 8 := by simp [planes]
theorem pack_length (l : List UInt8) : (pack l).length = 8 := planes_length _
theorem planes_get (f : Nat → UInt8) {i : Nat} (h : i < 8) : (planes f).getD i 0 = mk64 fun n => b8 (f n) i := by
  simp [planes, List.getD_eq_getElem?_getD, h]
theorem lane_planes (f : Nat → UInt8) {n : Nat} (h : n < 64) : lane (planes f) n = f n := by
  unfold lane; rw [if_pos h]
  refine ext8 fun i hi => ?_
  rw [b8_mk8 _ hi, planes_get f hi, b64_mk64 _ h]
theorem planes_lane (p : List UInt64) (h : p.length = 8) : planes (lane p) = p := by
  refine List.ext_getElem (by simp [planes, h]) fun i h1 h2 => ?_
  have hi : i < 8 := by omega
  have := planes_get (lane p) hi
  rw [List.getD_eq_getElem?_getD, List.getElem?_eq_getElem h1, Option.getD_some] at this
  rw [this]
  refine ext64 fun n hn => ?_
  rw [b64_mk64 _ hn]
  unfold lane; rw [if_pos hn, b8_mk8 _ hi, List.getD_eq_getElem?_getD, List.getElem?_eq_getElem h2, Option.getD_some]
theorem planes_congr {f g : Nat → UInt8} (h : ∀ n, n < 64 → f n = g n) : planes f = planes g := by
  unfold planes
  exact List.map_congr_left fun _ _ => mk64_congr fun n hn => by rw [h n hn]
/-- Planes are the same if their lanes are. -/
theorem planes_ext {p q : List UInt64} (hp : p.length = 8) (hq : q.length = 8) (h : ∀ n, n < 64 → lane p n = lane q n) : p = q := by
  rw [← planes_lane p hp, ← planes_lane q hq]; exact planes_congr h
theorem lane_pack (l : List UInt8) {n : Nat} (h : n < 64) : lane (pack l) n = l.getD n 0 := by
  unfold pack; rw [lane_planes _ h, if_pos h]
theorem pack_lanes (p : List UInt64) (h : p.length = 8) : pack (lanes p) = p :=
  planes_ext (pack_length _) h fun n hn => by
    rw [lane_pack _ hn]; simp [lanes, List.getD_eq_getElem?_getD, hn]
theorem lanes_length (p : List UInt64) : (lanes p).length = 64 := by simp [lanes]
theorem lanes_get (p : List UInt64) {n : Nat} (h : n < 64) : (lanes p)[n]? = some (lane p n) := by simp [lanes, h]
theorem lane_out (p : List UInt64) {n : Nat} (h : ¬ n < 64) : lane p n = 0 := by unfold lane; rw [if_neg h]

/- Products of planes, over whatever has sums and products -/
section
variable {α β γ : Type} (z : α) (x : α → α → α) (d : β → γ → α)
def mulStep (p : List β) (q : List γ) (zb : β) (zc : γ) (i : Nat) (w : List α) (k : Nat) : List α := w.set (i + k) (x (w.getD (i + k) z) (d (p.getD i zb) (q.getD k zc)))
def mulRow (p : List β) (q : List γ) (zb : β) (zc : γ) (i : Nat) (w : List α) : Nat → List α
  | 0 => w
  | k + 1 => mulStep z x d p q zb zc i (mulRow p q zb zc i w k) k
def mulTo (p : List β) (q : List γ) (zb : β) (zc : γ) : Nat → List α
  | 0 => List.replicate 15 z
  | i + 1 => mulRow z x d p q zb zc i (mulTo p q zb zc i) 8
def bringRow (i : Nat) (w : List α) : Nat → List α
  | 0 => w
  | k + 1 => if Nat.testBit 285 k then (bringRow i w k).set (i - 8 + k) (x ((bringRow i w k).getD (i - 8 + k) z) ((bringRow i w k).getD i z)) else bringRow i w k
def bringTo (w : List α) : Nat → List α
  | 0 => w
  | j + 1 => bringRow z x (14 - j) (bringTo w j) 8
def bring (w : List α) : List α := (bringTo z x w 7).take 8
def sqTo (p : List α) : Nat → List α
  | 0 => List.replicate 15 z
  | i + 1 => (sqTo p i).set (2 * i) (p.getD i z)
theorem mulRow_length (p : List β) (q : List γ) (zb : β) (zc : γ) (i : Nat) (w : List α) : ∀ k, (mulRow z x d p q zb zc i w k).length = w.length
  | 0 => rfl
  | k + 1 => by simp [mulRow, mulStep, mulRow_length p q zb zc i w k]
theorem mulTo_length (p : List β) (q : List γ) (zb : β) (zc : γ) : ∀ i, (mulTo z x d p q zb zc i).length = 15
  | 0 => by simp [mulTo]
  | i + 1 => by rw [mulTo, mulRow_length, mulTo_length p q zb zc i]
theorem bringRow_length (i : Nat) (w : List α) : ∀ k, (bringRow z x i w k).length = w.length
  | 0 => rfl
  | k + 1 => by simp only [bringRow]; split <;> simp [bringRow_length i w k]
theorem bringTo_length (w : List α) : ∀ j, (bringTo z x w j).length = w.length
  | 0 => rfl
  | j + 1 => by rw [bringTo, bringRow_length, bringTo_length w j]
theorem sqTo_length (p : List α) : ∀ i, (sqTo z p i).length = 15
  | 0 => by simp [sqTo]
  | i + 1 => by simp [sqTo, sqTo_length p i]
theorem bring_length (w : List α) (h : w.length = 15) : (bring z x w).length = 8 := by simp [bring, bringTo_length, h]
variable {α' β' γ' : Type} (z' : α') (x' : α' → α' → α') (d' : β' → γ' → α') (f : α → α') (g : β → β') (h : γ → γ')
theorem getD_map {δ ε : Type} (f : δ → ε) (l : List δ) (i : Nat) (e : δ) : (l.map f).getD i (f e) = f (l.getD i e) := by
  simp only [List.getD_eq_getElem?_getD, List.getElem?_map]; cases l[i]? <;> rfl
variable (hz : f z = z') (hx : ∀ a b, f (x a b) = x' (f a) (f b)) (hd : ∀ a b, f (d a b) = d' (g a) (h b))
include hz hx hd in
theorem mulRow_map (p : List β) (q : List γ) (zb : β) (zc : γ) (i : Nat) (w : List α) : ∀ k, (mulRow z x d p q zb zc i w k).map f = mulRow z' x' d' (p.map g) (q.map h) (g zb) (h zc) i (w.map f) k
  | 0 => rfl
  | k + 1 => by
    simp only [mulRow, mulStep, List.map_set, hx, hd, mulRow_map p q zb zc i w k]
    rw [← mulRow_map p q zb zc i w k, ← hz, getD_map f, getD_map g, getD_map h]
include hz hx hd in
theorem mulTo_map (p : List β) (q : List γ) (zb : β) (zc : γ) : ∀ i, (mulTo z x d p q zb zc i).map f = mulTo z' x' d' (p.map g) (q.map h) (g zb) (h zc) i
  | 0 => by simp [mulTo, hz]
  | i + 1 => by rw [mulTo, mulTo, mulRow_map z x d z' x' d' f g h hz hx hd, mulTo_map p q zb zc i]
include hz hx in
theorem bringRow_map (i : Nat) (w : List α) : ∀ k, (bringRow z x i w k).map f = bringRow z' x' i (w.map f) k
  | 0 => rfl
  | k + 1 => by
    simp only [bringRow]
    split
    · rw [List.map_set, hx, ← getD_map f, ← getD_map f, bringRow_map i w k, hz]
    · exact bringRow_map i w k
include hz hx in
theorem bringTo_map (w : List α) : ∀ j, (bringTo z x w j).map f = bringTo z' x' (w.map f) j
  | 0 => rfl
  | j + 1 => by rw [bringTo, bringTo, bringRow_map z x z' x' f hz hx, bringTo_map w j]
include hz hx in
theorem bring_map (w : List α) : (bring z x w).map f = bring z' x' (w.map f) := by
  unfold bring; rw [List.map_take, bringTo_map z x z' x' f hz hx]
include hz in
theorem sqTo_map (p : List α) : ∀ i, (sqTo z p i).map f = sqTo z' (p.map f) i
  | 0 => by simp [sqTo, hz]
  | i + 1 => by rw [sqTo, sqTo, List.map_set, sqTo_map p i, ← hz, getD_map f]
end
/-- A product of lists of bits. -/
def mulB (p q : List Bool) : List Bool := bring false (fun a b => a ^^ b) (mulTo false (fun a b => a ^^ b) (fun a b => a && b) p q false false 8)
def bitsOf (a : Nat) : List Bool := (List.range 8).map a.testBit
def ofBits (l : List Bool) : Nat := mk (fun j => l.getD j false) 8
theorem ofBits_xor (r : List (Bool × Bool)) : ofBits (r.map fun u => (u.1 ^^ u.2)) = ofBits (r.map (·.1)) ^^^ ofBits (r.map (·.2)) := by
  refine nat_ext (n := 8) (mk_lt _ 8) (Nat.xor_lt_two_pow (mk_lt _ 8) (mk_lt _ 8)) fun i hi => ?_
  unfold ofBits
  rw [Nat.testBit_xor, testBit_mk, testBit_mk, testBit_mk]
  simp only [hi, decide_true, Bool.true_and]
  simp only [List.getD_eq_getElem?_getD, List.getElem?_map]
  cases r[i]? <;> simp
def T (a b : Nat) : Nat := ofBits (mulB (bitsOf a) (bitsOf b))
theorem T_xor_left (a a' b : Nat) : T (a ^^^ a') b = T a b ^^^ T a' b := by
  let P : List (Bool × Bool) := (List.range 8).map fun i => (a.testBit i, a'.testBit i)
  let X : Bool × Bool → Bool × Bool → Bool × Bool := fun u v => ((u.1 ^^ v.1), (u.2 ^^ v.2))
  let D : Bool × Bool → Bool → Bool × Bool := fun u v => (u.1 && v, u.2 && v)
  let R := bring (false, false) X (mulTo (false, false) X D P (bitsOf b) (false, false) false 8)
  have h1 : mulB (bitsOf a) (bitsOf b) = R.map (·.1) := by
    unfold mulB
    rw [bring_map (false, false) X false (fun a b => a ^^ b) (·.1) rfl (fun _ _ => rfl), mulTo_map (false, false) X D false (fun a b => a ^^ b) (fun a b => a && b) (·.1) (·.1) id rfl (fun _ _ => rfl) (fun _ _ => rfl)]
    simp [P, bitsOf, Function.comp_def]
  have h2 : mulB (bitsOf a') (bitsOf b) = R.map (·.2) := by
    unfold mulB
    rw [bring_map (false, false) X false (fun a b => a ^^ b) (·.2) rfl (fun _ _ => rfl), mulTo_map (false, false) X D false (fun a b => a ^^ b) (fun a b => a && b) (·.2) (·.2) id rfl (fun _ _ => rfl) (fun _ _ => rfl)]
    simp [P, bitsOf, Function.comp_def]
  have h3 : mulB (bitsOf (a ^^^ a')) (bitsOf b) = R.map fun u => (u.1 ^^ u.2) := by
    unfold mulB
    rw [bring_map (false, false) X false (fun a b => a ^^ b) (fun u => (u.1 ^^ u.2)) rfl (fun u v => by cases u; cases v; simp only [X]; rename_i a b c d; cases a <;> cases b <;> cases c <;> cases d <;> rfl),
      mulTo_map (false, false) X D false (fun a b => a ^^ b) (fun a b => a && b) (fun u => (u.1 ^^ u.2)) (fun u => (u.1 ^^ u.2)) id rfl (fun u v => by cases u; cases v; simp only [X]; rename_i a b c d; cases a <;> cases b <;> cases c <;> cases d <;> rfl) (fun u v => by cases u; simp only [D]; rename_i a b; cases a <;> cases b <;> cases v <;> rfl)]
    have hb : bitsOf (a ^^^ a') = P.map (fun u => (u.1 ^^ u.2)) := by
      simp only [P, bitsOf, List.map_map]
      exact List.map_congr_left fun i _ => Nat.testBit_xor ..
    rw [hb, List.map_id]
    rfl
  unfold T
  rw [h1, h2, h3, ofBits_xor]
theorem T_xor_right (a b b' : Nat) : T a (b ^^^ b') = T a b ^^^ T a b' := by
  let P : List (Bool × Bool) := (List.range 8).map fun i => (b.testBit i, b'.testBit i)
  let X : Bool × Bool → Bool × Bool → Bool × Bool := fun u v => ((u.1 ^^ v.1), (u.2 ^^ v.2))
  let D : Bool → Bool × Bool → Bool × Bool := fun v u => (v && u.1, v && u.2)
  let R := bring (false, false) X (mulTo (false, false) X D (bitsOf a) P false (false, false) 8)
  have h1 : mulB (bitsOf a) (bitsOf b) = R.map (·.1) := by
    unfold mulB
    rw [bring_map (false, false) X false (fun a b => a ^^ b) (·.1) rfl (fun _ _ => rfl), mulTo_map (false, false) X D false (fun a b => a ^^ b) (fun a b => a && b) (·.1) id (·.1) rfl (fun _ _ => rfl) (fun _ _ => rfl)]
    simp [P, bitsOf, Function.comp_def]
  have h2 : mulB (bitsOf a) (bitsOf b') = R.map (·.2) := by
    unfold mulB
    rw [bring_map (false, false) X false (fun a b => a ^^ b) (·.2) rfl (fun _ _ => rfl), mulTo_map (false, false) X D false (fun a b => a ^^ b) (fun a b => a && b) (·.2) id (·.2) rfl (fun _ _ => rfl) (fun _ _ => rfl)]
    simp [P, bitsOf, Function.comp_def]
  have h3 : mulB (bitsOf a) (bitsOf (b ^^^ b')) = R.map fun u => (u.1 ^^ u.2) := by
    unfold mulB
    rw [bring_map (false, false) X false (fun a b => a ^^ b) (fun u => (u.1 ^^ u.2)) rfl (fun u v => by cases u; cases v; simp only [X]; rename_i a b c d; cases a <;> cases b <;> cases c <;> cases d <;> rfl),
      mulTo_map (false, false) X D false (fun a b => a ^^ b) (fun a b => a && b) (fun u => (u.1 ^^ u.2)) id (fun u => (u.1 ^^ u.2)) rfl (fun u v => by cases u; cases v; simp only [X]; rename_i a b c d; cases a <;> cases b <;> cases c <;> cases d <;> rfl) (fun v u => by cases u; simp only [D]; rename_i a b; cases a <;> cases b <;> cases v <;> rfl)]
    have hb : bitsOf (b ^^^ b') = P.map (fun u => (u.1 ^^ u.2)) := by
      simp only [P, bitsOf, List.map_map]
      exact List.map_congr_left fun i _ => Nat.testBit_xor ..
    rw [hb, List.map_id]
    rfl
  unfold T
  rw [h1, h2, h3, ofBits_xor]
theorem T_zero_left (b : Nat) : T 0 b = 0 := by
  have h := T_xor_left 0 0 b
  simp only [Nat.xor_self] at h
  exact h
theorem T_zero_right (a : Nat) : T a 0 = 0 := by
  have h := T_xor_right a 0 0
  simp only [Nat.xor_self] at h
  exact h
theorem T_basis : ∀ i, i < 8 → ∀ j, j < 8 → T (2 ^ i) (2 ^ j) = gN (2 ^ i) (2 ^ j) := by decide +kernel
theorem T_eq : ∀ a, a < 256 → ∀ b, b < 256 → T a b = gN a b := by
  refine byte_ind _ (fun b _ => by rw [T_zero_left, gN_zero_left]) (fun a a' _ _ h h' b hb => by rw [T_xor_left, gN_xor_left, h b hb, h' b hb]) fun i hi => ?_
  refine byte_ind _ (by rw [T_zero_right, gN_zero_right]) (fun b b' _ _ h h' => by rw [T_xor_right, gN_xor_right, h, h']) fun j hj => T_basis i hi j hj
/-- Products of planes. -/
def mulP (p q : List UInt64) : List UInt64 := bring 0 (fun a b => a ^^^ b) (mulTo 0 (fun a b => a ^^^ b) (fun a b => a &&& b) p q 0 0 8)
theorem mulP_length (p q : List UInt64) : (mulP p q).length = 8 := bring_length _ _ _ (mulTo_length ..)
theorem map_b64 (p : List UInt64) (hp : p.length = 8) {n : Nat} (hn : n < 64) : p.map (b64 · n) = bitsOf (lane p n).toNat := by
  refine List.ext_getElem (by simp [bitsOf, hp]) fun i h1 h2 => ?_
  have hi : i < 8 := by simpa [hp] using h1
  simp only [List.getElem_map, bitsOf, List.getElem_range]
  have := b8_mk8 (fun i => b64 (p.getD i 0) n) hi
  unfold lane; rw [if_pos hn]
  unfold b8 at this
  rw [this, List.getD_eq_getElem?_getD, List.getElem?_eq_getElem (by omega), Option.getD_some]
theorem lane_of_map (w : List UInt64) {n : Nat} (hn : n < 64) : (lane w n).toNat = ofBits (w.map (b64 · n)) := by
  unfold lane ofBits; rw [if_pos hn, mk8_toNat]
  refine mk_congr 8 fun i _ => ?_
  rw [show false = b64 0 n from (b64_zero n).symm, getD_map (b64 · n)]
theorem lane_mulP (p q : List UInt64) (hp : p.length = 8) (hq : q.length = 8) {n : Nat} (hn : n < 64) : lane (mulP p q) n = gmul (lane p n) (lane q n) := by
  refine u8_ext ?_
  rw [lane_of_map _ hn, gmul_toNat, ← T_eq _ (UInt8.toNat_lt _) _ (UInt8.toNat_lt _)]
  unfold mulP T mulB
  rw [bring_map 0 (fun a b => a ^^^ b) false (fun a b => a ^^ b) (b64 · n) (b64_zero n) (fun a b => b64_xor a b n),
    mulTo_map 0 (fun a b => a ^^^ b) (fun a b => a &&& b) false (fun a b => a ^^ b) (fun a b => a && b) (b64 · n) (b64 · n) (b64 · n) (b64_zero n) (fun a b => b64_xor a b n) (fun a b => b64_and a b n),
    map_b64 p hp hn, map_b64 q hq hn, b64_zero]
theorem mulP_eq (p q : List UInt64) (hp : p.length = 8) (hq : q.length = 8) : mulP p q = planes fun n => gmul (lane p n) (lane q n) :=
  planes_ext (mulP_length _ _) (planes_length _) fun n hn => by rw [lane_mulP p q hp hq hn, lane_planes _ hn]
def squareP (p : List UInt64) : List UInt64 := bring 0 (fun a b => a ^^^ b) (sqTo 0 p 8)
theorem squareP_length (p : List UInt64) : (squareP p).length = 8 := bring_length _ _ _ (sqTo_length ..)
theorem sq_all : (List.range 256).all (fun a => ofBits (bring false (fun a b => a ^^ b) (sqTo false (bitsOf a) 8)) == gN a a) = true := by decide +kernel
theorem lane_squareP (p : List UInt64) (hp : p.length = 8) {n : Nat} (hn : n < 64) : lane (squareP p) n = gmul (lane p n) (lane p n) := by
  refine u8_ext ?_
  rw [lane_of_map _ hn, gmul_toNat]
  unfold squareP
  rw [bring_map 0 (fun a b => a ^^^ b) false (fun a b => a ^^ b) (b64 · n) (b64_zero n) (fun a b => b64_xor a b n),
    sqTo_map 0 false (b64 · n) (b64_zero n), map_b64 p hp hn]
  have := List.all_eq_true.1 sq_all (lane p n).toNat (List.mem_range.2 (UInt8.toNat_lt _))
  simpa using this
def addP (p q : List UInt64) : List UInt64 := (List.range 8).map fun i => p.getD i 0 ^^^ q.getD i 0
theorem addP_length (p q : List UInt64) : (addP p q).length = 8 := by simp [addP]
theorem addP_get (p q : List UInt64) {i : Nat} (hi : i < 8) : (addP p q).getD i 0 = p.getD i 0 ^^^ q.getD i 0 := by simp [addP, List.getD_eq_getElem?_getD, hi]
theorem lane_addP (p q : List UInt64) {n : Nat} (hn : n < 64) : lane (addP p q) n = lane p n ^^^ lane q n := by
  refine ext8 fun i hi => ?_
  unfold lane
  rw [if_pos hn, if_pos hn, if_pos hn, b8_xor, b8_mk8 _ hi, b8_mk8 _ hi, b8_mk8 _ hi, addP_get _ _ hi, b64_xor]
def ones64 : UInt64 := mk64 fun _ => true
theorem ones64_toNat : ones64.toNat = 18446744073709551615 := by decide +kernel
/-- The planes that bear one byte in each lane. -/
def all64 (a : UInt8) : List UInt64 := (List.range 8).map fun i => if b8 a i then ones64 else 0
theorem all64_eq (a : UInt8) : all64 a = planes fun _ => a := by
  unfold all64 planes
  refine List.map_congr_left fun i hi => ?_
  have hi : i < 8 := by simpa using hi
  cases h : b8 a i
  · exact ext64 fun n hn => by rw [b64_mk64 _ hn, h]; simp [b64_zero]
  · exact mk64_congr fun n _ => h.symm
def scaleP (p : List UInt64) (a : UInt8) : List UInt64 := mulP p (all64 a)
theorem all64_length (a : UInt8) : (all64 a).length = 8 := by simp [all64]
theorem lane_scaleP (p : List UInt64) (hp : p.length = 8) (a : UInt8) {n : Nat} (hn : n < 64) : lane (scaleP p a) n = gmul (lane p n) a := by
  unfold scaleP
  rw [lane_mulP _ _ hp (all64_length a) hn, all64_eq, lane_planes _ hn]
theorem scaleP_length (p : List UInt64) (a : UInt8) : (scaleP p a).length = 8 := mulP_length _ _
end Go.Proofs.YtccedmegmmcnkaaDoor.Bt

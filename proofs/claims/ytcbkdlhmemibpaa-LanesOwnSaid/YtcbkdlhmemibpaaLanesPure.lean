/- What the rounds of lanes' loops leave, as lists: plain Lean over bits. -/
import Derived.Test.YtcbkdlhmemibpaaKit
namespace Go.Proofs.Ytcbkdlhmemibpaa
open Go.RowKit Gf Bt

/-- Lane n of planes, k of its bits. -/
def laneTo (p : List UInt64) (n k : Nat) : UInt8 := mk8 fun i => decide (i < k) && b64 (p.getD i 0) n
theorem laneTo_zero (p : List UInt64) (n : Nat) : laneTo p n 0 = 0 := ext8 fun i hi => by
  rw [laneTo, b8_mk8 _ hi, b8_zero]; simp
theorem laneTo_all (p : List UInt64) {n : Nat} (h : n < 64) : laneTo p n 8 = lane p n := ext8 fun i hi => by
  rw [laneTo, lane, if_pos h, b8_mk8 _ hi, b8_mk8 _ hi]; simp [hi]
theorem b8_or (a b : UInt8) (i : Nat) : b8 (a ||| b) i = (b8 a i || b8 b i) := by unfold b8; rw [UInt8.toNat_or, Nat.testBit_or]
theorem b64_or (a b : UInt64) (i : Nat) : b64 (a ||| b) i = (b64 a i || b64 b i) := by unfold b64; rw [UInt64.toNat_or, Nat.testBit_or]
theorem one8 (x : Bool) {k : Nat} (hk : k < 8) : (UInt8.ofNat (x.toNat * 2 ^ k)).toNat = x.toNat * 2 ^ k := by
  rw [UInt8.toNat_ofNat']
  refine Nat.mod_eq_of_lt ?_
  have : 2 ^ k ≤ 2 ^ 7 := Nat.pow_le_pow_right (by decide) (by omega)
  cases x <;> simp <;> omega
theorem one64 (x : Bool) {k : Nat} (hk : k < 64) : (UInt64.ofNat (x.toNat * 2 ^ k)).toNat = x.toNat * 2 ^ k := by
  rw [UInt64.toNat_ofNat']
  refine Nat.mod_eq_of_lt ?_
  have : 2 ^ k ≤ 2 ^ 63 := Nat.pow_le_pow_right (by decide) (by omega)
  cases x <;> simp <;> omega
theorem b8_one (x : Bool) {k : Nat} (hk : k < 8) (i : Nat) : b8 (UInt8.ofNat (x.toNat * 2 ^ k)) i = (decide (i = k) && x) := by
  unfold b8; rw [one8 x hk]
  cases x
  · simp
  · simp [Nat.testBit_two_pow, eq_comm]
theorem b64_one (x : Bool) {k : Nat} (hk : k < 64) (i : Nat) : b64 (UInt64.ofNat (x.toNat * 2 ^ k)) i = (decide (i = k) && x) := by
  unfold b64; rw [one64 x hk]
  cases x
  · simp
  · simp [Nat.testBit_two_pow, eq_comm]
theorem bool_int (x : Bool) (k : Nat) : ((x.toNat : Nat) : Int) * 2 ^ k = ((x.toNat * 2 ^ k : Nat) : Int) := by simp
theorem lane_cell (p : List UInt64) (n k : Nat) (y : UInt64) (hy : p.getD k 0 = y) (hk : k < 8) :
    bits .or .u8 ((laneTo p n k).toNat : Int) (bits .and .u64 ((y.toNat : Int) / 2 ^ n) 1 % 256 * 2 ^ k % 256) = ((laneTo p n (k + 1)).toNat : Nat) := by
  rw [bit_u64, show (((b64 y n).toNat : Nat) : Int) % 256 = ((b64 y n).toNat : Nat) from by cases b64 y n <;> rfl, bool_int, ← one8 _ hk,
    show (((UInt8.ofNat ((b64 y n).toNat * 2 ^ k)).toNat : Nat) : Int) % 256 = ((UInt8.ofNat ((b64 y n).toNat * 2 ^ k)).toNat : Nat) from by have := (UInt8.ofNat ((b64 y n).toNat * 2 ^ k)).toNat_lt; omega, bits_u8_or]
  congr 2
  refine ext8 fun i hi => ?_
  rw [b8_or, b8_one _ hk, laneTo, laneTo, b8_mk8 _ hi, b8_mk8 _ hi]
  by_cases h : i = k
  · subst h; rw [hy]; simp
  · have h1 : decide (i < k + 1) = decide (i < k) := by simp; omega
    simp [h, h1]

/-- What planes are behind k bytes and m bits more of the next one. -/
def packAt (l : List UInt8) (k m : Nat) : List UInt64 := (List.range 8).map fun i => mk64 fun n => (decide (n < k) || (decide (n = k) && decide (i < m))) && b8 (l.getD n 0) i
theorem packAt_length (l : List UInt8) (k m : Nat) : (packAt l k m).length = 8 := by simp [packAt]
theorem packAt_get (l : List UInt8) (k m : Nat) {i : Nat} (hi : i < 8) : (packAt l k m)[i]? = some (mk64 fun n => (decide (n < k) || (decide (n = k) && decide (i < m))) && b8 (l.getD n 0) i) := by
  simp [packAt, hi]
theorem packAt_start (l : List UInt8) : packAt l 0 0 = List.replicate 8 0 := by
  refine List.ext_getElem? fun i => ?_
  by_cases hi : i < 8
  · rw [packAt_get _ _ _ hi]
    have : (mk64 fun n => (decide (n < 0) || (decide (n = 0) && decide (i < 0))) && b8 (l.getD n 0) i) = 0 := ext64 fun n hn => by
      rw [b64_mk64 _ hn, b64_zero]; simp
    rw [this, List.getElem?_replicate, if_pos hi]
  · rw [List.getElem?_eq_none (by rw [packAt_length]; omega), List.getElem?_eq_none (by simp; omega)]
theorem packAt_next (l : List UInt8) (k : Nat) : packAt l k 8 = packAt l (k + 1) 0 := by
  unfold packAt
  refine List.map_congr_left fun i hi => mk64_congr fun n _ => ?_
  have hi : i < 8 := by simpa using hi
  have : decide (n < k + 1) = (decide (n < k) || decide (n = k)) := by
    rw [Bool.eq_iff_iff]; simp; omega
  simp [hi, this]
theorem packAt_end (l : List UInt8) : packAt l (min l.length 64) 0 = pack l := by
  unfold packAt pack planes
  refine List.map_congr_left fun i hi => mk64_congr fun n hn => ?_
  simp only [if_pos hn]
  by_cases h : n < l.length
  · have : n < min l.length 64 := by omega
    simp [this]
  · have h0 : l.getD n 0 = 0 := by simp [List.getD_eq_getElem?_getD, List.getElem?_eq_none (Nat.le_of_not_lt h)]
    rw [h0, b8_zero]; simp
theorem pack_cell (l : List UInt8) (k m : Nat) (x : UInt8) (y : UInt64) (hx : l[k]? = some x) (hy : (packAt l k m)[m]? = some y) (hk : k < 64) (hm : m < 8) :
    ∃ z : UInt64, bits .or .u64 (y.toNat : Int) (IntKind.u64.wrap (IntKind.u64.wrap (bits .and .u8 ((x.toNat : Int) / 2 ^ m) 1) * 2 ^ k)) = (z.toNat : Nat) ∧ (packAt l k m).set m z = packAt l k (m + 1) := by
  refine ⟨y ||| UInt64.ofNat ((b8 x m).toNat * 2 ^ k), ?_, ?_⟩
  · have h1 : IntKind.u64.wrap (IntKind.u64.wrap (bits .and .u8 ((x.toNat : Int) / 2 ^ m) 1) * 2 ^ k) = ((UInt64.ofNat ((b8 x m).toNat * 2 ^ k)).toNat : Nat) := by
      rw [bit_u8, wrap_u64_nat (by cases b8 x m <;> decide), bool_int, one64 _ hk]
      exact wrap_u64_nat (by rw [← one64 _ hk]; exact UInt64.toNat_lt _)
    rw [h1, bits_u64_or]
  · refine List.ext_getElem? fun i => ?_
    by_cases hi : i < 8
    · rw [packAt_get _ _ _ hi, List.getElem?_set]
      rw [packAt_get _ _ _ hm] at hy
      have hy := Option.some.inj hy
      by_cases him : m = i
      · subst him
        rw [if_pos rfl, packAt_length, if_pos hm]
        refine congrArg some ?_
        refine ext64 fun n hn => ?_
        rw [b64_or, b64_one _ hk, ← hy, b64_mk64 _ hn, b64_mk64 _ hn]
        by_cases hnk : n = k
        · subst hnk; simp [List.getD_eq_getElem?_getD, hx]
        · simp [hnk]
      · rw [if_neg him, packAt_get _ _ _ hi]
        refine congrArg some ?_
        refine mk64_congr fun n _ => ?_
        have : decide (i < m + 1) = decide (i < m) := by simp; omega
        rw [this]
    · rw [List.getElem?_eq_none (by simp [packAt_length]; omega), List.getElem?_eq_none (by rw [packAt_length]; omega)]
def laneI (p : List UInt64) (n : Int) : UInt8 := if n < 0 then 0 else lane p n.toNat
theorem laneI_nat (p : List UInt64) (n : Nat) : laneI p n = lane p n := by unfold laneI; rw [if_neg (by omega)]; simp
/-- The first k sums of planes, the rest as they were. -/
def addTo (p q : List UInt64) (k : Nat) : List UInt64 := (List.range 8).map fun i => if i < k then p.getD i 0 ^^^ q.getD i 0 else p.getD i 0
theorem addTo_length (p q : List UInt64) (k : Nat) : (addTo p q k).length = 8 := by simp [addTo]
theorem addTo_zero (p q : List UInt64) (hp : p.length = 8) : addTo p q 0 = p := by
  refine List.ext_getElem (by simp [addTo, hp]) fun i h1 h2 => ?_
  simp [addTo, List.getD_eq_getElem?_getD, List.getElem?_eq_getElem h2]
theorem addTo_all (p q : List UInt64) : addTo p q 8 = addP p q := by
  unfold addTo addP
  refine List.map_congr_left fun i hi => ?_
  rw [if_pos (by simpa using hi)]
theorem addTo_step (p q : List UInt64) {k : Nat} : (addTo p q k).set k (p.getD k 0 ^^^ q.getD k 0) = addTo p q (k + 1) := by
  refine List.ext_getElem (by simp [addTo]) fun i h1 h2 => ?_
  rw [List.getElem_set]
  simp only [addTo, List.getElem_map, List.getElem_range]
  by_cases h : k = i
  · subst h; simp
  · rw [if_neg h]
    by_cases hi : i < k
    · rw [if_pos hi, if_pos (show i < k + 1 by omega)]
    · rw [if_neg hi, if_neg (show ¬ i < k + 1 by omega)]
theorem addTo_get (p q : List UInt64) {k : Nat} (hk : k < 8) : (addTo p q k)[k]? = some (p.getD k 0) := by simp [addTo, hk]
def all64To (a : UInt8) (k : Nat) : List UInt64 := (List.range 8).map fun i => if i < k then (if b8 a i then ones64 else 0) else 0
theorem all64To_zero (a : UInt8) : all64To a 0 = List.replicate 8 0 := by
  unfold all64To
  rw [List.map_congr_left (g := fun _ => (0 : UInt64)) (fun i _ => by rw [if_neg (by omega)])]
  rfl
theorem all64To_all (a : UInt8) : all64To a 8 = all64 a := by
  unfold all64To all64
  refine List.map_congr_left fun i hi => ?_
  rw [if_pos (by simpa using hi)]
theorem all64To_length (a : UInt8) (k : Nat) : (all64To a k).length = 8 := by simp [all64To]
theorem all64To_yes (a : UInt8) {k : Nat} (hb : b8 a k = true) : (all64To a k).set k ones64 = all64To a (k + 1) := by
  refine List.ext_getElem (by simp [all64To]) fun i h1 h2 => ?_
  rw [List.getElem_set]
  simp only [all64To, List.getElem_map, List.getElem_range]
  by_cases h : k = i
  · subst h; simp [hb]
  · rw [if_neg h]
    by_cases hi : i < k
    · rw [if_pos hi, if_pos (show i < k + 1 by omega)]
    · rw [if_neg hi, if_neg (show ¬ i < k + 1 by omega)]
theorem all64To_no (a : UInt8) {k : Nat} (hb : b8 a k = false) : all64To a k = all64To a (k + 1) := by
  unfold all64To
  refine List.map_congr_left fun i _ => ?_
  by_cases h : k = i
  · subst h; simp [hb]
  · by_cases hi : i < k
    · rw [if_pos hi, if_pos (show i < k + 1 by omega)]
    · rw [if_neg hi, if_neg (show ¬ i < k + 1 by omega)]
/-- The first k lanes, and noughts. -/
def lanesTo (p : List UInt64) (k : Nat) : List UInt8 := (List.range 64).map fun n => if n < k then lane p n else 0
theorem lanesTo_length (p : List UInt64) (k : Nat) : (lanesTo p k).length = 64 := by simp [lanesTo]
theorem lanesTo_zero (p : List UInt64) : lanesTo p 0 = List.replicate 64 0 := by
  unfold lanesTo
  rw [List.map_congr_left (g := fun _ => (0 : UInt8)) (fun i _ => by rw [if_neg (by omega)])]
  rfl
theorem lanesTo_all (p : List UInt64) : lanesTo p 64 = lanes p := by
  unfold lanesTo lanes
  refine List.map_congr_left fun i hi => ?_
  rw [if_pos (by simpa using hi)]
theorem lanesTo_step (p : List UInt64) (k : Nat) : (lanesTo p k).set k (lane p k) = lanesTo p (k + 1) := by
  refine List.ext_getElem (by simp [lanesTo]) fun i h1 h2 => ?_
  rw [List.getElem_set]
  simp only [lanesTo, List.getElem_map, List.getElem_range]
  by_cases h : k = i
  · subst h; simp
  · rw [if_neg h]
    by_cases hi : i < k
    · rw [if_pos hi, if_pos (show i < k + 1 by omega)]
    · rw [if_neg hi, if_neg (show ¬ i < k + 1 by omega)]
end Go.Proofs.Ytcbkdlhmemibpaa

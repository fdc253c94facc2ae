/- The walks of layer 1, one: how long a number is; what is left of it. -/
import Derived.Test.YtccedmegmmcnkaaDoorRefS
namespace Go.Proofs.YtccedmegmmcnkaaDoor
open Go.RowKit Gf Bt

/-- How many bits a number has. -/
def sz (x : Nat) : Nat := if x = 0 then 0 else Nat.log2 x + 1
theorem sz_lt (x : Nat) : x < 2 ^ sz x := by
  unfold sz
  split
  · rename_i h; subst h; decide
  · exact Nat.lt_log2_self
theorem sz_le (x : Nat) : sz x = 0 ∨ 2 ^ (sz x - 1) ≤ x := by
  unfold sz
  split
  · exact .inl rfl
  · rename_i h; exact .inr (by rw [Nat.add_sub_cancel]; exact Nat.log2_self_le h)
def len8A : ByteArray := ⟨#[0, 1, 2, 2, 3, 3, 3, 3, 4, 4, 4, 4, 4, 4, 4, 4, 5, 5, 5, 5, 5, 5, 5, 5, 5, 5, 5, 5, 5, 5, 5, 5, 6, 6, 6, 6, 6, 6, 6, 6, 6, 6, 6, 6, 6, 6, 6, 6, 6, 6, 6, 6, 6, 6, 6, 6, 6, 6, 6, 6, 6, 6, 6, 6, 7, 7, 7, 7, 7, 7, 7, 7, 7, 7, 7, 7, 7, 7, 7, 7, 7, 7, 7, 7, 7, 7, 7, 7, 7, 7, 7, 7, 7, 7, 7, 7, 7, 7, 7, 7, 7, 7, 7, 7, 7, 7, 7, 7, 7, 7, 7, 7, 7, 7, 7, 7, 7, 7, 7, 7, 7, 7, 7, 7, 7, 7, 7, 7, 8, 8, 8, 8, 8, 8, 8, 8, 8, 8, 8, 8, 8, 8, 8, 8, 8, 8, 8, 8, 8, 8, 8, 8, 8, 8, 8, 8, 8, 8, 8, 8, 8, 8, 8, 8, 8, 8, 8, 8, 8, 8, 8, 8, 8, 8, 8, 8, 8, 8, 8, 8, 8, 8, 8, 8, 8, 8, 8, 8, 8, 8, 8, 8, 8, 8, 8, 8, 8, 8, 8, 8, 8, 8, 8, 8, 8, 8, 8, 8, 8, 8, 8, 8, 8, 8, 8, 8, 8, 8, 8, 8, 8, 8, 8, 8, 8, 8, 8, 8, 8, 8, 8, 8, 8, 8, 8, 8, 8, 8, 8, 8, 8, 8, 8, 8, 8, 8, 8, 8, 8, 8, 8, 8, 8, 8, 8, 8]⟩
theorem len8_all : ((List.range 256).all fun x => (len8A.data.getD x 0).toNat == sz x) = true := by decide +kernel
theorem len8_get {x : Nat} (hx : x < 256) (h : x < len8A.size) : (len8A[x]'h).toNat = sz x := by
  have h1 := List.all_eq_true.1 len8_all x (List.mem_range.2 hx)
  have h2 : len8A.data.getD x 0 = len8A[x]'h := by
    have h3 : x < len8A.data.size := h
    rw [Array.getD_eq_getD_getElem?, Array.getElem?_eq_getElem h3]; rfl
  rw [h2] at h1
  exact eq_of_beq h1
theorem sz_small {x : Nat} (h : x < 256) : sz x ≤ 8 := by
  rcases sz_le x with h1 | h1
  · omega
  · rcases Nat.lt_or_ge 8 (sz x) with h2 | h2
    · have h3 : 2 ^ 8 ≤ 2 ^ (sz x - 1) := Nat.pow_le_pow_right (by decide) (by omega)
      omega
    · exact h2
theorem wrap2 {n : Nat} (h : n ≤ 100) : wrap64 (wrap64 (n : Int)) = (n : Int) := by unfold wrap64; omega
set_option maxRecDepth 100000 in
theorem len16_low (x : Nat) (w : World) (hx : x < 256) : Calls Tryd.prog 44 #[.int .u16 x] w fun e w' => e = .returned (.int .i64 (sz x)) ∧ w' = w := by
  have hx0 : (0 : Int) ≤ (x : Int) := Int.natCast_nonneg _
  have hxz : (x : Int) < 256 := Int.ofNat_lt.2 hx
  go_enter Tryd.func44, Tryd.ntmps44
  go_wp2
  go_ret
  refine ⟨ret_int ?_, rfl⟩
  have h : x < len8A.size := hx
  show wrap64 (wrap64 (((len8A[x]'h).toNat : Nat) : Int)) = _
  rw [len8_get hx h]
  exact wrap2 (Nat.le_trans (sz_small hx) (by decide))
set_option maxRecDepth 100000 in
theorem len16_high (x : Nat) (w : World) (hx : 256 ≤ x) (hx2 : x < 65536) : Calls Tryd.prog 44 #[.int .u16 x] w fun e w' => e = .returned (.int .i64 ((8 + sz (x / 256) : Nat) : Int)) ∧ w' = w := by
  have hx0 : (256 : Int) ≤ (x : Int) := Int.ofNat_le.2 hx
  have hxz : (x : Int) < 65536 := Int.ofNat_lt.2 hx2
  go_enter Tryd.func44, Tryd.ntmps44
  go_upto_region 4 with fail
  obtain ⟨y, hy⟩ : ∃ y, x / 256 = y := ⟨_, rfl⟩
  have hyz : (x : Int) / 256 = (y : Int) := by omega
  have hy2 : y < 256 := by omega
  have hy0 : (0 : Int) ≤ (y : Int) := Int.natCast_nonneg _
  have hy256 : (y : Int) < 256 := Int.ofNat_lt.2 hy2
  rw [hyz]
  have HY := bx hy
  clear hx hx2 hx0 hxz hyz hy
  go_wp2
  go_ret
  refine ⟨ret_int ?_, rfl⟩
  have h : y < len8A.size := hy2
  show wrap64 (8 + wrap64 (((len8A[y]'h).toNat : Nat) : Int)) = _
  rw [len8_get hy2 h, HY.out]
  have := sz_small hy2
  unfold wrap64; omega
theorem sz_half {x : Nat} (h : 256 ≤ x) : 8 + sz (x / 256) = sz x := by
  have hb : ∀ {x k : Nat}, 0 < k → 2 ^ (k - 1) ≤ x → x < 2 ^ k → sz x = k := by
    intro x k hk h1 h2
    have h3 := sz_lt x
    have hp : 0 < x := Nat.lt_of_lt_of_le (Nat.two_pow_pos _) h1
    rcases sz_le x with h4 | h4
    · rw [h4] at h3; simp at h3; omega
    · have h5 : sz x - 1 < k := (Nat.pow_lt_pow_iff_right (by decide)).1 (Nat.lt_of_le_of_lt h4 h2)
      have h6 : k - 1 < sz x := (Nat.pow_lt_pow_iff_right (by decide)).1 (Nat.lt_of_le_of_lt h1 h3)
      omega
  obtain ⟨y, hy⟩ : ∃ y, x / 256 = y := ⟨_, rfl⟩
  rw [hy]
  have hy1 : 1 ≤ y := by omega
  have h1 := sz_lt y
  have hs : 0 < sz y := by
    rcases Nat.eq_zero_or_pos (sz y) with h0 | h0
    · rw [h0] at h1; simp at h1; omega
    · exact h0
  have h2 : 2 ^ (sz y - 1) ≤ y := by
    rcases sz_le y with h0 | h0
    · omega
    · exact h0
  refine (hb (by omega) ?_ ?_).symm
  · have : 2 ^ (8 + sz y - 1) = 256 * 2 ^ (sz y - 1) := by rw [show 8 + sz y - 1 = 8 + (sz y - 1) by omega, Nat.pow_add]
    rw [this]
    have := Nat.mul_le_mul_left 256 h2
    omega
  · rw [Nat.pow_add]
    have := Nat.mul_le_mul_left 256 (show y + 1 ≤ 2 ^ sz y from h1)
    omega
theorem len16 (x : Nat) (w : World) (hx2 : x < 65536) : Calls Tryd.prog 44 #[.int .u16 x] w fun e w' => e = .returned (.int .i64 (sz x)) ∧ w' = w := by
  rcases Nat.lt_or_ge x 256 with h | h
  · exact len16_low x w h
  · have := len16_high x w h hx2
    rwa [sz_half h] at this
/-- What is left does not turn where a multiple of the modulus is taken off. -/
theorem red_mod : ∀ j, j ≤ 7 → redN (285 <<< j) = 0 := by decide +kernel
theorem top_bit {v k : Nat} (h1 : 2 ^ k ≤ v) (h2 : v < 2 ^ (k + 1)) : v.testBit k = true := by
  rw [Nat.testBit_eq_decide_div_mod_eq]
  have h3 : v / 2 ^ k = 1 := Nat.div_eq_of_lt_le (by rw [Nat.one_mul]; exact h1) (by rw [Nat.pow_succ] at h2; omega)
  rw [h3]; rfl
theorem red_step {v k : Nat} (hk : 8 ≤ k) (hk2 : k ≤ 15) (h1 : 2 ^ k ≤ v) (h2 : v < 2 ^ (k + 1)) : redN (v ^^^ (285 <<< (k - 8))) = redN v ∧ v ^^^ (285 <<< (k - 8)) < 2 ^ k := by
  refine ⟨by rw [redN_xor, red_mod _ (by omega), Nat.xor_zero], ?_⟩
  have h := rstep_lt hk h2
  unfold rstep at h
  rwa [if_pos (top_bit h1 h2)] at h
theorem red_cell2 {v j : Nat} (hv : v < 65536) (hj : j ≤ 7) : bits .xor .u16 (v : Int) (IntKind.u16.wrap (285 * 2 ^ j)) = ((v ^^^ (285 <<< j) : Nat) : Int) := by
  have h1 : 285 * 2 ^ j < 65536 := by
    have : 2 ^ j ≤ 2 ^ 7 := Nat.pow_le_pow_right (by decide) hj
    omega
  rw [show ((285 : Int) * 2 ^ j) = ((285 * 2 ^ j : Nat) : Int) by simp, wrap_u16_nat h1, bits_u16_xor _ _ hv h1, Nat.shiftLeft_eq]
theorem reduce_any (v : Nat) (hv : v < 65536) (w : World) :
    Calls Tryd.prog 37 #[.int .u16 (v : Int)] w fun e w' => e = .returned (.int .u8 (redN v : Nat)) ∧ w' = w := by
  have HV := bx hv
  go_enter Tryd.func37, Tryd.ntmps37
  go_wp2_with (go_at_call 44; refine (len16 v w HV.out).mono ?_; rintro e w' ⟨rfl, hw'⟩; have hw' := hw'.symm; subst hw')
  clear hv
  go_loop [0, 3] (fun x i => ∃ u : Nat, u < 65536 ∧ redN u = redN v ∧ x = .int .u16 (u : Int) ∧ i = .int .i64 (sz u : Int)) (fun x _ => (intOf x).toNat)
  case atStart => exact ⟨v, HV.out, rfl, rfl, rfl⟩
  case round =>
    obtain ⟨u, hu, hru, rfl, rfl⟩ := hrel
    have HU := bx hu
    have HRU := bx hru
    obtain ⟨s, hs⟩ : ∃ s, sz u = s := ⟨_, rfl⟩
    have h1 := sz_lt u
    have h2 := sz_le u
    rw [hs] at h1 h2 ⊢
    by_cases hlt : 8 < s
    · have h3 : 2 ^ (s - 1) ≤ u := by
        rcases h2 with h | h
        · omega
        · exact h
      obtain ⟨j, rfl⟩ : ∃ j, s = j + 9 := ⟨s - 9, by omega⟩
      have hj7 : j ≤ 7 := by
        rcases Nat.lt_or_ge 7 j with h | h
        · have : 2 ^ 16 ≤ 2 ^ (j + 9 - 1) := Nat.pow_le_pow_right (by decide) (by omega)
          omega
        · exact h
      have hst := red_step (v := u) (k := j + 8) (by omega) (by omega) h3 h1
      rw [Nat.add_sub_cancel] at hst
      have hcell := red_cell2 (v := u) (j := j) hu hj7
      have hj0 : (0 : Int) ≤ (j : Int) := Int.natCast_nonneg _
      have hjz : (j : Int) ≤ 7 := Int.ofNat_le.2 hj7
      have hlow : u ^^^ (285 <<< j) < u := Nat.lt_of_lt_of_le hst.2 h3
      obtain ⟨u', hu'⟩ : ∃ u', u ^^^ (285 <<< j) = u' := ⟨_, rfl⟩
      rw [hu'] at hst hcell hlow
      have HST := bx hst.1
      have HLOW := bx hlow
      have hu'2 : u' < 65536 := Nat.lt_trans hlow hu
      have HU2 := bx hu'2
      clear h1 h2 h3 hs hst hlow hu' hu hru hlt hu'2
      go_wp2_with (go_at_call 44; refine (len16 u' w HU2.out).mono ?_; rintro e w' ⟨rfl, hw'⟩; have hw' := hw'.symm; subst hw')
      go_round
      case rel => exact ⟨u', HU2.out, HST.out.trans HRU.out, rfl, rfl⟩
      case measure => simp [intOf]; exact HLOW.out
    · have hu256 : u < 256 := Nat.lt_of_lt_of_le h1 (show 2 ^ s ≤ 2 ^ 8 from Nat.pow_le_pow_right (by decide) (Nat.le_of_not_lt hlt))
      have hsz : ¬ (8 : Int) < (s : Int) := fun h => hlt (Int.ofNat_lt.1 h)
      have hu0 : (0 : Int) ≤ (u : Int) := Int.natCast_nonneg _
      have huz : (u : Int) < 256 := Int.ofNat_lt.2 hu256
      have HR := bx (show redN v = u by rw [← HRU.out]; exact redN_small hu256)
      clear h1 h2 hs hu hru hlt
      go_wp2
      go_ret
      exact ⟨ret_int (by rw [HR.out]), rfl⟩
end Go.Proofs.YtccedmegmmcnkaaDoor

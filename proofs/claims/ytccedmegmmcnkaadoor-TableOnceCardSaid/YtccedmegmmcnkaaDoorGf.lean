/- Bytes as the field of 256 elements, modulus 11D: plain Lean. -/
namespace Go.Proofs.YtccedmegmmcnkaaDoor.Gf

def wstep (a b : Nat) (w i : Nat) : Nat := if b.testBit i then w ^^^ (a <<< i) else w
/-- The first j rounds of a product without carries. -/
def wideTo (a b : Nat) : Nat → Nat
  | 0 => 0
  | j + 1 => wstep a b (wideTo a b j) j
def wideN (a b : Nat) : Nat := wideTo a b 8
def rstep (w k : Nat) : Nat := if w.testBit k then w ^^^ (285 <<< (k - 8)) else w
/-- What is left behind the rounds at the bits from the fifteenth down, j of them. -/
def redTo (w : Nat) : Nat → Nat
  | 0 => w
  | j + 1 => rstep (redTo w j) (15 - j)
def redN (w : Nat) : Nat := redTo w 8
def gN (a b : Nat) : Nat := redN (wideN a b)

theorem ite_xor {x y : Bool} (v : Nat) : (if (x ^^ y) then v else 0) = (if x then v else 0) ^^^ (if y then v else 0) := by
  cases x <;> cases y <;> simp
theorem wstep_eq (a b w i : Nat) : wstep a b w i = w ^^^ (if b.testBit i then a <<< i else 0) := by
  unfold wstep; split <;> simp
theorem rstep_eq (w k : Nat) : rstep w k = w ^^^ (if w.testBit k then 285 <<< (k - 8) else 0) := by
  unfold rstep; split <;> simp
theorem xor4 (a b c d : Nat) : (a ^^^ b) ^^^ (c ^^^ d) = (a ^^^ c) ^^^ (b ^^^ d) := by
  rw [Nat.xor_assoc, ← Nat.xor_assoc b, Nat.xor_comm b c, Nat.xor_assoc, Nat.xor_assoc]
theorem wideTo_xor_right (a b c : Nat) : ∀ j, wideTo a (b ^^^ c) j = wideTo a b j ^^^ wideTo a c j
  | 0 => by simp [wideTo]
  | j + 1 => by
    simp only [wideTo, wstep_eq, wideTo_xor_right a b c j, Nat.testBit_xor]
    rw [ite_xor, xor4]
theorem wideTo_xor_left (a b c : Nat) : ∀ j, wideTo (a ^^^ b) c j = wideTo a c j ^^^ wideTo b c j
  | 0 => by simp [wideTo]
  | j + 1 => by
    simp only [wideTo, wstep_eq, wideTo_xor_left a b c j]
    rw [xor4]
    split
    · rw [Nat.shiftLeft_xor_distrib]
    · simp
theorem redTo_xor (v w : Nat) : ∀ j, redTo (v ^^^ w) j = redTo v j ^^^ redTo w j
  | 0 => rfl
  | j + 1 => by
    simp only [redTo, rstep_eq, redTo_xor v w j, Nat.testBit_xor]
    rw [ite_xor, xor4]
theorem redN_xor (v w : Nat) : redN (v ^^^ w) = redN v ^^^ redN w := redTo_xor v w 8
theorem gN_xor_right (a b c : Nat) : gN a (b ^^^ c) = gN a b ^^^ gN a c := by
  unfold gN wideN; rw [wideTo_xor_right, redN_xor]
theorem gN_xor_left (a b c : Nat) : gN (a ^^^ b) c = gN a c ^^^ gN b c := by
  unfold gN wideN; rw [wideTo_xor_left, redN_xor]

theorem wideTo_lt {a b : Nat} (ha : a < 2 ^ 8) : ∀ j, j ≤ 8 → wideTo a b j < 2 ^ (7 + j) ∨ j = 0
  | 0, _ => .inr rfl
  | j + 1, hj => .inl (by
    have ih := wideTo_lt (b := b) ha j (by omega)
    simp only [wideTo, wstep_eq]
    apply Nat.xor_lt_two_pow
    · rcases ih with ih | rfl
      · exact Nat.lt_of_lt_of_le ih (Nat.pow_le_pow_right (by decide) (by omega))
      · simp [wideTo]
    · split
      · rw [Nat.shiftLeft_eq, show 7 + (j + 1) = 8 + j by omega, Nat.pow_add]
        exact Nat.mul_lt_mul_of_pos_right ha (Nat.two_pow_pos j)
      · exact Nat.two_pow_pos _)
theorem wideN_lt {a b : Nat} (ha : a < 256) : wideN a b < 32768 := by
  rcases wideTo_lt (a := a) (b := b) ha 8 (by omega) with h | h
  · exact h
  · omega
theorem rstep_lt {w k : Nat} (hk : 8 ≤ k) (h : w < 2 ^ (k + 1)) : rstep w k < 2 ^ k := by
  apply Nat.lt_pow_two_of_testBit
  intro i hi
  have h285 : (285 <<< (k - 8)) < 2 ^ (k + 1) := by
    rw [Nat.shiftLeft_eq, show k + 1 = 9 + (k - 8) by omega, Nat.pow_add]
    exact Nat.mul_lt_mul_of_pos_right (by decide) (Nat.two_pow_pos _)
  unfold rstep
  by_cases hik : i = k
  · subst hik
    split
    · rename_i hb
      rw [Nat.testBit_xor, hb, Nat.testBit_shiftLeft]
      have : i - (i - 8) = 8 := by omega
      rw [this]
      simp [show i - 8 ≤ i by omega]
      decide
    · rename_i hb; simpa using hb
  · have hgt : k + 1 ≤ i := by omega
    have hp : 2 ^ (k + 1) ≤ 2 ^ i := Nat.pow_le_pow_right (by decide) hgt
    split
    · exact Nat.testBit_lt_two_pow (Nat.lt_of_lt_of_le (Nat.xor_lt_two_pow h h285) hp)
    · exact Nat.testBit_lt_two_pow (Nat.lt_of_lt_of_le h hp)
theorem redTo_lt {w : Nat} (h : w < 65536) : ∀ j, j ≤ 8 → redTo w j < 2 ^ (16 - j)
  | 0, _ => h
  | j + 1, hj => by
    have ih := redTo_lt h j (by omega)
    rw [show 16 - (j + 1) = 15 - j by omega]
    exact rstep_lt (by omega) (by rw [show 15 - j + 1 = 16 - j by omega]; exact ih)
theorem redN_lt {w : Nat} (h : w < 65536) : redN w < 256 := redTo_lt h 8 (by omega)
theorem redTo_small {w : Nat} (h : w < 256) : ∀ j, j ≤ 8 → redTo w j = w
  | 0, _ => rfl
  | j + 1, hj => by
    simp only [redTo, redTo_small h j (by omega), rstep]
    rw [if_neg]
    have : w.testBit (15 - j) = false := Nat.testBit_lt_two_pow (Nat.lt_of_lt_of_le h (show 2 ^ 8 ≤ 2 ^ (15 - j) from Nat.pow_le_pow_right (by decide) (by omega)))
    simp [this]
theorem redN_small {w : Nat} (h : w < 256) : redN w = w := redTo_small h 8 (by omega)
theorem gN_lt {a : Nat} (b : Nat) (ha : a < 256) : gN a b < 256 := redN_lt (Nat.lt_trans (wideN_lt ha) (by decide))

/-- What holds of 0, of the eight powers and of sums holds of all bytes. -/
theorem byte_ind (P : Nat → Prop) (h0 : P 0) (hx : ∀ a b, a < 256 → b < 256 → P a → P b → P (a ^^^ b)) (hb : ∀ i, i < 8 → P (2 ^ i)) : ∀ a, a < 256 → P a := by
  have key : ∀ n, n ≤ 8 → ∀ a, a < 2 ^ n → P a := by
    intro n
    induction n with
    | zero => intro _ a ha; obtain rfl : a = 0 := (by simpa using ha); exact h0
    | succ n ih =>
      intro hn a ha
      have hle : 2 ^ n ≤ 128 := (Nat.pow_le_pow_right (by decide) (by omega) : 2 ^ n ≤ 2 ^ 7)
      by_cases hlt : a < 2 ^ n
      · exact ih (by omega) a hlt
      · have he : a = 2 ^ n ^^^ (a - 2 ^ n) := by
          have h1 : a - 2 ^ n < 2 ^ n := by rw [Nat.pow_succ] at ha; omega
          have h2 := Nat.two_pow_add_eq_or_of_lt h1 1
          apply Nat.eq_of_testBit_eq
          intro i
          rw [Nat.testBit_xor, Nat.testBit_two_pow]
          have h3 : a = 2 ^ n + (a - 2 ^ n) := by omega
          by_cases hi : n = i
          · subst hi
            rw [Nat.testBit_lt_two_pow h1]
            conv => lhs; rw [h3]
            rw [Nat.testBit_two_pow_add_eq, Nat.testBit_lt_two_pow h1]
            simp
          · rcases Nat.lt_or_gt_of_ne hi with hg | hg
            · have hpi : 2 ^ (n + 1) ≤ 2 ^ i := Nat.pow_le_pow_right (by decide) hg
              rw [Nat.testBit_lt_two_pow (Nat.lt_of_lt_of_le ha hpi)]
              rw [Nat.testBit_lt_two_pow (Nat.lt_of_lt_of_le h1 (Nat.pow_le_pow_right (by decide) (by omega)))]
              simp [hi]
            · conv => lhs; rw [h3]
              rw [Nat.testBit_two_pow_add_gt hg]
              simp [hi]
        rw [he]
        refine hx _ _ (by omega) (by rw [Nat.pow_succ] at ha; omega) (hb n (by omega)) (ih (by omega) _ (by rw [Nat.pow_succ] at ha; omega))
  exact fun a ha => key 8 (by omega) a ha

theorem gN_zero_right (a : Nat) : gN a 0 = 0 := by
  have h := gN_xor_right a 0 0
  simp only [Nat.xor_self] at h
  exact h
theorem gN_zero_left (a : Nat) : gN 0 a = 0 := by
  have h := gN_xor_left 0 0 a
  simp only [Nat.xor_self] at h
  exact h
theorem basis_comm : ∀ i, i < 8 → ∀ j, j < 8 → gN (2 ^ i) (2 ^ j) = gN (2 ^ j) (2 ^ i) := by decide +kernel
theorem basis_assoc : ∀ i, i < 8 → ∀ j, j < 8 → ∀ k, k < 8 → gN (gN (2 ^ i) (2 ^ j)) (2 ^ k) = gN (2 ^ i) (gN (2 ^ j) (2 ^ k)) := by decide +kernel
theorem basis_one : ∀ i, i < 8 → gN (2 ^ i) 1 = 2 ^ i := by decide +kernel
theorem gN_comm : ∀ a, a < 256 → ∀ b, b < 256 → gN a b = gN b a := by
  refine byte_ind _ (fun b _ => by rw [gN_zero_left, gN_zero_right]) (fun a a' _ _ h h' b hb => by rw [gN_xor_left, gN_xor_right, h b hb, h' b hb]) fun i hi => ?_
  refine byte_ind _ (by rw [gN_zero_left, gN_zero_right]) (fun b b' _ _ h h' => by rw [gN_xor_left, gN_xor_right, h, h']) fun j hj => basis_comm i hi j hj
theorem gN_assoc : ∀ a, a < 256 → ∀ b, b < 256 → ∀ c, c < 256 → gN (gN a b) c = gN a (gN b c) := by
  refine byte_ind _ (fun b _ c _ => by simp only [gN_zero_left]) (fun a a' _ _ h h' b hb c hc => by simp only [gN_xor_left, h b hb c hc, h' b hb c hc]) fun i hi => ?_
  refine byte_ind _ (fun c _ => by simp only [gN_zero_left, gN_zero_right]) (fun b b' _ _ h h' c hc => by simp only [gN_xor_left, gN_xor_right, h c hc, h' c hc]) fun j hj => ?_
  exact byte_ind _ (by simp only [gN_zero_right]) (fun c c' _ _ h h' => by simp only [gN_xor_right, h, h']) fun k hk => basis_assoc i hi j hj k hk
theorem gN_one : ∀ a, a < 256 → gN a 1 = a :=
  byte_ind _ (gN_zero_left 1) (fun a b _ _ h h' => by rw [gN_xor_left, h, h']) basis_one

/- On bytes -/
def gmul (a b : UInt8) : UInt8 := UInt8.ofNat (gN a.toNat b.toNat)
theorem gmul_toNat (a b : UInt8) : (gmul a b).toNat = gN a.toNat b.toNat := by
  unfold gmul
  rw [UInt8.toNat_ofNat']
  exact Nat.mod_eq_of_lt (gN_lt _ a.toNat_lt)
theorem u8_ext {a b : UInt8} (h : a.toNat = b.toNat) : a = b := UInt8.toNat.inj h
theorem gmul_comm (a b : UInt8) : gmul a b = gmul b a := u8_ext (by rw [gmul_toNat, gmul_toNat]; exact gN_comm _ a.toNat_lt _ b.toNat_lt)
theorem gmul_assoc (a b c : UInt8) : gmul (gmul a b) c = gmul a (gmul b c) :=
  u8_ext (by simp only [gmul_toNat]; exact gN_assoc _ a.toNat_lt _ b.toNat_lt _ c.toNat_lt)
theorem gmul_xor (a b c : UInt8) : gmul a (b ^^^ c) = gmul a b ^^^ gmul a c :=
  u8_ext (by simp only [gmul_toNat, UInt8.toNat_xor]; exact gN_xor_right _ _ _)
theorem xor_gmul (a b c : UInt8) : gmul (a ^^^ b) c = gmul a c ^^^ gmul b c :=
  u8_ext (by simp only [gmul_toNat, UInt8.toNat_xor]; exact gN_xor_left _ _ _)
theorem gmul_one (a : UInt8) : gmul a 1 = a := u8_ext (by rw [gmul_toNat]; exact gN_one _ a.toNat_lt)
theorem one_gmul (a : UInt8) : gmul 1 a = a := by rw [gmul_comm, gmul_one]
theorem gmul_zero (a : UInt8) : gmul a 0 = 0 := u8_ext (by rw [gmul_toNat]; exact gN_zero_right _)
theorem zero_gmul (a : UInt8) : gmul 0 a = 0 := u8_ext (by rw [gmul_toNat]; exact gN_zero_left _)

/- Powers -/
def gpow (a : UInt8) : Nat → UInt8
  | 0 => 1
  | n + 1 => gmul (gpow a n) a
theorem gpow_add (a : UInt8) (m : Nat) : ∀ n, gpow a (m + n) = gmul (gpow a m) (gpow a n)
  | 0 => (gmul_one _).symm
  | n + 1 => by rw [← Nat.add_assoc, gpow, gpow, gpow_add a m n, gmul_assoc]
theorem gpow_mul (a : UInt8) (m : Nat) : ∀ n, gpow a (m * n) = gpow (gpow a m) n
  | 0 => rfl
  | n + 1 => by rw [Nat.mul_succ, gpow_add, gpow_mul a m n, gpow]
theorem gpow_gmul (a b : UInt8) : ∀ n, gpow (gmul a b) n = gmul (gpow a n) (gpow b n)
  | 0 => (gmul_one _).symm
  | n + 1 => by
    rw [gpow, gpow, gpow, gpow_gmul a b n, gmul_assoc, gmul_assoc, ← gmul_assoc (gpow b n), gmul_comm (gpow b n) a, gmul_assoc]
theorem one_gpow : ∀ n, gpow 1 n = 1
  | 0 => rfl
  | n + 1 => by rw [gpow, one_gpow n, gmul_one]
theorem gpow_one (a : UInt8) : gpow a 1 = a := one_gmul a
/-- The first n powers of 2. -/
def expsFrom : Nat → Nat → List Nat
  | 0, _ => []
  | n + 1, x => x :: expsFrom n (gN x 2)
theorem expsFrom_get : ∀ (n : Nat) (x : UInt8) (i : Nat), i < n → (expsFrom n x.toNat)[i]? = some (gmul x (gpow 2 i)).toNat
  | 0, _, i, h => absurd h (by omega)
  | n + 1, x, 0, _ => by simp [expsFrom, gpow, gmul_one]
  | n + 1, x, i + 1, h => by
    have h2 : gN x.toNat 2 = (gmul x 2).toNat := (gmul_toNat x 2).symm
    simp only [expsFrom, List.getElem?_cons_succ, h2]
    rw [expsFrom_get n (gmul x 2) i (by omega), gmul_assoc]
    congr 3
    rw [show i + 1 = 1 + i by omega, gpow_add, gpow_one]
theorem expsFrom_length : ∀ n x, (expsFrom n x).length = n
  | 0, _ => rfl
  | n + 1, x => by simp [expsFrom, expsFrom_length n]
def exps : List Nat := expsFrom 255 1
theorem exps_get (i : Nat) (h : i < 255) : exps[i]? = some (gpow 2 i).toNat := by
  have := expsFrom_get 255 1 i h
  rw [one_gmul] at this
  exact this
theorem exps_all_b : (List.range 256).all (fun a => a == 0 || exps.contains a) = true := by decide +kernel
theorem exps_all (a : Nat) (h : a < 256) : a = 0 ∨ a ∈ exps := by
  have := List.all_eq_true.1 exps_all_b a (List.mem_range.2 h)
  simpa using this
def noDup : List Nat → Bool
  | [] => true
  | a :: l => !l.contains a && noDup l
theorem nodup_of : ∀ l, noDup l = true → l.Nodup
  | [], _ => List.nodup_nil
  | a :: l, h => by
    simp only [noDup, Bool.and_eq_true, Bool.not_eq_true', List.contains_eq_mem, decide_eq_false_iff_not] at h
    exact List.nodup_cons.2 ⟨h.1, nodup_of l h.2⟩
theorem exps_nodup : exps.Nodup := nodup_of _ (by decide +kernel)
theorem gpow_two_255 : gpow 2 255 = 1 := by
  have h1 : gpow 2 3 = 8 := by decide +kernel
  have h2 : gpow 8 5 = 38 := by decide +kernel
  have h3 : gpow 38 17 = 1 := by decide +kernel
  rw [show (255 : Nat) = 3 * 85 from rfl, gpow_mul, h1, show (85 : Nat) = 5 * 17 from rfl, gpow_mul, h2, h3]
theorem log_of (a : UInt8) (ha : a ≠ 0) : ∃ n, n < 255 ∧ gpow 2 n = a := by
  rcases exps_all a.toNat a.toNat_lt with h | h
  · exact absurd (u8_ext h) ha
  · obtain ⟨n, hn⟩ := List.mem_iff_getElem?.1 h
    have hl : n < 255 := by
      have := (List.getElem?_eq_some_iff.1 hn).1
      simpa [exps, expsFrom_length] using this
    refine ⟨n, hl, u8_ext ?_⟩
    rw [exps_get n hl] at hn
    exact Option.some.inj hn
theorem gpow_two_inj {m n : Nat} (hm : m < 255) (hn : n < 255) (h : gpow 2 m = gpow 2 n) : m = n := by
  have h1 := exps_get m hm
  have h2 := exps_get n hn
  rw [h, ← h2] at h1
  exact (List.getElem?_inj (by simpa [exps, expsFrom_length] using hm) exps_nodup).1 h1
theorem gpow_255 (a : UInt8) (ha : a ≠ 0) : gpow a 255 = 1 := by
  obtain ⟨n, _, rfl⟩ := log_of a ha
  rw [← gpow_mul, Nat.mul_comm, gpow_mul, gpow_two_255, one_gpow]
theorem gpow_mod (a : UInt8) (ha : a ≠ 0) (n : Nat) : gpow a (n % 255) = gpow a n := by
  conv => rhs; rw [← Nat.div_add_mod n 255]
  rw [gpow_add, gpow_mul, gpow_255 a ha, one_gpow, one_gmul]
def ginv (a : UInt8) : UInt8 := gpow a 254
theorem gmul_ginv (a : UInt8) (ha : a ≠ 0) : gmul a (ginv a) = 1 := by
  rw [gmul_comm]; exact gpow_255 a ha
theorem ginv_gmul (a : UInt8) (ha : a ≠ 0) : gmul (ginv a) a = 1 := gpow_255 a ha
theorem gmul_eq_zero {a b : UInt8} (h : gmul a b = 0) : a = 0 ∨ b = 0 := by
  by_cases ha : a = 0
  · exact .inl ha
  · right
    rw [← one_gmul b, ← ginv_gmul a ha, gmul_assoc, h, gmul_zero]
theorem gpow_ne_zero {a : UInt8} (ha : a ≠ 0) : ∀ n, gpow a n ≠ 0
  | 0 => (by decide : (1 : UInt8) ≠ 0)
  | n + 1 => fun h => (gmul_eq_zero h).elim (gpow_ne_zero ha n) ha
theorem ginv_ne_zero {a : UInt8} (ha : a ≠ 0) : ginv a ≠ 0 := gpow_ne_zero ha 254
theorem ginv_ginv (a : UInt8) (ha : a ≠ 0) : ginv (ginv a) = a := by
  have h := gmul_ginv (ginv a) (ginv_ne_zero ha)
  rw [← one_gmul (ginv (ginv a)), ← gmul_ginv a ha, gmul_assoc, h, gmul_one]
theorem ginv_unique {a x : UInt8} (h : gmul a x = 1) : x = ginv a := by
  have ha : a ≠ 0 := fun e => by subst e; rw [zero_gmul] at h; exact absurd h (by decide)
  rw [← one_gmul x, ← ginv_gmul a ha, gmul_assoc, h, gmul_one]
theorem sq_xor (a b : UInt8) : gmul (a ^^^ b) (a ^^^ b) = gmul a a ^^^ gmul b b := by
  rw [gmul_xor, xor_gmul, xor_gmul, gmul_comm b a]
  generalize gmul a a = x; generalize gmul a b = y; generalize gmul b b = z
  rw [UInt8.xor_assoc, ← UInt8.xor_assoc y, UInt8.xor_self, UInt8.zero_xor]
end Go.Proofs.YtccedmegmmcnkaaDoor.Gf

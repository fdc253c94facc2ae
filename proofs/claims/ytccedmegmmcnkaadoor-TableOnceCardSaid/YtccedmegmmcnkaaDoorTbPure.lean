/- The plain laws of layer 2: powers of 2 and logarithms, as a table holds them. -/
import Derived.Test.YtccedmegmmcnkaaDoorBt
namespace Go.Proofs.YtccedmegmmcnkaaDoor
open Gf Bt

theorem exps_len : exps.length = 255 := expsFrom_length 255 1
theorem exps_at {n : Nat} (h : n < 255) (hl : n < exps.length) : exps[n]'hl = (gpow 2 n).toNat := by
  have := exps_get n h
  rw [List.getElem?_eq_getElem hl] at this
  exact Option.some.inj this
/-- A byte's logarithm; of 0: 255. -/
def logN (v : Nat) : Nat := exps.idxOf v
theorem logN_pow {n : Nat} (h : n < 255) : logN (gpow 2 n).toNat = n := by
  have hl : n < exps.length := by rw [exps_len]; exact h
  rw [← exps_at h hl]
  exact List.Nodup.idxOf_getElem exps_nodup n hl
theorem pow_logN {v n : Nat} (h : n < 255) (hv : logN v = n) : (gpow 2 n).toNat = v := by
  have hl : exps.idxOf v < exps.length := by rw [exps_len]; unfold logN at hv; omega
  have := List.getElem_idxOf hl
  rw [← this]
  unfold logN at hv
  rw [← exps_at h (by rw [exps_len]; exact h)]
  congr 1
  exact hv.symm
/-- A table's cells, so many powers laid. -/
def cellTo (n i : Nat) : UInt8 := if i < 510 then (if i % 255 < n then gpow 2 (i % 255) else 0) else (if logN (i - 510) < n then UInt8.ofNat (logN (i - 510)) else 0)
def rowsTo (n : Nat) : List UInt8 := (List.range 766).map (cellTo n)
theorem rowsTo_length (n : Nat) : (rowsTo n).length = 766 := by unfold rowsTo; rw [List.length_map, List.length_range]
theorem rowsTo_zero : rowsTo 0 = List.replicate 766 0 := by
  unfold rowsTo
  apply List.ext_getElem
  · rw [List.length_map, List.length_range, List.length_replicate]
  · intro i h1 h2
    simp only [List.getElem_map, List.getElem_range, List.getElem_replicate, cellTo]
    split <;> rw [if_neg (by omega)]
theorem rowsTo_step {n : Nat} (hn : n < 255) {x : UInt8} (hx : gpow 2 n = x) : (((rowsTo n).set n x).set (n + 255) x).set (510 + x.toNat) (UInt8.ofNat n) = rowsTo (n + 1) := by
  have hlx : logN x.toNat = n := by rw [← hx]; exact logN_pow hn
  unfold rowsTo
  apply List.ext_getElem
  · rw [List.length_set, List.length_set, List.length_set, List.length_map, List.length_map]
  · intro i h1 h2
    have hi : i < 766 := by rwa [List.length_map, List.length_range] at h2
    simp only [List.getElem_set, List.getElem_map, List.getElem_range]
    by_cases e1 : 510 + x.toNat = i
    · subst e1
      rw [if_pos rfl]
      unfold cellTo
      rw [if_neg (by omega), show 510 + x.toNat - 510 = x.toNat by omega, hlx, if_pos (by omega)]
    · rw [if_neg e1]
      by_cases e2 : n + 255 = i
      · subst e2
        rw [if_pos rfl]
        unfold cellTo
        rw [if_pos (by omega), show (n + 255) % 255 = n by omega, if_pos (by omega), hx]
      · rw [if_neg e2]
        by_cases e3 : n = i
        · subst e3
          rw [if_pos rfl]
          unfold cellTo
          rw [if_pos (by omega), Nat.mod_eq_of_lt hn, if_pos (by omega), hx]
        · rw [if_neg e3]
          unfold cellTo
          by_cases e4 : i < 510
          · rw [if_pos e4, if_pos e4]
            have hne : i % 255 ≠ n := by omega
            by_cases e5 : i % 255 < n
            · rw [if_pos e5, if_pos (by omega)]
            · rw [if_neg e5, if_neg (by omega)]
          · rw [if_neg e4, if_neg e4]
            have hne : logN (i - 510) ≠ n := fun e => e1 (by have := pow_logN hn e; rw [hx] at this; omega)
            by_cases e5 : logN (i - 510) < n
            · rw [if_pos e5, if_pos (by omega)]
            · rw [if_neg e5, if_neg (by omega)]
end Go.Proofs.YtccedmegmmcnkaaDoor

/- The walks of layer 2, five: Made, least, Log. -/
import Derived.Test.YtccedmegmmcnkaaDoorTbD
namespace Go.Proofs.YtccedmegmmcnkaaDoor
open Go.RowKit Go.Shelf Gf Bt

theorem logN_ok {a : UInt8} (ha : a ≠ 0) : logN a.toNat < 255 ∧ gpow 2 (logN a.toNat) = a := by
  obtain ⟨n, hn, h⟩ := log_of a ha
  have hl : logN a.toNat = n := by rw [← h]; exact logN_pow hn
  rw [hl]
  exact ⟨hn, h⟩
/-- The logarithm that is told; of 0: 0. -/
def tlog (a : UInt8) : Nat := if a = 0 then 0 else logN a.toNat
theorem tlog_lt (a : UInt8) : tlog a < 255 := by
  unfold tlog
  split
  · omega
  · next h => exact (logN_ok h).1
theorem tlog_pow {a : UInt8} (ha : a ≠ 0) : gpow 2 (tlog a) = a := by
  unfold tlog
  rw [if_neg ha]
  exact (logN_ok ha).2
theorem rw_at {i : Nat} (h : i < 766) : RW[i]? = some (B8 (cellTo 255 i)) := by
  unfold RW rowsTo
  rw [List.getElem?_map, List.getElem?_map, List.getElem?_range h]
  rfl
theorem four_at (v0 v1 v2 v3 : Value) (R : List Value) (k : Nat) : ([v0, v1, v2, v3] ++ R)[k + 4]? = R[k]? := by simp
theorem cell_exp {b k : Nat} {w : World} (h : St b true w) (hk : k < 510) : w.cell? ⟨b, 4 + k, none⟩ = some (B8 (gpow 2 (k % 255))) := by
  refine Blk.cell (i := 4 + k) h.made ?_
  rw [show 4 + k = k + 4 by omega, four_at, rw_at (by omega)]
  unfold cellTo
  rw [if_pos hk, if_pos (by omega)]
theorem cell_log {b : Nat} {a : UInt8} {w : World} (h : St b true w) (ha : a ≠ 0) : w.cell? ⟨b, 514 + a.toNat, none⟩ = some (.int .u8 (tlog a : Int)) := by
  refine Blk.cell (i := 514 + a.toNat) h.made ?_
  have hx := a.toNat_lt
  rw [show 514 + a.toNat = (510 + a.toNat) + 4 by omega, four_at, rw_at (by omega)]
  unfold cellTo
  rw [if_neg (by omega), show 510 + a.toNat - 510 = a.toNat by omega, if_pos (logN_ok ha).1, B8, UInt8.toNat_ofNat', Nat.mod_eq_of_lt (by have := (logN_ok ha).1; omega)]
  unfold tlog
  rw [if_neg ha]
set_option maxRecDepth 100000 in
theorem int32_load (b : Nat) (x : Int) (w : World) (hc : w.cell? ⟨b, 3, none⟩ = some (.int .i32 x)) : Calls Tryd.prog 23 #[.pointer (some ⟨b, 3, none⟩)] w fun e w' => e = .returned (.int .i32 x) ∧ w' = w := by
  have hl := run_call_load (P := Tryd.prog) Tryd.func28 (by kernel_rfl) (by kernel_rfl) (by kernel_rfl) .i32 (by kernel_rfl) hc
  go_enter Tryd.func23, Tryd.ntmps23
  go_wp2
  go_ret
  exact ⟨rfl, rfl⟩
set_option maxRecDepth 100000 in
theorem made_tb (b : Nat) (d m : Int) (R : List Value) (w : World) (h : TbW b d 0 0 m R w) (h0 : 0 ≤ m) (h1 : m ≤ 1) :
    Calls Tryd.prog 13 #[.pointer (some ⟨b, 0, none⟩)] w fun e w' => e = .returned (.int .i64 m) ∧ w' = w := by
  have HL := bx (int32_load b m w h.c3)
  clear h
  go_enter Tryd.func13, Tryd.ntmps13
  go_wp2_with (go_at_call 23; refine HL.out.mono ?_; rintro e w' ⟨rfl, hw'⟩; have hw' := hw'.symm; subst hw')
  go_ret
  exact ⟨rfl, rfl⟩
def madeN (s : Bool) : Int := if s then 1 else 0
theorem made_any (b : Nat) (s : Bool) (w : World) (h : St b s w) :
    Calls Tryd.prog 13 #[.pointer (some ⟨b, 0, none⟩)] w fun e w' => e = .returned (.int .i64 (madeN s)) ∧ w' = w := by
  cases s
  · obtain ⟨R, h1, h2⟩ := h.fresh
    exact made_tb b 0 0 R w h2 (by omega) (by omega)
  · exact made_tb b 1 1 RW w h.made (by omega) (by omega)
theorem made_nil (w : World) : Calls Tryd.prog 13 #[.pointer none] w fun e w' => e = .returned (.int .i64 0) ∧ w' = w := by
  go_enter Tryd.func13, Tryd.ntmps13
  go_wp2
  go_ret
  exact ⟨rfl, rfl⟩
theorem log_nil (a : UInt8) (w : World) : Calls Tryd.prog 9 #[.pointer none, B8 a] w fun e w' => e = .returned (.tuple #[.int .i64 0, .bool false]) ∧ w' = w := by
  go_enter Tryd.func9, Tryd.ntmps9
  go_wp2
  go_ret2
  exact ⟨rfl, rfl⟩
theorem exp_nil (n : Int) (w : World) : Calls Tryd.prog 10 #[.pointer none, .int .i64 n] w fun e w' => e = .returned (B8 0) ∧ w' = w := by
  go_enter Tryd.func10, Tryd.ntmps10
  go_wp2
  go_ret
  exact ⟨rfl, rfl⟩
set_option maxRecDepth 100000 in
set_option maxHeartbeats 1600000 in
theorem log_any (b : Nat) (s : Bool) (a : UInt8) (w : World) (hT : Tab w) (h : St b s w) (hne : 1 ≠ b) :
    Calls Tryd.prog 9 #[.pointer (some ⟨b, 0, none⟩), B8 a] w fun e w' => e = .returned (.tuple #[.int .i64 (tlog a), .bool (decide (a ≠ 0))]) ∧ St b true w' ∧ w.grownBy w' (some b) := by
  have HO := bx (of_any b s w hT h hne)
  clear hT h hne
  by_cases ha : a = 0
  · subst ha
    rw [show tlog 0 = 0 from rfl]
    go_enter Tryd.func9, Tryd.ntmps9
    go_wp2_with (go_at_call 21; refine HO.out.mono ?_; rintro e w2 ⟨rfl, hw2⟩; have HW2 := bx hw2; clear hw2)
    go_ret2
    exact ⟨rfl, HW2.out⟩
  · have h1 : ((a.toNat : Int) == 0) = false := by
      rw [beq_eq_false_iff_ne]
      intro e
      exact ha (u8_ext (by rw [Int.ofNat_eq_zero.1 e]; rfl))
    have h2 : (a.toNat : Int) < 256 := Int.ofNat_lt.2 a.toNat_lt
    have han := a.toNat_lt
    have HC : Bx (∀ w2 : World, St b true w2 → w2.cell? ⟨b, 514 + a.toNat, none⟩ = some (.int .u8 (tlog a : Int))) := bx (fun w2 h => cell_log h ha)
    have ht : (tlog a : Int) < 255 := by have := tlog_lt a; omega
    have hd : decide (a ≠ 0) = true := by simp [ha]
    rw [hd]
    generalize tlog a = t at *
    clear ha hd
    go_enter Tryd.func9, Tryd.ntmps9
    go_wp2_with (go_at_call 21; refine HO.out.mono ?_; rintro e w2 ⟨rfl, hw2⟩; have HW2 := bx hw2; have cc := HC.out w2 hw2.1; clear hw2)
    go_ret2
    exact ⟨rfl, HW2.out⟩
end Go.Proofs.YtccedmegmmcnkaaDoor

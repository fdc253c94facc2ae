/- The walks of layer 2, eleven: what a law's table is; the chapter's examples. -/
import Derived.Test.YtccedmegmmcnkaaDoorTbJ
namespace Go.Proofs.YtccedmegmmcnkaaDoor
open Go.RowKit Go.Shelf Gf Bt

/-- A law's table, laid behind what lay when the law began. -/
def Lt (w0 : World) (b : Nat) (s : Bool) (w : World) : Prop := St b s w ∧ Below w0.heap.size w0 w ∧ w0.heap.size ≤ b ∧ Tab w ∧ 1 ≠ b ∧ b < w.heap.size
section
variable {w0 : World} {b : Nat} {s : Bool} {w w' : World}
theorem Lt.below (h : Lt w0 b s w) : Below w0.heap.size w0 w := h.2.1
theorem Lt.step (h : Lt w0 b s w) (hs : St b true w') (hg : w.grownBy w' (some b)) : Lt w0 b true w' :=
  ⟨hs, h.2.1.grown hg h.2.1.size (fun k e => by injection e with e; rw [← e]; exact h.2.2.1), h.2.2.1, h.2.2.2.1.grown hg h.2.2.2.2.1, h.2.2.2.2.1, Nat.lt_of_lt_of_le h.2.2.2.2.2 hg.size⟩
theorem Lt.mute (h : Lt w0 b s w) (hb : Below w.heap.size w w') : Lt w0 b s w' :=
  ⟨h.1.below hb h.2.2.2.2.2, h.2.1.trans (hb.mono h.2.1.size), h.2.2.1, h.2.2.2.1.below hb h.2.2.2.1.lt, h.2.2.2.2.1, Nat.lt_of_lt_of_le h.2.2.2.2.2 hb.size⟩
theorem lt_log (x : UInt8) (h : Lt w0 b s w) : Calls Tryd.prog 9 #[.pointer (some ⟨b, 0, none⟩), B8 x] w fun e w' => e = .returned (.tuple #[.int .i64 (tlog x), .bool (decide (x ≠ 0))]) ∧ Lt w0 b true w' :=
  (log_any b s x w h.2.2.2.1 h.1 h.2.2.2.2.1).mono fun _ _ ⟨h1, h2, h3⟩ => ⟨h1, h.step h2 h3⟩
theorem lt_exp (n : Int) (h : Lt w0 b s w) : Calls Tryd.prog 10 #[.pointer (some ⟨b, 0, none⟩), .int .i64 n] w fun e w' => e = .returned (B8 (tex n)) ∧ Lt w0 b true w' :=
  (exp_any b s n w h.2.2.2.1 h.1 h.2.2.2.2.1).mono fun _ _ ⟨h1, h2, h3⟩ => ⟨h1, h.step h2 h3⟩
theorem lt_mul (x y : UInt8) (h : Lt w0 b s w) : Calls Tryd.prog 12 #[.pointer (some ⟨b, 0, none⟩), B8 x, B8 y] w fun e w' => e = .returned (B8 (gmul x y)) ∧ Lt w0 b true w' :=
  (tmul_any b s x y w h.2.2.2.1 h.1 h.2.2.2.2.1).mono fun _ _ ⟨h1, h2, h3⟩ => ⟨h1, h.step h2 h3⟩
theorem lt_inv (x : UInt8) (h : Lt w0 b s w) : Calls Tryd.prog 14 #[.pointer (some ⟨b, 0, none⟩), B8 x] w fun e w' => e = .returned (.tuple #[B8 (ginv x), .bool (decide (x ≠ 0))]) ∧ Lt w0 b true w' :=
  (tinv_any b s x w h.2.2.2.1 h.1 h.2.2.2.2.1).mono fun _ _ ⟨h1, h2, h3⟩ => ⟨h1, h.step h2 h3⟩
theorem lt_pow (x : UInt8) (n : Int) (h : Lt w0 b s w) : Calls Tryd.prog 19 #[.pointer (some ⟨b, 0, none⟩), B8 x, .int .i64 n] w fun e w' => e = .returned (B8 (powZ x n)) ∧ Lt w0 b true w' :=
  (tpow_any b s x n w h.2.2.2.1 h.1 h.2.2.2.2.1).mono fun _ _ ⟨h1, h2, h3⟩ => ⟨h1, h.step h2 h3⟩
theorem lt_made (h : Lt w0 b s w) : Calls Tryd.prog 13 #[.pointer (some ⟨b, 0, none⟩)] w fun e w' => e = .returned (.int .i64 (madeN s)) ∧ Lt w0 b s w' :=
  (made_any b s w h.1).mono fun _ _ ⟨h1, h2⟩ => ⟨h1, by rw [h2]; exact h⟩
end
theorem lt_new (w : World) (hT : Tab w) : Calls Tryd.prog 8 #[] w fun e w' => e = .returned (.pointer (some ⟨w.heap.size, 0, none⟩)) ∧ Lt w w.heap.size false w' :=
  (new_any w).mono fun _ _ ⟨h1, h2, h3, h4⟩ => ⟨h1, h2, h3, Nat.le_refl _, hT.below h3 hT.lt, Nat.ne_of_lt hT.lt, h4⟩
set_option maxRecDepth 100000 in
set_option maxHeartbeats 1000000 in
theorem known02 (w : World) (hT : Tab w) : Calls Tryd.prog 11 #[] w fun r w' => r = .returned (.bool true) ∧ Below w.heap.size w w' := by
  have HN := bx (lt_new w hT)
  obtain ⟨b, hb⟩ : ∃ b, w.heap.size = b := ⟨_, rfl⟩
  have K0 : Bx (∀ w', Lt w b false w' → Calls Tryd.prog 13 #[.pointer (some ⟨b, 0, none⟩)] w' fun e w'' => e = .returned (.int .i64 0) ∧ Lt w b false w'') := bx fun w' h => lt_made h
  have K1 : Bx (∀ w', Lt w b true w' → Calls Tryd.prog 13 #[.pointer (some ⟨b, 0, none⟩)] w' fun e w'' => e = .returned (.int .i64 1) ∧ Lt w b true w'') := bx fun w' h => lt_made h
  have K2 : Bx (∀ w', Lt w b false w' → Calls Tryd.prog 9 #[.pointer (some ⟨b, 0, none⟩), .int .u8 29] w' fun e w'' => e = .returned (.tuple #[.int .i64 8, .bool true]) ∧ Lt w b true w'') := bx fun w' h => by
    have h := lt_log 29 h; rw [show tlog 29 = 8 by decide +kernel, show decide ((29 : UInt8) ≠ 0) = true by decide] at h; exact h
  have K3 : Bx (∀ w', Lt w b true w' → Calls Tryd.prog 10 #[.pointer (some ⟨b, 0, none⟩), .int .i64 8] w' fun e w'' => e = .returned (.int .u8 29) ∧ Lt w b true w'') := bx fun w' h => by
    have h := lt_exp 8 h; rw [show tex 8 = 29 by decide +kernel] at h; exact h
  rw [hb] at HN
  clear hT
  go_enter Tryd.func11, Tryd.ntmps11
  go_wp2_with (first
    | (go_at_call 8; refine HN.out.mono ?_; rintro e w1 ⟨rfl, hS⟩)
    | (go_at_call 13; first | (with_reducible refine (K0.out _ (by assumption)).mono ?_; rintro e w' ⟨rfl, hS'⟩) | (with_reducible refine (K1.out _ (by assumption)).mono ?_; rintro e w' ⟨rfl, hS'⟩))
    | (go_at_call 9; with_reducible refine (K2.out _ (by assumption)).mono ?_; rintro e w' ⟨rfl, hS'⟩)
    | (go_at_call 10; with_reducible refine (K3.out _ (by assumption)).mono ?_; rintro e w' ⟨rfl, hS'⟩))
  go_ret
  exact ⟨rfl, Lt.below (by assumption)⟩
end Go.Proofs.YtccedmegmmcnkaaDoor

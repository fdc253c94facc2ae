/- The walks of layer 1, eleven: the laws. -/
import Derived.Test.YtidgenjpfccfgaaDoorShJ
namespace Go.Proofs.YtidgenjpfccfgaaDoor
open Go.RowKit Go.Shelf Gf Bt

/-- The table lies, and what lay when the call began. -/
def Sh (w0 w : World) : Prop := Tab w ∧ Below w0.heap.size w0 w
theorem Sh.tab {w0 w : World} (h : Sh w0 w) : Tab w := h.1
theorem Sh.below {w0 w : World} (h : Sh w0 w) : Below w0.heap.size w0 w := h.2
theorem Sh.step {w0 w w' : World} (h : Sh w0 w) (hb : Below w.heap.size w w') : Sh w0 w' := ⟨h.1.below hb h.1.lt, h.2.trans (hb.mono h.2.size)⟩
theorem calls_same {P : Program} {f : FuncId} {args : Array Value} {w : World} {v : Value} (h : Calls P f args w fun e w' => e = .returned v ∧ w' = w) : Calls P f args w fun e w' => e = .returned v ∧ Below w.heap.size w w' :=
  h.mono fun e w' ⟨h1, h2⟩ => ⟨h1, by rw [h2]; exact Below.refl _ _⟩
theorem xor_b8 (a b : UInt8) : bits .xor .u8 (a.toNat : Int) (b.toNat : Int) = ((a ^^^ b).toNat : Nat) := bits_u8_xor a b
set_option maxRecDepth 100000 in
set_option maxHeartbeats 1000000 in
theorem known01 (w : World) (hT : Tab w) : Calls Tryd.prog 11 #[] w fun r w' => r = .returned (.bool true) ∧ Below w.heap.size w w' := by
  have hS0 : Sh w w := ⟨hT, Below.refl _ _⟩
  have K1 : Bx (∀ w, Tab w → Calls Tryd.prog 9 #[.int .u8 2] w fun e w' => e = .returned (.tuple #[.int .u8 142, .bool true]) ∧ Below w.heap.size w w') := bx fun w hT => by have h := inv_any 2 w hT; rw [show ginv 2 = 142 by decide +kernel] at h; exact h
  have K2 : Bx (∀ w, Tab w → Calls Tryd.prog 16 #[.int .u8 128, .int .u8 2] w fun e w' => e = .returned (.int .u8 29) ∧ Below w.heap.size w w') := bx fun w hT => by have h := mul_any 128 2 w hT; rw [show gmul 128 2 = 29 by decide +kernel] at h; exact h
  have K3 : Bx (∀ w, Tab w → Calls Tryd.prog 12 #[.int .u8 3, .int .u8 3] w fun e w' => e = .returned (.int .u16 5) ∧ Below w.heap.size w w') := bx fun w hT => by have h := callsIn_wide.1 (wide_any 3 3 w hT); rw [show wideN (3 : UInt8).toNat (3 : UInt8).toNat = 5 by decide +kernel] at h; exact h
  have K4 : Bx (∀ w, Tab w → Calls Tryd.prog 14 #[.int .u16 285] w fun e w' => e = .returned (.int .u8 0) ∧ Below w.heap.size w w') := bx fun w hT => by have h := calls_same (reduce_any 285 (by decide) w); rw [show redN 285 = 0 by decide +kernel] at h; exact h
  have K5 : Bx (∀ w, Tab w → Calls Tryd.prog 18 #[.int .u8 2, .int .i64 8] w fun e w' => e = .returned (.int .u8 29) ∧ Below w.heap.size w w') := bx fun w hT => by have h := pow_any 2 8 w hT; rw [show powZ 2 8 = 29 by decide +kernel] at h; exact h
  clear hT
  go_enter Tryd.func11, Tryd.ntmps11
  go_wp2_with (first
    | (go_at_call 9; first | (with_reducible refine (K1.out _ (Sh.tab (by assumption))).mono ?_; rintro e w' ⟨rfl, hb⟩; have hS' := Sh.step (by assumption) hb; clear hb))
    | (go_at_call 16; first | (with_reducible refine (K2.out _ (Sh.tab (by assumption))).mono ?_; rintro e w' ⟨rfl, hb⟩; have hS' := Sh.step (by assumption) hb; clear hb))
    | (go_at_call 12; first | (with_reducible refine (K3.out _ (Sh.tab (by assumption))).mono ?_; rintro e w' ⟨rfl, hb⟩; have hS' := Sh.step (by assumption) hb; clear hb))
    | (go_at_call 14; first | (with_reducible refine (K4.out _ (Sh.tab (by assumption))).mono ?_; rintro e w' ⟨rfl, hb⟩; have hS' := Sh.step (by assumption) hb; clear hb))
    | (go_at_call 18; first | (with_reducible refine (K5.out _ (Sh.tab (by assumption))).mono ?_; rintro e w' ⟨rfl, hb⟩; have hS' := Sh.step (by assumption) hb; clear hb)))
  go_ret
  exact ⟨rfl, Sh.below (by assumption)⟩
set_option maxRecDepth 100000 in
set_option maxHeartbeats 1000000 in
theorem law_ShiftRing (a b c : UInt8) (w : World) (hT : Tab w) : Calls Tryd.prog 4 #[B8 a, B8 b, B8 c] w fun r w' => r = .returned (.bool true) ∧ Below w.heap.size w w' := by
  have hS0 : Sh w w := ⟨hT, Below.refl _ _⟩
  obtain ⟨p, hp⟩ : ∃ p, gmul a b = p := ⟨_, rfl⟩
  obtain ⟨q, hq⟩ : ∃ q, gmul b c = q := ⟨_, rfl⟩
  obtain ⟨r, hr⟩ : ∃ r, gmul a q = r := ⟨_, rfl⟩
  have hpc : gmul p c = r := by rw [← hp, gmul_assoc, hq, hr]
  obtain ⟨d, hd⟩ : ∃ d, b ^^^ c = d := ⟨_, rfl⟩
  obtain ⟨s, hs⟩ : ∃ s, gmul a d = s := ⟨_, rfl⟩
  obtain ⟨t, ht⟩ : ∃ t, gmul a c = t := ⟨_, rfl⟩
  have M1 : Bx (∀ w, Tab w → Calls Tryd.prog 16 #[B8 a, B8 b] w fun e w' => e = .returned (B8 p) ∧ Below w.heap.size w w') := bx fun w hT => by have h := mul_any a b w hT; rw [hp] at h; exact h
  have M2 : Bx (∀ w, Tab w → Calls Tryd.prog 16 #[B8 b, B8 a] w fun e w' => e = .returned (B8 p) ∧ Below w.heap.size w w') := bx fun w hT => by have h := mul_any b a w hT; rw [gmul_comm b a, hp] at h; exact h
  have M3 : Bx (∀ w, Tab w → Calls Tryd.prog 16 #[B8 b, B8 c] w fun e w' => e = .returned (B8 q) ∧ Below w.heap.size w w') := bx fun w hT => by have h := mul_any b c w hT; rw [hq] at h; exact h
  have M4 : Bx (∀ w, Tab w → Calls Tryd.prog 16 #[B8 a, B8 q] w fun e w' => e = .returned (B8 r) ∧ Below w.heap.size w w') := bx fun w hT => by have h := mul_any a q w hT; rw [hr] at h; exact h
  have M5 : Bx (∀ w, Tab w → Calls Tryd.prog 16 #[B8 p, B8 c] w fun e w' => e = .returned (B8 r) ∧ Below w.heap.size w w') := bx fun w hT => by have h := mul_any p c w hT; rw [hpc] at h; exact h
  have M6 : Bx (∀ w, Tab w → Calls Tryd.prog 16 #[B8 a, B8 d] w fun e w' => e = .returned (B8 s) ∧ Below w.heap.size w w') := bx fun w hT => by have h := mul_any a d w hT; rw [hs] at h; exact h
  have M7 : Bx (∀ w, Tab w → Calls Tryd.prog 16 #[B8 a, B8 c] w fun e w' => e = .returned (B8 t) ∧ Below w.heap.size w w') := bx fun w hT => by have h := mul_any a c w hT; rw [ht] at h; exact h
  have M8 : Bx (∀ w, Tab w → Calls Tryd.prog 16 #[B8 a, .int .u8 1] w fun e w' => e = .returned (B8 a) ∧ Below w.heap.size w w') := bx fun w hT => by have h := mul_any a 1 w hT; rw [gmul_one] at h; exact h
  have M9 : Bx (∀ w, Tab w → Calls Tryd.prog 16 #[B8 a, .int .u8 0] w fun e w' => e = .returned (.int .u8 0) ∧ Below w.heap.size w w') := bx fun w hT => by have h := mul_any a 0 w hT; rw [gmul_zero] at h; exact h
  have x1 : bits .xor .u8 (b.toNat : Int) (c.toNat : Int) = (d.toNat : Int) := by rw [xor_b8, hd]
  have x2 : bits .xor .u8 (p.toNat : Int) (t.toNat : Int) = (s.toNat : Int) := by rw [xor_b8, ← hp, ← ht, ← gmul_xor, hd, hs]
  clear hT hp hq hr hpc hd hs ht
  go_enter Tryd.func4, Tryd.ntmps4
  go_wp2_with (first
    | (go_at_call 11; refine (known01 _ (Sh.tab (by assumption))).mono ?_; rintro e w' ⟨rfl, hb⟩; have hS' := Sh.step (by assumption) hb; clear hb)
    | (go_at_call 16; first | (with_reducible refine (M1.out _ (Sh.tab (by assumption))).mono ?_; rintro e w' ⟨rfl, hb⟩; have hS' := Sh.step (by assumption) hb; clear hb) | (with_reducible refine (M2.out _ (Sh.tab (by assumption))).mono ?_; rintro e w' ⟨rfl, hb⟩; have hS' := Sh.step (by assumption) hb; clear hb) | (with_reducible refine (M3.out _ (Sh.tab (by assumption))).mono ?_; rintro e w' ⟨rfl, hb⟩; have hS' := Sh.step (by assumption) hb; clear hb) | (with_reducible refine (M4.out _ (Sh.tab (by assumption))).mono ?_; rintro e w' ⟨rfl, hb⟩; have hS' := Sh.step (by assumption) hb; clear hb) | (with_reducible refine (M5.out _ (Sh.tab (by assumption))).mono ?_; rintro e w' ⟨rfl, hb⟩; have hS' := Sh.step (by assumption) hb; clear hb) | (with_reducible refine (M6.out _ (Sh.tab (by assumption))).mono ?_; rintro e w' ⟨rfl, hb⟩; have hS' := Sh.step (by assumption) hb; clear hb) | (with_reducible refine (M7.out _ (Sh.tab (by assumption))).mono ?_; rintro e w' ⟨rfl, hb⟩; have hS' := Sh.step (by assumption) hb; clear hb) | (with_reducible refine (M8.out _ (Sh.tab (by assumption))).mono ?_; rintro e w' ⟨rfl, hb⟩; have hS' := Sh.step (by assumption) hb; clear hb) | (with_reducible refine (M9.out _ (Sh.tab (by assumption))).mono ?_; rintro e w' ⟨rfl, hb⟩; have hS' := Sh.step (by assumption) hb; clear hb)))
  go_ret
  exact ⟨rfl, Sh.below (by assumption)⟩
end Go.Proofs.YtidgenjpfccfgaaDoor

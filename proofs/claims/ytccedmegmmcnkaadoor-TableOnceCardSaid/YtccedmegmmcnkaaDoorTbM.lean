/- The walks of layer 2, thirteen: the law TableTwo. -/
import Derived.Test.YtccedmegmmcnkaaDoorTbL
namespace Go.Proofs.YtccedmegmmcnkaaDoor
open Go.RowKit Go.Shelf Gf Bt

section
variable {w0 : World} {b c : Nat} {s r : Bool} {w w' : World}
theorem Lt.other (h : Lt w0 c r w) (hg : w.grownBy w' (some b)) (hb : w0.heap.size ≤ b) (hne : c ≠ b) (hT : 1 ≠ b) : Lt w0 c r w' :=
  ⟨h.1.other hg hne, h.2.1.grown hg h.2.1.size (fun k e => by injection e with e; rw [← e]; exact hb), h.2.2.1, h.2.2.2.1.grown hg hT, h.2.2.2.2.1, Nat.lt_of_lt_of_le h.2.2.2.2.2 hg.size⟩
/-- Two tables of a law. -/
def Lt2 (w0 : World) (b c : Nat) (s r : Bool) (w : World) : Prop := Lt w0 b s w ∧ Lt w0 c r w ∧ b ≠ c
theorem Lt2.below (h : Lt2 w0 b c s r w) : Below w0.heap.size w0 w := h.1.below
theorem lt2_new (h : Lt w0 b s w) : Calls Tryd.prog 8 #[] w fun e w' => ∃ c, e = .returned (.pointer (some ⟨c, 0, none⟩)) ∧ Lt2 w0 b c s false w' :=
  (new_any w).mono fun _ _ ⟨h1, h2, h3, h4⟩ => ⟨w.heap.size, h1, h.mute h3, ⟨h2, h.2.1.trans (h3.mono h.2.1.size), h.2.1.size, h.2.2.2.1.below h3 h.2.2.2.1.lt, Nat.ne_of_lt h.2.2.2.1.lt, h4⟩, Nat.ne_of_lt h.2.2.2.2.2⟩
theorem lt2_mul1 (x y : UInt8) (h : Lt2 w0 b c s r w) : Calls Tryd.prog 12 #[.pointer (some ⟨b, 0, none⟩), B8 x, B8 y] w fun e w' => e = .returned (B8 (gmul x y)) ∧ Lt2 w0 b c true r w' :=
  (tmul_any b s x y w h.1.2.2.2.1 h.1.1 h.1.2.2.2.2.1).mono fun _ _ ⟨h1, h2, h3⟩ => ⟨h1, h.1.step h2 h3, h.2.1.other h3 h.1.2.2.1 (Ne.symm h.2.2) h.1.2.2.2.2.1, h.2.2⟩
theorem lt2_mul2 (x y : UInt8) (h : Lt2 w0 b c s r w) : Calls Tryd.prog 12 #[.pointer (some ⟨c, 0, none⟩), B8 x, B8 y] w fun e w' => e = .returned (B8 (gmul x y)) ∧ Lt2 w0 b c s true w' :=
  (tmul_any c r x y w h.2.1.2.2.2.1 h.2.1.1 h.2.1.2.2.2.2.1).mono fun _ _ ⟨h1, h2, h3⟩ => ⟨h1, h.1.other h3 h.2.1.2.2.1 h.2.2 h.2.1.2.2.2.2.1, h.2.1.step h2 h3, h.2.2⟩
theorem lt2_made1 (h : Lt2 w0 b c s r w) : Calls Tryd.prog 13 #[.pointer (some ⟨b, 0, none⟩)] w fun e w' => e = .returned (.int .i64 (madeN s)) ∧ Lt2 w0 b c s r w' :=
  (made_any b s w h.1.1).mono fun _ _ ⟨h1, h2⟩ => ⟨h1, by rw [h2]; exact h⟩
theorem lt2_made2 (h : Lt2 w0 b c s r w) : Calls Tryd.prog 13 #[.pointer (some ⟨c, 0, none⟩)] w fun e w' => e = .returned (.int .i64 (madeN r)) ∧ Lt2 w0 b c s r w' :=
  (made_any c r w h.2.1.1).mono fun _ _ ⟨h1, h2⟩ => ⟨h1, by rw [h2]; exact h⟩
theorem lt2_known (h : Lt2 w0 b c s r w) : Calls Tryd.prog 11 #[] w fun e w' => e = .returned (.bool true) ∧ Lt2 w0 b c s r w' :=
  (known02 w h.1.2.2.2.1).mono fun _ _ ⟨h1, h2⟩ => ⟨h1, h.1.mute h2, h.2.1.mute h2, h.2.2⟩
end
set_option maxRecDepth 100000 in
set_option maxHeartbeats 1600000 in
theorem law_TableTwo (a b : UInt8) (w : World) (hT : Tab w) : Calls Tryd.prog 4 #[B8 a, B8 b] w fun r w' => r = .returned (.bool true) ∧ Below w.heap.size w w' := by
  have HN := bx (lt_new w hT)
  obtain ⟨g, hg⟩ : ∃ g, w.heap.size = g := ⟨_, rfl⟩
  have HN2 := bx (fun w' (h : Lt w g false w') => lt2_new h)
  have HK := bx (fun c s r w' (h : Lt2 w g c s r w') => lt2_known h)
  rw [hg] at HN
  obtain ⟨p, hp⟩ : ∃ p, gmul a b = p := ⟨_, rfl⟩
  have M1 : Bx (∀ c s r w', Lt2 w g c s r w' → Calls Tryd.prog 12 #[.pointer (some ⟨g, 0, none⟩), B8 a, B8 b] w' fun e w'' => e = .returned (B8 p) ∧ Lt2 w g c true r w'') := bx fun c s r w' h => by have h := lt2_mul1 a b h; rw [hp] at h; exact h
  have M2 : Bx (∀ c s r w', Lt2 w g c s r w' → Calls Tryd.prog 12 #[.pointer (some ⟨c, 0, none⟩), B8 a, B8 b] w' fun e w'' => e = .returned (B8 p) ∧ Lt2 w g c s true w'') := bx fun c s r w' h => by have h := lt2_mul2 a b h; rw [hp] at h; exact h
  have D0 : Bx (∀ c s w', Lt2 w g c s false w' → Calls Tryd.prog 13 #[.pointer (some ⟨c, 0, none⟩)] w' fun e w'' => e = .returned (.int .i64 0) ∧ Lt2 w g c s false w'') := bx fun c s w' h => lt2_made2 h
  have D1 : Bx (∀ c r w', Lt2 w g c true r w' → Calls Tryd.prog 13 #[.pointer (some ⟨g, 0, none⟩)] w' fun e w'' => e = .returned (.int .i64 1) ∧ Lt2 w g c true r w'') := bx fun c r w' h => lt2_made1 h
  have D2 : Bx (∀ c s w', Lt2 w g c s true w' → Calls Tryd.prog 13 #[.pointer (some ⟨c, 0, none⟩)] w' fun e w'' => e = .returned (.int .i64 1) ∧ Lt2 w g c s true w'') := bx fun c s w' h => lt2_made2 h
  clear hT hg hp
  go_enter Tryd.func4, Tryd.ntmps4
  go_wp2_with (first
    | (go_at_call 8; first | (with_reducible refine (HN2.out _ (by assumption)).mono ?_; rintro e w' ⟨c, rfl, hS2⟩) | (refine HN.out.mono ?_; rintro e w1 ⟨rfl, hS⟩))
    | (go_at_call 11; with_reducible refine (HK.out _ _ _ _ (by assumption)).mono ?_; rintro e w' ⟨rfl, hS'⟩)
    | (go_at_call 12; first | (with_reducible refine (M1.out _ _ _ _ (by assumption)).mono ?_; rintro e w' ⟨rfl, hS'⟩) | (with_reducible refine (M2.out _ _ _ _ (by assumption)).mono ?_; rintro e w' ⟨rfl, hS'⟩))
    | (go_at_call 13; first | (with_reducible refine (D1.out _ _ _ (by assumption)).mono ?_; rintro e w' ⟨rfl, hS'⟩) | (with_reducible refine (D0.out _ _ _ (by assumption)).mono ?_; rintro e w' ⟨rfl, hS'⟩) | (with_reducible refine (D2.out _ _ _ (by assumption)).mono ?_; rintro e w' ⟨rfl, hS'⟩)))
  go_ret
  exact ⟨rfl, Lt2.below (by assumption)⟩
end Go.Proofs.YtccedmegmmcnkaaDoor

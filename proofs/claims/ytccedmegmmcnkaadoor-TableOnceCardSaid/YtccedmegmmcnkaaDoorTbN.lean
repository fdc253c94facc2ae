/- The walks of layer 2, fourteen: the law TableOnce. -/
import Derived.Test.YtccedmegmmcnkaaDoorTbM
namespace Go.Proofs.YtccedmegmmcnkaaDoor
open Go.RowKit Go.Shelf Gf Bt

set_option maxRecDepth 100000 in
set_option maxHeartbeats 4000000 in
theorem law_TableOnce (A : Option Addr) (bs : List UInt8) (cap : Nat) (a b : UInt8) (w : World) (hT : Tab w) (hRd : Rd w w.heap.size A (bs.map B8)) (hcap : bs.length ≤ cap) (hmax : bs.length ≤ 9223372036854775807) :
    Calls Tryd.prog 6 #[.slice A bs.length cap, B8 a, B8 b] w fun r w' => r = .returned (.bool true) ∧ Below w.heap.size w w' := by
  have HN := bx (lt_new w hT)
  have HRD : Bx (∀ g s w', Lt w g s w' → Rd w' w.heap.size A (bs.map B8)) := bx fun g s w' h => hRd.below h.below
  obtain ⟨g, hg⟩ : ∃ g, w.heap.size = g := ⟨_, rfl⟩
  have HK := bx (fun s w' (h : Lt w g s w') => lt_known h)
  have HE := bx (fun s w' (h : Lt w g s w') => lt_exp a.toNat h)
  have HL := bx (fun s w' (h : Lt w g s w') => lt_log a h)
  have HM := bx (fun s w' (h : Lt w g s w') => lt_mul a b h)
  have HI := bx (fun s w' (h : Lt w g s w') => lt_inv a h)
  have HP := bx (fun s w' (h : Lt w g s w') => lt_pow a b.toNat h)
  have D0 : Bx (∀ w', Lt w g false w' → Calls Tryd.prog 13 #[.pointer (some ⟨g, 0, none⟩)] w' fun e w'' => e = .returned (.int .i64 0) ∧ Lt w g false w'') := bx fun w' h => lt_made h
  have D1 : Bx (∀ w', Lt w g true w' → Calls Tryd.prog 13 #[.pointer (some ⟨g, 0, none⟩)] w' fun e w'' => e = .returned (.int .i64 1) ∧ Lt w g true w'') := bx fun w' h => lt_made h
  rw [hg] at HN
  clear hT hg hRd
  go_enter Tryd.func6, Tryd.ntmps6
  go_wp2_with (go_at_call 8; refine HN.out.mono ?_; rintro e w1 ⟨rfl, hS⟩)
  have a0 : (0 : Int) ≤ (a.toNat : Int) := Int.natCast_nonneg _
  have a1 : (a.toNat : Int) < 256 := Int.ofNat_lt.2 a.toNat_lt
  have b0 : (0 : Int) ≤ (b.toNat : Int) := Int.natCast_nonneg _
  have b1 : (b.toNat : Int) < 256 := Int.ofNat_lt.2 b.toNat_lt
  go_loopw [8, 9] (fun want k wr => ∃ n : Nat, n ≤ min bs.length 20 ∧ k = .int .i64 n ∧ (want = .int .i64 0 ∧ Lt w g false wr ∨ want = .int .i64 1 ∧ Lt w g true wr)) (fun _ k _ => 20 - (intOf k).toNat)
  case atStart => exact ⟨0, Nat.zero_le _, rfl, .inl ⟨rfl, hS⟩⟩
  case round =>
    clear hS
    obtain ⟨n, hn, rfl, hw⟩ := hrel
    have hn0 : (0 : Int) ≤ (n : Int) := Int.natCast_nonneg _
    by_cases hlt : n < min bs.length 20
    · have hn20 : (n : Int) < 20 := by omega
      have hnl : (n : Int) < (bs.length : Int) := by omega
      obtain ⟨x, hx⟩ : ∃ x : UInt8, bs[n]? = some x := ⟨bs[n], by simp⟩
      obtain ⟨ad, rfl, hc⟩ : ∃ ad, A = some ad ∧ wr.cell? (ad.add n) = some (.int .u8 x.toNat) := by
        have hl : ∃ s, Lt w g s wr := by
          rcases hw with ⟨_, h⟩ | ⟨_, h⟩
          · exact ⟨_, h⟩
          · exact ⟨_, h⟩
        obtain ⟨s, hl⟩ := hl
        obtain ⟨ad, e, _, hc⟩ := HRD.out _ _ _ hl (by rw [List.length_map]; omega)
        exact ⟨ad, e, hc n _ (by rw [List.getElem?_map, hx]; rfl)⟩
      have x0 : (0 : Int) ≤ (x.toNat : Int) := Int.natCast_nonneg _
      have x1 : (x.toNat : Int) < 256 := Int.ofNat_lt.2 x.toNat_lt
      have hr : (x.toNat : Int).tmod 6 = 0 ∨ (x.toNat : Int).tmod 6 = 1 ∨ (x.toNat : Int).tmod 6 = 2 ∨ (x.toNat : Int).tmod 6 = 3 ∨ (x.toNat : Int).tmod 6 = 4 ∨ (x.toNat : Int).tmod 6 = 5 := by
        rw [Int.tmod_eq_emod_of_nonneg x0]; omega
      have hrl : min bs.length 20 ≥ n + 1 := hlt
      clear hx HRD hlt
      rcases hw with ⟨rfl, hS⟩ | ⟨rfl, hS⟩ <;> rcases hr with hr | hr | hr | hr | hr | hr
      all_goals
        have hr2 := hr
        rw [Int.tmod_eq_emod_of_nonneg x0] at hr2
        go_wp2_with (first
          | (go_at_call 10; with_reducible refine (HE.out _ _ (by assumption)).mono ?_; rintro e w' ⟨rfl, hS'⟩)
          | (go_at_call 9; with_reducible refine (HL.out _ _ (by assumption)).mono ?_; rintro e w' ⟨rfl, hS'⟩)
          | (go_at_call 12; with_reducible refine (HM.out _ _ (by assumption)).mono ?_; rintro e w' ⟨rfl, hS'⟩)
          | (go_at_call 14; with_reducible refine (HI.out _ _ (by assumption)).mono ?_; rintro e w' ⟨rfl, hS'⟩)
          | (go_at_call 19; with_reducible refine (HP.out _ _ (by assumption)).mono ?_; rintro e w' ⟨rfl, hS'⟩)
          | (go_at_call 13; first | (with_reducible refine (D0.out _ (by assumption)).mono ?_; rintro e w' ⟨rfl, hS''⟩) | (with_reducible refine (D1.out _ (by assumption)).mono ?_; rintro e w' ⟨rfl, hS''⟩)))
        go_roundw
        case rel => first | exact ⟨n + 1, hrl, by go_num, .inl ⟨rfl, by assumption⟩⟩ | exact ⟨n + 1, hrl, by go_num, .inr ⟨rfl, by assumption⟩⟩
        case measure => simp [intOf]; omega
    · clear HRD
      by_cases hl : n < bs.length
      · obtain rfl : n = 20 := by omega
        have hnl : (20 : Int) < (bs.length : Int) := by omega
        clear hlt hn
        rcases hw with ⟨rfl, hS⟩ | ⟨rfl, hS⟩
        all_goals
          go_wp2_with (go_at_call 11; with_reducible refine (HK.out _ _ (by assumption)).mono ?_; rintro e w' ⟨rfl, hS'⟩)
          go_ret
          exact ⟨rfl, Lt.below (by assumption)⟩
      · have hnl : ¬ (n : Int) < (bs.length : Int) := by omega
        clear hlt hn hl
        rcases hw with ⟨rfl, hS⟩ | ⟨rfl, hS⟩
        all_goals
          go_wp2_with (go_at_call 11; with_reducible refine (HK.out _ _ (by assumption)).mono ?_; rintro e w' ⟨rfl, hS'⟩)
          go_ret
          exact ⟨rfl, Lt.below (by assumption)⟩
theorem law_TableOnce' (A : Option Addr) (len cap : Nat) (bs : List UInt8) (a b : UInt8) (w : World) (hT : Tab w) (hl : bs.length = len) (hcap : len ≤ cap) (hmax : cap ≤ maxLen) (hRd : Rd w w.heap.size A (bs.map B8)) :
    Calls Tryd.prog 6 #[.slice A len cap, B8 a, B8 b] w fun r w' => r = .returned (.bool true) ∧ Below w.heap.size w w' := by
  subst hl
  exact law_TableOnce A bs cap a b w hT hRd hcap (Nat.le_trans hcap hmax)
end Go.Proofs.YtccedmegmmcnkaaDoor

/- The walk of the law LanesAsks. -/
import Derived.Test.YtcbkdlhmemibpaaLaw03G
namespace Go.Proofs.Ytcbkdlhmemibpaa
open Go.RowKit Gf Bt

theorem rpack_n (A : Option Addr) (bs : List UInt8) (n cap : Nat) (hn : bs.length = n) (w : World) (hRd : Rd w w.heap.size A (bs.map B8)) (hmax : n ≤ 9223372036854775807) :
    Calls Try.prog 19 #[.slice A n cap] w fun e w' => e = .returned (.agg ((pack bs).map W64).toArray) ∧ Below w.heap.size w w' := by
  subst hn; exact rpack_any A bs cap w hRd hmax
set_option maxRecDepth 100000 in
set_option maxHeartbeats 2000000 in
theorem asksLaw03 (p q : List UInt64) (hp : p.length = 8) (hq : q.length = 8) (A A' : Option Addr) (n m c c' : Nat) (l l' : List UInt8) (a : UInt8) (i : Int) (w : World)
    (hRd : Rd w w.heap.size A (l.map B8)) (hn : l.length = n) (hcap : n ≤ c) (hRd' : Rd w w.heap.size A' (l'.map B8)) (hm : l'.length = m) (hcap' : m ≤ c') (h1 : c ≤ maxLen) (h2 : c' ≤ maxLen) :
    Calls Try.prog 7 #[.agg (p.map W64).toArray, .agg (q.map W64).toArray, .slice A n c, .slice A' m c', B8 a, .int .i64 i] w fun e w' => e = .returned (.bool true) ∧ Below w.heap.size w w' := by
  unfold maxLen at h1 h2
  have he := bx (eq_same (pack l) (pack_length l))
  have HP := bx hp
  have HQ := bx hq
  have HN := bx hn
  have HM := bx hm
  have HR := bx hRd
  have HR' := bx hRd'
  clear hp hq hn hm hRd hRd'
  obtain ⟨w1, hw1⟩ : ∃ w1, (w.alloc (.cells (p.map W64).toArray 24)).alloc (.cells (q.map W64).toArray 24) = w1 := ⟨_, rfl⟩
  have H1 : Bx (Blk w1 w.heap.size 24 (p.map W64)) := bx (by rw [← hw1]; exact (Blk.new w 24 (p.map W64)).alloc _)
  have H2 : Bx (Blk w1 (w.heap.size + 1) 24 (q.map W64)) := bx (by rw [← hw1]; exact blk_new1 w _ 24 (q.map W64))
  have HL : Bx (Below w.heap.size w w1) := bx (by rw [← hw1]; exact ((Below.refl _ _).alloc (Nat.le_refl _) _).alloc (by simp) _)
  have hs1 : w.heap.size + 1 < w1.heap.size := H2.out.lt
  have HW := bx hw1
  clear hw1
  go_enter Try.func7, Try.ntmps7
  go_upto_region 1 with (fail)
  rw [HW.out]
  by_cases hb : 300 < wrap64 ((n : Int) + (m : Int))
  · go_wp2_with (go_at_call 9; refine (known03 _).mono ?_; rintro e w3 ⟨rfl, hb3⟩
                 have HL := bx (HL.out.trans (hb3.mono HL.out.size))
                 clear hb3)
    go_ret
    exact ⟨rfl, HL.out⟩
  · have he := he.out
    go_wp2_with (first
      | (go_at_call 9; refine (known03 _).mono ?_; rintro e w3 ⟨rfl, hb3⟩
         have H1 := bx (H1.out.below hb3 (by have := H1.out.lt; omega))
         have H2 := bx (H2.out.below hb3 (by have := H2.out.lt; omega))
         have HL := bx (HL.out.trans (hb3.mono HL.out.size))
         clear hb3)
      | (refine ld_arr rfl 24 _ rfl (w.heap.size) rfl _ _ _ _ H1.out Try.underlying24 (planes_info _ HP.out) ?_)
      | (refine ld_arr rfl 24 _ rfl (w.heap.size + 1) rfl _ _ _ _ H2.out Try.underlying24 (planes_info _ HQ.out) ?_)
      | (go_at_call 18; (first | with_reducible refine (asks03 p q HP.out HQ.out a i _).mono ?_ | with_reducible refine (asks03 (pack l) (pack l') (pack_length l) (pack_length l') a i _).mono ?_); rintro e w3 ⟨rfl, hb3⟩
         have HL := bx (HL.out.trans (hb3.mono HL.out.size))
         clear hb3)
      | (go_at_call 11; (first
           | with_reducible refine (pack_n A l n c HN.out _ ((HR.out.below HL.out).more HL.out.size) hcap (by omega)).mono ?_
           | with_reducible refine (pack_n A' l' m c' HM.out _ ((HR'.out.below HL.out).more HL.out.size) hcap' (by omega)).mono ?_); rintro e w3 ⟨rfl, hb3⟩
         have HL := bx (HL.out.trans (hb3.mono HL.out.size))
         clear hb3)
      | (go_at_call 19; refine (rpack_n A l n c HN.out _ ((HR.out.below HL.out).more HL.out.size) (by omega)).mono ?_; rintro e w3 ⟨rfl, hb3⟩
         have HL := bx (HL.out.trans (hb3.mono HL.out.size))
         clear hb3))
    go_ret
    exact ⟨rfl, HL.out⟩
end Go.Proofs.Ytcbkdlhmemibpaa

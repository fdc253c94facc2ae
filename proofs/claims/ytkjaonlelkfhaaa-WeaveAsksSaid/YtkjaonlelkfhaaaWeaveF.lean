/- The walks of layer 21, six: words, as bytes say. -/
import Derived.Test.YtkjaonlelkfhaaaWeaveE
import Derived.Test.YtkjaonlelkfhaaaLst
namespace Go.Proofs.Ytkjaonlelkfhaaa
open Go.RowKit Gf Bt

/-- A byte of a word: the place among all, and the word's number. -/
def wcell (bs : List UInt8) (a k : Nat) : UInt8 := if bs = [] then 0 else bs.getD (a % bs.length) 0 ^^^ UInt8.ofNat k
def wordL (n : Nat) (bs : List UInt8) (k : Nat) : List UInt8 := (List.range n).map fun i => wcell bs (k * n + i) k
def wordsL (n : Nat) (bs : List UInt8) (m : Nat) : List (List UInt8) := (List.range m).map (wordL n bs)
/-- A word whose first j bytes are said. -/
def wordTo (n : Nat) (bs : List UInt8) (k j : Nat) : List UInt8 := (List.range n).map fun i => if i < j then wcell bs (k * n + i) k else 0
theorem wordL_length (n bs k) : (wordL n bs k).length = n := by simp [wordL]
theorem wordTo_length (n bs k j) : (wordTo n bs k j).length = n := by simp [wordTo]
theorem wordsL_length (n bs m) : (wordsL n bs m).length = m := by simp [wordsL]
theorem wordTo_zero (n bs k) : wordTo n bs k 0 = List.replicate n 0 := by
  unfold wordTo
  apply List.ext_getElem
  · simp
  · intro i h1 h2; simp
theorem wordTo_all (n bs k) : wordTo n bs k n = wordL n bs k := by
  unfold wordTo wordL
  apply List.ext_getElem
  · simp
  · intro i h1 h2; simp at h1; simp [h1]
theorem wordTo_nil (n k j) : wordTo n [] k j = wordL n [] k := by
  unfold wordTo wordL
  apply List.ext_getElem
  · simp
  · intro i h1 h2; simp [wcell]
theorem wordTo_step (n bs k j) : (wordTo n bs k j).set j (wcell bs (k * n + j) k) = wordTo n bs k (j + 1) := by
  unfold wordTo
  apply List.ext_getElem
  · simp
  · intro i h1 h2
    simp only [List.getElem_set, List.getElem_map, List.getElem_range]
    by_cases h : j = i
    · subst h; simp
    · by_cases hi : i < j
      · rw [if_neg h, if_pos hi, if_pos (by omega)]
      · rw [if_neg h, if_neg hi, if_neg (by omega)]
theorem wordsL_succ (n bs m) : wordsL n bs (m + 1) = wordsL n bs m ++ [wordL n bs m] := by
  unfold wordsL; rw [List.range_succ, List.map_append]; rfl
theorem zs_u8 (n : Nat) : Zs n (.int .u8 0) = (List.replicate n (0 : UInt8)).map B8 := by unfold Zs; rw [List.map_replicate]; rfl
theorem xor_k (x : UInt8) (k : Nat) : bits .xor .u8 (x.toNat : Int) ((k : Int) % 256) = ((x ^^^ UInt8.ofNat k).toNat : Nat) := by
  rw [← bits_u8_xor, UInt8.toNat_ofNat']
  congr 1

theorem word_row {w : World} {g B n k j : Nat} {o : Option Nat} {bs : List UInt8} (h : Blk w g 5 ((wordTo n bs k j).map B8)) (he : wordTo n bs k j = wordL n bs k) (hg : g < B) (ho : some g ≠ o) (hn : n ≤ 255) :
    IsRow w B o (.slice (some ⟨g, 0, none⟩) n n) (wordL n bs k) := by
  rw [he] at h
  have := IsRow.of_blk (c := n) h hg ho (by rw [wordL_length]; exact Nat.le_refl _) (by simp only [maxLen]; omega)
  rwa [wordL_length] at this
set_option maxHeartbeats 1000000 in
theorem words_any (n : Nat) (K B : Int) (A : Option Addr) (bs : List UInt8) (cap m : Nat) (w : World) (hRd : Rd w w.heap.size A (bs.map B8)) (hcap : bs.length ≤ cap) (hmax : bs.length ≤ 9223372036854775807) (hn : n ≤ 255) (hm : m ≤ 100000) :
    Calls Try.prog 11 #[C3 n K B, .slice A bs.length cap, .int .i64 m] w fun e w' => ∃ v, e = .returned v ∧ IsLst w' w'.heap.size v (wordsL n bs m) ∧ Below w.heap.size w w' := by
  go_enter Try.func11, Try.ntmps11
  go_wp2
  go_loopw [7, 8, 9, 10] (fun v i _ _ wr => ∃ k : Nat, k ≤ m ∧ i = .int .i64 k ∧ OwnLst wr (w.heap.size + 1) v (wordsL n bs k) ∧ Blk wr w.heap.size 24 [.int .i64 n, .int .i64 K, .int .i64 B] ∧ Below w.heap.size w wr) (fun _ i _ _ _ => m - (intOf i).toNat)
  case atStart => exact ⟨0, by omega, rfl, OwnLst.nil _ _, Blk.new w _ _, (Below.refl _ _).alloc (Nat.le_refl _) _⟩
  case round =>
    rename World => wo
    obtain ⟨k, hk, rfl, hown, hb, hbel⟩ := hrel
    have HO := bx hown
    have HB := bx hb
    have HL := bx hbel
    have cn : wo.cell? ⟨w.heap.size, 0, none⟩ = some (.int .i64 n) := hb.cell rfl
    clear hown hb hbel
    by_cases hlt : k < m
    · have hk0 : (0 : Int) ≤ (k : Int) := Int.natCast_nonneg _
      go_wp2_with (refine mk_row rfl 22 _ _ rfl 5 _ _ _ n 1 rfl rfl Try.underlying22 bytes_info rfl (by omega) (by omega) ?_)
      go_loopw [10] (fun i wi => ∃ j : Nat, j ≤ n ∧ i = .int .i64 j ∧ Blk wi wo.heap.size 5 ((wordTo n bs k j).map B8) ∧ Below wo.heap.size wo wi) (fun i _ => n - (intOf i).toNat)
      case atStart => exact ⟨0, by omega, rfl, by rw [wordTo_zero, ← zs_u8]; exact Blk.new wo _ _, (Below.refl _ _).alloc (Nat.le_refl _) _⟩
      case round =>
        skip
        obtain ⟨j, hj, rfl, hg, hbi⟩ := hrel
        have HG := bx hg
        have HI := bx hbi
        have cn1 : wr.cell? ⟨w.heap.size, 0, none⟩ = some (.int .i64 n) := (HB.out.below hbi HB.out.lt).cell rfl
        clear hg hbi cn
        have HO1 := bx (HO.out.keep HI.out)
        have HGE := bx HG.out.lt
        have finish : ∀ v2 w2, wordTo n bs k j = wordL n bs k → OwnLst w2 (w.heap.size + 1) v2 (wordsL n bs k ++ [wordL n bs k]) → Below (w.heap.size + 1) wr w2 →
            ∃ k' : Nat, k' ≤ m ∧ (.int .i64 ((k : Int) + 1) : Value) = .int .i64 k' ∧ OwnLst w2 (w.heap.size + 1) v2 (wordsL n bs k') ∧ Blk w2 w.heap.size 24 [.int .i64 n, .int .i64 K, .int .i64 B] ∧ Below w.heap.size w w2 := by
          intro v2 w2 _ h1 h2
          exact ⟨k + 1, by omega, by go_num, by rw [wordsL_succ]; exact h1, (HB.out.below HI.out HB.out.lt).below h2 (by omega), HL.out.trans ((HI.out.mono HL.out.size).trans (h2.mono (by omega)))⟩
        have Fin := bx finish
        clear finish
        by_cases hjn : j < n
        · have hj0 : (0 : Int) ≤ (j : Int) := Int.natCast_nonneg _
          by_cases hne : bs.length = 0
          · have hlz : ¬ (0 : Int) < (bs.length : Int) := by omega
            have HE := bx (show wordTo n bs k j = wordL n bs k by rw [List.length_eq_zero_iff.1 hne]; exact wordTo_nil _ _ _)
            clear hne
            have HR := bx (word_row (o := u7.ownBlock) HG.out HE.out HGE.out (HO.out.new (Nat.le_refl _)) hn)
            go_wp2_with (first | (refine ap_lst rfl _ _ rfl (w.heap.size + 1) _ _ rfl HO1.out _ 1 rfl HR.out (by rw [wordsL_length]; omega) (by have := HB.out.lt; have := HI.out.size; omega) ?_; intro v2 w2 hown2 hb2))
            go_roundw
            case rel => obtain ⟨k', h1, h2, h3⟩ := Fin.out _ _ HE.out hown2 hb2; exact ⟨k', h1, h2, h3⟩
            case measure => simp [intOf]; omega
          · have hl0 : 0 < bs.length := by omega
            obtain ⟨kn, hkn⟩ : ∃ kn, k * n = kn := ⟨_, rfl⟩
            have hkn2 : kn ≤ 25500000 := by rw [← hkn]; exact Nat.le_trans (Nat.mul_le_mul (show k ≤ 100000 by omega) hn) (by omega)
            have hw1 : wrap64 ((k : Int) * (n : Int)) = (kn : Int) := by rw [← Int.natCast_mul, hkn]; unfold wrap64; omega
            have hw2 : wrap64 ((kn : Int) + (j : Int)) = (kn : Int) + (j : Int) := by unfold wrap64; omega
            obtain ⟨at_, hat⟩ : ∃ a, (kn + j) % bs.length = a := ⟨_, rfl⟩
            have hal : at_ < bs.length := by rw [← hat]; exact Nat.mod_lt _ hl0
            obtain ⟨x, hx⟩ : ∃ x : UInt8, bs[at_]? = some x := ⟨_, List.getElem?_eq_getElem hal⟩
            obtain ⟨ad, rfl, hab, hc⟩ := hRd (by simpa using hl0)
            have hcell : wr.cell? (ad.add at_) = some (.int .u8 x.toNat) := by
              rw [HI.out.cell (by rw [block_of_add]; have := HL.out.size; omega), HL.out.cell (by rw [block_of_add]; exact hab)]; exact hc _ _ (by simp [hx])
            have hq : ((kn : Int) + (j : Int)) % (bs.length : Int) = (at_ : Int) := by rw [← hat]; simp
            have hq' : ((k : Int) * (n : Int) + (j : Int)) % (bs.length : Int) = (at_ : Int) := by rw [← Int.natCast_mul, hkn]; exact hq
            have hlp : (0 : Int) < (bs.length : Int) := by omega
            have hnz : ¬ (bs.length : Int) = 0 := by omega
            have hai : (at_ : Int) < (bs.length : Int) := by omega
            have hx2 := xor_k x k
            have hg0 : wr.cell? ⟨wo.heap.size, j, none⟩ = some (.int .u8 ((wordTo n bs k j).getD j 0).toNat) := HG.out.cell (by simp [List.getD_eq_getElem?_getD, wordTo_length, hjn])
            have hgf : wr.frozen? ⟨wo.heap.size, j, none⟩ = false := HG.out.froz
            have HV := bx (show wcell bs (k * n + j) k = x ^^^ UInt8.ofNat k by rw [wcell, if_neg (fun h => by rw [h] at hl0; simp at hl0), hkn, hat, List.getD_eq_getElem?_getD, hx]; rfl)
            clear hc hx
            go_wp2
            go_roundw
            case rel =>
              refine ⟨j + 1, by omega, by go_num, ?_, HI.out.setCell (by simp) _⟩
              rw [← wordTo_step, List.map_set, HV.out]; exact HG.out.set _
            case measure => simp [intOf]; omega
        · obtain rfl : j = n := by omega
          have HR := bx (word_row (o := u7.ownBlock) HG.out (wordTo_all _ _ _) HGE.out (HO.out.new (Nat.le_refl _)) hn)
          go_wp2_with (first | (refine ap_lst rfl _ _ rfl (w.heap.size + 1) _ _ rfl HO1.out _ 1 rfl HR.out (by rw [wordsL_length]; omega) (by have := HB.out.lt; have := HI.out.size; omega) ?_; intro v2 w2 hown2 hb2))
          go_roundw
          case rel => exact Fin.out _ _ (wordTo_all _ _ _) hown2 hb2
          case measure => simp [intOf]; omega
    · obtain rfl : k = m := by omega
      go_wp2
      go_ret
      exact ⟨_, rfl, HO.out.lst, HL.out⟩
end Go.Proofs.Ytkjaonlelkfhaaa

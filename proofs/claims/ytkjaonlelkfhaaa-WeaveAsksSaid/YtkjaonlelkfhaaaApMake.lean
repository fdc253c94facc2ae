/- append(s, make([]T, n)...): n zero values appended to a slice of the call's own. -/
import Derived.Test.YtkjaonlelkfhaaaLst2
namespace Go.Proofs.Ytkjaonlelkfhaaa
open Go.RowKit Gf Bt

section
variable {P : Program} (w : World)
theorem toList_zeroCells_one (z : Value) (n : Nat) : (Builtin.zeroCells #[z] n).toList = List.replicate n z := by
  apply List.ext_getElem?
  intro j
  by_cases hj : j < n
  · simp [Builtin.zeroCells, hj, Nat.mod_one]
  · simp [Builtin.zeroCells, hj]
/-- THE LAW: elements of one cell. -/
theorem run_append_make (base : Nat) (t tn ty e : TypeId) (k : IntKind) (i : TypeInfo) (z : Value) (bytes : Nat) (ht : P.underlying t = some (.slice e)) (htn : P.underlying tn = some (.int k)) (hi : P.info? e = some i) (hz : i.zero = some z)
    (hsize : i.size = 1) (hby : i.bytes = bytes) (hzs : z.cells = #[z]) (h1 : z.oneCell' = true)
    (g n cap : Nat) (xs : List Value) (hown : w.ownsRow base e 1 (.slice (some ⟨g, 0, none⟩) n cap) n xs) (m : Nat)
    (h63 : n + m ≤ 1000000000) (hbytes : bytes ≤ 1000) (hbase : base ≤ w.heap.size) :
    ∃ g' cap' w', (Builtin.append_ #[t, tn] ty #[.slice (some ⟨g, 0, none⟩) n cap, .int .i64 (m : Int)]).run P w = .ok (.slice (some ⟨g', 0, none⟩) (n + m) cap') w' ∧ w'.ownsRow base e 1 (.slice (some ⟨g', 0, none⟩) (n + m) cap') (n + m) (xs ++ List.replicate m z) ∧ w.grownBy w' (some g) ∧ (g' = g ∨ g' = w.heap.size) ∧ g' < w'.heap.size := by
  subst hby
  have hwr : IntKind.i64.wrap (m : Int) = (m : Int) := by simp only [IntKind.wrap, IntKind.bits, IntKind.signed]; simp; omega
  have hm0 : ¬ (m : Int) < 0 := by omega
  have hmb : ¬ (281474976710656 : Int) < (m : Int) * (i.bytes : Int) := by
    have h : m * i.bytes ≤ 1000000000 * 1000 := Nat.mul_le_mul (by omega) hbytes
    have h2 : ((m * i.bytes : Nat) : Int) ≤ 1000000000000 := by omega
    rw [Int.natCast_mul] at h2
    omega
  have hlen : (xs ++ List.replicate m z).length = (n + m) * 1 := by rw [List.length_append, hown.1, List.length_replicate, Nat.mul_one, Nat.mul_one]
  have hnews : (if m = 0 then (#[] : Array Value) else Builtin.zeroCells #[z] m) = (List.replicate m z).toArray := by
    by_cases h : m = 0
    · subst h; simp
    · rw [if_neg h]; apply Array.ext'; rw [toList_zeroCells_one]
  have holds : ∀ j u, xs[j]? = some u → w.cell? ((⟨g, 0, none⟩ : Addr).add j) = some u := hown.cells (g := g) rfl
  have hlx := hown.1
  rcases hown.2 with ⟨hv, _⟩ | ⟨g', cap', cur, hv, hbg, hg, hnc, hcm, hcs, htake⟩
  · cases hv
  · cases hv
    by_cases hroom : n + m ≤ cap
    · have hst := run_storeCells_at P g n e (List.replicate m z) 0 cur w hg (by rw [List.length_replicate]; omega) (fun u hu => by rw [List.eq_of_mem_replicate hu]; exact h1)
      simp only [Nat.add_zero] at hst
      refine ⟨g, cap, w.setRow g (cur.toList.take n ++ List.replicate m z ++ cur.toList.drop (n + (List.replicate m z).length)).toArray, ?_, ⟨hlen, .inr ⟨g, cap, _, rfl, hbg, setRow_heap w g cur _ e _ hg, hroom, hcm, ?_, ?_⟩⟩, ⟨rfl, rfl, rfl, by simp, fun k _ hk => setRow_other w g k _ (fun e => hk (by simp [e]))⟩, .inl rfl, ?_⟩
      · by_cases hmz : m = 0
        · subst hmz
          have hw0 : IntKind.i64.wrap 0 = 0 := by decide
          simp [Builtin.append_, run_underlying ht, run_underlying htn, sizeOf, typeInfo, zeroValue, hi, hz, hsize, hzs, asInt, asIntOf, hw0, Addr.add_lit, hnc] at hst ⊢
          rw [hst]; simp
        · simp [Builtin.append_, run_underlying ht, run_underlying htn, sizeOf, typeInfo, zeroValue, hi, hz, hsize, hzs, asInt, asIntOf, hwr, hm0, hmb, hroom, hmz, toList_zeroCells_one, Addr.add_lit] at hst ⊢
          rw [hst]; simp
      · simp only [List.size_toArray, List.length_append, List.length_take, List.length_drop, Array.length_toList, List.length_replicate]
        omega
      · have hx : cur.toList.take n = xs := by simpa using htake
        rw [hx]
        show (xs ++ List.replicate m z ++ _).take ((n + m) * 1) = _
        rw [← hlen]
        exact List.take_left
      · have := (Array.getElem?_eq_some_iff.1 hg).1; simpa using this
    · have hgrow : cap < n + m := by omega
      have hfit := growslice_fits (bytes := i.bytes) hgrow (by have h : (n + m) * i.bytes ≤ 1000000000 * 1000 := Nat.mul_le_mul (by omega) hbytes; omega)
      have hge := grownCap_ge w (n + m) cap e
      have hcm' : grownCap w (n + m) cap e ≤ maxLen := grownCap_le_maxLen w (n + m) cap e (by simp only [maxLen]; omega)
      have hf := run_firstCells_some (P := P) w.drew 1 n ⟨g, 0, none⟩ n cap xs hlx (by simpa using holds)
      refine ⟨w.heap.size, grownCap w (n + m) cap e, w.drew.alloc (.cells (xs.toArray ++ (List.replicate m z).toArray ++ Builtin.zeroCells #[z] (grownCap w (n + m) cap e - (n + m))) e), ?_, ⟨hlen, .inr ⟨w.heap.size, _, _, rfl, hbase, heap_alloc_new w.drew _, hge, hcm', ?_, ?_⟩⟩, ⟨rfl, rfl, rfl, by simp, fun k hk _ => heap_alloc_old w.drew _ hk⟩, .inr rfl, by simp⟩
      · by_cases hmz : m = 0
        · omega
        · have h48' : ¬ (281474976710656 < Builtin.nextslicecap (n + m) cap * i.bytes) := by omega
          have h63' : ¬ (9223372036854775807 < ((n : Int) + (m : Int))) := by omega
          simp [Builtin.append_, run_underlying ht, run_underlying htn, sizeOf, typeInfo, zeroValue, hi, hz, hsize, hzs, asInt, asIntOf, hwr, hm0, hmb, hroom, hmz, h48', h63', Question.forced, hf, newRow, grownCap]
          have hzc : Builtin.zeroCells #[z] m = Array.replicate m z := by apply Array.ext'; rw [toList_zeroCells_one]; simp
          rw [hzc]
      · simp only [Array.size_append, List.size_toArray, size_zeroCells, List.length_replicate, hlx]
        simp
        omega
      · simp only [Array.toList_append, List.append_assoc]
        rw [← List.append_assoc, ← hlen]
        exact List.take_left
end
end Go.Proofs.Ytkjaonlelkfhaaa

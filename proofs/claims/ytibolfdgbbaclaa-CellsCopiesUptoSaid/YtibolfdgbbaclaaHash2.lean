/-
  What is proved: contracts of hash.Key and hash.Bucket.
  Conditions: lengths at most 2^47; 1 to 65536 buckets.
-/
import Derived.Test.YtibolfdgbbaclaaHash
import Derived.Test.YtibolfdgbbaclaaLaws
open Go Go.RowKit Go.Ice
namespace Go.Proofs.Ytibolfdgbbaclaa
set_option maxRecDepth 100000
set_option linter.unusedVariables false
set_option linter.unusedSimpArgs false
theorem key_any (s : ByteArray) (w : World) (hs : s.size ≤ 140737488351232) :
    Calls Try.prog 71 #[.string s] w fun e w' => e = .returned (.int .u64 (hkey s)) ∧ Below w.heap.size w w' := by
  have hin := hsum_in [s.data.toList]
  go_enter Try.func71, Try.ntmps71
  go_wp2_with (refine wpList_bytes (o := ⟨some 4, .convert 9 33 (.tmp 3), _, _, _, _⟩) rfl 9 33 5 (.tmp 3) rfl s rfl Try.underlying9 Try.underlying33 Try.underlying5 hs ?_; intro c w1 hb1 hB1)
  have hb2 := hb1.below ((Below.refl w1.heap.size w1).alloc (Nat.le_refl _) (.cells #[.slice (some ⟨w.heap.size, 0, none⟩) s.size c] 33))
  refine (sum_any w1.heap.size 1 1 [.slice (some ⟨w.heap.size, 0, none⟩) s.size c] [s.data.toList] _ (fun b => w.heap.size ≤ b) rfl rfl (by omega) ?_ ?_).mono ?_
  · intro i v hv
    have hi : i = 0 := by have := (List.getElem?_eq_some_iff.1 hv).1; simpa using this
    subst hi
    simp at hv
    subst hv
    simp
  · intro i v l hv hl
    have hi : i = 0 := by have := (List.getElem?_eq_some_iff.1 hv).1; simpa using this
    subst hi
    simp at hv hl
    subst hv
    subst hl
    exact hb2
  rintro e w' ⟨rfl, rfl⟩
  go_wp2_with fail
  refine (stir_any _ _ hin.1 hin.2).mono ?_
  rintro e w' ⟨rfl, rfl⟩
  go_wp2_with fail
  go_ret
  exact ⟨rfl, hB1.alloc hB1.size _⟩
def hbucket (k : ByteArray) (n : Int) : Int := hkey k % n
theorem hbucket_in (k : ByteArray) (n : Int) (h : 1 ≤ n) : 0 ≤ hbucket k n ∧ hbucket k n < n := ⟨Int.emod_nonneg _ (by omega), Int.emod_lt_of_pos _ (by omega)⟩
theorem bucket_of (s : ByteArray) (n : Int) (w : World) (hs : s.size ≤ 140737488351232) (h1 : 1 ≤ n) (h2 : n ≤ 65536) :
    Calls Try.prog 54 #[.string s, .int .i64 n] w fun e w' => e = .returned (.tuple #[.int .i64 (hbucket s n), .int .i64 0]) ∧ Below w.heap.size w w' := by
  have hin : InU64 (hkey s) := hstir_in _
  have hbk := hbucket_in s n h1
  go_enter Try.func54, Try.ntmps54
  go_wp2_with fail
  refine (key_any s _ hs).mono ?_
  rintro e w' ⟨rfl, hB⟩
  have hi1 := hin.1
  have hi2 := hin.2
  have hm1 := Int.emod_nonneg (hkey s) (show n ≠ 0 by omega)
  have hm2 := Int.emod_lt_of_pos (hkey s) (show 0 < n by omega)
  go_wp2_with fail
  go_ret2
  refine ⟨?_, hB⟩
  rfl
end Go.Proofs.Ytibolfdgbbaclaa

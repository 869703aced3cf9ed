/-
  What is proved: contracts of the package hash (Step, fold, Stir, Sum of rows, Key, Bucket).
  Conditions: lengths at most 2^47.
-/
import Derived.Test.YtibolfdgbbaclaaProg
import Derived.Test.YtibolfdgbbaclaaMem
import Derived.Outline
import Derived.WalkMore
import Derived.Laws.BitsAllLaws
import Derived.Lib.ConvBytes
import Derived.Deep.LoopGhost
open Go Go.RowKit Go.Ice
namespace Go.Proofs.Ytibolfdgbbaclaa
set_option maxRecDepth 100000
set_option linter.unusedVariables false
set_option linter.unusedSimpArgs false
def hstep (h c : Int) : Int := IntKind.u64.wrap (bits .xor .u64 h c * 1099511628211)
def hfold (h : Int) : Int := bits .xor .u64 h (h / 8589934592)
def hstir (h : Int) : Int := hfold (IntKind.u64.wrap (hfold (IntKind.u64.wrap (hfold h * 18397679294719823053)) * 14181476777654086739))
def hrow (h : Int) (l : List UInt8) : Int := l.foldl (fun h c => hstep h (c.toNat : Int)) h
def hsum (ls : List (List UInt8)) : Int := ls.foldl hrow 14695981039346656037
def hkey (k : ByteArray) : Int := hstir (hsum [k.data.toList])
def InU64 (h : Int) : Prop := 0 ≤ h ∧ h ≤ 18446744073709551615
theorem wrap_u64_in (x : Int) : InU64 (IntKind.u64.wrap x) := by
  unfold InU64
  rw [IntKind.wrap_u64]
  omega
theorem hstep_in (h c : Int) : InU64 (hstep h c) := wrap_u64_in _
theorem xor_in (a b : Int) : InU64 (bits .xor .u64 a b) := wrap_u64_in _
theorem hfold_in (h : Int) : InU64 (hfold h) := xor_in _ _
theorem hstir_in (h : Int) : InU64 (hstir h) := hfold_in _
theorem hrow_in (l : List UInt8) : ∀ h, InU64 h → InU64 (hrow h l) := by
  induction l with
  | nil => intro h hh; exact hh
  | cons c l ih => intro h _; exact ih _ (hstep_in _ _)
theorem hsum_in (ls : List (List UInt8)) : InU64 (hsum ls) := by
  unfold hsum
  have : ∀ (ls : List (List UInt8)) (h : Int), InU64 h → InU64 (ls.foldl hrow h) := by
    intro ls
    induction ls with
    | nil => intro h hh; exact hh
    | cons l ls ih => intro h hh; exact ih _ (hrow_in l h hh)
  exact this ls _ ⟨by omega, by omega⟩

theorem step_any (h c : Int) (w : World) (hh : 0 ≤ h) (hh2 : h ≤ 18446744073709551615) (hc : 0 ≤ c) (hc2 : c ≤ 255) :
    Calls Try.prog 97 #[.int .u64 h, .int .u8 c] w fun e w' => e = .returned (.int .u64 (hstep h c)) ∧ w' = w := by
  go_enter Try.func97, Try.ntmps97
  go_wp2
  go_ret
  exact ⟨rfl, rfl⟩
theorem fold_any (h : Int) (w : World) (hh : 0 ≤ h) (hh2 : h ≤ 18446744073709551615) :
    Calls Try.prog 96 #[.int .u64 h] w fun e w' => e = .returned (.int .u64 (hfold h)) ∧ w' = w := by
  go_enter Try.func96, Try.ntmps96
  go_wp2
  go_ret
  exact ⟨rfl, rfl⟩
theorem stir_any (h : Int) (w : World) (hh : 0 ≤ h) (hh2 : h ≤ 18446744073709551615) :
    Calls Try.prog 80 #[.int .u64 h] w fun e w' => e = .returned (.int .u64 (hstir h)) ∧ w' = w := by
  have b1 := wrap_u64_in (hfold h * 18397679294719823053)
  have b2 := wrap_u64_in (hfold (IntKind.u64.wrap (hfold h * 18397679294719823053)) * 14181476777654086739)
  go_enter Try.func80, Try.ntmps80
  go_wp2_with fail
  refine (fold_any _ _ hh hh2).mono ?_
  rintro e w' ⟨rfl, rfl⟩
  go_wp2_with fail
  refine (fold_any _ _ b1.1 b1.2).mono ?_
  rintro e w' ⟨rfl, rfl⟩
  go_wp2_with fail
  refine (fold_any _ _ b2.1 b2.2).mono ?_
  rintro e w' ⟨rfl, rfl⟩
  go_wp2_with fail
  go_ret
  exact ⟨rfl, rfl⟩

theorem take_foldl {α β : Type} (f : β → α → β) (z : β) (l : List α) (k : Nat) (h : k < l.length) : (l.take (k + 1)).foldl f z = f ((l.take k).foldl f z) l[k] := by
  rw [List.take_succ_eq_append_getElem h, List.foldl_append]
  rfl
set_option maxHeartbeats 800000 in
theorem sum_any (b n c : Nat) (vs : List Value) (ls : List (List UInt8)) (w : World) (N : Nat → Prop) (hn : vs.length = n) (hn2 : ls.length = n) (hnm : n ≤ 140737488351232)
    (hc : ∀ (i : Nat) (v : Value), vs[i]? = some v → w.cell? ⟨b, i, none⟩ = some v) (hl : ∀ (i : Nat) (v : Value) (l : List UInt8), vs[i]? = some v → ls[i]? = some l → Bts w N v l) :
    Calls Try.prog 81 #[.slice (some ⟨b, 0, none⟩) n c] w fun e w' => e = .returned (.int .u64 (hsum ls)) ∧ w' = w := by
  have hfin : (ls.take n).foldl hrow 14695981039346656037 = hsum ls := by rw [List.take_of_length_le (by omega)]; rfl
  have Hfin := Lib.hid hfin
  clear hfin
  go_enter Try.func81, Try.ntmps81
  go_wp2
  go_step3
  go_wp2
  go_step3
  go_wp2
  go_loopg [3, 10] n (fun k h i wr => ∃ (j : Nat) (x : Int), j ≤ n ∧ k = n - j ∧ i = .int .i64 j ∧ h = .int .u64 x ∧ InU64 x ∧ Hid ((ls.take j).foldl hrow 14695981039346656037 = x) ∧ w = wr)
  case atStart => exact ⟨0, _, by omega, by omega, rfl, rfl, ⟨by omega, by omega⟩, rfl, rfl⟩
  case round =>
    obtain ⟨j, x, hj, rfl, rfl, rfl, hin, Hh, rfl⟩ := hrel
    by_cases hlt : j < n
    · have hv : vs[j]? = some (vs[j]'(by omega)) := List.getElem?_eq_getElem (by omega)
      have hll : ls[j]? = some (ls[j]'(by omega)) := List.getElem?_eq_getElem (by omega)
      have hcell := hc j _ hv
      have Hts : Hid ((ls.take (j + 1)).foldl hrow 14695981039346656037 = hrow x (ls[j]'(by omega))) := Lib.hid (by rw [take_foldl hrow _ ls j (by omega), Hh.out])
      obtain ⟨A, cc, hvs, hrow', hlen⟩ := hl j _ _ hv hll
      rw [hvs] at hcell
      generalize ls[j]'(by omega) = l at hrow' hlen hcell Hts
      clear hv hll hvs hc hl
      by_cases h0 : l.length = 0
      · obtain rfl : l = [] := List.eq_nil_of_length_eq_zero h0
        have hb0 : (((0 : Nat) : Int) == 0) = true := rfl
        clear h0
        go_wp2
        go_roundg (n - (j + 1))
        case measure => omega
        case rel => exact ⟨j + 1, x, by omega, rfl, by go_num, rfl, hin, Hts, rfl⟩
      · have hb0 : ((l.length : Int) == 0) = false := by simpa using h0
        clear h0
        go_wp2
        go_loopg [3, 19] l.length (fun k h' i wr => ∃ (m : Nat) (y : Int), m ≤ l.length ∧ k = l.length - m ∧ i = .int .i64 m ∧ h' = .int .u64 y ∧ InU64 y ∧ Hid (hrow x (l.take m) = y) ∧ w = wr)
        case atStart => exact ⟨0, x, by omega, by omega, rfl, rfl, hin, rfl, rfl⟩
        case round =>
          obtain ⟨m, y, hm, rfl, rfl, rfl, hin2, Hy, rfl⟩ := hrel
          by_cases hlm : m < l.length
          · obtain ⟨bb, off, hA, _, hcA⟩ := hrow' (by omega)
            have hcl : w.cell? ⟨bb, off + m, none⟩ = some (.int .u8 ((l.getD m 0).toNat : Int)) := hcA m hlm
            clear hcA hrow'
            subst hA
            have hgm : l.getD m 0 = l[m] := by simp [List.getD_eq_getElem?_getD, List.getElem?_eq_getElem hlm]
            rw [hgm] at hcl
            have hb1 : 0 ≤ ((l[m]).toNat : Int) := by omega
            have hb2 : ((l[m]).toNat : Int) ≤ 255 := by have := (l[m]).toNat_lt; omega
            have Hst : Hid (hrow x (l.take (m + 1)) = hstep y ((l[m]).toNat : Int)) := Lib.hid ((take_foldl _ x l m hlm).trans (by rw [← Hy.out]; rfl))
            clear hgm
            generalize ((l[m]).toNat : Int) = cb at hcl hb1 hb2 Hst
            go_wp2_with (go_at_call 97; refine (step_any _ _ _ hin2.1 hin2.2 hb1 hb2).mono ?_; rintro e w' ⟨rfl, rfl⟩)
            go_roundg (l.length - (m + 1))
            case measure => omega
            case rel => exact ⟨m + 1, _, by omega, rfl, by go_num, rfl, hstep_in _ _, Hst, rfl⟩
          · have hml : m = l.length := by omega
            subst hml
            go_wp2
            go_roundg (n - (j + 1))
            case measure => omega
            case rel => exact ⟨j + 1, y, by omega, rfl, by go_num, rfl, hin2, by rw [Hts.out, ← Hy.out, List.take_of_length_le (Nat.le_refl _)]; rfl, rfl⟩
    · have hjn : j = n := by omega
      subst hjn
      go_wp2
      try rw [Exit.noGoto_ret]
      go_ret
      exact ⟨by rw [← Hfin.out, Hh.out]; rfl, rfl⟩
end Go.Proofs.Ytibolfdgbbaclaa

/-
  What is proved: words for the laws over tables: runs of steps.
  Conditions: bounds under which nothing wraps.
-/
import Derived.Test.YtibolfdgbbaclaaLong
open Go Go.RowKit Go.Ice
namespace Go.Proofs.Ytibolfdgbbaclaa
set_option maxRecDepth 100000
set_option linter.unusedVariables false
set_option linter.unusedSimpArgs false
attribute [local go_sem] gives givesUpon later_self more_cell more_frozen more_block more_more more_drew more_setCell more_of_drew more_of_drewN more_size lt_plus lt_plus2 lt_plus3 lt_plus4 swap_size swap_cell swap_frozen swap_setCell swap_drew swap_drewN ne_low ne_low1 ne_low2 ne_low3 ne_low4 Instr.field part asAgg List.extract_toArray List.extract_eq_take_drop
/-- What comes of a table by things done one behind the other. -/
def Runs : Tab → List Do → Tab → Prop
  | T, [], T' => T' = T
  | T, d :: ds, T' => ∃ sv, Runs (stepT T d sv).1 ds T'
theorem Runs.snoc {T T' : Tab} {ds : List Do} {d : Do} {sv : Value} (h : Runs T ds T') : Runs T (ds ++ [d]) (stepT T' d sv).1 := by
  induction ds generalizing T with
  | nil => cases h; exact ⟨sv, rfl⟩
  | cons x ds ih =>
    obtain ⟨s, hs⟩ := h
    exact ⟨s, ih hs⟩
theorem Runs.inv {T T' : Tab} {ds : List Do} {N : Int} (h : Runs T ds T') (hv : Inv T N) : Inv T' (N + ds.length) := by
  induction ds generalizing T N with
  | nil => cases h; simpa using hv
  | cons x ds ih =>
    obtain ⟨s, hs⟩ := h
    have := ih hs (inv_stepT hv x s)
    have e : N + 1 + (ds.length : Int) = N + ((x :: ds).length : Int) := by simp only [List.length_cons]; omega
    rwa [e] at this
theorem Runs.take {T T' : Tab} {ds : List Do} {j : Nat} (hj : j < ds.length) {sv : Value} (h : Runs T (ds.take j) T') : Runs T (ds.take (j + 1)) (stepT T' ds[j] sv).1 := by
  rw [List.take_succ_eq_append_getElem hj]
  exact h.snoc
/-- The table under way: behind the first j things that are done. -/
structure Way (w wx : World) (bt bm bk : Nat) (T0 : Tab) (ds : List Do) (T : Tab) : Prop where
  runs : Runs T0 ds T
  tab : IsTab wx bt bm bk T
  below : Below w.heap.size w wx
theorem Way.inv {w wx : World} {bt bm bk : Nat} {T0 T : Tab} {ds : List Do} (h : Way w wx bt bm bk T0 ds T) {N : Int} (hv : Inv T0 N) (hl : ds.length ≤ 1048576) : Inv T (N + 1048576) := (h.runs.inv hv).mono (by omega)
theorem Way.step {w wx w' : World} {bt bm bk : Nat} {T0 T : Tab} {ds : List Do} {j : Nat} (hj : j < ds.length) (h : Way w wx bt bm bk T0 (ds.take j) T) {sv : Value} (hI : IsTab w' bt bm bk (stepT T ds[j] sv).1) (hB : Below w.heap.size w w') : Way w w' bt bm bk T0 (ds.take (j + 1)) (stepT T ds[j] sv).1 :=
  ⟨h.runs.take hj, hI, hB⟩
theorem cfind_laid (T : Tab) (c : Cel) : cfind (laid T c).L c.e.key = some { c with used := T.uses + 1 } := cfind_cput_self T.L { c with used := T.uses + 1 }
theorem length_laid {T : Tab} {c : Cel} (hf : cfind T.L c.e.key = some c) : (laid T c).L.length = T.L.length := by
  have := length_cput T.L { c with used := T.uses + 1 }
  have h2 : (cfind T.L ({ c with used := T.uses + 1 } : Cel).e.key).isSome = true := by show (cfind T.L c.e.key).isSome = true; rw [hf]; rfl
  rw [h2] at this
  exact this
theorem query_twice {T : Tab} {N : Int} (hv : Inv T N) (k : ByteArray) (h2 : 0 < k.size) (h3 : k.size ≤ 250) : ∃ (re : Ent) (rh : Bool) (rt : Int) (T1 T2 : Tab), queried T k = (T1, ⟨re, rh, rt⟩, 0) ∧ queried T1 k = (T2, ⟨re, rh, rt⟩, 0) ∧ re.key = k ∧ re.b.length ≤ 60000 ∧ Inv T1 (N + 1) ∧ Inv T2 (N + 2) ∧
    T2.L.length = T.L.length ∧ T2.bytes = T.bytes ∧ ((∃ c ∈ T2.L, c.e = re) ∨ (re.seq = 0 ∧ re.has = false)) := by
  have hn : ¬ (k.size = 0 ∨ 250 < k.size) := by omega
  have i1 := inv_queried hv k
  have i2 := inv_queried i1 k
  cases hf : cfind T.L k with
  | none =>
    have q1 : queried T k = (T, ⟨zeroE k, decide (tokAt T k = 0), tokAt T k⟩, 0) := by unfold queried; rw [if_neg hn, hf]
    rw [q1] at i1
    refine ⟨_, _, _, _, _, q1, q1, rfl, by simp [zeroE], i1, hv.mono (by omega), rfl, rfl, .inr ⟨rfl, rfl⟩⟩
  | some c =>
    obtain ⟨hm, hk⟩ := cfind_some hf
    subst hk
    have q1 : queried T c.e.key = (laid T c, ⟨c.e, c.whole, tokAt T c.e.key⟩, 0) := by unfold queried; rw [if_neg hn, hf]
    have f2 := cfind_laid T c
    have ht : tokAt (laid T c) c.e.key = tokAt T c.e.key := rfl
    have q2 : queried (laid T c) c.e.key = (laid (laid T c) { c with used := T.uses + 1 }, ⟨c.e, c.whole, tokAt T c.e.key⟩, 0) := by unfold queried; rw [if_neg hn, f2, ht]
    rw [q1] at i1 i2
    rw [q2] at i2
    have e2 : N + 1 + 1 = N + 2 := by omega
    rw [e2] at i2
    refine ⟨_, _, _, _, _, q1, q2, rfl, (hv.size c hm).2, i1, i2, ?_, ?_, .inl ?_⟩
    · rw [length_laid (c := { c with used := T.uses + 1 }) f2, length_laid hf]
    · show T.bytes + (esize c.e - csize (cfind T.L c.e.key)) + (esize c.e - csize (cfind (laid T c).L c.e.key)) = T.bytes
      rw [hf, f2]
      simp only [csize]
      omega
    · have := cfind_some (cfind_laid (laid T c) { c with used := T.uses + 1 })
      exact ⟨_, this.1, rfl⟩
theorem Blk.below {w w' : World} {b : Nat} {cs : Array Value} {t : TypeId} (h : Blk w b cs t) (hB : Below w.heap.size w w') : Blk w' b cs t := (hB.block b h.lt).trans h
def hitQ (k : ByteArray) (re : Ent) (c : Cel) : Bool := decide (c.e.key = k) && sameE c.e re
def anyQ (k : ByteArray) (re : Ent) (l : List Cel) : Bool := l.any (hitQ k re)
theorem sameE_refl (e : Ent) : sameE e e = true := by simp [sameE, sameVal]
theorem mem_shown {L : List Cel} (hn : (L.map (·.e.key)).Nodup) {c : Cel} (hc : c ∈ L) : c ∈ shown L := by
  have h1 : c.e.key ∈ sortB (L.map (·.e.key)) := (sortB_perm _).mem_iff.2 (List.mem_map.2 ⟨c, hc, rfl⟩)
  exact List.mem_filterMap.2 ⟨_, h1, cfind_self hc hn⟩
theorem anyQ_bare {k : ByteArray} {re : Ent} {a b : List Cel} (h : a.map bare = b.map bare) : anyQ k re a = anyQ k re b := by
  have e : ∀ l : List Cel, anyQ k re l = (l.map bare).any (hitQ k re) := by
    intro l
    unfold anyQ
    rw [List.any_map]
    rfl
  rw [e, e, h]
theorem anyQ_found {T : Tab} {N : Int} (hv : Inv T N) {re : Ent} {k : ByteArray} (hk : re.key = k) (h : ∃ c ∈ T.L, c.e = re) {cs : List Cel} (hc : cs.map bare = (shown T.L).map bare) : anyQ k re cs = true := by
  obtain ⟨c, hm, he⟩ := h
  rw [anyQ_bare hc]
  refine List.any_eq_true.2 ⟨c, mem_shown hv.keys hm, ?_⟩
  unfold hitQ
  rw [he, hk, sameE_refl]
  simp
theorem anyQ_take {k : ByteArray} {re : Ent} {l : List Cel} {j : Nat} (hj : j < l.length) : anyQ k re (l.take (j + 1)) = (anyQ k re (l.take j) || hitQ k re l[j]) := by
  unfold anyQ
  rw [List.take_succ_eq_append_getElem hj, List.any_append]
  simp
end Go.Proofs.Ytibolfdgbbaclaa

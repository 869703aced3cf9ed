/-
  What is proved: every method of a table by one contract; what one step does, in plain words.
  Conditions: bounds under which nothing wraps.
-/
import Derived.Test.YtibolfdgbbaclaaRoom
import Derived.Test.YtibolfdgbbaclaaRefSame2
open Go Go.RowKit Go.Ice
namespace Go.Proofs.Ytibolfdgbbaclaa
set_option maxRecDepth 100000
set_option linter.unusedVariables false
set_option linter.unusedSimpArgs false
attribute [local go_sem] gives givesUpon later_self more_cell more_frozen more_block more_more more_drew more_setCell more_of_drew more_of_drewN more_size lt_plus lt_plus2 lt_plus3 lt_plus4 swap_size swap_cell swap_frozen swap_setCell swap_drew swap_drewN ne_low ne_low1 ne_low2 ne_low3 ne_low4 Instr.field part asAgg List.extract_toArray List.extract_eq_take_drop
structure Do where
  kind : Int
  e : Ent
  tok : Int
  sv : Value
structure Rep where
  e : Ent
  whole : Bool
  tok : Int
def rep0 : Rep := ⟨zeroE ⟨#[]⟩, false, 0⟩
def queried (T : Tab) (k : ByteArray) : Tab × Rep × Int :=
  if k.size = 0 ∨ 250 < k.size then (T, rep0, 2) else match cfind T.L k with
    | none => (T, ⟨zeroE k, decide (tokAt T k = 0), tokAt T k⟩, 0)
    | some c => (laid T c, ⟨c.e, c.whole, tokAt T k⟩, 0)
def storedA (T : Tab) (e : Ent) (sv : Value) : Tab × Int := if okE e ∧ e.seq ≠ 0 then stored T e sv else (T, 2)
def filledA (T : Tab) (e : Ent) (tok : Int) (sv : Value) : Tab × Bool × Int := if okE e then if tokAt T e.key = tok then filled T e sv else (T, false, 0) else (T, false, 2)
def cleanedA (T : Tab) (k : ByteArray) (t : Tag) : Tab × Bool := match cfind T.L k with
  | none => (T, false)
  | some c => if 0 < tcmp (tagE c.e) t then (T, false) else (cleaned T c, true)
def evicted (T : Tab) (k : ByteArray) : Tab × Bool := if cclean (cfind T.L k) then (dropped hbucket T k, true) else (T, false)
def QueryPost (w : World) (bt bm bk : Nat) (T : Tab) (k : ByteArray) (en : Ending) (w' : World) : Prop :=
  ∃ A n, en = .returned (.tuple #[replyV (queried T k).2.1.e (.slice A (queried T k).2.1.e.b.length n) (queried T k).2.1.whole (queried T k).2.1.tok, .int .i64 (queried T k).2.2]) ∧
    Bts w' (fun b => w.heap.size ≤ b) (.slice A (queried T k).2.1.e.b.length n) (queried T k).2.1.e.b ∧ IsTab w' bt bm bk (queried T k).1 ∧ Kept (foot bt bm bk) w w'
theorem query_any {w : World} {bt bm bk : Nat} {T : Tab} {N : Int} (h : IsTab w bt bm bk T) (hv : Inv T N) (hN : N ≤ 576460752303423488) (k : ByteArray) (hk : k.size ≤ 140737488351232) :
    Calls Try.prog 13 #[.pointer (some ⟨bt, 0, none⟩), .string k] w (QueryPost w bt bm bk T k) := by
  unfold QueryPost queried
  by_cases hb : k.size = 0 ∨ 250 < k.size
  · rw [if_pos hb]
    refine (query_bad k hb hk).mono ?_
    rintro en w' ⟨rfl, hB⟩
    exact ⟨none, 0, rfl, Bts.nil _ _, h.below hB, Kept.of_below hB⟩
  · rw [if_neg hb]
    cases hf : cfind T.L k with
    | none =>
      refine (query_none h (hv.bd (by omega)) k (by omega) (by omega) hf).mono ?_
      rintro en w' ⟨rfl, hB⟩
      exact ⟨none, 0, rfl, Bts.nil _ _, h.below hB, Kept.of_below hB⟩
    | some c =>
      refine (query_has h (hv.bd (by omega)) k (by omega) (by omega) c hf).mono ?_
      rintro en w' ⟨A, n, rfl, h1, h2, h3⟩
      exact ⟨A, n, rfl, h1, h2, h3⟩
theorem store_any {w : World} {bt bm bk : Nat} {T : Tab} {N : Int} (h : IsTab w bt bm bk T) (hv : Inv T N) (hN : N ≤ 576460752303423488) (e : Ent) (v : Value) (NS : Nat → Prop) (hbs : Bts w NS v e.b) (hk : e.key.size ≤ 140737488351232) (hns : ∀ b, NS b → ¬ foot bt bm bk b) :
    Calls Try.prog 30 #[.pointer (some ⟨bt, 0, none⟩), entV e v] w fun en w' => ∃ sv, en = .returned (.int .i64 (storedA T e sv).2) ∧ IsTab w' bt bm bk (storedA T e sv).1 ∧ Kept (foot bt bm bk) w w' := by
  have hb' := hbs
  obtain ⟨A, cc, rfl, _, hl⟩ := hb'
  by_cases hb : okE e ∧ e.seq ≠ 0
  · have e1 : ∀ sv, storedA T e sv = stored T e sv := fun sv => if_pos hb
    simp only [e1]
    exact store_ok h hv hN e A cc NS hbs hb.1 hb.2 hns
  · have e1 : ∀ sv, storedA T e sv = (T, 2) := fun sv => if_neg hb
    simp only [e1]
    refine (store_bad e A cc hk hl (by
      by_cases h1 : okE e
      · exact .inr (Decidable.not_not.1 fun h2 => hb ⟨h1, h2⟩)
      · exact .inl h1)).mono ?_
    rintro en w' ⟨rfl, hB⟩
    exact ⟨undef, rfl, h.below hB, Kept.of_below hB⟩
theorem fill_any {w : World} {bt bm bk : Nat} {T : Tab} {N : Int} (h : IsTab w bt bm bk T) (hv : Inv T N) (hN : N ≤ 576460752303423488) (e : Ent) (v : Value) (tok : Int) (NS : Nat → Prop) (hbs : Bts w NS v e.b) (hk : e.key.size ≤ 140737488351232) (hns : ∀ b, NS b → ¬ foot bt bm bk b) :
    Calls Try.prog 20 #[.pointer (some ⟨bt, 0, none⟩), entV e v, .int .i64 tok] w fun en w' => ∃ sv, en = .returned (.tuple #[.bool (filledA T e tok sv).2.1, .int .i64 (filledA T e tok sv).2.2]) ∧ IsTab w' bt bm bk (filledA T e tok sv).1 ∧ Kept (foot bt bm bk) w w' := by
  have hb' := hbs
  obtain ⟨A, cc, rfl, _, hl⟩ := hb'
  by_cases hb : okE e
  · by_cases ht : tokAt T e.key = tok
    · have e1 : ∀ sv, filledA T e tok sv = filled T e sv := fun sv => (if_pos hb).trans (if_pos ht)
      simp only [e1]
      subst ht
      exact fill_ok h hv hN e A cc NS hbs hb hns
    · have e1 : ∀ sv, filledA T e tok sv = (T, false, 0) := fun sv => (if_pos hb).trans (if_neg ht)
      simp only [e1]
      refine (fill_tok h hv hN e A cc NS hbs tok hb ht hns).mono ?_
      rintro en w' ⟨rfl, hB⟩
      exact ⟨undef, rfl, h.below hB, Kept.of_below hB⟩
  · have e1 : ∀ sv, filledA T e tok sv = (T, false, 2) := fun sv => if_neg hb
    simp only [e1]
    refine (fill_bad e A cc tok hk hl hb).mono ?_
    rintro en w' ⟨rfl, hB⟩
    exact ⟨undef, rfl, h.below hB, Kept.of_below hB⟩
theorem clean_any {w : World} {bt bm bk : Nat} {T : Tab} (h : IsTab w bt bm bk T) (k : ByteArray) (t : Tag) :
    Calls Try.prog 32 #[.pointer (some ⟨bt, 0, none⟩), .string k, t.v] w fun en w' => en = .returned (.bool (cleanedA T k t).2) ∧ IsTab w' bt bm bk (cleanedA T k t).1 ∧ Kept (foot bt bm bk) w w' := by
  unfold cleanedA
  cases hf : cfind T.L k with
  | none =>
    refine (clean_no h k t hf).mono ?_
    rintro en w' ⟨rfl, hB⟩
    exact ⟨rfl, h.below hB, Kept.of_below hB⟩
  | some c =>
    dsimp only
    by_cases ht : 0 < tcmp (tagE c.e) t
    · rw [if_pos ht]
      refine (clean_old h k t c hf ht).mono ?_
      rintro en w' ⟨rfl, hB⟩
      exact ⟨rfl, h.below hB, Kept.of_below hB⟩
    · rw [if_neg ht]
      exact clean_yes h k t c hf (by omega)
theorem evict_any {w : World} {bt bm bk : Nat} {T : Tab} {N : Int} (h : IsTab w bt bm bk T) (hv : Inv T N) (hN : N ≤ 576460752303423488) (k : ByteArray) (hk : k.size ≤ 140737488351232) :
    Calls Try.prog 33 #[.pointer (some ⟨bt, 0, none⟩), .string k] w fun en w' => en = .returned (.bool (evicted T k).2) ∧ IsTab w' bt bm bk (evicted T k).1 ∧ Kept (foot bt bm bk) w w' := by
  unfold evicted
  cases hc : cclean (cfind T.L k) with
  | false =>
    refine (evict_no h (hv.bd (by omega)) k hc).mono ?_
    rintro en w' ⟨rfl, hB⟩
    exact ⟨rfl, h.below hB, Kept.of_below hB⟩
  | true => exact evict_yes h (hv.bd (by omega)) k hk hc
def stepT (T : Tab) (d : Do) (sv : Value) : Tab × Rep × Bool × Int :=
  if d.kind = 1 then ((queried T d.e.key).1, (queried T d.e.key).2.1, false, (queried T d.e.key).2.2)
  else if d.kind = 2 then ((storedA T d.e sv).1, rep0, false, (storedA T d.e sv).2)
  else if d.kind = 3 then ((filledA T d.e d.tok sv).1, rep0, (filledA T d.e d.tok sv).2.1, (filledA T d.e d.tok sv).2.2)
  else if d.kind = 4 then ((cleanedA T d.e.key (tagE d.e)).1, rep0, (cleanedA T d.e.key (tagE d.e)).2, 0)
  else if d.kind = 6 then (forgotten T, rep0, false, 0)
  else ((evicted T d.e.key).1, rep0, (evicted T d.e.key).2, 0)
theorem inv_queried {T : Tab} {N : Int} (h : Inv T N) (k : ByteArray) : Inv (queried T k).1 (N + 1) := by
  unfold queried
  split
  · exact h.mono (by omega)
  · cases hf : cfind T.L k with
    | none => exact h.mono (by omega)
    | some c => exact inv_laid_same h c c (by rw [(cfind_some hf).2]; exact hf) rfl
theorem inv_storedA {T : Tab} {N : Int} (h : Inv T N) (e : Ent) (sv : Value) : Inv (storedA T e sv).1 (N + 1) := by
  unfold storedA
  split
  · rename_i hb; exact inv_stored h e sv hb.1
  · exact h.mono (by omega)
theorem inv_filledA {T : Tab} {N : Int} (h : Inv T N) (e : Ent) (tok : Int) (sv : Value) : Inv (filledA T e tok sv).1 (N + 1) := by
  unfold filledA
  split
  · rename_i hb
    split
    · exact inv_filled h e sv hb
    · exact h.mono (by omega)
  · exact h.mono (by omega)
theorem inv_cleanedA {T : Tab} {N : Int} (h : Inv T N) (k : ByteArray) (t : Tag) : Inv (cleanedA T k t).1 (N + 1) := by
  unfold cleanedA
  cases hf : cfind T.L k with
  | none => exact h.mono (by omega)
  | some c =>
    dsimp only
    split
    · exact h.mono (by omega)
    · exact (inv_cleaned h hf).mono (by omega)
theorem inv_evicted {T : Tab} {N : Int} (h : Inv T N) (k : ByteArray) : Inv (evicted T k).1 (N + 1) := by
  unfold evicted
  split
  · exact inv_dropped1 h k
  · exact h.mono (by omega)
theorem inv_stepT {T : Tab} {N : Int} (h : Inv T N) (d : Do) (sv : Value) : Inv (stepT T d sv).1 (N + 1) := by
  unfold stepT
  split
  · exact inv_queried h _
  split
  · exact inv_storedA h _ _
  split
  · exact inv_filledA h _ _ _
  split
  · exact inv_cleanedA h _ _
  split
  · exact inv_forgotten h
  · exact inv_evicted h _
theorem room_stepT (T : Tab) (d : Do) (sv : Value) : True := trivial
end Go.Proofs.Ytibolfdgbbaclaa

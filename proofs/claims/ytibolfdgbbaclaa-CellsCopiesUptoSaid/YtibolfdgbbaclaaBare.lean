/-
  What is proved: plain laws: what a step does is the same but for the memory in which bytes lie.
  Conditions: bounds under which nothing wraps.
-/
import Derived.Test.YtibolfdgbbaclaaLawF
open Go Go.RowKit Go.Ice
namespace Go.Proofs.Ytibolfdgbbaclaa
set_option maxRecDepth 100000
set_option linter.unusedVariables false
set_option linter.unusedSimpArgs false
attribute [local go_sem] gives givesUpon later_self more_cell more_frozen more_block more_more more_drew more_setCell more_of_drew more_of_drewN more_size lt_plus lt_plus2 lt_plus3 lt_plus4 swap_size swap_cell swap_frozen swap_setCell swap_drew swap_drewN ne_low ne_low1 ne_low2 ne_low3 ne_low4 Instr.field part asAgg List.extract_toArray List.extract_eq_take_drop
def bareT (T : Tab) : Tab := { T with L := T.L.map bare }
theorem csize_bare (o : Option Cel) : csize (o.map bare) = csize o := by cases o <;> rfl
theorem cclean_bare (o : Option Cel) : cclean (o.map bare) = cclean o := by cases o <;> rfl
theorem cfind_bare (L : List Cel) (k : ByteArray) : cfind (L.map bare) k = (cfind L k).map bare := cfind_map bare (fun _ => rfl) L k
theorem cput_bare (L : List Cel) (c : Cel) : (cput L c).map bare = cput (L.map bare) (bare c) := by
  unfold cput
  have h : cfind (L.map bare) (bare c).e.key = (cfind L c.e.key).map bare := cfind_bare L c.e.key
  rw [h, Option.isSome_map]
  split
  · rw [List.map_map, List.map_map]
    refine List.map_congr_left fun d _ => ?_
    simp only [Function.comp_apply]
    show bare (if d.e.key = c.e.key then c else d) = if d.e.key = c.e.key then bare c else bare d
    split <;> rfl
  · rw [List.map_append]; rfl
theorem cdel_bare (L : List Cel) (k : ByteArray) : (cdel L k).map bare = cdel (L.map bare) k := by
  unfold cdel
  rw [List.filter_map]
  rfl
theorem laid_bare (T : Tab) (c : Cel) : bareT (laid T c) = laid (bareT T) (bare c) := by
  unfold laid bareT
  have h : cfind (T.L.map bare) (bare c).e.key = (cfind T.L c.e.key).map bare := cfind_bare T.L c.e.key
  dsimp only
  rw [h, csize_bare, cput_bare]
  rfl
theorem dropped_bare (T : Tab) (k : ByteArray) : bareT (dropped hbucket T k) = dropped hbucket (bareT T) k := by
  unfold dropped bareT
  dsimp only
  rw [cfind_bare, csize_bare, cdel_bare]
theorem droppedAll_bare (T : Tab) (l : List ByteArray) : bareT (droppedAll T l) = droppedAll (bareT T) l := by
  induction l generalizing T with
  | nil => rfl
  | cons k l ih => rw [droppedAll_cons, droppedAll_cons, ih, dropped_bare]
theorem best_bare (l : List Cel) : ∀ b : Option Cel, (l.map bare).foldl better (b.map bare) = (l.foldl better b).map bare := by
  induction l with
  | nil => intro b; rfl
  | cons c l ih =>
    intro b
    rw [List.map_cons, List.foldl_cons, List.foldl_cons, ← ih]
    congr 1
    cases b with
    | none => rfl
    | some d =>
      show (if c.used < d.used then some (bare c) else some (bare d)) = (if c.used < d.used then some c else some d).map bare
      split <;> rfl
theorem filter_bare (L : List Cel) (ek : ByteArray) (out : List ByteArray) : (L.map bare).filter (cand ek out) = (L.filter (cand ek out)).map bare := by
  rw [List.filter_map]
  rfl
theorem worst_bare (L : List Cel) (ek : ByteArray) (out : List ByteArray) : worst (L.map bare) ek out = (worst L ek out).map bare := by
  unfold worst best
  rw [filter_bare]
  exact best_bare _ none
theorem vict_bare (T : Tab) (ek : ByteArray) : ∀ (f : Nat) (out : List ByteArray) (n b : Int), vict (bareT T) ek f out n b = vict T ek f out n b := by
  intro f
  induction f with
  | zero => intro out n b; rfl
  | succ f ih =>
    intro out n b
    unfold vict
    have hw : worst (bareT T).L ek out = (worst T.L ek out).map bare := worst_bare T.L ek out
    rw [hw]
    have hr : (bareT T).room = T.room := rfl
    rw [hr]
    cases worst T.L ek out with
    | none => rfl
    | some c =>
      simp only [Option.map_some, ih]
      rfl
theorem victims_bare (T : Tab) (e : Ent) : victims (bareT T) e = victims T e := by
  unfold victims
  have h1 : left_ (bareT T).L e.key [] = left_ T.L e.key [] := by
    unfold left_
    show ((T.L.map bare).filter _).length = _
    rw [filter_bare, List.length_map]
  have h2 : cfind (bareT T).L e.key = (cfind T.L e.key).map bare := cfind_bare T.L e.key
  have h3 : (bareT T).L.length = T.L.length := List.length_map ..
  rw [h1, h2, h3, csize_bare, Option.isSome_map, vict_bare]
  rfl
theorem made_bare (T : Tab) (e : Ent) : bareT (made T e) = made (bareT T) e := by
  unfold made
  rw [victims_bare]
  split
  · exact droppedAll_bare T _
  · rfl
theorem stored_bare (T : Tab) (e : Ent) (sv : Value) : bareT (stored T e sv).1 = (stored (bareT T) e undef).1 ∧ (stored T e sv).2 = (stored (bareT T) e undef).2 := by
  unfold stored
  have h2 : cfind (bareT T).L e.key = (cfind T.L e.key).map bare := cfind_bare T.L e.key
  rw [h2, victims_bare]
  cases cfind T.L e.key with
  | some c =>
    simp only [Option.map_some]
    have ht : tagE (bare c).e = tagE c.e := rfl
    rw [ht]
    by_cases h1 : 0 ≤ tcmp (tagE c.e) (tagE e)
    · rw [if_pos h1, if_pos h1]
      exact ⟨laid_bare T c, rfl⟩
    · rw [if_neg h1, if_neg h1]
      by_cases h3 : (victims T e).2
      · rw [if_pos h3, if_pos h3]
        exact ⟨by rw [laid_bare, made_bare]; rfl, rfl⟩
      · rw [if_neg h3, if_neg h3]
        exact ⟨rfl, rfl⟩
  | none =>
    simp only [Option.map_none]
    by_cases h3 : (victims T e).2
    · rw [if_pos h3, if_pos h3]
      exact ⟨by rw [laid_bare, made_bare]; rfl, rfl⟩
    · rw [if_neg h3, if_neg h3]
      exact ⟨rfl, rfl⟩
theorem filled_bare (T : Tab) (e : Ent) (sv : Value) : bareT (filled T e sv).1 = (filled (bareT T) e undef).1 ∧ (filled T e sv).2 = (filled (bareT T) e undef).2 := by
  unfold filled
  have h2 : cfind (bareT T).L e.key = (cfind T.L e.key).map bare := cfind_bare T.L e.key
  rw [h2, victims_bare]
  cases cfind T.L e.key with
  | some c =>
    simp only [Option.map_some]
    have ht : tagE (bare c).e = tagE c.e := rfl
    rw [ht]
    by_cases h1 : 0 < tcmp (tagE c.e) (tagE e)
    · rw [if_pos h1, if_pos h1]
      exact ⟨laid_bare T { c with whole := true }, rfl⟩
    · rw [if_neg h1, if_neg h1]
      by_cases h3 : (victims T e).2
      · rw [if_pos h3, if_pos h3]
        exact ⟨by rw [laid_bare, made_bare]; rfl, rfl⟩
      · rw [if_neg h3, if_neg h3]
        exact ⟨rfl, rfl⟩
  | none =>
    simp only [Option.map_none]
    by_cases h3 : (victims T e).2
    · rw [if_pos h3, if_pos h3]
      exact ⟨by rw [laid_bare, made_bare]; rfl, rfl⟩
    · rw [if_neg h3, if_neg h3]
      exact ⟨rfl, rfl⟩
theorem queried_bare (T : Tab) (k : ByteArray) : bareT (queried T k).1 = (queried (bareT T) k).1 ∧ (queried T k).2 = (queried (bareT T) k).2 := by
  unfold queried
  have h2 : cfind (bareT T).L k = (cfind T.L k).map bare := cfind_bare T.L k
  split
  · exact ⟨rfl, rfl⟩
  · rw [h2]
    cases cfind T.L k with
    | none => exact ⟨rfl, rfl⟩
    | some c => exact ⟨laid_bare T c, rfl⟩
theorem cleanedA_bare (T : Tab) (k : ByteArray) (t : Tag) : bareT (cleanedA T k t).1 = (cleanedA (bareT T) k t).1 ∧ (cleanedA T k t).2 = (cleanedA (bareT T) k t).2 := by
  unfold cleanedA
  have h2 : cfind (bareT T).L k = (cfind T.L k).map bare := cfind_bare T.L k
  rw [h2]
  cases cfind T.L k with
  | none => exact ⟨rfl, rfl⟩
  | some c =>
    simp only [Option.map_some]
    have ht : tagE (bare c).e = tagE c.e := rfl
    rw [ht]
    split
    · exact ⟨rfl, rfl⟩
    · refine ⟨?_, rfl⟩
      unfold cleaned bareT
      dsimp only
      rw [cput_bare]
      rfl
theorem evicted_bare (T : Tab) (k : ByteArray) : bareT (evicted T k).1 = (evicted (bareT T) k).1 ∧ (evicted T k).2 = (evicted (bareT T) k).2 := by
  unfold evicted
  have h2 : cfind (bareT T).L k = (cfind T.L k).map bare := cfind_bare T.L k
  rw [h2, cclean_bare]
  split
  · exact ⟨dropped_bare T k, rfl⟩
  · exact ⟨rfl, rfl⟩
theorem forgotten_bare (T : Tab) : bareT (forgotten T) = forgotten (bareT T) := by
  unfold forgotten bareT
  dsimp only
  rw [List.map_map, List.map_map]
  rfl
theorem stepT_bare (T : Tab) (d : Do) (sv : Value) : bareT (stepT T d sv).1 = (stepT (bareT T) d undef).1 ∧ (stepT T d sv).2 = (stepT (bareT T) d undef).2 := by
  unfold stepT
  split
  · obtain ⟨h1, h2⟩ := queried_bare T d.e.key
    exact ⟨h1, by rw [h2]⟩
  split
  · unfold storedA
    split
    · obtain ⟨h1, h2⟩ := stored_bare T d.e sv
      exact ⟨h1, by rw [h2]⟩
    · exact ⟨rfl, rfl⟩
  split
  · unfold filledA
    split
    · have ht : tokAt (bareT T) d.e.key = tokAt T d.e.key := rfl
      rw [ht]
      split
      · obtain ⟨h1, h2⟩ := filled_bare T d.e sv
        exact ⟨h1, by rw [h2]⟩
      · exact ⟨rfl, rfl⟩
    · exact ⟨rfl, rfl⟩
  split
  · obtain ⟨h1, h2⟩ := cleanedA_bare T d.e.key (tagE d.e)
    exact ⟨h1, by rw [h2]⟩
  split
  · exact ⟨forgotten_bare T, rfl⟩
  · obtain ⟨h1, h2⟩ := evicted_bare T d.e.key
    exact ⟨h1, by rw [h2]⟩
def runB (T : Tab) (ds : List Do) : Tab := ds.foldl (fun T d => (stepT T d undef).1) T
theorem bareT_idem (T : Tab) : bareT (bareT T) = bareT T := by
  unfold bareT
  dsimp only
  rw [List.map_map]
  rfl
theorem Runs.bare {T T' : Tab} {ds : List Do} (h : Runs T ds T') : bareT T' = runB (bareT T) ds := by
  induction ds generalizing T with
  | nil => cases h; rfl
  | cons d ds ih =>
    obtain ⟨sv, hs⟩ := h
    rw [ih hs, (stepT_bare T d sv).1]
    rfl
theorem runs_same {T U T' U' : Tab} {ds : List Do} (h : Runs T ds T') (h2 : Runs U ds U') (he : bareT T = bareT U) : bareT T' = bareT U' := by
  rw [h.bare, h2.bare, he]
theorem shown_bareT {T U : Tab} (h : bareT T = bareT U) : (shown T.L).map bare = (shown U.L).map bare := by
  have h1 : T.L.map bare = U.L.map bare := congrArg Tab.L h
  rw [← shown_map bare (fun _ => rfl), ← shown_map bare (fun _ => rfl), h1]
end Go.Proofs.Ytibolfdgbbaclaa

/-
  What is proved: plain laws: who has to go makes room enough; every step keeps what holds of a table all the time.
  Conditions: bounds under which nothing wraps.
-/
import Derived.Test.YtibolfdgbbaclaaCellsForget
import Derived.Test.YtibolfdgbbaclaaCellsFill
import Derived.Test.YtibolfdgbbaclaaSwap
open Go Go.RowKit Go.Ice
namespace Go.Proofs.Ytibolfdgbbaclaa
set_option maxRecDepth 100000
set_option linter.unusedVariables false
set_option linter.unusedSimpArgs false
attribute [local go_sem] gives givesUpon later_self more_cell more_frozen more_block more_more more_drew more_setCell more_of_drew more_of_drewN more_size lt_plus lt_plus2 lt_plus3 lt_plus4 swap_size swap_cell swap_frozen swap_setCell swap_drew swap_drewN ne_low ne_low1 ne_low2 ne_low3 ne_low4 Instr.field part asAgg List.extract_toArray List.extract_eq_take_drop
theorem droppedAll_cons (T : Tab) (k : ByteArray) (l : List ByteArray) : droppedAll T (k :: l) = droppedAll (dropped hbucket T k) l := rfl
theorem droppedAll_snoc (T : Tab) (l : List ByteArray) (k : ByteArray) : droppedAll T (l ++ [k]) = dropped hbucket (droppedAll T l) k := by
  unfold droppedAll
  rw [List.foldl_append]
  rfl
theorem droppedAll_room (T : Tab) : ∀ l, (droppedAll T l).room = T.room ∧ (droppedAll T l).uses = T.uses := by
  intro l
  induction l generalizing T with
  | nil => exact ⟨rfl, rfl⟩
  | cons k l ih => exact ⟨((ih (dropped hbucket T k)).1), (ih (dropped hbucket T k)).2⟩
theorem cfind_cdel (L : List Cel) (k k' : ByteArray) : cfind (cdel L k) k' = if k' = k then none else cfind L k' := by
  induction L with
  | nil => simp [cdel, cfind]
  | cons c L ih =>
    rw [cdel_cons, cfind_cons]
    by_cases h : c.e.key = k
    · rw [if_pos h, ih]
      by_cases h2 : k' = k
      · simp [h2]
      · have h3 : ¬ c.e.key = k' := fun e => h2 (by rw [← e, h])
        simp [h2, h3]
    · rw [if_neg h, cfind_cons, ih]
      by_cases h2 : k' = k
      · have h3 : ¬ c.e.key = k' := fun e => h (by rw [e, h2])
        subst h2
        simp [h3]
      · simp [h2]
theorem cfind_droppedAll (T : Tab) (k' : ByteArray) : ∀ l : List ByteArray, cfind (droppedAll T l).L k' = if hasB l k' = true then none else cfind T.L k' := by
  intro l
  induction l generalizing T with
  | nil => simp [droppedAll, hasB]
  | cons k l ih =>
    rw [droppedAll_cons, ih]
    have : (dropped hbucket T k).L = cdel T.L k := rfl
    rw [this, cfind_cdel]
    by_cases h : k' = k
    · subst h; simp only [hasB, List.any_cons, decide_true, Bool.true_or, if_true, ite_self]
    · have h2 : ¬ k = k' := fun e => h e.symm
      simp only [hasB, List.any_cons, decide_eq_false h2, Bool.false_or, if_neg h]
/-- How many there would be, and how many bytes. -/
def nOf (T : Tab) (k : ByteArray) : Int := (T.L.length : Int) + (if (cfind T.L k).isSome then 0 else 1)
def bOf (T : Tab) (e : Ent) : Int := T.bytes + esize e - csize (cfind T.L e.key)
theorem drop_counts {T : Tab} {N : Int} (h : Inv T N) (e : Ent) (c : Cel) (hc : cfind T.L c.e.key = some c) (hne : c.e.key ≠ e.key) :
    Inv (dropped hbucket T c.e.key) N ∧ nOf (dropped hbucket T c.e.key) e.key = nOf T e.key - 1 ∧ bOf (dropped hbucket T c.e.key) e = bOf T e - esize c.e := by
  have h1 := inv_dropped h c.e.key
  rw [hc] at h1
  simp only [Option.isSome_some, if_true, Int.add_zero] at h1
  have hf : cfind (dropped hbucket T c.e.key).L e.key = cfind T.L e.key := by
    have : (dropped hbucket T c.e.key).L = cdel T.L c.e.key := rfl
    rw [this, cfind_cdel, if_neg (fun e1 => hne e1.symm)]
  have hl := length_cdel h.keys c.e.key
  rw [hc] at hl
  simp only [Option.isSome_some, if_true] at hl
  refine ⟨h1, ?_, ?_⟩
  · unfold nOf
    rw [hf]
    have : (dropped hbucket T c.e.key).L.length = (cdel T.L c.e.key).length := rfl
    rw [this]
    omega
  · unfold bOf
    rw [hf]
    have : (dropped hbucket T c.e.key).bytes = T.bytes - csize (cfind T.L c.e.key) := rfl
    rw [this, hc]
    simp only [csize]
    omega
theorem vict_room {T : Tab} {N : Int} (h : Inv T N) (e : Ent) : ∀ (f : Nat) (out : List ByteArray) (n b : Int), Inv (droppedAll T out) N → n = nOf (droppedAll T out) e.key → b = bOf (droppedAll T out) e → left_ T.L e.key out < f →
    (∀ k ∈ out, ∀ c, cfind T.L k = some c → c.clean = true ∧ k ≠ e.key) →
    (vict T e.key f out n b).2 = true → Inv (droppedAll T (vict T e.key f out n b).1) N ∧ nOf (droppedAll T (vict T e.key f out n b).1) e.key ≤ T.room.cells ∧ bOf (droppedAll T (vict T e.key f out n b).1) e ≤ T.room.bytes ∧
      ∀ k ∈ (vict T e.key f out n b).1, ∀ c, cfind T.L k = some c → c.clean = true ∧ k ≠ e.key := by
  intro f
  induction f with
  | zero => intro out n b _ _ _ hl; omega
  | succ f ih =>
    intro out n b hI hn hb hl hcl hok
    by_cases hfit : T.room.cells < n ∨ T.room.bytes < b
    · cases hw : worst T.L e.key out with
      | none => rw [vict_none hfit hw] at hok; cases hok
      | some c =>
        rw [vict_some hfit hw] at hok ⊢
        obtain ⟨hcm, hcc⟩ := worst_mem hw
        have hcs : c.clean = true ∧ c.e.key ≠ e.key ∧ c.e.key ∉ out := by
          unfold cand at hcc
          simp only [Bool.and_eq_true, Bool.not_eq_true', decide_eq_false_iff_not] at hcc
          refine ⟨hcc.1.1, hcc.1.2, fun hin => ?_⟩
          rw [(hasB_iff _ _).2 hin] at hcc
          exact absurd hcc.2 (by simp)
        have hfc : cfind (droppedAll T out).L c.e.key = some c := by
          rw [cfind_droppedAll, if_neg (fun hh => hcs.2.2 ((hasB_iff _ _).1 hh))]
          exact cfind_self hcm h.keys
        obtain ⟨g1, g2, g3⟩ := drop_counts hI e c hfc hcs.2.1
        have hd : droppedAll T (out ++ [c.e.key]) = dropped hbucket (droppedAll T out) c.e.key := droppedAll_snoc _ _ _
        refine ih (out ++ [c.e.key]) (n - 1) (b - esize c.e) (by rw [hd]; exact g1) (by rw [hd, g2, hn]) (by rw [hd, g3, hb]) (by have := left_lt hw; omega) ?_ hok
        intro k hk d hd'
        rcases List.mem_append.1 hk with hk | hk
        · exact hcl k hk d hd'
        · simp only [List.mem_singleton] at hk
          subst hk
          rw [cfind_self hcm h.keys] at hd'
          cases hd'
          exact ⟨hcs.1, hcs.2.1⟩
    · rw [vict_fits (by omega) (by omega)] at hok ⊢
      refine ⟨hI, ?_, ?_, hcl⟩
      · show nOf (droppedAll T out) e.key ≤ _
        omega
      · show bOf (droppedAll T out) e ≤ _
        omega
theorem made_ok {T : Tab} {N : Int} (h : Inv T N) (e : Ent) (hok : (victims T e).2 = true) : Inv (made T e) N ∧ nOf (made T e) e.key ≤ T.room.cells ∧ bOf (made T e) e ≤ T.room.bytes ∧ (made T e).room = T.room ∧
    cfind (made T e).L e.key = cfind T.L e.key ∧ ∀ c ∈ T.L, c.clean = false → cfind (made T e).L c.e.key = some c := by
  have hm : made T e = droppedAll T (victims T e).1 := by
    unfold made
    rw [if_pos hok]
    rfl
  have hn0 : (if (cfind T.L e.key).isSome then (T.L.length : Int) else T.L.length + 1) = nOf T e.key := by
    unfold nOf
    split <;> omega
  have hd0 : droppedAll T [] = T := rfl
  have := vict_room h e (left_ T.L e.key [] + 1) [] (nOf T e.key) (bOf T e) (by rw [hd0]; exact h) (by rw [hd0]) (by rw [hd0]) (by omega) (fun k hk => by cases hk)
  have hv : vict T e.key (left_ T.L e.key [] + 1) [] (nOf T e.key) (bOf T e) = victims T e := by
    unfold victims
    rw [hn0]
    rfl
  rw [hv] at this
  obtain ⟨g1, g2, g3, g4⟩ := this hok
  rw [hm]
  refine ⟨g1, g2, g3, (droppedAll_room T _).1, ?_, ?_⟩
  · rw [cfind_droppedAll]
    split
    · rename_i hin
      cases hf : cfind T.L e.key with
      | none => rfl
      | some c => exact absurd rfl (g4 _ ((hasB_iff _ _).1 hin) c hf).2
    · rfl
  · intro c hc hcl
    have hs := cfind_self hc h.keys
    rw [cfind_droppedAll]
    split
    · rename_i hin
      have := (g4 _ ((hasB_iff _ _).1 hin) c hs).1
      rw [hcl] at this
      cases this
    · exact hs
theorem inv_laid_same {T : Tab} {N : Int} (h : Inv T N) (c d : Cel) (hf : cfind T.L d.e.key = some c) (he : d.e = c.e) : Inv (laid T d) (N + 1) := by
  have hm := cfind_some hf
  have hs := h.size c hm.1
  rw [← he] at hs
  have h1 := h.len; have h2 := h.fits
  refine inv_laid h d hs.1 hs.2 ?_ ?_
  · rw [hf]
    simp only [Option.isSome_some, if_true]
    omega
  · rw [hf, he]
    simp only [csize]
    omega
theorem inv_put {T : Tab} {N : Int} (h : Inv T N) (e : Ent) (hok : (victims T e).2 = true) (c : Cel) (hc : c.e = e) (hk : e.key.size ≤ 250) (hb : e.b.length ≤ 60000) : Inv (laid (made T e) c) (N + 1) := by
  obtain ⟨g1, g2, g3, g4, _, _⟩ := made_ok h e hok
  refine inv_laid g1 c (by rw [hc]; exact hk) (by rw [hc]; exact hb) ?_ ?_
  · rw [hc, g4]; exact g2
  · rw [hc, g4]
    have : bOf (made T e) e = (made T e).bytes + (esize e - csize (cfind (made T e).L e.key)) := by unfold bOf; omega
    omega
theorem inv_stored {T : Tab} {N : Int} (h : Inv T N) (e : Ent) (sv : Value) (hok : okE e) : Inv (stored T e sv).1 (N + 1) := by
  have hk := hok.2.1
  have hb := hok.2.2.1
  unfold stored
  split
  · rename_i c hf
    split
    · have := (cfind_some hf).2
      exact inv_laid_same h c c (by rw [this]; exact hf) rfl
    · split
      · rename_i hv
        exact inv_put h e hv _ rfl hk hb
      · exact h.mono (by omega)
  · split
    · rename_i hv
      exact inv_put h e hv _ rfl hk hb
    · exact h.mono (by omega)
theorem inv_filled {T : Tab} {N : Int} (h : Inv T N) (e : Ent) (sv : Value) (hok : okE e) : Inv (filled T e sv).1 (N + 1) := by
  have hk := hok.2.1
  have hb := hok.2.2.1
  have hrest : Inv (if (victims T e).2 then (laid (made T e) ⟨e, true, true, 0, sv⟩, true, (0 : Int)) else (T, false, 30)).1 (N + 1) := by
    split
    · rename_i hv
      exact inv_put h e hv _ rfl hk hb
    · exact h.mono (by omega)
  unfold filled
  cases hf : cfind T.L e.key with
  | none => exact hrest
  | some c =>
    dsimp only
    by_cases hc : 0 < tcmp (tagE c.e) (tagE e)
    · rw [if_pos hc]
      have := (cfind_some hf).2
      exact inv_laid_same h c { c with whole := true } (by show cfind T.L c.e.key = some c; rw [this]; exact hf) rfl
    · rw [if_neg hc]
      exact hrest
theorem inv_mapped {T : Tab} {N : Int} (h : Inv T N) (g : Cel → Cel) (hg : ∀ c ∈ T.L, (g c).e = c.e ∧ (g c).used = c.used) : Inv { T with L := T.L.map g } N := by
  have hk : (T.L.map g).map (·.e.key) = T.L.map (·.e.key) := by
    rw [List.map_map]
    exact List.map_congr_left fun c hc => by simp only [Function.comp_apply, (hg c hc).1]
  refine { h with keys := ?_, used := ?_, distinct := ?_, bytes := ?_, size := ?_, len := ?_, tok := ?_ }
  · show ((T.L.map g).map (·.e.key)).Nodup
    rw [hk]; exact h.keys
  · intro d hd
    obtain ⟨c, hc, rfl⟩ := List.mem_map.1 hd
    rw [(hg c hc).2]; exact h.used c hc
  · intro d hd d' hd' e
    obtain ⟨c, hc, rfl⟩ := List.mem_map.1 hd
    obtain ⟨c', hc', rfl⟩ := List.mem_map.1 hd'
    rw [(hg c hc).2, (hg c' hc').2] at e
    rw [h.distinct c hc c' hc' e]
  · show T.bytes = sumE (T.L.map g)
    rw [h.bytes]
    have : ∀ L : List Cel, (∀ c ∈ L, (g c).e = c.e ∧ (g c).used = c.used) → sumE L = sumE (L.map g) := by
      intro L
      induction L with
      | nil => intro _; rfl
      | cons c L ih =>
        intro hL
        simp only [sumE, List.map_cons]
        rw [(hL c List.mem_cons_self).1, ih fun d hd => hL d (List.mem_cons_of_mem _ hd)]
    exact this T.L hg
  · intro d hd
    obtain ⟨c, hc, rfl⟩ := List.mem_map.1 hd
    rw [(hg c hc).1]; exact h.size c hc
  · show ((T.L.map g).length : Int) ≤ T.room.cells
    rw [List.length_map]; exact h.len
  · intro t ht
    show 0 ≤ t ∧ t + ((T.L.map g).length : Int) ≤ 1 + N
    rw [List.length_map]; exact h.tok t ht
theorem inv_forgotten {T : Tab} {N : Int} (h : Inv T N) : Inv (forgotten T) (N + 1) := by
  have h1 := inv_mapped h unwhole fun c _ => ⟨rfl, rfl⟩
  have h2 := h.uses1
  refine { h1 with toks := ?_, tok := ?_, uses1 := ?_ }
  · show (T.tok.map (· + 1)).length = _
    rw [List.length_map]; exact h.toks
  · show T.uses ≤ N + 1
    omega
  · intro t ht
    obtain ⟨u, hu, rfl⟩ := List.mem_map.1 ht
    have := h1.tok u hu
    show 0 ≤ u + 1 ∧ u + 1 + ((T.L.map unwhole).length : Int) ≤ 1 + (N + 1)
    have e : ({ T with L := T.L.map unwhole } : Tab).L = T.L.map unwhole := rfl
    rw [e] at this
    omega
theorem cleaned_eq {T : Tab} {N : Int} (h : Inv T N) {c : Cel} {k : ByteArray} (hf : cfind T.L k = some c) : (cleaned T c) = { T with L := T.L.map fun d => if d.e.key = c.e.key then { c with clean := true } else d } := by
  have hk := (cfind_some hf).2
  unfold cleaned cput
  have : (cfind T.L ({ c with clean := true } : Cel).e.key).isSome = true := by
    show (cfind T.L c.e.key).isSome = true
    rw [hk, hf]; rfl
  rw [if_pos this]
theorem inv_cleaned {T : Tab} {N : Int} (h : Inv T N) {c : Cel} {k : ByteArray} (hf : cfind T.L k = some c) : Inv (cleaned T c) N := by
  rw [cleaned_eq h hf]
  have hm := cfind_some hf
  refine inv_mapped h _ fun d hd => ?_
  split
  · rename_i he
    have h1 := cfind_self hd h.keys
    rw [he, cfind_self hm.1 h.keys] at h1
    cases h1
    exact ⟨rfl, rfl⟩
  · exact ⟨rfl, rfl⟩
end Go.Proofs.Ytibolfdgbbaclaa

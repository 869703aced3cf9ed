/-
  What is proved: plain laws: what holds of a table of cells all the time.
  Conditions: bounds under which nothing wraps.
-/
import Derived.Test.YtibolfdgbbaclaaVict
open Go Go.RowKit Go.Ice
namespace Go.Proofs.Ytibolfdgbbaclaa
set_option maxRecDepth 100000
set_option linter.unusedVariables false
set_option linter.unusedSimpArgs false
attribute [local go_sem] gives givesUpon later_self more_cell more_frozen more_block more_more more_drew more_setCell more_of_drew more_of_drewN more_size lt_plus lt_plus2 lt_plus3 lt_plus4 Instr.field part asAgg List.extract_toArray List.extract_eq_take_drop
def sumE : List Cel → Int
  | [] => 0
  | c :: L => esize c.e + sumE L
theorem esize_nn (e : Ent) : 0 ≤ esize e := by unfold esize; omega
theorem sumE_nn (L : List Cel) : 0 ≤ sumE L := by
  induction L with
  | nil => exact Int.le_refl _
  | cons c L ih => have := esize_nn c.e; simp only [sumE]; omega
theorem sumE_append (L M : List Cel) : sumE (L ++ M) = sumE L + sumE M := by
  induction L with
  | nil => simp [sumE]
  | cons c L ih => simp only [List.cons_append, sumE, ih]; omega
theorem cfind_none {L : List Cel} {k : ByteArray} : cfind L k = none ↔ ∀ c ∈ L, c.e.key ≠ k := by
  unfold cfind
  simp
theorem cfind_cons (c : Cel) (L : List Cel) (k : ByteArray) : cfind (c :: L) k = if c.e.key = k then some c else cfind L k := by
  unfold cfind
  rw [List.find?_cons]
  by_cases h : c.e.key = k <;> simp [h]
theorem not_mem_find {L : List Cel} {k : ByteArray} (h : k ∉ L.map (·.e.key)) : cfind L k = none := cfind_none.2 fun c hc e => h (List.mem_map.2 ⟨c, hc, e⟩)
theorem cdel_cons (c : Cel) (L : List Cel) (k : ByteArray) : cdel (c :: L) k = if c.e.key = k then cdel L k else c :: cdel L k := by
  unfold cdel
  rw [List.filter_cons]
  by_cases h : c.e.key = k <;> simp [h]
theorem cdel_none {L : List Cel} {k : ByteArray} (h : cfind L k = none) : cdel L k = L := by
  unfold cdel
  exact List.filter_eq_self.2 fun c hc => by simpa using cfind_none.1 h c hc
theorem sumE_cdel {L : List Cel} (hn : (L.map (·.e.key)).Nodup) (k : ByteArray) : sumE (cdel L k) = sumE L - csize (cfind L k) := by
  induction L with
  | nil => simp [cdel, sumE, cfind, csize]
  | cons c L ih =>
    simp only [List.map_cons, List.nodup_cons] at hn
    rw [cdel_cons, cfind_cons]
    by_cases h : c.e.key = k
    · subst h
      rw [if_pos rfl, if_pos rfl, cdel_none (not_mem_find hn.1)]
      simp only [sumE, csize]; omega
    · rw [if_neg h, if_neg h]
      simp only [sumE, ih hn.2]; omega
theorem length_cdel {L : List Cel} (hn : (L.map (·.e.key)).Nodup) (k : ByteArray) : (cdel L k).length + (if (cfind L k).isSome then 1 else 0) = L.length := by
  induction L with
  | nil => simp [cdel, cfind]
  | cons c L ih =>
    simp only [List.map_cons, List.nodup_cons] at hn
    rw [cdel_cons, cfind_cons]
    by_cases h : c.e.key = k
    · subst h
      rw [if_pos rfl, if_pos rfl, cdel_none (not_mem_find hn.1)]
      simp
    · rw [if_neg h, if_neg h]
      have := ih hn.2
      simp only [List.length_cons]; omega
theorem keys_cdel {L : List Cel} (hn : (L.map (·.e.key)).Nodup) (k : ByteArray) : ((cdel L k).map (·.e.key)).Nodup := by
  unfold cdel
  exact List.Nodup.sublist (List.Sublist.map _ List.filter_sublist) hn
theorem mapput_none {L : List Cel} {c : Cel} (h : c.e.key ∉ L.map (·.e.key)) : (L.map fun d => if d.e.key = c.e.key then c else d) = L := by
  conv => rhs; rw [← List.map_id L]
  refine List.map_congr_left fun d hd => ?_
  have : ¬ d.e.key = c.e.key := fun e => h (List.mem_map.2 ⟨d, hd, e⟩)
  simp [this]
theorem sumE_mapput {L : List Cel} (hn : (L.map (·.e.key)).Nodup) (c : Cel) (hf : (cfind L c.e.key).isSome = true) : sumE (L.map fun d => if d.e.key = c.e.key then c else d) = sumE L - csize (cfind L c.e.key) + esize c.e := by
  induction L with
  | nil => simp [cfind] at hf
  | cons x L ih =>
    simp only [List.map_cons, List.nodup_cons] at hn
    rw [cfind_cons] at hf ⊢
    by_cases h : x.e.key = c.e.key
    · rw [if_pos h] at hf ⊢
      rw [h] at hn
      simp only [List.map_cons, if_pos h, mapput_none hn.1, sumE, csize]; omega
    · rw [if_neg h] at hf ⊢
      simp only [List.map_cons, if_neg h, sumE, ih hn.2 hf]; omega
theorem sumE_cput {L : List Cel} (hn : (L.map (·.e.key)).Nodup) (c : Cel) : sumE (cput L c) = sumE L - csize (cfind L c.e.key) + esize c.e := by
  unfold cput
  cases hf : cfind L c.e.key with
  | some d =>
    have := sumE_mapput hn c (by rw [hf]; rfl)
    rw [hf] at this
    simpa using this
  | none => simp [sumE_append, sumE, csize]
theorem keys_mapput (L : List Cel) (c : Cel) : (L.map fun d => if d.e.key = c.e.key then c else d).map (·.e.key) = L.map (·.e.key) := by
  rw [List.map_map]
  refine List.map_congr_left fun d _ => ?_
  by_cases h : d.e.key = c.e.key <;> simp [h]
theorem keys_cput {L : List Cel} (hn : (L.map (·.e.key)).Nodup) (c : Cel) : ((cput L c).map (·.e.key)).Nodup := by
  unfold cput
  cases hf : cfind L c.e.key with
  | some d =>
    simp only [Option.isSome_some, if_true]
    rw [keys_mapput]
    exact hn
  | none =>
    have := cfind_none.1 hf
    simp only [Option.isSome_none, Bool.false_eq_true, if_false, List.map_append, List.map_cons, List.map_nil]
    rw [List.nodup_append]
    refine ⟨hn, by simp, fun a ha b hb => ?_⟩
    obtain ⟨d, hd, rfl⟩ := List.mem_map.1 ha
    simp only [List.mem_singleton] at hb
    rw [hb]
    exact this d hd
theorem length_cput (L : List Cel) (c : Cel) : (cput L c).length = L.length + (if (cfind L c.e.key).isSome then 0 else 1) := by
  unfold cput
  split <;> simp
theorem cfind_cput_self (L : List Cel) (c : Cel) : cfind (cput L c) c.e.key = some c := by
  unfold cput
  cases hf : cfind L c.e.key with
  | some d =>
    simp only [Option.isSome_some, if_true]
    have hs : (cfind L c.e.key).isSome := by rw [hf]; rfl
    clear hf
    have : ∀ L : List Cel, (cfind L c.e.key).isSome → cfind (L.map fun d => if d.e.key = c.e.key then c else d) c.e.key = some c := by
      intro L
      induction L with
      | nil => intro h; simp [cfind] at h
      | cons x L ih =>
        intro h
        rw [cfind_cons] at h
        rw [List.map_cons, cfind_cons]
        by_cases hx : x.e.key = c.e.key
        · simp [hx]
        · rw [if_neg hx] at h
          simp only [if_neg hx]
          exact ih h
    exact this L hs
  | none =>
    simp only [Option.isSome_none, Bool.false_eq_true, if_false]
    unfold cfind at *
    rw [List.find?_append, hf]
    simp
/-- What holds of a table behind at most N steps. -/
structure Inv (T : Tab) (N : Int) : Prop where
  keys : (T.L.map (·.e.key)).Nodup
  used : ∀ c ∈ T.L, 1 ≤ c.used ∧ c.used ≤ T.uses
  distinct : ∀ c ∈ T.L, ∀ d ∈ T.L, c.used = d.used → c = d
  bytes : T.bytes = sumE T.L
  size : ∀ c ∈ T.L, c.e.key.size ≤ 250 ∧ c.e.b.length ≤ 60000
  len : (T.L.length : Int) ≤ T.room.cells
  cells : T.room.cells ≤ 4096
  fits : T.bytes ≤ T.room.bytes
  room : T.room.bytes ≤ 4194304
  b0 : 1 ≤ T.room.buckets
  b1 : T.room.buckets ≤ 256
  toks : T.tok.length = T.room.buckets.toNat
  uses0 : 0 ≤ T.uses
  uses1 : T.uses ≤ N
  tok : ∀ t ∈ T.tok, 0 ≤ t ∧ t + T.L.length ≤ 1 + N
theorem Inv.bd {T : Tab} {N : Int} (h : Inv T N) (hN : N ≤ 1152921504606846976) : Bd T := by
  have h1 := h.uses0; have h2 := h.uses1; have h3 := h.fits; have h4 := h.room
  have h5 : 0 ≤ T.bytes := by rw [h.bytes]; exact sumE_nn _
  have h6 := h.b1
  refine ⟨h1, by omega, by omega, by omega, fun c hc => ?_, h.b0, by omega, h.toks, fun t ht => ?_⟩
  · have := h.size c hc; omega
  · have := h.tok t ht; omega
theorem Inv.mono {T : Tab} {N M : Int} (h : Inv T N) (hM : N ≤ M) : Inv T M :=
  { h with uses1 := Int.le_trans h.uses1 hM, tok := fun t ht => by have := h.tok t ht; omega }
theorem bumped_mem {tok : List Int} {i : Nat} {t : Int} (h : t ∈ bumped tok i) : t ∈ tok ∨ (i < tok.length ∧ t = tok.getD i 0 + 1 ∧ tok.getD i 0 ∈ tok) := by
  unfold bumped at h
  by_cases hi : i < tok.length
  · rcases List.mem_or_eq_of_mem_set h with h | h
    · exact .inl h
    · exact .inr ⟨hi, h, by rw [List.getD_eq_getElem?_getD, List.getElem?_eq_getElem hi]; exact List.getElem_mem hi⟩
  · rw [List.set_eq_of_length_le (by omega)] at h
    exact .inl h
theorem inv_dropped {T : Tab} {N : Int} (h : Inv T N) (k : ByteArray) : Inv (dropped hbucket T k) (N + (if (cfind T.L k).isSome then 0 else 1)) := by
  have hl := length_cdel h.keys k
  have hc : 0 ≤ csize (cfind T.L k) := by
    cases cfind T.L k with
    | none => exact Int.le_refl _
    | some c => exact esize_nn _
  have h2 := h.len; have h3 := h.fits; have h4 := h.uses1
  refine { keys := keys_cdel h.keys k, used := fun c hc => h.used c (mem_cdel hc), distinct := fun c hc d hd => h.distinct c (mem_cdel hc) d (mem_cdel hd), bytes := ?_, size := fun c hc => h.size c (mem_cdel hc), len := ?_, cells := h.cells, fits := ?_, room := h.room, b0 := h.b0, b1 := h.b1, toks := ?_, uses0 := h.uses0, uses1 := ?_, tok := ?_ }
  · show T.bytes - csize (cfind T.L k) = sumE (cdel T.L k)
    rw [sumE_cdel h.keys, h.bytes]
  · show ((cdel T.L k).length : Int) ≤ T.room.cells
    split at hl <;> omega
  · show T.bytes - csize (cfind T.L k) ≤ T.room.bytes
    omega
  · show (bumped T.tok _).length = _
    unfold bumped
    rw [List.length_set]
    exact h.toks
  · show T.uses ≤ _
    split <;> omega
  · intro t ht
    show 0 ≤ t ∧ t + ((cdel T.L k).length : Int) ≤ _
    rcases bumped_mem ht with ht | ⟨_, rfl, hm⟩
    · have := h.tok t ht
      split at hl <;> rename_i hh <;> simp only [hh, if_true, if_false, Bool.false_eq_true] <;> omega
    · have := h.tok _ hm
      split at hl <;> rename_i hh <;> simp only [hh, if_true, if_false, Bool.false_eq_true] <;> omega
theorem inv_laid {T : Tab} {N : Int} (h : Inv T N) (c : Cel) (hk : c.e.key.size ≤ 250) (hb : c.e.b.length ≤ 60000) (h1 : (T.L.length : Int) + (if (cfind T.L c.e.key).isSome then 0 else 1) ≤ T.room.cells)
    (h2 : T.bytes + (esize c.e - csize (cfind T.L c.e.key)) ≤ T.room.bytes) : Inv (laid T c) (N + 1) := by
  have hl := length_cput T.L { c with used := T.uses + 1 }
  have hl2 : (cput T.L { c with used := T.uses + 1 }).length = T.L.length + (if (cfind T.L c.e.key).isSome then 0 else 1) := hl
  have hu0 := h.uses0; have hu1 := h.uses1
  refine { keys := keys_cput h.keys _, used := ?_, distinct := ?_, bytes := ?_, size := ?_, len := ?_, cells := h.cells, fits := h2, room := h.room, b0 := h.b0, b1 := h.b1, toks := h.toks, uses0 := ?_, uses1 := ?_, tok := ?_ }
  · intro d hd
    rcases mem_cput hd with rfl | hd
    · show 1 ≤ T.uses + 1 ∧ T.uses + 1 ≤ T.uses + 1
      omega
    · have := h.used d hd
      show 1 ≤ d.used ∧ d.used ≤ T.uses + 1
      omega
  · intro d hd d' hd' e
    rcases mem_cput hd with rfl | hd <;> rcases mem_cput hd' with rfl | hd'
    · rfl
    · have h5 := (h.used d' hd').2
      have e' : T.uses + 1 = d'.used := e
      omega
    · have h5 := (h.used d hd).2
      have e' : d.used = T.uses + 1 := e
      omega
    · exact h.distinct d hd d' hd' e
  · show T.bytes + (esize c.e - csize (cfind T.L c.e.key)) = sumE (cput T.L { c with used := T.uses + 1 })
    rw [sumE_cput h.keys, h.bytes]
    show _ = sumE T.L - csize (cfind T.L c.e.key) + esize c.e
    omega
  · intro d hd
    rcases mem_cput hd with rfl | hd
    · exact ⟨hk, hb⟩
    · exact h.size d hd
  · show ((cput T.L { c with used := T.uses + 1 }).length : Int) ≤ T.room.cells
    rw [hl2]
    split at h1 <;> rename_i hh <;> simp only [hh, if_true, if_false, Bool.false_eq_true] <;> omega
  · show 0 ≤ T.uses + 1
    omega
  · show T.uses + 1 ≤ N + 1
    omega
  · intro t ht
    have := h.tok t ht
    show 0 ≤ t ∧ t + ((cput T.L { c with used := T.uses + 1 }).length : Int) ≤ 1 + (N + 1)
    rw [hl2]
    split <;> omega
theorem vict_mem {T : Tab} {ek : ByteArray} : ∀ (f : Nat) (out : List ByteArray) (n b : Int), ∀ k ∈ (vict T ek f out n b).1, k ∈ out ∨ ∃ c ∈ T.L, c.e.key = k := by
  intro f
  induction f with
  | zero => intro out n b k hk; exact .inl hk
  | succ f ih =>
    intro out n b k hk
    unfold vict at hk
    split at hk
    · split at hk
      · exact .inl hk
      · rename_i c hc
        rcases ih _ _ _ k hk with h | h
        · rcases List.mem_append.1 h with h | h
          · exact .inl h
          · simp only [List.mem_singleton] at h
            exact .inr ⟨c, (worst_mem hc).1, h.symm⟩
        · exact .inr h
    · exact .inl hk
theorem victims_mem {T : Tab} {e : Ent} : ∀ k ∈ (victims T e).1, ∃ c ∈ T.L, c.e.key = k := by
  intro k hk
  rcases vict_mem _ _ _ _ k hk with h | h
  · cases h
  · exact h
def made (T : Tab) (e : Ent) : Tab := if (victims T e).2 then (victims T e).1.foldl (dropped hbucket) T else T
end Go.Proofs.Ytibolfdgbbaclaa

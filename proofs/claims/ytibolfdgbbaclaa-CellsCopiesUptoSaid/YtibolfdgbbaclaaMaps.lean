/-
  What is proved: laws for a map whose keys are strings and whose elements are whatever values: a look-up, a store, a delete, len, told over the list of what the map holds.
  Conditions: none; no program in it.
-/
import Derived.Test.YtibolfdgbbaclaaBase
import Derived.MapKept
import Derived.Maps.RangeRun
import Derived.Maps.Own
namespace Go.Ice
open Go Go.RowKit Go.MapKept
open Go.ChangeMaps (setBlock)

abbrev Assoc := List (ByteArray × Value)
def aget (L : Assoc) (k : ByteArray) : Option Value := (L.find? fun p => decide (p.1 = k)).map (·.2)
def aset (L : Assoc) (k : ByteArray) (v : Value) : Assoc := L.map fun p => if p.1 = k then (p.1, v) else p
def aput (L : Assoc) (k : ByteArray) (v : Value) : Assoc := if (aget L k).isSome then aset L k v else L ++ [(k, v)]
def adel (L : Assoc) (k : ByteArray) : Assoc := L.filter fun p => decide (p.1 ≠ k)
def kv (p : ByteArray × Value) : Value × Value := (.string p.1, p.2)
/-- Block bm is a map that holds L. -/
def MapAt (w : World) (bm : Nat) (L : Assoc) : Prop :=
  ∃ es clock, w.heap[bm]? = some (.map es clock) ∧ Stamped es clock ∧ es.toList.map (fun e => (e.key, e.val)) = L.map kv

theorem MapAt.lt {w : World} {bm : Nat} {L : Assoc} (h : MapAt w bm L) : bm < w.heap.size := by
  obtain ⟨es, clock, hb, _⟩ := h
  exact (Array.getElem?_eq_some_iff.1 hb).1
theorem MapAt.of_block {w w' : World} {bm : Nat} {L : Assoc} (h : MapAt w bm L) (hb : w'.heap[bm]? = w.heap[bm]?) : MapAt w' bm L := by
  obtain ⟨es, clock, h1, h2⟩ := h
  exact ⟨es, clock, hb.trans h1, h2⟩
theorem MapAt.more {w : World} {bm : Nat} {L : Assoc} (h : MapAt w bm L) (e : Array Obj × Nat) : MapAt (more w e) bm L := h.of_block (more_block w e bm h.lt)
theorem mapAt_new (w : World) : MapAt (w.alloc (.map #[] 0)) w.heap.size [] := ⟨#[], 0, (heap_alloc w _).1, stamped_empty 0, by simp⟩

theorem kv_inj {p q : ByteArray × Value} (h : kv p = kv q) : p = q := by
  unfold kv at h
  simp only [Prod.mk.injEq, Value.string.injEq] at h
  exact Prod.ext h.1 h.2

theorem mapAt_keys {es : Array MapEntry} {clock : Nat} {L : Assoc} (hs : Stamped es clock) (hm : es.toList.map (fun e => (e.key, e.val)) = L.map kv) : (L.map (·.1)).Nodup := by
  have h1 : es.toList.map (·.key) = (L.map (·.1)).map Value.string := by
    have := congrArg (List.map Prod.fst) hm
    simpa [List.map_map, Function.comp_def, kv] using this
  have h2 : (es.toList.map (·.key)).Nodup := hs.2.2
  rw [h1] at h2
  exact List.Pairwise.of_map Value.string (fun a b hne e => hne (by rw [e])) h2
theorem MapAt.nodup {w : World} {bm : Nat} {L : Assoc} (h : MapAt w bm L) : (L.map (·.1)).Nodup := by
  obtain ⟨es, clock, _, h2, h3⟩ := h
  exact mapAt_keys h2 h3

theorem isKeys {es : Array MapEntry} {L : Assoc} (hm : es.toList.map (fun e => (e.key, e.val)) = L.map kv) : ∀ x ∈ es.toList, IsKey .string x.key := by
  intro x hx
  have : (x.key, x.val) ∈ L.map kv := hm ▸ List.mem_map.2 ⟨x, hx, rfl⟩
  obtain ⟨p, _, hp⟩ := List.mem_map.1 this
  unfold kv at hp
  simp only [Prod.mk.injEq] at hp
  rw [← hp.1]
  simp [IsKey]

/-- What 'findNow' tells, in the list's words. -/
theorem findNow_list (k : ByteArray) : ∀ (l : List MapEntry) (L : Assoc) (i : Nat), l.map (fun e => (e.key, e.val)) = L.map kv →
    (aget L k = none ∧ Instr.findNow .string (.string k) l i = some none) ∨
    ∃ j v, aget L k = some v ∧ Instr.findNow .string (.string k) l i = some (some (i + j, v)) ∧ L[j]? = some (k, v) ∧ ∃ e, l[j]? = some e ∧ e.key = .string k
  | [], [], _, _ => .inl ⟨rfl, rfl⟩
  | [], _ :: _, _, h => by simp at h
  | _ :: _, [], _, h => by simp at h
  | e :: l, p :: L, i, h => by
    simp only [List.map_cons, List.cons.injEq] at h
    obtain ⟨h1, h2⟩ := h
    unfold kv at h1
    simp only [Prod.mk.injEq] at h1
    by_cases hk : p.1 = k
    · subst hk
      refine .inr ⟨0, p.2, by simp [aget], ?_, rfl, e, rfl, h1.1⟩
      have : (p.1 == p.1) = true := (bytes_beq _ _).2 rfl
      simp [Instr.findNow, h1.1, Instr.sameNow, this, h1.2]
    · have hne : (k == p.1) = false := by
        rw [Bool.eq_false_iff]
        intro hh
        exact hk ((bytes_beq _ _).1 hh).symm
      have ha : aget (p :: L) k = aget L k := by simp [aget, hk]
      rcases findNow_list k l L (i + 1) h2 with ⟨g1, g2⟩ | ⟨j, v, g1, g2, g3, e', g4, g5⟩
      · exact .inl ⟨by rw [ha]; exact g1, by simp [Instr.findNow, h1.1, Instr.sameNow, hne, g2]⟩
      · exact .inr ⟨j + 1, v, by rw [ha]; exact g1, by simp [Instr.findNow, h1.1, Instr.sameNow, hne, g2]; omega, by simpa using g3, e', by simpa using g4, g5⟩

section
variable {P : Program} {w : World} {bm : Nat} {L : Assoc} {t kt et : TypeId}

def lookV (ok : Bool) (z : Value) (r : Option Value) : Value := if ok then .tuple #[r.getD z, .bool r.isSome] else r.getD z

theorem run_lookup_at (ht : P.underlying t = some (.map kt et)) (hk : P.underlying kt = some .string) {z : Value} (hz : (zeroValue et).run P w = .ok z w) (h : MapAt w bm L) (k : ByteArray) (ok : Bool) :
    (Instr.lookup t (.map (some bm)) (.string k) ok).run P w = .ok (lookV ok z (aget L k)) w := by
  obtain ⟨es, clock, hb, hs, hm⟩ := h
  have hck := run_checkKey (P := P) (w := w) (kt := kt) (d := .string) (k := .string k) hk (by simp [IsKey]) es.isEmpty 9999
  have hfk := fun a => run_findKey (P := P) (w := w) (kt := kt) (d := .string) (k := .string k) (l := es.toList) (a := a) hk
  rcases findNow_list k es.toList L 0 hm with ⟨g1, g2⟩ | ⟨j, v, g1, g2, _, _⟩
  · have hf := hfk _ g2
    simp only [Instr.lookup, Sem.run_bind, run_underlying ht, Result.andThen, MapKept.run_getObj_map hb, Sem.run_pure, hck, hf, hz]
    cases ok <;> simp [lookV, g1]
  · have hf := hfk _ g2
    simp only [Instr.lookup, Sem.run_bind, run_underlying ht, Result.andThen, MapKept.run_getObj_map hb, Sem.run_pure, hck, hf]
    cases ok <;> simp [lookV, g1]

theorem run_lookup_nil (ht : P.underlying t = some (.map kt et)) (hk : P.underlying kt = some .string) {z : Value} (hz : (zeroValue et).run P w = .ok z w) (k : ByteArray) (ok : Bool) :
    (Instr.lookup t (.map none) (.string k) ok).run P w = .ok (lookV ok z none) w := by
  have hck := run_checkKey (P := P) (w := w) (kt := kt) (d := .string) (k := .string k) hk (by simp [IsKey]) true 9999
  have hf := run_findKey (P := P) (w := w) (kt := kt) (d := .string) (k := .string k) (l := []) (a := none) hk rfl
  simp only [Instr.lookup, Sem.run_bind, run_underlying ht, Result.andThen, Sem.run_pure]
  simp only [show (#[] : Array MapEntry).isEmpty = true from rfl, hck, hf]
  cases ok <;> simp [lookV, hz]

theorem aset_at : ∀ (L : Assoc) (j : Nat) (k : ByteArray) (v v' : Value), (L.map (·.1)).Nodup → L[j]? = some (k, v') → aset L k v = L.set j (k, v)
  | [], _, _, _, _, _, h => by simp at h
  | p :: L, 0, k, v, v', hn, h => by
    simp only [List.getElem?_cons_zero, Option.some.injEq] at h
    subst h
    simp only [aset, List.map_cons, if_true, List.set_cons_zero, List.cons.injEq, true_and]
    simp only [List.map_cons, List.nodup_cons] at hn
    conv => rhs; rw [← List.map_id L]
    refine List.map_congr_left fun q hq => ?_
    have : q.1 ≠ k := fun e => hn.1 (List.mem_map.2 ⟨q, hq, e⟩)
    simp [this]
  | p :: L, j + 1, k, v, v', hn, h => by
    simp only [List.map_cons, List.nodup_cons] at hn
    have h' : L[j]? = some (k, v') := by simpa using h
    have hne : p.1 ≠ k := fun e => hn.1 (List.mem_map.2 ⟨_, List.mem_of_getElem? h', e.symm⟩)
    have ih := aset_at L j k v v' hn.2 h'
    simp only [aset, List.map_cons, hne, if_false, List.set_cons_succ, List.cons.injEq, true_and]
    exact ih

theorem run_update_at (ht : P.underlying t = some (.map kt et)) (hk : P.underlying kt = some .string) (h : MapAt w bm L) (k : ByteArray) (v : Value) :
    ∃ w', (Instr.mapUpdate t (.map (some bm)) (.string k) v).run P w = .ok () w' ∧ MapAt w' bm (aput L k v) ∧ w.grownBy w' (some bm) ∧ w'.heap.size = w.heap.size := by
  obtain ⟨es, clock, hb, hs, hm⟩ := h
  have hlt : bm < w.heap.size := (Array.getElem?_eq_some_iff.1 hb).1
  have hck := run_checkKey (P := P) (w := w) (kt := kt) (d := .string) (k := .string k) hk (by simp [IsKey]) false 9999
  have hfk := fun a => run_findKey (P := P) (w := w) (kt := kt) (d := .string) (k := .string k) (l := es.toList) (a := a) hk
  have hnd := mapAt_keys hs hm
  rcases findNow_list k es.toList L 0 hm with ⟨g1, g2⟩ | ⟨j, v0, g1, g2, g3, e, g4, g5⟩
  · have hf := hfk _ g2
    have hne : ∀ x ∈ es.toList, x.key ≠ .string k := by
      intro x hx hxk
      have : (x.key, x.val) ∈ L.map kv := hm ▸ List.mem_map.2 ⟨x, hx, rfl⟩
      obtain ⟨p, hp, hpk⟩ := List.mem_map.1 this
      unfold kv at hpk
      simp only [Prod.mk.injEq, hxk, Value.string.injEq] at hpk
      unfold aget at g1
      simp only [Option.map_eq_none_iff, List.find?_eq_none, decide_eq_true_eq] at g1
      exact g1 p hp hpk.1
    refine ⟨{ w with heap := w.heap.setIfInBounds bm (.map (es.push { key := .string k, val := v, born := clock }) (clock + 1)) }, ?_, ⟨_, _, (heap_set hb).1, stamped_push hs hne, ?_⟩, ?_, by simp⟩
    · simp only [Instr.mapUpdate, Sem.run_bind, run_underlying ht, Result.andThen, MapKept.run_getObj_map hb, hck, hf, MapKept.run_setObj_map _ hb]
    · simp [aput, g1, hm, kv]
    · exact ⟨rfl, rfl, rfl, by simp, fun i hi hne' => (heap_set hb).2 i (fun e => hne' (by rw [e]))⟩
  · have hf := hfk _ g2
    have hj : es[j]? = some e := by simpa using g4
    have hkeep : (Instr.keyThatStays (((es[j]?).map (·.key)).getD (.string k)) (.string k)).run P w = .ok (.string k) w := by
      have hkk : (k == k) = true := (bytes_beq _ _).2 rfl
      simp [hj, g5, Instr.keyThatStays, Instr.sameBits, hkk]
    refine ⟨{ w with heap := w.heap.setIfInBounds bm (.map (es.modify j fun e => { e with key := .string k, val := v }) clock) }, ?_, ⟨_, _, (heap_set hb).1, ?_, ?_⟩, ?_, by simp⟩
    · simp only [Instr.mapUpdate, Sem.run_bind, run_underlying ht, Result.andThen, MapKept.run_getObj_map hb, hck, hf, Nat.zero_add, hkeep, MapKept.run_setObj_map _ hb]
    · exact stamped_modify hs j _ (fun e' _ => rfl) (fun e' _ he' => by
        rw [hj] at he'
        cases he'
        exact g5.symm)
    · have hset : aput L k v = L.set j (k, v) := by
        unfold aput
        rw [g1]
        simp only [Option.isSome_some, if_true]
        exact aset_at L j k v v0 hnd g3
      rw [hset, List.map_set, ← hm]
      simp only [kv]
      apply List.ext_getElem?
      intro i
      simp only [List.getElem?_map, Array.getElem?_toList, Array.getElem?_modify, List.getElem?_set, List.length_map, Array.length_toList]
      have hjl : j < es.size := (Array.getElem?_eq_some_iff.1 hj).1
      by_cases hij : j = i
      · subst hij
        simp [hjl]
      · simp [hij]
    · exact ⟨rfl, rfl, rfl, by simp, fun i hi hne' => (heap_set hb).2 i (fun e => hne' (by rw [e]))⟩

theorem adel_none (L : Assoc) (k : ByteArray) (h : aget L k = none) : adel L k = L := by
  unfold aget at h
  simp only [Option.map_eq_none_iff, List.find?_eq_none, decide_eq_true_eq] at h
  exact List.filter_eq_self.2 fun p hp => by simpa using h p hp
theorem adel_at : ∀ (L : Assoc) (j : Nat) (k : ByteArray) (v' : Value), (L.map (·.1)).Nodup → L[j]? = some (k, v') → adel L k = L.eraseIdx j
  | [], _, _, _, _, h => by simp at h
  | p :: L, 0, k, v', hn, h => by
    simp only [List.getElem?_cons_zero, Option.some.injEq] at h
    subst h
    simp only [List.map_cons, List.nodup_cons] at hn
    simp only [adel, List.eraseIdx_cons_zero]
    rw [List.filter_cons_of_neg (by simp)]
    exact List.filter_eq_self.2 fun q hq => by
      have : q.1 ≠ k := fun e => hn.1 (List.mem_map.2 ⟨q, hq, e⟩)
      simpa using this
  | p :: L, j + 1, k, v', hn, h => by
    simp only [List.map_cons, List.nodup_cons] at hn
    have h' : L[j]? = some (k, v') := by simpa using h
    have hne : p.1 ≠ k := fun e => hn.1 (List.mem_map.2 ⟨_, List.mem_of_getElem? h', e.symm⟩)
    have ih := adel_at L j k v' hn.2 h'
    simp only [adel, List.eraseIdx_cons_succ]
    rw [List.filter_cons_of_pos (by simpa using hne)]
    exact congrArg _ ih

theorem run_delete_at (ht : P.underlying t = some (.map kt et)) (hk : P.underlying kt = some .string) (h : MapAt w bm L) (k : ByteArray) (ts : Array TypeId) (ty : TypeId) (h0 : ts[0]? = some t) :
    ∃ w', (Builtin.delete_ ts ty #[.map (some bm), .string k]).run P w = .ok (.tuple #[]) w' ∧ MapAt w' bm (adel L k) ∧ w.grownBy w' (some bm) ∧ w'.heap.size = w.heap.size := by
  obtain ⟨es, clock, hb, hs, hm⟩ := h
  have hck := run_checkKey (P := P) (w := w) (kt := kt) (d := .string) (k := .string k) hk (by simp [IsKey]) es.isEmpty 9999
  have hfk := fun a => run_findKey (P := P) (w := w) (kt := kt) (d := .string) (k := .string k) (l := es.toList) (a := a) hk
  have hnd := mapAt_keys hs hm
  rcases findNow_list k es.toList L 0 hm with ⟨g1, g2⟩ | ⟨j, v0, g1, g2, g3, e, g4, g5⟩
  · have hf := hfk _ g2
    refine ⟨{ w with heap := w.heap.setIfInBounds bm (.map es clock) }, ?_, ⟨_, _, (heap_set hb).1, hs, ?_⟩, ?_, by simp⟩
    · simp only [Builtin.delete_, h0, List.getElem?_toArray, List.getElem?_cons_zero, List.getElem?_cons_succ, Sem.run_bind, run_underlying ht, Result.andThen, MapKept.run_getObj_map hb, hck, hf, MapKept.run_setObj_map _ hb, Sem.run_pure]
    · rw [adel_none L k g1]; exact hm
    · exact ⟨rfl, rfl, rfl, by simp, fun i hi hne' => (heap_set hb).2 i (fun e => hne' (by rw [e]))⟩
  · have hf := hfk _ g2
    have hj : es[j]? = some e := by simpa using g4
    have hjl : j < es.size := (Array.getElem?_eq_some_iff.1 hj).1
    refine ⟨{ w with heap := w.heap.setIfInBounds bm (.map (es.eraseIdxIfInBounds j) clock) }, ?_, ⟨_, _, (heap_set hb).1, stamped_erase hs j, ?_⟩, ?_, by simp⟩
    · simp only [Builtin.delete_, h0, List.getElem?_toArray, List.getElem?_cons_zero, List.getElem?_cons_succ, Sem.run_bind, run_underlying ht, Result.andThen, MapKept.run_getObj_map hb, hck, hf, Nat.zero_add, MapKept.run_setObj_map _ hb, Sem.run_pure]
    · rw [adel_at L j k v0 hnd g3]
      have he : (es.eraseIdxIfInBounds j).toList = es.toList.eraseIdx j := by
        unfold Array.eraseIdxIfInBounds
        rw [dif_pos hjl]
        simp
      rw [he, Go.ChangeMaps.map_eraseIdx, Go.ChangeMaps.map_eraseIdx, hm]
    · exact ⟨rfl, rfl, rfl, by simp, fun i hi hne' => (heap_set hb).2 i (fun e => hne' (by rw [e]))⟩

theorem run_len_at (ht : P.underlying t = some (.map kt et)) (h : MapAt w bm L) (ts : Array TypeId) (ty : TypeId) (h0 : ts[0]? = some t) :
    (Builtin.len_ ts ty #[.map (some bm)]).run P w = .ok (.int .i64 L.length) w := by
  obtain ⟨es, clock, hb, hs, hm⟩ := h
  have hl : es.size = L.length := by simpa using congrArg List.length hm
  simp only [Builtin.len_, h0, List.getElem?_toArray, List.getElem?_cons_zero, Sem.run_bind, run_underlying ht, Result.andThen, MapKept.run_getObj_map hb, Sem.run_pure, goInt, hl]
end
end Go.Ice

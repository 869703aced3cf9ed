/-
  What is proved: laws for a range loop over a map whose keys are strings and whose elements are whatever values.
  Conditions: none; no program in it.
-/
import Derived.Test.YtibolfdgbbaclaaMapLaws
import Derived.Maps.RangeRun
namespace Go.Ice
open Go Go.RowKit Go.MapKept
open Go.ChangeMaps (setBlock)
/-- A range loop under way over the map bm, which holds L; its iterator is block r; 'seen': the keys that came out. -/
def Rng (w : World) (r bm : Nat) (L : Assoc) (seen : List ByteArray) : Prop :=
  ∃ es clock since sn c0, w.heap[bm]? = some (.map es clock) ∧ Stamped es clock ∧ es.toList.map (fun e => (e.key, e.val)) = L.map kv ∧ w.heap[r]? = some (.mapIter (some bm) since sn c0) ∧
    (∀ x ∈ es.toList, x.born < since) ∧ since ≤ c0 ∧ since ≤ clock ∧ (∀ x ∈ es.toList, ∀ k, x.key = .string k → (sn.contains x.born = true ↔ k ∈ seen))
variable {P : Program} {w : World} {r bm : Nat} {L : Assoc} {seen : List ByteArray} {t kt et : TypeId}
theorem Rng.mapAt (h : Rng w r bm L seen) : MapAt w bm L := by
  obtain ⟨es, clock, _, _, _, h1, h2, h3, _⟩ := h
  exact ⟨es, clock, h1, h2, h3⟩
theorem Rng.lt (h : Rng w r bm L seen) : r < w.heap.size ∧ bm < w.heap.size := by
  obtain ⟨es, clock, _, _, _, h1, h2, h3, h4, _⟩ := h
  exact ⟨(Array.getElem?_eq_some_iff.1 h4).1, (Array.getElem?_eq_some_iff.1 h1).1⟩
theorem Rng.ne (h : Rng w r bm L seen) : r ≠ bm := by
  obtain ⟨es, clock, _, _, _, h1, h2, h3, h4, _⟩ := h
  intro e
  rw [e, h1] at h4
  cases h4
theorem Rng.of_block {w' : World} (h : Rng w r bm L seen) (h1 : w'.heap[bm]? = w.heap[bm]?) (h2 : w'.heap[r]? = w.heap[r]?) : Rng w' r bm L seen := by
  obtain ⟨es, clock, since, sn, c0, a, b, c, d, e⟩ := h
  exact ⟨es, clock, since, sn, c0, h1.trans a, b, c, h2.trans d, e⟩
theorem Rng.kept {w' : World} {S : Nat → Prop} (h : Rng w r bm L seen) (hk : Kept S w w') (h1 : ¬ S bm) (h2 : ¬ S r) : Rng w' r bm L seen := h.of_block (hk.block bm h.lt.2 h1) (hk.block r h.lt.1 h2)
theorem Rng.more (h : Rng w r bm L seen) (e : Array Obj × Nat) : Rng (more w e) r bm L seen := h.of_block (more_block w e bm h.lt.2) (more_block w e r h.lt.1)
theorem Rng.alloc (h : Rng w r bm L seen) (o : Obj) : Rng (w.alloc o) r bm L seen := h.of_block (Below.heap_alloc w o bm h.lt.2) (Below.heap_alloc w o r h.lt.1)
theorem Rng.drew (h : Rng w r bm L seen) : Rng w.drew r bm L seen := h
theorem Rng.drewN (h : Rng w r bm L seen) (n : Nat) : Rng (w.drewN n) r bm L seen := h
theorem Rng.setCell (h : Rng w r bm L seen) {p : Addr} (h1 : bm ≠ p.block) (h2 : r ≠ p.block) (u : Value) : Rng (w.setCell p u) r bm L seen := h.of_block (Below.heap_setCell w p u bm h1) (Below.heap_setCell w p u r h2)
theorem key_inj : ∀ {l : List MapEntry}, l.Pairwise (fun x y => x.key ≠ y.key) → ∀ {x y : MapEntry}, x ∈ l → y ∈ l → x.key = y.key → x = y
  | [], _, _, _, hx, _, _ => by simp at hx
  | a :: l, hp, x, y, hx, hy, h => by
    obtain ⟨h1, h2⟩ := List.pairwise_cons.1 hp
    rcases List.mem_cons.1 hx with rfl | hx2
    · rcases List.mem_cons.1 hy with rfl | hy
      · rfl
      · exact absurd h (h1 y hy)
    · rcases List.mem_cons.1 hy with hy | hy
      · subst hy
        exact absurd h.symm (h1 x hx2)
      · exact key_inj h2 hx2 hy h
open Classical in
/-- How many are still to come. -/
noncomputable def leftL (L : Assoc) (seen : List ByteArray) : Nat := (L.filter fun (p : ByteArray × Value) => decide (p.1 ∉ seen)).length
open Classical in
theorem leftL_lt {L : Assoc} {seen : List ByteArray} {k : ByteArray} {v : Value} (h : (k, v) ∈ L) (hs : k ∉ seen) : leftL L (k :: seen) < leftL L seen := by
  unfold leftL
  have hsub : (L.filter fun (p : ByteArray × Value) => decide (p.1 ∉ k :: seen)) = ((L.filter fun (p : ByteArray × Value) => decide (p.1 ∉ seen)).filter fun (p : ByteArray × Value) => decide (p.1 ≠ k)) := by
    rw [List.filter_filter]
    refine List.filter_congr fun p _ => ?_
    by_cases h1 : p.1 = k <;> by_cases h2 : p.1 ∈ seen <;> simp [h1, h2, List.mem_cons]
  rw [hsub]
  refine List.length_filter_lt_length_iff_exists.2 ⟨(k, v), List.mem_filter.2 ⟨h, by simpa using hs⟩, by simp⟩
theorem rng_start (ht : P.underlying t = some (.map kt et)) (h : MapAt w bm L) :
    (Instr.range t (.map (some bm))).run P w = .ok (.pointer (some ⟨w.heap.size, 0, none⟩)) (w.alloc (.mapIter (some bm) (Classical.choose (Classical.choose_spec h)) #[] (Classical.choose (Classical.choose_spec h)))) ∧
      Rng (w.alloc (.mapIter (some bm) (Classical.choose (Classical.choose_spec h)) #[] (Classical.choose (Classical.choose_spec h)))) w.heap.size bm L [] := by
  have hs := Classical.choose_spec (Classical.choose_spec h)
  revert hs
  generalize Classical.choose (Classical.choose_spec h) = clock
  intro ⟨h1, h2, h3⟩
  have hlt := h.lt
  refine ⟨run_range_map w t kt et bm _ clock ht h1, _, clock, clock, #[], clock, (Below.heap_alloc w _ bm hlt).trans h1, h2, h3, heap_alloc_new w _, h2.1, Nat.le_refl _, Nat.le_refl _, fun x hx k hk => by simp⟩
theorem rng_next (h : Rng w r bm L seen) (ty : TypeId) :
    ((∀ p ∈ L, p.1 ∈ seen) ∧ (Instr.next (.pointer (some ⟨r, 0, none⟩)) false ty).run P w = .ok (.tuple #[.bool false]) w) ∨
    ∃ k v w', (k, v) ∈ L ∧ k ∉ seen ∧ (Instr.next (.pointer (some ⟨r, 0, none⟩)) false ty).run P w = .ok (.tuple #[.bool true, .string k, v]) w' ∧ Rng w' r bm L (k :: seen) ∧ Kept (fun b => b = r) w w' ∧ w'.heap.size = w.heap.size ∧
      (Instr.entry (.pointer (some ⟨r, 0, none⟩))).run P w' = .ok (.tuple #[.string k, v]) w' := by
  have hne := h.ne
  obtain ⟨es, clock, since, sn, c0, h1, h2, h3, h4, h5, h6, h7, h8⟩ := h
  rcases run_next_at (P := P) w ty r bm since c0 sn es clock h4 h1 h5 h6 with ⟨g1, g2⟩ | ⟨e, he, w1, hw1, g2⟩
  · refine .inl ⟨fun p hp => ?_, g2⟩
    have : kv p ∈ es.toList.map fun e => (e.key, e.val) := h3 ▸ List.mem_map.2 ⟨p, hp, rfl⟩
    obtain ⟨x, hx, hxp⟩ := List.mem_map.1 this
    unfold kv at hxp
    simp only [Prod.mk.injEq] at hxp
    exact (h8 x hx p.1 hxp.1).1 (all_seen es sn g1 x hx)
  · obtain ⟨hem, hsn⟩ := mem_left he
    have hkv : (e.key, e.val) ∈ L.map kv := h3 ▸ List.mem_map.2 ⟨e, hem, rfl⟩
    obtain ⟨⟨k, v⟩, hp, hpe⟩ := List.mem_map.1 hkv
    unfold kv at hpe
    simp only [Prod.mk.injEq] at hpe
    obtain ⟨hk, hv⟩ := hpe
    have hr1 : w1.heap[r]? = some (.mapIter (some bm) since sn c0) := by rcases hw1 with rfl | rfl <;> exact h4
    have hb1 : w1.heap[bm]? = some (.map es clock) := by rcases hw1 with rfl | rfl <;> exact h1
    have hset := heap_set (o' := .mapIter (some bm) since (sn.push e.born) clock) hr1
    have hb' : (setBlock w1 r (.mapIter (some bm) since (sn.push e.born) clock)).heap[bm]? = some (.map es clock) := (hset.2 bm (fun e1 => hne e1.symm)).trans hb1
    refine .inr ⟨k, v, _, hp, ?_, by rw [g2, ← hk, ← hv], ⟨es, clock, since, sn.push e.born, clock, hb', h2, h3, hset.1, h5, h7, h7, fun x hx k' hk' => ?_⟩, ?_, ?_, ?_⟩
    · intro hks
      have := (h8 e hem k hk.symm).2 hks
      rw [hsn] at this
      cases this
    · rw [contains_push]
      simp only [Bool.or_eq_true, beq_iff_eq, List.mem_cons]
      rw [h8 x hx k' hk']
      constructor
      · rintro (h | h)
        · exact .inr h
        · left
          obtain rfl := born_inj ((stamped_iff es clock).1 h2).2.1 hx hem h
          have := hk.trans hk'
          simpa using this.symm
      · rintro (h | h)
        · right
          by_cases hxe : x = e
          · rw [hxe]
          · exact absurd (key_inj ((stamped_iff es clock).1 h2).2.2 hx hem (hk'.trans (by rw [h, hk]))) hxe
        · exact .inl h
    · have hg : w.grownBy (setBlock w1 r (.mapIter (some bm) since (sn.push e.born) clock)) (some r) := by
        rcases hw1 with rfl | rfl <;> exact ⟨rfl, rfl, rfl, by simp [setBlock], fun i _ hi => hset.2 i (fun e1 => hi (by rw [e1]))⟩
      exact (Kept.refl _ w).grown hg (fun b hb => .inl (by cases hb; rfl))
    · rcases hw1 with rfl | rfl <;> simp [setBlock]
    · have := run_entry_at (P := P) _ r bm since sn es clock e hset.1 hb' hem ((stamped_iff es clock).1 h2).2.1
      rw [this, ← hk, ← hv]
/-- A store at a key that is there. -/
theorem rng_update (ht : P.underlying t = some (.map kt et)) (hkt : P.underlying kt = some .string) (h : Rng w r bm L seen) (k : ByteArray) (v v0 : Value) (hk : aget L k = some v0) :
    ∃ w', (Instr.mapUpdate t (.map (some bm)) (.string k) v).run P w = .ok () w' ∧ Rng w' r bm (aput L k v) seen ∧ Kept (fun b => b = bm) w w' ∧ w'.heap.size = w.heap.size := by
  have hne := h.ne
  obtain ⟨es, clock, since, sn, c0, hb, hs, hm, h4, h5, h6, h7, h8⟩ := h
  have hck := run_checkKey (P := P) (w := w) (kt := kt) (d := .string) (k := .string k) hkt (by simp [IsKey]) false 9999
  have hfk := fun a => run_findKey (P := P) (w := w) (kt := kt) (d := .string) (k := .string k) (l := es.toList) (a := a) hkt
  have hnd := mapAt_keys hs hm
  rcases findNow_list k es.toList L 0 hm with ⟨g1, g2⟩ | ⟨j, v0, g1, g2, g3, e, g4, g5⟩
  · rw [g1] at hk; cases hk
  · have hf := hfk _ g2
    have hj : es[j]? = some e := by simpa using g4
    have hkeep : (Instr.keyThatStays (((es[j]?).map (·.key)).getD (.string k)) (.string k)).run P w = .ok (.string k) w := by
      have hkk : (k == k) = true := (bytes_beq _ _).2 rfl
      simp [hj, g5, Instr.keyThatStays, Instr.sameBits, hkk]
    have hmem : ∀ x ∈ (es.modify j fun e => { e with key := .string k, val := v }).toList, ∃ y ∈ es.toList, y.key = x.key ∧ y.born = x.born := by
      intro x hx
      obtain ⟨i, hi⟩ := List.getElem?_of_mem hx
      simp only [Array.getElem?_toList, Array.getElem?_modify] at hi
      by_cases hij : j = i
      · subst hij
        rw [if_pos rfl, hj] at hi
        simp only [Option.map_some, Option.some.injEq] at hi
        subst hi
        exact ⟨e, Array.mem_toList_iff.2 (Array.mem_of_getElem? hj), g5, rfl⟩
      · rw [if_neg hij] at hi
        exact ⟨x, Array.mem_toList_iff.2 (Array.mem_of_getElem? hi), rfl, rfl⟩
    refine ⟨{ w with heap := w.heap.setIfInBounds bm (.map (es.modify j fun e => { e with key := .string k, val := v }) clock) }, ?_, ⟨_, clock, since, sn, c0, (heap_set hb).1, ?_, ?_, ((heap_set hb).2 r hne).trans h4, ?_, h6, h7, ?_⟩, ?_, by simp⟩
    · simp only [Instr.mapUpdate, Sem.run_bind, run_underlying ht, Result.andThen, MapKept.run_getObj_map hb, hck, hf, Nat.zero_add, hkeep, MapKept.run_setObj_map _ hb]
    · exact stamped_modify hs j _ (fun e' _ => rfl) (fun e' _ he' => by
        rw [hj] at he'
        cases he'
        exact g5.symm)
    · have hset : aput L k v = L.set j (k, v) := by
        unfold aput
        rw [g1]
        simp only [Option.isSome_some, if_true]
        exact aset_at L j k v v0 hnd g3
      rw [hset, List.map_set, ← hm]
      simp only [kv]
      apply List.ext_getElem?
      intro i
      simp only [List.getElem?_map, Array.getElem?_toList, Array.getElem?_modify, List.getElem?_set, List.length_map, Array.length_toList]
      have hjl : j < es.size := (Array.getElem?_eq_some_iff.1 hj).1
      by_cases hij : j = i
      · subst hij
        simp [hjl]
      · simp [hij]
    · intro x hx
      obtain ⟨y, hy, _, hb'⟩ := hmem x hx
      rw [← hb']
      exact h5 y hy
    · intro x hx k' hk'
      obtain ⟨y, hy, ha, hb'⟩ := hmem x hx
      rw [← hb']
      exact h8 y hy k' (ha.trans hk')
    · have hg : w.grownBy { w with heap := w.heap.setIfInBounds bm (.map (es.modify j fun e => { e with key := .string k, val := v }) clock) } (some bm) := ⟨rfl, rfl, rfl, by simp, fun i hi hne' => (heap_set hb).2 i (fun e => hne' (by rw [e]))⟩
      exact (Kept.refl _ w).grown hg (fun b hb => .inl (by cases hb; rfl))
section
variable {a : Act} {o : Oper} {ops : Array Oper} {Qx : Exit → Act → World → Prop} {lrest : List Oper}
theorem wpList_range' (hg : o.guard = none) (t kt et : TypeId) (m : Operand) (hop : o.op = .range t m) (bm : Nat) (hm : a.eval m = .map (some bm)) (ht : P.underlying t = some (.map kt et)) (L : Assoc) (hM : MapAt w bm L)
    (h : ∀ w', Rng w' w.heap.size bm L [] → Below w.heap.size w w' → w'.heap.size = w.heap.size + 1 → wpList P ops Qx lrest (a.put o.dst (.pointer (some ⟨w.heap.size, 0, none⟩))) w') : wpList P ops Qx (o :: lrest) a w := by
  refine wpList_plain hg fun K hK => ?_
  obtain ⟨hr, hR⟩ := rng_start (P := P) ht hM
  unfold Oper.wp
  simp only [execOp, hop, hm, Sem.run_bind, hr, Result.andThen, Sem.run_pure, Oper.upon]
  exact hK _ _ (h _ hR ((Below.refl _ _).alloc (Nat.le_refl _) _) (Array.size_push _))
theorem wpList_next' (hg : o.guard = none) (it : Operand) (hop : o.op = .next it false) (r bm : Nat) (hm : a.eval it = .pointer (some ⟨r, 0, none⟩)) (L : Assoc) (seen : List ByteArray) (hR : Rng w r bm L seen)
    (h0 : (∀ p ∈ L, p.1 ∈ seen) → wpList P ops Qx lrest (a.put o.dst (.tuple #[.bool false])) w)
    (h : ∀ k v w', (k, v) ∈ L → k ∉ seen → Rng w' r bm L (k :: seen) → Kept (fun b => b = r) w w' → w'.heap.size = w.heap.size → (Instr.entry (.pointer (some ⟨r, 0, none⟩))).run P w' = .ok (.tuple #[.string k, v]) w' →
      wpList P ops Qx lrest (a.put o.dst (.tuple #[.bool true, .string k, v])) w') : wpList P ops Qx (o :: lrest) a w := by
  refine wpList_plain hg fun K hK => ?_
  unfold Oper.wp
  rcases rng_next (P := P) hR o.type with ⟨g1, g2⟩ | ⟨k, v, w', g1, g2, g3, g4, g5, g6, g7⟩
  · simp only [execOp, hop, hm, Sem.run_bind, g2, Result.andThen, Sem.run_pure, Oper.upon]
    exact hK _ _ (h0 g1)
  · simp only [execOp, hop, hm, Sem.run_bind, g3, Result.andThen, Sem.run_pure, Oper.upon]
    exact hK _ _ (h k v w' g1 g2 g4 g5 g6 g7)
theorem wpList_entry' (hg : o.guard = none) (it : Operand) (hop : o.op = .entry it) (r : Nat) (hm : a.eval it = .pointer (some ⟨r, 0, none⟩)) (k : ByteArray) (v : Value) (he : (Instr.entry (.pointer (some ⟨r, 0, none⟩))).run P w = .ok (.tuple #[.string k, v]) w)
    (h : wpList P ops Qx lrest (a.put o.dst (.tuple #[.string k, v])) w) : wpList P ops Qx (o :: lrest) a w := by
  refine wpList_plain hg fun K hK => ?_
  unfold Oper.wp
  simp only [execOp, hop, hm, Sem.run_bind, he, Result.andThen, Sem.run_pure, Oper.upon]
  exact hK _ _ h
theorem wpList_updateR (hg : o.guard = none) (t kt et : TypeId) (m x y : Operand) (hop : o.op = .mapUpdate t m x y) (bm r : Nat) (k : ByteArray) (val : Value) (hm : a.eval m = .map (some bm)) (hx : a.eval x = .string k) (hy : a.eval y = val)
    (ht : P.underlying t = some (.map kt et)) (hk : P.underlying kt = some .string) (L : Assoc) (seen : List ByteArray) (hR : Rng w r bm L seen) (v0 : Value) (hv0 : aget L k = some v0)
    (h : ∀ w', Rng w' r bm (aput L k val) seen → Kept (fun b => b = bm) w w' → w'.heap.size = w.heap.size → wpList P ops Qx lrest (a.put o.dst undef) w') : wpList P ops Qx (o :: lrest) a w := by
  refine wpList_plain hg fun K hK => ?_
  obtain ⟨w', hr, h1, h2, h3⟩ := rng_update (P := P) ht hk hR k val v0 hv0
  unfold Oper.wp
  simp only [execOp, hop, hm, hx, hy, Sem.run_bind, hr, Result.andThen, Sem.run_pure, Oper.upon]
  exact hK _ _ (h w' h1 h2 h3)
theorem mix_updateR {l l' : List Oper} {i : Nat} {rest : List (Nat × Bool)} {Q : Act → World → Prop} (ho' : l.drop i = o :: l') (hg : o.guard = none) (hb : bar .any l.toArray i = true) (t kt et : TypeId) (m x y : Operand) (hop : o.op = .mapUpdate t m x y) (bm r : Nat) (k : ByteArray) (val : Value) (hm : a.eval m = .map (some bm)) (hx : a.eval x = .string k) (hy : a.eval y = val)
    (ht : P.underlying t = some (.map kt et)) (hk : P.underlying kt = some .string) (L : Assoc) (seen : List ByteArray) (hR : Rng w r bm L seen) (v0 : Value) (hv0 : aget L k = some v0)
    (h : ∀ w', Rng w' r bm (aput L k val) seen → Kept (fun b => b = bm) w w' → wpMix P .any l.toArray Later Q rest (a.put o.dst undef) w') : wpMix P .any l.toArray Later Q ((i, true) :: rest) a w :=
  mix_loud ho' hg hb fun e K hK => by
    obtain ⟨w', hr, h1, h2, h3⟩ := rng_update (P := P) ht hk (hR.more e) k val v0 hv0
    unfold Oper.wp
    simp only [execOp, hop, hm, hx, hy, Sem.run_bind, hr, Result.andThen, Sem.run_pure, Oper.upon]
    exact hK _ _ (h w' h1 (Kept.trans (.of_below (more_below w e)) h2))
theorem mix_len {l l' : List Oper} {i : Nat} {rest : List (Nat × Bool)} {Q : Act → World → Prop} (ho' : l.drop i = o :: l') (hg : o.guard = none) (t kt et : TypeId) (m : Operand) (hop : o.op = .call { callee := .builtin .len, args := #[m], argTypes := #[t] }) (bm : Nat) (hm : a.eval m = .map (some bm))
    (ht : P.underlying t = some (.map kt et)) (L : Assoc) (hM : MapAt w bm L) (n : Nat) (hn : L.length = n) (h : wpMix P .any l.toArray Later Q rest (a.put o.dst (.int .i64 n)) w) : wpMix P .any l.toArray Later Q ((i, false) :: rest) a w := by
  subst hn
  refine ⟨o, _, at_drop ho', .inl ⟨by simp [Region.wanted, hg], fun w' ⟨e, he⟩ => ?_⟩, h⟩
  subst he
  have hr := run_len_at (P := P) ht (hM.more e) #[t] o.type rfl
  unfold gives
  simp only [execOp, hop, resolve, invoke, builtin, List.map_toArray, List.map_cons, List.map_nil, hm, Sem.run_bind, hr, Result.andThen, Sem.run_pure, givesUpon]
  exact ⟨trivial, later_refl _⟩
end
end Go.Ice

/-
  What is proved: the contract of the method Copy of a table of cells; what is the same but for the memory in which bytes lie.
  Conditions: bounds under which nothing wraps.
-/
import Derived.Test.YtibolfdgbbaclaaLawBase
import Derived.Deep.DeepCutAuto
import Derived.Deep.CutBlock
import Derived.ArgAppend
open Go Go.RowKit Go.Ice
namespace Go.Proofs.Ytibolfdgbbaclaa
set_option maxRecDepth 100000
set_option linter.unusedVariables false
set_option linter.unusedSimpArgs false
attribute [local go_sem] gives givesUpon later_self more_cell more_frozen more_block more_more more_drew more_setCell more_of_drew more_of_drewN more_size lt_plus lt_plus2 lt_plus3 lt_plus4 swap_size swap_cell swap_frozen swap_setCell swap_drew swap_drewN ne_low ne_low1 ne_low2 ne_low3 ne_low4 Instr.field part asAgg List.extract_toArray List.extract_eq_take_drop
theorem bts_offtab {w : World} {N : Nat → Prop} {v : Value} {l : List UInt8} {bt bm bk : Nat} {T : Tab} (h : Bts w N v l) (hI : IsTab w bt bm bk T) : Bts w (fun x => N x ∧ ¬ foot bt bm bk x) v l := by
  obtain ⟨cap, tc, hT, hTk, _⟩ := hI.open_
  have h1 := bts_notin h hT (by simp [tabCells, notU8])
  have h2 := bts_notin h1 hTk (blk_nou hI hTk)
  obtain ⟨A, c, rfl, hr, hl⟩ := h2
  refine ⟨A, c, rfl, fun hm => ?_, hl⟩
  obtain ⟨b1, o, e1, e2, e3⟩ := hr hm
  refine ⟨b1, o, e1, ⟨e2.1.1, ?_⟩, e3⟩
  rintro (h | h | h)
  · exact e2.1.2 h
  · subst h
    obtain ⟨es, clock, hb, _⟩ := hI.cells
    have := e3 0 hm
    simp [World.cell?, hb] at this
  · exact e2.2 h
/-- One table is kept where only another one turns. -/
theorem isTab_other {w w' : World} {bt bm bk ct cm ck : Nat} {T U : Tab} (h : IsTab w bt bm bk T) (h2 : IsTab w ct cm ck U) (hk : Kept (foot ct cm ck) w w') (hd : ∀ b, foot bt bm bk b → ¬ foot ct cm ck b) : IsTab w' bt bm bk T :=
  h.keptS hk ⟨hd bt (.inl rfl), hd bm (.inr (.inl rfl)), hd bk (.inr (.inr rfl))⟩ fun c hc => (bts_offtab (h.vals c hc) h2).mono fun b hb => hb.2
theorem add_plain0 (b o i : Nat) : (⟨b, o, none⟩ : Addr).add i = ⟨b, o + i, none⟩ := by unfold Addr.add; split <;> simp_all
theorem wpList_append_eq {P : Program} {ops : Array Oper} {Q : Exit → Act → World → Prop} {a : Act} {w : World} {rest : List Oper} {o : Oper} (hgd : o.guard = none) (s x : Operand) (t : TypeId) (ho : o.op = .call { callee := .builtin .append, args := #[s, x], argTypes := #[t, t] })
    (v1 v2 v' : Value) (w' : World) (hs : a.eval s = v1) (hx : a.eval x = v2) (hrun : (Builtin.append_ #[t, t] o.type #[v1, v2]).run P w = .ok v' w') (h : wpList P ops Q rest (a.put o.dst v') w') : wpList P ops Q (o :: rest) a w := by
  refine wpList_plain hgd fun K hK => ?_
  unfold Oper.wp execOp
  simp only [ho, resolve, invoke, builtin, Sem.run_bind, Sem.run_pure, Result.andThen_ok, List.map_toArray, List.map_cons, List.map_nil, hs, hx, hrun]
  exact hK _ _ h
theorem clone_nou (l : List Int) (z : Array Value) (k : Nat) (hz : z = #[.int .i64 0]) : ((intV l).toArray ++ Builtin.zeroCells z k).toList.all notU8 = true := by
  subst hz
  refine List.all_eq_true.2 fun x hx => ?_
  rw [Array.toList_append, List.mem_append] at hx
  rcases hx with hx | hx
  · simp only [intV, List.mem_map] at hx
    obtain ⟨t, _, rfl⟩ := hx
    rfl
  · rw [Builtin.zeroCells, Array.toList_map, List.mem_map] at hx
    obtain ⟨i, _, rfl⟩ := hx
    show notU8 ((#[Value.int .i64 0] : Array Value)[i % 1]!) = true
    rw [Nat.mod_one]
    rfl
def CloneW (w : World) (tok : List Int) (en : Ending) (w' : World) : Prop := ∃ g cap cs, en = .returned (.slice (some ⟨g, 0, none⟩) tok.length cap) ∧ Blk w' g cs 3 ∧ (∀ (i : Nat) (t : Int), tok[i]? = some t → cs[i]? = some (Value.int .i64 t)) ∧ cs.toList.all notU8 = true ∧ w.heap.size ≤ g ∧ Below w.heap.size w w'
set_option maxHeartbeats 800000 in
theorem clone_whole {w : World} {bk cap : Nat} {tok : List Int} (hc : ∀ (i : Nat) (t : Int), tok[i]? = some t → w.cell? ⟨bk, i, none⟩ = some (.int .i64 t)) (hl : tok.length ≤ 1000000) (hl0 : 0 < tok.length) :
    Calls Try.prog 40 #[.slice (some ⟨bk, 0, none⟩) tok.length cap] w (CloneW w tok) := by
  obtain ⟨i0, hi, hz0, hz1, hz2⟩ := info_parts int_info
  have hbk : bk < w.heap.size := World.block_lt_of_cell? w ⟨bk, 0, none⟩ (hc 0 _ (List.getElem?_eq_getElem hl0))
  have hen : ∀ W : World, (binOp .eql 55 (.slice (some ⟨bk, 0, none⟩) tok.length cap) (.slice none 0 0)).run Try.prog W = .ok (.bool false) W := fun W => by
    have he := run_equal_slice_nil (P := Try.prog) (w := W) 55 3 (some ⟨bk, 0, none⟩) tok.length cap Try.underlying55
    simp only [binOp, Sem.run_bind, he, Result.andThen, Sem.run_pure]
    rfl
  have hrun := run_append_grow (P := Try.prog) (w.alloc (.cells #[] 3)) 55 55 3 i0 (.int .i64 0) Try.underlying55 hi hz0 ⟨w.heap.size, 0, none⟩ 0 0 [] (by simp) (fun j v h => by simp at h)
    ⟨bk, 0, none⟩ tok.length cap (intV tok) (by rw [hz1, intV_len, Nat.mul_one]) (fun j v h => by
      rw [add_plain0, World.cell?_alloc_lt _ _ _ (by show bk < w.heap.size; exact hbk)]
      unfold intV at h
      rw [List.getElem?_map] at h
      obtain ⟨t, ht, rfl⟩ := Option.map_eq_some_iff.1 h
      rw [Nat.zero_add]
      exact hc j t ht) (by omega) (by omega) (by rw [hz2]; exact growslice_fits (by omega) (by omega))
  have Hrun := Lib.hid hrun
  clear hi hz0 hz1 hz2 hrun
  go_enter Try.func40, Try.ntmps40
  go_wp2_with (
    at_builtin
    refine wpList_append_eq (o := ⟨some 7, .call { callee := .builtin .append, args := #[.tmp 5, .tmp 6], argTypes := #[55, 55] }, 55, _, _, _⟩) rfl (.tmp 5) (.tmp 6) 55 rfl _ _ _ _ rfl rfl Hrun.out ?_)
  go_ret
  refine ⟨w.heap.size + 1, _, (intV tok).toArray ++ Builtin.zeroCells #[.int .i64 0] (grownCap (w.alloc (.cells #[] 3)) tok.length 0 3 - tok.length), rfl, ?_, ?_, ?_, Nat.le_succ _, ?_⟩
  · have e : w.heap.size + 1 = (w.heap.push (.cells #[] 3)).size := by rw [Array.size_push]
    show ((w.heap.push (.cells #[] 3)).push _)[w.heap.size + 1]? = _
    rw [e, Array.getElem?_push_size]
  · intro i t ht
    have hlt : i < tok.length := (List.getElem?_eq_some_iff.1 ht).1
    rw [Array.getElem?_append_left (by simpa [intV] using hlt)]
    simp [intV, ht]
  · exact clone_nou _ _ _ rfl
  · exact (((Below.refl w.heap.size w).alloc (Nat.le_refl _) _).alloc (by show w.heap.size ≤ (w.heap.push _).size; rw [Array.size_push]; exact Nat.le_succ _) _).trans ⟨rfl, rfl, rfl, Nat.le_refl _, fun k hk => rfl⟩
def CopyPost (w : World) (T : Tab) (en : Ending) (w' : World) : Prop := ∃ ct cm ck, en = .returned (.pointer (some ⟨ct, 0, none⟩)) ∧ IsTab w' ct cm ck T ∧ Below w.heap.size w w' ∧ w.heap.size ≤ ct ∧ w.heap.size ≤ cm ∧ w.heap.size ≤ ck
theorem heap_swap (w : World) (o o' : Obj) (e : Array Obj × Nat) (k : Nat) (hk : k ≠ w.heap.size) : (more (w.alloc o') e).heap[k]? = (more (w.alloc o) e).heap[k]? := by
  show (w.heap.push o' ++ e.1)[k]? = (w.heap.push o ++ e.1)[k]?
  simp only [Array.getElem?_append, Array.size_push, Array.getElem?_push, if_neg hk]
theorem copy_final {w : World} {bt bm bk : Nat} {T : Tab} (h : IsTab w bt bm bk T) (o : Obj) (e3 x4 e5 x6 e7 e8 e9 : Array Obj × Nat) {g cap6 : Nat} {cs6 : Array Value}
    (hM : MapAt (more (more (w.alloc o) e3) x4) (more (w.alloc o) e3).heap.size (assoc T.L))
    (hc : ∀ (i : Nat) (t : Int), T.tok[i]? = some t → cs6[i]? = some (Value.int .i64 t)) (hn : cs6.toList.all notU8 = true)
    (hg : (more (w.alloc o) (e3.1 ++ (x4.1 ++ e5.1), e5.2)).heap.size ≤ g) (hb : Blk (more (more (w.alloc o) (e3.1 ++ (x4.1 ++ e5.1), e5.2)) x6) g cs6 3) :
    CopyPost w T (.returned (.pointer (some ⟨w.heap.size, 0, none⟩))) (more (more (w.alloc (.cells (tabCells T (w.heap.size + 1 + e3.1.size) g cap6) 78)) (e3.1 ++ (x4.1 ++ (e5.1 ++ (x6.1 ++ (e7.1 ++ e8.1)))), e8.2)) e9) := by
  generalize ho' : Obj.cells (tabCells T (w.heap.size + 1 + e3.1.size) g cap6) 78 = o'
  have hs : (more (w.alloc o) e3).heap.size = w.heap.size + 1 + e3.1.size := by rw [more_size]; show (w.heap.push o).size + _ = _; rw [Array.size_push]
  have hs2 : (more (w.alloc o) (e3.1 ++ (x4.1 ++ e5.1), e5.2)).heap.size = w.heap.size + 1 + (e3.1.size + (x4.1.size + e5.1.size)) := by
    rw [more_size]; show (w.heap.push o).size + (e3.1 ++ (x4.1 ++ e5.1)).size = _; rw [Array.size_push, Array.size_append, Array.size_append]
  have hlt := hM.lt
  rw [more_size (more (w.alloc o) e3), hs] at hlt
  rw [hs2] at hg
  rw [hs] at hM
  have q : more (more (w.alloc o) (e3.1 ++ (x4.1 ++ (e5.1 ++ (x6.1 ++ (e7.1 ++ e8.1)))), e8.2)) e9 = more (more (more (w.alloc o) e3) x4) (e5.1 ++ (x6.1 ++ (e7.1 ++ (e8.1 ++ e9.1))), e9.2) := by simp only [more_more, Array.append_assoc]
  have q2 : more (more (w.alloc o) (e3.1 ++ (x4.1 ++ (e5.1 ++ (x6.1 ++ (e7.1 ++ e8.1)))), e8.2)) e9 = more (more (more (w.alloc o) (e3.1 ++ (x4.1 ++ e5.1), e5.2)) x6) (e7.1 ++ (e8.1 ++ e9.1), e9.2) := by simp only [more_more, Array.append_assoc]
  have hM2 := hM.more (e5.1 ++ (x6.1 ++ (e7.1 ++ (e8.1 ++ e9.1))), e9.2)
  have hb2 := hb.more (e7.1 ++ (e8.1 ++ e9.1), e9.2)
  rw [← q] at hM2
  rw [← q2] at hb2
  have sw : ∀ k, k ≠ w.heap.size → (more (more (w.alloc o') (e3.1 ++ (x4.1 ++ (e5.1 ++ (x6.1 ++ (e7.1 ++ e8.1)))), e8.2)) e9).heap[k]? = (more (more (w.alloc o) (e3.1 ++ (x4.1 ++ (e5.1 ++ (x6.1 ++ (e7.1 ++ e8.1)))), e8.2)) e9).heap[k]? := fun k hk => by
    rw [more_more, more_more]
    exact heap_swap w o o' _ k hk
  have hB : Below w.heap.size w (more (more (w.alloc o') (e3.1 ++ (x4.1 ++ (e5.1 ++ (x6.1 ++ (e7.1 ++ e8.1)))), e8.2)) e9) := by
    refine (((Below.refl w.heap.size w).alloc (Nat.le_refl _) o').trans ((more_below _ _).mono ?_)).trans ((more_below _ _).mono ?_)
    · show w.heap.size ≤ (w.heap.push o').size
      rw [Array.size_push]; exact Nat.le_succ _
    · rw [more_size]
      show w.heap.size ≤ (w.heap.push o').size + _
      rw [Array.size_push]; omega
  refine ⟨w.heap.size, w.heap.size + 1 + e3.1.size, g, rfl, ⟨by omega, by omega, by omega, ⟨cap6, ?_⟩, ⟨cs6, (sw g (by omega)).trans hb2, hc, hn⟩, hM2.of_block (sw _ (by omega)), fun c hcm => ?_⟩, hB, Nat.le_refl _, by omega, by omega⟩
  · rw [more_more, more_block _ _ _ (by show w.heap.size < (w.heap.push o').size; rw [Array.size_push]; exact Nat.lt_succ_self _)]
    show (w.heap.push o')[w.heap.size]? = _
    rw [Array.getElem?_push_size, ← ho']
  · refine ((bts_lt (h.vals c hcm)).below hB).mono fun b hb => ?_
    have := hb.2
    exact ⟨by omega, by omega, by omega⟩
set_option maxHeartbeats 1000000 in
theorem copy_tab {w : World} {bt bm bk : Nat} {T : Tab} (h : IsTab w bt bm bk T) (hl : T.tok.length ≤ 1000000) (hl0 : 0 < T.tok.length) :
    Calls Try.prog 29 #[.pointer (some ⟨bt, 0, none⟩)] w (CopyPost w T) := by
  obtain ⟨cap, tc, hT, hTk, htc, hcell, hfro, hfrk, hcelk⟩ := h.open_
  have c0 : w.cell? ⟨bt, 0, none⟩ = some (.int .i64 T.room.cells) := hcell 0
  have c1 : w.cell? ⟨bt, 1, none⟩ = some (.int .i64 T.room.bytes) := hcell 1
  have c2 : w.cell? ⟨bt, 2, none⟩ = some (.int .i64 T.room.buckets) := hcell 2
  have c3 : w.cell? ⟨bt, 3, none⟩ = some (.bool T.room.fresh) := hcell 3
  have c4 : w.cell? ⟨bt, 4, none⟩ = some (.map (some bm)) := hcell 4
  have c5 : w.cell? ⟨bt, 5, none⟩ = some (.slice (some ⟨bk, 0, none⟩) T.tok.length cap) := hcell 5
  have c6 : w.cell? ⟨bt, 6, none⟩ = some (.int .i64 T.uses) := hcell 6
  have c7 : w.cell? ⟨bt, 7, none⟩ = some (.int .i64 T.bytes) := hcell 7
  have hbt := h.lt.1
  have hM := h.cells
  have H0 := Lib.hid h
  have Hck := Lib.hid (fun W (hB : Below w.heap.size w W) => clone_whole (w := W) (cap := cap) (fun i t hi => (hB.cell (p := ⟨bk, i, none⟩) h.lt.2.2).trans (hcelk i t hi)) hl hl0)
  unfold CloneW at Hck
  have Hcm := Lib.hid (fun W (hB : Below w.heap.size w W) => clone_call (hM.of_block (hB.block bm h.lt.2.1)))
  clear h hcell hfro hfrk hcelk hT hTk htc hM
  go_enter Try.func29, Try.ntmps29
  go_wp2
  refine wp_region_mix_lit [(0,false),(1,false),(2,false),(3,false),(5,false),(6,false),(7,false),(8,false),(4,true),(9,true),(10,false),(11,true),(12,false),(13,true)] (by kernel_rfl) (by kernel_rfl) ?_
  iterate 8 (refine mix_step rfl (fun K hK => ?_); go_simp; refine hK _ ?_; clear hK K)
  refine mix_grow rfl rfl (fun e3 K hK => ?_)
  go_wp2_with fail
  refine (Hcm.out _ (Kept.to_below (S := fun _ => False) (by repeat (first | with_reducible refine Kept.more ?_ _ | with_reducible refine Kept.alloc ?_ _ | with_reducible refine Kept.drew ?_ | with_reducible refine Kept.drewN ?_ _ | exact Kept.refl _ _)) (fun _ h => h.elim))).mono ?_
  rintro e4 w4 ⟨rfl, hM4, hB4⟩
  refine hK _ _ hB4 ?_
  clear hK K
  obtain ⟨x4, rfl⟩ := later_of_below hB4
  refine mix_grow rfl rfl (fun e5 K hK => ?_)
  go_wp2_with fail
  refine (Hck.out _ (Kept.to_below (S := fun _ => False) (by repeat (first | with_reducible refine Kept.more ?_ _ | with_reducible refine Kept.alloc ?_ _ | with_reducible refine Kept.drew ?_ | with_reducible refine Kept.drewN ?_ _ | exact Kept.refl _ _)) (fun _ h => h.elim))).mono ?_
  rintro e6 w6 ⟨g, cap6, cs6, rfl, hb6, hc6, hn6, hg6, hB6⟩
  refine hK _ _ (by simp only [more_more, Array.append_assoc]; exact hB6) ?_
  clear hK K
  obtain ⟨x6, rfl⟩ := later_of_below hB6
  iterate 1 (refine mix_step rfl (fun K hK => ?_); go_simp; refine hK _ ?_; clear hK K)
  refine mix_loud rfl rfl (by kernel_rfl) (fun e7 K hK => ?_)
  go_wp2_with fail
  iterate 1 (refine mix_step rfl (fun K hK => ?_); go_simp; refine hK _ ?_; clear hK K)
  refine mix_loud rfl rfl (by kernel_rfl) (fun e8 K hK => ?_)
  go_wp2_with fail
  refine mix_done (fun e9 => ?_)
  go_wp2
  go_ret
  exact copy_final H0.out _ e3 x4 e5 x6 e7 e8 e9 hM4 hc6 hn6 hg6 hb6
end Go.Proofs.Ytibolfdgbbaclaa

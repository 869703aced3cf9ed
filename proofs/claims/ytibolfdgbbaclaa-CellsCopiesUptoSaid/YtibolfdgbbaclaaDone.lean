/-
  What is proved: the contract of the law's done: one step of a table.
  Conditions: bounds under which nothing wraps.
-/
import Derived.Test.YtibolfdgbbaclaaStep
import Derived.Deep.DeepCutAuto
import Derived.Deep.CutBlock
open Go Go.RowKit Go.Ice
namespace Go.Proofs.Ytibolfdgbbaclaa
set_option maxRecDepth 100000
set_option linter.unusedVariables false
set_option linter.unusedSimpArgs false
attribute [local go_sem] gives givesUpon later_self more_cell more_frozen more_block more_more more_drew more_setCell more_of_drew more_of_drewN more_size lt_plus lt_plus2 lt_plus3 lt_plus4 swap_size swap_cell swap_frozen swap_setCell swap_drew swap_drewN ne_low ne_low1 ne_low2 ne_low3 ne_low4 Instr.field part asAgg List.extract_toArray List.extract_eq_take_drop
def doV (d : Do) (sv : Value) : Value := .agg #[.int .i64 d.kind, .string d.e.key, .int .i64 d.e.seq, .int .i64 d.e.who, .int .i64 d.e.op, .bool d.e.has, sv, .int .i64 d.tok]
def DonePost (w : World) (bt bm bk : Nat) (T : Tab) (d : Do) (en : Ending) (w' : World) : Prop :=
  ∃ sv A n, en = .returned (.tuple #[replyV (stepT T d sv).2.1.e (.slice A (stepT T d sv).2.1.e.b.length n) (stepT T d sv).2.1.whole (stepT T d sv).2.1.tok, .bool (stepT T d sv).2.2.1, .int .i64 (stepT T d sv).2.2.2]) ∧
    Bts w' (fun b => w.heap.size ≤ b) (.slice A (stepT T d sv).2.1.e.b.length n) (stepT T d sv).2.1.e.b ∧ IsTab w' bt bm bk (stepT T d sv).1 ∧ Kept (foot bt bm bk) w w'
theorem bts_notin {w : World} {N : Nat → Prop} {v : Value} {l : List UInt8} {b : Nat} {cs : Array Value} {t : TypeId} (h : Bts w N v l) (hb : Blk w b cs t) (hn : cs.toList.all notU8 = true) : Bts w (fun x => N x ∧ x ≠ b) v l := by
  obtain ⟨A, c, rfl, hr, hl⟩ := h
  refine ⟨A, c, rfl, fun hm => ?_, hl⟩
  obtain ⟨b1, o, h1, h2, h3⟩ := hr hm
  refine ⟨b1, o, h1, ⟨h2, ?_⟩, h3⟩
  rintro rfl
  have h4 := h3 0 hm
  rw [hb.cell] at h4
  have h5 := List.all_eq_true.1 hn _ (Array.mem_toList_iff.2 (Array.mem_of_getElem? h4))
  exact absurd h5 (by simp [notU8])
/-- Writes into a box of something else leave a table as it is. -/
theorem isTab_box {w w' : World} {bt bm bk b : Nat} {T : Tab} {cs : Array Value} {t : TypeId} (h : IsTab w bt bm bk T) (hb : Blk w b cs t) (hn : cs.toList.all notU8 = true) (hk : Kept (fun x => x = b) w w') (h1 : b ≠ bt) (h2 : b ≠ bm) (h3 : b ≠ bk) : IsTab w' bt bm bk T :=
  h.keptS hk ⟨fun e => h1 e.symm, fun e => h2 e.symm, fun e => h3 e.symm⟩ fun c hc => (bts_notin (h.vals c hc) hb hn).mono fun b hb => hb.2
set_option maxHeartbeats 400000 in
theorem done_1 {w : World} {bt bm bk : Nat} {T : Tab} {N : Int} (h : IsTab w bt bm bk T) (hv : Inv T N) (hN : N ≤ 576460752303423488) (d : Do) (v : Value) (NS : Nat → Prop) (hbs : Bts w NS v d.e.b) (hk : d.e.key.size ≤ 140737488351232) (hns : ∀ b, NS b → ¬ foot bt bm bk b) (hd : d.kind = 1) :
    Calls Try.prog 11 #[.pointer (some ⟨bt, 0, none⟩), doV d v] w (DonePost w bt bm bk T d) := by
  have e1 : ∀ sv, stepT T d sv = ((queried T d.e.key).1, (queried T d.e.key).2.1, false, (queried T d.e.key).2.2) := fun sv => if_pos hd
  have hP : ∀ en w', (∃ A n, en = .returned (.tuple #[replyV (queried T d.e.key).2.1.e (.slice A (queried T d.e.key).2.1.e.b.length n) (queried T d.e.key).2.1.whole (queried T d.e.key).2.1.tok, .bool false, .int .i64 (queried T d.e.key).2.2]) ∧
      Bts w' (fun b => w.heap.size ≤ b) (.slice A (queried T d.e.key).2.1.e.b.length n) (queried T d.e.key).2.1.e.b ∧ IsTab w' bt bm bk (queried T d.e.key).1 ∧ Kept (foot bt bm bk) w w') → DonePost w bt bm bk T d en w' := by
    rintro en w' ⟨A, n, h1, h2, h3, h4⟩
    exact ⟨undef, A, n, by rw [e1]; exact h1, by rw [e1]; exact h2, by rw [e1]; exact h3, h4⟩
  have HP := Lib.hid hP
  have Hq := Lib.hid (fun W (hB : Below w.heap.size w W) => query_any (h.below hB) hv hN d.e.key hk)
  have hlt := h.lt
  obtain ⟨l1, l2, l3⟩ := hlt
  have hb' := hbs
  obtain ⟨A0, c0, rfl, _, _⟩ := hb'
  unfold QueryPost at Hq
  generalize hr : queried T d.e.key = r at Hq HP
  clear e1 hP hbs h hv hr
  obtain ⟨T1, ⟨re, rh, rt⟩, er⟩ := r
  dsimp only at Hq HP
  unfold doV
  rw [hd]
  clear hd
  go_enter Try.func11, Try.ntmps11
  go_wp2_with fail
  refine (Hq.out _ (Kept.to_below (S := fun _ => False) (by repeat (first | with_reducible refine Kept.more ?_ _ | with_reducible refine Kept.alloc ?_ _ | with_reducible refine Kept.drew ?_ | with_reducible refine Kept.drewN ?_ _ | exact Kept.refl _ _)) (fun _ h => h.elim))).mono ?_
  rintro e9 w9 ⟨A9, n9, rfl, hb9, hI9, hK9⟩
  dsimp only
  have hb4 := (Blk.of_alloc _ _ 39).kept hK9 (by simp only [alloc_size]; rintro (h | h | h) <;> omega)
  simp only [alloc_size] at hb4
  have k0 := (hb4).cell 0; have fk0 := (hb4).fro 0; have k1 := (hb4).cell 1; have fk1 := (hb4).fro 1; have k2 := (hb4).cell 2; have fk2 := (hb4).fro 2; have k3 := (hb4).cell 3; have fk3 := (hb4).fro 3; have k4 := (hb4).cell 4; have fk4 := (hb4).fro 4; have k5 := (hb4).cell 5; have fk5 := (hb4).fro 5; have k6 := (hb4).cell 6; have fk6 := (hb4).fro 6; have k7 := (hb4).cell 7; have fk7 := (hb4).fro 7; simp at k0 k1 k2 k3 k4 k5 k6 k7
  have hs4 := hb4.lt
  have HB4 := Lib.hid hb4
  have HI9 := Lib.hid hI9
  have HK9 := Lib.hid hK9
  have Hb9 := Lib.hid hb9
  unfold replyV
  clear hb4 hI9 hK9 hb9
  go_upto_region 4 with fail
  repeat go_step
  have hKw : Kept (foot bt bm bk) w w9 := Kept.trans (Kept.of_below (Kept.to_below (S := fun _ => False) (by repeat (first | with_reducible refine Kept.more ?_ _ | with_reducible refine Kept.alloc ?_ _ | with_reducible refine Kept.drew ?_ | with_reducible refine Kept.drewN ?_ _ | exact Kept.refl _ _)) (fun _ h => h.elim))) HK9.out
  have hsw : w.heap.size + 1 + 1 ≤ w9.heap.size := by have := HK9.out.size; simp only [alloc_size] at this; exact this
  refine bodyPost_ret (v := .tuple #[replyV re (.slice A9 re.b.length n9) rh rt, .bool false, .int .i64 er]) (by simp [results, Try.results11, go_sem, replyV, hs4, k0, k1, k2, k3, k4, k5, k6, k7]) rfl (HP.out _ _ ⟨A9, n9, rfl, ?_, ?_, ?_⟩)
  · have h1 : Bts w9 (fun b => w.heap.size + 2 ≤ b) (.slice A9 re.b.length n9) re.b := Hb9.out.mono fun b hb => by simp only [alloc_size] at hb; omega
    refine Bts.mono ?_ (fun b (hb : w.heap.size + 2 ≤ b) => by omega)
    refine Bts.alloc ?_ _
    repeat (first | with_reducible exact h1 | refine Bts.setCell ?_ (by simp) _)
  · refine isTab_box HI9.out HB4.out (by simp [notU8]) ?_ (by omega) (by omega) (by omega)
    refine Kept.alloc ?_ _
    repeat (first | with_reducible exact Kept.refl _ _ | refine Kept.setCell ?_ (by exact Or.inl rfl) _)
  · refine Kept.alloc ?_ _
    repeat (first | with_reducible exact hKw | refine Kept.setCell ?_ (by exact Or.inr (by simp)) _)
set_option maxHeartbeats 1000000 in
theorem done_2 {w : World} {bt bm bk : Nat} {T : Tab} {N : Int} (h : IsTab w bt bm bk T) (hv : Inv T N) (hN : N ≤ 576460752303423488) (d : Do) (v : Value) (NS : Nat → Prop) (hbs : Bts w NS v d.e.b) (hk : d.e.key.size ≤ 140737488351232) (hns : ∀ b, NS b → ¬ foot bt bm bk b) (hd : d.kind = 2) :
    Calls Try.prog 11 #[.pointer (some ⟨bt, 0, none⟩), doV d v] w (DonePost w bt bm bk T d) := by
  have e1 : ∀ sv, stepT T d sv = ((storedA T d.e sv).1, rep0, false, (storedA T d.e sv).2) := fun sv => by unfold stepT; simp [hd]
  have hP : ∀ (sv : Value) en w', (en = .returned (.tuple #[replyZ, .bool (false), .int .i64 ((storedA T d.e sv).2)]) ∧ IsTab w' bt bm bk ((storedA T d.e sv).1) ∧ Kept (foot bt bm bk) w w') → DonePost w bt bm bk T d en w' := by
    rintro sv en w' ⟨h1, h2, h3⟩
    refine ⟨sv, none, 0, ?_, by rw [e1]; exact Bts.nil _ _, by rw [e1]; exact h2, h3⟩
    rw [e1]
    exact h1
  have HP := Lib.hid hP
  have Hq := Lib.hid (fun W (hB : Below w.heap.size w W) => store_any (h.below hB) hv hN d.e v NS (hbs.below hB) hk hns)
  obtain ⟨l1, l2, l3⟩ := h.lt
  have hb' := hbs
  obtain ⟨A0, c0, rfl, _, _⟩ := hb'
  unfold entV at Hq
  clear e1 hP hbs h hv
  unfold doV
  rw [hd]
  clear hd
  go_enter Try.func11, Try.ntmps11
  go_wp2_with fail
  refine (Hq.out _ (Kept.to_below (S := fun _ => False) (by repeat (first | with_reducible refine Kept.more ?_ _ | with_reducible refine Kept.alloc ?_ _ | with_reducible refine Kept.drew ?_ | with_reducible refine Kept.drewN ?_ _ | exact Kept.refl _ _)) (fun _ h => h.elim))).mono ?_
  rintro e9 w9 ⟨sv, rfl, hI9, hK9⟩
  dsimp only
  have hb4 := (Blk.of_alloc _ _ 39).kept hK9 (by simp only [alloc_size]; rintro (h | h | h) <;> omega)
  simp only [alloc_size] at hb4
  have k0 := (hb4).cell 0; have fk0 := (hb4).fro 0; have k1 := (hb4).cell 1; have fk1 := (hb4).fro 1; have k2 := (hb4).cell 2; have fk2 := (hb4).fro 2; have k3 := (hb4).cell 3; have fk3 := (hb4).fro 3; have k4 := (hb4).cell 4; have fk4 := (hb4).fro 4; have k5 := (hb4).cell 5; have fk5 := (hb4).fro 5; have k6 := (hb4).cell 6; have fk6 := (hb4).fro 6; have k7 := (hb4).cell 7; have fk7 := (hb4).fro 7; simp at k0 k1 k2 k3 k4 k5 k6 k7
  have hs4 := hb4.lt
  have HB4 := Lib.hid hb4
  have HI9 := Lib.hid hI9
  have HK9 := Lib.hid hK9
  clear hb4 hI9 hK9
  repeat go_step
  have hKw : Kept (foot bt bm bk) w w9 := Kept.trans (Kept.of_below (Kept.to_below (S := fun _ => False) (by repeat (first | with_reducible refine Kept.more ?_ _ | with_reducible refine Kept.alloc ?_ _ | with_reducible refine Kept.drew ?_ | with_reducible refine Kept.drewN ?_ _ | exact Kept.refl _ _)) (fun _ h => h.elim))) HK9.out
  refine bodyPost_ret (v := .tuple #[replyZ, .bool (false), .int .i64 ((storedA T d.e sv).2)]) (by simp [results, Try.results11, go_sem, replyZ, replyV, zeroE, hs4, k0, k1, k2, k3, k4, k5, k6, k7]) rfl (HP.out sv _ _ ⟨rfl, ?_, ?_⟩)
  · refine isTab_box HI9.out HB4.out (by simp [notU8]) ?_ (by omega) (by omega) (by omega)
    repeat (first | with_reducible exact Kept.refl _ _ | refine Kept.setCell ?_ (by exact Or.inl rfl) _)
  · repeat (first | with_reducible exact hKw | refine Kept.setCell ?_ (by exact Or.inr (by simp)) _)
set_option maxHeartbeats 1000000 in
theorem done_3 {w : World} {bt bm bk : Nat} {T : Tab} {N : Int} (h : IsTab w bt bm bk T) (hv : Inv T N) (hN : N ≤ 576460752303423488) (d : Do) (v : Value) (NS : Nat → Prop) (hbs : Bts w NS v d.e.b) (hk : d.e.key.size ≤ 140737488351232) (hns : ∀ b, NS b → ¬ foot bt bm bk b) (hd : d.kind = 3) :
    Calls Try.prog 11 #[.pointer (some ⟨bt, 0, none⟩), doV d v] w (DonePost w bt bm bk T d) := by
  have e1 : ∀ sv, stepT T d sv = ((filledA T d.e d.tok sv).1, rep0, (filledA T d.e d.tok sv).2.1, (filledA T d.e d.tok sv).2.2) := fun sv => by unfold stepT; simp [hd]
  have hP : ∀ (sv : Value) en w', (en = .returned (.tuple #[replyZ, .bool ((filledA T d.e d.tok sv).2.1), .int .i64 ((filledA T d.e d.tok sv).2.2)]) ∧ IsTab w' bt bm bk ((filledA T d.e d.tok sv).1) ∧ Kept (foot bt bm bk) w w') → DonePost w bt bm bk T d en w' := by
    rintro sv en w' ⟨h1, h2, h3⟩
    refine ⟨sv, none, 0, ?_, by rw [e1]; exact Bts.nil _ _, by rw [e1]; exact h2, h3⟩
    rw [e1]
    exact h1
  have HP := Lib.hid hP
  have Hq := Lib.hid (fun W (hB : Below w.heap.size w W) => fill_any (h.below hB) hv hN d.e v d.tok NS (hbs.below hB) hk hns)
  obtain ⟨l1, l2, l3⟩ := h.lt
  have hb' := hbs
  obtain ⟨A0, c0, rfl, _, _⟩ := hb'
  unfold entV at Hq
  clear e1 hP hbs h hv
  unfold doV
  rw [hd]
  clear hd
  go_enter Try.func11, Try.ntmps11
  go_wp2_with fail
  refine (Hq.out _ (Kept.to_below (S := fun _ => False) (by repeat (first | with_reducible refine Kept.more ?_ _ | with_reducible refine Kept.alloc ?_ _ | with_reducible refine Kept.drew ?_ | with_reducible refine Kept.drewN ?_ _ | exact Kept.refl _ _)) (fun _ h => h.elim))).mono ?_
  rintro e9 w9 ⟨sv, rfl, hI9, hK9⟩
  dsimp only
  have hb4 := (Blk.of_alloc _ _ 39).kept hK9 (by simp only [alloc_size]; rintro (h | h | h) <;> omega)
  simp only [alloc_size] at hb4
  have k0 := (hb4).cell 0; have fk0 := (hb4).fro 0; have k1 := (hb4).cell 1; have fk1 := (hb4).fro 1; have k2 := (hb4).cell 2; have fk2 := (hb4).fro 2; have k3 := (hb4).cell 3; have fk3 := (hb4).fro 3; have k4 := (hb4).cell 4; have fk4 := (hb4).fro 4; have k5 := (hb4).cell 5; have fk5 := (hb4).fro 5; have k6 := (hb4).cell 6; have fk6 := (hb4).fro 6; have k7 := (hb4).cell 7; have fk7 := (hb4).fro 7; simp at k0 k1 k2 k3 k4 k5 k6 k7
  have hs4 := hb4.lt
  have HB4 := Lib.hid hb4
  have HI9 := Lib.hid hI9
  have HK9 := Lib.hid hK9
  clear hb4 hI9 hK9
  repeat go_step
  have hKw : Kept (foot bt bm bk) w w9 := Kept.trans (Kept.of_below (Kept.to_below (S := fun _ => False) (by repeat (first | with_reducible refine Kept.more ?_ _ | with_reducible refine Kept.alloc ?_ _ | with_reducible refine Kept.drew ?_ | with_reducible refine Kept.drewN ?_ _ | exact Kept.refl _ _)) (fun _ h => h.elim))) HK9.out
  refine bodyPost_ret (v := .tuple #[replyZ, .bool ((filledA T d.e d.tok sv).2.1), .int .i64 ((filledA T d.e d.tok sv).2.2)]) (by simp [results, Try.results11, go_sem, replyZ, replyV, zeroE, hs4, k0, k1, k2, k3, k4, k5, k6, k7]) rfl (HP.out sv _ _ ⟨rfl, ?_, ?_⟩)
  · refine isTab_box HI9.out HB4.out (by simp [notU8]) ?_ (by omega) (by omega) (by omega)
    repeat (first | with_reducible exact Kept.refl _ _ | refine Kept.setCell ?_ (by exact Or.inl rfl) _)
  · repeat (first | with_reducible exact hKw | refine Kept.setCell ?_ (by exact Or.inr (by simp)) _)
set_option maxHeartbeats 1000000 in
theorem done_4 {w : World} {bt bm bk : Nat} {T : Tab} {N : Int} (h : IsTab w bt bm bk T) (hv : Inv T N) (hN : N ≤ 576460752303423488) (d : Do) (v : Value) (NS : Nat → Prop) (hbs : Bts w NS v d.e.b) (hk : d.e.key.size ≤ 140737488351232) (hns : ∀ b, NS b → ¬ foot bt bm bk b) (hd : d.kind = 4) :
    Calls Try.prog 11 #[.pointer (some ⟨bt, 0, none⟩), doV d v] w (DonePost w bt bm bk T d) := by
  have e1 : ∀ sv, stepT T d sv = ((cleanedA T d.e.key ⟨d.e.seq, d.e.who, d.e.op⟩).1, rep0, (cleanedA T d.e.key ⟨d.e.seq, d.e.who, d.e.op⟩).2, 0) := fun sv => by unfold stepT; simp [hd, tagE]
  have hP : ∀ (sv : Value) en w', (en = .returned (.tuple #[replyZ, .bool ((cleanedA T d.e.key ⟨d.e.seq, d.e.who, d.e.op⟩).2), .int .i64 (0)]) ∧ IsTab w' bt bm bk ((cleanedA T d.e.key ⟨d.e.seq, d.e.who, d.e.op⟩).1) ∧ Kept (foot bt bm bk) w w') → DonePost w bt bm bk T d en w' := by
    rintro sv en w' ⟨h1, h2, h3⟩
    refine ⟨sv, none, 0, ?_, by rw [e1]; exact Bts.nil _ _, by rw [e1]; exact h2, h3⟩
    rw [e1]
    exact h1
  have HP := Lib.hid hP
  have Hq := Lib.hid (fun W (hB : Below w.heap.size w W) => clean_any (h.below hB) d.e.key ⟨d.e.seq, d.e.who, d.e.op⟩)
  obtain ⟨l1, l2, l3⟩ := h.lt
  have hb' := hbs
  obtain ⟨A0, c0, rfl, _, _⟩ := hb'
  unfold Tag.v at Hq
  clear e1 hP hbs h hv
  unfold doV
  rw [hd]
  clear hd
  go_enter Try.func11, Try.ntmps11
  go_wp2_with fail
  refine (Hq.out _ (Kept.to_below (S := fun _ => False) (by repeat (first | with_reducible refine Kept.more ?_ _ | with_reducible refine Kept.alloc ?_ _ | with_reducible refine Kept.drew ?_ | with_reducible refine Kept.drewN ?_ _ | exact Kept.refl _ _)) (fun _ h => h.elim))).mono ?_
  rintro e9 w9 ⟨rfl, hI9, hK9⟩
  dsimp only
  have hb4 := (Blk.of_alloc _ _ 39).kept hK9 (by simp only [alloc_size]; rintro (h | h | h) <;> omega)
  simp only [alloc_size] at hb4
  have k0 := (hb4).cell 0; have fk0 := (hb4).fro 0; have k1 := (hb4).cell 1; have fk1 := (hb4).fro 1; have k2 := (hb4).cell 2; have fk2 := (hb4).fro 2; have k3 := (hb4).cell 3; have fk3 := (hb4).fro 3; have k4 := (hb4).cell 4; have fk4 := (hb4).fro 4; have k5 := (hb4).cell 5; have fk5 := (hb4).fro 5; have k6 := (hb4).cell 6; have fk6 := (hb4).fro 6; have k7 := (hb4).cell 7; have fk7 := (hb4).fro 7; simp at k0 k1 k2 k3 k4 k5 k6 k7
  have hs4 := hb4.lt
  have HB4 := Lib.hid hb4
  have HI9 := Lib.hid hI9
  have HK9 := Lib.hid hK9
  clear hb4 hI9 hK9
  repeat go_step
  have hKw : Kept (foot bt bm bk) w w9 := Kept.trans (Kept.of_below (Kept.to_below (S := fun _ => False) (by repeat (first | with_reducible refine Kept.more ?_ _ | with_reducible refine Kept.alloc ?_ _ | with_reducible refine Kept.drew ?_ | with_reducible refine Kept.drewN ?_ _ | exact Kept.refl _ _)) (fun _ h => h.elim))) HK9.out
  refine bodyPost_ret (v := .tuple #[replyZ, .bool ((cleanedA T d.e.key ⟨d.e.seq, d.e.who, d.e.op⟩).2), .int .i64 (0)]) (by simp [results, Try.results11, go_sem, replyZ, replyV, zeroE, hs4, k0, k1, k2, k3, k4, k5, k6, k7]) rfl (HP.out undef _ _ ⟨rfl, ?_, ?_⟩)
  · refine isTab_box HI9.out HB4.out (by simp [notU8]) ?_ (by omega) (by omega) (by omega)
    repeat (first | with_reducible exact Kept.refl _ _ | refine Kept.setCell ?_ (by exact Or.inl rfl) _)
  · repeat (first | with_reducible exact hKw | refine Kept.setCell ?_ (by exact Or.inr (by simp)) _)
set_option maxHeartbeats 1000000 in
theorem done_6 {w : World} {bt bm bk : Nat} {T : Tab} {N : Int} (h : IsTab w bt bm bk T) (hv : Inv T N) (hN : N ≤ 576460752303423488) (d : Do) (v : Value) (NS : Nat → Prop) (hbs : Bts w NS v d.e.b) (hk : d.e.key.size ≤ 140737488351232) (hns : ∀ b, NS b → ¬ foot bt bm bk b) (hd : d.kind = 6) :
    Calls Try.prog 11 #[.pointer (some ⟨bt, 0, none⟩), doV d v] w (DonePost w bt bm bk T d) := by
  have e1 : ∀ sv, stepT T d sv = (forgotten T, rep0, false, 0) := fun sv => by unfold stepT; simp [hd]
  have hP : ∀ (sv : Value) en w', (en = .returned (.tuple #[replyZ, .bool (false), .int .i64 (0)]) ∧ IsTab w' bt bm bk (forgotten T) ∧ Kept (foot bt bm bk) w w') → DonePost w bt bm bk T d en w' := by
    rintro sv en w' ⟨h1, h2, h3⟩
    refine ⟨sv, none, 0, ?_, by rw [e1]; exact Bts.nil _ _, by rw [e1]; exact h2, h3⟩
    rw [e1]
    exact h1
  have HP := Lib.hid hP
  have Hq := Lib.hid (fun W (hB : Below w.heap.size w W) => forget_any (h.below hB) hv hN)
  obtain ⟨l1, l2, l3⟩ := h.lt
  have hb' := hbs
  obtain ⟨A0, c0, rfl, _, _⟩ := hb'
  clear e1 hP hbs h hv
  unfold doV
  rw [hd]
  clear hd
  go_enter Try.func11, Try.ntmps11
  go_wp2_with fail
  refine (Hq.out _ (Kept.to_below (S := fun _ => False) (by repeat (first | with_reducible refine Kept.more ?_ _ | with_reducible refine Kept.alloc ?_ _ | with_reducible refine Kept.drew ?_ | with_reducible refine Kept.drewN ?_ _ | exact Kept.refl _ _)) (fun _ h => h.elim))).mono ?_
  rintro e9 w9 ⟨rfl, hI9, hK9⟩
  dsimp only
  have hb4 := (Blk.of_alloc _ _ 39).kept hK9 (by simp only [alloc_size]; rintro (h | h | h) <;> omega)
  simp only [alloc_size] at hb4
  have k0 := (hb4).cell 0; have fk0 := (hb4).fro 0; have k1 := (hb4).cell 1; have fk1 := (hb4).fro 1; have k2 := (hb4).cell 2; have fk2 := (hb4).fro 2; have k3 := (hb4).cell 3; have fk3 := (hb4).fro 3; have k4 := (hb4).cell 4; have fk4 := (hb4).fro 4; have k5 := (hb4).cell 5; have fk5 := (hb4).fro 5; have k6 := (hb4).cell 6; have fk6 := (hb4).fro 6; have k7 := (hb4).cell 7; have fk7 := (hb4).fro 7; simp at k0 k1 k2 k3 k4 k5 k6 k7
  have hs4 := hb4.lt
  have HB4 := Lib.hid hb4
  have HI9 := Lib.hid hI9
  have HK9 := Lib.hid hK9
  clear hb4 hI9 hK9
  repeat go_step
  have hKw : Kept (foot bt bm bk) w w9 := Kept.trans (Kept.of_below (Kept.to_below (S := fun _ => False) (by repeat (first | with_reducible refine Kept.more ?_ _ | with_reducible refine Kept.alloc ?_ _ | with_reducible refine Kept.drew ?_ | with_reducible refine Kept.drewN ?_ _ | exact Kept.refl _ _)) (fun _ h => h.elim))) HK9.out
  refine bodyPost_ret (v := .tuple #[replyZ, .bool (false), .int .i64 (0)]) (by simp [results, Try.results11, go_sem, replyZ, replyV, zeroE, hs4, k0, k1, k2, k3, k4, k5, k6, k7]) rfl (HP.out undef _ _ ⟨rfl, ?_, ?_⟩)
  · refine isTab_box HI9.out HB4.out (by simp [notU8]) ?_ (by omega) (by omega) (by omega)
    repeat (first | with_reducible exact Kept.refl _ _ | refine Kept.setCell ?_ (by exact Or.inl rfl) _)
  · repeat (first | with_reducible exact hKw | refine Kept.setCell ?_ (by exact Or.inr (by simp)) _)
set_option maxHeartbeats 1000000 in
theorem done_5 {w : World} {bt bm bk : Nat} {T : Tab} {N : Int} (h : IsTab w bt bm bk T) (hv : Inv T N) (hN : N ≤ 576460752303423488) (d : Do) (v : Value) (NS : Nat → Prop) (hbs : Bts w NS v d.e.b) (hk : d.e.key.size ≤ 140737488351232) (hns : ∀ b, NS b → ¬ foot bt bm bk b) (hd : d.kind ≠ 1 ∧ d.kind ≠ 2 ∧ d.kind ≠ 3 ∧ d.kind ≠ 4 ∧ d.kind ≠ 6) :
    Calls Try.prog 11 #[.pointer (some ⟨bt, 0, none⟩), doV d v] w (DonePost w bt bm bk T d) := by
  have e1 : ∀ sv, stepT T d sv = ((evicted T d.e.key).1, rep0, (evicted T d.e.key).2, 0) := fun sv => by unfold stepT; simp [hd]
  have hP : ∀ (sv : Value) en w', (en = .returned (.tuple #[replyZ, .bool ((evicted T d.e.key).2), .int .i64 (0)]) ∧ IsTab w' bt bm bk ((evicted T d.e.key).1) ∧ Kept (foot bt bm bk) w w') → DonePost w bt bm bk T d en w' := by
    rintro sv en w' ⟨h1, h2, h3⟩
    refine ⟨sv, none, 0, ?_, by rw [e1]; exact Bts.nil _ _, by rw [e1]; exact h2, h3⟩
    rw [e1]
    exact h1
  have HP := Lib.hid hP
  have Hq := Lib.hid (fun W (hB : Below w.heap.size w W) => evict_any (h.below hB) hv hN d.e.key hk)
  obtain ⟨l1, l2, l3⟩ := h.lt
  have hb' := hbs
  obtain ⟨A0, c0, rfl, _, _⟩ := hb'
  have z0 : (d.kind == 1) = false := by simpa using hd.1
  have z1 : (d.kind == 2) = false := by simpa using hd.2.1
  have z2 : (d.kind == 3) = false := by simpa using hd.2.2.1
  have z3 : (d.kind == 4) = false := by simpa using hd.2.2.2.1
  have z4 : (d.kind == 6) = false := by simpa using hd.2.2.2.2
  clear e1 hP hbs h hv hd
  unfold doV
  go_enter Try.func11, Try.ntmps11
  go_wp2_with fail
  refine (Hq.out _ (Kept.to_below (S := fun _ => False) (by repeat (first | with_reducible refine Kept.more ?_ _ | with_reducible refine Kept.alloc ?_ _ | with_reducible refine Kept.drew ?_ | with_reducible refine Kept.drewN ?_ _ | exact Kept.refl _ _)) (fun _ h => h.elim))).mono ?_
  rintro e9 w9 ⟨rfl, hI9, hK9⟩
  dsimp only
  have hb4 := (Blk.of_alloc _ _ 39).kept hK9 (by simp only [alloc_size]; rintro (h | h | h) <;> omega)
  simp only [alloc_size] at hb4
  have k0 := (hb4).cell 0; have fk0 := (hb4).fro 0; have k1 := (hb4).cell 1; have fk1 := (hb4).fro 1; have k2 := (hb4).cell 2; have fk2 := (hb4).fro 2; have k3 := (hb4).cell 3; have fk3 := (hb4).fro 3; have k4 := (hb4).cell 4; have fk4 := (hb4).fro 4; have k5 := (hb4).cell 5; have fk5 := (hb4).fro 5; have k6 := (hb4).cell 6; have fk6 := (hb4).fro 6; have k7 := (hb4).cell 7; have fk7 := (hb4).fro 7; simp at k0 k1 k2 k3 k4 k5 k6 k7
  have hs4 := hb4.lt
  have HB4 := Lib.hid hb4
  have HI9 := Lib.hid hI9
  have HK9 := Lib.hid hK9
  clear hb4 hI9 hK9
  repeat go_step
  have hKw : Kept (foot bt bm bk) w w9 := Kept.trans (Kept.of_below (Kept.to_below (S := fun _ => False) (by repeat (first | with_reducible refine Kept.more ?_ _ | with_reducible refine Kept.alloc ?_ _ | with_reducible refine Kept.drew ?_ | with_reducible refine Kept.drewN ?_ _ | exact Kept.refl _ _)) (fun _ h => h.elim))) HK9.out
  refine bodyPost_ret (v := .tuple #[replyZ, .bool ((evicted T d.e.key).2), .int .i64 (0)]) (by simp [results, Try.results11, go_sem, replyZ, replyV, zeroE, hs4, k0, k1, k2, k3, k4, k5, k6, k7]) rfl (HP.out undef _ _ ⟨rfl, ?_, ?_⟩)
  · refine isTab_box HI9.out HB4.out (by simp [notU8]) ?_ (by omega) (by omega) (by omega)
    repeat (first | with_reducible exact Kept.refl _ _ | refine Kept.setCell ?_ (by exact Or.inl rfl) _)
  · repeat (first | with_reducible exact hKw | refine Kept.setCell ?_ (by exact Or.inr (by simp)) _)
theorem done_any {w : World} {bt bm bk : Nat} {T : Tab} {N : Int} (h : IsTab w bt bm bk T) (hv : Inv T N) (hN : N ≤ 576460752303423488) (d : Do) (v : Value) (NS : Nat → Prop) (hbs : Bts w NS v d.e.b) (hk : d.e.key.size ≤ 140737488351232) (hns : ∀ b, NS b → ¬ foot bt bm bk b) :
    Calls Try.prog 11 #[.pointer (some ⟨bt, 0, none⟩), doV d v] w (DonePost w bt bm bk T d) := by
  by_cases h1 : d.kind = 1
  · exact done_1 h hv hN d v NS hbs hk hns h1
  by_cases h2 : d.kind = 2
  · exact done_2 h hv hN d v NS hbs hk hns h2
  by_cases h3 : d.kind = 3
  · exact done_3 h hv hN d v NS hbs hk hns h3
  by_cases h4 : d.kind = 4
  · exact done_4 h hv hN d v NS hbs hk hns h4
  by_cases h6 : d.kind = 6
  · exact done_6 h hv hN d v NS hbs hk hns h6
  · exact done_5 h hv hN d v NS hbs hk hns ⟨h1, h2, h3, h4, h6⟩
end Go.Proofs.Ytibolfdgbbaclaa

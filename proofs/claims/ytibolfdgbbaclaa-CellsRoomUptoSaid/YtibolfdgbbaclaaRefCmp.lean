/-
  What is proved: the contract of the reference's comparison of tags.
  Conditions: bounds under which nothing wraps.
-/
import Derived.Test.YtibolfdgbbaclaaLawBase
import Derived.Deep.DeepCutAuto
import Derived.Deep.CutBlock
open Go Go.RowKit Go.Ice
namespace Go.Proofs.Ytibolfdgbbaclaa
set_option maxRecDepth 100000
set_option linter.unusedVariables false
set_option linter.unusedSimpArgs false
attribute [local go_sem] gives givesUpon later_self more_cell more_frozen more_block more_more more_drew more_setCell more_of_drew more_of_drewN more_size lt_plus lt_plus2 lt_plus3 lt_plus4 swap_size swap_cell swap_frozen swap_setCell swap_drew swap_drewN ne_low ne_low1 ne_low2 ne_low3 ne_low4 Instr.field part asAgg List.extract_toArray List.extract_eq_take_drop
theorem tcmp_lt {a b : Tag} : tcmp a b = if a.seq < b.seq then -1 else if b.seq < a.seq then 1 else if a.who < b.who then -1 else if b.who < a.who then 1 else if a.op < b.op then -1 else if b.op < a.op then 1 else 0 := by
  unfold tcmp orI cmpI
  by_cases h1 : a.seq < b.seq <;> by_cases h2 : b.seq < a.seq <;> by_cases h3 : a.who < b.who <;> by_cases h4 : b.who < a.who <;> by_cases h5 : a.op < b.op <;> by_cases h6 : b.op < a.op <;> simp [h1, h2, h3, h4, h5, h6]
def upTo (a b : Tag) (j : Nat) : Prop := (0 < j → a.seq = b.seq) ∧ (1 < j → a.who = b.who) ∧ (2 < j → a.op = b.op)
def tagL (a : Tag) (j : Nat) : Int := if j = 0 then a.seq else if j = 1 then a.who else a.op
theorem upTo_step {a b : Tag} {j : Nat} (hj : j < 3) (h : upTo a b j) (he : tagL a j = tagL b j) : upTo a b (j + 1) := by
  obtain ⟨h1, h2, h3⟩ := h
  unfold tagL at he
  refine ⟨fun _ => ?_, fun _ => ?_, fun _ => ?_⟩
  · by_cases h0 : j = 0
    · simpa [h0] using he
    · exact h1 (by omega)
  · by_cases h0 : j = 1
    · simpa [h0] using he
    · exact h2 (by omega)
  · have h0 : j = 2 := by omega
    simpa [h0] using he
theorem upTo_lt {a b : Tag} {j : Nat} (hj : j < 3) (h : upTo a b j) (hl : tagL a j < tagL b j) : tcmp a b = -1 := by
  obtain ⟨h1, h2, h3⟩ := h
  rw [tcmp_lt]
  unfold tagL at hl
  by_cases h0 : j = 0
  · subst h0; simp at hl; simp [hl]
  by_cases h0' : j = 1
  · subst h0'; simp at hl; have := h1 (by omega); simp [this, hl]
  · have h0'' : j = 2 := by omega
    subst h0''; simp at hl; have e1 := h1 (by omega); have e2 := h2 (by omega); simp [e1, e2, hl]
theorem upTo_gt {a b : Tag} {j : Nat} (hj : j < 3) (h : upTo a b j) (hl : tagL b j < tagL a j) : tcmp a b = 1 := by
  obtain ⟨h1, h2, h3⟩ := h
  rw [tcmp_lt]
  unfold tagL at hl
  by_cases h0 : j = 0
  · subst h0
    simp at hl
    have hl' : ¬ a.seq < b.seq := by omega
    simp [hl, hl']
  by_cases h0' : j = 1
  · subst h0'
    simp at hl
    have hl' : ¬ a.who < b.who := by omega
    have := h1 (by omega)
    simp [this, hl, hl']
  · have h0'' : j = 2 := by omega
    subst h0''
    simp at hl
    have hl' : ¬ a.op < b.op := by omega
    have e1 := h1 (by omega)
    have e2 := h2 (by omega)
    simp [e1, e2, hl, hl']
theorem upTo_all {a b : Tag} (h : upTo a b 3) : tcmp a b = 0 := by
  obtain ⟨h1, h2, h3⟩ := h
  rw [tcmp_lt, h1 (by omega), h2 (by omega), h3 (by omega)]
  simp
theorem tag_cell {w : World} {g j : Nat} {a : Tag} (h : Blk w g #[.int .i64 a.seq, .int .i64 a.who, .int .i64 a.op] 3) (hj : j < 3) : w.cell? ⟨g, j, none⟩ = some (.int .i64 (tagL a j)) := by
  rw [h.cell]
  match j, hj with
  | 0, _ => rfl
  | 1, _ => rfl
  | 2, _ => rfl
set_option maxHeartbeats 2000000 in
theorem compareR_any (a b : Tag) (w : World) : Calls Try.prog 22 #[a.v, b.v] w fun e w' => e = .returned (.int .i64 (tcmp a b)) ∧ Below w.heap.size w w' := by
  unfold Tag.v
  generalize hr : tcmp a b = R
  have HR := Lib.hid hr
  clear hr
  go_enter Try.func22, Try.ntmps22
  go_upto_region 3 with fail
  go_cut [7] (fun i wx => i = .int .i64 0 ∧ Hid (Below w.heap.size w wx) ∧ Hid (Blk wx (w.heap.size + 1 + 1) #[.int .i64 a.seq, .int .i64 a.who, .int .i64 a.op] 3) ∧ Hid (Blk wx (w.heap.size + 1 + 1 + 1) #[.int .i64 b.seq, .int .i64 b.who, .int .i64 b.op] 3))
  case first =>
    go_wp2
    go_meet
    have a1 := Blk.of_alloc ((w.alloc (.cells #[.int .i64 a.seq, .int .i64 a.who, .int .i64 a.op] 32)).alloc (.cells #[.int .i64 b.seq, .int .i64 b.who, .int .i64 b.op] 32)) #[.int .i64 a.seq, .int .i64 a.who, .int .i64 a.op] 3
    have a2 := Blk.of_alloc (((w.alloc (.cells #[.int .i64 a.seq, .int .i64 a.who, .int .i64 a.op] 32)).alloc (.cells #[.int .i64 b.seq, .int .i64 b.who, .int .i64 b.op] 32)).alloc (.cells #[.int .i64 a.seq, .int .i64 a.who, .int .i64 a.op] 3)) #[.int .i64 b.seq, .int .i64 b.who, .int .i64 b.op] 3
    simp only [alloc_size] at a1 a2
    exact ⟨rfl, (Kept.to_below' (S := fun _ => False) (by repeat (first | with_reducible refine Kept.more ?_ _ | with_reducible refine Kept.alloc ?_ _ | with_reducible refine Kept.drew ?_ | with_reducible refine Kept.drewN ?_ _ | exact Kept.refl _ _)) (by omega) (fun _ h => h.elim)), a1.alloc _, a2⟩
  case rest =>
  obtain ⟨rfl, HB, Hx, Hy⟩ := hcut
  have hws := HB.out.size
  have hx1 := Hx.out.lt
  have hx2 := Hy.out.lt
  go_wp2
  go_loopg [7] 3 (fun k i wx => ∃ j : Nat, j ≤ 3 ∧ k = 3 - j ∧ i = .int .i64 j ∧ Hid (upTo a b j) ∧ Later wc wx)
  case atStart => exact ⟨0, by omega, by omega, rfl, Lib.hid ⟨fun h => by omega, fun h => by omega, fun h => by omega⟩, later_refl _⟩
  case round =>
    obtain ⟨j, hj, rfl, rfl, HE, e, rfl⟩ := hrel
    by_cases hlt : j < 3
    · have q1 := tag_cell Hx.out hlt
      have q2 := tag_cell Hy.out hlt
      have hj0 : (0 : Int) ≤ (j : Int) := by omega
      have hj1 : (j : Int) < 3 := by omega
      have hjt : ((j : Int)).toNat = j := by omega
      have Hlt := Lib.hid (upTo_lt hlt HE.out)
      have Hgt := Lib.hid (upTo_gt hlt HE.out)
      have Heq := Lib.hid (upTo_step hlt HE.out)
      generalize tagL a j = x at *
      generalize tagL b j = y at *
      rcases Int.lt_trichotomy x y with h | h | h
      · have HD := Lib.hid (show R = -1 by rw [← HR.out]; exact Hlt.out h)
        clear Hlt Hgt Heq
        go_wp2
        refine wp_region_mix_lit [(0,false),(1,false),(2,false),(3,false),(4,false),(5,false),(6,false),(7,false),(8,false)] (by kernel_rfl) (by kernel_rfl) ?_
        iterate 9 (refine mix_step rfl (fun K hK => ?_); go_simp; refine hK _ ?_; clear hK K)
        refine mix_done (fun e6 => ?_)
        go_wp2
        try rw [Exit.noGoto_ret]
        go_ret
        exact ⟨by rw [HD.out] <;> rfl, HB.out.trans (Kept.to_below' (S := fun _ => False) (by repeat (first | with_reducible refine Kept.more ?_ _ | with_reducible refine Kept.alloc ?_ _ | with_reducible refine Kept.drew ?_ | with_reducible refine Kept.drewN ?_ _ | exact Kept.refl _ _)) (by omega) (fun _ h => h.elim))⟩
      · have HE2 := Lib.hid (Heq.out h)
        subst h
        have hx0 : ¬ x < x := by omega
        clear Hlt Hgt Heq
        go_wp2
        refine wp_region_mix_lit [(0,false),(1,false),(2,false),(3,false),(4,false),(5,false),(6,false),(7,false),(8,false)] (by kernel_rfl) (by kernel_rfl) ?_
        iterate 9 (refine mix_step rfl (fun K hK => ?_); go_simp; refine hK _ ?_; clear hK K)
        refine mix_done (fun e6 => ?_)
        go_wp2
        refine wp_region_mix_lit [(0,false),(1,false),(2,false),(3,false),(4,false),(5,false),(6,false),(7,false),(8,false)] (by kernel_rfl) (by kernel_rfl) ?_
        iterate 9 (refine mix_step rfl (fun K hK => ?_); go_simp; refine hK _ ?_; clear hK K)
        refine mix_done (fun e7 => ?_)
        go_wp2
        go_roundg (3 - (j + 1))
        case measure => omega
        case rel => exact ⟨j + 1, by omega, rfl, by go_num, HE2, _, rfl⟩
      · have HD := Lib.hid (show R = 1 by rw [← HR.out]; exact Hgt.out h)
        have hx0 : ¬ x < y := by omega
        clear Hlt Hgt Heq
        go_wp2
        refine wp_region_mix_lit [(0,false),(1,false),(2,false),(3,false),(4,false),(5,false),(6,false),(7,false),(8,false)] (by kernel_rfl) (by kernel_rfl) ?_
        iterate 9 (refine mix_step rfl (fun K hK => ?_); go_simp; refine hK _ ?_; clear hK K)
        refine mix_done (fun e6 => ?_)
        go_wp2
        refine wp_region_mix_lit [(0,false),(1,false),(2,false),(3,false),(4,false),(5,false),(6,false),(7,false),(8,false)] (by kernel_rfl) (by kernel_rfl) ?_
        iterate 9 (refine mix_step rfl (fun K hK => ?_); go_simp; refine hK _ ?_; clear hK K)
        refine mix_done (fun e7 => ?_)
        go_wp2
        try rw [Exit.noGoto_ret]
        go_ret
        exact ⟨by rw [HD.out] <;> rfl, HB.out.trans (Kept.to_below' (S := fun _ => False) (by repeat (first | with_reducible refine Kept.more ?_ _ | with_reducible refine Kept.alloc ?_ _ | with_reducible refine Kept.drew ?_ | with_reducible refine Kept.drewN ?_ _ | exact Kept.refl _ _)) (by omega) (fun _ h => h.elim))⟩
    · have hjn : j = 3 := by omega
      subst hjn
      have HD := Lib.hid (show R = 0 by rw [← HR.out]; exact upTo_all HE.out)
      go_wp2
      try rw [Exit.noGoto_ret]
      go_ret
      exact ⟨by rw [HD.out] <;> rfl, HB.out.trans (Kept.to_below' (S := fun _ => False) (by repeat (first | with_reducible refine Kept.more ?_ _ | with_reducible refine Kept.alloc ?_ _ | with_reducible refine Kept.drew ?_ | with_reducible refine Kept.drewN ?_ _ | exact Kept.refl _ _)) (by omega) (fun _ h => h.elim))⟩
end Go.Proofs.Ytibolfdgbbaclaa

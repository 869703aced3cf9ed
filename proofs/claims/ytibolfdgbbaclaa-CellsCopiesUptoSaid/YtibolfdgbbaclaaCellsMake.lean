/-
  What is proved: the contract of the method make of a table of cells.
  Conditions: bounds under which nothing wraps.
-/
import Derived.Test.YtibolfdgbbaclaaCellsInv
import Derived.Test.YtibolfdgbbaclaaCellsVict
import Derived.Deep.DeepCutAuto
open Go Go.RowKit Go.Ice
namespace Go.Proofs.Ytibolfdgbbaclaa
set_option maxRecDepth 100000
set_option linter.unusedVariables false
set_option linter.unusedSimpArgs false
attribute [local go_sem] gives givesUpon later_self more_cell more_frozen more_block more_more more_drew more_setCell more_of_drew more_of_drewN more_size lt_plus lt_plus2 lt_plus3 lt_plus4 Instr.field part asAgg List.extract_toArray List.extract_eq_take_drop
def droppedAll (T : Tab) (l : List ByteArray) : Tab := l.foldl (dropped hbucket) T
theorem droppedAll_take (T : Tab) (l : List ByteArray) (j : Nat) (hj : j < l.length) : droppedAll T (l.take (j + 1)) = dropped hbucket (droppedAll T (l.take j)) l[j] := by
  unfold droppedAll
  rw [List.take_succ_eq_append_getElem hj, List.foldl_append]
  rfl
theorem inv_dropped1 {T : Tab} {N : Int} (h : Inv T N) (k : ByteArray) : Inv (dropped hbucket T k) (N + 1) := (inv_dropped h k).mono (by split <;> omega)
set_option maxHeartbeats 1000000 in
theorem make_any {w : World} {bt bm bk : Nat} {T : Tab} {N : Int} (h : IsTab w bt bm bk T) (hv : Inv T N) (hN : N ≤ 576460752303423488)
    (e : Ent) (A : Option Addr) (cc : Nat) (hek : e.key.size ≤ 140737488351232) (heb : e.b.length ≤ 140737488351232) :
    Calls Try.prog 43 #[.pointer (some ⟨bt, 0, none⟩), entV e (.slice A e.b.length cc)] w fun en w' => en = .returned (.int .i64 (if (victims T e).2 then 0 else 30)) ∧ IsTab w' bt bm bk (made T e) ∧ Kept (foot bt bm bk) w w' := by
  have hl1 := hv.len
  have hl2 := hv.cells
  have hvict := fun W (hB : Below w.heap.size w W) => victims_any (h.below hB) (hv.bd (by omega)) (by omega) (fun d hd => (hv.used d hd).1) hv.distinct (by omega) e A cc hek heb
  unfold entV at hvict ⊢
  have hmem : ∀ k ∈ (victims T e).1, k.size ≤ 250 := fun k hk => by
    obtain ⟨c, hc, rfl⟩ := victims_mem k hk
    exact (hv.size c hc).1
  have hmd : made T e = if (victims T e).2 then droppedAll T (victims T e).1 else T := rfl
  rw [hmd]
  clear hmd
  generalize victims T e = r at *
  obtain ⟨out, ok⟩ := r
  dsimp only at *
  have Hvict := Lib.hid hvict
  have Hmem := Lib.hid hmem
  have H0 := Lib.hid h
  have Hv := Lib.hid hv
  have l0 := h.lt
  clear hvict hmem h hv hl1 hl2
  go_enter Try.func43, Try.ntmps43
  go_upto_if 16 with (go_at_call 62; refine (Hvict.out _ (Kept.to_below (S := fun _ => False) (by repeat (first | with_reducible refine Kept.more ?_ _ | with_reducible refine Kept.alloc ?_ _ | with_reducible refine Kept.drew ?_ | with_reducible refine Kept.drewN ?_ _ | exact Kept.refl _ _)) (fun _ h => h.elim))).mono ?_; rintro e1 w1 ⟨v1, rfl, hr1, hB1⟩)
  have hB1' : Below w.heap.size w w1 := Below.trans (Kept.to_below (S := fun _ => False) (by repeat (first | with_reducible refine Kept.more ?_ _ | with_reducible refine Kept.alloc ?_ _ | with_reducible refine Kept.drew ?_ | with_reducible refine Kept.drewN ?_ _ | exact Kept.refl _ _)) (fun _ h => h.elim)) (hB1.mono (by simp))
  cases ok
  · go_wp2
    go_ret
    exact ⟨rfl, H0.out.below hB1', Kept.of_below hB1'⟩
  · obtain ⟨A1, c1, rfl, hrow, hl⟩ := hr1
    rw [strV_len] at hrow hl ⊢
    have Hr := Lib.hid (show ∀ j, (hj : j < out.length) → ∃ b off, A1 = some ⟨b, off, none⟩ ∧ w.heap.size ≤ b ∧ w1.cell? ⟨b, off + j, none⟩ = some (.string out[j]) from fun j hj => by
      obtain ⟨b, off, h1, h2, h3⟩ := hrow (by omega)
      refine ⟨b, off, h1, by simp at h2; omega, ?_⟩
      have := h3 j hj
      dsimp only at this
      rwa [strV_at out j hj] at this)
    clear hrow
    go_wp2
    clear hB1 Hvict
    have HB1 := Lib.hid hB1'
    clear hB1'
    go_loopg [19] out.length (fun k i wx => ∃ j : Nat, j ≤ out.length ∧ k = out.length - j ∧ i = .int .i64 j ∧ Hid (IsTab wx bt bm bk (droppedAll T (out.take j))) ∧ Hid (Inv (droppedAll T (out.take j)) (N + j)) ∧ Hid (Kept (foot bt bm bk) w1 wx))
    case atStart => exact ⟨0, by omega, by omega, rfl, Lib.hid (H0.out.below HB1.out), Lib.hid (by simpa [droppedAll] using Hv.out), Lib.hid (Kept.refl _ _)⟩
    case round =>
      obtain ⟨j, hj, rfl, rfl, HI, HV, HK⟩ := hrel
      by_cases hlt : j < out.length
      · obtain ⟨b, off, rfl, hb, hcell⟩ := Hr.out j hlt
        have hcw : wr.cell? ⟨b, off + j, none⟩ = some (.string out[j]) := by
          rw [World.cell?_of_block (a := ⟨b, off + j, none⟩) (HK.out.block b (World.block_lt_of_cell? w1 ⟨b, off + j, none⟩ hcell) (by rintro (h | h | h) <;> omega))]
          exact hcell
        have Ht := Lib.hid (droppedAll_take T out j hlt)
        have hks := Hmem.out _ (List.getElem_mem hlt)
        generalize out[j] = k at hcell hcw Ht hks
        have Hdrop := Lib.hid (drop_any HI.out (HV.out.bd (by omega)) k (by omega))
        clear hcell
        go_wp2_with (go_at_call 53; refine (Hdrop.out).mono ?_; rintro e9 w9 ⟨rfl, hI9, hK9⟩)
        go_roundg (out.length - (j + 1))
        case measure => omega
        case rel =>
          refine ⟨j + 1, by omega, rfl, by go_num, Lib.hid (by rw [Ht.out]; exact hI9), Lib.hid (by rw [Ht.out]; have := inv_dropped1 HV.out k; simpa [Int.add_assoc] using this), Lib.hid (HK.out.trans hK9)⟩
      · have hjn : j = out.length := by omega
        subst hjn
        rw [List.take_of_length_le (Nat.le_refl _)] at HI HV
        go_wp2
        try rw [Exit.noGoto_ret]
        go_ret
        exact ⟨rfl, HI.out, (Kept.of_below HB1.out).trans HK.out⟩
end Go.Proofs.Ytibolfdgbbaclaa

/-
  What is proved: the contract of the method Clean of a table of cells, where it cleans.
  Conditions: bounds under which nothing wraps.
-/
import Derived.Test.YtibolfdgbbaclaaCellsOps2
import Derived.Test.YtibolfdgbbaclaaBase2
open Go Go.RowKit Go.Ice
namespace Go.Proofs.Ytibolfdgbbaclaa
set_option maxRecDepth 100000
set_option linter.unusedVariables false
set_option linter.unusedSimpArgs false
attribute [local go_sem] gives givesUpon later_self more_cell more_frozen more_block more_more more_drew more_setCell more_of_drew more_of_drewN more_size lt_plus lt_plus2 lt_plus3 lt_plus4 Instr.field part asAgg List.extract_toArray List.extract_eq_take_drop
theorem cfind_self {L : List Cel} {c : Cel} (h : c ∈ L) (hn : (L.map (·.e.key)).Nodup) : cfind L c.e.key = some c := by
  induction L with
  | nil => cases h
  | cons d L ih =>
    unfold cfind at *
    simp only [List.map_cons, List.nodup_cons] at hn
    rw [List.find?_cons]
    rcases List.mem_cons.1 h with rfl | h
    · simp
    · have hne : ¬ d.e.key = c.e.key := fun e => hn.1 (e ▸ List.mem_map.2 ⟨c, h, rfl⟩)
      simp only [hne, decide_false]
      exact ih h hn.2
/-- Only the map has turned. -/
theorem isTab_map {w w' : World} {bt bm bk : Nat} {T : Tab} (h : IsTab w bt bm bk T) (hk : Kept (fun b => b = bm) w w') {L' : List Cel} (hM : MapAt w' bm (assoc L'))
    (hv : ∀ c ∈ L', c ∈ T.L ∨ Bts w (off bt bm bk) c.sv c.e.b) : IsTab w' bt bm bk { T with L := L' } := by
  obtain ⟨cap, h4⟩ := h.tab
  obtain ⟨tc, h5, h6, h6n⟩ := h.toks
  refine isTab_build h (hk.mono fun b hb => .inr (.inl hb)) _ (cs' := tabCells T bm bk cap) ((hk.block bt h.lt.1 h.tm).trans h4) ⟨cap, rfl⟩ hM (tc := tc) ((hk.block bk h.lt.2.2 (fun e => h.bmk e.symm)).trans h5) h6 hv h6n
set_option maxHeartbeats 1000000 in
theorem clean_yes {w : World} {bt bm bk : Nat} {T : Tab} (h : IsTab w bt bm bk T) (k : ByteArray) (t : Tag) (c : Cel) (hf : cfind T.L k = some c) (ht : tcmp (tagE c.e) t ≤ 0) :
    Calls Try.prog 32 #[.pointer (some ⟨bt, 0, none⟩), .string k, t.v] w fun e w' => e = .returned (.bool true) ∧ IsTab w' bt bm bk (cleaned T c) ∧ Kept (foot bt bm bk) w w' := by
  obtain ⟨cap, tc, hT, hTk, htc, hcell, hfro, hfrk, hcelk⟩ := h.open_
  have Hv0 := Lib.hid (look_has hf)
  have c4 : w.cell? ⟨bt, 4, none⟩ = some (.map (some bm)) := hcell 4
  have hbt := h.lt.1
  have hM := h.cells
  have hbm : bm ≠ bt := fun e => h.tm e.symm
  have hck := (cfind_some hf).2
  subst hck
  obtain ⟨s, u, o⟩ := t
  obtain ⟨A, cc, hsv, _, _⟩ := h.vals c (cfind_some hf).1
  unfold celV at Hv0
  rw [hsv] at Hv0
  have hcmp := fun W => compare_any (tagE c.e) ⟨s, u, o⟩ W
  unfold Tag.v tagE at hcmp
  dsimp only at hcmp
  have Hcmp := Lib.hid hcmp
  unfold Tag.v
  dsimp only
  unfold tagE at ht
  have H0 := Lib.hid h
  have HT := Lib.hid hT
  have HTk := Lib.hid hTk
  have Htc := Lib.hid htc
  have Hf := Lib.hid hf
  clear hcell hfro hfrk hcelk h hT hTk htc hf hcmp
  generalize hx : tcmp ⟨c.e.seq, c.e.who, c.e.op⟩ ⟨s, u, o⟩ = x at *
  clear hx
  have Hsv := Lib.hid hsv
  clear hsv
  go_enter Try.func32, Try.ntmps32
  go_wp2_with (first
    | (at_lookup; refine wpList_lookup' (o := ⟨some 17, .lookup 76 (.tmp 15) (.tmp 16) true, _, _, _, _⟩) rfl 76 9 51 (.tmp 15) (.tmp 16) true rfl bm c.e.key rfl rfl Try.underlying76 Try.underlying9 celZ celZ_zero (assoc T.L) (by repeat (first | with_reducible refine MapAt.more ?_ _ | with_reducible refine MapAt.alloc ?_ _ | with_reducible refine MapAt.drew ?_ | with_reducible refine MapAt.drewN ?_ _ | with_reducible assumption | refine MapAt.setCell ?_ (by first | assumption | (simp only []; omega)) _)) _ Hv0.out ?_)
    | (go_at_call 42; refine (Hcmp.out _).mono ?_; rintro x1_e x1_w ⟨rfl, x1_B⟩; obtain ⟨x1, rfl⟩ := later_of_below x1_B; clear x1_B))
  refine wp_region_mix_lit [(0,false),(1,false),(2,false),(3,false),(4,false),(5,false),(6,true)] (by kernel_rfl) (by kernel_rfl) ?_
  iterate 6 (refine mix_step rfl (fun K hK => ?_); go_simp; refine hK _ ?_; clear hK K)
  refine mix_update rfl rfl (by kernel_rfl) 76 9 51 (.tmp 34) (.tmp 35) (.tmp 36) rfl bm c.e.key (celV { c with clean := true }) rfl rfl (by simp [celV, Hsv.out]; rfl) Try.underlying76 Try.underlying9 (assoc T.L) (by repeat (first | with_reducible refine MapAt.more ?_ _ | with_reducible refine MapAt.alloc ?_ _ | with_reducible refine MapAt.drew ?_ | with_reducible refine MapAt.drewN ?_ _ | with_reducible assumption | refine MapAt.setCell ?_ (by first | assumption | (simp only []; omega)) _)) (fun w9 hM9 hK9 => ?_)
  refine mix_done (fun e2 => ?_)
  go_wp2
  go_ret
  have hK : Kept (fun b => b = bm) w (more w9 e2) := by
    refine Kept.more ?_ _
    refine Kept.trans ?_ hK9
    repeat (first | with_reducible refine Kept.more ?_ _ | with_reducible refine Kept.alloc ?_ _ | with_reducible refine Kept.drew ?_ | with_reducible refine Kept.drewN ?_ _ | with_reducible assumption | with_reducible exact Kept.refl _ _ | refine Kept.setCell ?_ (by first | exact Or.inl (Or.inl rfl) | exact Or.inl (Or.inr (Or.inl rfl)) | exact Or.inl (Or.inr (Or.inr rfl)) | (right; simp only []; omega)) _)
  refine ⟨rfl, ?_, hK.mono fun b hb => .inr (.inl hb)⟩
  refine isTab_map H0.out hK ?_ ?_
  · have hM := hM9.more e2
    rw [aput_assoc (c := { c with clean := true })] at hM
    exact hM
  · intro d hd
    rcases mem_cput hd with rfl | hd
    · exact .inr (H0.out.vals c (cfind_some Hf.out).1)
    · exact .inl hd
end Go.Proofs.Ytibolfdgbbaclaa

/-
  What is proved: contracts of the methods Size, Evict, Clean of a table of cells.
  Conditions: bounds under which nothing wraps.
-/
import Derived.Test.YtibolfdgbbaclaaCellsOps1
open Go Go.RowKit Go.Ice
namespace Go.Proofs.Ytibolfdgbbaclaa
set_option maxRecDepth 100000
set_option linter.unusedVariables false
set_option linter.unusedSimpArgs false
attribute [local go_sem] gives givesUpon later_self more_cell more_frozen more_block more_more more_drew more_setCell more_of_drew more_of_drewN more_size lt_plus Instr.field part asAgg List.extract_toArray List.extract_eq_take_drop

theorem assoc_length (L : List Cel) : (assoc L).length = L.length := by simp [assoc]
theorem run_len_map {w : World} {bm : Nat} {L : List Cel} (h : MapAt w bm (assoc L)) : (Builtin.len_ #[76] 3 #[.map (some bm)]).run Try.prog w = .ok (.int .i64 L.length) w := by
  have := run_len_at (P := Try.prog) (t := 76) Try.underlying76 h #[76] 3 rfl
  rwa [assoc_length] at this
set_option maxHeartbeats 1000000 in
theorem size_tab {w : World} {bt bm bk : Nat} {T : Tab} (h : IsTab w bt bm bk T) (hl : T.L.length ≤ 140737488351232) :
    Calls Try.prog 12 #[.pointer (some ⟨bt, 0, none⟩)] w fun e w' => e = .returned (.tuple #[.int .i64 T.L.length, .int .i64 T.bytes]) ∧ Below w.heap.size w w' := by
  obtain ⟨cap, tc, hT, hTk, htc, hcell, hfro, hfrk, hcelk⟩ := h.open_
  have c4 : w.cell? ⟨bt, 4, none⟩ = some (.map (some bm)) := hcell 4
  have c7 : w.cell? ⟨bt, 7, none⟩ = some (.int .i64 T.bytes) := hcell 7
  have hbt := h.lt.1
  have hM := fun e => run_len_map (h.cells.more e)
  clear hcell hfro hfrk hcelk h hT hTk htc
  go_enter Try.func12, Try.ntmps12
  go_wp2
  refine wp_region_mix_lit [(0,false),(1,false),(2,false),(3,false),(4,false),(5,false),(6,false),(7,false),(8,false),(9,false),(10,false)] (by kernel_rfl) (by kernel_rfl) ?_
  iterate 11 (refine mix_step rfl (fun K hK => ?_); go_simp; refine hK _ ?_; clear hK K)
  refine mix_done (fun e2 => ?_)
  go_wp2
  go_ret2
  exact ⟨rfl, (Kept.to_below (S := fun _ => False) (by repeat (first | with_reducible refine Kept.more ?_ _ | with_reducible refine Kept.alloc ?_ _ | with_reducible refine Kept.drew ?_ | with_reducible refine Kept.drewN ?_ _ | exact Kept.refl _ _)) (fun _ h => h.elim))⟩
set_option maxHeartbeats 1000000 in
theorem evict_no {w : World} {bt bm bk : Nat} {T : Tab} (h : IsTab w bt bm bk T) (hd : Bd T) (k : ByteArray) (hc : cclean (cfind T.L k) = false) :
    Calls Try.prog 33 #[.pointer (some ⟨bt, 0, none⟩), .string k] w fun e w' => e = .returned (.bool false) ∧ Below w.heap.size w w' := by
  obtain ⟨cap, tc, hT, hTk, htc, hcell, hfro, hfrk, hcelk⟩ := h.open_
  obtain ⟨v0, hv0, k0, x0, y0, z0, h0, a0, n0, c0, w0, l0, u0, hve, hk0, hn0, hcs, hcl⟩ := look_parts h hd k
  have c4 : w.cell? ⟨bt, 4, none⟩ = some (.map (some bm)) := hcell 4
  have hbt := h.lt.1
  have hM := h.cells
  rw [hc] at hcl
  subst hcl
  subst hve
  have Hv0 := Lib.hid hv0
  clear hcell hfro hfrk hcelk h hT hTk htc hv0 hcs hc hd
  go_enter Try.func33, Try.ntmps33
  go_wp2_with (at_lookup; refine wpList_lookup' (o := ⟨some 13, .lookup 76 (.tmp 11) (.tmp 12) false, _, _, _, _⟩) rfl 76 9 51 (.tmp 11) (.tmp 12) false rfl bm k rfl rfl Try.underlying76 Try.underlying9 celZ celZ_zero (assoc T.L) (by repeat (first | with_reducible refine MapAt.more ?_ _ | with_reducible refine MapAt.alloc ?_ _ | with_reducible refine MapAt.drew ?_ | with_reducible refine MapAt.drewN ?_ _ | with_reducible assumption | refine MapAt.setCell ?_ (by first | assumption | (simp only []; omega)) _)) _ Hv0.out ?_)
  go_ret
  exact ⟨rfl, (Kept.to_below (S := fun _ => False) (by repeat (first | with_reducible refine Kept.more ?_ _ | with_reducible refine Kept.alloc ?_ _ | with_reducible refine Kept.drew ?_ | with_reducible refine Kept.drewN ?_ _ | exact Kept.refl _ _)) (fun _ h => h.elim))⟩
set_option maxHeartbeats 1000000 in
theorem evict_yes {w : World} {bt bm bk : Nat} {T : Tab} (h : IsTab w bt bm bk T) (hd : Bd T) (k : ByteArray) (hk : k.size ≤ 140737488351232) (hc : cclean (cfind T.L k) = true) :
    Calls Try.prog 33 #[.pointer (some ⟨bt, 0, none⟩), .string k] w fun e w' => e = .returned (.bool true) ∧ IsTab w' bt bm bk (dropped hbucket T k) ∧ Kept (foot bt bm bk) w w' := by
  obtain ⟨cap, tc, hT, hTk, htc, hcell, hfro, hfrk, hcelk⟩ := h.open_
  obtain ⟨v0, hv0, k0, x0, y0, z0, h0, a0, n0, c0, w0, l0, u0, hve, hk0, hn0, hcs, hcl⟩ := look_parts h hd k
  have c4 : w.cell? ⟨bt, 4, none⟩ = some (.map (some bm)) := hcell 4
  have hbt := h.lt.1
  have hM := h.cells
  rw [hc] at hcl
  subst hcl
  subst hve
  have Hv0 := Lib.hid hv0
  have H0 := Lib.hid h
  have HD := Lib.hid hd
  clear hcell hfro hfrk hcelk h hT hTk htc hv0 hcs hc hd
  go_enter Try.func33, Try.ntmps33
  go_wp2_with (first
    | (at_lookup; refine wpList_lookup' (o := ⟨some 13, .lookup 76 (.tmp 11) (.tmp 12) false, _, _, _, _⟩) rfl 76 9 51 (.tmp 11) (.tmp 12) false rfl bm k rfl rfl Try.underlying76 Try.underlying9 celZ celZ_zero (assoc T.L) (by repeat (first | with_reducible refine MapAt.more ?_ _ | with_reducible refine MapAt.alloc ?_ _ | with_reducible refine MapAt.drew ?_ | with_reducible refine MapAt.drewN ?_ _ | with_reducible assumption | refine MapAt.setCell ?_ (by first | assumption | (simp only []; omega)) _)) _ Hv0.out ?_)
    | (go_at_call 53; refine (drop_any H0.out HD.out k hk).mono ?_; rintro e9 w9 ⟨rfl, hI9, hK9⟩))
  go_ret
  exact ⟨rfl, hI9, hK9⟩
/-- What a look-up with 'ok' gives, where there is one. -/
theorem look_has {L : List Cel} {k : ByteArray} {c : Cel} (hf : cfind L k = some c) : lookV true celZ (aget (assoc L) k) = .tuple #[celV c, .bool true] := by
  rw [aget_assoc, hf]; rfl
theorem look_none {L : List Cel} {k : ByteArray} (hf : cfind L k = none) : lookV true celZ (aget (assoc L) k) = .tuple #[celZ, .bool false] := by
  rw [aget_assoc, hf]; rfl
def tagE (e : Ent) : Tag := ⟨e.seq, e.who, e.op⟩
def cleaned (T : Tab) (c : Cel) : Tab := { T with L := cput T.L { c with clean := true } }
set_option maxHeartbeats 1000000 in
theorem clean_no {w : World} {bt bm bk : Nat} {T : Tab} (h : IsTab w bt bm bk T) (k : ByteArray) (t : Tag) (hf : cfind T.L k = none) :
    Calls Try.prog 32 #[.pointer (some ⟨bt, 0, none⟩), .string k, t.v] w fun e w' => e = .returned (.bool false) ∧ Below w.heap.size w w' := by
  obtain ⟨cap, tc, hT, hTk, htc, hcell, hfro, hfrk, hcelk⟩ := h.open_
  have Hv0 := Lib.hid (look_none hf)
  have c4 : w.cell? ⟨bt, 4, none⟩ = some (.map (some bm)) := hcell 4
  have hbt := h.lt.1
  have hM := h.cells
  obtain ⟨s, u, o⟩ := t
  unfold Tag.v
  dsimp only
  clear hcell hfro hfrk hcelk h hT hTk htc hf
  go_enter Try.func32, Try.ntmps32
  go_wp2_with (at_lookup; refine wpList_lookup' (o := ⟨some 17, .lookup 76 (.tmp 15) (.tmp 16) true, _, _, _, _⟩) rfl 76 9 51 (.tmp 15) (.tmp 16) true rfl bm k rfl rfl Try.underlying76 Try.underlying9 celZ celZ_zero (assoc T.L) (by repeat (first | with_reducible refine MapAt.more ?_ _ | with_reducible refine MapAt.alloc ?_ _ | with_reducible refine MapAt.drew ?_ | with_reducible refine MapAt.drewN ?_ _ | with_reducible assumption | refine MapAt.setCell ?_ (by first | assumption | (simp only []; omega)) _)) _ Hv0.out ?_; unfold celZ)
  go_ret
  exact ⟨rfl, (Kept.to_below (S := fun _ => False) (by repeat (first | with_reducible refine Kept.more ?_ _ | with_reducible refine Kept.alloc ?_ _ | with_reducible refine Kept.drew ?_ | with_reducible refine Kept.drewN ?_ _ | exact Kept.refl _ _)) (fun _ h => h.elim))⟩
set_option maxHeartbeats 1000000 in
theorem clean_old {w : World} {bt bm bk : Nat} {T : Tab} (h : IsTab w bt bm bk T) (k : ByteArray) (t : Tag) (c : Cel) (hf : cfind T.L k = some c) (ht : 0 < tcmp (tagE c.e) t) :
    Calls Try.prog 32 #[.pointer (some ⟨bt, 0, none⟩), .string k, t.v] w fun e w' => e = .returned (.bool false) ∧ Below w.heap.size w w' := by
  obtain ⟨cap, tc, hT, hTk, htc, hcell, hfro, hfrk, hcelk⟩ := h.open_
  have Hv0 := Lib.hid (look_has hf)
  have c4 : w.cell? ⟨bt, 4, none⟩ = some (.map (some bm)) := hcell 4
  have hbt := h.lt.1
  have hM := h.cells
  obtain ⟨s, u, o⟩ := t
  obtain ⟨A, cc, hsv, _, _⟩ := h.vals c (cfind_some hf).1
  unfold celV at Hv0
  rw [hsv] at Hv0
  have hcmp := fun W => compare_any (tagE c.e) ⟨s, u, o⟩ W
  unfold Tag.v tagE at hcmp
  dsimp only at hcmp
  have Hcmp := Lib.hid hcmp
  unfold Tag.v
  dsimp only
  unfold tagE at ht
  clear hcell hfro hfrk hcelk h hT hTk htc hf hsv hcmp
  generalize hx : tcmp ⟨c.e.seq, c.e.who, c.e.op⟩ ⟨s, u, o⟩ = x at *
  clear hx
  go_enter Try.func32, Try.ntmps32
  go_wp2_with (first
    | (at_lookup; refine wpList_lookup' (o := ⟨some 17, .lookup 76 (.tmp 15) (.tmp 16) true, _, _, _, _⟩) rfl 76 9 51 (.tmp 15) (.tmp 16) true rfl bm k rfl rfl Try.underlying76 Try.underlying9 celZ celZ_zero (assoc T.L) (by repeat (first | with_reducible refine MapAt.more ?_ _ | with_reducible refine MapAt.alloc ?_ _ | with_reducible refine MapAt.drew ?_ | with_reducible refine MapAt.drewN ?_ _ | with_reducible assumption | refine MapAt.setCell ?_ (by first | assumption | (simp only []; omega)) _)) _ Hv0.out ?_)
    | (go_at_call 42; refine (Hcmp.out _).mono ?_; rintro x1_e x1_w ⟨rfl, x1_B⟩; obtain ⟨x1, rfl⟩ := later_of_below x1_B; clear x1_B))
  go_ret
  exact ⟨rfl, (Kept.to_below (S := fun _ => False) (by repeat (first | with_reducible refine Kept.more ?_ _ | with_reducible refine Kept.alloc ?_ _ | with_reducible refine Kept.drew ?_ | with_reducible refine Kept.drewN ?_ _ | exact Kept.refl _ _)) (fun _ h => h.elim))⟩
end Go.Proofs.Ytibolfdgbbaclaa

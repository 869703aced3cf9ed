/-
  What is proved: the law CellsRoom, as a call.
  Conditions: bounds under which nothing wraps.
-/
import Derived.Test.YtibolfdgbbaclaaRefCmp
import Derived.Test.YtibolfdgbbaclaaLawF
import Derived.Deep.DeepCutAuto
import Derived.Deep.CutBlock
open Go Go.RowKit Go.Ice
namespace Go.Proofs.Ytibolfdgbbaclaa
set_option maxRecDepth 100000
set_option linter.unusedVariables false
set_option linter.unusedSimpArgs false
attribute [local go_sem] gives givesUpon later_self more_cell more_frozen more_block more_more more_drew more_setCell more_of_drew more_of_drewN more_size lt_plus lt_plus2 lt_plus3 lt_plus4 swap_size swap_cell swap_frozen swap_setCell swap_drew swap_drewN ne_low ne_low1 ne_low2 ne_low3 ne_low4 Instr.field part asAgg List.extract_toArray List.extract_eq_take_drop
theorem tcmp_refl (a : Tag) : tcmp a a = 0 := by
  rw [tcmp_lt]
  simp
theorem tcmp_flip {a b : Tag} (h : tcmp a b ≤ 0) : 0 ≤ tcmp b a := by
  rw [tcmp_lt] at h ⊢
  by_cases h1 : a.seq < b.seq <;> by_cases h2 : b.seq < a.seq <;> by_cases h3 : a.who < b.who <;> by_cases h4 : b.who < a.who <;> by_cases h5 : a.op < b.op <;> by_cases h6 : b.op < a.op <;> simp [h1, h2, h3, h4, h5, h6] at h ⊢ <;> omega
theorem mem_cput_new (L : List Cel) (c : Cel) : c ∈ cput L c := (cfind_some (cfind_cput_self L c)).1
theorem mem_cput_old {L : List Cel} {c d : Cel} (h : c ∈ L) (hk : c.e.key ≠ d.e.key) : c ∈ cput L d := by
  unfold cput
  split
  · exact List.mem_map.2 ⟨c, h, if_neg hk⟩
  · exact List.mem_append.2 (.inl h)
/-- An entry that is there, or a newer one. -/
def Still (T : Tab) (c : Cel) : Prop := ∃ d ∈ T.L, d.e.key = c.e.key ∧ 0 ≤ tcmp (tagE d.e) (tagE c.e)
theorem still_same {T : Tab} {c : Cel} (h : c ∈ T.L) : Still T c := ⟨c, h, rfl, by rw [tcmp_refl]; exact Int.le_refl _⟩
theorem still_laid {T : Tab} {N : Int} (hv : Inv T N) {c x : Cel} (hc : c ∈ T.L) {y : Cel} (hf : cfind T.L y.e.key = some x) (he : y.e = x.e) : Still (laid T y) c := by
  by_cases hk : c.e.key = y.e.key
  · have h1 := cfind_self hc hv.keys
    rw [hk, hf] at h1
    cases h1
    refine ⟨{ y with used := T.uses + 1 }, mem_cput_new T.L { y with used := T.uses + 1 }, hk.symm, ?_⟩
    show 0 ≤ tcmp (tagE y.e) (tagE c.e)
    rw [he, tcmp_refl]
    exact Int.le_refl _
  · exact still_same (mem_cput_old (d := { y with used := T.uses + 1 }) hc hk)
theorem still_put {T : Tab} {N : Int} (hv : Inv T N) (e : Ent) (hok : (victims T e).2 = true) {c : Cel} (hc : c ∈ T.L) (hcl : c.clean = false) (y : Cel) (hy : y.e = e) (hle : c.e.key = e.key → tcmp (tagE c.e) (tagE e) ≤ 0) : Still (laid (made T e) y) c := by
  obtain ⟨_, _, _, _, _, g6⟩ := made_ok hv e hok
  have hm := (cfind_some (g6 c hc hcl)).1
  by_cases hk : c.e.key = y.e.key
  · refine ⟨{ y with used := (made T e).uses + 1 }, mem_cput_new (made T e).L { y with used := (made T e).uses + 1 }, hk.symm, ?_⟩
    show 0 ≤ tcmp (tagE y.e) (tagE c.e)
    rw [hy]
    rw [hy] at hk
    exact tcmp_flip (hle hk)
  · exact still_same (mem_cput_old (d := { y with used := (made T e).uses + 1 }) hm hk)
theorem still_stored {T : Tab} {N : Int} (hv : Inv T N) (e : Ent) (sv : Value) {c : Cel} (hc : c ∈ T.L) (hcl : c.clean = false) : Still (stored T e sv).1 c := by
  unfold stored
  cases hf : cfind T.L e.key with
  | some x =>
    have hxk := (cfind_some hf).2
    dsimp only
    by_cases h1 : 0 ≤ tcmp (tagE x.e) (tagE e)
    · rw [if_pos h1]
      exact still_laid hv hc (by rw [hxk]; exact hf) rfl
    · rw [if_neg h1]
      by_cases h2 : (victims T e).2
      · rw [if_pos h2]
        refine still_put hv e h2 hc hcl _ rfl fun hk => ?_
        have h3 := cfind_self hc hv.keys
        rw [hk, hf] at h3
        cases h3
        omega
      · rw [if_neg h2]
        exact still_same hc
  | none =>
    dsimp only
    by_cases h2 : (victims T e).2
    · rw [if_pos h2]
      refine still_put hv e h2 hc hcl _ rfl fun hk => ?_
      have h3 := cfind_self hc hv.keys
      rw [hk, hf] at h3
      cases h3
    · rw [if_neg h2]
      exact still_same hc
theorem still_filled {T : Tab} {N : Int} (hv : Inv T N) (e : Ent) (sv : Value) {c : Cel} (hc : c ∈ T.L) (hcl : c.clean = false) : Still (filled T e sv).1 c := by
  unfold filled
  cases hf : cfind T.L e.key with
  | some x =>
    have hxk := (cfind_some hf).2
    dsimp only
    by_cases h1 : 0 < tcmp (tagE x.e) (tagE e)
    · rw [if_pos h1]
      exact still_laid (x := x) (y := { x with whole := true }) hv hc (by show cfind T.L x.e.key = _; rw [hxk]; exact hf) rfl
    · rw [if_neg h1]
      by_cases h2 : (victims T e).2
      · rw [if_pos h2]
        refine still_put hv e h2 hc hcl _ rfl fun hk => ?_
        have h3 := cfind_self hc hv.keys
        rw [hk, hf] at h3
        cases h3
        omega
      · rw [if_neg h2]
        exact still_same hc
  | none =>
    dsimp only
    by_cases h2 : (victims T e).2
    · rw [if_pos h2]
      refine still_put hv e h2 hc hcl _ rfl fun hk => ?_
      have h3 := cfind_self hc hv.keys
      rw [hk, hf] at h3
      cases h3
    · rw [if_neg h2]
      exact still_same hc
theorem still_step {T : Tab} {N : Int} (hv : Inv T N) (d : Do) (sv : Value) {c : Cel} (hc : c ∈ T.L) (hcl : c.clean = false) : Still (stepT T d sv).1 c := by
  unfold stepT
  split
  · show Still (queried T d.e.key).1 c
    unfold queried
    split
    · exact still_same hc
    · cases hf : cfind T.L d.e.key with
      | none => exact still_same hc
      | some x => exact still_laid hv hc (by rw [(cfind_some hf).2]; exact hf) rfl
  split
  · show Still (storedA T d.e sv).1 c
    unfold storedA
    split
    · exact still_stored hv d.e sv hc hcl
    · exact still_same hc
  split
  · show Still (filledA T d.e d.tok sv).1 c
    unfold filledA
    split
    · split
      · exact still_filled hv d.e sv hc hcl
      · exact still_same hc
    · exact still_same hc
  split
  · show Still (cleanedA T d.e.key (tagE d.e)).1 c
    unfold cleanedA
    cases hf : cfind T.L d.e.key with
    | none => exact still_same hc
    | some x =>
      dsimp only
      split
      · exact still_same hc
      · by_cases hk : c.e.key = x.e.key
        · have h1 := cfind_self hc hv.keys
          have hxk := (cfind_some hf).2
          rw [hk, hxk, hf] at h1
          cases h1
          refine ⟨{ c with clean := true }, mem_cput_new T.L { c with clean := true }, rfl, ?_⟩
          show 0 ≤ tcmp (tagE c.e) (tagE c.e)
          rw [tcmp_refl]
          exact Int.le_refl _
        · exact still_same (mem_cput_old (d := { x with clean := true }) hc hk)
  split
  · exact ⟨unwhole c, List.mem_map.2 ⟨c, hc, rfl⟩, rfl, by show 0 ≤ tcmp (tagE c.e) (tagE c.e); rw [tcmp_refl]; exact Int.le_refl _⟩
  · show Still (evicted T d.e.key).1 c
    unfold evicted
    split
    · rename_i h
      refine still_same (List.mem_filter.2 ⟨hc, ?_⟩)
      have : c.e.key ≠ d.e.key := fun hk => by
        have h1 := cfind_self hc hv.keys
        rw [hk] at h1
        rw [h1] at h
        simp only [cclean] at h
        rw [hcl] at h
        cases h
      simpa using this
    · exact still_same hc
theorem busy_step {T : Tab} (d : Do) (sv : Value) (h : (stepT T d sv).2.2.2 = 30) : (stepT T d sv).1 = T := by
  unfold stepT at h ⊢
  split at h
  · rename_i h1
    rw [if_pos h1]
    have h' : (queried T d.e.key).2.2 = 30 := h
    unfold queried at h'
    split at h'
    · cases h'
    · cases hf : cfind T.L d.e.key <;> rw [hf] at h' <;> cases h'
  rename_i h1
  rw [if_neg h1]
  split at h
  · rename_i h2
    rw [if_pos h2]
    show (storedA T d.e sv).1 = T
    have h' : (storedA T d.e sv).2 = 30 := h
    unfold storedA at h' ⊢
    split at h'
    · rename_i h3
      rw [if_pos h3]
      unfold stored at h' ⊢
      cases hf : cfind T.L d.e.key with
      | none =>
        rw [hf] at h'
        dsimp only at h' ⊢
        by_cases hq : (victims T d.e).2
        · rw [if_pos hq] at h'; cases h'
        · rw [if_neg hq]
      | some x =>
        rw [hf] at h'
        dsimp only at h' ⊢
        by_cases hp : 0 ≤ tcmp (tagE x.e) (tagE d.e)
        · rw [if_pos hp] at h'; cases h'
        · rw [if_neg hp] at h' ⊢
          by_cases hq : (victims T d.e).2
          · rw [if_pos hq] at h'; cases h'
          · rw [if_neg hq]
    · cases h'
  rename_i h2
  rw [if_neg h2]
  split at h
  · rename_i h3
    rw [if_pos h3]
    show (filledA T d.e d.tok sv).1 = T
    have h' : (filledA T d.e d.tok sv).2.2 = 30 := h
    unfold filledA at h' ⊢
    split at h'
    · rename_i h4
      rw [if_pos h4]
      split at h'
      · rename_i h5
        rw [if_pos h5]
        unfold filled at h' ⊢
        cases hf : cfind T.L d.e.key with
        | none =>
          rw [hf] at h'
          dsimp only at h' ⊢
          by_cases hq : (victims T d.e).2
          · rw [if_pos hq] at h'; cases h'
          · rw [if_neg hq]
        | some x =>
          rw [hf] at h'
          dsimp only at h' ⊢
          by_cases hp : 0 < tcmp (tagE x.e) (tagE d.e)
          · rw [if_pos hp] at h'; cases h'
          · rw [if_neg hp] at h' ⊢
            by_cases hq : (victims T d.e).2
            · rw [if_pos hq] at h'; cases h'
            · rw [if_neg hq]
      · cases h'
    · cases h'
  rename_i h3
  rw [if_neg h3]
  split at h
  · cases h
  rename_i h4
  rw [if_neg h4]
  split at h
  · cases h
  · cases h
def hitT (y : Cel) (x : Cel) : Bool := decide (x.e.key = y.e.key) && decide (0 ≤ tcmp (tagE x.e) (tagE y.e))
def anyT (y : Cel) (l : List Cel) : Bool := l.any (hitT y)
theorem anyT_take {y : Cel} {l : List Cel} {j : Nat} (hj : j < l.length) : anyT y (l.take (j + 1)) = (anyT y (l.take j) || hitT y l[j]) := by
  unfold anyT
  rw [List.take_succ_eq_append_getElem hj, List.any_append]
  simp
theorem bare_mem {a b : List Cel} (h : a.map bare = b.map bare) {c : Cel} (hc : c ∈ a) : ∃ d ∈ b, bare d = bare c := by
  have : bare c ∈ b.map bare := h ▸ List.mem_map.2 ⟨c, hc, rfl⟩
  exact List.mem_map.1 this
theorem anyT_still {T T' : Tab} {N : Int} (hv' : Inv T' N) {cs ct : List Cel} (h1 : cs.map bare = (shown T.L).map bare) (h2 : ct.map bare = (shown T'.L).map bare) (hst : ∀ c ∈ T.L, c.clean = false → Still T' c) {y : Cel} (hy : y ∈ cs) (hyc : y.clean = false) : anyT y ct = true := by
  obtain ⟨c, hc, hb⟩ := bare_mem h1 hy
  have hcT : c ∈ T.L := by
    obtain ⟨k, _, hk⟩ := List.mem_filterMap.1 hc
    exact (cfind_some hk).1
  have he : c.e = y.e := by have := congrArg Cel.e hb; exact this
  have hcl : c.clean = false := by have := congrArg Cel.clean hb; exact this.trans hyc
  obtain ⟨d, hd, hk, ht⟩ := hst c hcT hcl
  obtain ⟨x, hx, hbx⟩ := bare_mem h2.symm (mem_shown hv'.keys hd)
  have hxe : x.e = d.e := by have := congrArg Cel.e hbx; exact this
  refine List.any_eq_true.2 ⟨x, hx, ?_⟩
  unfold hitT
  rw [hxe, hk, he]
  rw [he] at ht
  simp [ht]
theorem sameC_refl (x y : Cel) (h : bare x = bare y) : sameC x y = true := by
  have h1 : x.e = y.e := by have := congrArg Cel.e h; exact this
  have h2 : x.whole = y.whole := by have := congrArg Cel.whole h; exact this
  have h3 : x.clean = y.clean := by have := congrArg Cel.clean h; exact this
  have h4 : x.used = y.used := by have := congrArg Cel.used h; exact this
  unfold sameC
  rw [h1, h2, h3, h4, sameE_refl]
  simp
theorem sameCs_bare {a b : List Cel} (h : a.map bare = b.map bare) : sameCs a b = true := by
  have hl : a.length = b.length := by simpa using congrArg List.length h
  refine sameCs_iff.2 ⟨hl, fun j x y hx hy => sameC_refl x y ?_⟩
  have : (a.map bare)[j]? = (b.map bare)[j]? := by rw [h]
  rw [List.getElem?_map, List.getElem?_map, hx, hy] at this
  simpa using this
set_option maxHeartbeats 1000000 in
theorem rooms_bad (w : World) (r : Room) (v : Value) (ds : List Do) (hD : DRows w (fun b => b < w.heap.size) v ds) (hr : ¬ roomOk r) :
    Calls Try.prog 5 #[roomV r, v] w fun e w' => e = .returned (.bool true) ∧ Below w.heap.size w w' := by
  have Hl := Lib.hid (fun W (hB : Below w.heap.size w W) => long_any W _ v ds (hD.below hB))
  have Hn := Lib.hid (fun W => new_bad (w := W) r hr)
  have Hk := Lib.hid known_any
  clear hD hr
  unfold roomV at *
  generalize longD ds = ln at Hl
  go_enter Try.func5, Try.ntmps5
  go_wp2_with (first
    | (go_at_call 8; refine (Hn.out _).mono ?_; rintro x1_e x1_w ⟨rfl, x1_B⟩; obtain ⟨x1, rfl⟩ := later_of_below x1_B; clear x1_B)
    | (go_at_call 9; refine (Hl.out _ (Kept.to_below (S := fun _ => False) (by repeat (first | with_reducible refine Kept.more ?_ _ | with_reducible refine Kept.alloc ?_ _ | with_reducible refine Kept.drew ?_ | with_reducible refine Kept.drewN ?_ _ | exact Kept.refl _ _)) (fun _ h => h.elim))).mono ?_; rintro x2_e x2_w ⟨rfl, x2_B⟩; obtain ⟨x2, rfl⟩ := later_of_below x2_B; clear x2_B)
    | (go_at_call 10; refine (Hk.out _).mono ?_; rintro x3_e x3_w ⟨rfl, x3_B⟩; obtain ⟨x3, rfl⟩ := later_of_below x3_B; clear x3_B))
  all_goals
    go_ret
    exact ⟨rfl, (Kept.to_below' (S := fun _ => False) (by repeat (first | with_reducible refine Kept.more ?_ _ | with_reducible refine Kept.alloc ?_ _ | with_reducible refine Kept.drew ?_ | with_reducible refine Kept.drewN ?_ _ | exact Kept.refl _ _)) (by omega) (fun _ h => h.elim))⟩
set_option maxHeartbeats 1000000 in
theorem rooms_early (w : World) (r : Room) (v : Value) (ds : List Do) (hD : DRows w (fun b => b < w.heap.size) v ds) (hr : roomOk r) (he : 1500 < longD ds) :
    Calls Try.prog 5 #[roomV r, v] w fun e w' => e = .returned (.bool true) ∧ Below w.heap.size w w' := by
  have Hl := Lib.hid (fun W (hB : Below w.heap.size w W) => long_any W _ v ds (hD.below hB))
  have Hn := Lib.hid (fun W => new_ok (w := W) r hr)
  have Hk := Lib.hid known_any
  clear hD hr
  unfold roomV at *
  generalize longD ds = ln at Hl he
  go_enter Try.func5, Try.ntmps5
  go_wp2_with fail
  refine (Hn.out _).mono ?_
  rintro e1 w1 ⟨bt, bm, bk, rfl, _, hB1, _⟩
  dsimp only
  obtain ⟨x1, rfl⟩ := later_of_below hB1
  clear hB1
  go_wp2_with (first
    | (go_at_call 9; refine (Hl.out _ (Kept.to_below (S := fun _ => False) (by repeat (first | with_reducible refine Kept.more ?_ _ | with_reducible refine Kept.alloc ?_ _ | with_reducible refine Kept.drew ?_ | with_reducible refine Kept.drewN ?_ _ | exact Kept.refl _ _)) (fun _ h => h.elim))).mono ?_; rintro x2_e x2_w ⟨rfl, x2_B⟩; obtain ⟨x2, rfl⟩ := later_of_below x2_B; clear x2_B)
    | (go_at_call 10; refine (Hk.out _).mono ?_; rintro x3_e x3_w ⟨rfl, x3_B⟩; obtain ⟨x3, rfl⟩ := later_of_below x3_B; clear x3_B))
  go_ret
  exact ⟨rfl, (Kept.to_below' (S := fun _ => False) (by repeat (first | with_reducible refine Kept.more ?_ _ | with_reducible refine Kept.alloc ?_ _ | with_reducible refine Kept.drew ?_ | with_reducible refine Kept.drewN ?_ _ | exact Kept.refl _ _)) (by omega) (fun _ h => h.elim))⟩
set_option maxHeartbeats 4000000 in
theorem rooms_main (w : World) (r : Room) (v : Value) (ds : List Do) (hD : DRows w (fun b => b < w.heap.size) v ds) (hr : roomOk r) (h1 : longD ds ≤ 1500) :
    Calls Try.prog 5 #[roomV r, v] w fun e w' => e = .returned (.bool true) ∧ Below w.heap.size w w' := by
  have Hl := Lib.hid (fun W (hB : Below w.heap.size w W) => long_any W _ v ds (hD.below hB))
  have Hn := Lib.hid (fun W => new_ok (w := W) r hr)
  have Hk := Lib.hid known_any
  have HD := Lib.hid hD
  have Hr := Lib.hid hr
  have hv := hD
  obtain ⟨A, cc, rfl, _, _, hdl⟩ := hv
  have h1' : ¬ 1500 < longD ds := by omega
  have H1 := Lib.hid h1
  clear hD hr h1
  unfold roomV at *
  generalize longD ds = ln at Hl h1'
  go_enter Try.func5, Try.ntmps5
  go_upto_region 4 with (first
    | (go_at_call 8; refine (Hn.out _).mono ?_; rintro e1 w1 ⟨bt, bm, bk, rfl, hI1, hB1, g1, g2, g3⟩; have HI1 := Lib.hid hI1; clear hI1; obtain ⟨x1, rfl⟩ := later_of_below hB1; clear hB1)
    | (go_at_call 9; refine (Hl.out _ (Kept.to_below (S := fun _ => False) (by repeat (first | with_reducible refine Kept.more ?_ _ | with_reducible refine Kept.alloc ?_ _ | with_reducible refine Kept.drew ?_ | with_reducible refine Kept.drewN ?_ _ | exact Kept.refl _ _)) (fun _ h => h.elim))).mono ?_; rintro x2_e x2_w ⟨rfl, x2_B⟩; obtain ⟨x2, rfl⟩ := later_of_below x2_B; clear x2_B))
  go_upto_block 0 with fail
  have hsz0 : (w.alloc (.cells #[.int .i64 r.cells, .int .i64 r.bytes, .int .i64 r.buckets, .bool r.fresh] 23)).heap.size = w.heap.size + 1 := alloc_size _ _
  rw [hsz0] at g1 g2 g3
  clear hsz0 Hl h1'
  go_cut [] (fun wx => ∃ T, Hid (Way w wx bt bm bk (freshT r) ds T) ∧ Hid (Blk wx w.heap.size #[.int .i64 r.cells, .int .i64 r.bytes, .int .i64 r.buckets, .bool r.fresh] 23))
  case first =>
    go_wp2_with fail
    go_loopg [7] ds.length (fun k i wx => ∃ (j : Nat) (T : Tab), j ≤ ds.length ∧ k = ds.length - j ∧ i = .int .i64 j ∧ Hid (Way w wx bt bm bk (freshT r) (ds.take j) T) ∧ Hid (Blk wx w.heap.size #[.int .i64 r.cells, .int .i64 r.bytes, .int .i64 r.buckets, .bool r.fresh] 23))
    case atStart =>
      refine ⟨0, freshT r, by omega, by omega, rfl, Lib.hid ⟨rfl, (by have h := HI1.out.more x2; simpa only [more_more] using h), (Kept.to_below' (S := fun _ => False) (by repeat (first | with_reducible refine Kept.more ?_ _ | with_reducible refine Kept.alloc ?_ _ | with_reducible refine Kept.drew ?_ | with_reducible refine Kept.drewN ?_ _ | exact Kept.refl _ _)) (by omega) (fun _ h => h.elim))⟩, Lib.hid ?_⟩
      have hq := ((Blk.of_alloc w #[.int .i64 r.cells, .int .i64 r.bytes, .int .i64 r.buckets, .bool r.fresh] 23).more x1).more x2
      simp only [more_more, Array.append_assoc] at hq
      exact hq
    case round =>
      obtain ⟨j, T, hj, rfl, rfl, HW, HX⟩ := hrel
      obtain ⟨W0, hW0⟩ : ∃ W0, W0 = wr := ⟨_, rfl⟩
      subst hW0
      by_cases hlt : j < ds.length
      · obtain ⟨b, o, rfl, hb, _, ⟨p0, p1, p2, p3, p4, p5, p6, p7⟩, bt1, hk1, hk2⟩ := (drow_cells (HD.out.below HW.out.below)).2.2 j hlt
        have hT := HW.out.inv (inv_fresh r Hr.out) (by rw [List.length_take]; omega)
        have hTr : T.room = r := HW.out.runs.room
        have hTt : T.tok.length ≤ 256 := by have a1 := hT.toks; have a2 := hT.b1; omega
        have Hd := Lib.hid (fun W (hB : Below W0.heap.size W0 W) => done_any (HW.out.tab.below hB) hT (by omega) ds[j] ds[j].sv (fun b => b < w.heap.size) (bt1.below hB) (by omega) (fun b hb hf => by rcases hf with h | h | h <;> omega))
        have Hst := Lib.hid (fun w' sv => Way.step (w' := w') (sv := sv) hlt HW.out)
        have Hc0 := Lib.hid (fun W (hB : Below W0.heap.size W0 W) => cells_any (HW.out.tab.below hB) hT)
        have Ht0 := Lib.hid (fun W (hB : Below W0.heap.size W0 W) => tokens_any (HW.out.tab.below hB) (by omega))
        unfold CellsPost at Hc0
        have hj0 : (0 : Int) ≤ (j : Int) := by omega
        have hj1 : (j : Int) < (ds.length : Int) := by omega
        have hjt : ((j : Int)).toNat = j := by omega
        have HB := Lib.hid HW.out.below
        have hw0 := HB.out.size
        obtain ⟨lt1, lt2, lt3⟩ := HW.out.tab.lt
        have HiT := Lib.hid hT
        have HTr := Lib.hid hTr
        generalize ds[j] = d at *
        obtain ⟨As, cs0, hsv, _, _⟩ := bt1
        unfold doV at Hd
        rw [hsv] at p6 Hd
        clear hT hsv HW hTr
        go_wp2_with (first
          | (go_at_call 14; refine (Hc0.out _ (Kept.to_below (S := fun _ => False) (by repeat (first | with_reducible refine Kept.more ?_ _ | with_reducible refine Kept.alloc ?_ _ | with_reducible refine Kept.drew ?_ | with_reducible refine Kept.drewN ?_ _ | exact Kept.refl _ _)) (fun _ h => h.elim))).mono ?_; rintro e4 w4 ⟨vc, cs, rfl, hcs, hbare, hB4⟩; have Hcs := Lib.hid hcs; obtain ⟨Ac, ccap, rfl, _, _, hcl⟩ := hcs; have Hbare := Lib.hid hbare; clear hbare; obtain ⟨z4, rfl⟩ := later_of_below hB4; clear hB4)
          | (go_at_call 17; refine (Ht0.out _ (Kept.to_below (S := fun _ => False) (by repeat (first | with_reducible refine Kept.more ?_ _ | with_reducible refine Kept.alloc ?_ _ | with_reducible refine Kept.drew ?_ | with_reducible refine Kept.drewN ?_ _ | exact Kept.refl _ _)) (fun _ h => h.elim))).mono ?_; rintro e5 w5 ⟨vt, rfl, htr, hB5⟩; have Htr := Lib.hid htr; clear htr; obtain ⟨z5, rfl⟩ := later_of_below hB5; clear hB5))
        refine (Hd.out _ (Kept.to_below (S := fun _ => False) (by repeat (first | with_reducible refine Kept.more ?_ _ | with_reducible refine Kept.alloc ?_ _ | with_reducible refine Kept.drew ?_ | with_reducible refine Kept.drewN ?_ _ | exact Kept.refl _ _)) (fun _ h => h.elim))).mono ?_
        rintro e9 w9 ⟨sv, A9, n9, rfl, _, hI9, hK9⟩
        dsimp only
        have hK9' : Kept (foot bt bm bk) (more (more W0 z4) z5) w9 := by rw [more_more]; exact hK9
        have hB9 := foot_below (HB.out.trans (Kept.to_below' (S := fun _ => False) (by repeat (first | with_reducible refine Kept.more ?_ _ | with_reducible refine Kept.alloc ?_ _ | with_reducible refine Kept.drew ?_ | with_reducible refine Kept.drewN ?_ _ | exact Kept.refl _ _)) (by omega) (fun _ h => h.elim))) hK9 (by omega) (by omega) (by omega)
        have hNF : ∀ b, W0.heap.size ≤ b → ¬ foot bt bm bk b := fun b hb => by rintro (h | h | h) <;> omega
        have Hcs9 := Lib.hid (crows_mono (crows_kept (crows_below Hcs.out (more_below _ z5)) (fun b hN hlt => hK9'.block b hlt (hNF b hN))) (N' := fun _ => True) (fun _ _ => trivial))
        have Htr9 := Lib.hid (rows_mono (rows_kept Htr.out (fun b hN hlt => hK9'.block b hlt (hNF b (by simp only [more_size] at hN; omega)))) (N' := fun _ => True) (fun _ _ => trivial))
        have hX9 := ((HX.out.more z4).more z5).kept hK9' (by rintro (h | h | h) <;> omega)
        have HW9 := Lib.hid (Hst.out _ _ hI9 hB9)
        have hT9 := inv_stepT HiT.out d sv
        have Hstill := Lib.hid (fun (c : Cel) (hc : c ∈ T.L) (hcl : c.clean = false) => still_step HiT.out d sv hc hcl)
        have Hbusy := Lib.hid (busy_step (T := T) d sv)
        have hroom : (stepT T d sv).1.room = r := by rw [stepT_room]; exact HTr.out
        generalize hTT : stepT T d sv = R at *
        obtain ⟨T9, ⟨re, rh, rt⟩, rb, er⟩ := R
        dsimp only at *
        have Hc9 := Lib.hid (fun W (hB : Below w9.heap.size w9 W) => cells_any (hI9.below hB) hT9)
        have Ht9 := Lib.hid (fun W (hB : Below w9.heap.size w9 W) => tokens_any (hI9.below hB) (by have a1 := hT9.toks; have a2 := hT9.b1; omega))
        unfold CellsPost at Hc9
        have hl9 : T9.L.length ≤ 4096 := by have a1 := hT9.len; have a2 := hT9.cells; omega
        have Hs9 := Lib.hid (fun W (hB : Below w9.heap.size w9 W) => size_tab (hI9.below hB) (by omega))
        have hz1 : ¬ r.cells < (T9.L.length : Int) := by have := hT9.len; rw [hroom] at this; omega
        have hz2 : ¬ r.bytes < T9.bytes := by have := hT9.fits; rw [hroom] at this; omega
        have HiT9 := Lib.hid hT9
        have HB9 := Lib.hid hB9
        have hw9 := hB9.size
        have xc0 := hX9.cell 0
        have xc1 := hX9.cell 1
        simp at xc0 xc1
        have hxl := hX9.lt
        have HX9 := Lib.hid hX9
        clear hK9 hK9' hB9 hNF hI9 hX9 hTT hT9 hroom Hcs Htr Hc0 Ht0 Hd Hst HX p0 p1 p2 p3 p4 p5 p6 p7
        unfold replyV
        have HlT : Hid (∀ ct : List Cel, ct.map bare = (shown T9.L).map bare → ct.length = T9.L.length) := Lib.hid (fun ct h => by
          have := congrArg List.length h
          simp only [List.length_map] at this
          rw [this]
          exact shown_at.1)
        generalize hnT : T9.L.length = nT at *
        generalize T9.bytes = bT at *
        go_upto_region 12 with (first
          | (go_at_call 14; refine (Hc9.out _ (Kept.to_below (S := fun _ => False) (by repeat (first | with_reducible refine Kept.more ?_ _ | with_reducible refine Kept.alloc ?_ _ | with_reducible refine Kept.drew ?_ | with_reducible refine Kept.drewN ?_ _ | exact Kept.refl _ _)) (fun _ h => h.elim))).mono ?_; rintro e6 w6 ⟨vd, ct, rfl, hct, hbart, hB6⟩; have Hct := Lib.hid hct; have Hctl := Lib.hid (HlT.out ct hbart); obtain ⟨Ad, dcap, rfl, _, _, hdl2⟩ := hct; have Hbart := Lib.hid hbart; clear hbart; obtain ⟨z6, rfl⟩ := later_of_below hB6; clear hB6)
          | (go_at_call 12; refine (Hs9.out _ (Kept.to_below (S := fun _ => False) (by repeat (first | with_reducible refine Kept.more ?_ _ | with_reducible refine Kept.alloc ?_ _ | with_reducible refine Kept.drew ?_ | with_reducible refine Kept.drewN ?_ _ | exact Kept.refl _ _)) (fun _ h => h.elim))).mono ?_; rintro y9_e y9_w ⟨rfl, y9_B⟩; obtain ⟨y9, rfl⟩ := later_of_below y9_B; clear y9_B))
        have hne1 : ((nT : Int) != (ct.length : Int)) = false := by have := Hctl.out; simp; omega
        clear hnT
        have h0 := crows_mono (crows_below Hct.out (more_below _ y9)) (N' := fun _ => True) (fun _ _ => trivial)
        simp only [more_more, Array.append_assoc] at h0
        have Hct2 := Lib.hid h0
        clear h0
        go_upto_region 14 with fail
        go_cut [97] (fun p wx => p = .bool false ∧ Hid (Below w9.heap.size w9 wx) ∧ Hid (CRows wx (fun _ => True) (.slice Ad ct.length dcap) ct))
        case first =>
          have hvt : ∃ At tc, vt = .slice At T.tok.length tc := rows_int_form Htr9.out
          obtain ⟨At, tc, rfl⟩ := hvt
          by_cases her : er = 30
          · have hTT := Hbusy.out her
            subst hTT
            have Hsm := Lib.hid (sameCs_bare (Hbare.out.trans Hbart.out.symm))
            have hee : (er == 30) = true := by simpa using her
            have Her := Lib.hid her
            clear her
            go_wp2_with fail
            refine (sameCells_any _ _ _ _ _ _ _ (crows_below Hcs9.out (Kept.to_below (S := fun _ => False) (by repeat (first | with_reducible refine Kept.more ?_ _ | with_reducible refine Kept.alloc ?_ _ | with_reducible refine Kept.drew ?_ | with_reducible refine Kept.drewN ?_ _ | exact Kept.refl _ _)) (fun _ h => h.elim))) Hct2.out).mono ?_
            rintro e7 w7 ⟨rfl, hB7⟩
            rw [Hsm.out]
            obtain ⟨z7, rfl⟩ := later_of_below hB7
            clear hB7
            dsimp only
            go_wp2_with (go_at_call 17; refine (Ht9.out _ (Kept.to_below (S := fun _ => False) (by repeat (first | with_reducible refine Kept.more ?_ _ | with_reducible refine Kept.alloc ?_ _ | with_reducible refine Kept.drew ?_ | with_reducible refine Kept.drewN ?_ _ | exact Kept.refl _ _)) (fun _ h => h.elim))).mono ?_; rintro e5 w5 ⟨vt2, rfl, htr2, hB5⟩; obtain ⟨z5', rfl⟩ := later_of_below hB5; clear hB5; simp only [more_more, Array.append_assoc] at htr2; have Htr5 := Lib.hid htr2; clear htr2)
            refine (sameInts_any _ _ _ _ _ _ _ Htr5.out (rows_below Htr9.out (Kept.to_below (S := fun _ => False) (by repeat (first | with_reducible refine Kept.more ?_ _ | with_reducible refine Kept.alloc ?_ _ | with_reducible refine Kept.drew ?_ | with_reducible refine Kept.drewN ?_ _ | exact Kept.refl _ _)) (fun _ h => h.elim)))).mono ?_
            rintro e8 w8 ⟨rfl, hB8⟩
            have hdt : decide (T9.tok = T9.tok) = true := decide_eq_true rfl
            rw [hdt]
            obtain ⟨z8, rfl⟩ := later_of_below hB8
            clear hB8
            dsimp only
            go_wp2
            go_meet
            refine ⟨rfl, (Kept.to_below' (S := fun _ => False) (by repeat (first | with_reducible refine Kept.more ?_ _ | with_reducible refine Kept.alloc ?_ _ | with_reducible refine Kept.drew ?_ | with_reducible refine Kept.drewN ?_ _ | exact Kept.refl _ _)) (by omega) (fun _ h => h.elim)), ?_⟩
            have h1 := crows_below (crows_below (crows_below Hct2.out (more_below _ z7)) (more_below _ z5')) (more_below _ z8)
            simp only [more_more, Array.append_assoc] at h1
            exact h1
          · have hee : (er == 30) = false := by simpa using her
            clear her
            go_wp2
            go_meet
            exact ⟨rfl, (Kept.to_below' (S := fun _ => False) (by repeat (first | with_reducible refine Kept.more ?_ _ | with_reducible refine Kept.alloc ?_ _ | with_reducible refine Kept.drew ?_ | with_reducible refine Kept.drewN ?_ _ | exact Kept.refl _ _)) (by omega) (fun _ h => h.elim)), Hct2.out⟩
        case rest =>
        obtain ⟨rfl, HBd, Hcd⟩ := hcut
        have hwd := HBd.out.size
        have HWc := Lib.hid (show Way w wc bt bm bk (freshT r) (ds.take (j + 1)) T9 from ⟨HW9.out.runs, HW9.out.tab.below HBd.out, HB9.out.trans (HBd.out.mono hw9)⟩)
        have HXc := Lib.hid (HX9.out.below HBd.out)
        obtain ⟨_, hcl2, hcc⟩ := crow_cells (crows_below Hcs9.out HBd.out)
        obtain ⟨_, hcl3, hcd⟩ := crow_cells Hcd.out
        have Hcc := Lib.hid hcc
        have Hcq := Lib.hid hcd
        have hwc0 := HWc.out.below.size
        have Hany := Lib.hid (fun (y : Cel) (hy : y ∈ cs) (hyc : y.clean = false) => anyT_still HiT9.out Hbare.out Hbart.out Hstill.out hy hyc)
        clear hcc hcd Hcs9 Hcd Htr9 HW9 HX9 Hs9 Hc9 Ht9 Hct Hct2 HiT9 Hbare Hbart Hstill Hbusy HBd HlT Hctl HiT HTr hz1 hz2 hne1 xc0 xc1
        go_upto_block 2 with fail
        go_wp2_with fail
        go_loopg [16] cs.length (fun kk i wx => ∃ jk : Nat, jk ≤ cs.length ∧ kk = cs.length - jk ∧ i = .int .i64 jk ∧ Later wc wx)
        case atStart => exact ⟨0, by omega, by omega, rfl, later_refl _⟩
        case round =>
          obtain ⟨jk, hjk, rfl, rfl, e5, rfl⟩ := hrel
          by_cases hlk : jk < cs.length
          · obtain ⟨b1, o1, rfl, hb1, ⟨r0, r1, r2, r3, r4, r5, r6, r7, r8⟩, bt2⟩ := Hcc.out jk hlk
            have hjk0 : (0 : Int) ≤ (jk : Int) := by omega
            have hjk1 : (jk : Int) < (cs.length : Int) := by omega
            have hjkt : ((jk : Int)).toNat = jk := by omega
            have Hmem := Lib.hid (show cs[jk] ∈ cs from List.getElem_mem hlk)
            generalize cs[jk] = y at *
            clear bt2
            cases hyc : y.clean
            · have Hyes := Lib.hid (Hany.out y Hmem.out hyc)
              rw [hyc] at r7
              have Hyc := Lib.hid hyc
              clear hyc
              go_upto_block 4 with fail
              go_cut [17] (fun s wx => s = .bool true ∧ Later wc wx)
              case first =>
                go_wp2_with fail
                go_loopg [17, 18] ct.length (fun kk s i wx => ∃ (jj : Nat) (bb : Bool), jj ≤ ct.length ∧ kk = ct.length - jj ∧ i = .int .i64 jj ∧ s = .bool bb ∧ Hid (bb = anyT y (ct.take jj)) ∧ Later wc wx)
                case atStart => exact ⟨0, false, by omega, by omega, rfl, rfl, Lib.hid rfl, _, rfl⟩
                case round =>
                  obtain ⟨jj, bb, hjj, rfl, rfl, rfl, HE, e6, rfl⟩ := hrel
                  by_cases hlj : jj < ct.length
                  · obtain ⟨b2, o2, rfl, hb2, ⟨q0, q1, q2, q3, q4, q5, q6, q7, q8⟩, bt3⟩ := Hcq.out jj hlj
                    have HT := Lib.hid (anyT_take (y := y) hlj)
                    have hjj0 : (0 : Int) ≤ (jj : Int) := by omega
                    have hjj1 : (jj : Int) < (ct.length : Int) := by omega
                    have hjjt : ((jj : Int)).toNat = jj := by omega
                    generalize ct[jj] = x at *
                    clear bt3
                    have Hcm := Lib.hid (fun W => compareR_any (tagE x.e) (tagE y.e) W)
                    unfold Tag.v tagE at Hcm
                    dsimp only at Hcm
                    generalize hcc : tcmp { seq := x.e.seq, who := x.e.who, op := x.e.op } { seq := y.e.seq, who := y.e.who, op := y.e.op } = cq at Hcm
                    have Hcc2 := Lib.hid hcc
                    clear hcc
                    cases bb
                    · by_cases hk : x.e.key = y.e.key
                      · have hkb : (x.e.key.toList == y.e.key.toList) = true := (Lib.bytes_beq_iff _ _).2 hk
                        have Hq := Lib.hid (show decide (0 ≤ cq) = anyT y (ct.take (jj + 1)) by
                          rw [HT.out, ← HE.out]
                          unfold hitT
                          rw [decide_eq_true hk]
                          have e9 : tcmp (tagE x.e) (tagE y.e) = cq := Hcc2.out
                          rw [e9]
                          simp)
                        clear hk
                        go_wp2
                        refine wp_region_mix_lit [(0,false),(1,false),(2,false),(3,false),(4,false),(5,false),(6,false),(7,false),(8,false),(9,false),(10,false),(11,false),(12,false),(13,false),(14,false),(15,false),(16,false),(17,false),(18,false),(19,false),(20,false),(21,false),(22,false),(23,false),(24,false),(25,false),(26,false),(27,false),(28,false),(29,false),(30,false),(31,false),(32,false)] (by kernel_rfl) (by kernel_rfl) ?_
                        iterate 28 (refine mix_step rfl (fun K hK => ?_); go_simp; refine hK _ ?_; clear hK K)
                        (refine mix_step rfl (fun K hK => ?_); go_simp; refine Exists.intro _ ⟨fun _ _ => call_gives (Hcm.out _), hK _ ?_⟩; clear hK K)
                        iterate 4 (refine mix_step rfl (fun K hK => ?_); go_simp; refine hK _ ?_; clear hK K)
                        refine mix_done (fun e7 => ?_)
                        go_wp2
                        go_roundg (ct.length - (jj + 1))
                        case measure => omega
                        case rel => exact ⟨jj + 1, decide (0 ≤ cq), by omega, rfl, by go_num, rfl, Hq, _, rfl⟩
                      · have hkb : (x.e.key.toList == y.e.key.toList) = false := (Lib.bytes_beq_false_iff _ _).2 hk
                        have Hq := Lib.hid (show false = anyT y (ct.take (jj + 1)) by
                          rw [HT.out, ← HE.out]
                          unfold hitT
                          rw [decide_eq_false hk]
                          simp)
                        clear hk
                        go_wp2
                        refine wp_region_mix_lit [(0,false),(1,false),(2,false),(3,false),(4,false),(5,false),(6,false),(7,false),(8,false),(9,false),(10,false),(11,false),(12,false),(13,false),(14,false),(15,false),(16,false),(17,false),(18,false),(19,false),(20,false),(21,false),(22,false),(23,false),(24,false),(25,false),(26,false),(27,false),(28,false),(29,false),(30,false),(31,false),(32,false)] (by kernel_rfl) (by kernel_rfl) ?_
                        iterate 33 (refine mix_step rfl (fun K hK => ?_); go_simp; refine hK _ ?_; clear hK K)
                        refine mix_done (fun e7 => ?_)
                        go_wp2
                        go_roundg (ct.length - (jj + 1))
                        case measure => omega
                        case rel => exact ⟨jj + 1, false, by omega, rfl, by go_num, rfl, Hq, _, rfl⟩
                    · have Hq := Lib.hid (show true = anyT y (ct.take (jj + 1)) by
                        rw [HT.out, ← HE.out]
                        simp)
                      go_wp2
                      refine wp_region_mix_lit [(0,false),(1,false),(2,false),(3,false),(4,false),(5,false),(6,false),(7,false),(8,false),(9,false),(10,false),(11,false),(12,false),(13,false),(14,false),(15,false),(16,false),(17,false),(18,false),(19,false),(20,false),(21,false),(22,false),(23,false),(24,false),(25,false),(26,false),(27,false),(28,false),(29,false),(30,false),(31,false),(32,false)] (by kernel_rfl) (by kernel_rfl) ?_
                      iterate 33 (refine mix_step rfl (fun K hK => ?_); go_simp; refine hK _ ?_; clear hK K)
                      refine mix_done (fun e7 => ?_)
                      go_wp2
                      go_roundg (ct.length - (jj + 1))
                      case measure => omega
                      case rel => exact ⟨jj + 1, true, by omega, rfl, by go_num, rfl, Hq, _, rfl⟩
                  · have hjn : jj = ct.length := by omega
                    subst hjn
                    have := HE.out
                    rw [List.take_of_length_le (Nat.le_refl _), Hyes.out] at this
                    subst this
                    go_wp2
                    go_meet
                    exact ⟨rfl, _, rfl⟩
              case rest =>
              obtain ⟨rfl, e6, rfl⟩ := hcut
              go_wp2
              go_roundg (cs.length - (jk + 1))
              case measure => omega
              case rel => exact ⟨jk + 1, by omega, rfl, by go_num, _, rfl⟩
            · rw [hyc] at r7
              clear hyc
              go_wp2
              go_roundg (cs.length - (jk + 1))
              case measure => omega
              case rel => exact ⟨jk + 1, by omega, rfl, by go_num, _, rfl⟩
          · have hjn : jk = cs.length := by omega
            subst hjn
            go_wp2
            go_roundg (ds.length - (j + 1))
            case measure => omega
            case rel => exact ⟨j + 1, T9, by omega, rfl, by go_num, Lib.hid ⟨HWc.out.runs, HWc.out.tab.more e5, HWc.out.below.trans (Kept.to_below' (S := fun _ => False) (by repeat (first | with_reducible refine Kept.more ?_ _ | with_reducible refine Kept.alloc ?_ _ | with_reducible refine Kept.drew ?_ | with_reducible refine Kept.drewN ?_ _ | exact Kept.refl _ _)) (by omega) (fun _ h => h.elim))⟩, Lib.hid (HXc.out.more e5)⟩
      · have hjn : j = ds.length := by omega
        subst hjn
        rw [List.take_of_length_le (Nat.le_refl _)] at HW
        go_wp2
        go_meet
        exact ⟨T, HW, HX⟩
  case rest =>
  obtain ⟨T, HW, HX⟩ := hcut
  have HBw := Lib.hid HW.out.below
  have hwc := HBw.out.size
  clear HW HX HI1 Hn
  go_wp2_with (go_at_call 10; refine (Hk.out _).mono ?_; rintro x8_e x8_w ⟨rfl, x8_B⟩; obtain ⟨x8, rfl⟩ := later_of_below x8_B; clear x8_B)
  go_ret
  exact ⟨rfl, HBw.out.trans (Kept.to_below' (S := fun _ => False) (by repeat (first | with_reducible refine Kept.more ?_ _ | with_reducible refine Kept.alloc ?_ _ | with_reducible refine Kept.drew ?_ | with_reducible refine Kept.drewN ?_ _ | exact Kept.refl _ _)) (by omega) (fun _ h => h.elim))⟩
theorem rooms_all (w : World) (r : Room) (v : Value) (ds : List Do) (hD : DRows w (fun b => b < w.heap.size) v ds) :
    Calls Try.prog 5 #[roomV r, v] w fun e w' => e = .returned (.bool true) ∧ Below w.heap.size w w' := by
  by_cases hr : roomOk r
  · by_cases he : 1500 < longD ds
    · exact rooms_early w r v ds hD hr he
    · exact rooms_main w r v ds hD hr (by omega)
  · exact rooms_bad w r v ds hD hr
end Go.Proofs.Ytibolfdgbbaclaa

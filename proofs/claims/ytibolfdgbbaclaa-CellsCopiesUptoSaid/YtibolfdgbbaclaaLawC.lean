/-
  What is proved: the law CellsCopies, as a call.
  Conditions: bounds under which nothing wraps.
-/
import Derived.Test.YtibolfdgbbaclaaCellsCopy
import Derived.Test.YtibolfdgbbaclaaBare
import Derived.Deep.DeepCutAuto
import Derived.Deep.CutBlock
open Go Go.RowKit Go.Ice
namespace Go.Proofs.Ytibolfdgbbaclaa
set_option maxRecDepth 100000
set_option linter.unusedVariables false
set_option linter.unusedSimpArgs false
attribute [local go_sem] gives givesUpon later_self more_cell more_frozen more_block more_more more_drew more_setCell more_of_drew more_of_drewN more_size lt_plus lt_plus2 lt_plus3 lt_plus4 swap_size swap_cell swap_frozen swap_setCell swap_drew swap_drewN ne_low ne_low1 ne_low2 ne_low3 ne_low4 Instr.field part asAgg List.extract_toArray List.extract_eq_take_drop
theorem crows_lt {w : World} {N : Nat → Prop} {v : Value} {cs : List Cel} (h : CRows w N v cs) : CRows w (fun b => b < w.heap.size) v cs := by
  obtain ⟨A, c, e, hr, hv, hl⟩ := h
  refine ⟨A, c, e, fun hm => ?_, fun d hd => (bts_lt (hv d hd)).mono fun b hb => hb.2, hl⟩
  obtain ⟨b, o, h1, _, h3⟩ := hr hm
  exact ⟨b, o, h1, World.block_lt_of_cell? w ⟨b, o + 0, none⟩ (h3 0 hm), h3⟩
theorem rows_lt {w : World} {N : Nat → Prop} {v : Value} {vs : List Value} (h : Rows w N v vs) : Rows w (fun b => b < w.heap.size) v vs := by
  obtain ⟨A, c, e, hr, hl⟩ := h
  refine ⟨A, c, e, fun hm => ?_, hl⟩
  obtain ⟨b, o, h1, _, h3⟩ := hr hm
  exact ⟨b, o, h1, World.block_lt_of_cell? w ⟨b, o + 0, none⟩ (h3 0 hm), h3⟩
theorem longD_bd {w : World} {N : Nat → Prop} {v : Value} {ds : List Do} (h : DRows w N v ds) : 0 ≤ longD ds ∧ longD ds ≤ 4398046511104 := by
  obtain ⟨A, c, _, _, hv, hl⟩ := h
  have key : ∀ l : List Do, (∀ d ∈ l, d.e.key.size ≤ 1048576 ∧ d.e.b.length ≤ 1048576) → 0 ≤ longD l ∧ longD l ≤ 2097162 * (l.length : Int) := by
    intro l
    induction l with
    | nil => intro _; simp [longD]
    | cons d l ih =>
      intro hh
      have h1 := ih fun x hx => hh x (List.mem_cons_of_mem _ hx)
      have h2 := hh d List.mem_cons_self
      simp only [longD, List.length_cons]
      omega
  have := key ds fun d hd => (hv d hd).2
  omega
set_option maxHeartbeats 1000000 in
theorem copies_bad (w : World) (r : Room) (v v2 : Value) (ds ds2 : List Do) (hD : DRows w (fun b => b < w.heap.size) v ds) (hD2 : DRows w (fun b => b < w.heap.size) v2 ds2) (hr : ¬ roomOk r) :
    Calls Try.prog 7 #[roomV r, v, v2] w fun e w' => e = .returned (.bool true) ∧ Below w.heap.size w w' := by
  have Hl := Lib.hid (fun W (hB : Below w.heap.size w W) => long_any W _ v ds (hD.below hB))
  have Hl2 := Lib.hid (fun W (hB : Below w.heap.size w W) => long_any W _ v2 ds2 (hD2.below hB))
  have hb1 := longD_bd hD
  have hb2 := longD_bd hD2
  have Hn := Lib.hid (fun W => new_bad (w := W) r hr)
  have Hk := Lib.hid known_any
  clear hD hD2 hr
  unfold roomV at *
  generalize longD ds = ln at *
  generalize longD ds2 = ln2 at *
  obtain ⟨b1, b2⟩ := hb1
  obtain ⟨b3, b4⟩ := hb2
  go_enter Try.func7, Try.ntmps7
  go_wp2_with (go_at_call 8; refine (Hn.out _).mono ?_; rintro x1_e x1_w ⟨rfl, x1_B⟩; obtain ⟨x1, rfl⟩ := later_of_below x1_B; clear x1_B)
  refine (Hl.out _ (Kept.to_below (S := fun _ => False) (by repeat (first | with_reducible refine Kept.more ?_ _ | with_reducible refine Kept.alloc ?_ _ | with_reducible refine Kept.drew ?_ | with_reducible refine Kept.drewN ?_ _ | exact Kept.refl _ _)) (fun _ h => h.elim))).mono ?_
  rintro e2 w2 ⟨rfl, hB2⟩
  obtain ⟨x2, rfl⟩ := later_of_below hB2
  clear hB2
  dsimp only
  go_wp2_with fail
  refine (Hl2.out _ (Kept.to_below (S := fun _ => False) (by repeat (first | with_reducible refine Kept.more ?_ _ | with_reducible refine Kept.alloc ?_ _ | with_reducible refine Kept.drew ?_ | with_reducible refine Kept.drewN ?_ _ | exact Kept.refl _ _)) (fun _ h => h.elim))).mono ?_
  rintro e3 w3 ⟨rfl, hB3⟩
  obtain ⟨x3, rfl⟩ := later_of_below hB3
  clear hB3
  dsimp only
  go_wp2_with (go_at_call 10; refine (Hk.out _).mono ?_; rintro x4_e x4_w ⟨rfl, x4_B⟩; obtain ⟨x4, rfl⟩ := later_of_below x4_B; clear x4_B)
  all_goals
    go_ret
    exact ⟨rfl, (Kept.to_below' (S := fun _ => False) (by repeat (first | with_reducible refine Kept.more ?_ _ | with_reducible refine Kept.alloc ?_ _ | with_reducible refine Kept.drew ?_ | with_reducible refine Kept.drewN ?_ _ | exact Kept.refl _ _)) (by omega) (fun _ h => h.elim))⟩
set_option maxHeartbeats 1000000 in
theorem copies_early (w : World) (r : Room) (v v2 : Value) (ds ds2 : List Do) (hD : DRows w (fun b => b < w.heap.size) v ds) (hD2 : DRows w (fun b => b < w.heap.size) v2 ds2) (hr : roomOk r) (he : 1500 < longD ds + longD ds2) :
    Calls Try.prog 7 #[roomV r, v, v2] w fun e w' => e = .returned (.bool true) ∧ Below w.heap.size w w' := by
  have Hl := Lib.hid (fun W (hB : Below w.heap.size w W) => long_any W _ v ds (hD.below hB))
  have Hl2 := Lib.hid (fun W (hB : Below w.heap.size w W) => long_any W _ v2 ds2 (hD2.below hB))
  have hb1 := longD_bd hD
  have hb2 := longD_bd hD2
  have Hn := Lib.hid (fun W => new_ok (w := W) r hr)
  have Hk := Lib.hid known_any
  clear hD hD2 hr
  unfold roomV at *
  generalize longD ds = ln at *
  generalize longD ds2 = ln2 at *
  obtain ⟨b1, b2⟩ := hb1
  obtain ⟨b3, b4⟩ := hb2
  go_enter Try.func7, Try.ntmps7
  go_wp2_with fail
  refine (Hn.out _).mono ?_
  rintro e1 w1 ⟨bt, bm, bk, rfl, _, hB1, _⟩
  dsimp only
  obtain ⟨x1, rfl⟩ := later_of_below hB1
  clear hB1
  go_wp2_with fail
  refine (Hl.out _ (Kept.to_below (S := fun _ => False) (by repeat (first | with_reducible refine Kept.more ?_ _ | with_reducible refine Kept.alloc ?_ _ | with_reducible refine Kept.drew ?_ | with_reducible refine Kept.drewN ?_ _ | exact Kept.refl _ _)) (fun _ h => h.elim))).mono ?_
  rintro e2 w2 ⟨rfl, hB2⟩
  obtain ⟨x2, rfl⟩ := later_of_below hB2
  clear hB2
  dsimp only
  go_wp2_with fail
  refine (Hl2.out _ (Kept.to_below (S := fun _ => False) (by repeat (first | with_reducible refine Kept.more ?_ _ | with_reducible refine Kept.alloc ?_ _ | with_reducible refine Kept.drew ?_ | with_reducible refine Kept.drewN ?_ _ | exact Kept.refl _ _)) (fun _ h => h.elim))).mono ?_
  rintro e3 w3 ⟨rfl, hB3⟩
  obtain ⟨x3, rfl⟩ := later_of_below hB3
  clear hB3
  dsimp only
  go_wp2_with (go_at_call 10; refine (Hk.out _).mono ?_; rintro x4_e x4_w ⟨rfl, x4_B⟩; obtain ⟨x4, rfl⟩ := later_of_below x4_B; clear x4_B)
  go_ret
  exact ⟨rfl, (Kept.to_below' (S := fun _ => False) (by repeat (first | with_reducible refine Kept.more ?_ _ | with_reducible refine Kept.alloc ?_ _ | with_reducible refine Kept.drew ?_ | with_reducible refine Kept.drewN ?_ _ | exact Kept.refl _ _)) (by omega) (fun _ h => h.elim))⟩
set_option maxHeartbeats 4000000 in
theorem copies_main (w : World) (r : Room) (v v2 : Value) (ds ds2 : List Do) (hD : DRows w (fun b => b < w.heap.size) v ds) (hD2 : DRows w (fun b => b < w.heap.size) v2 ds2) (hr : roomOk r) (h1 : longD ds + longD ds2 ≤ 1500) :
    Calls Try.prog 7 #[roomV r, v, v2] w fun e w' => e = .returned (.bool true) ∧ Below w.heap.size w w' := by
  have Hl := Lib.hid (fun W (hB : Below w.heap.size w W) => long_any W _ v ds (hD.below hB))
  have Hl2 := Lib.hid (fun W (hB : Below w.heap.size w W) => long_any W _ v2 ds2 (hD2.below hB))
  have hb1 := longD_bd hD
  have hb2 := longD_bd hD2
  have Hn := Lib.hid (fun W => new_ok (w := W) r hr)
  have Hk := Lib.hid known_any
  have HD := Lib.hid hD
  have HD2 := Lib.hid hD2
  have Hr := Lib.hid hr
  have hv := hD
  obtain ⟨A, cc, rfl, _, _, hdl⟩ := hv
  have hv := hD2
  obtain ⟨A2, cc2, rfl, _, _, hdl2⟩ := hv
  have h1' : ¬ 1500 < longD ds + longD ds2 := by omega
  clear hD hD2 hr h1
  unfold roomV at *
  generalize longD ds = ln at *
  generalize longD ds2 = ln2 at *
  obtain ⟨b1, b2⟩ := hb1
  obtain ⟨b3, b4⟩ := hb2
  go_enter Try.func7, Try.ntmps7
  go_wp2_with (go_at_call 8; refine (Hn.out _).mono ?_; rintro e1 w1 ⟨bt, bm, bk, rfl, hI1, hB1, g1, g2, g3⟩; have HI1 := Lib.hid hI1; clear hI1; obtain ⟨x1, rfl⟩ := later_of_below hB1; clear hB1)
  refine (Hl.out _ (Kept.to_below (S := fun _ => False) (by repeat (first | with_reducible refine Kept.more ?_ _ | with_reducible refine Kept.alloc ?_ _ | with_reducible refine Kept.drew ?_ | with_reducible refine Kept.drewN ?_ _ | exact Kept.refl _ _)) (fun _ h => h.elim))).mono ?_
  rintro e2 w2 ⟨rfl, hB2⟩
  obtain ⟨y2, rfl⟩ := later_of_below hB2
  clear hB2
  dsimp only
  go_wp2_with fail
  refine (Hl2.out _ (Kept.to_below (S := fun _ => False) (by repeat (first | with_reducible refine Kept.more ?_ _ | with_reducible refine Kept.alloc ?_ _ | with_reducible refine Kept.drew ?_ | with_reducible refine Kept.drewN ?_ _ | exact Kept.refl _ _)) (fun _ h => h.elim))).mono ?_
  rintro e3 w3 ⟨rfl, hB3⟩
  obtain ⟨y3, rfl⟩ := later_of_below hB3
  clear hB3
  dsimp only
  go_upto_region 4 with fail
  go_upto_block 0 with fail
  have hsz0 : (w.alloc (.cells #[.int .i64 r.cells, .int .i64 r.bytes, .int .i64 r.buckets, .bool r.fresh] 23)).heap.size = w.heap.size + 1 := alloc_size _ _
  rw [hsz0] at g1 g2 g3
  clear hsz0 Hl Hl2 h1'
  go_cut [] (fun wx => ∃ T, Hid (Way w wx bt bm bk (freshT r) ds T) ∧ Hid (Blk wx w.heap.size #[.int .i64 r.cells, .int .i64 r.bytes, .int .i64 r.buckets, .bool r.fresh] 23))
  case first =>
    go_wp2_with fail
    go_loopg [9] ds.length (fun k i wx => ∃ (j : Nat) (T : Tab), j ≤ ds.length ∧ k = ds.length - j ∧ i = .int .i64 j ∧ Hid (Way w wx bt bm bk (freshT r) (ds.take j) T) ∧ Hid (Blk wx w.heap.size #[.int .i64 r.cells, .int .i64 r.bytes, .int .i64 r.buckets, .bool r.fresh] 23))
    case atStart =>
      refine ⟨0, freshT r, by omega, by omega, rfl, Lib.hid ⟨rfl, (by have h := (HI1.out.more y2).more y3; simpa only [more_more, Array.append_assoc] using h), (Kept.to_below' (S := fun _ => False) (by repeat (first | with_reducible refine Kept.more ?_ _ | with_reducible refine Kept.alloc ?_ _ | with_reducible refine Kept.drew ?_ | with_reducible refine Kept.drewN ?_ _ | exact Kept.refl _ _)) (by omega) (fun _ h => h.elim))⟩, Lib.hid ?_⟩
      have hq := (((Blk.of_alloc w #[.int .i64 r.cells, .int .i64 r.bytes, .int .i64 r.buckets, .bool r.fresh] 23).more x1).more y2).more y3
      simp only [more_more, Array.append_assoc] at hq
      exact hq
    case round =>
      obtain ⟨j, T, hj, rfl, rfl, HW, HX⟩ := hrel
      by_cases hlt : j < ds.length
      · obtain ⟨b, o, rfl, hb, _, ⟨p0, p1, p2, p3, p4, p5, p6, p7⟩, bt1, hk1, hk2⟩ := (drow_cells (HD.out.below HW.out.below)).2.2 j hlt
        have hT := HW.out.inv (inv_fresh r Hr.out) (by rw [List.length_take]; omega)
        have Hd := Lib.hid (fun W (hB : Below wr.heap.size wr W) => done_any (HW.out.tab.below hB) hT (by omega) ds[j] ds[j].sv (fun b => b < w.heap.size) (bt1.below hB) (by omega) (fun b hb hf => by rcases hf with h | h | h <;> omega))
        have Hst := Lib.hid (fun w' sv => Way.step (w' := w') (sv := sv) hlt HW.out)
        have hj0 : (0 : Int) ≤ (j : Int) := by omega
        have hj1 : (j : Int) < (ds.length : Int) := by omega
        have hjt : ((j : Int)).toNat = j := by omega
        have HB := Lib.hid HW.out.below
        generalize ds[j] = d at *
        obtain ⟨As, cs, hsv, _, _⟩ := bt1
        unfold doV at Hd
        rw [hsv] at p6 Hd
        clear hT hsv HW
        go_wp2_with (go_at_call 11; refine (Hd.out _ (Kept.to_below (S := fun _ => False) (by repeat (first | with_reducible refine Kept.more ?_ _ | with_reducible refine Kept.alloc ?_ _ | with_reducible refine Kept.drew ?_ | with_reducible refine Kept.drewN ?_ _ | exact Kept.refl _ _)) (fun _ h => h.elim))).mono ?_; rintro e9 w9 ⟨sv, A9, n9, rfl, _, hI9, hK9⟩)
        have HW9 := Lib.hid (Hst.out _ _ hI9 (HB.out.trans (hK9.to_below' HB.out.size (fun k hk => by rcases hk with h | h | h <;> omega))))
        have HX9 := Lib.hid (HX.out.kept hK9 (by rintro (h | h | h) <;> omega))
        go_roundg (ds.length - (j + 1))
        case measure => omega
        case rel => exact ⟨j + 1, _, by omega, rfl, by go_num, HW9, HX9⟩
      · have hjn : j = ds.length := by omega
        subst hjn
        rw [List.take_of_length_le (Nat.le_refl _)] at HW
        go_wp2
        go_meet
        exact ⟨T, HW, HX⟩
  case rest =>
  obtain ⟨T, HW, HX⟩ := hcut
  have hvT := HW.out.inv (inv_fresh r Hr.out) hdl
  have HvT := Lib.hid hvT
  have hT1 : T.tok.length ≤ 256 := by have a1 := hvT.toks; have a2 := hvT.b1; omega
  have hT0 : 0 < T.tok.length := by have a1 := hvT.toks; have a2 := hvT.b0; omega
  have Hc0 := Lib.hid (fun W (hB : Below wc.heap.size wc W) => cells_any (HW.out.tab.below hB) hvT)
  have Ht0 := Lib.hid (fun W (hB : Below wc.heap.size wc W) => tokens_any (HW.out.tab.below hB) (by omega))
  have Hcp := Lib.hid (fun W (hB : Below wc.heap.size wc W) => copy_tab (HW.out.tab.below hB) (by omega) hT0)
  unfold CellsPost at Hc0
  unfold CopyPost at Hcp
  have HwB := Lib.hid HW.out.below
  have hwc := HW.out.below.size
  have HIT := Lib.hid HW.out.tab
  obtain ⟨lt1, lt2, lt3⟩ := HW.out.tab.lt
  clear HW HX HI1 Hn hvT
  go_wp2_with (first
    | (go_at_call 14; refine (Hc0.out _ (Kept.to_below (S := fun _ => False) (by repeat (first | with_reducible refine Kept.more ?_ _ | with_reducible refine Kept.alloc ?_ _ | with_reducible refine Kept.drew ?_ | with_reducible refine Kept.drewN ?_ _ | exact Kept.refl _ _)) (fun _ h => h.elim))).mono ?_; rintro e4 w4 ⟨vc, cs, rfl, hcs, hbare, hB4⟩; have Hcs := Lib.hid hcs; obtain ⟨Ac, ccap, rfl, _, _, hcl⟩ := hcs; have Hbare := Lib.hid hbare; clear hbare; obtain ⟨z4, rfl⟩ := later_of_below hB4; clear hB4)
    | (go_at_call 17; refine (Ht0.out _ (Kept.to_below (S := fun _ => False) (by repeat (first | with_reducible refine Kept.more ?_ _ | with_reducible refine Kept.alloc ?_ _ | with_reducible refine Kept.drew ?_ | with_reducible refine Kept.drewN ?_ _ | exact Kept.refl _ _)) (fun _ h => h.elim))).mono ?_; rintro e5 w5 ⟨vt, rfl, htr, hB5⟩; have Htr := Lib.hid htr; clear htr; obtain ⟨z5, rfl⟩ := later_of_below hB5; clear hB5))
  refine (Hcp.out _ (Kept.to_below (S := fun _ => False) (by repeat (first | with_reducible refine Kept.more ?_ _ | with_reducible refine Kept.alloc ?_ _ | with_reducible refine Kept.drew ?_ | with_reducible refine Kept.drewN ?_ _ | exact Kept.refl _ _)) (fun _ h => h.elim))).mono ?_
  rintro e6 w6 ⟨ct, cm, ck, rfl, hI6, hB6, g4, g5, g6⟩
  dsimp only
  have hcs1 := crows_below Hcs.out (more_below _ z5)
  simp only [more_more, Array.append_assoc] at hcs1
  have htr1 := Htr.out
  simp only [more_more, Array.append_assoc] at htr1
  have Hcs6 := Lib.hid (crows_mono (crows_below (crows_lt hcs1) hB6) (N' := fun b => ¬ foot ct cm ck b) (fun b hb => by rintro (h | h | h) <;> omega))
  have Htr6 := Lib.hid (rows_mono (rows_below (rows_lt htr1) hB6) (N' := fun b => ¬ foot ct cm ck b) (fun b hb => by rintro (h | h | h) <;> omega))
  have hBm : Below wc.heap.size wc w6 := ((Kept.to_below' (S := fun _ => False) (by repeat (first | with_reducible refine Kept.more ?_ _ | with_reducible refine Kept.alloc ?_ _ | with_reducible refine Kept.drew ?_ | with_reducible refine Kept.drewN ?_ _ | exact Kept.refl _ _)) (by omega) (fun _ h => h.elim)) : Below wc.heap.size wc _).trans (hB6.mono (by simp only [more_size]; omega))
  simp only [more_size] at g4 g5 g6
  have HIt6 := Lib.hid (HIT.out.below hBm)
  have HI6 := Lib.hid hI6
  have HB6 := Lib.hid (HwB.out.trans (hBm.mono hwc))
  have hw6 := hBm.size
  have hvt : ∃ At tc, vt = .slice At T.tok.length tc := rows_int_form Htr6.out
  obtain ⟨At, tc, rfl⟩ := hvt
  have hd1 : ∀ b, foot bt bm bk b → ¬ foot ct cm ck b := fun b hb => by rcases hb with h | h | h <;> (rintro (h' | h' | h') <;> omega)
  have Hd1 := Lib.hid hd1
  have hd2 : ∀ b, foot ct cm ck b → ¬ foot bt bm bk b := fun b hb => by rcases hb with h | h | h <;> (rintro (h' | h' | h') <;> omega)
  have Hd2 := Lib.hid hd2
  clear hcs1 htr1 hI6 hB6 hBm Hcs Htr Hc0 Ht0 Hcp HIT hd1 hd2
  go_upto_block 2 with fail
  go_cut [] (fun wx => ∃ U, Hid (Runs T ds2 U) ∧ Hid (IsTab wx ct cm ck U) ∧ Hid (Kept (foot ct cm ck) w6 wx))
  case first =>
    go_wp2_with fail
    go_loopg [13] ds2.length (fun kk i wx => ∃ (j : Nat) (U : Tab), j ≤ ds2.length ∧ kk = ds2.length - j ∧ i = .int .i64 j ∧ Hid (Runs T (ds2.take j) U) ∧ Hid (IsTab wx ct cm ck U) ∧ Hid (Kept (foot ct cm ck) w6 wx))
    case atStart => exact ⟨0, T, by omega, by omega, rfl, Lib.hid rfl, HI6, Lib.hid (Kept.refl _ _)⟩
    case round =>
      obtain ⟨j, U, hj, rfl, rfl, HR, HU, HKU⟩ := hrel
      have hBx := foot_below HB6.out HKU.out (by omega) (by omega) (by omega)
      have hszx := hBx.size
      by_cases hlt : j < ds2.length
      · obtain ⟨b, o, rfl, hb, _, ⟨p0, p1, p2, p3, p4, p5, p6, p7⟩, bt1, hk1, hk2⟩ := (drow_cells (HD2.out.below hBx)).2.2 j hlt
        have hT := (HR.out.inv HvT.out).mono (M := 2097152) (by rw [List.length_take]; omega)
        have Hd := Lib.hid (fun W (hB : Below wr.heap.size wr W) => done_any (HU.out.below hB) hT (by omega) ds2[j] ds2[j].sv (fun b => b < w.heap.size) (bt1.below hB) (by omega) (fun b hb hf => by rcases hf with h | h | h <;> omega))
        have Hst := Lib.hid (fun sv => Runs.take (sv := sv) hlt HR.out)
        have hj0 : (0 : Int) ≤ (j : Int) := by omega
        have hj1 : (j : Int) < (ds2.length : Int) := by omega
        have hjt : ((j : Int)).toNat = j := by omega
        obtain ⟨lu1, lu2, lu3⟩ := HU.out.lt
        generalize ds2[j] = d at *
        obtain ⟨As, cs, hsv, _, _⟩ := bt1
        unfold doV at Hd
        rw [hsv] at p6 Hd
        clear hT hsv hBx
        go_wp2_with (go_at_call 11; refine (Hd.out _ (Kept.to_below (S := fun _ => False) (by repeat (first | with_reducible refine Kept.more ?_ _ | with_reducible refine Kept.alloc ?_ _ | with_reducible refine Kept.drew ?_ | with_reducible refine Kept.drewN ?_ _ | exact Kept.refl _ _)) (fun _ h => h.elim))).mono ?_; rintro e9 w9 ⟨sv, A9, n9, rfl, _, hI9, hK9⟩)
        have HK9 := Lib.hid (HKU.out.trans (Kept.trans (Kept.of_below (Kept.to_below (S := fun _ => False) (by repeat (first | with_reducible refine Kept.more ?_ _ | with_reducible refine Kept.alloc ?_ _ | with_reducible refine Kept.drew ?_ | with_reducible refine Kept.drewN ?_ _ | exact Kept.refl _ _)) (fun _ h => h.elim))) hK9))
        have HI9 := Lib.hid hI9
        clear hI9 hK9
        go_roundg (ds2.length - (j + 1))
        case measure => omega
        case rel => exact ⟨j + 1, _, by omega, rfl, by go_num, Lib.hid (Hst.out _), HI9, HK9⟩
      · have hjn : j = ds2.length := by omega
        subst hjn
        rw [List.take_of_length_le (Nat.le_refl _)] at HR
        clear hBx
        go_wp2
        go_meet
        exact ⟨U, HR, HU, HKU⟩
  case rest =>
  obtain ⟨U, HRu, HIu, HKu⟩ := hcut
  have HIt := Lib.hid (isTab_other HIt6.out HI6.out HKu.out Hd1.out)
  have HBu := Lib.hid (foot_below HB6.out HKu.out (by omega) (by omega) (by omega))
  have hwu := HBu.out.size
  have hwu6 := HKu.out.size
  have Hcsu := Lib.hid (crows_kept Hcs6.out (fun b hN hlt => HKu.out.block b hlt hN))
  have Htru := Lib.hid (rows_kept Htr6.out (fun b hN hlt => HKu.out.block b hlt hN))
  have Hc0 := Lib.hid (fun W (hB : Below wc.heap.size wc W) => cells_any (HIt.out.below hB) HvT.out)
  have Ht0 := Lib.hid (fun W (hB : Below wc.heap.size wc W) => tokens_any (HIt.out.below hB) (by omega))
  unfold CellsPost at Hc0
  clear HIt6 HI6 HKu Hcs6 Htr6
  go_upto_region 15 with fail
  go_cut [80] (fun p wx => p = .bool false ∧ Hid (Below wc.heap.size wc wx))
  case first =>
    go_wp2_with (go_at_call 14; refine (Hc0.out _ (Kept.to_below (S := fun _ => False) (by repeat (first | with_reducible refine Kept.more ?_ _ | with_reducible refine Kept.alloc ?_ _ | with_reducible refine Kept.drew ?_ | with_reducible refine Kept.drewN ?_ _ | exact Kept.refl _ _)) (fun _ h => h.elim))).mono ?_; rintro e4 w4 ⟨vd, cd, rfl, hcd, hbard, hB4⟩; have Hcd := Lib.hid hcd; obtain ⟨Ad, dcap, rfl, _, _, hcld⟩ := hcd; have Hbard := Lib.hid hbard; clear hbard; obtain ⟨z4', rfl⟩ := later_of_below hB4; clear hB4)
    refine (sameCells_any _ _ _ _ _ _ _ Hcd.out (crows_below Hcsu.out (Kept.to_below (S := fun _ => False) (by repeat (first | with_reducible refine Kept.more ?_ _ | with_reducible refine Kept.alloc ?_ _ | with_reducible refine Kept.drew ?_ | with_reducible refine Kept.drewN ?_ _ | exact Kept.refl _ _)) (fun _ h => h.elim)))).mono ?_
    rintro e7 w7 ⟨rfl, hB7⟩
    rw [sameCs_bare (Hbard.out.trans Hbare.out.symm)]
    obtain ⟨z7, rfl⟩ := later_of_below hB7
    clear hB7
    dsimp only
    go_wp2_with (go_at_call 17; refine (Ht0.out _ (Kept.to_below (S := fun _ => False) (by repeat (first | with_reducible refine Kept.more ?_ _ | with_reducible refine Kept.alloc ?_ _ | with_reducible refine Kept.drew ?_ | with_reducible refine Kept.drewN ?_ _ | exact Kept.refl _ _)) (fun _ h => h.elim))).mono ?_; rintro e5 w5 ⟨vt2, rfl, htr2, hB5⟩; obtain ⟨z5', rfl⟩ := later_of_below hB5; clear hB5; simp only [more_more, Array.append_assoc] at htr2; have Htr5 := Lib.hid htr2; clear htr2)
    refine (sameInts_any _ _ _ _ _ _ _ Htr5.out (rows_below Htru.out (Kept.to_below (S := fun _ => False) (by repeat (first | with_reducible refine Kept.more ?_ _ | with_reducible refine Kept.alloc ?_ _ | with_reducible refine Kept.drew ?_ | with_reducible refine Kept.drewN ?_ _ | exact Kept.refl _ _)) (fun _ h => h.elim)))).mono ?_
    rintro e8 w8 ⟨rfl, hB8⟩
    have hdt : decide (T.tok = T.tok) = true := decide_eq_true rfl
    rw [hdt]
    obtain ⟨z8, rfl⟩ := later_of_below hB8
    clear hB8
    dsimp only
    go_wp2
    go_meet
    exact ⟨rfl, (Kept.to_below' (S := fun _ => False) (by repeat (first | with_reducible refine Kept.more ?_ _ | with_reducible refine Kept.alloc ?_ _ | with_reducible refine Kept.drew ?_ | with_reducible refine Kept.drewN ?_ _ | exact Kept.refl _ _)) (by omega) (fun _ h => h.elim))⟩
  case rest =>
  obtain ⟨rfl, HBd⟩ := hcut
  obtain ⟨wd, hwd⟩ : ∃ W, W = wc := ⟨_, rfl⟩
  subst hwd
  have HItd := Lib.hid (HIt.out.below HBd.out)
  have HIud := Lib.hid (HIu.out.below HBd.out)
  have HBw := Lib.hid (HBu.out.trans (HBd.out.mono hwu))
  have hwd := HBw.out.size
  clear HIt HIu HBd HBu Hcsu Htru Hc0 Ht0
  go_upto_block 4 with fail
  go_cut [] (fun wx => ∃ U, Hid (Runs T ds2 U) ∧ Hid (IsTab wx bt bm bk U) ∧ Hid (Kept (foot bt bm bk) wd wx))
  case first =>
    go_wp2_with fail
    go_loopg [14] ds2.length (fun kk i wx => ∃ (j : Nat) (U : Tab), j ≤ ds2.length ∧ kk = ds2.length - j ∧ i = .int .i64 j ∧ Hid (Runs T (ds2.take j) U) ∧ Hid (IsTab wx bt bm bk U) ∧ Hid (Kept (foot bt bm bk) wd wx))
    case atStart => exact ⟨0, T, by omega, by omega, rfl, Lib.hid rfl, HItd, Lib.hid (Kept.refl _ _)⟩
    case round =>
      obtain ⟨j, U, hj, rfl, rfl, HR, HU, HKU⟩ := hrel
      have hBx := foot_below HBw.out HKU.out (by omega) (by omega) (by omega)
      have hszx := hBx.size
      by_cases hlt : j < ds2.length
      · obtain ⟨b, o, rfl, hb, _, ⟨p0, p1, p2, p3, p4, p5, p6, p7⟩, bt1, hk1, hk2⟩ := (drow_cells (HD2.out.below hBx)).2.2 j hlt
        have hT := (HR.out.inv HvT.out).mono (M := 2097152) (by rw [List.length_take]; omega)
        have Hd := Lib.hid (fun W (hB : Below wr.heap.size wr W) => done_any (HU.out.below hB) hT (by omega) ds2[j] ds2[j].sv (fun b => b < w.heap.size) (bt1.below hB) (by omega) (fun b hb hf => by rcases hf with h | h | h <;> omega))
        have Hst := Lib.hid (fun sv => Runs.take (sv := sv) hlt HR.out)
        have hj0 : (0 : Int) ≤ (j : Int) := by omega
        have hj1 : (j : Int) < (ds2.length : Int) := by omega
        have hjt : ((j : Int)).toNat = j := by omega
        obtain ⟨lu1, lu2, lu3⟩ := HU.out.lt
        generalize ds2[j] = d at *
        obtain ⟨As, cs, hsv, _, _⟩ := bt1
        unfold doV at Hd
        rw [hsv] at p6 Hd
        clear hT hsv hBx
        go_wp2_with (go_at_call 11; refine (Hd.out _ (Kept.to_below (S := fun _ => False) (by repeat (first | with_reducible refine Kept.more ?_ _ | with_reducible refine Kept.alloc ?_ _ | with_reducible refine Kept.drew ?_ | with_reducible refine Kept.drewN ?_ _ | exact Kept.refl _ _)) (fun _ h => h.elim))).mono ?_; rintro e9 w9 ⟨sv, A9, n9, rfl, _, hI9, hK9⟩)
        have HK9 := Lib.hid (HKU.out.trans (Kept.trans (Kept.of_below (Kept.to_below (S := fun _ => False) (by repeat (first | with_reducible refine Kept.more ?_ _ | with_reducible refine Kept.alloc ?_ _ | with_reducible refine Kept.drew ?_ | with_reducible refine Kept.drewN ?_ _ | exact Kept.refl _ _)) (fun _ h => h.elim))) hK9))
        have HI9 := Lib.hid hI9
        clear hI9 hK9
        go_roundg (ds2.length - (j + 1))
        case measure => omega
        case rel => exact ⟨j + 1, _, by omega, rfl, by go_num, Lib.hid (Hst.out _), HI9, HK9⟩
      · have hjn : j = ds2.length := by omega
        subst hjn
        rw [List.take_of_length_le (Nat.le_refl _)] at HR
        clear hBx
        go_wp2
        go_meet
        exact ⟨U, HR, HU, HKU⟩
  case rest =>
  obtain ⟨V, HRv, HIv, HKv⟩ := hcut
  have HIc := Lib.hid (isTab_other HIud.out HItd.out HKv.out Hd2.out)
  have HBv := Lib.hid (foot_below HBw.out HKv.out (by omega) (by omega) (by omega))
  have hwv := HBv.out.size
  have Hsm := Lib.hid (runs_same HRv.out HRu.out rfl)
  have HvV := Lib.hid (HRv.out.inv HvT.out)
  have HvU := Lib.hid (HRu.out.inv HvT.out)
  have hV1 : V.tok.length ≤ 256 := by have a1 := HvV.out.toks; have a2 := HvV.out.b1; omega
  have hU1 : U.tok.length ≤ 256 := by have a1 := HvU.out.toks; have a2 := HvU.out.b1; omega
  have hTU : V.tok = U.tok := by have e := congrArg Tab.tok Hsm.out; exact e
  have HTU := Lib.hid hTU
  have HcV := Lib.hid (fun W (hB : Below wc.heap.size wc W) => cells_any (HIv.out.below hB) HvV.out)
  have HcU := Lib.hid (fun W (hB : Below wc.heap.size wc W) => cells_any (HIc.out.below hB) HvU.out)
  have HtV := Lib.hid (fun W (hB : Below wc.heap.size wc W) => tokens_any (HIv.out.below hB) (by omega))
  have HtU := Lib.hid (fun W (hB : Below wc.heap.size wc W) => tokens_any (HIc.out.below hB) (by omega))
  have Hbb := Lib.hid (shown_bareT Hsm.out)
  unfold CellsPost at HcV HcU
  clear hTU HIud HItd HKv HRv HRu HIv HIc HvV HvU Hsm
  go_wp2_with fail
  refine (HcV.out _ (Kept.to_below (S := fun _ => False) (by repeat (first | with_reducible refine Kept.more ?_ _ | with_reducible refine Kept.alloc ?_ _ | with_reducible refine Kept.drew ?_ | with_reducible refine Kept.drewN ?_ _ | exact Kept.refl _ _)) (fun _ h => h.elim))).mono ?_
  rintro e4 w4 ⟨va, ca, rfl, hca, hba, hB4⟩
  have Hca := Lib.hid hca
  obtain ⟨Aa, acap, rfl, _, _, _⟩ := hca
  have Hba := Lib.hid hba
  obtain ⟨q4, rfl⟩ := later_of_below hB4
  clear hba hB4
  dsimp only
  go_wp2_with fail
  refine (HcU.out _ (Kept.to_below (S := fun _ => False) (by repeat (first | with_reducible refine Kept.more ?_ _ | with_reducible refine Kept.alloc ?_ _ | with_reducible refine Kept.drew ?_ | with_reducible refine Kept.drewN ?_ _ | exact Kept.refl _ _)) (fun _ h => h.elim))).mono ?_
  rintro e5 w5 ⟨vb, cb, rfl, hcb, hbb, hB5⟩
  obtain ⟨q5, rfl⟩ := later_of_below hB5
  have hca1 := crows_below Hca.out (more_below _ q5)
  simp only [more_more, Array.append_assoc] at hcb hca1
  have Hca1 := Lib.hid hca1
  have Hcb := Lib.hid hcb
  obtain ⟨Ab, bcap, rfl, _, _, _⟩ := hcb
  have Hbc := Lib.hid hbb
  clear hbb hB5 Hca hca1
  dsimp only
  go_wp2_with fail
  refine (sameCells_any _ _ _ _ _ _ _ Hca1.out Hcb.out).mono ?_
  rintro e7 w7 ⟨rfl, hB7⟩
  rw [sameCs_bare (Hba.out.trans (Hbb.out.trans Hbc.out.symm))]
  obtain ⟨q7, rfl⟩ := later_of_below hB7
  clear hB7 Hca1 Hcb
  dsimp only
  go_wp2_with fail
  refine (HtV.out _ (Kept.to_below (S := fun _ => False) (by repeat (first | with_reducible refine Kept.more ?_ _ | with_reducible refine Kept.alloc ?_ _ | with_reducible refine Kept.drew ?_ | with_reducible refine Kept.drewN ?_ _ | exact Kept.refl _ _)) (fun _ h => h.elim))).mono ?_
  rintro e8 w8 ⟨vt1, rfl, hta, hB8⟩
  have Hta := Lib.hid hta
  obtain ⟨q8, rfl⟩ := later_of_below hB8
  clear hta hB8
  dsimp only
  go_wp2_with fail
  refine (HtU.out _ (Kept.to_below (S := fun _ => False) (by repeat (first | with_reducible refine Kept.more ?_ _ | with_reducible refine Kept.alloc ?_ _ | with_reducible refine Kept.drew ?_ | with_reducible refine Kept.drewN ?_ _ | exact Kept.refl _ _)) (fun _ h => h.elim))).mono ?_
  rintro e9 w9 ⟨vt2, rfl, htb, hB9⟩
  obtain ⟨q9, rfl⟩ := later_of_below hB9
  have hta1 := rows_below Hta.out (more_below _ q9)
  simp only [more_more, Array.append_assoc] at htb hta1
  have Hta1 := Lib.hid hta1
  have Htb := Lib.hid htb
  clear htb hta1 hB9 Hta
  dsimp only
  go_wp2_with fail
  refine (sameInts_any _ _ _ _ _ _ _ Hta1.out Htb.out).mono ?_
  rintro e3 w3 ⟨rfl, hB3⟩
  rw [decide_eq_true HTU.out]
  obtain ⟨q3, rfl⟩ := later_of_below hB3
  clear hB3 Hta1 Htb
  dsimp only
  go_wp2_with (go_at_call 10; refine (Hk.out _).mono ?_; rintro q10_e q10_w ⟨rfl, q10_B⟩; obtain ⟨q10, rfl⟩ := later_of_below q10_B; clear q10_B)
  go_ret
  exact ⟨rfl, HBv.out.trans (((Kept.to_below' (S := fun _ => False) (by repeat (first | with_reducible refine Kept.more ?_ _ | with_reducible refine Kept.alloc ?_ _ | with_reducible refine Kept.drew ?_ | with_reducible refine Kept.drewN ?_ _ | exact Kept.refl _ _)) (by omega) (fun _ h => h.elim)) : Below wc.heap.size wc _).mono hwv)⟩
theorem copies_all (w : World) (r : Room) (v : Value) (ds : List Do) (v2 : Value) (ds2 : List Do) (hD : DRows w (fun b => b < w.heap.size) v ds) (hD2 : DRows w (fun b => b < w.heap.size) v2 ds2) :
    Calls Try.prog 7 #[roomV r, v, v2] w fun e w' => e = .returned (.bool true) ∧ Below w.heap.size w w' := by
  by_cases hr : roomOk r
  · by_cases h : 1500 < longD ds + longD ds2
    · exact copies_early w r v v2 ds ds2 hD hD2 hr h
    · exact copies_main w r v v2 ds ds2 hD hD2 hr (by omega)
  · exact copies_bad w r v v2 ds ds2 hD hD2 hr
end Go.Proofs.Ytibolfdgbbaclaa

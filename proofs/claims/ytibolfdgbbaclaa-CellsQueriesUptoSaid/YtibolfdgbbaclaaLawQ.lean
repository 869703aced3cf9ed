/-
  What is proved: the law CellsQueries, as a call.
  Conditions: bounds under which nothing wraps.
-/
import Derived.Test.YtibolfdgbbaclaaLawBase
import Derived.Deep.DeepCutAuto
import Derived.Deep.CutBlock
open Go Go.RowKit Go.Ice
namespace Go.Proofs.Ytibolfdgbbaclaa
set_option maxRecDepth 100000
set_option linter.unusedVariables false
set_option linter.unusedSimpArgs false
attribute [local go_sem] gives givesUpon later_self more_cell more_frozen more_block more_more more_drew more_setCell more_of_drew more_of_drewN more_size lt_plus lt_plus2 lt_plus3 lt_plus4 swap_size swap_cell swap_frozen swap_setCell swap_drew swap_drewN ne_low ne_low1 ne_low2 ne_low3 ne_low4 Instr.field part asAgg List.extract_toArray List.extract_eq_take_drop
set_option maxHeartbeats 1000000 in
theorem queries_bad (w : World) (r : Room) (v : Value) (ds : List Do) (k : ByteArray) (hD : DRows w (fun b => b < w.heap.size) v ds) (hr : ¬ roomOk r) :
    Calls Try.prog 3 #[roomV r, v, .string k] w fun e w' => e = .returned (.bool true) ∧ Below w.heap.size w w' := by
  have Hl := Lib.hid (fun W (hB : Below w.heap.size w W) => long_any W _ v ds (hD.below hB))
  have Hn := Lib.hid (fun W => new_bad (w := W) r hr)
  have Hk := Lib.hid known_any
  clear hD hr
  unfold roomV at *
  generalize longD ds = ln at Hl
  go_enter Try.func3, Try.ntmps3
  go_wp2_with (first
    | (go_at_call 8; refine (Hn.out _).mono ?_; rintro x1_e x1_w ⟨rfl, x1_B⟩; obtain ⟨x1, rfl⟩ := later_of_below x1_B; clear x1_B)
    | (go_at_call 9; refine (Hl.out _ (Kept.to_below (S := fun _ => False) (by repeat (first | with_reducible refine Kept.more ?_ _ | with_reducible refine Kept.alloc ?_ _ | with_reducible refine Kept.drew ?_ | with_reducible refine Kept.drewN ?_ _ | exact Kept.refl _ _)) (fun _ h => h.elim))).mono ?_; rintro x2_e x2_w ⟨rfl, x2_B⟩; obtain ⟨x2, rfl⟩ := later_of_below x2_B; clear x2_B)
    | (go_at_call 10; refine (Hk.out _).mono ?_; rintro x3_e x3_w ⟨rfl, x3_B⟩; obtain ⟨x3, rfl⟩ := later_of_below x3_B; clear x3_B))
  all_goals
    go_ret
    exact ⟨rfl, (Kept.to_below' (S := fun _ => False) (by repeat (first | with_reducible refine Kept.more ?_ _ | with_reducible refine Kept.alloc ?_ _ | with_reducible refine Kept.drew ?_ | with_reducible refine Kept.drewN ?_ _ | exact Kept.refl _ _)) (by omega) (fun _ h => h.elim))⟩
set_option maxHeartbeats 1000000 in
theorem queries_early (w : World) (r : Room) (v : Value) (ds : List Do) (k : ByteArray) (hD : DRows w (fun b => b < w.heap.size) v ds) (hr : roomOk r) (he : 1500 < longD ds ∨ k.size = 0 ∨ 250 < k.size) :
    Calls Try.prog 3 #[roomV r, v, .string k] w fun e w' => e = .returned (.bool true) ∧ Below w.heap.size w w' := by
  have Hl := Lib.hid (fun W (hB : Below w.heap.size w W) => long_any W _ v ds (hD.below hB))
  have Hn := Lib.hid (fun W => new_ok (w := W) r hr)
  have Hk := Lib.hid known_any
  clear hD hr
  unfold roomV at *
  generalize longD ds = ln at Hl he
  have hcase : 1500 < ln ∨ (¬ 1500 < ln ∧ k = ByteArray.empty) ∨ (¬ 1500 < ln ∧ ¬ k = ByteArray.empty ∧ 250 < (k.size : Int)) := by
    by_cases c1 : 1500 < ln
    · exact .inl c1
    · by_cases c2 : k = ByteArray.empty
      · exact .inr (.inl ⟨c1, c2⟩)
      · refine .inr (.inr ⟨c1, c2, ?_⟩)
        rcases he with h | h | h
        · exact absurd h c1
        · exact absurd (size_zero h) c2
        · omega
  clear he
  rcases hcase with c1 | ⟨c1, c2⟩ | ⟨c1, c2, c3⟩
  all_goals
    go_enter Try.func3, Try.ntmps3
    go_wp2_with fail
    refine (Hn.out _).mono ?_
    rintro e1 w1 ⟨bt, bm, bk, rfl, _, hB1, _⟩
    dsimp only
    obtain ⟨x1, rfl⟩ := later_of_below hB1
    clear hB1
    go_wp2_with (first
      | (go_at_call 9; refine (Hl.out _ (Kept.to_below (S := fun _ => False) (by repeat (first | with_reducible refine Kept.more ?_ _ | with_reducible refine Kept.alloc ?_ _ | with_reducible refine Kept.drew ?_ | with_reducible refine Kept.drewN ?_ _ | exact Kept.refl _ _)) (fun _ h => h.elim))).mono ?_; rintro x2_e x2_w ⟨rfl, x2_B⟩; obtain ⟨x2, rfl⟩ := later_of_below x2_B; clear x2_B)
      | (go_at_call 10; refine (Hk.out _).mono ?_; rintro x3_e x3_w ⟨rfl, x3_B⟩; obtain ⟨x3, rfl⟩ := later_of_below x3_B; clear x3_B))
    go_ret
    exact ⟨rfl, (Kept.to_below' (S := fun _ => False) (by repeat (first | with_reducible refine Kept.more ?_ _ | with_reducible refine Kept.alloc ?_ _ | with_reducible refine Kept.drew ?_ | with_reducible refine Kept.drewN ?_ _ | exact Kept.refl _ _)) (by omega) (fun _ h => h.elim))⟩
set_option maxHeartbeats 2000000 in
theorem queries_main (w : World) (r : Room) (v : Value) (ds : List Do) (k : ByteArray) (hD : DRows w (fun b => b < w.heap.size) v ds) (hr : roomOk r) (h1 : longD ds ≤ 1500) (h2 : 0 < k.size) (h3 : k.size ≤ 250) :
    Calls Try.prog 3 #[roomV r, v, .string k] w fun e w' => e = .returned (.bool true) ∧ Below w.heap.size w w' := by
  have Hl := Lib.hid (fun W (hB : Below w.heap.size w W) => long_any W _ v ds (hD.below hB))
  have Hn := Lib.hid (fun W => new_ok (w := W) r hr)
  have Hk := Lib.hid known_any
  have HD := Lib.hid hD
  have Hr := Lib.hid hr
  have hv := hD
  obtain ⟨A, cc, rfl, _, _, hdl⟩ := hv
  have h1' : ¬ 1500 < longD ds := by omega
  have k2 : ¬ k = ByteArray.empty := fun e => by rw [e] at h2; simp at h2
  have k3 : ¬ 250 < (k.size : Int) := by omega
  have k4 : ((k.size : Int) == 0) = false := by simp; omega
  have H1 := Lib.hid h1
  clear hD hr h1
  unfold roomV at *
  generalize longD ds = ln at Hl h1'
  go_enter Try.func3, Try.ntmps3
  go_upto_region 4 with (first
    | (go_at_call 8; refine (Hn.out _).mono ?_; rintro e1 w1 ⟨bt, bm, bk, rfl, hI1, hB1, g1, g2, g3⟩; have HI1 := Lib.hid hI1; clear hI1; obtain ⟨x1, rfl⟩ := later_of_below hB1; clear hB1)
    | (go_at_call 9; refine (Hl.out _ (Kept.to_below (S := fun _ => False) (by repeat (first | with_reducible refine Kept.more ?_ _ | with_reducible refine Kept.alloc ?_ _ | with_reducible refine Kept.drew ?_ | with_reducible refine Kept.drewN ?_ _ | exact Kept.refl _ _)) (fun _ h => h.elim))).mono ?_; rintro x2_e x2_w ⟨rfl, x2_B⟩; obtain ⟨x2, rfl⟩ := later_of_below x2_B; clear x2_B))
  go_upto_block 0 with fail
  have hsz0 : (w.alloc (.cells #[.int .i64 r.cells, .int .i64 r.bytes, .int .i64 r.buckets, .bool r.fresh] 23)).heap.size = w.heap.size + 1 := alloc_size _ _
  rw [hsz0] at g1 g2 g3
  clear hsz0 Hl h1'
  go_cut [] (fun wx => ∃ T, Hid (Way w wx bt bm bk (freshT r) ds T))
  case first =>
    go_wp2_with fail
    go_loopg [9] ds.length (fun k i wx => ∃ (j : Nat) (T : Tab), j ≤ ds.length ∧ k = ds.length - j ∧ i = .int .i64 j ∧ Hid (Way w wx bt bm bk (freshT r) (ds.take j) T))
    case atStart => exact ⟨0, freshT r, by omega, by omega, rfl, Lib.hid ⟨rfl, (by have h := HI1.out.more x2; simpa only [more_more] using h), (Kept.to_below' (S := fun _ => False) (by repeat (first | with_reducible refine Kept.more ?_ _ | with_reducible refine Kept.alloc ?_ _ | with_reducible refine Kept.drew ?_ | with_reducible refine Kept.drewN ?_ _ | exact Kept.refl _ _)) (by omega) (fun _ h => h.elim))⟩⟩
    case round =>
      obtain ⟨j, T, hj, rfl, rfl, HW⟩ := hrel
      by_cases hlt : j < ds.length
      · obtain ⟨b, o, rfl, hb, _, ⟨p0, p1, p2, p3, p4, p5, p6, p7⟩, bt1, hk1, hk2⟩ := (drow_cells (HD.out.below HW.out.below)).2.2 j hlt
        have hT := HW.out.inv (inv_fresh r Hr.out) (by rw [List.length_take]; omega)
        have Hd := Lib.hid (fun W (hB : Below wr.heap.size wr W) => done_any (HW.out.tab.below hB) hT (by omega) ds[j] ds[j].sv (fun b => b < w.heap.size) (bt1.below hB) (by omega) (fun b hb hf => by rcases hf with h | h | h <;> omega))
        have Hst := Lib.hid (fun w' sv => Way.step (w' := w') (sv := sv) hlt HW.out)
        have hj0 : (0 : Int) ≤ (j : Int) := by omega
        have hj1 : (j : Int) < (ds.length : Int) := by omega
        have hjt : ((j : Int)).toNat = j := by omega
        have HB := Lib.hid HW.out.below
        generalize ds[j] = d at *
        obtain ⟨As, cs, hsv, _, _⟩ := bt1
        unfold doV at Hd
        rw [hsv] at p6 Hd
        clear hT hsv HW
        go_wp2_with (go_at_call 11; refine (Hd.out _ (Kept.to_below (S := fun _ => False) (by repeat (first | with_reducible refine Kept.more ?_ _ | with_reducible refine Kept.alloc ?_ _ | with_reducible refine Kept.drew ?_ | with_reducible refine Kept.drewN ?_ _ | exact Kept.refl _ _)) (fun _ h => h.elim))).mono ?_; rintro e9 w9 ⟨sv, A9, n9, rfl, _, hI9, hK9⟩)
        have HW9 := Lib.hid (Hst.out _ _ hI9 (HB.out.trans (hK9.to_below' HB.out.size (fun k hk => by rcases hk with h | h | h <;> omega))))
        go_roundg (ds.length - (j + 1))
        case measure => omega
        case rel => exact ⟨j + 1, _, by omega, rfl, by go_num, HW9⟩
      · have hjn : j = ds.length := by omega
        subst hjn
        rw [List.take_of_length_le (Nat.le_refl _)] at HW
        go_wp2
        go_meet
        exact ⟨T, HW⟩
  case rest =>
  obtain ⟨T, HW⟩ := hcut
  have hvT := HW.out.inv (inv_fresh r Hr.out) hdl
  obtain ⟨re, rh, rt, T1, T2, q1, q2, hrk, hrb, i1, i2, hlen, hbyt, hfin⟩ := query_twice hvT k h2 h3
  subst hrk
  have hTl : T.L.length ≤ 4096 := by
    have a1 := hvT.len; have a2 := hvT.cells
    omega
  have Hs1 := Lib.hid (fun W (hB : Below wc.heap.size wc W) => size_tab (HW.out.tab.below hB) (by omega))
  have Hq1 := Lib.hid (fun W (hB : Below wc.heap.size wc W) => query_any (HW.out.tab.below hB) hvT (by omega) re.key (by omega))
  unfold QueryPost at Hq1
  rw [q1] at Hq1
  unfold replyV at Hq1
  have Hi1 := Lib.hid i1
  have Hi2 := Lib.hid i2
  have Hq2 := Lib.hid q2
  have Hlen := Lib.hid hlen
  have Hbyt := Lib.hid hbyt
  have Hfin := Lib.hid hfin
  have HwB := Lib.hid HW.out.below
  have hwc := HW.out.below.size
  obtain ⟨lt1, lt2, lt3⟩ := HW.out.tab.lt
  clear hvT q1 q2 i1 i2 hlen hbyt hfin HW HI1 Hn
  dsimp only at Hq1
  generalize T.L.length = nT at *
  generalize T.bytes = bT at *
  go_wp2_with (go_at_call 12; refine (Hs1.out _ (Kept.to_below (S := fun _ => False) (by repeat (first | with_reducible refine Kept.more ?_ _ | with_reducible refine Kept.alloc ?_ _ | with_reducible refine Kept.drew ?_ | with_reducible refine Kept.drewN ?_ _ | exact Kept.refl _ _)) (fun _ h => h.elim))).mono ?_; rintro y1_e y1_w ⟨rfl, y1_B⟩; obtain ⟨y1, rfl⟩ := later_of_below y1_B; clear y1_B)
  refine (Hq1.out _ (Kept.to_below (S := fun _ => False) (by repeat (first | with_reducible refine Kept.more ?_ _ | with_reducible refine Kept.alloc ?_ _ | with_reducible refine Kept.drew ?_ | with_reducible refine Kept.drewN ?_ _ | exact Kept.refl _ _)) (fun _ h => h.elim))).mono ?_
  rintro e2 w2 ⟨A2, n2, rfl, hb2, hI2, hK2⟩
  dsimp only
  have hw2 := hK2.size
  have hB2 := foot_below (HwB.out.trans (Kept.to_below' (S := fun _ => False) (by repeat (first | with_reducible refine Kept.more ?_ _ | with_reducible refine Kept.alloc ?_ _ | with_reducible refine Kept.drew ?_ | with_reducible refine Kept.drewN ?_ _ | exact Kept.refl _ _)) (by omega) (fun _ h => h.elim))) hK2 (by omega) (by omega) (by omega)
  have HB2 := Lib.hid hB2
  have hw2' := hB2.size
  have Hb2 := Lib.hid (hb2.mono (N' := fun b => ¬ foot bt bm bk b) (fun b hb => by simp only [more_size] at hb; rintro (h | h | h) <;> omega))
  have l2 := hI2.lt
  obtain ⟨l21, l22, l23⟩ := l2
  have Hqq := Lib.hid (fun W (hB : Below w2.heap.size w2 W) => query_any (hI2.below hB) Hi1.out (by omega) re.key (by omega))
  unfold QueryPost at Hqq
  rw [Hq2.out] at Hqq
  unfold replyV at Hqq
  dsimp only at Hqq
  clear hb2 hI2 hK2 hB2 Hq1 Hs1 hw2
  go_wp2_with fail
  refine (Hqq.out _ (Kept.to_below (S := fun _ => False) (by repeat (first | with_reducible refine Kept.more ?_ _ | with_reducible refine Kept.alloc ?_ _ | with_reducible refine Kept.drew ?_ | with_reducible refine Kept.drewN ?_ _ | exact Kept.refl _ _)) (fun _ h => h.elim))).mono ?_
  rintro e3 w3 ⟨A3, n3, rfl, hb3, hI3, hK3⟩
  dsimp only
  have hbx := (Blk.of_alloc w2 _ 39).kept hK3 (by rintro (h | h | h) <;> omega)
  have Hbx := Lib.hid hbx
  have hw3 := hK3.size
  rw [alloc_size] at hw3
  have hB3 := foot_below (HB2.out.trans (Kept.to_below' (S := fun _ => False) (by repeat (first | with_reducible refine Kept.more ?_ _ | with_reducible refine Kept.alloc ?_ _ | with_reducible refine Kept.drew ?_ | with_reducible refine Kept.drewN ?_ _ | exact Kept.refl _ _)) (by omega) (fun _ h => h.elim))) hK3 (by omega) (by omega) (by omega)
  have HB3 := Lib.hid hB3
  have hw3' := hB3.size
  have Ha3 := Lib.hid (((Hb2.out.alloc (.cells #[.string re.key, .int .i64 re.seq, .int .i64 re.who, .int .i64 re.op, .bool re.has, .slice A2 re.b.length n2, .bool rh, .int .i64 rt] 39)).kept (fun b hN hlt => hK3.block b hlt hN)).mono (N' := fun _ => True) (fun _ _ => trivial))
  have Hb3 := Lib.hid (hb3.mono (N' := fun _ => True) (fun _ _ => trivial))
  have Hs3 := Lib.hid (fun W (hB : Below w3.heap.size w3 W) => size_tab (hI3.below hB) (by have := Hlen.out; omega))
  rw [Hlen.out, Hbyt.out] at Hs3
  have Hc3 := Lib.hid (fun W (hB : Below w3.heap.size w3 W) => cells_any (hI3.below hB) Hi2.out)
  unfold CellsPost at Hc3
  clear hbx hb3 hI3 hK3 hB3 Hqq
  go_upto_region 14 with (first
    | (go_at_call 12; refine (Hs3.out _ (Kept.to_below (S := fun _ => False) (by repeat (first | with_reducible refine Kept.more ?_ _ | with_reducible refine Kept.alloc ?_ _ | with_reducible refine Kept.drew ?_ | with_reducible refine Kept.drewN ?_ _ | exact Kept.refl _ _)) (fun _ h => h.elim))).mono ?_; rintro y3_e y3_w ⟨rfl, y3_B⟩; obtain ⟨y3, rfl⟩ := later_of_below y3_B; clear y3_B)
    | (go_at_call 14; refine (Hc3.out _ (Kept.to_below (S := fun _ => False) (by repeat (first | with_reducible refine Kept.more ?_ _ | with_reducible refine Kept.alloc ?_ _ | with_reducible refine Kept.drew ?_ | with_reducible refine Kept.drewN ?_ _ | exact Kept.refl _ _)) (fun _ h => h.elim))).mono ?_; rintro e4 w4 ⟨vc, cs, rfl, hcs, hbare, hB4⟩; have Hcs := Lib.hid (show CRows w4 (fun _ => True) vc cs from let ⟨A, c, h1, h2, h3, h4⟩ := hcs; ⟨A, c, h1, h2.mono fun _ _ => trivial, fun d hd => (h3 d hd).mono fun _ _ => trivial, h4⟩); obtain ⟨Ac, ccap, rfl, _, _, hcl⟩ := hcs; have Hbare := Lib.hid hbare; clear hbare; obtain ⟨z4, rfl⟩ := later_of_below hB4; clear hB4))
  go_cut [20] (fun i wx => i = .int .i64 0 ∧ Hid (Below w3.heap.size w3 wx) ∧ Hid (CRows wx (fun _ => True) (.slice Ac cs.length ccap) cs) ∧ Hid (Blk wx w3.heap.size #[.string re.key, .int .i64 re.seq, .int .i64 re.who, .int .i64 re.op, .bool re.has, .slice A3 re.b.length n3, .bool rh, .int .i64 rt] 39))
  case first =>
    go_wp2
    go_meet
    refine ⟨rfl, (Kept.to_below' (S := fun _ => False) (by repeat (first | with_reducible refine Kept.more ?_ _ | with_reducible refine Kept.alloc ?_ _ | with_reducible refine Kept.drew ?_ | with_reducible refine Kept.drewN ?_ _ | exact Kept.refl _ _)) (by omega) (fun _ h => h.elim)), (by have h := Hcs.out; simp only [more_more] at h; exact h), ?_⟩
    have hq := ((Blk.of_alloc w3 #[.string re.key, .int .i64 re.seq, .int .i64 re.who, .int .i64 re.op, .bool re.has, .slice A3 re.b.length n3, .bool rh, .int .i64 rt] 39).more y3).more z4
    simp only [more_more] at hq
    exact hq
  case rest =>
  obtain ⟨rfl, HBd, Hcd, Hbd⟩ := hcut
  have hwd := HBd.out.size
  have hbx := Hbx.out.below HBd.out
  have hb14 := Hbd.out
  have k0 := (hbx).cell 0; have fk0 := (hbx).fro 0; have k1 := (hbx).cell 1; have fk1 := (hbx).fro 1; have k2 := (hbx).cell 2; have fk2 := (hbx).fro 2; have k3 := (hbx).cell 3; have fk3 := (hbx).fro 3; have k4 := (hbx).cell 4; have fk4 := (hbx).fro 4; have k5 := (hbx).cell 5; have fk5 := (hbx).fro 5; have k6 := (hbx).cell 6; have fk6 := (hbx).fro 6; have k7 := (hbx).cell 7; have fk7 := (hbx).fro 7; simp at k0 k1 k2 k3 k4 k5 k6 k7
  have m0 := (hb14).cell 0; have fm0 := (hb14).fro 0; have m1 := (hb14).cell 1; have fm1 := (hb14).fro 1; have m2 := (hb14).cell 2; have fm2 := (hb14).fro 2; have m3 := (hb14).cell 3; have fm3 := (hb14).fro 3; have m4 := (hb14).cell 4; have fm4 := (hb14).fro 4; have m5 := (hb14).cell 5; have fm5 := (hb14).fro 5; have m6 := (hb14).cell 6; have fm6 := (hb14).fro 6; have m7 := (hb14).cell 7; have fm7 := (hb14).fro 7; simp at m0 m1 m2 m3 m4 m5 m6 m7
  have hx1 : w2.heap.size < wc.heap.size := by omega
  have hx2 : w3.heap.size < wc.heap.size := Hbd.out.lt
  have hwB3 := HB3.out.size
  have HBw := Lib.hid (HB3.out.trans (HBd.out.mono hwB3))
  have hwc2 := HBw.out.size
  obtain ⟨_, hcl2, hcc⟩ := crow_cells Hcd.out
  have Hcc := Lib.hid hcc
  have Ha9 := Lib.hid (Ha3.out.below HBd.out)
  have Hb9 := Lib.hid (Hb3.out.below HBd.out)
  have Hfin2 := Lib.hid (show anyQ re.key re cs = true ∨ (re.seq = 0 ∧ re.has = false) from Hfin.out.imp (fun h => anyQ_found Hi2.out rfl h Hbare.out) id)
  clear hbx hb14 hcc Hs3 Hc3 Hbx Hbd HBd
  go_upto_block 2 with fail
  go_cut [19] (fun s wx => s = .bool (anyQ re.key re cs) ∧ Later wc wx)
  case first =>
    go_wp2_with fail
    go_loopg [19, 20] cs.length (fun kk s i wx => ∃ (j : Nat) (b : Bool), j ≤ cs.length ∧ kk = cs.length - j ∧ i = .int .i64 j ∧ s = .bool b ∧ Hid (b = anyQ re.key re (cs.take j)) ∧ Later wc wx)
    case atStart => exact ⟨0, false, by omega, by omega, rfl, rfl, Lib.hid rfl, later_refl _⟩
    case round =>
      obtain ⟨j, b, hj, rfl, rfl, rfl, HE, e5, rfl⟩ := hrel
      by_cases hlt : j < cs.length
      · obtain ⟨b1, o1, rfl, hb1, ⟨p0, p1, p2, p3, p4, p5, p6, p7, p8⟩, bt1⟩ := Hcc.out j hlt
        have HT := Lib.hid (anyQ_take (k := re.key) (re := re) hlt)
        have hj0 : (0 : Int) ≤ (j : Int) := by omega
        have hj1 : (j : Int) < (cs.length : Int) := by omega
        have hjt : ((j : Int)).toNat = j := by omega
        generalize cs[j] = c at *
        have Hs := Lib.hid (fun W (hB : Below wc.heap.size wc W) => same_any W _ _ c.e re c.sv (.slice A2 re.b.length n2) (bt1.below hB) (Ha9.out.below hB))
        unfold entV at Hs
        generalize hsq : sameE c.e re = q at Hs
        have Hsq := Lib.hid hsq
        clear bt1 Hcc hsq
        cases b
        · by_cases hk : c.e.key = re.key
          · have hkb : (c.e.key.toList == re.key.toList) = true := (Lib.bytes_beq_iff _ _).2 hk
            have Hq := Lib.hid (show q = anyQ re.key re (cs.take (j + 1)) by
              rw [HT.out, ← HE.out]
              unfold hitQ
              rw [hk, Hsq.out]
              simp)
            have Hk2 := Lib.hid hk
            clear hk
            go_wp2
            refine wp_region_mix_lit [(0,false),(1,false),(2,false),(3,false),(4,false),(5,false),(6,false),(7,false),(8,false),(9,false),(10,false),(11,false),(12,false),(13,false),(14,false),(15,false),(16,false),(17,false),(18,false),(19,false),(20,false),(21,false)] (by kernel_rfl) (by kernel_rfl) ?_
            iterate 18 (refine mix_step rfl (fun K hK => ?_); go_simp; refine hK _ ?_; clear hK K)
            (refine mix_step rfl (fun K hK => ?_); go_simp; refine Exists.intro _ ⟨fun _ _ => call_gives (Hs.out _ (Kept.to_below (S := fun _ => False) (by repeat (first | with_reducible refine Kept.more ?_ _ | with_reducible refine Kept.alloc ?_ _ | with_reducible refine Kept.drew ?_ | with_reducible refine Kept.drewN ?_ _ | exact Kept.refl _ _)) (fun _ h => h.elim))), hK _ ?_⟩; clear hK K)
            iterate 3 (refine mix_step rfl (fun K hK => ?_); go_simp; refine hK _ ?_; clear hK K)
            refine mix_done (fun e6 => ?_)
            go_wp2
            go_roundg (cs.length - (j + 1))
            case measure => omega
            case rel => exact ⟨j + 1, q, by omega, rfl, by go_num, rfl, Hq, _, rfl⟩
          · have hkb : (c.e.key.toList == re.key.toList) = false := (Lib.bytes_beq_false_iff _ _).2 hk
            have Hq := Lib.hid (show false = anyQ re.key re (cs.take (j + 1)) by
              rw [HT.out, ← HE.out]
              unfold hitQ
              rw [decide_eq_false hk]
              simp)
            clear hk
            go_wp2
            refine wp_region_mix_lit [(0,false),(1,false),(2,false),(3,false),(4,false),(5,false),(6,false),(7,false),(8,false),(9,false),(10,false),(11,false),(12,false),(13,false),(14,false),(15,false),(16,false),(17,false),(18,false),(19,false),(20,false),(21,false)] (by kernel_rfl) (by kernel_rfl) ?_
            iterate 22 (refine mix_step rfl (fun K hK => ?_); go_simp; refine hK _ ?_; clear hK K)
            refine mix_done (fun e6 => ?_)
            go_wp2
            go_roundg (cs.length - (j + 1))
            case measure => omega
            case rel => exact ⟨j + 1, false, by omega, rfl, by go_num, rfl, Hq, _, rfl⟩
        · have Hq := Lib.hid (show true = anyQ re.key re (cs.take (j + 1)) by
            rw [HT.out, ← HE.out]
            simp)
          go_wp2
          refine wp_region_mix_lit [(0,false),(1,false),(2,false),(3,false),(4,false),(5,false),(6,false),(7,false),(8,false),(9,false),(10,false),(11,false),(12,false),(13,false),(14,false),(15,false),(16,false),(17,false),(18,false),(19,false),(20,false),(21,false)] (by kernel_rfl) (by kernel_rfl) ?_
          iterate 22 (refine mix_step rfl (fun K hK => ?_); go_simp; refine hK _ ?_; clear hK K)
          refine mix_done (fun e6 => ?_)
          go_wp2
          go_roundg (cs.length - (j + 1))
          case measure => omega
          case rel => exact ⟨j + 1, true, by omega, rfl, by go_num, rfl, Hq, _, rfl⟩
      · have hjn : j = cs.length := by omega
        subst hjn
        have := HE.out
        rw [List.take_of_length_le (Nat.le_refl _)] at this
        have Hb := Lib.hid this
        clear this
        go_wp2
        go_meet
        exact ⟨by rw [Hb.out], _, rfl⟩
  case rest =>
  obtain ⟨hsb, e5, rfl⟩ := hcut
  have Hsr := Lib.hid (show ∀ W, Below wc.heap.size wc W → Calls Try.prog 16 #[replyV re (.slice A2 re.b.length n2) rh rt, replyV re (.slice A3 re.b.length n3) rh rt] W (fun en w' => en = .returned (.bool true) ∧ Below W.heap.size W w') from fun W hB => by
    have h := sameReply_any W _ _ re re _ _ rh rh rt rt (Ha9.out.below hB) (Hb9.out.below hB)
    have e : sameR re re rh rh rt rt = true := by simp [sameR, sameE_refl]
    rwa [e] at h)
  unfold replyV at Hsr
  have hkk : (re.key.toList == re.key.toList) = true := (Lib.bytes_beq_iff _ _).2 rfl
  generalize anyQ re.key re cs = bq at Hfin2 hsb
  subst hsb
  clear Ha9 Hb9 Ha3 Hb3 Hfin Hbare Hcs Hcd Hb2 Hq2 Hi1 Hi2 HB2 HB3 HwB
  cases bq
  · have hf := Hfin2.out
    simp only [Bool.false_eq_true, false_or] at hf
    clear Hfin2
    obtain ⟨rk, rs, rw', ro, rha, rb⟩ := re
    obtain ⟨hz1, hz2⟩ := hf
    dsimp only at hz1 hz2
    subst hz1
    subst hz2
    dsimp only at *
    go_wp2_with (first
      | (go_at_call 16; refine (Hsr.out _ (Kept.to_below (S := fun _ => False) (by repeat (first | with_reducible refine Kept.more ?_ _ | with_reducible refine Kept.alloc ?_ _ | with_reducible refine Kept.drew ?_ | with_reducible refine Kept.drewN ?_ _ | exact Kept.refl _ _)) (fun _ h => h.elim))).mono ?_; rintro x7_e x7_w ⟨rfl, x7_B⟩; obtain ⟨x7, rfl⟩ := later_of_below x7_B; clear x7_B)
      | (go_at_call 10; refine (Hk.out _).mono ?_; rintro x8_e x8_w ⟨rfl, x8_B⟩; obtain ⟨x8, rfl⟩ := later_of_below x8_B; clear x8_B))
    go_ret
    exact ⟨rfl, HBw.out.trans (Kept.to_below' (S := fun _ => False) (by repeat (first | with_reducible refine Kept.more ?_ _ | with_reducible refine Kept.alloc ?_ _ | with_reducible refine Kept.drew ?_ | with_reducible refine Kept.drewN ?_ _ | exact Kept.refl _ _)) (by omega) (fun _ h => h.elim))⟩
  · clear Hfin2
    go_wp2_with (first
      | (go_at_call 16; refine (Hsr.out _ (Kept.to_below (S := fun _ => False) (by repeat (first | with_reducible refine Kept.more ?_ _ | with_reducible refine Kept.alloc ?_ _ | with_reducible refine Kept.drew ?_ | with_reducible refine Kept.drewN ?_ _ | exact Kept.refl _ _)) (fun _ h => h.elim))).mono ?_; rintro x7_e x7_w ⟨rfl, x7_B⟩; obtain ⟨x7, rfl⟩ := later_of_below x7_B; clear x7_B)
      | (go_at_call 10; refine (Hk.out _).mono ?_; rintro x8_e x8_w ⟨rfl, x8_B⟩; obtain ⟨x8, rfl⟩ := later_of_below x8_B; clear x8_B))
    go_ret
    exact ⟨rfl, HBw.out.trans (Kept.to_below' (S := fun _ => False) (by repeat (first | with_reducible refine Kept.more ?_ _ | with_reducible refine Kept.alloc ?_ _ | with_reducible refine Kept.drew ?_ | with_reducible refine Kept.drewN ?_ _ | exact Kept.refl _ _)) (by omega) (fun _ h => h.elim))⟩
theorem queries_all (w : World) (r : Room) (v : Value) (ds : List Do) (k : ByteArray) (hD : DRows w (fun b => b < w.heap.size) v ds) (hk : k.size ≤ 1048576) :
    Calls Try.prog 3 #[roomV r, v, .string k] w fun e w' => e = .returned (.bool true) ∧ Below w.heap.size w w' := by
  by_cases hr : roomOk r
  · by_cases he : 1500 < longD ds ∨ k.size = 0 ∨ 250 < k.size
    · exact queries_early w r v ds k hD hr he
    · exact queries_main w r v ds k hD hr (by omega) (by omega) (by omega)
  · exact queries_bad w r v ds k hD hr
end Go.Proofs.Ytibolfdgbbaclaa

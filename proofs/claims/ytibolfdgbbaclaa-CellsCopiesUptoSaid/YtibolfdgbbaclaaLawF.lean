/-
  What is proved: the law CellsForgets, as a call.
  Conditions: bounds under which nothing wraps.
-/
import Derived.Test.YtibolfdgbbaclaaLawBase
import Derived.Deep.DeepCutAuto
import Derived.Deep.CutBlock
open Go Go.RowKit Go.Ice
namespace Go.Proofs.Ytibolfdgbbaclaa
set_option maxRecDepth 100000
set_option linter.unusedVariables false
set_option linter.unusedSimpArgs false
attribute [local go_sem] gives givesUpon later_self more_cell more_frozen more_block more_more more_drew more_setCell more_of_drew more_of_drewN more_size lt_plus lt_plus2 lt_plus3 lt_plus4 swap_size swap_cell swap_frozen swap_setCell swap_drew swap_drewN ne_low ne_low1 ne_low2 ne_low3 ne_low4 Instr.field part asAgg List.extract_toArray List.extract_eq_take_drop
theorem made_room (T : Tab) (e : Ent) : (made T e).room = T.room := by
  unfold made
  split
  · exact (droppedAll_room T _).1
  · rfl
theorem stored_room (T : Tab) (e : Ent) (sv : Value) : (stored T e sv).1.room = T.room := by
  unfold stored
  split
  · split
    · rfl
    · split
      · exact made_room T e
      · rfl
  · split
    · exact made_room T e
    · rfl
theorem filled_room (T : Tab) (e : Ent) (sv : Value) : (filled T e sv).1.room = T.room := by
  have hrest : (if (victims T e).2 then (laid (made T e) ⟨e, true, true, 0, sv⟩, true, (0 : Int)) else (T, false, 30)).1.room = T.room := by
    split
    · exact made_room T e
    · rfl
  unfold filled
  cases hf : cfind T.L e.key with
  | none => exact hrest
  | some c =>
    dsimp only
    by_cases hc : 0 < tcmp (tagE c.e) (tagE e)
    · rw [if_pos hc]; rfl
    · rw [if_neg hc]; exact hrest
theorem stepT_room (T : Tab) (d : Do) (sv : Value) : (stepT T d sv).1.room = T.room := by
  unfold stepT
  split
  · unfold queried
    split
    · rfl
    · cases cfind T.L d.e.key <;> rfl
  split
  · show (storedA T d.e sv).1.room = _
    unfold storedA
    split
    · exact stored_room T d.e sv
    · rfl
  split
  · show (filledA T d.e d.tok sv).1.room = _
    unfold filledA
    split
    · split
      · exact filled_room T d.e sv
      · rfl
    · rfl
  split
  · show (cleanedA T d.e.key (tagE d.e)).1.room = _
    unfold cleanedA
    cases cfind T.L d.e.key with
    | none => rfl
    | some c => dsimp only; split <;> rfl
  split
  · rfl
  · show (evicted T d.e.key).1.room = _
    unfold evicted
    split <;> rfl
theorem Runs.room {T T' : Tab} {ds : List Do} (h : Runs T ds T') : T'.room = T.room := by
  induction ds generalizing T with
  | nil => cases h; rfl
  | cons x ds ih =>
    obtain ⟨s, hs⟩ := h
    rw [ih hs, stepT_room]
theorem way_buckets {w wx : World} {bt bm bk : Nat} {r : Room} {T : Tab} {ds : List Do} (h : Way w wx bt bm bk (freshT r) ds T) {N : Int} (hv : Inv T N) (hr : roomOk r) : (T.tok.length : Int) = r.buckets := by
  have h1 := hv.toks
  have h2 : T.room = r := h.runs.room
  rw [h2] at h1
  have := hr.2.2.2.2.1
  omega
theorem sameC_refl (x y : Cel) (h : bare x = bare y) : sameC x y = true := by
  have h1 : x.e = y.e := by have := congrArg Cel.e h; exact this
  have h2 : x.whole = y.whole := by have := congrArg Cel.whole h; exact this
  have h3 : x.clean = y.clean := by have := congrArg Cel.clean h; exact this
  have h4 : x.used = y.used := by have := congrArg Cel.used h; exact this
  unfold sameC
  rw [h1, h2, h3, h4, sameE_refl]
  simp
theorem sameCs_bare {a b : List Cel} (h : a.map bare = b.map bare) : sameCs a b = true := by
  have hl : a.length = b.length := by simpa using congrArg List.length h
  refine sameCs_iff.2 ⟨hl, fun j x y hx hy => sameC_refl x y ?_⟩
  have : (a.map bare)[j]? = (b.map bare)[j]? := by rw [h]
  rw [List.getElem?_map, List.getElem?_map, hx, hy] at this
  simpa using this
theorem crows_kept {w w' : World} {N : Nat → Prop} {v : Value} {cs : List Cel} (h : CRows w N v cs) (hk : ∀ b, N b → b < w.heap.size → w'.heap[b]? = w.heap[b]?) : CRows w' N v cs :=
  let ⟨A, c, h1, h2, h3, h4⟩ := h; ⟨A, c, h1, h2.kept hk, fun d hd => (h3 d hd).kept hk, h4⟩
theorem crows_mono {w : World} {N N' : Nat → Prop} {v : Value} {cs : List Cel} (h : CRows w N v cs) (hN : ∀ b, N b → N' b) : CRows w N' v cs :=
  let ⟨A, c, h1, h2, h3, h4⟩ := h; ⟨A, c, h1, h2.mono hN, fun d hd => (h3 d hd).mono hN, h4⟩
theorem crows_below {w w' : World} {N : Nat → Prop} {v : Value} {cs : List Cel} (h : CRows w N v cs) (hB : Below w.heap.size w w') : CRows w' N v cs := crows_kept h fun b _ hb => hB.block b hb
theorem cfind_map (g : Cel → Cel) (hg : ∀ c, (g c).e.key = c.e.key) (L : List Cel) (k : ByteArray) : cfind (L.map g) k = (cfind L k).map g := by
  induction L with
  | nil => rfl
  | cons c L ih =>
    rw [List.map_cons, cfind_cons, cfind_cons, hg, ih]
    split <;> rfl
theorem shown_map (g : Cel → Cel) (hg : ∀ c, (g c).e.key = c.e.key) (L : List Cel) : shown (L.map g) = (shown L).map g := by
  unfold shown
  have h1 : (L.map g).map (·.e.key) = L.map (·.e.key) := by
    rw [List.map_map]
    exact List.map_congr_left fun c _ => hg c
  rw [h1, List.map_filterMap]
  congr 1
  funext k
  exact cfind_map g hg L k
theorem forget_query {T : Tab} {N : Int} (hv : Inv T N) (k : ByteArray) (h2 : 0 < k.size) (h3 : k.size ≤ 250) : ∃ (re : Ent) (rt : Int) (T2 : Tab), queried (forgotten T) k = (T2, ⟨re, false, rt⟩, 0) ∧ Inv T2 (N + 2) ∧ T2.tok = T.tok.map (· + 1) ∧ tokAt T2 k = rt ∧ (1 ≤ rt ∧ rt ≤ N + 2) ∧ re.b.length ≤ 60000 := by
  have hn : ¬ (k.size = 0 ∨ 250 < k.size) := by omega
  have i1 := inv_forgotten hv
  have i2 := inv_queried i1 k
  have e2 : N + 1 + 1 = N + 2 := by omega
  rw [e2] at i2
  have hb := hbucket_in k T.room.buckets hv.b0
  have hlt : (hbucket k T.room.buckets).toNat < T.tok.length := by rw [hv.toks]; have := hv.b0; omega
  have ht : tokAt (forgotten T) k = T.tok[(hbucket k T.room.buckets).toNat] + 1 := by
    show (T.tok.map (· + 1)).getD (hbucket k T.room.buckets).toNat 0 = _
    rw [List.getD_eq_getElem?_getD, List.getElem?_map, List.getElem?_eq_getElem hlt]
    rfl
  have hrange := hv.tok _ (List.getElem_mem hlt)
  have hl0 : (0 : Int) ≤ T.L.length := by omega
  have hr : 1 ≤ tokAt (forgotten T) k ∧ tokAt (forgotten T) k ≤ N + 2 := by rw [ht]; omega
  cases hf : cfind (forgotten T).L k with
  | none =>
    have q1 : queried (forgotten T) k = (forgotten T, ⟨zeroE k, decide (tokAt (forgotten T) k = 0), tokAt (forgotten T) k⟩, 0) := by unfold queried; rw [if_neg hn, hf]
    have hd : decide (tokAt (forgotten T) k = 0) = false := decide_eq_false (by omega)
    rw [hd] at q1
    rw [q1] at i2
    exact ⟨_, _, _, q1, i2, rfl, rfl, hr, by simp [zeroE]⟩
  | some c =>
    have q1 : queried (forgotten T) k = (laid (forgotten T) c, ⟨c.e, c.whole, tokAt (forgotten T) k⟩, 0) := by unfold queried; rw [if_neg hn, hf]
    obtain ⟨d, hd, rfl⟩ := List.mem_map.1 (cfind_some hf).1
    rw [q1] at i2
    exact ⟨_, _, _, q1, i2, rfl, rfl, hr, (hv.size d hd).2⟩
theorem fill_none {T2 : Tab} {k : ByteArray} {rt : Int} (h2 : 0 < k.size) (h3 : k.size ≤ 250) (ht : tokAt T2 k = rt) (sv : Value) : filledA T2 (zeroE k) (rt - 1) sv = (T2, false, 0) := by
  have hok : okE (zeroE k) := by
    unfold okE entOk tagOk zeroE
    simp only [List.length_nil]
    refine ⟨by omega, h3, by omega, by simp, by simp, by simp⟩
  unfold filledA
  rw [if_pos hok, if_neg]
  show ¬ tokAt T2 k = rt - 1
  omega
theorem tok_moved {T : Tab} {N : Int} (hv : Inv T N) : decide (T.tok.map (· + 1) = T.tok) = false := by
  refine decide_eq_false fun h => ?_
  have hl : 0 < T.tok.length := by rw [hv.toks]; have := hv.b0; omega
  have h1 : (T.tok.map (· + 1))[0]? = T.tok[0]? := by rw [h]
  rw [List.getElem?_map, List.getElem?_eq_getElem hl] at h1
  simp at h1
  omega
set_option maxHeartbeats 1000000 in
theorem forgets_bad (w : World) (r : Room) (v : Value) (ds : List Do) (k : ByteArray) (hD : DRows w (fun b => b < w.heap.size) v ds) (hr : ¬ roomOk r) :
    Calls Try.prog 4 #[roomV r, v, .string k] w fun e w' => e = .returned (.bool true) ∧ Below w.heap.size w w' := by
  have Hl := Lib.hid (fun W (hB : Below w.heap.size w W) => long_any W _ v ds (hD.below hB))
  have Hn := Lib.hid (fun W => new_bad (w := W) r hr)
  have Hk := Lib.hid known_any
  clear hD hr
  unfold roomV at *
  generalize longD ds = ln at Hl
  go_enter Try.func4, Try.ntmps4
  go_wp2_with (first
    | (go_at_call 8; refine (Hn.out _).mono ?_; rintro x1_e x1_w ⟨rfl, x1_B⟩; obtain ⟨x1, rfl⟩ := later_of_below x1_B; clear x1_B)
    | (go_at_call 9; refine (Hl.out _ (Kept.to_below (S := fun _ => False) (by repeat (first | with_reducible refine Kept.more ?_ _ | with_reducible refine Kept.alloc ?_ _ | with_reducible refine Kept.drew ?_ | with_reducible refine Kept.drewN ?_ _ | exact Kept.refl _ _)) (fun _ h => h.elim))).mono ?_; rintro x2_e x2_w ⟨rfl, x2_B⟩; obtain ⟨x2, rfl⟩ := later_of_below x2_B; clear x2_B)
    | (go_at_call 10; refine (Hk.out _).mono ?_; rintro x3_e x3_w ⟨rfl, x3_B⟩; obtain ⟨x3, rfl⟩ := later_of_below x3_B; clear x3_B))
  all_goals
    go_ret
    exact ⟨rfl, (Kept.to_below' (S := fun _ => False) (by repeat (first | with_reducible refine Kept.more ?_ _ | with_reducible refine Kept.alloc ?_ _ | with_reducible refine Kept.drew ?_ | with_reducible refine Kept.drewN ?_ _ | exact Kept.refl _ _)) (by omega) (fun _ h => h.elim))⟩
set_option maxHeartbeats 1000000 in
theorem forgets_early (w : World) (r : Room) (v : Value) (ds : List Do) (k : ByteArray) (hD : DRows w (fun b => b < w.heap.size) v ds) (hr : roomOk r) (he : 1500 < longD ds ∨ k.size = 0 ∨ 250 < k.size) :
    Calls Try.prog 4 #[roomV r, v, .string k] w fun e w' => e = .returned (.bool true) ∧ Below w.heap.size w w' := by
  have Hl := Lib.hid (fun W (hB : Below w.heap.size w W) => long_any W _ v ds (hD.below hB))
  have Hn := Lib.hid (fun W => new_ok (w := W) r hr)
  have Hk := Lib.hid known_any
  clear hD hr
  unfold roomV at *
  generalize longD ds = ln at Hl he
  have hcase : 1500 < ln ∨ (¬ 1500 < ln ∧ k = ByteArray.empty) ∨ (¬ 1500 < ln ∧ ¬ k = ByteArray.empty ∧ 250 < (k.size : Int)) := by
    by_cases c1 : 1500 < ln
    · exact .inl c1
    · by_cases c2 : k = ByteArray.empty
      · exact .inr (.inl ⟨c1, c2⟩)
      · refine .inr (.inr ⟨c1, c2, ?_⟩)
        rcases he with h | h | h
        · exact absurd h c1
        · exact absurd (size_zero h) c2
        · omega
  clear he
  rcases hcase with c1 | ⟨c1, c2⟩ | ⟨c1, c2, c3⟩
  all_goals
    go_enter Try.func4, Try.ntmps4
    go_wp2_with fail
    refine (Hn.out _).mono ?_
    rintro e1 w1 ⟨bt, bm, bk, rfl, _, hB1, _⟩
    dsimp only
    obtain ⟨x1, rfl⟩ := later_of_below hB1
    clear hB1
    go_wp2_with (first
      | (go_at_call 9; refine (Hl.out _ (Kept.to_below (S := fun _ => False) (by repeat (first | with_reducible refine Kept.more ?_ _ | with_reducible refine Kept.alloc ?_ _ | with_reducible refine Kept.drew ?_ | with_reducible refine Kept.drewN ?_ _ | exact Kept.refl _ _)) (fun _ h => h.elim))).mono ?_; rintro x2_e x2_w ⟨rfl, x2_B⟩; obtain ⟨x2, rfl⟩ := later_of_below x2_B; clear x2_B)
      | (go_at_call 10; refine (Hk.out _).mono ?_; rintro x3_e x3_w ⟨rfl, x3_B⟩; obtain ⟨x3, rfl⟩ := later_of_below x3_B; clear x3_B))
    go_ret
    exact ⟨rfl, (Kept.to_below' (S := fun _ => False) (by repeat (first | with_reducible refine Kept.more ?_ _ | with_reducible refine Kept.alloc ?_ _ | with_reducible refine Kept.drew ?_ | with_reducible refine Kept.drewN ?_ _ | exact Kept.refl _ _)) (by omega) (fun _ h => h.elim))⟩
set_option maxHeartbeats 2000000 in
theorem forgets_main (w : World) (r : Room) (v : Value) (ds : List Do) (k : ByteArray) (hD : DRows w (fun b => b < w.heap.size) v ds) (hr : roomOk r) (h1 : longD ds ≤ 1500) (h2 : 0 < k.size) (h3 : k.size ≤ 250) :
    Calls Try.prog 4 #[roomV r, v, .string k] w fun e w' => e = .returned (.bool true) ∧ Below w.heap.size w w' := by
  have Hl := Lib.hid (fun W (hB : Below w.heap.size w W) => long_any W _ v ds (hD.below hB))
  have Hn := Lib.hid (fun W => new_ok (w := W) r hr)
  have Hk := Lib.hid known_any
  have HD := Lib.hid hD
  have Hr := Lib.hid hr
  have hv := hD
  obtain ⟨A, cc, rfl, _, _, hdl⟩ := hv
  have h1' : ¬ 1500 < longD ds := by omega
  have k2 : ¬ k = ByteArray.empty := fun e => by rw [e] at h2; simp at h2
  have k3 : ¬ 250 < (k.size : Int) := by omega
  have k4 : ((k.size : Int) == 0) = false := by simp; omega
  have H1 := Lib.hid h1
  clear hD hr h1
  unfold roomV at *
  generalize longD ds = ln at Hl h1'
  go_enter Try.func4, Try.ntmps4
  go_upto_region 4 with (first
    | (go_at_call 8; refine (Hn.out _).mono ?_; rintro e1 w1 ⟨bt, bm, bk, rfl, hI1, hB1, g1, g2, g3⟩; have HI1 := Lib.hid hI1; clear hI1; obtain ⟨x1, rfl⟩ := later_of_below hB1; clear hB1)
    | (go_at_call 9; refine (Hl.out _ (Kept.to_below (S := fun _ => False) (by repeat (first | with_reducible refine Kept.more ?_ _ | with_reducible refine Kept.alloc ?_ _ | with_reducible refine Kept.drew ?_ | with_reducible refine Kept.drewN ?_ _ | exact Kept.refl _ _)) (fun _ h => h.elim))).mono ?_; rintro x2_e x2_w ⟨rfl, x2_B⟩; obtain ⟨x2, rfl⟩ := later_of_below x2_B; clear x2_B))
  go_upto_block 0 with fail
  have hsz0 : (w.alloc (.cells #[.int .i64 r.cells, .int .i64 r.bytes, .int .i64 r.buckets, .bool r.fresh] 23)).heap.size = w.heap.size + 1 := alloc_size _ _
  rw [hsz0] at g1 g2 g3
  clear hsz0 Hl h1'
  go_cut [] (fun wx => ∃ T, Hid (Way w wx bt bm bk (freshT r) ds T) ∧ Hid (Blk wx w.heap.size #[.int .i64 r.cells, .int .i64 r.bytes, .int .i64 r.buckets, .bool r.fresh] 23))
  case first =>
    go_wp2_with fail
    go_loopg [9] ds.length (fun k i wx => ∃ (j : Nat) (T : Tab), j ≤ ds.length ∧ k = ds.length - j ∧ i = .int .i64 j ∧ Hid (Way w wx bt bm bk (freshT r) (ds.take j) T) ∧ Hid (Blk wx w.heap.size #[.int .i64 r.cells, .int .i64 r.bytes, .int .i64 r.buckets, .bool r.fresh] 23))
    case atStart =>
      refine ⟨0, freshT r, by omega, by omega, rfl, Lib.hid ⟨rfl, (by have h := HI1.out.more x2; simpa only [more_more] using h), (Kept.to_below' (S := fun _ => False) (by repeat (first | with_reducible refine Kept.more ?_ _ | with_reducible refine Kept.alloc ?_ _ | with_reducible refine Kept.drew ?_ | with_reducible refine Kept.drewN ?_ _ | exact Kept.refl _ _)) (by omega) (fun _ h => h.elim))⟩, Lib.hid ?_⟩
      have hq := ((Blk.of_alloc w #[.int .i64 r.cells, .int .i64 r.bytes, .int .i64 r.buckets, .bool r.fresh] 23).more x1).more x2
      simp only [more_more] at hq
      exact hq
    case round =>
      obtain ⟨j, T, hj, rfl, rfl, HW, HX⟩ := hrel
      by_cases hlt : j < ds.length
      · obtain ⟨b, o, rfl, hb, _, ⟨p0, p1, p2, p3, p4, p5, p6, p7⟩, bt1, hk1, hk2⟩ := (drow_cells (HD.out.below HW.out.below)).2.2 j hlt
        have hT := HW.out.inv (inv_fresh r Hr.out) (by rw [List.length_take]; omega)
        have Hd := Lib.hid (fun W (hB : Below wr.heap.size wr W) => done_any (HW.out.tab.below hB) hT (by omega) ds[j] ds[j].sv (fun b => b < w.heap.size) (bt1.below hB) (by omega) (fun b hb hf => by rcases hf with h | h | h <;> omega))
        have Hst := Lib.hid (fun w' sv => Way.step (w' := w') (sv := sv) hlt HW.out)
        have hj0 : (0 : Int) ≤ (j : Int) := by omega
        have hj1 : (j : Int) < (ds.length : Int) := by omega
        have hjt : ((j : Int)).toNat = j := by omega
        have HB := Lib.hid HW.out.below
        generalize ds[j] = d at *
        obtain ⟨As, cs, hsv, _, _⟩ := bt1
        unfold doV at Hd
        rw [hsv] at p6 Hd
        clear hT hsv HW
        go_wp2_with (go_at_call 11; refine (Hd.out _ (Kept.to_below (S := fun _ => False) (by repeat (first | with_reducible refine Kept.more ?_ _ | with_reducible refine Kept.alloc ?_ _ | with_reducible refine Kept.drew ?_ | with_reducible refine Kept.drewN ?_ _ | exact Kept.refl _ _)) (fun _ h => h.elim))).mono ?_; rintro e9 w9 ⟨sv, A9, n9, rfl, _, hI9, hK9⟩)
        have HW9 := Lib.hid (Hst.out _ _ hI9 (HB.out.trans (hK9.to_below' HB.out.size (fun k hk => by rcases hk with h | h | h <;> omega))))
        have HX9 := Lib.hid (HX.out.kept hK9 (by rintro (h | h | h) <;> omega))
        go_roundg (ds.length - (j + 1))
        case measure => omega
        case rel => exact ⟨j + 1, _, by omega, rfl, by go_num, HW9, HX9⟩
      · have hjn : j = ds.length := by omega
        subst hjn
        rw [List.take_of_length_le (Nat.le_refl _)] at HW
        go_wp2
        go_meet
        exact ⟨T, HW, HX⟩
  case rest =>
  obtain ⟨T, HW, HX⟩ := hcut
  have hvT := HW.out.inv (inv_fresh r Hr.out) hdl
  obtain ⟨re, rt, T2, q1, i2, htk, hta, hrt, hrb⟩ := forget_query hvT k h2 h3
  have hTl : T.tok.length ≤ 256 := by have a1 := hvT.toks; have a2 := hvT.b1; omega
  have hTb : (T.tok.length : Int) = r.buckets := way_buckets HW.out hvT Hr.out
  have Hc0 := Lib.hid (fun W (hB : Below wc.heap.size wc W) => cells_any (HW.out.tab.below hB) hvT)
  have Ht0 := Lib.hid (fun W (hB : Below wc.heap.size wc W) => tokens_any (HW.out.tab.below hB) (by omega))
  have Hf0 := Lib.hid (fun W (hB : Below wc.heap.size wc W) => forget_any (HW.out.tab.below hB) hvT (by omega))
  unfold CellsPost at Hc0
  have i1 := inv_forgotten hvT
  have Hmv := Lib.hid (tok_moved hvT)
  have HwB := Lib.hid HW.out.below
  have hwc := HW.out.below.size
  obtain ⟨lt1, lt2, lt3⟩ := HW.out.tab.lt
  have Htb := Lib.hid hTb
  have Hta := Lib.hid hta
  have hrt1 := hrt.1
  have hrt2 : rt ≤ 1048578 := by omega
  clear HW HI1 Hn hTb hta hrt
  go_wp2_with (first
    | (go_at_call 14; refine (Hc0.out _ (Kept.to_below (S := fun _ => False) (by repeat (first | with_reducible refine Kept.more ?_ _ | with_reducible refine Kept.alloc ?_ _ | with_reducible refine Kept.drew ?_ | with_reducible refine Kept.drewN ?_ _ | exact Kept.refl _ _)) (fun _ h => h.elim))).mono ?_; rintro e4 w4 ⟨vc, cs, rfl, hcs, hbare, hB4⟩; have Hcs := Lib.hid hcs; obtain ⟨Ac, ccap, rfl, _, _, hcl⟩ := hcs; have Hbare := Lib.hid hbare; clear hbare; obtain ⟨z4, rfl⟩ := later_of_below hB4; clear hB4)
    | (go_at_call 17; refine (Ht0.out _ (Kept.to_below (S := fun _ => False) (by repeat (first | with_reducible refine Kept.more ?_ _ | with_reducible refine Kept.alloc ?_ _ | with_reducible refine Kept.drew ?_ | with_reducible refine Kept.drewN ?_ _ | exact Kept.refl _ _)) (fun _ h => h.elim))).mono ?_; rintro e5 w5 ⟨vt, rfl, htr, hB5⟩; have Htr := Lib.hid htr; clear htr; obtain ⟨z5, rfl⟩ := later_of_below hB5; clear hB5))
  refine (Hf0.out _ (Kept.to_below (S := fun _ => False) (by repeat (first | with_reducible refine Kept.more ?_ _ | with_reducible refine Kept.alloc ?_ _ | with_reducible refine Kept.drew ?_ | with_reducible refine Kept.drewN ?_ _ | exact Kept.refl _ _)) (fun _ h => h.elim))).mono ?_
  rintro e2 w2 ⟨rfl, hI2, hK2⟩
  dsimp only
  have hK2' : Kept (foot bt bm bk) (more (more wc z4) z5) w2 := by rw [more_more]; exact hK2
  have hwX := hK2'.size
  simp only [more_size] at hwX
  have hB2 := foot_below (HwB.out.trans (Kept.to_below' (S := fun _ => False) (by repeat (first | with_reducible refine Kept.more ?_ _ | with_reducible refine Kept.alloc ?_ _ | with_reducible refine Kept.drew ?_ | with_reducible refine Kept.drewN ?_ _ | exact Kept.refl _ _)) (by omega) (fun _ h => h.elim))) hK2 (by omega) (by omega) (by omega)
  have hNF : ∀ b, wc.heap.size ≤ b → ¬ foot bt bm bk b := fun b hb => by rintro (h | h | h) <;> omega
  have Hcs2 := Lib.hid (crows_mono (crows_kept (crows_below Hcs.out (more_below _ z5)) (fun b hN hlt => hK2'.block b hlt (hNF b hN))) (N' := fun b => ¬ foot bt bm bk b) hNF)
  have Htr2 := Lib.hid (rows_mono (rows_kept Htr.out (fun b hN hlt => hK2'.block b hlt (hNF b (by simp only [more_size] at hN; omega)))) (N' := fun b => ¬ foot bt bm bk b) (fun b hN => hNF b (by simp only [more_size] at hN; omega)))
  have HX2 := Lib.hid (((HX.out.more z4).more z5).kept hK2' (by rintro (h | h | h) <;> omega))
  have HB2 := Lib.hid hB2
  have hw2 := hB2.size
  obtain ⟨l21, l22, l23⟩ := hI2.lt
  have Hc1 := Lib.hid (fun W (hB : Below w2.heap.size w2 W) => cells_any (hI2.below hB) i1)
  unfold CellsPost at Hc1
  have Hq := Lib.hid (fun W (hB : Below w2.heap.size w2 W) => query_any (hI2.below hB) i1 (by omega) k (by omega))
  unfold QueryPost at Hq
  rw [q1] at Hq
  unfold replyV at Hq
  dsimp only at Hq
  have Hi2 := Lib.hid i2
  clear hI2 hK2 hK2' hB2 Hc0 Ht0 Hf0 i1 q1 i2 HX Hcs Htr hNF hwX
  go_wp2_with (go_at_call 14; refine (Hc1.out _ (Kept.to_below (S := fun _ => False) (by repeat (first | with_reducible refine Kept.more ?_ _ | with_reducible refine Kept.alloc ?_ _ | with_reducible refine Kept.drew ?_ | with_reducible refine Kept.drewN ?_ _ | exact Kept.refl _ _)) (fun _ h => h.elim))).mono ?_; rintro e6 w6 ⟨vd, ct, rfl, hct, hbart, hB6⟩; have Hct := Lib.hid hct; obtain ⟨Ad, dcap, rfl, _, _, hdl2⟩ := hct; have Hbart := Lib.hid hbart; clear hbart; obtain ⟨z6, rfl⟩ := later_of_below hB6; clear hB6)
  refine (Hq.out _ (Kept.to_below (S := fun _ => False) (by repeat (first | with_reducible refine Kept.more ?_ _ | with_reducible refine Kept.alloc ?_ _ | with_reducible refine Kept.drew ?_ | with_reducible refine Kept.drewN ?_ _ | exact Kept.refl _ _)) (fun _ h => h.elim))).mono ?_
  rintro e3 w3 ⟨A3, n3, rfl, _, hI3, hK3⟩
  dsimp only
  have hB3 := foot_below (HB2.out.trans (Kept.to_below' (S := fun _ => False) (by repeat (first | with_reducible refine Kept.more ?_ _ | with_reducible refine Kept.alloc ?_ _ | with_reducible refine Kept.drew ?_ | with_reducible refine Kept.drewN ?_ _ | exact Kept.refl _ _)) (by omega) (fun _ h => h.elim))) hK3 (by omega) (by omega) (by omega)
  have hwY := hK3.size
  simp only [more_size] at hwY
  have Hcs3 := Lib.hid (crows_mono (crows_kept (crows_below Hcs2.out (more_below _ z6)) (fun b hN hlt => hK3.block b hlt hN)) (N' := fun _ => True) (fun _ _ => trivial))
  have Hct3 := Lib.hid (crows_mono (crows_kept Hct.out (fun b hN hlt => hK3.block b hlt (by rintro (h | h | h) <;> omega))) (N' := fun _ => True) (fun _ _ => trivial))
  have Htr3 := Lib.hid (rows_mono (rows_kept (rows_below Htr2.out (more_below _ z6)) (fun b hN hlt => hK3.block b hlt hN)) (N' := fun _ => True) (fun _ _ => trivial))
  have hX3 := (HX2.out.more z6).kept hK3 (by rintro (h | h | h) <;> omega)
  have x2' := hX3.cell 2
  simp at x2'
  have hxl := hX3.lt
  have HB3 := Lib.hid hB3
  have hw3 := hB3.size
  have Ht3 := Lib.hid (fun W (hB : Below w3.heap.size w3 W) => tokens_any (hI3.below hB) (by rw [htk]; simp; omega))
  rw [htk] at Ht3
  have HI3 := Lib.hid hI3
  have hcl1 : ct.length = cs.length := by
    have a1 := congrArg List.length Hbart.out
    have a2 := congrArg List.length Hbare.out
    have e1 : shown (forgotten T).L = (shown T.L).map unwhole := shown_map unwhole (fun _ => rfl) T.L
    rw [e1] at a1
    simp only [List.length_map] at a1 a2
    omega
  have hne1 : ((ct.length : Int) != (cs.length : Int)) = false := by rw [hcl1]; simp
  have Hcl1 := Lib.hid hcl1
  clear hcl1
  have hne2 : ((T.tok.length : Int) != r.buckets) = false := by rw [Htb.out]; simp
  have hvt : ∃ At tc, vt = .slice At T.tok.length tc := rows_int_form Htr3.out
  obtain ⟨At, tc, rfl⟩ := hvt
  clear hI3 hK3 hB3 hX3 Hq Hc1 Hcs2 Htr2 HX2 Hct htk hwY
  go_upto_region 13 with fail
  go_cut [100] (fun p wx => p = .bool false ∧ Hid (Below w3.heap.size w3 wx) ∧ Hid (Blk wx w3.heap.size #[.string re.key, .int .i64 re.seq, .int .i64 re.who, .int .i64 re.op, .bool re.has, .slice A3 re.b.length n3, .bool false, .int .i64 rt] 39))
  case first =>
    go_wp2_with (go_at_call 17; refine (Ht3.out _ (Kept.to_below (S := fun _ => False) (by repeat (first | with_reducible refine Kept.more ?_ _ | with_reducible refine Kept.alloc ?_ _ | with_reducible refine Kept.drew ?_ | with_reducible refine Kept.drewN ?_ _ | exact Kept.refl _ _)) (fun _ h => h.elim))).mono ?_; rintro e5 w5 ⟨vt2, rfl, htr2, hB5⟩; have Htr5 := Lib.hid htr2; clear htr2; obtain ⟨z5', rfl⟩ := later_of_below hB5; clear hB5)
    refine (sameInts_any _ _ _ _ _ _ _ Htr5.out (rows_below Htr3.out (Kept.to_below (S := fun _ => False) (by repeat (first | with_reducible refine Kept.more ?_ _ | with_reducible refine Kept.alloc ?_ _ | with_reducible refine Kept.drew ?_ | with_reducible refine Kept.drewN ?_ _ | exact Kept.refl _ _)) (fun _ h => h.elim)))).mono ?_
    rintro e7 w7 ⟨rfl, hB7⟩
    rw [Hmv.out]
    obtain ⟨z7, rfl⟩ := later_of_below hB7
    clear hB7
    dsimp only
    go_wp2
    go_meet
    refine ⟨rfl, (Kept.to_below' (S := fun _ => False) (by repeat (first | with_reducible refine Kept.more ?_ _ | with_reducible refine Kept.alloc ?_ _ | with_reducible refine Kept.drew ?_ | with_reducible refine Kept.drewN ?_ _ | exact Kept.refl _ _)) (by omega) (fun _ h => h.elim)), ?_⟩
    have hq := ((Blk.of_alloc w3 #[.string re.key, .int .i64 re.seq, .int .i64 re.who, .int .i64 re.op, .bool re.has, .slice A3 re.b.length n3, .bool false, .int .i64 rt] 39).more z5').more z7
    simp only [more_more] at hq
    exact hq
  case rest =>
  obtain ⟨rfl, HBd, Hbd⟩ := hcut
  have hwd := HBd.out.size
  have hb14 := Hbd.out
  have m0 := (hb14).cell 0; have fm0 := (hb14).fro 0; have m1 := (hb14).cell 1; have fm1 := (hb14).fro 1; have m2 := (hb14).cell 2; have fm2 := (hb14).fro 2; have m3 := (hb14).cell 3; have fm3 := (hb14).fro 3; have m4 := (hb14).cell 4; have fm4 := (hb14).fro 4; have m5 := (hb14).cell 5; have fm5 := (hb14).fro 5; have m6 := (hb14).cell 6; have fm6 := (hb14).fro 6; have m7 := (hb14).cell 7; have fm7 := (hb14).fro 7; simp at m0 m1 m2 m3 m4 m5 m6 m7
  have hx2 : w3.heap.size < wc.heap.size := Hbd.out.lt
  obtain ⟨_, hcl2, hcc⟩ := crow_cells (crows_below Hcs3.out HBd.out)
  obtain ⟨_, hcl3, hcd⟩ := crow_cells (crows_below Hct3.out HBd.out)
  have Hcc := Lib.hid hcc
  have Hcd := Lib.hid hcd
  have HIw := Lib.hid (HI3.out.below HBd.out)
  have HBw := Lib.hid (HB3.out.trans (HBd.out.mono hw3))
  have hwc2 := HBw.out.size
  have Hpair := Lib.hid (show ∀ j, (h1 : j < ct.length) → (h2 : j < cs.length) → ct[j].e = cs[j].e ∧ ct[j].whole = false ∧ ct[j].clean = cs[j].clean from fun j h1 h2 => by
    have e1 : shown (forgotten T).L = (shown T.L).map unwhole := shown_map unwhole (fun _ => rfl) T.L
    have a1 := Hbart.out
    have a2 := Hbare.out
    rw [e1] at a1
    have hs : j < (shown T.L).length := by
      have := congrArg List.length a2
      simp only [List.length_map] at this
      omega
    have b1 : (ct.map bare)[j]? = (((shown T.L).map unwhole).map bare)[j]? := by rw [a1]
    have b2 : (cs.map bare)[j]? = ((shown T.L).map bare)[j]? := by rw [a2]
    simp only [List.getElem?_map, List.getElem?_eq_getElem h1, List.getElem?_eq_getElem h2, List.getElem?_eq_getElem hs, Option.map_some, Option.some.injEq] at b1 b2
    refine ⟨?_, ?_, ?_⟩
    · have c1 := congrArg Cel.e b1
      have c2 := congrArg Cel.e b2
      exact c1.trans c2.symm
    · exact congrArg Cel.whole b1
    · have c1 := congrArg Cel.clean b1
      have c2 := congrArg Cel.clean b2
      exact c1.trans c2.symm)
  clear hb14 hcc hcd Hcs3 Hct3 Htr3 Hbd HBd HI3 HB3 Ht3 Hbare Hbart
  go_upto_block 2 with fail
  go_cut [] (fun wx => Later wc wx)
  case first =>
    go_wp2_with fail
    go_loopg [15] ct.length (fun kk i wx => ∃ j : Nat, j ≤ ct.length ∧ kk = ct.length - j ∧ i = .int .i64 j ∧ Later wc wx)
    case atStart => exact ⟨0, by omega, by omega, rfl, later_refl _⟩
    case round =>
      obtain ⟨j, hj, rfl, rfl, e5, rfl⟩ := hrel
      by_cases hlt : j < ct.length
      · have hlt2 : j < cs.length := by have := Hcl1.out; omega
        obtain ⟨b1, o1, rfl, hb1, ⟨p0, p1, p2, p3, p4, p5, p6, p7, p8⟩, bt1⟩ := Hcd.out j hlt
        obtain ⟨b2, o2, rfl, hb2, ⟨r0, r1, r2, r3, r4, r5, r6, r7, r8⟩, bt2⟩ := Hcc.out j hlt2
        obtain ⟨e1, e2, e3⟩ := Hpair.out j hlt hlt2
        have hj0 : (0 : Int) ≤ (j : Int) := by omega
        have hj1 : (j : Int) < (ct.length : Int) := by omega
        have hj2 : (j : Int) < (cs.length : Int) := by omega
        have hjt : ((j : Int)).toNat = j := by omega
        have Hs := Lib.hid (show ∀ W, Below wc.heap.size wc W → Calls Try.prog 15 #[entV ct[j].e ct[j].sv, entV cs[j].e cs[j].sv] W (fun en w' => en = .returned (.bool true) ∧ Below W.heap.size W w') from fun W hB => by
          have h := same_any W _ _ ct[j].e cs[j].e ct[j].sv cs[j].sv (bt1.below hB) (bt2.below hB)
          rw [e1, sameE_refl] at h
          rw [e1]
          exact h)
        unfold entV at Hs
        rw [e2] at p6
        rw [e3] at p7
        generalize ct[j] = x at *
        generalize cs[j] = y at *
        have hcq : (y.clean != y.clean) = false := by cases y.clean <;> rfl
        have hcq2 : (!y.clean == y.clean) = false := by cases y.clean <;> rfl
        clear bt1 bt2 Hcc Hcd Hpair e1 e2 e3
        go_wp2
        refine wp_region_mix_lit [(0,false),(1,false),(2,false),(3,false),(4,false),(5,false),(6,false),(7,false),(8,false),(9,false),(10,false),(11,false),(12,false),(13,false),(14,false),(15,false),(16,false),(17,false),(18,false),(19,false),(20,false),(21,false),(22,false),(23,false),(24,false),(25,false),(26,false),(27,false),(28,false),(29,false),(30,false),(31,false)] (by kernel_rfl) (by kernel_rfl) ?_
        iterate 29 (refine mix_step rfl (fun K hK => ?_); go_simp; refine hK _ ?_; clear hK K)
        (refine mix_step rfl (fun K hK => ?_); go_simp; refine Exists.intro _ ⟨fun _ _ => call_gives (Hs.out _ (Kept.to_below (S := fun _ => False) (by repeat (first | with_reducible refine Kept.more ?_ _ | with_reducible refine Kept.alloc ?_ _ | with_reducible refine Kept.drew ?_ | with_reducible refine Kept.drewN ?_ _ | exact Kept.refl _ _)) (fun _ h => h.elim))), hK _ ?_⟩; clear hK K)
        iterate 2 (refine mix_step rfl (fun K hK => ?_); go_simp; refine hK _ ?_; clear hK K)
        refine mix_done (fun e6 => ?_)
        go_wp2
        go_roundg (ct.length - (j + 1))
        case measure => omega
        case rel => exact ⟨j + 1, by omega, rfl, by go_num, _, rfl⟩
      · have hjn : j = ct.length := by omega
        subst hjn
        go_wp2
        go_meet
        exact ⟨_, rfl⟩
  case rest =>
  obtain ⟨e5, rfl⟩ := hcut
  have Hfl := Lib.hid (show ∀ W, Below wc.heap.size wc W → Calls Try.prog 20 #[.pointer (some ⟨bt, 0, none⟩), entV (zeroE k) (.slice none 0 0), .int .i64 (rt - 1)] W (fun en w' => en = .returned (.tuple #[.bool false, .int .i64 0]) ∧ Kept (foot bt bm bk) W w') from fun W hB => by
    refine (fill_any (HIw.out.below hB) Hi2.out (by omega) (zeroE k) (.slice none 0 0) (rt - 1) (fun _ => False) (Bts.nil _ _) (by show k.size ≤ _; omega) (fun b h => h.elim)).mono ?_
    rintro en w' ⟨sv, rfl, _, h⟩
    rw [fill_none h2 h3 Hta.out]
    exact ⟨rfl, h⟩)
  unfold entV zeroE at Hfl
  go_wp2_with fail
  refine (Hfl.out _ (Kept.to_below (S := fun _ => False) (by repeat (first | with_reducible refine Kept.more ?_ _ | with_reducible refine Kept.alloc ?_ _ | with_reducible refine Kept.drew ?_ | with_reducible refine Kept.drewN ?_ _ | exact Kept.refl _ _)) (fun _ h => h.elim))).mono ?_
  rintro e8 w8 ⟨rfl, hK8⟩
  have HB8 := Lib.hid (foot_below (HBw.out.trans (Kept.to_below' (S := fun _ => False) (by repeat (first | with_reducible refine Kept.more ?_ _ | with_reducible refine Kept.alloc ?_ _ | with_reducible refine Kept.drew ?_ | with_reducible refine Kept.drewN ?_ _ | exact Kept.refl _ _)) (by omega) (fun _ h => h.elim))) hK8 (by omega) (by omega) (by omega))
  have hw8 := HB8.out.size
  dsimp only
  go_wp2_with (go_at_call 10; refine (Hk.out _).mono ?_; rintro x8_e x8_w ⟨rfl, x8_B⟩; obtain ⟨x8, rfl⟩ := later_of_below x8_B; clear x8_B)
  go_ret
  exact ⟨rfl, HB8.out.trans (Kept.to_below' (S := fun _ => False) (by repeat (first | with_reducible refine Kept.more ?_ _ | with_reducible refine Kept.alloc ?_ _ | with_reducible refine Kept.drew ?_ | with_reducible refine Kept.drewN ?_ _ | exact Kept.refl _ _)) (by omega) (fun _ h => h.elim))⟩
theorem forgets_all (w : World) (r : Room) (v : Value) (ds : List Do) (k : ByteArray) (hD : DRows w (fun b => b < w.heap.size) v ds) (hk : k.size ≤ 1048576) :
    Calls Try.prog 4 #[roomV r, v, .string k] w fun e w' => e = .returned (.bool true) ∧ Below w.heap.size w w' := by
  by_cases hr : roomOk r
  · by_cases he : 1500 < longD ds ∨ k.size = 0 ∨ 250 < k.size
    · exact forgets_early w r v ds k hD hr he
    · exact forgets_main w r v ds k hD hr (by omega) (by omega) (by omega)
  · exact forgets_bad w r v ds k hD hr
end Go.Proofs.Ytibolfdgbbaclaa

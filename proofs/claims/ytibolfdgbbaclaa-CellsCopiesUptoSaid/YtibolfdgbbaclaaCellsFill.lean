/-
  What is proved: the contract of the method Fill of a table of cells.
  Conditions: bounds under which nothing wraps.
-/
import Derived.Test.YtibolfdgbbaclaaCellsStore
import Derived.Deep.DeepCutAuto
import Derived.Deep.CutBlock
open Go Go.RowKit Go.Ice
namespace Go.Proofs.Ytibolfdgbbaclaa
set_option maxRecDepth 100000
set_option linter.unusedVariables false
set_option linter.unusedSimpArgs false
attribute [local go_sem] gives givesUpon later_self more_cell more_frozen more_block more_more more_drew more_setCell more_of_drew more_of_drewN more_size lt_plus lt_plus2 lt_plus3 lt_plus4 Instr.field part asAgg List.extract_toArray List.extract_eq_take_drop
/-- What Fill does, at the right token: the table then, whether it was done, the error. -/
def filled (T : Tab) (e : Ent) (sv : Value) : Tab × Bool × Int :=
  let rest := if (victims T e).2 then (laid (made T e) ⟨e, true, true, 0, sv⟩, true, (0 : Int)) else (T, false, 30)
  match cfind T.L e.key with
  | some c => if 0 < tcmp (tagE c.e) (tagE e) then (laid T { c with whole := true }, true, 0) else rest
  | none => rest
set_option maxHeartbeats 1000000 in
theorem fill_bad {w : World} {bt : Nat} (e : Ent) (A : Option Addr) (cc : Nat) (token : Int) (hek : e.key.size ≤ 140737488351232) (heb : e.b.length ≤ 140737488351232) (hbad : ¬ okE e) :
    Calls Try.prog 20 #[.pointer (some ⟨bt, 0, none⟩), entV e (.slice A e.b.length cc), .int .i64 token] w fun en w' => en = .returned (.tuple #[.bool false, .int .i64 2]) ∧ Below w.heap.size w w' := by
  unfold entV
  have hr := fun W => right_any e.key e.seq e.who e.op e.has A e.b.length cc W hek heb
  have hc : entChk e.key.size e.b.length e.has e.seq e.who e.op = if okE e then 0 else 2 := by
    unfold entChk okE
    rfl
  rw [hc, if_neg hbad] at hr
  have Hr := Lib.hid hr
  clear hbad hr hc
  go_enter Try.func20, Try.ntmps20
  go_wp2_with ((go_at_call 41; refine (Hr.out _).mono ?_; rintro x1_e x1_w ⟨rfl, x1_B⟩; obtain ⟨x1, rfl⟩ := later_of_below x1_B; clear x1_B))
  go_ret2
  exact ⟨rfl, (Kept.to_below (S := fun _ => False) (by repeat (first | with_reducible refine Kept.more ?_ _ | with_reducible refine Kept.alloc ?_ _ | with_reducible refine Kept.drew ?_ | with_reducible refine Kept.drewN ?_ _ | exact Kept.refl _ _)) (fun _ h => h.elim))⟩
set_option maxHeartbeats 2000000 in
theorem fill_tok {w : World} {bt bm bk : Nat} {T : Tab} {N : Int} (h : IsTab w bt bm bk T) (hv : Inv T N) (hN : N ≤ 576460752303423488) (e : Ent) (A : Option Addr) (cc : Nat) (NS : Nat → Prop) (hbs : Bts w NS (.slice A e.b.length cc) e.b) (token : Int) (hok : okE e) (htn : tokAt T e.key ≠ token) (hns : ∀ b, NS b → ¬ foot bt bm bk b) :
    Calls Try.prog 20 #[.pointer (some ⟨bt, 0, none⟩), entV e (.slice A e.b.length cc), .int .i64 token] w fun en w' => en = .returned (.tuple #[.bool false, .int .i64 0]) ∧ Below w.heap.size w w' := by
  have hek : e.key.size ≤ 250 := hok.2.1
  have heb : e.b.length ≤ 60000 := hok.2.2.1
  have hr := fun W => right_any e.key e.seq e.who e.op e.has A e.b.length cc W (by omega) (by omega)
  have hc : entChk e.key.size e.b.length e.has e.seq e.who e.op = if okE e then 0 else 2 := by
    unfold entChk okE
    rfl
  rw [hc, if_pos hok] at hr
  have Hr := Lib.hid hr
  obtain ⟨cap, tc, hT, hTk, htc, hcell, hfro, hfrk, hcelk⟩ := h.open_
  obtain ⟨hs, k0, x0, y0, z0, h0, a0, n0, c0, w0, l0, u0, hv0, hparts⟩ := look_true h e.key
  obtain ⟨j, tj, hj, hjl, htj, htk, ck, htb, hj0, hj1, hjt⟩ := tok_parts h (hv.bd (by omega)) e.key (by omega)
  have c4 : w.cell? ⟨bt, 4, none⟩ = some (.map (some bm)) := hcell 4
  have c5 : w.cell? ⟨bt, 5, none⟩ = some (.slice (some ⟨bk, 0, none⟩) T.tok.length cap) := hcell 5
  have hbt := h.lt.1
  have hbml := h.lt.2.1
  have hbkl := h.lt.2.2
  have hM := h.cells
  have hcmp := fun W => compare_any ⟨x0, y0, z0⟩ ⟨e.seq, e.who, e.op⟩ W
  unfold Tag.v at hcmp
  dsimp only at hcmp
  generalize hx : tcmp ⟨x0, y0, z0⟩ ⟨e.seq, e.who, e.op⟩ = x at hcmp
  have Hx := Lib.hid hx
  have Hcmp := Lib.hid hcmp
  have HB1 := Lib.hid (fun W (hB : Below w.heap.size w W) => call_gives (bucket_at (h.below hB) (hv.bd (by omega)).b0 (hv.bd (by omega)).b1 e.key (by omega) j hj))
  have Hv0 := Lib.hid hv0
  have Hparts := Lib.hid hparts
  have H0 := Lib.hid h
  have Hv := Lib.hid hv
  have Hbs := Lib.hid hbs
  have Htk := Lib.hid htk
  have Hok := Lib.hid hok
  clear hr hc hok hcell hfro hfrk hcelk hT hTk htc hv0 hparts h hv hbs hcmp hx hj htk htj htb
  have hne : ¬ tj = token := by rw [← Htk.out]; exact htn
  have htf : (tj == token) = false := by simpa using hne
  have Hne := Lib.hid hne
  clear htn hne hns Hv0 Hparts Hcmp Hx hM
  unfold entV
  go_enter Try.func20, Try.ntmps20
  go_wp2_with ((go_at_call 41; refine (Hr.out _).mono ?_; rintro x1_e x1_w ⟨rfl, x1_B⟩; obtain ⟨x1, rfl⟩ := later_of_below x1_B; clear x1_B))
  refine wp_region_mix_lit [(0,false),(1,false),(2,false),(3,false),(4,false),(5,false),(6,false),(7,false),(8,false),(9,false),(10,false),(11,false),(12,false)] (by kernel_rfl) (by kernel_rfl) ?_
  iterate 7 (refine mix_step rfl (fun K hK => ?_); go_simp; refine hK _ ?_; clear hK K)
  (refine mix_step rfl (fun K hK => ?_); go_simp; refine Exists.intro _ ⟨fun _ _ => HB1.out _ (Kept.to_below (S := fun _ => False) (by repeat (first | with_reducible refine Kept.more ?_ _ | with_reducible refine Kept.alloc ?_ _ | with_reducible refine Kept.drew ?_ | with_reducible refine Kept.drewN ?_ _ | exact Kept.refl _ _)) (fun _ h => h.elim)), hK _ ?_⟩; clear hK K)
  iterate 5 (refine mix_step rfl (fun K hK => ?_); go_simp; refine hK _ ?_; clear hK K)
  refine mix_done (fun e1 => ?_)
  go_wp2
  go_ret2
  exact ⟨rfl, (Kept.to_below (S := fun _ => False) (by repeat (first | with_reducible refine Kept.more ?_ _ | with_reducible refine Kept.alloc ?_ _ | with_reducible refine Kept.drew ?_ | with_reducible refine Kept.drewN ?_ _ | exact Kept.refl _ _)) (fun _ h => h.elim))⟩
set_option maxHeartbeats 2000000 in
theorem fill_ok {w : World} {bt bm bk : Nat} {T : Tab} {N : Int} (h : IsTab w bt bm bk T) (hv : Inv T N) (hN : N ≤ 576460752303423488) (e : Ent) (A : Option Addr) (cc : Nat) (NS : Nat → Prop) (hbs : Bts w NS (.slice A e.b.length cc) e.b) (hok : okE e) (hns : ∀ b, NS b → ¬ foot bt bm bk b) :
    Calls Try.prog 20 #[.pointer (some ⟨bt, 0, none⟩), entV e (.slice A e.b.length cc), .int .i64 (tokAt T e.key)] w fun en w' => ∃ sv, en = .returned (.tuple #[.bool (filled T e sv).2.1, .int .i64 (filled T e sv).2.2]) ∧ IsTab w' bt bm bk (filled T e sv).1 ∧ Kept (foot bt bm bk) w w' := by
  have hek : e.key.size ≤ 250 := hok.2.1
  have heb : e.b.length ≤ 60000 := hok.2.2.1
  have hr := fun W => right_any e.key e.seq e.who e.op e.has A e.b.length cc W (by omega) (by omega)
  have hc : entChk e.key.size e.b.length e.has e.seq e.who e.op = if okE e then 0 else 2 := by
    unfold entChk okE
    rfl
  rw [hc, if_pos hok] at hr
  have Hr := Lib.hid hr
  obtain ⟨cap, tc, hT, hTk, htc, hcell, hfro, hfrk, hcelk⟩ := h.open_
  obtain ⟨hs, k0, x0, y0, z0, h0, a0, n0, c0, w0, l0, u0, hv0, hparts⟩ := look_true h e.key
  obtain ⟨j, tj, hj, hjl, htj, htk, ck, htb, hj0, hj1, hjt⟩ := tok_parts h (hv.bd (by omega)) e.key (by omega)
  have c4 : w.cell? ⟨bt, 4, none⟩ = some (.map (some bm)) := hcell 4
  have c5 : w.cell? ⟨bt, 5, none⟩ = some (.slice (some ⟨bk, 0, none⟩) T.tok.length cap) := hcell 5
  have hbt := h.lt.1
  have hbml := h.lt.2.1
  have hbkl := h.lt.2.2
  have hM := h.cells
  have hcmp := fun W => compare_any ⟨x0, y0, z0⟩ ⟨e.seq, e.who, e.op⟩ W
  unfold Tag.v at hcmp
  dsimp only at hcmp
  generalize hx : tcmp ⟨x0, y0, z0⟩ ⟨e.seq, e.who, e.op⟩ = x at hcmp
  have Hx := Lib.hid hx
  have Hcmp := Lib.hid hcmp
  have HB1 := Lib.hid (fun W (hB : Below w.heap.size w W) => call_gives (bucket_at (h.below hB) (hv.bd (by omega)).b0 (hv.bd (by omega)).b1 e.key (by omega) j hj))
  have Hv0 := Lib.hid hv0
  have Hparts := Lib.hid hparts
  have H0 := Lib.hid h
  have Hv := Lib.hid hv
  have Hbs := Lib.hid hbs
  have Htk := Lib.hid htk
  rw [htk]
  have Hok := Lib.hid hok
  clear hr hc hok hcell hfro hfrk hcelk hT hTk htc hv0 hparts h hv hbs hcmp hx hj htk htj htb
  unfold entV
  go_enter Try.func20, Try.ntmps20
  go_upto_block 0 with fail
  go_cut [] (fun wx => Below w.heap.size w wx ∧ Blk wx w.heap.size #[.string e.key, .int .i64 e.seq, .int .i64 e.who, .int .i64 e.op, .bool e.has, .slice A e.b.length cc] 37)
  case first =>
    have htf : (tj == tj) = true := by simp
    go_wp2_with ((go_at_call 41; refine (Hr.out _).mono ?_; rintro x1_e x1_w ⟨rfl, x1_B⟩; obtain ⟨x1, rfl⟩ := later_of_below x1_B; clear x1_B))
    refine wp_region_mix_lit [(0,false),(1,false),(2,false),(3,false),(4,false),(5,false),(6,false),(7,false),(8,false),(9,false),(10,false),(11,false),(12,false)] (by kernel_rfl) (by kernel_rfl) ?_
    iterate 7 (refine mix_step rfl (fun K hK => ?_); go_simp; refine hK _ ?_; clear hK K)
    (refine mix_step rfl (fun K hK => ?_); go_simp; refine Exists.intro _ ⟨fun _ _ => HB1.out _ (Kept.to_below (S := fun _ => False) (by repeat (first | with_reducible refine Kept.more ?_ _ | with_reducible refine Kept.alloc ?_ _ | with_reducible refine Kept.drew ?_ | with_reducible refine Kept.drewN ?_ _ | exact Kept.refl _ _)) (fun _ h => h.elim)), hK _ ?_⟩; clear hK K)
    iterate 5 (refine mix_step rfl (fun K hK => ?_); go_simp; refine hK _ ?_; clear hK K)
    refine mix_done (fun e1 => ?_)
    go_wp2
    go_meet
    exact ⟨(Kept.to_below (S := fun _ => False) (by repeat (first | with_reducible refine Kept.more ?_ _ | with_reducible refine Kept.alloc ?_ _ | with_reducible refine Kept.drew ?_ | with_reducible refine Kept.drewN ?_ _ | exact Kept.refl _ _)) (fun _ h => h.elim)), ((Blk.of_alloc w _ _).more _).more _⟩
  case rest =>
  obtain ⟨hBc, hbox⟩ := hcut
  have c4' : wc.cell? ⟨bt, 4, none⟩ = some (.map (some bm)) := (hBc.cell (p := ⟨bt, 4, none⟩) hbt).trans c4
  have hMc : MapAt wc bm (assoc T.L) := hM.of_block (hBc.block bm hbml)
  have hbtc : bt < wc.heap.size := Nat.lt_of_lt_of_le hbt hBc.size
  have b0 := hbox.cell 0
  have hbl := hbox.lt
  simp at b0
  have Hbox := Lib.hid hbox
  have HBc := Lib.hid hBc
  clear hbox hBc c4 hM
  go_upto_region 7 with fail
  go_cut [8, 9] (fun p v wx => ∃ n5, p = .pointer (some ⟨n5, 0, none⟩) ∧ v = .bool hs ∧ Hid (Below w.heap.size w wx) ∧ Hid (Blk wx w.heap.size #[.string e.key, .int .i64 e.seq, .int .i64 e.who, .int .i64 e.op, .bool e.has, .slice A e.b.length cc] 37) ∧ Hid (Blk wx n5 #[.string k0, .int .i64 x0, .int .i64 y0, .int .i64 z0, .bool h0, .slice a0 n0 c0, .bool w0, .bool l0, .int .i64 u0] 51) ∧ w.heap.size < n5)
  case first =>
    refine wp_region_mix_lit [(0,false),(1,false),(2,false),(3,false),(4,false),(5,false),(6,false),(7,false),(8,false),(9,false),(10,true),(11,true),(12,false)] (by kernel_rfl) (by kernel_rfl) ?_
    iterate 6 (refine mix_step rfl (fun K hK => ?_); go_simp; refine hK _ ?_; clear hK K)
    refine mix_lookup rfl rfl 76 9 51 (.tmp 35) (.tmp 37) true rfl bm e.key rfl rfl Try.underlying76 Try.underlying9 celZ celZ_zero (assoc T.L) (by repeat (first | with_reducible refine MapAt.more ?_ _ | with_reducible refine MapAt.alloc ?_ _ | with_reducible refine MapAt.drew ?_ | with_reducible refine MapAt.drewN ?_ _ | with_reducible assumption | refine MapAt.setCell ?_ (by first | assumption | (simp only []; omega)) _)) _ Hv0.out ?_
    iterate 3 (refine mix_step rfl (fun K hK => ?_); go_simp; refine hK _ ?_; clear hK K)
    refine mix_grow rfl rfl (fun e3 K hK => ?_)
    go_wp2_with fail
    refine hK _ _ ((Below.refl _ _).alloc (Nat.le_refl _) _) ?_
    clear hK K
    refine mix_loud rfl rfl (by kernel_rfl) (fun e5 K hK => ?_)
    go_wp2_with fail
    iterate 1 (refine mix_step rfl (fun K hK => ?_); go_simp; refine hK _ ?_; clear hK K)
    refine mix_done (fun e6 => ?_)
    go_wp2
    go_meet
    refine ⟨_, rfl, rfl, Lib.hid (HBc.out.trans (Kept.to_below' (S := fun _ => False) (by repeat (first | with_reducible refine Kept.more ?_ _ | with_reducible refine Kept.alloc ?_ _ | with_reducible refine Kept.drew ?_ | with_reducible refine Kept.drewN ?_ _ | exact Kept.refl _ _)) (by omega) (fun _ h => h.elim))), Lib.hid ?_, Lib.hid ?_, ?_⟩
    · exact (((Hbox.out.more e3).alloc _).more _).more _
    · have hcel := ((Blk.of_alloc (more wc e3) #[.string k0, .int .i64 x0, .int .i64 y0, .int .i64 z0, .bool h0, .slice a0 n0 c0, .bool w0, .bool l0, .int .i64 u0] 51).more e5).more e6
      rw [more_size] at hcel
      exact hcel
    · omega
  case rest =>
  obtain ⟨n5, rfl, rfl, HB, Hbo, Hce, hn5⟩ := hcut
  clear b0 Hbox HBc hMc c4' hbtc hbl
  have hn5l := Hce.out.lt
  go_upto_region 8 with fail
  go_cut [50] (fun v wx => v = .bool (hs && decide (0 < x)) ∧ Hid (Below w.heap.size w wx) ∧ Hid (Blk wx w.heap.size #[.string e.key, .int .i64 e.seq, .int .i64 e.who, .int .i64 e.op, .bool e.has, .slice A e.b.length cc] 37) ∧ Hid (Blk wx n5 #[.string k0, .int .i64 x0, .int .i64 y0, .int .i64 z0, .bool h0, .slice a0 n0 c0, .bool w0, .bool l0, .int .i64 u0] 51))
  case first =>
    cases hs
    · go_wp2
      go_meet
      exact ⟨rfl, HB, Hbo, Hce⟩
    · have b1 := Hbo.out.cell 1
      have b2 := Hbo.out.cell 2
      have b3 := Hbo.out.cell 3
      have g1 := Hce.out.cell 1
      have g2 := Hce.out.cell 2
      have g3 := Hce.out.cell 3
      simp at b1 b2 b3 g1 g2 g3
      go_wp2_with ((go_at_call 42; refine (Hcmp.out _).mono ?_; rintro x1_e x1_w ⟨rfl, x1_B⟩; obtain ⟨x1, rfl⟩ := later_of_below x1_B; clear x1_B))
      go_meet
      have hsz9 := HB.out.size
      exact ⟨by simp, Lib.hid (HB.out.trans (Kept.to_below' (S := fun _ => False) (by repeat (first | with_reducible refine Kept.more ?_ _ | with_reducible refine Kept.alloc ?_ _ | with_reducible refine Kept.drew ?_ | with_reducible refine Kept.drewN ?_ _ | exact Kept.refl _ _)) (by omega) (fun _ h => h.elim))), Lib.hid (Hbo.out.more _), Lib.hid (Hce.out.more _)⟩
  case rest =>
  obtain ⟨rfl, HB6, Hbo6, Hce6⟩ := hcut
  clear HB Hbo Hce hn5l
  by_cases hdec : hs = true ∧ 0 < x
  · obtain ⟨rfl, hx0⟩ := hdec
    rcases Hparts.out with ⟨hh, _⟩ | ⟨_, c, hf, hcm, hcv, e1, e2, e3, e4⟩
    · cases hh
    · have hxx : (true && decide (0 < x)) = true := by simpa using hx0
      rw [hxx]
      have hst : ∀ sv, filled T e sv = (laid T { c with whole := true }, true, 0) := fun sv => by
        have hx1 := Hx.out
        subst e1; subst e2; subst e3
        unfold filled tagE
        rw [hf]
        dsimp only
        rw [hx1, if_pos hx0]
      have hck := (cfind_some hf).2
      have hcsz := Hv.out.size c hcm
      have hlay := fun W (hB : Below w.heap.size w W) => lay_any (h := H0.out.below hB) (Hv.out.bd (by omega)) { c with whole := true } (by show c.e.key.size ≤ _; omega) ((H0.out.vals c hcm).below hB)
      have hcv2 : (.agg #[.string k0, .int .i64 x0, .int .i64 y0, .int .i64 z0, .bool h0, .slice a0 n0 c0, .bool true, .bool l0, .int .i64 u0] : Value) = celV { c with whole := true } := by
        unfold celV at hcv ⊢
        simp only [Value.agg.injEq, Array.mk.injEq, List.cons.injEq, and_true] at hcv ⊢
        simp [hcv]
      rw [← hcv2] at hlay
      have Hlay := Lib.hid hlay
      have Hst := Lib.hid hst
      have g0 := Hce6.out.cell 0
      have g1 := Hce6.out.cell 1
      have g2 := Hce6.out.cell 2
      have g3 := Hce6.out.cell 3
      have g4 := Hce6.out.cell 4
      have g5 := Hce6.out.cell 5
      have g6 := Hce6.out.cell 6
      have g7 := Hce6.out.cell 7
      have g8 := Hce6.out.cell 8
      have f6 := Hce6.out.fro 6
      simp at g0 g1 g2 g3 g4 g5 g6 g7 g8
      have hs6 := HB6.out.size
      clear hst hf hck hcsz hcm hcv e1 e2 e3 e4 Hv0 Hparts hlay hcv2
      have HB6b : Hid (Below w.heap.size w (wc.setCell ⟨n5, 6, none⟩ (.bool true))) := Lib.hid (HB6.out.trans (Kept.to_below' (S := fun b => w.heap.size ≤ b) (by repeat (first | with_reducible refine Kept.more ?_ _ | with_reducible refine Kept.alloc ?_ _ | with_reducible refine Kept.drew ?_ | with_reducible refine Kept.drewN ?_ _ | with_reducible assumption | with_reducible exact Kept.refl _ _ | refine Kept.setCell ?_ (by first | exact Or.inl (Nat.le_refl _) | (left; simp only []; omega)) _)) hs6 (fun b hb => hb)))
      go_wp2_with (go_at_call 35; refine (Hlay.out _ HB6b.out).mono ?_; rintro e9 w9 ⟨rfl, hI9, hK9⟩)
      go_ret2
      exact ⟨undef, by rw [Hst.out]; rfl, by rw [Hst.out]; exact hI9, (Kept.of_below HB6b.out).trans hK9⟩
  have hdf : (hs && decide (0 < x)) = false := by
    cases hs
    · rfl
    · have h9 : ¬ 0 < x := fun h => hdec ⟨rfl, h⟩
      simpa using h9
  rw [hdf]
  have Hdec := Lib.hid hdec
  clear hdec
  clear hdf
  have HB7 := HB6
  have Hbo7 := Hbo6
  clear HB6 Hbo6 Hce6
  have hst : ∀ sv, filled T e sv = if (victims T e).2 then (laid (made T e) ⟨e, true, true, 0, sv⟩, true, (0 : Int)) else (T, false, 30) := fun sv => by
    have hx1 := Hx.out
    rcases Hparts.out with ⟨rfl, hf, _⟩ | ⟨rfl, c, hf, hcm, hcv, rfl, rfl, rfl, rfl⟩
    · unfold filled
      rw [hf]
    · unfold filled tagE
      rw [hf]
      dsimp only
      rw [hx1, if_neg (fun h => Hdec.out ⟨rfl, h⟩)]
  have Hst := Lib.hid hst
  have b0 := Hbo7.out.cell 0
  have b1 := Hbo7.out.cell 1
  have b2 := Hbo7.out.cell 2
  have b3 := Hbo7.out.cell 3
  have b4 := Hbo7.out.cell 4
  have b5 := Hbo7.out.cell 5
  simp at b0 b1 b2 b3 b4 b5
  have hmake := make_any (H0.out.below HB7.out) Hv.out hN e A cc (by omega) (by omega)
  unfold entV at hmake
  have hmd : made T e = if (victims T e).2 then droppedAll T (victims T e).1 else T := rfl
  have hbd := made_bd Hv.out hN e
  cases hok2 : (victims T e).2
  · rw [hok2] at hmake hst hmd
    have Hmake := Lib.hid hmake
    have Hst2 := Lib.hid hst
    have Hmd := Lib.hid hmd
    clear hst hmake Hx Hparts Hv0 Hcmp HB1 c5 ck hok2 hmd hbd Hst
    go_wp2_with (go_at_call 43; refine (Hmake.out).mono ?_; rintro e9 w9 ⟨rfl, hI9, hK9⟩)
    go_ret2
    have hmT : made T e = T := Hmd.out
    rw [hmT] at hI9
    exact ⟨undef, by rw [Hst2.out]; rfl, by rw [Hst2.out]; exact hI9, (Kept.of_below HB7.out).trans hK9⟩
  rw [hok2] at hmake hst
  have Hmake := Lib.hid hmake
  have Hst2 := Lib.hid hst
  have Hbd := Lib.hid hbd
  clear hst hmake Hx Hparts Hv0 Hcmp HB1 c5 ck hok2 hmd hbd Hst
  go_upto_region 15 with (go_at_call 43; refine (Hmake.out).mono ?_; rintro e9 w9 ⟨rfl, hI9, hK9⟩)
  have hl0 := H0.out.lt
  have hb9 := Hbo7.out.kept hK9 (by rintro (h | h | h) <;> omega)
  have d0 := hb9.cell 0
  have d1 := hb9.cell 1
  have d2 := hb9.cell 2
  have d3 := hb9.cell 3
  have d4 := hb9.cell 4
  have d5 := hb9.cell 5
  simp at d0 d1 d2 d3 d4 d5
  have hbl9 := hb9.lt
  have Hbs9 := Lib.hid ((Hbs.out.below HB7.out).kept (w' := w9) fun b hN hlt => hK9.block b hlt (hns b hN))
  have HI9 := Lib.hid hI9
  have HK9 := Lib.hid ((Kept.of_below HB7.out).trans hK9)
  clear b0 b1 b2 b3 b4 b5 hI9 hK9 hb9 hns
  go_wp2_with (go_at_call 36; refine (copy_any _ _ _ _ _ _ _ _ NS Hbs9.out).mono ?_; rintro e4 w4 ⟨A', c', rfl, hb4, hB4⟩; have hLay := lay_any (HI9.out.below hB4) Hbd.out ⟨e, true, true, 0, .slice A' e.b.length c'⟩ (by show e.key.size ≤ _; omega) (hb4.mono (N' := off bt bm bk) (fun b hb => by
    have hl9 := HI9.out.lt
    exact ⟨by omega, by omega, by omega⟩)); have HLay := Lib.hid hLay; clear hLay)
  have hL := HLay.out
  unfold celV at hL
  dsimp only at hL
  refine hL.mono ?_
  rintro e10 w10 ⟨rfl, hI10, hK10⟩
  have HI10 := Lib.hid hI10
  have HK10 := Lib.hid ((HK9.out.trans (Kept.of_below hB4)).trans hK10)
  clear hI10 hK10 hB4 hb4 hL
  go_wp2
  go_ret2
  exact ⟨.slice A' e.b.length c', by rw [Hst2.out]; rfl, by rw [Hst2.out]; exact HI10.out, HK10.out⟩
end Go.Proofs.Ytibolfdgbbaclaa

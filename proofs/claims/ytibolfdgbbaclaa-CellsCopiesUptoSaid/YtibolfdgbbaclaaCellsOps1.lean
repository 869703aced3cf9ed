/-
  What is proved: the contract of the method drop of a table of cells.
  Conditions: bounds under which nothing wraps.
-/
import Derived.Test.YtibolfdgbbaclaaCellsRep
open Go Go.RowKit Go.Ice
namespace Go.Proofs.Ytibolfdgbbaclaa
set_option maxRecDepth 100000
set_option linter.unusedVariables false
set_option linter.unusedSimpArgs false
attribute [local go_sem] gives givesUpon later_self more_cell more_frozen more_block more_more more_drew more_setCell more_of_drew more_of_drewN more_size lt_plus Instr.field part asAgg List.extract_toArray List.extract_eq_take_drop
/-- The table's cells, its tokens, for the walk. -/
theorem IsTab.open_ {w : World} {bt bm bk : Nat} {T : Tab} (h : IsTab w bt bm bk T) : ∃ cap tc, Blk w bt (tabCells T bm bk cap) 78 ∧ Blk w bk tc 3 ∧ (∀ (i : Nat) (t : Int), T.tok[i]? = some t → tc[i]? = some (Value.int .i64 t)) ∧
    (∀ i, w.cell? ⟨bt, i, none⟩ = (tabCells T bm bk cap)[i]?) ∧ (∀ i, w.frozen? ⟨bt, i, none⟩ = false) ∧ (∀ i, w.frozen? ⟨bk, i, none⟩ = false) ∧ (∀ (i : Nat) (t : Int), T.tok[i]? = some t → w.cell? ⟨bk, i, none⟩ = some (.int .i64 t)) := by
  obtain ⟨cap, hT⟩ := h.tab
  obtain ⟨tc, hK, ht, _⟩ := h.toks
  exact ⟨cap, tc, hT, hK, ht, fun i => by simp [World.cell?, hT], fun i => by simp [World.frozen?, hT], fun i => by simp [World.frozen?, hK], fun i t hi => by simp [World.cell?, hK, ht i t hi]⟩
/-- What a look-up without 'ok' gives, its parts named. -/
theorem look_parts {w : World} {bt bm bk : Nat} {T : Tab} (h : IsTab w bt bm bk T) (hd : Bd T) (k : ByteArray) : ∃ v0, lookV false celZ (aget (assoc T.L) k) = v0 ∧ ∃ (k0 : ByteArray) (x0 y0 z0 : Int) (h0 : Bool) (a0 : Option Addr) (n0 c0 : Nat) (w0 l0 : Bool) (u0 : Int),
      v0 = .agg #[.string k0, .int .i64 x0, .int .i64 y0, .int .i64 z0, .bool h0, .slice a0 n0 c0, .bool w0, .bool l0, .int .i64 u0] ∧ k0.size ≤ 140737488351232 ∧ n0 ≤ 140737488351232 ∧ ((k0.size : Int) + n0 = csize (cfind T.L k)) ∧ l0 = cclean (cfind T.L k) := by
  refine ⟨_, rfl, ?_⟩
  rw [aget_assoc]
  cases hf : cfind T.L k with
  | none => exact ⟨_, _, _, _, _, _, _, _, _, _, _, rfl, by show 0 ≤ _; omega, by omega, rfl, rfl⟩
  | some d =>
    obtain ⟨hdm, hdk⟩ := cfind_some hf
    obtain ⟨A', cc', hsv', _, hl'⟩ := h.vals d hdm
    refine ⟨d.e.key, d.e.seq, d.e.who, d.e.op, d.e.has, A', d.e.b.length, cc', d.whole, d.clean, d.used, ?_, (hd.size d hdm).1, (hd.size d hdm).2, by simp [csize, esize], rfl⟩
    simp [lookV, celV, hsv']
theorem bucket_at {w : World} {bt bm bk : Nat} {T : Tab} (h : IsTab w bt bm bk T) (hb0 : 1 ≤ T.room.buckets) (hb1 : T.room.buckets ≤ 65536) (k : ByteArray) (hk : k.size ≤ 140737488351232) (j : Nat) (hj : hbucket k T.room.buckets = (j : Int)) :
    Calls Try.prog 34 #[.pointer (some ⟨bt, 0, none⟩), .string k] w fun e w' => e = .returned (.int .i64 (j : Int)) ∧ Below w.heap.size w w' := by
  have := bucket_any h hb0 hb1 k hk
  rwa [hj] at this
set_option maxHeartbeats 1000000 in
theorem drop_any {w : World} {bt bm bk : Nat} {T : Tab} (h : IsTab w bt bm bk T) (hd : Bd T) (k : ByteArray) (hk : k.size ≤ 140737488351232) :
    Calls Try.prog 53 #[.pointer (some ⟨bt, 0, none⟩), .string k] w fun e w' => e = .returned (.tuple #[]) ∧ IsTab w' bt bm bk (dropped hbucket T k) ∧ Kept (foot bt bm bk) w w' := by
  obtain ⟨cap, tc, hT, hTk, htc, hcell, hfro, hfrk, hcelk⟩ := h.open_
  obtain ⟨v0, hv0, k0, x0, y0, z0, h0, a0, n0, c0, w0, l0, u0, hve, hk0, hn0, hcs, hcl⟩ := look_parts h hd k
  clear hcl
  have hcsb := csize_bd hd k
  rw [← hcs] at hcsb
  have hbk := hbucket_in k T.room.buckets hd.b0
  obtain ⟨j, hj⟩ : ∃ j : Nat, hbucket k T.room.buckets = (j : Int) := ⟨_, (Int.toNat_of_nonneg hbk.1).symm⟩
  have hjl : j < T.tok.length := by rw [hd.toks]; have := hd.b0; omega
  have htj : T.tok[j]? = some (T.tok[j]) := List.getElem?_eq_getElem hjl
  have htb := hd.tok _ (List.getElem_mem hjl)
  generalize T.tok[j] = tj at htj htb
  have ck := hcelk j tj htj
  have fk := hfrk j
  have c4 : w.cell? ⟨bt, 4, none⟩ = some (.map (some bm)) := hcell 4
  have c5 : w.cell? ⟨bt, 5, none⟩ = some (.slice (some ⟨bk, 0, none⟩) T.tok.length cap) := hcell 5
  have c7 : w.cell? ⟨bt, 7, none⟩ = some (.int .i64 T.bytes) := hcell 7
  have f7 := hfro 7
  have hy0 := hd.bytes0
  have hy1 := hd.bytes1
  have hbt := h.lt.1
  have hbkl := h.lt.2.2
  have hbm : bm ≠ bt := fun e => h.tm e.symm
  have hM := h.cells
  have H0 := Lib.hid h
  have HD := Lib.hid hd
  have HT := Lib.hid hT
  have HTk := Lib.hid hTk
  have Htc := Lib.hid htc
  have Hj := Lib.hid hj
  have Htj := Lib.hid htj
  subst hve
  have Hv0 := Lib.hid hv0
  have Hcs := Lib.hid hcs
  clear hv0 hcs hcell hfro hfrk hcelk hd h hT hTk htc hj htj
  go_enter Try.func53, Try.ntmps53
  go_wp2
  refine wp_region_mix_lit [(0,false),(1,false),(2,false),(3,false),(4,false),(5,false),(6,false),(7,false),(8,false),(9,false),(10,false),(11,false),(12,false),(13,false),(14,false),(15,true)] (by kernel_rfl) (by kernel_rfl) ?_
  iterate 9 (refine mix_step rfl (fun K hK => ?_); go_simp; refine hK _ ?_; clear hK K)
  refine mix_lookup rfl rfl 76 9 51 (.tmp 11) (.tmp 12) false rfl bm k rfl rfl Try.underlying76 Try.underlying9 celZ celZ_zero (assoc T.L) (by repeat (first | with_reducible refine MapAt.more ?_ _ | with_reducible refine MapAt.alloc ?_ _ | with_reducible refine MapAt.drew ?_ | with_reducible refine MapAt.drewN ?_ _ | with_reducible assumption | refine MapAt.setCell ?_ (by first | assumption | (simp only []; omega)) _)) _ Hv0.out ?_
  iterate 1 (refine mix_step rfl (fun K hK => ?_); go_simp; refine hK _ ?_; clear hK K)
  (refine mix_step rfl (fun K hK => ?_); go_simp; refine Exists.intro _ ⟨fun _ _ => call_gives (size_any _ _ _ _ _ _ _ _ _ hk0 hn0), hK _ ?_⟩; clear hK K)
  iterate 3 (refine mix_step rfl (fun K hK => ?_); go_simp; refine hK _ ?_; clear hK K)
  refine mix_loud rfl rfl (by kernel_rfl) (fun e K hK => ?_)
  go_wp2_with fail
  refine mix_done (fun e2 => ?_)
  go_wp2_with (at_delete; refine wpList_delete' (o := ⟨none, .call { callee := .builtin .delete, args := #[.tmp 22, .tmp 23], argTypes := #[76, 9] }, _, _, _, _⟩) rfl 76 9 51 (.tmp 22) (.tmp 23) rfl bm k rfl rfl Try.underlying76 Try.underlying9 (assoc T.L) (by repeat (first | with_reducible refine MapAt.more ?_ _ | with_reducible refine MapAt.alloc ?_ _ | with_reducible refine MapAt.drew ?_ | with_reducible refine MapAt.drewN ?_ _ | with_reducible assumption | refine MapAt.setCell ?_ (by first | assumption | (simp only []; omega)) _)) ?_; intro w1 hM1 hK1 hs1)
  have hbb : bm ≠ bk := H0.out.bmk
  have hne : ¬ bt = bm := H0.out.tm
  have hne2 : ¬ bk = bt := fun e => H0.out.tk e.symm
  have hne3 : ¬ bk = bm := fun e => H0.out.bmk e.symm
  have hKw : Kept (foot bt bm bk) w w1 := Kept.trans (by repeat (first | with_reducible refine Kept.more ?_ _ | with_reducible refine Kept.alloc ?_ _ | with_reducible refine Kept.drew ?_ | with_reducible refine Kept.drewN ?_ _ | with_reducible assumption | with_reducible exact Kept.refl _ _ | refine Kept.setCell ?_ (by first | exact Or.inl (Or.inl rfl) | exact Or.inl (Or.inr (Or.inl rfl)) | exact Or.inl (Or.inr (Or.inr rfl)) | (right; simp only []; omega)) _)) (hK1.mono fun b hb => .inr (.inl hb))
  have hT1 : Blk w1 bt _ 78 := ((HT.out.set 7 (.int .i64 (T.bytes - (k0.size + n0)))).more _).kept hK1 hne
  have hTk1 : Blk w1 bk tc 3 := ((HTk.out.far (p := ⟨bt, 7, none⟩) hne2 (.int .i64 (T.bytes - (k0.size + n0)))).more _).kept hK1 hne3
  have hI1 : IsTab w1 bt bm bk { T with bytes := T.bytes - (k0.size + n0), L := cdel T.L k } := by
    refine isTab_build H0.out hKw _ hT1 ⟨cap, ?_⟩ (by rw [← adel_assoc]; exact hM1) hTk1 Htc.out (fun d hd => .inl (mem_cdel hd)) (blk_nou H0.out HTk.out)
    simp [tabCells]
  have d5 : w1.cell? ⟨bt, 5, none⟩ = some (.slice (some ⟨bk, 0, none⟩) T.tok.length cap) := hT1.cell 5
  have dk : w1.cell? ⟨bk, j, none⟩ = some (.int .i64 tj) := (hTk1.cell j).trans (Htc.out j tj Htj.out)
  have dfk : w1.frozen? ⟨bk, j, none⟩ = false := hTk1.fro j
  have hB1 := fun e => call_gives (bucket_at (hI1.more e) HD.out.b0 HD.out.b1 k hk j Hj.out)
  have hbt1 := hI1.lt.1
  have hbk1 := hI1.lt.2.2
  have hj0 : (0 : Int) ≤ (j : Int) := by omega
  have hj1 : (j : Int) < (T.tok.length : Int) := by omega
  have hjt : ((j : Int)).toNat = j := by omega
  have HB1 := Lib.hid hB1
  have HI1 := Lib.hid hI1
  have HT1 := Lib.hid hT1
  have HTk1 := Lib.hid hTk1
  have HM1 := Lib.hid hM1
  have HKw := Lib.hid hKw
  have Hne := Lib.hid hne
  have Hne3 := Lib.hid hne3
  clear hB1 hI1 hT1 hTk1 hM1 hKw hK1 hs1 hM c4 c5 c7 f7 ck fk hne hne3
  refine wp_region_mix_lit [(0,false),(1,false),(2,false),(3,false),(4,false),(5,false),(6,false),(7,false),(8,false),(9,false),(10,false),(11,true)] (by kernel_rfl) (by kernel_rfl) ?_
  iterate 6 (refine mix_step rfl (fun K hK => ?_); go_simp; refine hK _ ?_; clear hK K)
  (refine mix_step rfl (fun K hK => ?_); go_simp; refine Exists.intro _ ⟨fun _ _ => HB1.out _, hK _ ?_⟩; clear hK K)
  iterate 4 (refine mix_step rfl (fun K hK => ?_); go_simp; refine hK _ ?_; clear hK K)
  refine mix_loud rfl rfl (by kernel_rfl) (fun e9 K hK => ?_)
  go_wp2_with fail
  refine mix_done (fun e10 => ?_)
  go_wp2
  go_end0
  have hK2 : Kept (foot bt bm bk) w1 (more (more (w1.setCell ⟨bk, j, none⟩ (.int .i64 (tj + 1))) e9) e10) := by repeat (first | with_reducible refine Kept.more ?_ _ | with_reducible refine Kept.alloc ?_ _ | with_reducible refine Kept.drew ?_ | with_reducible refine Kept.drewN ?_ _ | with_reducible assumption | with_reducible exact Kept.refl _ _ | refine Kept.setCell ?_ (by first | exact Or.inl (Or.inl rfl) | exact Or.inl (Or.inr (Or.inl rfl)) | exact Or.inl (Or.inr (Or.inr rfl)) | (right; simp only []; omega)) _)
  refine ⟨rfl, ?_, HKw.out.trans hK2⟩
  have hT2 : Blk _ bt _ 78 := ((HT1.out.far (p := ⟨bk, j, none⟩) (fun e => hne2 e.symm) (.int .i64 (tj + 1))).more e9).more e10
  have hTk2 : Blk _ bk _ 3 := ((HTk1.out.set j (.int .i64 (tj + 1))).more e9).more e10
  refine isTab_build HI1.out hK2 (dropped hbucket T k) hT2 ⟨cap, ?_⟩ ?_ hTk2 ?_ (fun d hd => .inl hd) (nou_set (blk_nou HI1.out HTk1.out) _ _ rfl)
  · simp only [tabCells, dropped, ← Hcs.out, bumped]
    simp
  · have := ((HM1.out.setCell (p := ⟨bk, j, none⟩) (fun e => Hne3.out e.symm) (.int .i64 (tj + 1))).more e9).more e10
    rw [adel_assoc] at this
    exact this
  · intro i t hi
    have hjn : (hbucket k T.room.buckets).toNat = j := by rw [Hj.out]; exact hjt
    simp only [dropped, bumped, hjn] at hi
    by_cases hij : j = i
    · subst hij
      rw [List.getElem?_set_self hjl] at hi
      simp only [Option.some.injEq] at hi
      have hg : T.tok.getD j 0 = tj := by rw [List.getD_eq_getElem?_getD, Htj.out]; rfl
      rw [hg] at hi
      have hlt : j < tc.size := by
        have := Htc.out j tj Htj.out
        exact (Array.getElem?_eq_some_iff.1 this).1
      simp [hlt, ← hi]
    · rw [List.getElem?_set_ne hij] at hi
      rw [Array.getElem?_setIfInBounds_ne hij]
      exact Htc.out i t hi
end Go.Proofs.Ytibolfdgbbaclaa

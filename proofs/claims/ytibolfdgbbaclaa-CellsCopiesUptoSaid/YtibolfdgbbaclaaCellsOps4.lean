/-
  What is proved: contracts of the method Query of a table of cells.
  Conditions: bounds under which nothing wraps.
-/
import Derived.Test.YtibolfdgbbaclaaCellsOps3
open Go Go.RowKit Go.Ice
namespace Go.Proofs.Ytibolfdgbbaclaa
set_option maxRecDepth 100000
set_option linter.unusedVariables false
set_option linter.unusedSimpArgs false
attribute [local go_sem] gives givesUpon later_self more_cell more_frozen more_block more_more more_drew more_setCell more_of_drew more_of_drewN more_size lt_plus lt_plus2 lt_plus3 lt_plus4 Instr.field part asAgg List.extract_toArray List.extract_eq_take_drop
def replyV (e : Ent) (sv : Value) (whole : Bool) (tok : Int) : Value := .agg #[.string e.key, .int .i64 e.seq, .int .i64 e.who, .int .i64 e.op, .bool e.has, sv, .bool whole, .int .i64 tok]
def replyZ : Value := replyV (zeroE ⟨#[]⟩) (.slice none 0 0) false 0
/-- The token of a key's bucket. -/
def tokAt (T : Tab) (k : ByteArray) : Int := T.tok.getD (hbucket k T.room.buckets).toNat 0
theorem Blk.of_alloc (w : World) (cs : Array Value) (t : TypeId) : Blk (w.alloc (.cells cs t)) w.heap.size cs t := by
  show (w.heap.push _)[w.heap.size]? = _
  rw [Array.getElem?_push_size]
theorem tail_kept {w w' : World} (hs : w'.heap.size = w.heap.size) (e x f g : Array Obj × Nat) (n : Nat) {b : Nat} (h1 : w.heap.size ≤ b) (h2 : b < (more (more w e) x).heap.size) :
    (more (more w' (e.1 ++ (x.1 ++ f.1), n)) g).heap[b]? = (more (more w e) x).heap[b]? := by
  rw [more_size, more_size] at h2
  have hb1 : b < (more w' (e.1 ++ (x.1 ++ f.1), n)).heap.size := by
    rw [more_size]
    simp only [Array.size_append]
    omega
  rw [more_block _ _ b hb1, more_more]
  simp only [more]
  rw [Array.getElem?_append_right (by omega), Array.getElem?_append_right h1, hs, ← Array.append_assoc, Array.getElem?_append_left (by simp only [Array.size_append]; omega)]
theorem bts_lt {w : World} {N : Nat → Prop} {v : Value} {l : List UInt8} (h : Bts w N v l) : Bts w (fun b => N b ∧ b < w.heap.size) v l := by
  obtain ⟨A, c, e, hr, hl⟩ := h
  refine ⟨A, c, e, fun hm => ?_, hl⟩
  obtain ⟨b, o, x1, x2, x3⟩ := hr hm
  exact ⟨b, o, x1, ⟨x2, World.block_lt_of_cell? w ⟨b, o + 0, none⟩ (x3 0 hm)⟩, x3⟩
/-- What came new is written over; the table is kept. -/
theorem isTab_over {w w2 w' : World} {bt bm bk : Nat} {T0 T : Tab} (h0 : IsTab w bt bm bk T0) (h : IsTab w2 bt bm bk T) (hK : Kept (foot bt bm bk) w w2) (hv : ∀ c ∈ T.L, ∃ d ∈ T0.L, d.sv = c.sv ∧ d.e.b = c.e.b)
    (hK2 : Kept (fun b => w.heap.size ≤ b) w2 w') : IsTab w' bt bm bk T := by
  have l0 := h0.lt
  have k : ∀ b, b < w.heap.size → w'.heap[b]? = w2.heap[b]? := fun b hb => hK2.block b (Nat.lt_of_lt_of_le hb hK.size) (by omega)
  obtain ⟨h1, h2, h3, ⟨cap, h4⟩, ⟨cs, h5, h6⟩, h7, h8⟩ := h
  refine ⟨h1, h2, h3, ⟨cap, (k bt l0.1).trans h4⟩, ⟨cs, (k bk l0.2.2).trans h5, h6⟩, h7.of_block (k bm l0.2.1), fun c hc => ?_⟩
  obtain ⟨d, hd, e1, e2⟩ := hv c hc
  have hb := bts_lt (h0.vals d hd)
  rw [e1, e2] at hb
  refine (hb.kept fun b hN _ => ?_).mono fun b hN => hN.1
  refine (k b hN.2).trans (hK.block b hN.2 ?_)
  rintro (h | h | h)
  · exact hN.1.1 h
  · exact hN.1.2.1 h
  · exact hN.1.2.2 h
theorem laid_from {T : Tab} {c : Cel} (hc : c ∈ T.L) : ∀ d ∈ (laid T c).L, ∃ d' ∈ T.L, d'.sv = d.sv ∧ d'.e.b = d.e.b := by
  intro d hd
  rcases mem_cput hd with rfl | hd
  · exact ⟨c, hc, rfl, rfl⟩
  · exact ⟨d, hd, rfl, rfl⟩
theorem alloc_size (w : World) (o : Obj) : (w.alloc o).heap.size = w.heap.size + 1 := Array.size_push _
theorem tok_parts {w : World} {bt bm bk : Nat} {T : Tab} (h : IsTab w bt bm bk T) (hd : Bd T) (k : ByteArray) (hk : k.size ≤ 140737488351232) :
    ∃ (j : Nat) (tj : Int), hbucket k T.room.buckets = (j : Int) ∧ j < T.tok.length ∧ T.tok[j]? = some tj ∧ tokAt T k = tj ∧ w.cell? ⟨bk, j, none⟩ = some (.int .i64 tj) ∧ (-2305843009213693952 ≤ tj ∧ tj ≤ 2305843009213693952) ∧
      (0 : Int) ≤ (j : Int) ∧ (j : Int) < (T.tok.length : Int) ∧ ((j : Int)).toNat = j := by
  obtain ⟨cap, tc, hT, hTk, htc, hcell, hfro, hfrk, hcelk⟩ := h.open_
  have hbk := hbucket_in k T.room.buckets hd.b0
  obtain ⟨j, hj⟩ : ∃ j : Nat, hbucket k T.room.buckets = (j : Int) := ⟨_, (Int.toNat_of_nonneg hbk.1).symm⟩
  have hjl : j < T.tok.length := by rw [hd.toks]; have := hd.b0; omega
  have htj : T.tok[j]? = some (T.tok[j]) := List.getElem?_eq_getElem hjl
  refine ⟨j, T.tok[j], hj, hjl, htj, ?_, hcelk j _ htj, hd.tok _ (List.getElem_mem hjl), by omega, by omega, by omega⟩
  unfold tokAt
  rw [hj, Int.toNat_natCast, List.getD_eq_getElem?_getD, htj]
  rfl
set_option maxHeartbeats 1000000 in
theorem query_bad {w : World} {bt : Nat} (k : ByteArray) (hk : k.size = 0 ∨ 250 < k.size) (hk1 : k.size ≤ 140737488351232) :
    Calls Try.prog 13 #[.pointer (some ⟨bt, 0, none⟩), .string k] w fun e w' => e = .returned (.tuple #[replyZ, .int .i64 2]) ∧ Below w.heap.size w w' := by
  go_enter Try.func13, Try.ntmps13
  rcases hk with hk | hk
  · have hk2 : k = ByteArray.empty := by simpa using hk
    go_wp2
    exact bodyPost_ret (v := .tuple #[replyZ, .int .i64 2]) (by simp [results, Try.results13, go_sem, replyZ, replyV, zeroE]) rfl ⟨rfl, (Kept.to_below (S := fun _ => False) (by repeat (first | with_reducible refine Kept.more ?_ _ | with_reducible refine Kept.alloc ?_ _ | with_reducible refine Kept.drew ?_ | with_reducible refine Kept.drewN ?_ _ | exact Kept.refl _ _)) (fun _ h => h.elim))⟩
  · have hk2 : ¬ k = ByteArray.empty := fun e => by rw [e] at hk; simp at hk
    have hk3 : 250 < (k.size : Int) := by omega
    go_wp2
    exact bodyPost_ret (v := .tuple #[replyZ, .int .i64 2]) (by simp [results, Try.results13, go_sem, replyZ, replyV, zeroE]) rfl ⟨rfl, (Kept.to_below (S := fun _ => False) (by repeat (first | with_reducible refine Kept.more ?_ _ | with_reducible refine Kept.alloc ?_ _ | with_reducible refine Kept.drew ?_ | with_reducible refine Kept.drewN ?_ _ | exact Kept.refl _ _)) (fun _ h => h.elim))⟩
set_option maxHeartbeats 1000000 in
theorem query_none {w : World} {bt bm bk : Nat} {T : Tab} (h : IsTab w bt bm bk T) (hd : Bd T) (k : ByteArray) (hk0 : 0 < k.size) (hk : k.size ≤ 250) (hf : cfind T.L k = none) :
    Calls Try.prog 13 #[.pointer (some ⟨bt, 0, none⟩), .string k] w fun e w' => e = .returned (.tuple #[replyV (zeroE k) (.slice none 0 0) (decide (tokAt T k = 0)) (tokAt T k), .int .i64 0]) ∧ Below w.heap.size w w' := by
  obtain ⟨cap, tc, hT, hTk, htc, hcell, hfro, hfrk, hcelk⟩ := h.open_
  have Hv0 := Lib.hid (look_none hf)
  have hkb : k.size ≤ 140737488351232 := by omega
  obtain ⟨j, tj, hj, hjl, htj, htk, ck, htb, hj0, hj1, hjt⟩ := tok_parts h hd k hkb
  have c4 : w.cell? ⟨bt, 4, none⟩ = some (.map (some bm)) := hcell 4
  have c5 : w.cell? ⟨bt, 5, none⟩ = some (.slice (some ⟨bk, 0, none⟩) T.tok.length cap) := hcell 5
  have hbt := h.lt.1
  have hbkl := h.lt.2.2
  have hM := h.cells
  have HB1 := Lib.hid (fun W (hB : Below w.heap.size w W) => call_gives (bucket_at (h.below hB) hd.b0 hd.b1 k hkb j hj))
  have hk2 : ¬ k = ByteArray.empty := fun e => by rw [e] at hk0; simp at hk0
  have hk3 : ¬ 250 < (k.size : Int) := by omega
  rw [htk]
  clear hcell hfro hfrk hcelk h hT hTk htc hf hd hj htk htj htb
  go_enter Try.func13, Try.ntmps13
  go_wp2
  refine wp_region_mix_lit [(0,false),(1,false),(2,false),(3,false),(4,false),(5,false),(6,false),(7,false),(8,false),(9,false)] (by kernel_rfl) (by kernel_rfl) ?_
  iterate 6 (refine mix_step rfl (fun K hK => ?_); go_simp; refine hK _ ?_; clear hK K)
  (refine mix_step rfl (fun K hK => ?_); go_simp; refine Exists.intro _ ⟨fun _ _ => HB1.out _ (Kept.to_below (S := fun _ => False) (by repeat (first | with_reducible refine Kept.more ?_ _ | with_reducible refine Kept.alloc ?_ _ | with_reducible refine Kept.drew ?_ | with_reducible refine Kept.drewN ?_ _ | exact Kept.refl _ _)) (fun _ h => h.elim)), hK _ ?_⟩; clear hK K)
  iterate 3 (refine mix_step rfl (fun K hK => ?_); go_simp; refine hK _ ?_; clear hK K)
  refine mix_done (fun e1 => ?_)
  go_wp2_with (at_lookup; refine wpList_lookup' (o := ⟨some 38, .lookup 76 (.tmp 36) (.tmp 37) true, _, _, _, _⟩) rfl 76 9 51 (.tmp 36) (.tmp 37) true rfl bm k rfl rfl Try.underlying76 Try.underlying9 celZ celZ_zero (assoc T.L) (by repeat (first | with_reducible refine MapAt.more ?_ _ | with_reducible refine MapAt.alloc ?_ _ | with_reducible refine MapAt.drew ?_ | with_reducible refine MapAt.drewN ?_ _ | with_reducible assumption | refine MapAt.setCell ?_ (by first | assumption | (simp only []; omega)) _)) _ Hv0.out ?_; unfold celZ)
  exact bodyPost_ret (v := .tuple #[replyV (zeroE k) (.slice none 0 0) (decide (tj = 0)) tj, .int .i64 0]) (by simp [results, Try.results13, go_sem, replyV, zeroE] <;> (rw [Bool.eq_iff_iff]; simp)) rfl ⟨rfl, (Kept.to_below (S := fun _ => False) (by repeat (first | with_reducible refine Kept.more ?_ _ | with_reducible refine Kept.alloc ?_ _ | with_reducible refine Kept.drew ?_ | with_reducible refine Kept.drewN ?_ _ | exact Kept.refl _ _)) (fun _ h => h.elim))⟩
set_option maxHeartbeats 1000000 in
theorem query_has {w : World} {bt bm bk : Nat} {T : Tab} (h : IsTab w bt bm bk T) (hd : Bd T) (k : ByteArray) (hk0 : 0 < k.size) (hk : k.size ≤ 250) (c : Cel) (hf : cfind T.L k = some c) :
    Calls Try.prog 13 #[.pointer (some ⟨bt, 0, none⟩), .string k] w fun e w' => ∃ A n, e = .returned (.tuple #[replyV c.e (.slice A c.e.b.length n) c.whole (tokAt T k), .int .i64 0]) ∧
      Bts w' (fun b => w.heap.size ≤ b) (.slice A c.e.b.length n) c.e.b ∧ IsTab w' bt bm bk (laid T c) ∧ Kept (foot bt bm bk) w w' := by
  obtain ⟨cap, tc, hT, hTk, htc, hcell, hfro, hfrk, hcelk⟩ := h.open_
  have Hv0 := Lib.hid (look_has hf)
  have hkb : k.size ≤ 140737488351232 := by omega
  obtain ⟨j, tj, hj, hjl, htj, htk, ck, htb, hj0, hj1, hjt⟩ := tok_parts h hd k hkb
  have c4 : w.cell? ⟨bt, 4, none⟩ = some (.map (some bm)) := hcell 4
  have c5 : w.cell? ⟨bt, 5, none⟩ = some (.slice (some ⟨bk, 0, none⟩) T.tok.length cap) := hcell 5
  have H0 := Lib.hid h
  have hbt := h.lt.1
  have hbml := h.lt.2.1
  have hbkl := h.lt.2.2
  have hM := h.cells
  have HB1 := Lib.hid (fun W (hB : Below w.heap.size w W) => call_gives (bucket_at (h.below hB) hd.b0 hd.b1 k hkb j hj))
  have hk2 : ¬ k = ByteArray.empty := fun e => by rw [e] at hk0; simp at hk0
  have hk3 : ¬ 250 < (k.size : Int) := by omega
  rw [htk]
  obtain ⟨hcm, hck⟩ := cfind_some hf
  subst hck
  have Hvals := Lib.hid (h.vals c hcm)
  obtain ⟨A, cc, hsv, _, _⟩ := h.vals c hcm
  have hlay := fun W (hB : Below w.heap.size w W) => lay_any (h.below hB) hd c hkb (Hvals.out.below hB)
  have Hsv := Lib.hid hsv
  unfold celV at Hv0 hlay
  rw [hsv] at Hv0 hlay Hvals
  have Hlay := Lib.hid hlay
  clear hcell hfro hfrk hcelk h hT hTk htc hf hd hj htk htj htb hlay hsv
  go_enter Try.func13, Try.ntmps13
  go_wp2
  refine wp_region_mix_lit [(0,false),(1,false),(2,false),(3,false),(4,false),(5,false),(6,false),(7,false),(8,false),(9,false)] (by kernel_rfl) (by kernel_rfl) ?_
  iterate 6 (refine mix_step rfl (fun K hK => ?_); go_simp; refine hK _ ?_; clear hK K)
  (refine mix_step rfl (fun K hK => ?_); go_simp; refine Exists.intro _ ⟨fun _ _ => HB1.out _ (Kept.to_below (S := fun _ => False) (by repeat (first | with_reducible refine Kept.more ?_ _ | with_reducible refine Kept.alloc ?_ _ | with_reducible refine Kept.drew ?_ | with_reducible refine Kept.drewN ?_ _ | exact Kept.refl _ _)) (fun _ h => h.elim)), hK _ ?_⟩; clear hK K)
  iterate 3 (refine mix_step rfl (fun K hK => ?_); go_simp; refine hK _ ?_; clear hK K)
  refine mix_done (fun e1 => ?_)
  go_wp2_with (at_lookup; refine wpList_lookup' (o := ⟨some 38, .lookup 76 (.tmp 36) (.tmp 37) true, _, _, _, _⟩) rfl 76 9 51 (.tmp 36) (.tmp 37) true rfl bm c.e.key rfl rfl Try.underlying76 Try.underlying9 celZ celZ_zero (assoc T.L) (by repeat (first | with_reducible refine MapAt.more ?_ _ | with_reducible refine MapAt.alloc ?_ _ | with_reducible refine MapAt.drew ?_ | with_reducible refine MapAt.drewN ?_ _ | with_reducible assumption | refine MapAt.setCell ?_ (by first | assumption | (simp only []; omega)) _)) _ Hv0.out ?_)
  refine (Hlay.out _ (Kept.to_below (S := fun _ => False) (by repeat (first | with_reducible refine Kept.more ?_ _ | with_reducible refine Kept.alloc ?_ _ | with_reducible refine Kept.drew ?_ | with_reducible refine Kept.drewN ?_ _ | exact Kept.refl _ _)) (fun _ h => h.elim))).mono ?_
  rintro e9 w9 ⟨rfl, hI9, hK9⟩
  dsimp only
  have hb4 := ((((Blk.of_alloc w _ 39).more e1).alloc _).kept hK9 (by rintro (h | h | h) <;> omega))
  have hb7 := ((Blk.of_alloc _ _ 51).kept hK9 (by simp only [alloc_size, more_size]; rintro (h | h | h) <;> omega))
  simp only [alloc_size, more_size] at hb7
  have hs4 := hb4.lt
  have hs7 := hb7.lt
  have Hb4 := Lib.hid hb4
  have g0 := hb7.cell 0
  have g1 := hb7.cell 1
  have g2 := hb7.cell 2
  have g3 := hb7.cell 3
  have g4 := hb7.cell 4
  have g5 := hb7.cell 5
  have g6 := hb7.cell 6
  have f0 := hb4.fro 0
  have k0 := hb4.cell 0
  have f1 := hb4.fro 1
  have k1 := hb4.cell 1
  have f2 := hb4.fro 2
  have k2 := hb4.cell 2
  have f3 := hb4.fro 3
  have k3 := hb4.cell 3
  have f4 := hb4.fro 4
  have k4 := hb4.cell 4
  have f5 := hb4.fro 5
  have k5 := hb4.cell 5
  have f6 := hb4.fro 6
  have k6 := hb4.cell 6
  have f7 := hb4.fro 7
  have k7 := hb4.cell 7
  simp at g0 g1 g2 g3 g4 g5 g6 k0 k1 k2 k3 k4 k5 k6 k7
  have HI9 := Lib.hid hI9
  have HK9 := Lib.hid hK9
  clear hb4 hb7 hI9 hK9 hM c4 c5 ck HB1 Hlay
  go_wp2
  refine wp_region_mix_lit [(0,false),(1,false),(3,false),(4,false),(5,false),(2,true),(6,false),(7,true),(8,false)] (by kernel_rfl) (by kernel_rfl) ?_
  iterate 5 (refine mix_step rfl (fun K hK => ?_); go_simp; refine hK _ ?_; clear hK K)
  refine mix_grow rfl rfl (fun e3 K hK => ?_)
  go_wp2_with (go_at_call 36; refine (copy_any _ _ _ _ _ _ _ _ (off bt bm bk) (Bts.more (Bts.drew (bts_keptF ((Hvals.out.below (w' := _) (Kept.to_below (S := fun _ => False) (by repeat (first | with_reducible refine Kept.more ?_ _ | with_reducible refine Kept.alloc ?_ _ | with_reducible refine Kept.drew ?_ | with_reducible refine Kept.drewN ?_ _ | exact Kept.refl _ _)) (fun _ h => h.elim)))) HK9.out)) _)).mono ?_; rintro e4 w4 ⟨A', c', rfl, hb4, hB4⟩)
  refine hK _ _ hB4 ?_
  clear hK K
  obtain ⟨x4, rfl⟩ := later_of_below hB4
  clear hB4
  iterate 1 (refine mix_step rfl (fun K hK => ?_); go_simp; refine hK _ ?_; clear hK K)
  refine mix_loud rfl rfl (by kernel_rfl) (fun e5 K hK => ?_)
  go_wp2_with fail
  iterate 1 (refine mix_step rfl (fun K hK => ?_); go_simp; refine hK _ ?_; clear hK K)
  refine mix_done (fun e6 => ?_)
  go_wp2
  have hKw : Kept (foot bt bm bk) w w9 := Kept.trans (Kept.of_below (Kept.to_below (S := fun _ => False) (by repeat (first | with_reducible refine Kept.more ?_ _ | with_reducible refine Kept.alloc ?_ _ | with_reducible refine Kept.drew ?_ | with_reducible refine Kept.drewN ?_ _ | exact Kept.refl _ _)) (fun _ h => h.elim))) HK9.out
  refine bodyPost_ret (v := .tuple #[replyV c.e (.slice A' c.e.b.length c') c.whole tj, .int .i64 0]) (by simp [results, Try.results13, go_sem, replyV, hs4, k0, k1, k2, k3, k4, k5, k6, k7]) rfl ⟨A', c', rfl, ?_, ?_, ?_⟩
  · refine (hb4.kept fun b hN hlt => tail_kept (w := w9.drew) (by simp) e3 x4 e5 e6 _ ?_ hlt).mono fun b hN => ?_
    · rw [more_size] at hN; omega
    · rw [more_size] at hN
      have : w9.drew.heap.size = w9.heap.size := rfl
      omega
  · refine isTab_over H0.out HI9.out hKw (laid_from hcm) ?_
    repeat (first | with_reducible refine Kept.more ?_ _ | with_reducible refine Kept.alloc ?_ _ | with_reducible refine Kept.drew ?_ | with_reducible refine Kept.drewN ?_ _ | with_reducible assumption | with_reducible exact Kept.refl _ _ | refine Kept.setCell ?_ (by first | exact Or.inl (Nat.le_refl _) | (left; simp only []; omega)) _)
  · repeat (first | with_reducible refine Kept.more ?_ _ | with_reducible refine Kept.alloc ?_ _ | with_reducible refine Kept.drew ?_ | with_reducible refine Kept.drewN ?_ _ | with_reducible assumption | with_reducible exact Kept.refl _ _ | refine Kept.setCell ?_ (by first | exact Or.inl (Or.inl rfl) | exact Or.inl (Or.inr (Or.inl rfl)) | exact Or.inl (Or.inr (Or.inr rfl)) | (right; simp only []; omega)) _)
end Go.Proofs.Ytibolfdgbbaclaa

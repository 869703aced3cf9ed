/-
  What is proved: the contract of the method Cells of a table of cells: all cells by rising keys, their bytes in new memory.
  Conditions: bounds under which nothing wraps.
-/
import Derived.Test.YtibolfdgbbaclaaCellsNew
import Derived.Test.YtibolfdgbbaclaaKeys
open Go Go.RowKit Go.Ice
namespace Go.Proofs.Ytibolfdgbbaclaa
set_option maxRecDepth 100000
set_option linter.unusedVariables false
set_option linter.unusedSimpArgs false
attribute [local go_sem] gives givesUpon later_self more_cell more_frozen more_block more_more more_drew more_setCell more_of_drew more_of_drewN more_size lt_plus lt_plus2 lt_plus3 lt_plus4 Instr.field part asAgg List.extract_toArray List.extract_eq_take_drop
def celCells (c : Cel) : List Value := [.string c.e.key, .int .i64 c.e.seq, .int .i64 c.e.who, .int .i64 c.e.op, .bool c.e.has, c.sv, .bool c.whole, .bool c.clean, .int .i64 c.used]
def flatC (cs : List Cel) : List Value := cs.flatMap celCells
theorem flatC_append (a b : List Cel) : flatC (a ++ b) = flatC a ++ flatC b := List.flatMap_append ..
theorem flatC_one (c : Cel) : flatC [c] = celCells c := by simp [flatC]
theorem celCells_row (c : Cel) : (List.range (1 * 9)).map (fun j => (celCells c).getD j undef) = celCells c := rfl
def bare (c : Cel) : Cel := { c with sv := undef }
/-- A slice of cells that reads as cs. -/
def CRows (w : World) (N : Nat → Prop) (v : Value) (cs : List Cel) : Prop :=
  ∃ A c, v = .slice A cs.length c ∧ Row w N A (cs.length * 9) (fun j => (flatC cs).getD j undef) ∧ (∀ c ∈ cs, Bts w N c.sv c.e.b) ∧ cs.length ≤ 1000000
theorem flatC_len (cs : List Cel) : (flatC cs).length = cs.length * 9 := by
  induction cs with
  | nil => rfl
  | cons c cs ih =>
    have : flatC (c :: cs) = celCells c ++ flatC cs := rfl
    rw [this, List.length_append, ih, List.length_cons]
    show 9 + _ = _
    omega
def shown (L : List Cel) : List Cel := (sortB (L.map (·.e.key))).filterMap (cfind L)
def CellsPost (w : World) (T : Tab) (en : Ending) (w' : World) : Prop :=
  ∃ v cs, en = .returned v ∧ CRows w' (fun b => w.heap.size ≤ b) v cs ∧ cs.map bare = (shown T.L).map bare ∧ Below w.heap.size w w'
structure CLoop (W wx : World) (ov : Value) (j : Nat) (cs : List Cel) : Prop where
  own : wx.ownsRow W.heap.size 51 9 ov j (flatC cs)
  len : cs.length = j
  vals : ∀ c ∈ cs, Bts wx (fun b => W.heap.size ≤ b ∧ ov.ownBlock ≠ some b) c.sv c.e.b
  below : Below W.heap.size W wx
theorem owns_lt {w : World} {base n size : Nat} {e : TypeId} {v : Value} {xs : List Value} (h : w.ownsRow base e size v n xs) : ∀ k, v.ownBlock = some k → k < w.heap.size := by
  intro k hk
  rcases h.2 with ⟨rfl, _⟩ | ⟨g, cap, cur, rfl, hb, hg, _⟩
  · simp [Value.ownBlock] at hk
  · simp [Value.ownBlock] at hk
    subst hk
    exact (Array.getElem?_eq_some_iff.1 hg).1
theorem CLoop.start (W : World) : CLoop W W (.slice none 0 0) 0 [] := ⟨World.ownsRow_nil _ _ _ _, rfl, fun c hc => (by cases hc), Below.refl _ _⟩
theorem CLoop.step {W wr w3 w4 : World} {ov v' : Value} {j : Nat} {cs : List Cel} {c : Cel} (h : CLoop W wr ov j cs) (hB : Below wr.heap.size wr w3) (hc : Bts w3 (fun b => wr.heap.size ≤ b) c.sv c.e.b)
    (hown : w4.ownsRow W.heap.size 51 9 v' (j + 1) (flatC cs ++ celCells c)) (hg : w3.grownBy w4 ov.ownBlock) (hat : v'.ownBlock = ov.ownBlock ∨ v'.ownBlock = some w3.heap.size) : CLoop W w4 v' (j + 1) (cs ++ [c]) := by
  have hWw : W.heap.size ≤ wr.heap.size := h.below.size
  have hWw3 : wr.heap.size ≤ w3.heap.size := hB.size
  refine ⟨by rw [flatC_append, flatC_one]; exact hown, by simp [h.len], ?_, ?_⟩
  · have key : ∀ d : Cel, Bts w3 (fun b => W.heap.size ≤ b ∧ ov.ownBlock ≠ some b) d.sv d.e.b → Bts w4 (fun b => W.heap.size ≤ b ∧ v'.ownBlock ≠ some b) d.sv d.e.b := by
      intro d hd
      refine ((bts_lt hd).kept fun b hN hlt => hg.block b hlt (fun e => hN.1.2 e.symm)).mono fun b hN => ⟨hN.1.1, ?_⟩
      rcases hat with h1 | h1
      · rw [h1]; exact hN.1.2
      · rw [h1]; intro e; cases e; omega
    intro d hd
    rcases List.mem_append.1 hd with hd | hd
    · exact key d ((h.vals d hd).below hB)
    · simp only [List.mem_singleton] at hd
      subst hd
      refine key d (hc.mono fun b hb => ⟨by omega, fun e => ?_⟩)
      have := owns_lt h.own b e
      omega
  · have h2 : Below W.heap.size W w3 := h.below.trans ⟨hB.os, hB.tape, hB.output, hB.size, fun k hk => hB.block k (by omega)⟩
    refine h2.grown hg (by omega) fun k hk => ?_
    exact owns_block h.own k hk
theorem CLoop.done {W wr : World} {ov : Value} {j : Nat} {cs : List Cel} (h : CLoop W wr ov j cs) (hj : j ≤ 1000000) : CRows wr (fun b => W.heap.size ≤ b) ov cs := by
  have hl := h.len
  subst hl
  rcases h.own.2 with ⟨hv, h0⟩ | ⟨g, cap, cur, hv, hb, hg, _⟩
  · have : cs = [] := by
      have := flatC_len cs
      rw [h0] at this
      exact List.eq_nil_of_length_eq_zero (by simp at this; omega)
    subst this
    exact ⟨none, 0, hv, Row.nil, fun c hc => (by cases hc), by simp⟩
  · refine ⟨_, cap, hv, fun hm => ⟨g, 0, rfl, hb, fun j hj => ?_⟩, fun c hc => (h.vals c hc).mono fun b hN => hN.1, hj⟩
    have hown := h.own
    rw [hv] at hown
    have hjl : j < (flatC cs).length := by rw [flatC_len]; exact hj
    have := hown.cells (g := g) rfl j ((flatC cs).getD j undef) (by simp [List.getD_eq_getElem?_getD, List.getElem?_eq_getElem hjl])
    have ha : (⟨g, 0, none⟩ : Addr).add j = ⟨g, 0 + j, none⟩ := by unfold Addr.add; split <;> simp_all
    rwa [ha] at this
theorem sortB_perm (l : List ByteArray) : (sortB l).Perm l := by
  unfold sortB
  have h1 := (List.mergeSort_perm (l.map (·.data.toList)) (fun x y => decide (x ≤ y))).map (fun b : List UInt8 => (⟨b.toArray⟩ : ByteArray))
  refine h1.trans ?_
  rw [List.map_map]
  have : (l.map ((fun b : List UInt8 => (⟨b.toArray⟩ : ByteArray)) ∘ fun x => x.data.toList)) = l := by
    conv => rhs; rw [← List.map_id l]
    rfl
  rw [this]
theorem filterMap_len {α β : Type} {f : α → Option β} : ∀ {l : List α}, (∀ x ∈ l, (f x).isSome) → (l.filterMap f).length = l.length ∧ ∀ (j : Nat) (x : α), l[j]? = some x → (l.filterMap f)[j]? = f x
  | [], _ => ⟨rfl, fun j x h => by simp at h⟩
  | a :: l, h => by
    obtain ⟨h1, h2⟩ := filterMap_len (l := l) fun x hx => h x (List.mem_cons_of_mem _ hx)
    obtain ⟨b, hb⟩ := Option.isSome_iff_exists.1 (h a List.mem_cons_self)
    rw [List.filterMap_cons_some hb]
    refine ⟨by simp [h1], fun j x hx => ?_⟩
    cases j with
    | zero => simp at hx; subst hx; simp [hb]
    | succ j => simp at hx ⊢; exact h2 j x hx
theorem shown_at {L : List Cel} : (shown L).length = L.length ∧ (sortB (L.map (·.e.key))).length = L.length ∧ ∀ (j : Nat) (k : ByteArray), (sortB (L.map (·.e.key)))[j]? = some k → ∃ c, cfind L k = some c ∧ c ∈ L ∧ (shown L)[j]? = some c := by
  have hp := sortB_perm (L.map (·.e.key))
  have hall : ∀ x ∈ sortB (L.map (·.e.key)), (cfind L x).isSome := by
    intro x hx
    obtain ⟨c, hc, hk⟩ := List.mem_map.1 (hp.mem_iff.1 hx)
    cases hf : cfind L x with
    | some _ => rfl
    | none => exact absurd hk (cfind_none.1 hf c hc)
  obtain ⟨h1, h2⟩ := filterMap_len hall
  have hl : (sortB (L.map (·.e.key))).length = L.length := by rw [hp.length_eq, List.length_map]
  refine ⟨h1.trans hl, hl, fun j k hk => ?_⟩
  obtain ⟨c, hc⟩ := Option.isSome_iff_exists.1 (hall k (List.mem_of_getElem? hk))
  exact ⟨c, hc, (cfind_some hc).1, (h2 j k hk).trans hc⟩
theorem cell_info : (Try.prog.info? 51).map (fun i => (i.zero, i.size, i.bytes)) = some (some celZ, 9, 88) := by kernel_rfl
theorem look_plain {L : List Cel} {k : ByteArray} {c : Cel} (hf : cfind L k = some c) : lookV false celZ (aget (assoc L) k) = celV c := by
  rw [aget_assoc, hf]; rfl
set_option maxHeartbeats 2000000 in
theorem cells_any {w : World} {bt bm bk : Nat} {T : Tab} {N : Int} (h : IsTab w bt bm bk T) (hv : Inv T N) :
    Calls Try.prog 14 #[.pointer (some ⟨bt, 0, none⟩)] w (CellsPost w T) := by
  obtain ⟨cap, tc, hT, hTk, htc, hcell, hfro, hfrk, hcelk⟩ := h.open_
  have c4 : w.cell? ⟨bt, 4, none⟩ = some (.map (some bm)) := hcell 4
  have l0 := h.lt
  have hbt := l0.1
  have hbml := l0.2.1
  have hM := h.cells
  have hlen : T.L.length ≤ 4096 := by
    have h1 := hv.len; have h2 := hv.cells
    omega
  have hks : ∀ p ∈ assoc T.L, p.1.size ≤ maxLen := by
    intro p hp
    obtain ⟨c, hc, rfl⟩ := List.mem_map.1 hp
    have := (hv.size c hc).1
    simp only [maxLen, ckv]; omega
  have hkeys : (assoc T.L).map (·.1) = T.L.map (·.e.key) := by simp [assoc, ckv, List.map_map, Function.comp_def]
  have Hsort := Lib.hid (show ∀ W, Below w.heap.size w W → Calls Try.prog 37 #[.func (.func 58) #[] #[.pointer (some ⟨W.heap.size, 0, none⟩)]] (W.alloc (.cells #[.map (some bm)] 76)) (fun e w' => ∃ A c, e = .returned (.slice A T.L.length c) ∧ Rows w' (fun b => W.heap.size < b) (.slice A T.L.length c) (strV (sortB (T.L.map (·.e.key)))) ∧ Below (W.heap.size + 1) (W.alloc (.cells #[.map (some bm)] 76)) w') from fun W hB => by
    refine (sorted_call (hM.of_block (hB.block bm hbml)) (by rw [assoc_len]; omega) hks).mono ?_
    rintro e w' ⟨v, rfl, hr, hb⟩
    rw [hkeys] at hr
    have hn : (strV (sortB (T.L.map (·.e.key)))).length = T.L.length := by rw [strV_len]; exact shown_at.2.1
    have hr' := hr
    obtain ⟨A, c, rfl, _, _⟩ := hr'
    rw [hn] at hr ⊢
    exact ⟨A, c, rfl, hr, hb⟩)
  have H0 := Lib.hid h
  have Hv := Lib.hid hv
  have Hkeys := Lib.hid hkeys
  clear hcell hfro hfrk hcelk hT hTk htc h hv hks hkeys
  go_enter Try.func14, Try.ntmps14
  go_upto_region 4 with fail
  go_cut [14, 15, 16] (fun kv nv iv wx => ∃ A c, kv = .slice A T.L.length c ∧ nv = .int .i64 T.L.length ∧ iv = .int .i64 0 ∧ Hid (Rows wx (fun b => w.heap.size < b) kv (strV (sortB (T.L.map (·.e.key))))) ∧ Hid (Below w.heap.size w wx))
  case first =>
    go_wp2_with (first
      | (go_at_call 38; refine (keys_call _ _).mono ?_; rintro e1 w1 ⟨rfl, rfl⟩)
      | (go_at_call 37; refine (Hsort.out _ (Kept.to_below (S := fun _ => False) (by repeat (first | with_reducible refine Kept.more ?_ _ | with_reducible refine Kept.alloc ?_ _ | with_reducible refine Kept.drew ?_ | with_reducible refine Kept.drewN ?_ _ | exact Kept.refl _ _)) (fun _ h => h.elim))).mono ?_; rintro e2 w2 ⟨A2, c2, rfl, hs2, hB2⟩))
    go_meet
    have hB3 : Below w.heap.size w w2 := by
      have h1 : Below w.heap.size w (w.alloc (.cells #[.map (some bm)] 76)) := (Below.refl _ _).alloc (Nat.le_refl _) _
      exact h1.trans (hB2.mono (by omega))
    exact ⟨A2, c2, rfl, rfl, rfl, hs2, hB3⟩
  case rest =>
  obtain ⟨A, ck, rfl, rfl, rfl, HR, HB⟩ := hcut
  obtain ⟨i0, hi, hz0, hz1, hz2⟩ := info_parts cell_info
  have Hi := Lib.hid (And.intro hi (And.intro hz0 (And.intro hz1 hz2)))
  have Hk := Lib.hid (show ∀ j, j < T.L.length → ∃ b off c, A = some ⟨b, off, none⟩ ∧ wc.cell? ⟨b, off + j, none⟩ = some (.string c.e.key) ∧ b < wc.heap.size ∧ cfind T.L c.e.key = some c ∧ c ∈ T.L ∧ (shown T.L)[j]? = some c from fun j hj => by
    obtain ⟨A', c', he, hr, _⟩ := HR.out
    have hA : A = A' := by injection he
    subst hA
    have hsl := (shown_at (L := T.L)).2.1
    rw [strV_len, hsl] at hr
    obtain ⟨b, off, h1, h2, h3⟩ := hr (by omega)
    have h4 := h3 j hj
    have hj' : j < (sortB (T.L.map (·.e.key))).length := by omega
    dsimp only at h4
    rw [strV_at _ j hj'] at h4
    obtain ⟨c, hf, hm, hs⟩ := (shown_at (L := T.L)).2.2 j _ (List.getElem?_eq_getElem hj')
    have hck := (cfind_some hf).2
    rw [← hck] at h4 hf
    exact ⟨b, off, c, h1, h4, World.block_lt_of_cell? wc ⟨b, off + j, none⟩ h4, hf, hm, hs⟩)
  have hbtc : bt < wc.heap.size := Nat.lt_of_lt_of_le hbt HB.out.size
  have c4' : wc.cell? ⟨bt, 4, none⟩ = some (.map (some bm)) := (HB.out.cell (p := ⟨bt, 4, none⟩) hbt).trans c4
  have H1 := Lib.hid (H0.out.below HB.out)
  have hbmc := H1.out.lt.2.1
  clear hi hz0 hz1 hz2 HR Hsort c4 hM hbml l0 Hkeys
  go_wp2
  go_loopg [3, 16] T.L.length (fun k ov i wx => ∃ (j : Nat) (cs : List Cel), j ≤ T.L.length ∧ k = T.L.length - j ∧ i = .int .i64 j ∧ Hid (CLoop wc wx ov j cs) ∧ Hid (cs.map bare = ((shown T.L).take j).map bare))
  case atStart => exact ⟨0, [], by omega, by omega, rfl, Lib.hid (CLoop.start wc), Lib.hid rfl⟩
  case round =>
    obtain ⟨j, cs, hj, rfl, rfl, HL, HE⟩ := hrel
    by_cases hlt : j < T.L.length
    · obtain ⟨b, o0, c, rfl, hcell, hbl, hf, hm, hs⟩ := Hk.out j hlt
      have hlc := HL.out.below
      have hcell' : wr.cell? ⟨b, o0 + j, none⟩ = some (.string c.e.key) := (hlc.cell (p := ⟨b, o0 + j, none⟩) hbl).trans hcell
      have c4w : wr.cell? ⟨bt, 4, none⟩ = some (.map (some bm)) := (hlc.cell (p := ⟨bt, 4, none⟩) hbtc).trans c4'
      have hMw := (H1.out.below hlc).cells
      have hbtw : bt < wr.heap.size := Nat.lt_of_lt_of_le hbtc hlc.size
      have hbw : b < wr.heap.size := Nat.lt_of_lt_of_le hbl hlc.size
      obtain ⟨As, ccs, hsv, _, _⟩ := H0.out.vals c hm
      have Hval := Lib.hid ((H1.out.below hlc).vals c hm)
      have Hget := Lib.hid (look_plain hf)
      unfold celV at Hget
      rw [hsv] at Hget Hval
      have Hsh := Lib.hid hs
      clear hcell c4' hlc hf hs hsv Hk hm
      go_wp2_with (first
        | (at_lookup; refine wpList_lookup' (o := ⟨some 25, .lookup 76 (.tmp 23) (.tmp 24) false, _, _, _, _⟩) rfl 76 9 51 (.tmp 23) (.tmp 24) false rfl bm c.e.key rfl rfl Try.underlying76 Try.underlying9 celZ celZ_zero (assoc T.L) (by repeat (first | with_reducible refine MapAt.more ?_ _ | with_reducible refine MapAt.alloc ?_ _ | with_reducible refine MapAt.drew ?_ | with_reducible refine MapAt.drewN ?_ _ | with_reducible assumption | refine MapAt.setCell ?_ (by first | assumption | (simp only []; omega)) _)) _ Hget.out ?_)
        | (go_at_call 36; refine (copy_any _ _ _ _ _ _ _ _ (off bt bm bk) (Hval.out.below (Kept.to_below (S := fun _ => False) (by repeat (first | with_reducible refine Kept.more ?_ _ | with_reducible refine Kept.alloc ?_ _ | with_reducible refine Kept.drew ?_ | with_reducible refine Kept.drewN ?_ _ | exact Kept.refl _ _)) (fun _ h => h.elim)))).mono ?_; rintro e4 w4 ⟨A', c', rfl, hb4, hB4⟩; obtain ⟨x4, rfl⟩ := later_of_below hB4; clear hB4)
        | (at_builtin
           refine wpList_append_row (o := ⟨some 33, .call { callee := .builtin .append, args := #[.tmp 30, .tmp 32], argTypes := #[48, 48] }, _, _, _, _⟩) rfl (.tmp 30) (.tmp 32) 48 rfl wc.heap.size 51 i0 celZ 9 88 Try.underlying48 Hi.out.1 Hi.out.2.1 Hi.out.2.2.1 Hi.out.2.2.2 rfl (by omega) u3 j (flatC cs) rfl (owns_below HL.out.own (Kept.to_below (S := fun _ => False) (by repeat (first | with_reducible refine Kept.more ?_ _ | with_reducible refine Kept.alloc ?_ _ | with_reducible refine Kept.drew ?_ | with_reducible refine Kept.drewN ?_ _ | exact Kept.refl _ _)) (fun _ h => h.elim))) (fun _ => True) (some ⟨wr.heap.size + 1 + x4.1.size, 0, none⟩) 1 1 (fun jj => (celCells { c with sv := .slice A' c.e.b.length c' }).getD jj undef) rfl ?c1 ?c2 (by simp only [maxLen]; omega) (by omega) ?c3 ?_
           case c1 =>
             intro _
             refine ⟨_, 0, rfl, trivial, fun jj hjj => ?_⟩
             have hq := (Blk.of_alloc (more (wr.alloc (.cells #[.string c.e.key, .int .i64 c.e.seq, .int .i64 c.e.who, .int .i64 c.e.op, .bool c.e.has, .slice A' c.e.b.length c', .bool c.whole, .bool c.clean, .int .i64 c.used] 51)) x4) #[.string c.e.key, .int .i64 c.e.seq, .int .i64 c.e.who, .int .i64 c.e.op, .bool c.e.has, .slice A' c.e.b.length c', .bool c.whole, .bool c.clean, .int .i64 c.used] 51).cell (0 + jj)
             simp only [more_size, alloc_size, Nat.zero_add] at hq ⊢
             rw [hq]
             match jj, hjj with
             | 0, _ => rfl | 1, _ => rfl | 2, _ => rfl | 3, _ => rfl | 4, _ => rfl | 5, _ => rfl | 6, _ => rfl | 7, _ => rfl | 8, _ => rfl
           case c2 =>
             intro jj hjj
             match jj, hjj with
             | 0, _ => rfl | 1, _ => rfl | 2, _ => rfl | 3, _ => rfl | 4, _ => rfl | 5, _ => rfl | 6, _ => rfl | 7, _ => rfl | 8, _ => rfl
           case c3 => have := HL.out.below.size; simp only [more_size, alloc_size]; omega
           intro v5 w5 hown5 hg5 hat5))
      rw [celCells_row] at hown5
      have hb5 := ((hb4.kept (w' := more (wr.alloc (.cells #[.string c.e.key, .int .i64 c.e.seq, .int .i64 c.e.who, .int .i64 c.e.op, .bool c.e.has, .slice A' c.e.b.length c', .bool c.whole, .bool c.clean, .int .i64 c.used] 51)) x4) (fun b hN _ => more_new (by simp only [alloc_size]) hN)).alloc (.cells #[.string c.e.key, .int .i64 c.e.seq, .int .i64 c.e.who, .int .i64 c.e.op, .bool c.e.has, .slice A' c.e.b.length c', .bool c.whole, .bool c.clean, .int .i64 c.used] 51)).mono (N' := fun b => wr.heap.size ≤ b) (fun b hb => by simp only [alloc_size] at hb; omega)
      have HL5 := Lib.hid (CLoop.step (c := { c with sv := .slice A' c.e.b.length c' }) HL.out (Kept.to_below (S := fun _ => False) (by repeat (first | with_reducible refine Kept.more ?_ _ | with_reducible refine Kept.alloc ?_ _ | with_reducible refine Kept.drew ?_ | with_reducible refine Kept.drewN ?_ _ | exact Kept.refl _ _)) (fun _ h => h.elim)) hb5 hown5 hg5 hat5)
      have HE5 := Lib.hid (show (cs ++ [{ c with sv := .slice A' c.e.b.length c' }]).map bare = ((shown T.L).take (j + 1)).map bare by
        obtain ⟨hsl, hse⟩ := List.getElem?_eq_some_iff.1 Hsh.out
        rw [List.take_succ_eq_append_getElem hsl, hse, List.map_append, List.map_append, HE.out]
        rfl)
      clear hb4 hb5 hown5 hg5 hat5
      go_roundg (T.L.length - (j + 1))
      case measure => omega
      case rel => exact ⟨j + 1, _, by omega, rfl, by go_num, HL5, HE5⟩
    · have hjn : j = T.L.length := by omega
      subst hjn
      clear c4' Hk
      go_wp2
      go_ret
      refine ⟨_, cs, rfl, ?_, ?_, ?_⟩
      · obtain ⟨A9, c9, h1, h2, h3, h4⟩ := HL.out.done (by omega)
        have hs9 := HB.out.size
        exact ⟨A9, c9, h1, h2.mono (fun b hb => by omega), fun d hd => (h3 d hd).mono (fun b hb => by omega), h4⟩
      · rw [HE.out, List.take_of_length_le (by rw [shown_at.1]; exact Nat.le_refl _)]
      · exact HB.out.trans (HL.out.below.mono HB.out.size)
end Go.Proofs.Ytibolfdgbbaclaa

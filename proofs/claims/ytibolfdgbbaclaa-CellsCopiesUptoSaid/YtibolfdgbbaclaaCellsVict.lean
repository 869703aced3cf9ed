/-
  What is proved: the contract of the method victims of a table of cells.
  Conditions: bounds under which nothing wraps.
-/
import Derived.Test.YtibolfdgbbaclaaVict
import Derived.Deep.DeepCutAuto
import Derived.Maps.RangeWalk
open Go Go.RowKit Go.Ice
namespace Go.Proofs.Ytibolfdgbbaclaa
set_option maxRecDepth 100000
set_option linter.unusedVariables false
set_option linter.unusedSimpArgs false
attribute [local go_sem] gives givesUpon later_self more_cell more_frozen more_block more_more more_drew more_setCell more_of_drew more_of_drewN more_size lt_plus lt_plus2 lt_plus3 lt_plus4 Instr.field part asAgg List.extract_toArray List.extract_eq_take_drop
theorem wrapI {x : Int} (h1 : -9223372036854775808 ≤ x) (h2 : x ≤ 9223372036854775807) : IntKind.i64.wrap x = x := by rw [IntKind.wrap_i64]; omega
theorem str_info : (Try.prog.info? 9).map (fun i => (i.zero, i.size, i.bytes)) = some (some (.string ⟨#[]⟩), 1, 16) := by kernel_rfl
theorem owns_below {w w' : World} {base n size : Nat} {e : TypeId} {v : Value} {xs : List Value} (h : w.ownsRow base e size v n xs) (hb : Below w.heap.size w w') : w'.ownsRow base e size v n xs := by
  refine ⟨h.1, ?_⟩
  rcases h.2 with hn | ⟨g, cap, cur, h1, h2, h3, h4⟩
  · exact .inl hn
  · exact .inr ⟨g, cap, cur, h1, h2, (hb.block g (Array.getElem?_eq_some_iff.1 h3).1).trans h3, h4⟩
theorem owns_block {w : World} {base n size : Nat} {e : TypeId} {v : Value} {xs : List Value} (h : w.ownsRow base e size v n xs) : ∀ k, v.ownBlock = some k → base ≤ k := by
  intro k hk
  rcases h.2 with ⟨rfl, _⟩ | ⟨g, cap, cur, rfl, h2, _⟩
  · cases hk
  · cases hk; exact h2
theorem assoc_len (L : List Cel) : (assoc L).length = L.length := by simp [assoc]
theorem keys_nodup {w : World} {bt bm bk : Nat} {T : Tab} (h : IsTab w bt bm bk T) : (T.L.map (·.e.key)).Nodup := by
  have := h.cells.nodup
  simpa [assoc, List.map_map, Function.comp_def, ckv] using this
set_option maxHeartbeats 2000000 in
theorem victims_any {w : World} {bt bm bk : Nat} {T : Tab} (h : IsTab w bt bm bk T) (hd : Bd T) (hn : T.L.length ≤ 8192) (h0 : ∀ d ∈ T.L, 1 ≤ d.used) (hdist : ∀ c ∈ T.L, ∀ d ∈ T.L, c.used = d.used → c = d) (hc0 : T.room.cells ≤ 1048576)
    (e : Ent) (A : Option Addr) (cc : Nat) (hek : e.key.size ≤ 140737488351232) (heb : e.b.length ≤ 140737488351232) :
    Calls Try.prog 62 #[.pointer (some ⟨bt, 0, none⟩), entV e (.slice A e.b.length cc)] w fun en w' => ∃ v, en = .returned (.tuple #[v, .bool (victims T e).2]) ∧ Rows w' (fun b => w.heap.size ≤ b) v (strV (victims T e).1) ∧ Below w.heap.size w w' := by
  obtain ⟨cap, tc, hT, hTk, htc, hcell, hfro, hfrk, hcelk⟩ := h.open_
  have c0 : w.cell? ⟨bt, 0, none⟩ = some (.int .i64 T.room.cells) := hcell 0
  have c1 : w.cell? ⟨bt, 1, none⟩ = some (.int .i64 T.room.bytes) := hcell 1
  have c4 : w.cell? ⟨bt, 4, none⟩ = some (.map (some bm)) := hcell 4
  have c7 : w.cell? ⟨bt, 7, none⟩ = some (.int .i64 T.bytes) := hcell 7
  have hbt := h.lt.1
  have hbml := h.lt.2.1
  have hbm : bm ≠ bt := fun e => h.tm e.symm
  have hM := h.cells
  have H0 := Lib.hid h
  have HD := Lib.hid hd
  have Hn := Lib.hid hn
  have hnl : (T.L.length : Int) ≤ 8192 := by omega
  have hsz0 : 0 ≤ (e.key.size : Int) + e.b.length := by omega
  have hsz1 : (e.key.size : Int) + e.b.length ≤ 281474976702464 := by omega
  have Hu := Lib.hid h0
  have Hdist := Lib.hid hdist
  have hy0 := hd.bytes0
  have hy1 := hd.bytes1
  have hlk : ∃ v0, lookV true celZ (aget (assoc T.L) e.key) = .tuple #[v0, .bool (cfind T.L e.key).isSome] ∧ ∃ (k0 : ByteArray) (x0 y0 z0 : Int) (h0 : Bool) (a0 : Option Addr) (n0 c0 : Nat) (w0 l0 : Bool) (u0 : Int),
      v0 = .agg #[.string k0, .int .i64 x0, .int .i64 y0, .int .i64 z0, .bool h0, .slice a0 n0 c0, .bool w0, .bool l0, .int .i64 u0] ∧ k0.size ≤ 140737488351232 ∧ n0 ≤ 140737488351232 ∧ ((k0.size : Int) + n0 = csize (cfind T.L e.key)) := by
    rw [aget_assoc]
    cases hf : cfind T.L e.key with
    | none => exact ⟨_, rfl, _, _, _, _, _, _, _, _, _, _, _, rfl, by show 0 ≤ _; omega, by omega, rfl⟩
    | some d =>
      obtain ⟨hdm, hdk⟩ := cfind_some hf
      obtain ⟨A', cc', hsv', _, hl'⟩ := h.vals d hdm
      refine ⟨_, rfl, d.e.key, d.e.seq, d.e.who, d.e.op, d.e.has, A', d.e.b.length, cc', d.whole, d.clean, d.used, ?_, (hd.size d hdm).1, (hd.size d hdm).2, by simp [csize, esize]⟩
      simp [celV, hsv']
  obtain ⟨v0, hv0, k0, x0, y0, z0, hb0, a0, n0, cc0, w0, l0, u0, hve, hk0, hn0, hcs⟩ := hlk
  subst hve
  have hcsb := csize_bd hd e.key
  rw [← hcs] at hcsb
  have Hv0 := Lib.hid hv0
  have Hcs := Lib.hid hcs
  unfold entV
  have hszb := csize_bd hd
  clear hv0 hcs hcell hfro hfrk hcelk h hT hTk htc hd hn h0 hdist hszb
  generalize hhs : (cfind T.L e.key).isSome = hs at Hv0
  have Hhs := Lib.hid hhs
  clear hhs
  generalize hres : victims T e = R
  have Hres := Lib.hid hres
  clear hres
  go_enter Try.func62, Try.ntmps62
  go_wp2
  go_step3
  go_wp2
  refine wp_region_mix_lit [(0,false),(1,false),(2,false),(3,false),(4,false),(5,false),(6,false),(7,false),(8,false),(9,false),(10,true),(11,true),(12,false)] (by kernel_rfl) (by kernel_rfl) ?_
  iterate 6 (refine mix_step rfl (fun K hK => ?_); go_simp; refine hK _ ?_; clear hK K)
  refine mix_lookup rfl rfl 76 9 51 (.tmp 20) (.tmp 22) true rfl bm e.key rfl rfl Try.underlying76 Try.underlying9 celZ celZ_zero (assoc T.L) (by repeat (first | with_reducible refine MapAt.more ?_ _ | with_reducible refine MapAt.alloc ?_ _ | with_reducible refine MapAt.drew ?_ | with_reducible refine MapAt.drewN ?_ _ | with_reducible assumption | refine MapAt.setCell ?_ (by first | assumption | (simp only []; omega)) _)) _ Hv0.out ?_
  iterate 3 (refine mix_step rfl (fun K hK => ?_); go_simp; refine hK _ ?_; clear hK K)
  refine mix_grow rfl rfl (fun e3 K hK => ?_)
  go_wp2_with fail
  refine hK _ _ ((Below.refl _ _).alloc (Nat.le_refl _) _) ?_
  clear hK K
  refine mix_loud rfl rfl (by kernel_rfl) (fun e5 K hK => ?_)
  go_wp2_with fail
  iterate 1 (refine mix_step rfl (fun K hK => ?_); go_simp; refine hK _ ?_; clear hK K)
  refine mix_done (fun e6 => ?_)
  go_wp2
  refine wp_region_mix_lit [(0,false),(1,false),(2,false),(3,false),(4,false),(5,false),(6,false),(7,false),(8,false),(9,false),(10,false),(11,false),(12,false),(13,false),(14,false)] (by kernel_rfl) (by kernel_rfl) ?_
  iterate 4 (refine mix_step rfl (fun K hK => ?_); go_simp; refine hK _ ?_; clear hK K)
  refine mix_len rfl rfl 76 9 51 (.tmp 29) rfl bm rfl Try.underlying76 (assoc T.L) (by repeat (first | with_reducible refine MapAt.more ?_ _ | with_reducible refine MapAt.alloc ?_ _ | with_reducible refine MapAt.drew ?_ | with_reducible refine MapAt.drewN ?_ _ | with_reducible assumption | refine MapAt.setCell ?_ (by first | assumption | (simp only []; omega)) _)) T.L.length (assoc_len T.L) ?_
  iterate 6 (refine mix_step rfl (fun K hK => ?_); go_simp; refine hK _ ?_; clear hK K)
  (refine mix_step rfl (fun K hK => ?_); go_simp; refine Exists.intro _ ⟨fun _ _ => call_gives (size_any _ _ _ _ _ _ _ _ _ hek heb), hK _ ?_⟩; clear hK K)
  iterate 3 (refine mix_step rfl (fun K hK => ?_); go_simp; refine hK _ ?_; clear hK K)
  refine mix_done (fun e7 => ?_)
  go_upto_if 39 with fail
  go_cut [8, 9] (fun nv bv wr => ∃ (n b : Int), nv = .int .i64 n ∧ bv = .int .i64 b ∧ Hid (vict T e.key (left_ T.L e.key [] + 1) [] n b = R) ∧ (-8192 ≤ n ∧ n ≤ 8193) ∧ (-2305843009213693952 - 281474976702464 ≤ b ∧ b ≤ 2305843009213693952 + 281474976702464) ∧
    Below w.heap.size w wr ∧ wr.cell? ⟨w.heap.size, 0, none⟩ = some (.string e.key) ∧ w.heap.size + 1 ≤ wr.heap.size)
  case first =>
    have hvr := Hres.out
    unfold victims at hvr
    rw [Hhs.out] at hvr
    have hcz : (cfind T.L e.key).isSome = false → csize (cfind T.L e.key) = 0 := by
      intro hh
      cases hf : cfind T.L e.key with
      | none => rfl
      | some c => rw [hf] at hh; cases hh
    have Hvr := Lib.hid hvr
    have Hcz := Lib.hid hcz
    clear hvr hcz
    cases hs
    · go_wp2
      go_meet
      refine ⟨(T.L.length : Int) + 1, T.bytes + ((e.key.size : Int) + e.b.length), by first | go_num | rw [wrapI (by omega) (by omega)], by first | go_num | rw [wrapI (by omega) (by omega)], ?v, by omega, by omega, ?_, ?_, ?_⟩
      case v => have hvr := Hvr.out; rw [Hcz.out Hhs.out] at hvr; exact Lib.hid (by simpa [esize, Int.sub_zero] using hvr)
      · exact (Kept.to_below (S := fun _ => False) (by repeat (first | with_reducible refine Kept.more ?_ _ | with_reducible refine Kept.alloc ?_ _ | with_reducible refine Kept.drew ?_ | with_reducible refine Kept.drewN ?_ _ | exact Kept.refl _ _)) (fun _ h => h.elim))
      · simp [more_cell, more_frozen, lt_plus, lt_plus2, lt_plus3, lt_plus4, go_sem]
      · simp [more_size, go_sem]; omega
    · go_wp2
      go_meet
      refine ⟨(T.L.length : Int), T.bytes + ((e.key.size : Int) + e.b.length) - ((k0.size : Int) + n0), by first | go_num | rw [wrapI (by omega) (by omega)], by first | go_num | rw [wrapI (by omega) (by omega)], ?v, by omega, by omega, ?_, ?_, ?_⟩
      case v => have hvr := Hvr.out; rw [← Hcs.out] at hvr; exact Lib.hid (by simpa [esize] using hvr)
      · exact (Kept.to_below (S := fun _ => False) (by repeat (first | with_reducible refine Kept.more ?_ _ | with_reducible refine Kept.alloc ?_ _ | with_reducible refine Kept.drew ?_ | with_reducible refine Kept.drewN ?_ _ | exact Kept.refl _ _)) (fun _ h => h.elim))
      · simp [more_cell, more_frozen, lt_plus, lt_plus2, lt_plus3, lt_plus4, go_sem]
      · simp [more_size, go_sem]; omega
  case rest =>
  obtain ⟨n0', b0', rfl, rfl, Hv0', hnb0, hbb0, hB0, hcE0, hsz0'⟩ := hcut
  clear Hres Hv0 Hcs Hhs hcsb
  go_wp2
  go_step3
  go_wp2
  go_loopg [8, 9, 10, 11] (left_ T.L e.key [] + 1) (fun k nv bv ov okv wr => ∃ (n b : Int) (out : List ByteArray), nv = .int .i64 n ∧ bv = .int .i64 b ∧ okv = .bool true ∧
    wr.ownsRow (w.heap.size + 1) 9 1 ov out.length (strV out) ∧ left_ T.L e.key out < k ∧ Hid (vict T e.key k out n b = R) ∧ out.length + left_ T.L e.key out ≤ T.L.length ∧
    (-8192 ≤ n + out.length ∧ n ≤ 8193) ∧ (-2305843009213693952 - 281474976702464 ≤ b + 281474976702464 * (out.length : Int) ∧ b ≤ 2305843009213693952 + 281474976702464) ∧
    Below w.heap.size w wr ∧ wr.cell? ⟨w.heap.size, 0, none⟩ = some (.string e.key) ∧ w.heap.size + 1 ≤ wr.heap.size)
  case atStart =>
    have hll : left_ T.L e.key [] ≤ T.L.length := List.length_filter_le _ _
    exact ⟨n0', b0', [], rfl, rfl, rfl, World.ownsRow_nil _ _ _ _, by omega, Hv0', by simpa using hll, by simpa using hnb0, by simpa using hbb0, hB0, hcE0, hsz0'⟩
  case round =>
    obtain ⟨n, b, out, rfl, rfl, rfl, hown, hlk, Hv, hol, hnb, hbb, hB, hcE, hsz⟩ := hrel
    obtain ⟨k', rfl⟩ : ∃ k', gk = k' + 1 := ⟨gk - 1, by omega⟩
    have d0 : wr.cell? ⟨bt, 0, none⟩ = some (.int .i64 T.room.cells) := (hB.cell (p := ⟨bt, 0, none⟩) hbt).trans c0
    have d1 : wr.cell? ⟨bt, 1, none⟩ = some (.int .i64 T.room.bytes) := (hB.cell (p := ⟨bt, 1, none⟩) hbt).trans c1
    have d4 : wr.cell? ⟨bt, 4, none⟩ = some (.map (some bm)) := (hB.cell (p := ⟨bt, 4, none⟩) hbt).trans c4
    have hMr : MapAt wr bm (assoc T.L) := hM.of_block (hB.block bm hbml)
    have hbtr : bt < wr.heap.size := Nat.lt_of_lt_of_le hbt hB.size
    clear c0 c1 c4 c7 hM
    go_upto_region 7 with fail
    go_cut [62] (fun v wx => v = .bool (decide (T.room.cells < n ∨ T.room.bytes < b)) ∧ wr = wx)
    case first =>
      clear hown hol hMr
      by_cases hf1 : T.room.cells < n
      · go_wp2
        go_meet
        exact ⟨by simp [hf1], rfl⟩
      · by_cases hf2 : T.room.bytes < b
        · go_wp2
          go_meet
          exact ⟨by simp [hf2], rfl⟩
        · go_wp2
          go_meet
          exact ⟨by simp [hf1, hf2], rfl⟩
    case rest =>
    obtain ⟨rfl, rfl⟩ := hcut
    by_cases hfit : T.room.cells < n ∨ T.room.bytes < b
    rotate_left
    · have hdf : decide (T.room.cells < n ∨ T.room.bytes < b) = false := by simpa using hfit
      have hR := vict_fits (T := T) (ek := e.key) (f := k') (out := out) (fun h => hfit (.inl h)) (fun h => hfit (.inr h))
      rw [Hv.out] at hR
      have HR := Lib.hid hR
      have Hown := Lib.hid hown
      clear hR hfit Hv hown
      rw [hdf]
      clear hdf
      go_wp2
      try rw [Exit.noGoto_ret]
      refine bodyPost_ret (v := .tuple #[u10, .bool true]) (by simp [results, Try.results62, go_sem]) rfl ⟨u10, ?_, ?_, hB⟩
      · rw [HR.out]
      · rw [HR.out]
        exact rows_of_own Hown.out (fun b hb => by omega) (by rw [strV_len]; show out.length ≤ _; have := Hn.out; omega)
    · have hdf : decide (T.room.cells < n ∨ T.room.bytes < b) = true := by simpa using hfit
      rw [hdf]
      have Hfit := Lib.hid hfit
      have Hown := Lib.hid hown
      clear hdf hfit hown
      go_wp2_with (at_range; refine wpList_range' rfl 76 9 51 (.tmp 66) rfl bm rfl Try.underlying76 (assoc T.L) hMr (fun w1 hR1 hB1 hs1 => ?_))
      go_frame
      obtain ⟨W1, hW1⟩ : ∃ W1 : World, W1 = wr := ⟨wr, rfl⟩
      subst hW1
      go_loopg [12, 13] (leftL (assoc T.L) [] + 1) (fun k wkv lsv wi => ∃ (seen : List ByteArray) (wk : ByteArray) (ls : Int), wkv = .string wk ∧ lsv = .int .i64 ls ∧ Rng wi W1.heap.size bm (assoc T.L) seen ∧ Hid (Wst T.L e.key out seen wk ls) ∧
        leftL (assoc T.L) seen < k ∧ Below W1.heap.size W1 wi ∧ W1.heap.size + 1 ≤ wi.heap.size)
      case atStart => exact ⟨[], _, 0, rfl, rfl, hR1, wst_nil _ _ _, by omega, hB1, by omega⟩
      case round =>
        obtain ⟨seen, wk, ls, rfl, rfl, hRi, HW, hlf, hBi, hszi⟩ := hrel
        clear hMr hR1 hB1 hs1
        go_wp2_with (at_next; refine wpList_next' rfl (.tmp 67) rfl W1.heap.size bm rfl (assoc T.L) seen hRi ?_ ?_)
        · intro hall
          have hdn := wst_done HW.out (fun c hc => hall c.e.key (celV c) (List.mem_map.2 ⟨c, hc, rfl⟩)) Hu.out Hdist.out
          have hBw : Below w.heap.size w wr := hB.trans (hBi.mono hB.size)
          have hcEw : wr.cell? ⟨w.heap.size, 0, none⟩ = some (.string e.key) := (hBi.cell (p := ⟨w.heap.size, 0, none⟩) hsz).trans hcE
          have q4 : wr.cell? ⟨bt, 4, none⟩ = some (.map (some bm)) := (hBi.cell (p := ⟨bt, 4, none⟩) hbtr).trans d4
          have hMw := hRi.mapAt
          have Hownw := Lib.hid (owns_below Hown.out hBi)
          have hbtw : bt < wr.heap.size := Nat.lt_of_lt_of_le hbtr hBi.size
          have hbmw : bm < wr.heap.size := hMw.lt
          have hsw : w.heap.size < wr.heap.size := by have := hBi.size; omega
          clear hB hcE d4 hRi hBi d0 d1 hall hB0 hcE0
          rcases hdn with ⟨rfl, hw⟩ | ⟨c, hw, rfl, rfl, hcL, h1⟩
          · have hR := vict_none (f := k') (n := n) (b := b) Hfit.out hw
            rw [Hv.out] at hR
            have HR := Lib.hid hR
            clear hR hw
            go_wp2
            try rw [Exit.noGoto_ret]
            refine bodyPost_ret (v := .tuple #[u10, .bool false]) (by simp [results, Try.results62, go_sem]) rfl ⟨u10, ?_, ?_, hBw⟩
            · rw [HR.out]
            · rw [HR.out]
              exact rows_of_own Hownw.out (fun b hb => by omega) (by rw [strV_len]; show out.length ≤ _; have := Hn.out; omega)
          · have hR := vict_some (f := k') (n := n) (b := b) Hfit.out hw
            rw [Hv.out] at hR
            have HR := Lib.hid hR
            have Hll := Lib.hid (left_lt hw)
            have hu0 : (c.used == 0) = false := by simp; omega
            have Hw := Lib.hid hw
            have HcL := Lib.hid hcL
            clear hR hw hcL h1
            have Hnn := Lib.hid Hn.out
            obtain ⟨i0, hi, hz0, hz1, hz2⟩ := info_parts str_info
            have Hi := Lib.hid (And.intro hi (And.intro hz0 (And.intro hz1 hz2)))
            clear hi hz0 hz1 hz2
            go_upto_region 17 with (
              at_builtin
              refine wpList_append_row (o := ⟨some 105, .call { callee := .builtin .append, args := #[.tmp 102, .tmp 104], argTypes := #[87, 87] }, _, _, _, _⟩) rfl (.tmp 102) (.tmp 104) 87 rfl (w.heap.size + 1) 9 i0 (.string ⟨#[]⟩) 1 16 Try.underlying87 Hi.out.1 Hi.out.2.1 Hi.out.2.2.1 Hi.out.2.2.2 rfl (by omega) u10 out.length (strV out) rfl (owns_below Hownw.out ((Below.refl _ _).alloc (Nat.le_refl _) _)) (fun b => b = wr.heap.size) (some ⟨wr.heap.size, 0, none⟩) 1 1 (fun _ => .string c.e.key) rfl ?c1 (fun _ _ => rfl) (by have := Hnn.out; simp only [maxLen]; omega) (by have := Hnn.out; omega) (by rw [alloc_size]; omega) ?_
              case c1 =>
                intro _
                refine ⟨wr.heap.size, 0, rfl, rfl, fun j hj => ?_⟩
                obtain rfl : j = 0 := by omega
                exact (Blk.of_alloc wr _ _).cell 0
              intro v5 w5 hown5 hg5 hat5
              have hown6 : w5.ownsRow (w.heap.size + 1) 9 1 v5 (out ++ [c.e.key]).length (strV (out ++ [c.e.key])) := by
                have e1 : strV (out ++ [c.e.key]) = strV out ++ List.map (fun x => Value.string c.e.key) (List.range (1 * 1)) := by simp [strV]
                rw [e1, List.length_append]
                exact hown5
              have K5 : Kept (fun b => w.heap.size + 1 ≤ b) wr w5 := ((Kept.refl _ wr).alloc _).grown hg5 (fun k hk => .inl (owns_block Hownw.out k hk))
              have hB5 : Below w.heap.size w w5 := hBw.trans (K5.to_below' hBw.size (fun b hb => by omega))
              have hcE5 : w5.cell? ⟨w.heap.size, 0, none⟩ = some (.string e.key) := (World.cell?_of_block (a := ⟨w.heap.size, 0, none⟩) (K5.block w.heap.size hsw (by omega))).trans hcEw
              have q45 : w5.cell? ⟨bt, 4, none⟩ = some (.map (some bm)) := (World.cell?_of_block (a := ⟨bt, 4, none⟩) (K5.block bt hbtw (by omega))).trans q4
              have hM5 : MapAt w5 bm (assoc T.L) := hMw.kept K5 (by omega)
              have hs5 : w.heap.size + 1 ≤ w5.heap.size := by have := K5.size; omega
              have hbt5 : bt < w5.heap.size := by omega
              have Hown6 := Lib.hid hown6
              clear hown5 hown6 hg5 hat5 K5)
            obtain ⟨As, ccs, hsv, _, _⟩ := H0.out.vals c HcL.out
            have hlk : lookV false celZ (aget (assoc T.L) c.e.key) = celV c := by
              rw [aget_assoc, cfind_self HcL.out (keys_nodup H0.out)]
              rfl
            unfold celV at hlk
            rw [hsv] at hlk
            have Hlk := Lib.hid hlk
            have hcs1 := (HD.out.size c HcL.out).1
            have hcs2 := (HD.out.size c HcL.out).2
            have hcs3 : 0 ≤ (c.e.key.size : Int) + c.e.b.length := by omega
            have hcs4 : (c.e.key.size : Int) + c.e.b.length ≤ 281474976702464 := by omega
            have hol2 : out.length ≤ 8192 := by have := Hnn.out; omega
            clear hlk hsv hcEw q4 hMw
            go_wp2_with (first
              | (at_lookup; refine wpList_lookup' (o := ⟨some 114, .lookup 76 (.tmp 112) (.tmp 113) false, _, _, _, _⟩) rfl 76 9 51 (.tmp 112) (.tmp 113) false rfl bm c.e.key rfl rfl Try.underlying76 Try.underlying9 celZ celZ_zero (assoc T.L) hM5 _ Hlk.out ?_)
              | (go_at_call 55; refine (size_any _ _ _ _ _ _ _ _ _ hcs1 hcs2).mono ?_; rintro x7_e x7_w ⟨rfl, x7_B⟩; obtain ⟨x7, rfl⟩ := later_of_below x7_B; clear x7_B))
            go_roundg k'
            case measure => omega
            case rel =>
              have hll := Hll.out
              have hlen : (out ++ [c.e.key]).length = out.length + 1 := by simp
              refine ⟨n - 1, b - ((c.e.key.size : Int) + c.e.b.length), out ++ [c.e.key], by first | go_num | rw [wrapI (by omega) (by omega)], by first | go_num | rw [wrapI (by omega) (by omega)], rfl, owns_below Hown6.out (by first | exact (Below.refl _ _) | exact (Kept.to_below (S := fun _ => False) (by repeat (first | with_reducible refine Kept.more ?_ _ | with_reducible refine Kept.alloc ?_ _ | with_reducible refine Kept.drew ?_ | with_reducible refine Kept.drewN ?_ _ | exact Kept.refl _ _)) (fun _ h => h.elim))), by omega, Lib.hid ?_, by omega, by omega, by omega, hB5.trans (by first | exact (Kept.to_below' (S := fun _ => False) (by repeat (first | with_reducible refine Kept.more ?_ _ | with_reducible refine Kept.alloc ?_ _ | with_reducible refine Kept.drew ?_ | exact Kept.refl _ _)) hB5.size (fun _ h => h.elim))), ?_, ?_⟩
              · rw [HR.out]; rfl
              · exact (more_cell w5 x7 w.heap.size 0 (by omega)).trans hcE5
              · rw [more_size]; omega
        · intro kk vv w2 hkv hks hR2 hK2 hs2 hen
          obtain ⟨c, hcL, hckv⟩ := List.mem_map.1 hkv
          obtain ⟨rfl, rfl⟩ : c.e.key = kk ∧ celV c = vv := by
            unfold ckv at hckv
            simpa using hckv
          obtain ⟨As, ccs, hsv, _, _⟩ := H0.out.vals c hcL
          have HcL := Lib.hid hcL
          have Hlt := Lib.hid (leftL_lt hkv hks)
          unfold celV at hen
          rw [hsv] at hen
          unfold celV
          rw [hsv]
          have hB2 : Below W1.heap.size W1 w2 := hBi.trans (hK2.to_below' hBi.size (fun b hb => by subst hb; exact Nat.le_refl _))
          have r0 : w2.cell? ⟨w.heap.size, 0, none⟩ = some (.string e.key) := (hB2.cell (p := ⟨w.heap.size, 0, none⟩) hsz).trans hcE
          have hwl : w.heap.size < w2.heap.size := by have := hB2.size; omega
          have r0a : ∀ o, (w2.alloc o).cell? ⟨w.heap.size, 0, none⟩ = some (.string e.key) := fun o => (World.cell?_of_block (a := ⟨w.heap.size, 0, none⟩) (Below.heap_alloc w2 o w.heap.size hwl)).trans r0
          have HR2 := Lib.hid hR2
          clear r0
          clear hckv hkv hks hK2 hsv hcL hBi hR2 hRi d0 d1
          go_upto_region 12 with (refine wpList_entry' rfl (.tmp 67) rfl W1.heap.size rfl c.e.key _ hen ?_)
          have hrows : Rows (w2.alloc (.cells #[.string c.e.key, .int .i64 c.e.seq, .int .i64 c.e.who, .int .i64 c.e.op, .bool c.e.has, .slice As c.e.b.length ccs, .bool c.whole, .bool c.clean, .int .i64 c.used] 51)) (fun b => w.heap.size ≤ b) u10 (strV out) :=
            rows_below (rows_below (rows_of_own Hown.out (fun b hb => by omega) (by rw [strV_len]; have := Hn.out; omega)) hB2) ((Below.refl _ _).alloc (Nat.le_refl _) _)
          have Hcon := Lib.hid (contains_any (fun b => w.heap.size ≤ b) u10 out c.e.key _ hrows)
          clear hrows hen
          go_cut [96] (fun v wx => v = .bool (cand e.key out c && (decide (ls = 0) || decide (c.used < ls))) ∧ (w2.alloc (.cells #[.string c.e.key, .int .i64 c.e.seq, .int .i64 c.e.who, .int .i64 c.e.op, .bool c.e.has, .slice As c.e.b.length ccs, .bool c.whole, .bool c.clean, .int .i64 c.used] 51)) = wx)
          case first =>
            clear hB2 hB hcE d4 hB0 hcE0 hbb hbb0 hnb hnb0
            cases hcl : c.clean
            · go_wp2
              go_meet
              exact ⟨by simp [cand, hcl], by rw [hcl]⟩
            · by_cases hke : c.e.key = e.key
              · have hkb : (c.e.key.toList == e.key.toList) = true := (Lib.bytes_beq_iff _ _).2 hke
                have Hke := Lib.hid hke
                clear hke
                go_wp2
                go_meet
                exact ⟨by simp [cand, hcl, Hke.out], by rw [hcl]⟩
              · have hkb : (c.e.key.toList == e.key.toList) = false := (Lib.bytes_beq_false_iff _ _).2 hke
                have Hke := Lib.hid hke
                clear hke
                by_cases hl0 : ls = 0
                · have hlb : (ls == 0) = true := by simpa using hl0
                  subst hl0
                  go_wp2_with (go_at_call 76; refine (by rw [hcl] at Hcon; exact Hcon.out : Calls _ _ _ _ _).mono ?_; rintro e9 w9 ⟨rfl, rfl⟩)
                  go_meet
                  exact ⟨by simp [cand, hcl, Hke.out], by rw [hcl]⟩
                · have hlb : (ls == 0) = false := by simpa using hl0
                  by_cases hlu : c.used < ls
                  · go_wp2_with (go_at_call 76; refine (by rw [hcl] at Hcon; exact Hcon.out : Calls _ _ _ _ _).mono ?_; rintro e9 w9 ⟨rfl, rfl⟩)
                    go_meet
                    exact ⟨by simp [cand, hcl, Hke.out, hlu], by rw [hcl]⟩
                  · go_wp2
                    go_meet
                    exact ⟨by simp [cand, hcl, Hke.out, hl0, hlu], by rw [hcl]⟩
          case rest =>
          obtain ⟨rfl, rfl⟩ := hcut
          have hnd := keys_nodup H0.out
          have hlt := Hlt.out
          have Hnd := Lib.hid hnd
          clear hnd
          generalize hb96 : (cand e.key out c && (decide (ls = 0) || decide (c.used < ls))) = b96
          have Hb96 := Lib.hid hb96
          clear hb96
          have Hlt2 := Lib.hid hlt
          clear hlt
          cases b96
          · go_wp2
            go_roundg (leftL (assoc T.L) (c.e.key :: seen) + 1)
            case measure => have := Hlt2.out; omega
            case rel =>
              refine ⟨c.e.key :: seen, wk, ls, rfl, rfl, HR2.out.alloc _, Lib.hid (wst_skip HW.out Hnd.out HcL.out fun hc => ?_), by omega, hB2.trans ((Below.refl _ _).alloc hB2.size _), ?_⟩
              · have h96 := Hb96.out
                rw [hc] at h96
                simp at h96
                omega
              · rw [alloc_size]; have := hB2.size; omega
          · go_wp2
            refine wp_region_mix_lit [(0,false),(1,false),(2,false),(3,false),(4,false)] (by kernel_rfl) (by kernel_rfl) ?_
            iterate 5 (refine mix_step rfl (fun K hK => ?_); go_simp; refine hK _ ?_; clear hK K)
            refine mix_done (fun e9 => ?_)
            go_wp2
            go_roundg (leftL (assoc T.L) (c.e.key :: seen) + 1)
            case measure => have := Hlt2.out; omega
            case rel =>
              have h96 := Hb96.out
              simp only [Bool.and_eq_true, Bool.or_eq_true, decide_eq_true_eq] at h96
              refine ⟨c.e.key :: seen, c.e.key, c.used, rfl, rfl, ((HR2.out.alloc _).drew).more _, Lib.hid (wst_take HW.out Hnd.out HcL.out h96.1 h96.2 Hu.out), by omega, hB2.trans ?_, ?_⟩
              · exact Kept.to_below' (S := fun _ => False) (by repeat (first | with_reducible refine Kept.more ?_ _ | with_reducible refine Kept.alloc ?_ _ | with_reducible refine Kept.drew ?_ | exact Kept.refl _ _)) hB2.size (fun _ h => h.elim)
              · rw [more_size]
                show _ ≤ (w2.alloc _).heap.size + _
                rw [alloc_size]; have := hB2.size; omega
end Go.Proofs.Ytibolfdgbbaclaa

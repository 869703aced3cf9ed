/-
  What is proved: the contract of the method Forget of a table of cells.
  Conditions: bounds under which nothing wraps.
-/
import Derived.Test.YtibolfdgbbaclaaCellsTokens
import Derived.Deep.DeepCutAuto
import Derived.Deep.CutBlock
import Derived.Maps.RangeWalk
open Go Go.RowKit Go.Ice
namespace Go.Proofs.Ytibolfdgbbaclaa
set_option maxRecDepth 100000
set_option linter.unusedVariables false
set_option linter.unusedSimpArgs false
attribute [local go_sem] gives givesUpon later_self more_cell more_frozen more_block more_more more_drew more_setCell more_of_drew more_of_drewN more_size lt_plus lt_plus2 lt_plus3 lt_plus4 Instr.field part asAgg List.extract_toArray List.extract_eq_take_drop
def unwhole (c : Cel) : Cel := { c with whole := false }
def forg (L : List Cel) (seen : List ByteArray) : List Cel := L.map fun c => if hasB seen c.e.key then unwhole c else c
def forgotten (T : Tab) : Tab := { T with L := T.L.map unwhole, tok := T.tok.map (· + 1) }
theorem forg_nil (L : List Cel) : forg L [] = L := by simp [forg, hasB]
theorem forg_all {L : List Cel} {seen : List ByteArray} (h : ∀ c ∈ L, c.e.key ∈ seen) : forg L seen = L.map unwhole := by
  unfold forg
  refine List.map_congr_left fun c hc => ?_
  rw [if_pos ((hasB_iff _ _).2 (h c hc))]
theorem forg_key (c : Cel) (seen : List ByteArray) : (if hasB seen c.e.key then unwhole c else c).e.key = c.e.key := by split <;> rfl
theorem forg_mem {L : List Cel} {seen : List ByteArray} {c : Cel} (h : c ∈ forg L seen) (hk : c.e.key ∉ seen) : c ∈ L := by
  obtain ⟨d, hd, rfl⟩ := List.mem_map.1 h
  rw [forg_key] at hk
  have : hasB seen d.e.key = false := by
    cases hh : hasB seen d.e.key
    · rfl
    · exact absurd ((hasB_iff _ _).1 hh) hk
  rw [this]
  exact hd
theorem forg_keys (L : List Cel) (seen : List ByteArray) : (forg L seen).map (·.e.key) = L.map (·.e.key) := by
  unfold forg
  rw [List.map_map]
  exact List.map_congr_left fun c _ => forg_key c seen
theorem forg_step {L : List Cel} {seen : List ByteArray} (hn : (L.map (·.e.key)).Nodup) {c : Cel} (hc : c ∈ L) : cput (forg L seen) (unwhole c) = forg L (c.e.key :: seen) := by
  have hin : c.e.key ∈ (forg L seen).map (·.e.key) := by rw [forg_keys]; exact List.mem_map.2 ⟨c, hc, rfl⟩
  have hs : (cfind (forg L seen) c.e.key).isSome = true := by
    cases hf : cfind (forg L seen) c.e.key with
    | some _ => rfl
    | none =>
      obtain ⟨d, hd, hdk⟩ := List.mem_map.1 hin
      exact absurd hdk (cfind_none.1 hf d hd)
  have hs' : (cfind (forg L seen) (unwhole c).e.key).isSome = true := hs
  unfold cput
  rw [if_pos hs']
  unfold forg
  rw [List.map_map]
  refine List.map_congr_left fun d hd => ?_
  simp only [Function.comp_apply]
  rw [forg_key]
  by_cases hk : d.e.key = c.e.key
  · have hdc : d = c := by
      have h1 := cfind_self hd hn
      rw [hk, cfind_self hc hn] at h1
      cases h1; rfl
    subst hdc
    have h1 : hasB (d.e.key :: seen) d.e.key = true := (hasB_iff _ _).2 List.mem_cons_self
    rw [if_pos h1, if_pos (show d.e.key = (unwhole d).e.key from rfl)]
  · have h1 : hasB (c.e.key :: seen) d.e.key = hasB seen d.e.key := by
      have : ¬ c.e.key = d.e.key := fun e => hk e.symm
      simp [hasB, this]
    rw [if_neg (show ¬ d.e.key = (unwhole c).e.key from hk), h1]
def raised (l : List Int) (i : Nat) : List Int := (l.take i).map (· + 1) ++ l.drop i
theorem raised_zero (l : List Int) : raised l 0 = l := by simp [raised]
theorem raised_all (l : List Int) : raised l l.length = l.map (· + 1) := by simp [raised]
theorem raised_len (l : List Int) (i : Nat) : (raised l i).length = l.length := by simp [raised]; omega
theorem raised_at (l : List Int) (i : Nat) (h : i < l.length) : (raised l i)[i]? = some l[i] := by
  unfold raised
  rw [List.getElem?_append_right (by simp; omega)]
  have : i - ((l.take i).map (· + 1)).length = 0 := by simp; omega
  rw [this, List.getElem?_drop]
  simp [h]
theorem raised_set (l : List Int) (i : Nat) (h : i < l.length) : (raised l i).set i (l[i] + 1) = raised l (i + 1) := by
  unfold raised
  have hl : ((l.take i).map (· + 1)).length = i := by simp; omega
  rw [List.set_append_right (h := by omega), hl, Nat.sub_self, List.take_succ_eq_append_getElem h, List.drop_eq_getElem_cons h]
  simp only [List.set_cons_zero, List.map_append, List.map_cons, List.map_nil, List.append_assoc, List.cons_append, List.nil_append]
theorem isTab_tok {w : World} {bt bm bk : Nat} {T : Tab} (h : IsTab w bt bm bk T) (j : Nat) (hj : j < T.tok.length) (v : Int) : IsTab (w.setCell ⟨bk, j, none⟩ (.int .i64 v)) bt bm bk { T with tok := T.tok.set j v } := by
  obtain ⟨cap, tc, hT, hTk, htc, _⟩ := h.open_
  have hK : Kept (foot bt bm bk) w (w.setCell ⟨bk, j, none⟩ (.int .i64 v)) := by repeat (first | with_reducible refine Kept.more ?_ _ | with_reducible refine Kept.alloc ?_ _ | with_reducible refine Kept.drew ?_ | with_reducible refine Kept.drewN ?_ _ | with_reducible assumption | with_reducible exact Kept.refl _ _ | refine Kept.setCell ?_ (by first | exact Or.inl (Or.inl rfl) | exact Or.inl (Or.inr (Or.inl rfl)) | exact Or.inl (Or.inr (Or.inr rfl)) | (right; simp only []; omega)) _)
  refine isTab_build h hK { T with tok := T.tok.set j v } (hT.far (p := ⟨bk, j, none⟩) (fun e => h.tk e) _) ⟨cap, by simp [tabCells]⟩ (h.cells.setCell (p := ⟨bk, j, none⟩) (fun e => h.bmk e) _) (hTk.set j _) ?_ (fun d hd => .inl hd) (nou_set (blk_nou h hTk) _ _ rfl)
  intro i t hi
  by_cases hij : j = i
  · subst hij
    rw [List.getElem?_set_self hj] at hi
    simp only [Option.some.injEq] at hi
    have hlt : j < tc.size := by
      have := htc j _ (List.getElem?_eq_getElem hj)
      exact (Array.getElem?_eq_some_iff.1 this).1
    simp [hlt, ← hi]
  · rw [List.getElem?_set_ne hij] at hi
    rw [Array.getElem?_setIfInBounds_ne hij]
    exact htc i t hi
set_option maxHeartbeats 1000000 in
theorem forget_any {w : World} {bt bm bk : Nat} {T : Tab} {N : Int} (h : IsTab w bt bm bk T) (hv : Inv T N) (hN : N ≤ 576460752303423488) :
    Calls Try.prog 18 #[.pointer (some ⟨bt, 0, none⟩)] w fun en w' => en = .returned (.tuple #[]) ∧ IsTab w' bt bm bk (forgotten T) ∧ Kept (foot bt bm bk) w w' := by
  obtain ⟨cap, tc, hT, hTk, htc, hcell, hfro, hfrk, hcelk⟩ := h.open_
  have c4 : w.cell? ⟨bt, 4, none⟩ = some (.map (some bm)) := hcell 4
  have l0 := h.lt
  have hbt := l0.1
  have hbml := l0.2.1
  have hbmt := h.tm
  have hM := h.cells
  have hnd := keys_nodup h
  have Hnd := Lib.hid hnd
  have H0 := Lib.hid h
  have Hv := Lib.hid hv
  clear hcell hfro hfrk hcelk hT hTk htc h hv hnd
  go_enter Try.func18, Try.ntmps18
  go_upto_block 0 with (at_range; refine wpList_range' rfl 76 9 51 (.tmp 10) rfl bm rfl Try.underlying76 (assoc T.L) (by repeat (first | with_reducible refine MapAt.more ?_ _ | with_reducible refine MapAt.alloc ?_ _ | with_reducible refine MapAt.drew ?_ | with_reducible refine MapAt.drewN ?_ _ | with_reducible assumption | refine MapAt.setCell ?_ (by first | assumption | (simp only []; omega)) _)) (fun w1 hR1 hB1 hs1 => ?_); go_frame)
  go_cut [] (fun wx => MapAt wx bm (assoc (T.L.map unwhole)) ∧ Kept (fun b => b = bm ∨ w.heap.size ≤ b) w wx)
  case first =>
    go_wp2_with fail
    go_loopg [2] (leftL (assoc T.L) [] + 1) (fun k _ wx => ∃ seen : List ByteArray, Rng wx w.heap.size bm (assoc (forg T.L seen)) seen ∧ leftL (assoc T.L) seen < k ∧ Kept (fun b => b = bm ∨ w.heap.size ≤ b) w wx)
    case atStart => exact ⟨[], by rw [forg_nil]; exact hR1, by omega, Kept.of_below hB1⟩
    case round =>
      obtain ⟨seen, hRi, hlf, hK⟩ := hrel
      have hbtr : bt < wr.heap.size := by have := hK.size; omega
      have hwr : w.heap.size < wr.heap.size := hRi.lt.1
      have q4 : wr.cell? ⟨bt, 4, none⟩ = some (.map (some bm)) := (World.cell?_of_block (a := ⟨bt, 4, none⟩) (hK.block bt hbt (by rintro (h | h) <;> omega))).trans c4
      have HK := Lib.hid hK
      clear hR1 hB1 hs1 hM c4 hK
      go_wp2_with (at_next; refine wpList_next' rfl (.tmp 11) rfl w.heap.size bm rfl (assoc (forg T.L seen)) seen hRi ?_ ?_)
      · intro hall
        have hall2 : ∀ c ∈ T.L, c.e.key ∈ seen := fun c hc => by
          have := hall _ (celV _) (List.mem_map.2 ⟨_, List.mem_map.2 ⟨c, hc, rfl⟩, rfl⟩)
          rwa [forg_key] at this
        have Hm := Lib.hid (show MapAt wr bm (assoc (T.L.map unwhole)) by rw [← forg_all hall2]; exact hRi.mapAt)
        clear hall hall2
        go_wp2
        go_meet
        exact ⟨Hm.out, HK.out⟩
      · intro kk vv w2 hkv hks hR2 hK2 hs2 hen
        obtain ⟨c, hcL, hckv⟩ := List.mem_map.1 hkv
        obtain ⟨rfl, rfl⟩ : c.e.key = kk ∧ celV c = vv := by
          unfold ckv at hckv
          simpa using hckv
        have hcT := forg_mem hcL hks
        obtain ⟨As, ccs, hsv, _, _⟩ := H0.out.vals c hcT
        have Hget := Lib.hid (show aget (assoc (forg T.L seen)) c.e.key = some (celV c) by rw [aget_assoc, cfind_self hcL (by rw [forg_keys]; exact Hnd.out)]; rfl)
        have Hlt := Lib.hid (leftL_lt (L := assoc T.L) (k := c.e.key) (v := celV c) (List.mem_map.2 ⟨c, hcT, rfl⟩) hks)
        unfold celV at hen
        rw [hsv] at hen
        unfold celV
        rw [hsv]
        have Hsv := Lib.hid hsv
        have HcT := Lib.hid hcT
        have r4 : ∀ o, (w2.alloc o).cell? ⟨bt, 4, none⟩ = some (.map (some bm)) := fun o => (World.cell?_of_block (a := ⟨bt, 4, none⟩) ((Below.heap_alloc w2 o bt (by omega)).trans (hK2.block bt hbtr (by omega)))).trans q4
        have hbt2 : bt < w2.heap.size := by omega
        have hw2 : w.heap.size < w2.heap.size := by omega
        have HK2 := Lib.hid (HK.out.trans (hK2.mono fun b hb => .inr (by omega)))
        have HR2 := Lib.hid hR2
        clear hcL hckv hkv hks hK2 hs2 hsv hcT q4 hRi hR2
        go_upto_region 5 with (refine wpList_entry' rfl (.tmp 11) rfl w.heap.size rfl c.e.key _ hen ?_)
        clear hen
        refine wp_region_mix_lit [(0,false),(1,false),(2,false),(3,false),(4,false),(5,false),(6,true)] (by kernel_rfl) (by kernel_rfl) ?_
        iterate 6 (refine mix_step rfl (fun K hK => ?_); go_simp; refine hK _ ?_; clear hK K)
        refine mix_updateR rfl rfl (by kernel_rfl) 76 9 51 (.tmp 21) (.tmp 22) (.tmp 23) rfl bm w.heap.size c.e.key (celV (unwhole c)) rfl rfl (by simp [celV, unwhole, Hsv.out]; rfl) Try.underlying76 Try.underlying9 (assoc (forg T.L seen)) (c.e.key :: seen) ((HR2.out.alloc _).drew) (celV c) Hget.out (fun w9 hR9 hK9 => ?_)
        refine mix_done (fun e9 => ?_)
        have HR9 := Lib.hid (hR9.more e9)
        have HK9 := Lib.hid ((HK2.out.trans ((Kept.alloc (Kept.refl _ _) _).drew.trans (hK9.mono fun b hb => .inl hb))).more e9)
        clear hR9 hK9
        go_wp2
        go_roundg (leftL (assoc T.L) (c.e.key :: seen) + 1)
        case measure => have := Hlt.out; omega
        case rel =>
          refine ⟨c.e.key :: seen, ?_, by omega, HK9.out⟩
          have := HR9.out
          rw [show c.e.key = (unwhole c).e.key from rfl, aput_assoc (c := unwhole c), forg_step Hnd.out HcT.out] at this
          exact this
  case rest =>
  obtain ⟨hMc, hKc⟩ := hcut
  have hKm : Kept (fun b => b = bm) w wc := hKc.mono' fun b hb h => h.resolve_right (by omega)
  have hI1 : IsTab wc bt bm bk { T with L := T.L.map unwhole } := isTab_map H0.out hKm hMc fun c hc => by
    obtain ⟨d, hd, rfl⟩ := List.mem_map.1 hc
    exact .inr (H0.out.vals d hd)
  have HKf := Lib.hid (hKm.mono (S' := foot bt bm bk) fun b hb => .inr (.inl hb))
  have htl : T.tok.length ≤ 256 := by
    have h1 := Hv.out.toks
    have h2 := Hv.out.b1
    omega
  have HI1 := Lib.hid hI1
  obtain ⟨cap1, _, _, _, _, hcell1, _⟩ := hI1.open_
  have q5 : wc.cell? ⟨bt, 5, none⟩ = some (.slice (some ⟨bk, 0, none⟩) T.tok.length cap1) := hcell1 5
  have hbtc := hI1.lt.1
  clear hcell1 hR1 hB1 hs1 hM c4 hMc hKc hKm hI1
  go_wp2
  go_loopg [29] T.tok.length (fun k i wx => ∃ j : Nat, j ≤ T.tok.length ∧ k = T.tok.length - j ∧ i = .int .i64 j ∧ Hid (IsTab wx bt bm bk { T with L := T.L.map unwhole, tok := raised T.tok j }) ∧ Hid (Kept (foot bt bm bk) wc wx))
  case atStart => exact ⟨0, by omega, by omega, rfl, Lib.hid (by rw [raised_zero]; exact HI1.out), Lib.hid (Kept.refl _ _)⟩
  case round =>
    obtain ⟨j, hj, rfl, rfl, HI, HK⟩ := hrel
    clear q5 hbtc
    by_cases hlt : j < T.tok.length
    · obtain ⟨cap2, tc2, _, _, _, hcell2, _, hfrk2, hck2⟩ := HI.out.open_
      have q5 : wr.cell? ⟨bt, 5, none⟩ = some (.slice (some ⟨bk, 0, none⟩) (raised T.tok j).length cap2) := hcell2 5
      rw [raised_len] at q5
      have qk : wr.cell? ⟨bk, j, none⟩ = some (.int .i64 T.tok[j]) := hck2 j _ (raised_at T.tok j hlt)
      have qf := hfrk2 j
      have htb := Hv.out.tok _ (List.getElem_mem hlt)
      have hl1 : (0 : Int) ≤ T.L.length := by omega
      have htb1 : -2305843009213693952 ≤ T.tok[j] := by omega
      have htb2 : T.tok[j] ≤ 2305843009213693952 := by omega
      have Hnew := Lib.hid (isTab_tok HI.out j (by show j < (raised T.tok j).length; rw [raised_len]; exact hlt) (T.tok[j] + 1))
      have Hset := Lib.hid (raised_set T.tok j hlt)
      have hj0 : (0 : Int) ≤ (j : Int) := by omega
      have hj1 : (j : Int) < (T.tok.length : Int) := by omega
      have hjt : ((j : Int)).toNat = j := by omega
      generalize T.tok[j] = tj at qk htb1 htb2 Hnew Hset htb
      clear hcell2 hfrk2 hck2 htb hl1
      go_wp2
      go_roundg (T.tok.length - (j + 1))
      case measure => omega
      case rel =>
        refine ⟨j + 1, by omega, rfl, by go_num, Lib.hid ?_, Lib.hid ?_⟩
        · rw [← Hset.out]
          exact Hnew.out
        · have hKo := HK.out
          refine Kept.setCell hKo (.inl (.inr (.inr rfl))) _
    · have hjn : j = T.tok.length := by omega
      subst hjn
      rw [raised_all] at HI
      go_wp2
      go_end0
      exact ⟨rfl, HI.out, HKf.out.trans HK.out⟩
end Go.Proofs.Ytibolfdgbbaclaa

/-
  What is proved: contracts of cells.New and of Store at a nil table.
  Conditions: bounds under which nothing wraps.
-/
import Derived.Test.YtibolfdgbbaclaaCellsForget
import Derived.Deep.DeepCutAuto
import Derived.Deep.CutBlock
import Derived.Laws.OwnMore
open Go Go.RowKit Go.Ice
namespace Go.Proofs.Ytibolfdgbbaclaa
set_option maxRecDepth 100000
set_option linter.unusedVariables false
set_option linter.unusedSimpArgs false
attribute [local go_sem] gives givesUpon later_self more_cell more_frozen more_block more_more more_drew more_setCell more_of_drew more_of_drewN more_size lt_plus lt_plus2 lt_plus3 lt_plus4 Instr.field part asAgg List.extract_toArray List.extract_eq_take_drop
theorem store_nil {w : World} (e : Ent) (sv : Value) : Calls Try.prog 30 #[.pointer none, entV e sv] w fun en w' => en = .returned (.int .i64 1) ∧ Below w.heap.size w w' := by
  unfold entV
  go_enter Try.func30, Try.ntmps30
  go_wp2
  go_ret
  exact ⟨rfl, (Kept.to_below (S := fun _ => False) (by repeat (first | with_reducible refine Kept.more ?_ _ | with_reducible refine Kept.alloc ?_ _ | with_reducible refine Kept.drew ?_ | with_reducible refine Kept.drewN ?_ _ | exact Kept.refl _ _)) (fun _ h => h.elim))⟩
def roomV (r : Room) : Value := .agg #[.int .i64 r.cells, .int .i64 r.bytes, .int .i64 r.buckets, .bool r.fresh]
def roomOk (r : Room) : Prop := 1 ≤ r.cells ∧ r.cells ≤ 4096 ∧ 1 ≤ r.bytes ∧ r.bytes ≤ 4194304 ∧ 1 ≤ r.buckets ∧ r.buckets ≤ 256
instance (r : Room) : Decidable (roomOk r) := by unfold roomOk; infer_instance
set_option maxHeartbeats 1000000 in
theorem new_bad {w : World} (r : Room) (h : ¬ roomOk r) : Calls Try.prog 8 #[roomV r] w fun en w' => en = .returned (.tuple #[.pointer none, .int .i64 2]) ∧ Below w.heap.size w w' := by
  have hb : Hid (¬ roomOk r) := Lib.hid h
  clear h
  unfold roomV
  go_enter Try.func8, Try.ntmps8
  go_wp2
  all_goals first
    | (refine bodyPost_ret (v := .tuple #[.pointer none, .int .i64 2]) (by simp [results, Try.results8, go_sem]) rfl ⟨rfl, (Kept.to_below (S := fun _ => False) (by repeat (first | with_reducible refine Kept.more ?_ _ | with_reducible refine Kept.alloc ?_ _ | with_reducible refine Kept.drew ?_ | with_reducible refine Kept.drewN ?_ _ | exact Kept.refl _ _)) (fun _ h => h.elim))⟩)
    | (exfalso; refine hb.out ⟨?_, ?_, ?_, ?_, ?_, ?_⟩ <;> omega)
def fresh0 (r : Room) : Tab := ⟨r, [], List.replicate r.buckets.toNat 0, 0, 0⟩
theorem fresh_tab {W : World} {r : Room} {bt bm bk : Nat} (h1 : bt ≠ bm) (h2 : bt ≠ bk) (h3 : bm ≠ bk) (ht : Blk W bt (tabCells (fresh0 r) bm bk r.buckets.toNat) 78) (hm : W.heap[bm]? = some (.map #[] 0)) (hk : Blk W bk (Array.replicate r.buckets.toNat (.int .i64 0)) 3) : IsTab W bt bm bk (fresh0 r) := by
  refine ⟨h1, h2, h3, ⟨_, ht⟩, ⟨_, hk, ?_, (by rw [Array.toList_replicate]; exact List.all_eq_true.2 fun x hx => (by rw [List.eq_of_mem_replicate hx]; rfl))⟩, ⟨#[], 0, hm, Go.MapKept.stamped_empty 0, by simp [fresh0, assoc]⟩, fun c hc => by cases hc⟩
  intro i t hi
  simp only [fresh0] at hi
  rw [List.getElem?_replicate] at hi
  split at hi
  · cases hi
    simp [*]
  · cases hi
theorem mblk_of_alloc (w : World) : (w.alloc (.map #[] 0)).heap[w.heap.size]? = some (.map #[] 0) := by
  show (w.heap.push _)[w.heap.size]? = _
  rw [Array.getElem?_push_size]
theorem mblk_alloc {w : World} {b : Nat} {o o' : Obj} (h : w.heap[b]? = some o') : (w.alloc o).heap[b]? = some o' := (Below.heap_alloc w o b (Array.getElem?_eq_some_iff.1 h).1).trans h
def freshT (r : Room) : Tab := { fresh0 r with tok := List.replicate r.buckets.toNat (if r.fresh then 0 else 1) }
def NewPost (w : World) (r : Room) (en : Ending) (w' : World) : Prop := ∃ bt bm bk, en = .returned (.tuple #[.pointer (some ⟨bt, 0, none⟩), .int .i64 0]) ∧ IsTab w' bt bm bk (freshT r) ∧ Below w.heap.size w w' ∧ w.heap.size ≤ bt ∧ w.heap.size ≤ bm ∧ w.heap.size ≤ bk
def ones (n j : Nat) : List Int := List.replicate j 1 ++ List.replicate (n - j) 0
theorem ones_len (n j : Nat) (h : j ≤ n) : (ones n j).length = n := by simp [ones]; omega
theorem ones_zero (n : Nat) : ones n 0 = List.replicate n 0 := by simp [ones]
theorem ones_all (n : Nat) : ones n n = List.replicate n 1 := by simp [ones]
theorem ones_set (n j : Nat) (h : j < n) : (ones n j).set j 1 = ones n (j + 1) := by
  unfold ones
  rw [List.set_append_right (h := by simp)]
  have : n - j = (n - (j + 1)) + 1 := by omega
  rw [this, List.replicate_succ, List.length_replicate, Nat.sub_self, List.set_cons_zero, List.replicate_succ', List.append_assoc]
  rfl
theorem ones_at (n j : Nat) (h : j < n) : (ones n j)[j]? = some 0 := by
  unfold ones
  rw [List.getElem?_append_right (by simp), List.length_replicate, Nat.sub_self, List.getElem?_replicate, if_pos (by omega)]
set_option maxHeartbeats 1000000 in
theorem new_ok {w : World} (r : Room) (h : roomOk r) : Calls Try.prog 8 #[roomV r] w (NewPost w r) := by
  obtain ⟨h1, h2, h3, h4, h5, h6⟩ := h
  have hmm := @run_makeMap Try.prog
  obtain ⟨i0, hi, hz0, hz1, hz2⟩ := info_parts int_info
  have hms : ∀ W : World, (Instr.makeSlice 55 (.int .i64 r.buckets) (.int .i64 r.buckets)).run Try.prog W = .ok (.slice (some ⟨W.heap.size, 0, none⟩) r.buckets.toNat r.buckets.toNat) (W.alloc (.cells (Array.replicate r.buckets.toNat (.int .i64 0)) 3)) := fun W => by
    have := run_makeSlice (P := Try.prog) (w := W) 55 3 i0 (.int .i64 0) Try.underlying55 hi hz0
    have h9 := this .i64 .i64 r.buckets r.buckets (by omega) (Int.le_refl _) (by rw [hz1]; omega) (by rw [hz2]; omega) (by omega)
    rw [hz1, Nat.mul_one] at h9
    have hrep : madeCells (Value.int IntKind.i64 0).cells r.buckets.toNat = Array.replicate r.buckets.toNat (Value.int .i64 0) := by
      apply Array.toList_inj.1
      rw [show (Value.int IntKind.i64 0).cells = #[.int .i64 0] from rfl, toList_madeCells_one]
      simp
    rw [hrep] at h9
    exact h9
  clear hi hz0 hz1 hz2
  unfold roomV
  go_enter Try.func8, Try.ntmps8
  go_upto_region 3 with fail
  go_cut [4] (fun p wx => ∃ bt bm bk, p = .pointer (some ⟨bt, 0, none⟩) ∧ IsTab wx bt bm bk (fresh0 r) ∧ Below w.heap.size w wx ∧ w.heap.size < bt ∧ w.heap.size < bm ∧ w.heap.size < bk ∧ Blk wx w.heap.size #[.int .i64 r.cells, .int .i64 r.bytes, .int .i64 r.buckets, .bool r.fresh] 23)
  case first =>
    go_region
    all_goals
      go_wp2
      go_meet
    all_goals
      have hw0 : (w.alloc (Obj.cells #[.int .i64 r.cells, .int .i64 r.bytes, .int .i64 r.buckets, .bool r.fresh] 23)).heap.size = w.heap.size + 1 := alloc_size _ _
    · refine ⟨w.heap.size + 1 + 1 + 1, w.heap.size + 1, w.heap.size + 1 + 1, rfl, ?_, (Kept.to_below (S := fun _ => False) (by repeat (first | with_reducible refine Kept.more ?_ _ | with_reducible refine Kept.alloc ?_ _ | with_reducible refine Kept.drew ?_ | with_reducible refine Kept.drewN ?_ _ | exact Kept.refl _ _)) (fun _ h => h.elim)), by omega, by omega, by omega, ?_⟩
      · refine fresh_tab (by omega) (by omega) (by omega) ?_ ?_ ?_
        · have e1 : tabCells (fresh0 r) (w.heap.size + 1) (w.heap.size + 1 + 1) r.buckets.toNat = #[.int .i64 r.cells, .int .i64 r.bytes, .int .i64 r.buckets, .bool r.fresh, .map (some (w.heap.size + 1)), .slice (some ⟨w.heap.size + 1 + 1, 0, none⟩) r.buckets.toNat r.buckets.toNat, .int .i64 0, .int .i64 0] := by simp [tabCells, fresh0]
          rw [e1]
          have hq := Blk.of_alloc (((w.alloc (.cells #[.int .i64 r.cells, .int .i64 r.bytes, .int .i64 r.buckets, .bool r.fresh] 23)).alloc (.map #[] 0)).alloc (.cells (Array.replicate r.buckets.toNat (.int .i64 0)) 3)) #[.int .i64 r.cells, .int .i64 r.bytes, .int .i64 r.buckets, .bool r.fresh, .map (some (w.heap.size + 1)), .slice (some ⟨w.heap.size + 1 + 1, 0, none⟩) r.buckets.toNat r.buckets.toNat, .int .i64 0, .int .i64 0] 78
          simp only [alloc_size] at hq
          exact hq
        · have hq := mblk_alloc (o := .cells #[.int .i64 r.cells, .int .i64 r.bytes, .int .i64 r.buckets, .bool r.fresh, .map (some (w.heap.size + 1)), .slice (some ⟨w.heap.size + 1 + 1, 0, none⟩) r.buckets.toNat r.buckets.toNat, .int .i64 0, .int .i64 0] 78) (mblk_alloc (o := .cells (Array.replicate r.buckets.toNat (.int .i64 0)) 3) (mblk_of_alloc (w.alloc (.cells #[.int .i64 r.cells, .int .i64 r.bytes, .int .i64 r.buckets, .bool r.fresh] 23))))
          simp only [alloc_size] at hq
          exact hq
        · have hq := (Blk.of_alloc ((w.alloc (.cells #[.int .i64 r.cells, .int .i64 r.bytes, .int .i64 r.buckets, .bool r.fresh] 23)).alloc (.map #[] 0)) (Array.replicate r.buckets.toNat (.int .i64 0)) 3).alloc (.cells #[.int .i64 r.cells, .int .i64 r.bytes, .int .i64 r.buckets, .bool r.fresh, .map (some (w.heap.size + 1)), .slice (some ⟨w.heap.size + 1 + 1, 0, none⟩) r.buckets.toNat r.buckets.toNat, .int .i64 0, .int .i64 0] 78)
          simp only [alloc_size] at hq
          exact hq
      · exact (((Blk.of_alloc w _ _).alloc _).alloc _).alloc _
    · refine ⟨w.heap.size + 1 + 1 + 1, w.heap.size + 1 + 1, w.heap.size + 1, rfl, ?_, (Kept.to_below (S := fun _ => False) (by repeat (first | with_reducible refine Kept.more ?_ _ | with_reducible refine Kept.alloc ?_ _ | with_reducible refine Kept.drew ?_ | with_reducible refine Kept.drewN ?_ _ | exact Kept.refl _ _)) (fun _ h => h.elim)), by omega, by omega, by omega, ?_⟩
      · refine fresh_tab (by omega) (by omega) (by omega) ?_ ?_ ?_
        · have e1 : tabCells (fresh0 r) (w.heap.size + 1 + 1) (w.heap.size + 1) r.buckets.toNat = #[.int .i64 r.cells, .int .i64 r.bytes, .int .i64 r.buckets, .bool r.fresh, .map (some (w.heap.size + 1 + 1)), .slice (some ⟨w.heap.size + 1, 0, none⟩) r.buckets.toNat r.buckets.toNat, .int .i64 0, .int .i64 0] := by simp [tabCells, fresh0]
          rw [e1]
          have hq := Blk.of_alloc (((w.alloc (.cells #[.int .i64 r.cells, .int .i64 r.bytes, .int .i64 r.buckets, .bool r.fresh] 23)).alloc (.cells (Array.replicate r.buckets.toNat (.int .i64 0)) 3)).alloc (.map #[] 0)) #[.int .i64 r.cells, .int .i64 r.bytes, .int .i64 r.buckets, .bool r.fresh, .map (some (w.heap.size + 1 + 1)), .slice (some ⟨w.heap.size + 1, 0, none⟩) r.buckets.toNat r.buckets.toNat, .int .i64 0, .int .i64 0] 78
          simp only [alloc_size] at hq
          exact hq
        · have hq := mblk_alloc (o := .cells #[.int .i64 r.cells, .int .i64 r.bytes, .int .i64 r.buckets, .bool r.fresh, .map (some (w.heap.size + 1 + 1)), .slice (some ⟨w.heap.size + 1, 0, none⟩) r.buckets.toNat r.buckets.toNat, .int .i64 0, .int .i64 0] 78) (mblk_of_alloc ((w.alloc (.cells #[.int .i64 r.cells, .int .i64 r.bytes, .int .i64 r.buckets, .bool r.fresh] 23)).alloc (.cells (Array.replicate r.buckets.toNat (.int .i64 0)) 3)))
          simp only [alloc_size] at hq
          exact hq
        · have hq := ((Blk.of_alloc (w.alloc (.cells #[.int .i64 r.cells, .int .i64 r.bytes, .int .i64 r.buckets, .bool r.fresh] 23)) (Array.replicate r.buckets.toNat (.int .i64 0)) 3).alloc (.map #[] 0)).alloc (.cells #[.int .i64 r.cells, .int .i64 r.bytes, .int .i64 r.buckets, .bool r.fresh, .map (some (w.heap.size + 1 + 1)), .slice (some ⟨w.heap.size + 1, 0, none⟩) r.buckets.toNat r.buckets.toNat, .int .i64 0, .int .i64 0] 78)
          simp only [alloc_size] at hq
          exact hq
      · exact (((Blk.of_alloc w _ _).alloc _).alloc _).alloc _
  case rest =>
  obtain ⟨bt, bm, bk, rfl, hI, hB, l1, l2, l3, hbox⟩ := hcut
  have b3 := hbox.cell 3
  simp at b3
  obtain ⟨cap1, _, _, _, _, hcell1, _⟩ := hI.open_
  have q5 : wc.cell? ⟨bt, 5, none⟩ = some (.slice (some ⟨bk, 0, none⟩) (fresh0 r).tok.length cap1) := hcell1 5
  have hlen : (fresh0 r).tok.length = r.buckets.toNat := by simp [fresh0]
  rw [hlen] at q5
  have hbtc := hI.lt.1
  have HI := Lib.hid hI
  have HB := Lib.hid hB
  have hn0 : 0 ≤ r.buckets.toNat := Nat.zero_le _
  have hn1 : r.buckets.toNat ≤ 256 := by omega
  clear hI hB hbox hcell1 hlen hmm hms
  generalize hn : r.buckets.toNat = n at q5 hn0 hn1
  have HN := Lib.hid hn
  clear hn
  cases hfr : r.fresh
  · rw [hfr] at b3
    have HF := Lib.hid hfr
    clear hfr
    go_wp2
    go_loopg [49] n (fun k i wx => ∃ j : Nat, j ≤ n ∧ k = n - j ∧ i = .int .i64 j ∧ Hid (IsTab wx bt bm bk { fresh0 r with tok := ones n j }) ∧ Hid (Below w.heap.size w wx))
    case atStart => exact ⟨0, by omega, by omega, rfl, Lib.hid (by rw [ones_zero, ← HN.out]; exact HI.out), HB⟩
    case round =>
      obtain ⟨j, hj, rfl, rfl, HI2, HB2⟩ := hrel
      clear q5 hbtc b3
      by_cases hlt : j < n
      · obtain ⟨cap2, tc2, _, _, _, hcell2, _, hfrk2, hck2⟩ := HI2.out.open_
        have q5 : wr.cell? ⟨bt, 5, none⟩ = some (.slice (some ⟨bk, 0, none⟩) (ones n j).length cap2) := hcell2 5
        rw [ones_len _ _ hj] at q5
        have qk : wr.cell? ⟨bk, j, none⟩ = some (.int .i64 0) := hck2 j _ (ones_at _ j hlt)
        have qf := hfrk2 j
        have Hnew := Lib.hid (isTab_tok HI2.out j (by show j < (ones n j).length; rw [ones_len _ _ hj]; exact hlt) 1)
        have Hset := Lib.hid (ones_set n j hlt)
        have hj0 : (0 : Int) ≤ (j : Int) := by omega
        have hj1 : (j : Int) < (n : Int) := by omega
        have hjt : ((j : Int)).toNat = j := by omega
        clear hcell2 hfrk2 hck2
        go_wp2
        go_roundg (n - (j + 1))
        case measure => omega
        case rel =>
          refine ⟨j + 1, by omega, rfl, by go_num, Lib.hid ?_, Lib.hid ?_⟩
          · rw [← Hset.out]
            exact Hnew.out
          · exact HB2.out.setCell (by show w.heap.size ≤ bk; omega) _
      · have hjn : j = n := by omega
        subst hjn
        rw [ones_all] at HI2
        go_wp2
        go_ret2
        refine ⟨bt, bm, bk, rfl, ?_, HB2.out, by omega, by omega, by omega⟩
        unfold freshT
        rw [HF.out, HN.out]
        exact HI2.out
  · rw [hfr] at b3
    have HF := Lib.hid hfr
    clear hfr
    go_wp2
    go_ret2
    refine ⟨bt, bm, bk, rfl, ?_, HB.out, by omega, by omega, by omega⟩
    unfold freshT
    rw [HF.out]
    exact HI.out
end Go.Proofs.Ytibolfdgbbaclaa

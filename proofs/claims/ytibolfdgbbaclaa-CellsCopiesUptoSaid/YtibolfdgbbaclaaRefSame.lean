/-
  What is proved: contracts of the references' comparisons: lists of numbers, values, entries, replies.
  Conditions: bounds under which nothing wraps.
-/
import Derived.Test.YtibolfdgbbaclaaCellsTokens
import Derived.Test.YtibolfdgbbaclaaSwap
import Derived.Deep.QuietTactic
import Derived.BigQuiet
open Go Go.RowKit Go.Ice
namespace Go.Proofs.Ytibolfdgbbaclaa
set_option maxRecDepth 100000
set_option linter.unusedVariables false
set_option linter.unusedSimpArgs false
attribute [local go_sem] gives givesUpon later_self more_cell more_frozen more_block more_more more_drew more_setCell more_of_drew more_of_drewN more_size lt_plus lt_plus2 lt_plus3 lt_plus4 swap_size swap_cell swap_frozen swap_setCell swap_drew swap_drewN ne_low ne_low1 ne_low2 ne_low3 ne_low4 Instr.field part asAgg List.extract_toArray List.extract_eq_take_drop
theorem intV_at (l : List Int) (j : Nat) (hj : j < l.length) : (intV l).getD j undef = .int .i64 l[j] := by simp [intV, List.getD_eq_getElem?_getD, List.getElem?_eq_getElem hj]
theorem row_int {w : World} {N : Nat → Prop} {A : Option Addr} {c : Nat} {l : List Int} (h : Rows w N (.slice A l.length c) (intV l)) : ∀ j, (hj : j < l.length) → ∃ b o, A = some ⟨b, o, none⟩ ∧ w.cell? ⟨b, o + j, none⟩ = some (.int .i64 l[j]) := by
  obtain ⟨A', c', he, hr, _⟩ := h
  rw [intV_len] at *
  have hA : A = A' := by injection he
  subst hA
  intro j hj
  obtain ⟨b, o, h1, _, h3⟩ := hr (by omega)
  have := h3 j hj
  dsimp only at this
  rw [intV_at l j hj] at this
  exact ⟨b, o, h1, this⟩
theorem rows_int_form {w : World} {N : Nat → Prop} {v : Value} {l : List Int} (h : Rows w N v (intV l)) : ∃ A c, v = .slice A l.length c := by
  obtain ⟨A, c, rfl, _, _⟩ := h
  rw [intV_len]
  exact ⟨A, c, rfl⟩
theorem take_ne {α : Type} {a b : List α} {j : Nat} {x y : α} (hx : a[j]? = some x) (hy : b[j]? = some y) (hne : x ≠ y) : a ≠ b := by
  rintro rfl
  rw [hx] at hy
  cases hy
  exact hne rfl
theorem take_eq {α : Type} {a b : List α} {j : Nat} (h : a.take j = b.take j) {x : α} (hx : a[j]? = some x) (hy : b[j]? = some x) : a.take (j + 1) = b.take (j + 1) := by
  obtain ⟨h1, e1⟩ := List.getElem?_eq_some_iff.1 hx
  obtain ⟨h2, e2⟩ := List.getElem?_eq_some_iff.1 hy
  rw [List.take_succ_eq_append_getElem h1, List.take_succ_eq_append_getElem h2, h, e1, e2]
set_option maxHeartbeats 1000000 in
theorem sameInts_any (w : World) (N1 N2 : Nat → Prop) (v1 v2 : Value) (a b : List Int) (h1 : Rows w N1 v1 (intV a)) (h2 : Rows w N2 v2 (intV b)) :
    Calls Try.prog 19 #[v1, v2] w fun e w' => e = .returned (.bool (decide (a = b))) ∧ Below w.heap.size w w' := by
  have hl1 : a.length ≤ 140737488351232 := by obtain ⟨_, _, _, _, h⟩ := h1; rwa [intV_len] at h
  obtain ⟨A, c, rfl⟩ := rows_int_form h1
  obtain ⟨B, d, rfl⟩ := rows_int_form h2
  have Ha := Lib.hid (row_int h1)
  have Hb := Lib.hid (row_int h2)
  clear h1 h2
  by_cases hl : a.length = b.length
  · have Hl := Lib.hid hl
    clear hl
    have hlb : b.length ≤ 140737488351232 := by have := Hl.out; omega
    have hneq : ((a.length : Int) != (b.length : Int)) = false := by have := Hl.out; simp; omega
    go_enter Try.func19, Try.ntmps19
    go_wp2
    go_loopg [5] a.length (fun k i wx => ∃ j : Nat, j ≤ a.length ∧ k = a.length - j ∧ i = .int .i64 j ∧ Hid (a.take j = b.take j) ∧ Hid (Below w.heap.size w wx))
    case atStart => exact ⟨0, by omega, by omega, rfl, Lib.hid rfl, Lib.hid (Below.refl _ _)⟩
    case round =>
      obtain ⟨j, hj, rfl, rfl, HE, HB⟩ := hrel
      by_cases hlt : j < a.length
      · have hlt2 : j < b.length := by have := Hl.out; omega
        obtain ⟨b1, o1, rfl, hc1⟩ := Ha.out j hlt
        obtain ⟨b2, o2, rfl, hc2⟩ := Hb.out j hlt2
        have q1 := (HB.out.cell (p := ⟨b1, o1 + j, none⟩) (World.block_lt_of_cell? w _ hc1)).trans hc1
        have q2 := (HB.out.cell (p := ⟨b2, o2 + j, none⟩) (World.block_lt_of_cell? w _ hc2)).trans hc2
        have hb1 : b1 < wr.heap.size := World.block_lt_of_cell? wr _ q1
        have hb2 : b2 < wr.heap.size := World.block_lt_of_cell? wr _ q2
        have hws := HB.out.size
        have Hx := Lib.hid (List.getElem?_eq_getElem hlt)
        have Hy := Lib.hid (List.getElem?_eq_getElem hlt2)
        have hj0 : (0 : Int) ≤ (j : Int) := by omega
        have hj1 : (j : Int) < (a.length : Int) := by omega
        have hj2 : (j : Int) < (b.length : Int) := by omega
        have hjt : ((j : Int)).toNat = j := by omega
        generalize a[j] = x at q1 Hx
        generalize b[j] = y at q2 Hy
        clear hc1 hc2 Ha Hb
        by_cases hxy : x = y
        · subst hxy
          have hne : (x != x) = false := by simp
          have HE2 := Lib.hid (take_eq HE.out Hx.out Hy.out)
          go_wp2
          refine wp_region_mix_lit [(0,false),(1,false),(2,false),(3,false),(4,false),(5,false),(6,false),(7,false),(8,false)] (by kernel_rfl) (by kernel_rfl) ?_
          iterate 9 (refine mix_step rfl (fun K hK => ?_); go_simp; refine hK _ ?_; clear hK K)
          refine mix_done (fun e6 => ?_)
          go_wp2
          go_roundg (a.length - (j + 1))
          case measure => omega
          case rel => exact ⟨j + 1, by omega, rfl, by go_num, HE2, Lib.hid (HB.out.trans ((Kept.to_below' (S := fun _ => False) (by repeat (first | with_reducible refine Kept.more ?_ _ | with_reducible refine Kept.alloc ?_ _ | with_reducible refine Kept.drew ?_ | with_reducible refine Kept.drewN ?_ _ | exact Kept.refl _ _)) (by omega) (fun _ h => h.elim))))⟩
        · have hne : (x != y) = true := by simpa using hxy
          have HD := Lib.hid (show decide (a = b) = false from decide_eq_false (take_ne Hx.out Hy.out hxy))
          clear hxy
          go_wp2
          refine wp_region_mix_lit [(0,false),(1,false),(2,false),(3,false),(4,false),(5,false),(6,false),(7,false),(8,false)] (by kernel_rfl) (by kernel_rfl) ?_
          iterate 9 (refine mix_step rfl (fun K hK => ?_); go_simp; refine hK _ ?_; clear hK K)
          refine mix_done (fun e6 => ?_)
          go_wp2
          try rw [Exit.noGoto_ret]
          go_ret
          exact ⟨by rw [HD.out] <;> rfl, HB.out.trans ((Kept.to_below' (S := fun _ => False) (by repeat (first | with_reducible refine Kept.more ?_ _ | with_reducible refine Kept.alloc ?_ _ | with_reducible refine Kept.drew ?_ | with_reducible refine Kept.drewN ?_ _ | exact Kept.refl _ _)) (by omega) (fun _ h => h.elim)))⟩
      · have hjn : j = a.length := by omega
        subst hjn
        have HD := Lib.hid (show decide (a = b) = true from decide_eq_true (by
          have := HE.out
          rw [List.take_of_length_le (Nat.le_refl _), List.take_of_length_le (by have := Hl.out; omega)] at this
          exact this))
        go_wp2
        try rw [Exit.noGoto_ret]
        go_ret
        exact ⟨by rw [HD.out] <;> rfl, HB.out⟩
  · have hneq : ((a.length : Int) != (b.length : Int)) = true := by simp; omega
    have hd : decide (a = b) = false := by
      rw [decide_eq_false_iff_not]
      rintro rfl
      exact hl rfl
    rw [hd]
    go_enter Try.func19, Try.ntmps19
    go_wp2
    go_ret
    exact ⟨rfl, Below.refl _ _⟩
def sameVal (h1 : Bool) (l1 : List UInt8) (h2 : Bool) (l2 : List UInt8) : Bool := decide (h1 = h2) && (!h1 || decide (l1 = l2))
theorem bts_at {w : World} {N : Nat → Prop} {A : Option Addr} {n c : Nat} {l : List UInt8} (h : Bts w N (.slice A n c) l) : n = l.length ∧ ∀ j, (hj : j < l.length) → ∃ b o, A = some ⟨b, o, none⟩ ∧ w.cell? ⟨b, o + j, none⟩ = some (.int .u8 (l[j].toNat : Int)) := by
  obtain ⟨A', c', he, hr, _⟩ := h
  injection he with hA hn hc
  subst hA
  refine ⟨hn, fun j hj => ?_⟩
  obtain ⟨b, o, h1, _, h3⟩ := hr (by omega)
  have := h3 j hj
  dsimp only at this
  rw [List.getD_eq_getElem?_getD, List.getElem?_eq_getElem hj] at this
  exact ⟨b, o, h1, this⟩
set_option maxHeartbeats 1000000 in
theorem sameVal_any (w : World) (N1 N2 : Nat → Prop) (h1 h2 : Bool) (A B : Option Addr) (n c m d : Nat) (a b : List UInt8) (hb1 : Bts w N1 (.slice A n c) a) (hb2 : Bts w N2 (.slice B m d) b) :
    Calls Try.prog 39 #[.agg #[.bool h1, .slice A n c], .agg #[.bool h2, .slice B m d]] w fun e w' => e = .returned (.bool (sameVal h1 a h2 b)) ∧ Below w.heap.size w w' := by
  have hl1 : a.length ≤ 140737488351232 := by obtain ⟨_, _, _, _, h⟩ := hb1; exact h
  have hl2 : b.length ≤ 140737488351232 := by obtain ⟨_, _, _, _, h⟩ := hb2; exact h
  obtain ⟨rfl, hca⟩ := bts_at hb1
  obtain ⟨rfl, hcb⟩ := bts_at hb2
  have Ha := Lib.hid hca
  have Hb := Lib.hid hcb
  clear hb1 hb2 hca hcb
  generalize hr : sameVal h1 a h2 b = R
  have HR := Lib.hid hr
  clear hr
  have hRf : h1 ≠ h2 → R = false := fun hh => by
    rw [← HR.out]
    unfold sameVal
    rw [decide_eq_false hh]
    rfl
  have HRf := Lib.hid hRf
  clear hRf
  cases h1 <;> cases h2
  · go_enter Try.func39, Try.ntmps39
    go_wp2
    go_ret
    exact ⟨by rw [← HR.out] <;> rfl, (Kept.to_below' (S := fun _ => False) (by repeat (first | with_reducible refine Kept.more ?_ _ | with_reducible refine Kept.alloc ?_ _ | with_reducible refine Kept.drew ?_ | with_reducible refine Kept.drewN ?_ _ | exact Kept.refl _ _)) (by omega) (fun _ h => h.elim))⟩
  · obtain rfl := HRf.out (by simp)
    go_enter Try.func39, Try.ntmps39
    go_wp2
    go_ret
    exact ⟨rfl, (Kept.to_below' (S := fun _ => False) (by repeat (first | with_reducible refine Kept.more ?_ _ | with_reducible refine Kept.alloc ?_ _ | with_reducible refine Kept.drew ?_ | with_reducible refine Kept.drewN ?_ _ | exact Kept.refl _ _)) (by omega) (fun _ h => h.elim))⟩
  · obtain rfl := HRf.out (by simp)
    go_enter Try.func39, Try.ntmps39
    go_wp2
    go_ret
    exact ⟨rfl, (Kept.to_below' (S := fun _ => False) (by repeat (first | with_reducible refine Kept.more ?_ _ | with_reducible refine Kept.alloc ?_ _ | with_reducible refine Kept.drew ?_ | with_reducible refine Kept.drewN ?_ _ | exact Kept.refl _ _)) (by omega) (fun _ h => h.elim))⟩
  · clear HRf
    by_cases hl : a.length = b.length
    · have Hl := Lib.hid hl
      clear hl
      have hneq : ((a.length : Int) != (b.length : Int)) = false := by have := Hl.out; simp; omega
      go_enter Try.func39, Try.ntmps39
      go_wp2
      go_loopg [5] a.length (fun k i wx => ∃ j : Nat, j ≤ a.length ∧ k = a.length - j ∧ i = .int .i64 j ∧ Hid (a.take j = b.take j) ∧ Later ((w.alloc (.cells #[.bool true, .slice A a.length c] 35)).alloc (.cells #[.bool true, .slice B b.length d] 35)) wx)
      case atStart => exact ⟨0, by omega, by omega, rfl, Lib.hid rfl, later_refl _⟩
      case round =>
        obtain ⟨j, hj, rfl, rfl, HE, e, rfl⟩ := hrel
        by_cases hlt : j < a.length
        · have hlt2 : j < b.length := by have := Hl.out; omega
          obtain ⟨b1, o1, rfl, q1⟩ := Ha.out j hlt
          obtain ⟨b2, o2, rfl, q2⟩ := Hb.out j hlt2
          have hb1 : b1 < w.heap.size := World.block_lt_of_cell? w _ q1
          have hb2 : b2 < w.heap.size := World.block_lt_of_cell? w _ q2
          have Hx := Lib.hid (List.getElem?_eq_getElem hlt)
          have Hy := Lib.hid (List.getElem?_eq_getElem hlt2)
          have hj0 : (0 : Int) ≤ (j : Int) := by omega
          have hj1 : (j : Int) < (a.length : Int) := by omega
          have hj2 : (j : Int) < (b.length : Int) := by omega
          have hjt : ((j : Int)).toNat = j := by omega
          generalize a[j] = x at q1 Hx
          generalize b[j] = y at q2 Hy
          clear Ha Hb
          by_cases hxy : x = y
          · subst hxy
            have hne : ((x.toNat : Int) != (x.toNat : Int)) = false := by simp
            have HE2 := Lib.hid (take_eq HE.out Hx.out Hy.out)
            go_wp2
            refine wp_region_mix_lit [(0,false),(1,false),(2,false),(3,false),(4,false),(5,false),(6,false),(7,false),(8,false),(9,false),(10,false)] (by kernel_rfl) (by kernel_rfl) ?_
            iterate 11 (refine mix_step rfl (fun K hK => ?_); go_simp; refine hK _ ?_; clear hK K)
            refine mix_done (fun e6 => ?_)
            go_wp2
            go_roundg (a.length - (j + 1))
            case measure => omega
            case rel => exact ⟨j + 1, by omega, rfl, by go_num, HE2, _, rfl⟩
          · have hne : ((x.toNat : Int) != (y.toNat : Int)) = true := by
              simp only [bne_iff_ne, ne_eq]
              intro h
              exact hxy (UInt8.toNat_inj.1 (by omega))
            have HD := Lib.hid (show R = false by
              rw [← HR.out]
              unfold sameVal
              rw [decide_eq_false (take_ne Hx.out Hy.out hxy)]
              rfl)
            clear hxy
            go_wp2
            refine wp_region_mix_lit [(0,false),(1,false),(2,false),(3,false),(4,false),(5,false),(6,false),(7,false),(8,false),(9,false),(10,false)] (by kernel_rfl) (by kernel_rfl) ?_
            iterate 11 (refine mix_step rfl (fun K hK => ?_); go_simp; refine hK _ ?_; clear hK K)
            refine mix_done (fun e6 => ?_)
            go_wp2
            try rw [Exit.noGoto_ret]
            go_ret
            exact ⟨by rw [HD.out] <;> rfl, (Kept.to_below' (S := fun _ => False) (by repeat (first | with_reducible refine Kept.more ?_ _ | with_reducible refine Kept.alloc ?_ _ | with_reducible refine Kept.drew ?_ | with_reducible refine Kept.drewN ?_ _ | exact Kept.refl _ _)) (by omega) (fun _ h => h.elim))⟩
        · have hjn : j = a.length := by omega
          subst hjn
          have HD := Lib.hid (show R = true by
            rw [← HR.out]
            unfold sameVal
            have := HE.out
            rw [List.take_of_length_le (Nat.le_refl _), List.take_of_length_le (by have := Hl.out; omega)] at this
            rw [decide_eq_true this]
            rfl)
          go_wp2
          try rw [Exit.noGoto_ret]
          go_ret
          exact ⟨by rw [HD.out] <;> rfl, (Kept.to_below' (S := fun _ => False) (by repeat (first | with_reducible refine Kept.more ?_ _ | with_reducible refine Kept.alloc ?_ _ | with_reducible refine Kept.drew ?_ | with_reducible refine Kept.drewN ?_ _ | exact Kept.refl _ _)) (by omega) (fun _ h => h.elim))⟩
    · have hneq : ((a.length : Int) != (b.length : Int)) = true := by simp; omega
      have hR : R = false := by
        rw [← HR.out]
        unfold sameVal
        have : decide (a = b) = false := by
          rw [decide_eq_false_iff_not]
          rintro rfl
          exact hl rfl
        rw [this]
        rfl
      subst hR
      go_enter Try.func39, Try.ntmps39
      go_wp2
      go_ret
      exact ⟨rfl, (Kept.to_below' (S := fun _ => False) (by repeat (first | with_reducible refine Kept.more ?_ _ | with_reducible refine Kept.alloc ?_ _ | with_reducible refine Kept.drew ?_ | with_reducible refine Kept.drewN ?_ _ | exact Kept.refl _ _)) (by omega) (fun _ h => h.elim))⟩
def sameE (a b : Ent) : Bool := decide (a.key = b.key) && decide (a.seq = b.seq ∧ a.who = b.who ∧ a.op = b.op) && sameVal a.has a.b b.has b.b
set_option maxHeartbeats 1000000 in
theorem same_any (w : World) (N1 N2 : Nat → Prop) (e f : Ent) (sv1 sv2 : Value) (hb1 : Bts w N1 sv1 e.b) (hb2 : Bts w N2 sv2 f.b) :
    Calls Try.prog 15 #[entV e sv1, entV f sv2] w fun en w' => en = .returned (.bool (sameE e f)) ∧ Below w.heap.size w w' := by
  have hs1 := hb1
  have hs2 := hb2
  obtain ⟨A, c, rfl, _, _⟩ := hs1
  obtain ⟨B, d, rfl, _, _⟩ := hs2
  have Hs := Lib.hid (fun W (hB : Below w.heap.size w W) => sameVal_any W N1 N2 e.has f.has A B _ c _ d e.b f.b (hb1.below hB) (hb2.below hB))
  clear hb1 hb2
  unfold entV
  generalize hr : sameE e f = R
  have HR := Lib.hid hr
  clear hr
  by_cases hk : e.key = f.key
  · have hkb : (e.key.toList == f.key.toList) = true := (Lib.bytes_beq_iff _ _).2 hk
    go_enter Try.func15, Try.ntmps15
    go_wp2_with (go_at_call 39; refine (Hs.out _ (Kept.to_below (S := fun _ => False) (by repeat (first | with_reducible refine Kept.more ?_ _ | with_reducible refine Kept.alloc ?_ _ | with_reducible refine Kept.drew ?_ | with_reducible refine Kept.drewN ?_ _ | exact Kept.refl _ _)) (fun _ h => h.elim))).mono ?_; rintro x1_e x1_w ⟨rfl, x1_B⟩; obtain ⟨x1, rfl⟩ := later_of_below x1_B; clear x1_B)
    all_goals
      go_ret
      refine ⟨?_, (Kept.to_below' (S := fun _ => False) (by repeat (first | with_reducible refine Kept.more ?_ _ | with_reducible refine Kept.alloc ?_ _ | with_reducible refine Kept.drew ?_ | with_reducible refine Kept.drewN ?_ _ | exact Kept.refl _ _)) (by omega) (fun _ h => h.elim))⟩
      rw [← HR.out]
      clear HR Hs
      simp_all [sameE]
  · have hkb : (e.key.toList == f.key.toList) = false := (Lib.bytes_beq_false_iff _ _).2 hk
    have hR : R = false := by
      rw [← HR.out]
      unfold sameE
      rw [decide_eq_false hk]
      rfl
    subst hR
    have Hk := Lib.hid hk
    clear hk
    go_enter Try.func15, Try.ntmps15
    go_wp2_with (go_at_call 39; refine (Hs.out _ (Kept.to_below (S := fun _ => False) (by repeat (first | with_reducible refine Kept.more ?_ _ | with_reducible refine Kept.alloc ?_ _ | with_reducible refine Kept.drew ?_ | with_reducible refine Kept.drewN ?_ _ | exact Kept.refl _ _)) (fun _ h => h.elim))).mono ?_; rintro x1_e x1_w ⟨rfl, x1_B⟩; obtain ⟨x1, rfl⟩ := later_of_below x1_B; clear x1_B)
    go_ret
    exact ⟨rfl, (Kept.to_below' (S := fun _ => False) (by repeat (first | with_reducible refine Kept.more ?_ _ | with_reducible refine Kept.alloc ?_ _ | with_reducible refine Kept.drew ?_ | with_reducible refine Kept.drewN ?_ _ | exact Kept.refl _ _)) (by omega) (fun _ h => h.elim))⟩
def sameR (a b : Ent) (w1 w2 : Bool) (t1 t2 : Int) : Bool := sameE a b && decide (w1 = w2) && decide (t1 = t2)
set_option maxHeartbeats 1000000 in
theorem sameReply_any (w : World) (N1 N2 : Nat → Prop) (e f : Ent) (sv1 sv2 : Value) (w1 w2 : Bool) (t1 t2 : Int) (hb1 : Bts w N1 sv1 e.b) (hb2 : Bts w N2 sv2 f.b) :
    Calls Try.prog 16 #[replyV e sv1 w1 t1, replyV f sv2 w2 t2] w fun en w' => en = .returned (.bool (sameR e f w1 w2 t1 t2)) ∧ Below w.heap.size w w' := by
  have Hs := Lib.hid (fun W (hB : Below w.heap.size w W) => same_any W N1 N2 e f sv1 sv2 (hb1.below hB) (hb2.below hB))
  obtain ⟨A, c, rfl, _, _⟩ := hb1
  obtain ⟨B, d, rfl, _, _⟩ := hb2
  unfold entV at Hs
  unfold replyV
  generalize hr : sameR e f w1 w2 t1 t2 = R
  have HR := Lib.hid hr
  unfold sameR at HR
  clear hr
  generalize sameE e f = s at Hs HR
  cases s <;> cases w1 <;> cases w2
  all_goals
    go_enter Try.func16, Try.ntmps16
    go_wp2_with (go_at_call 15; refine (Hs.out _ (Kept.to_below (S := fun _ => False) (by repeat (first | with_reducible refine Kept.more ?_ _ | with_reducible refine Kept.alloc ?_ _ | with_reducible refine Kept.drew ?_ | with_reducible refine Kept.drewN ?_ _ | exact Kept.refl _ _)) (fun _ h => h.elim))).mono ?_; rintro x1_e x1_w ⟨rfl, x1_B⟩; obtain ⟨x1, rfl⟩ := later_of_below x1_B; clear x1_B)
    all_goals
      go_ret
      refine ⟨?_, (Kept.to_below' (S := fun _ => False) (by repeat (first | with_reducible refine Kept.more ?_ _ | with_reducible refine Kept.alloc ?_ _ | with_reducible refine Kept.drew ?_ | with_reducible refine Kept.drewN ?_ _ | exact Kept.refl _ _)) (by omega) (fun _ h => h.elim))⟩
      rw [← HR.out]
      clear HR Hs
      simp
      try (rw [Bool.eq_iff_iff]; simp)
end Go.Proofs.Ytibolfdgbbaclaa

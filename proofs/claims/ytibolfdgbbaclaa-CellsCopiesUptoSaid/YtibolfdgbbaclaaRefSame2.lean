/-
  What is proved: contracts of the references' comparison of lists of cells.
  Conditions: bounds under which nothing wraps.
-/
import Derived.Test.YtibolfdgbbaclaaRefSame
import Derived.Test.YtibolfdgbbaclaaCellsCells
open Go Go.RowKit Go.Ice
namespace Go.Proofs.Ytibolfdgbbaclaa
set_option maxRecDepth 100000
set_option linter.unusedVariables false
set_option linter.unusedSimpArgs false
attribute [local go_sem] gives givesUpon later_self more_cell more_frozen more_block more_more more_drew more_setCell more_of_drew more_of_drewN more_size lt_plus lt_plus2 lt_plus3 lt_plus4 swap_size swap_cell swap_frozen swap_setCell swap_drew swap_drewN ne_low ne_low1 ne_low2 ne_low3 ne_low4 Instr.field part asAgg List.extract_toArray List.extract_eq_take_drop
theorem bool_ne {x y : Bool} (h : ¬ x = y) : (x != y) = true ∧ (!x == y) = true := by cases x <;> cases y <;> simp at h ⊢
theorem bool_eq {x y : Bool} (h : x = y) : (x != y) = false ∧ (!x == y) = false := by cases x <;> cases y <;> simp at h ⊢
def sameC (a b : Cel) : Bool := sameE a.e b.e && decide (a.whole = b.whole) && decide (a.clean = b.clean) && decide (a.used = b.used)
def sameCs : List Cel → List Cel → Bool
  | [], [] => true
  | a :: xs, b :: ys => sameC a b && sameCs xs ys
  | _, _ => false
theorem sameCs_iff : ∀ {a b : List Cel}, sameCs a b = true ↔ a.length = b.length ∧ ∀ (j : Nat) (x y : Cel), a[j]? = some x → b[j]? = some y → sameC x y = true
  | [], [] => by simp [sameCs]
  | [], _ :: _ => by simp [sameCs]
  | _ :: _, [] => by simp [sameCs]
  | a :: xs, b :: ys => by
    simp only [sameCs, Bool.and_eq_true, sameCs_iff (a := xs) (b := ys), List.length_cons]
    constructor
    · rintro ⟨h1, h2, h3⟩
      refine ⟨by omega, fun j x y hx hy => ?_⟩
      cases j with
      | zero => simp at hx hy; subst hx; subst hy; exact h1
      | succ j => simp at hx hy; exact h3 j x y hx hy
    · rintro ⟨h1, h2⟩
      exact ⟨h2 0 a b rfl rfl, by omega, fun j x y hx hy => h2 (j + 1) x y (by simpa using hx) (by simpa using hy)⟩
theorem flatC_at (cs : List Cel) (j k : Nat) (hj : j < cs.length) (hk : k < 9) : (flatC cs)[j * 9 + k]? = (celCells cs[j])[k]? := by
  induction cs generalizing j with
  | nil => simp at hj
  | cons c cs ih =>
    have e : flatC (c :: cs) = celCells c ++ flatC cs := rfl
    have hl : (celCells c).length = 9 := rfl
    rw [e]
    cases j with
    | zero =>
      rw [Nat.zero_mul, Nat.zero_add, List.getElem?_append_left (by omega)]
      rfl
    | succ j =>
      rw [List.getElem?_append_right (by omega), hl]
      have : (j + 1) * 9 + k - 9 = j * 9 + k := by omega
      rw [this, ih j (by simpa using hj)]
      rfl
theorem crow_at {w : World} {N : Nat → Prop} {A : Option Addr} {n c : Nat} {cs : List Cel} (h : CRows w N (.slice A n c) cs) : n = cs.length ∧ cs.length ≤ 1000000 ∧ ∀ j, (hj : j < cs.length) → ∃ b o, A = some ⟨b, o, none⟩ ∧ b < w.heap.size ∧
    (∀ (k : Nat) (u : Value), (celCells cs[j])[k]? = some u → w.cell? ⟨b, o + (j * 9 + k), none⟩ = some u) ∧ Bts w N cs[j].sv cs[j].e.b := by
  obtain ⟨A', c', he, hr, hv, hl⟩ := h
  injection he with hA hn hc
  subst hA
  refine ⟨hn, hl, fun j hj => ?_⟩
  obtain ⟨b, o, h1, _, h3⟩ := hr (by omega)
  have key : ∀ (k : Nat) (u : Value), (celCells cs[j])[k]? = some u → w.cell? ⟨b, o + (j * 9 + k), none⟩ = some u := by
    intro k u hu
    have hk : k < 9 := (List.getElem?_eq_some_iff.1 hu).1
    have h5 := h3 (j * 9 + k) (by omega)
    dsimp only at h5
    rw [List.getD_eq_getElem?_getD, flatC_at cs j k hj hk, hu] at h5
    exact h5
  exact ⟨b, o, h1, World.block_lt_of_cell? w _ (key 0 _ rfl), key, hv _ (List.getElem_mem hj)⟩
/-- The cells of one, as a walk spells their places. -/
structure Cell9 (w : World) (b o : Nat) (c : Cel) : Prop where
  p0 : w.cell? ⟨b, o, none⟩ = some (.string c.e.key)
  p1 : w.cell? ⟨b, o + 1, none⟩ = some (.int .i64 c.e.seq)
  p2 : w.cell? ⟨b, o + 2, none⟩ = some (.int .i64 c.e.who)
  p3 : w.cell? ⟨b, o + 3, none⟩ = some (.int .i64 c.e.op)
  p4 : w.cell? ⟨b, o + 4, none⟩ = some (.bool c.e.has)
  p5 : w.cell? ⟨b, o + 5, none⟩ = some c.sv
  p6 : w.cell? ⟨b, o + 6, none⟩ = some (.bool c.whole)
  p7 : w.cell? ⟨b, o + 7, none⟩ = some (.bool c.clean)
  p8 : w.cell? ⟨b, o + 8, none⟩ = some (.int .i64 c.used)
theorem crow_cells {w : World} {N : Nat → Prop} {A : Option Addr} {n c : Nat} {cs : List Cel} (h : CRows w N (.slice A n c) cs) : n = cs.length ∧ cs.length ≤ 1000000 ∧ ∀ j, (hj : j < cs.length) → ∃ b o, A = some ⟨b, o, none⟩ ∧ b < w.heap.size ∧
    Cell9 w b (o + j * 9) cs[j] ∧ Bts w N cs[j].sv cs[j].e.b := by
  obtain ⟨h1, h2, h3⟩ := crow_at h
  refine ⟨h1, h2, fun j hj => ?_⟩
  obtain ⟨b, o, h4, h5, q, h6⟩ := h3 j hj
  have q' : ∀ (k : Nat) (u : Value), (celCells cs[j])[k]? = some u → w.cell? ⟨b, o + j * 9 + k, none⟩ = some u := fun k u hu => by
    rw [Nat.add_assoc]
    exact q k u hu
  exact ⟨b, o, h4, h5, ⟨q' 0 _ rfl, q' 1 _ rfl, q' 2 _ rfl, q' 3 _ rfl, q' 4 _ rfl, q' 5 _ rfl, q' 6 _ rfl, q' 7 _ rfl, q' 8 _ rfl⟩, h6⟩
set_option maxHeartbeats 4000000 in
theorem sameCells_any (w : World) (N1 N2 : Nat → Prop) (v1 v2 : Value) (a b : List Cel) (h1 : CRows w N1 v1 a) (h2 : CRows w N2 v2 b) :
    Calls Try.prog 21 #[v1, v2] w fun e w' => e = .returned (.bool (sameCs a b)) ∧ Below w.heap.size w w' := by
  have hs1 := h1
  have hs2 := h2
  obtain ⟨A, c, rfl, _, _⟩ := hs1
  obtain ⟨B, d, rfl, _, _⟩ := hs2
  obtain ⟨_, hl1, ha⟩ := crow_cells h1
  obtain ⟨_, hl2, hb⟩ := crow_cells h2
  have Ha := Lib.hid ha
  have Hb := Lib.hid hb
  clear h1 h2 ha hb
  generalize hr : sameCs a b = R
  have HR := Lib.hid hr
  clear hr
  by_cases hl : a.length = b.length
  · have Hl := Lib.hid hl
    clear hl
    have hneq : ((a.length : Int) != (b.length : Int)) = false := by have := Hl.out; simp; omega
    go_enter Try.func21, Try.ntmps21
    go_wp2
    go_loopg [5] a.length (fun k i wx => ∃ j : Nat, j ≤ a.length ∧ k = a.length - j ∧ i = .int .i64 j ∧ Hid (∀ i, i < j → ∀ x y, a[i]? = some x → b[i]? = some y → sameC x y = true) ∧ Later w wx)
    case atStart => exact ⟨0, by omega, by omega, rfl, Lib.hid (fun i hi => by omega), later_refl _⟩
    case round =>
      obtain ⟨j, hj, rfl, rfl, HE, e, rfl⟩ := hrel
      by_cases hlt : j < a.length
      · have hlt2 : j < b.length := by have := Hl.out; omega
        obtain ⟨b1, o1, rfl, hb1, q1, bt1⟩ := Ha.out j hlt
        obtain ⟨b2, o2, rfl, hb2, q2, bt2⟩ := Hb.out j hlt2
        have Hx := Lib.hid (List.getElem?_eq_getElem hlt)
        have Hy := Lib.hid (List.getElem?_eq_getElem hlt2)
        have hj0 : (0 : Int) ≤ (j : Int) := by omega
        have hj1 : (j : Int) < (a.length : Int) := by omega
        have hj2 : (j : Int) < (b.length : Int) := by omega
        have hjt : ((j : Int)).toNat = j := by omega
        generalize a[j] = x at q1 bt1 Hx
        generalize b[j] = y at q2 bt2 Hy
        clear Ha Hb
        obtain ⟨p0, p1, p2, p3, p4, p5, p6, p7, p8⟩ := q1
        obtain ⟨r0, r1, r2, r3, r4, r5, r6, r7, r8⟩ := q2
        have Hs := Lib.hid (fun W (hB : Below w.heap.size w W) => same_any W N1 N2 x.e y.e x.sv y.sv (bt1.below hB) (bt2.below hB))
        unfold entV at Hs
        clear bt1 bt2
        generalize hse : sameE x.e y.e = s at Hs
        have Hse := Lib.hid hse
        clear hse
        go_wp2
        refine wp_region_mix_lit [(0,false),(1,false),(2,false),(3,false),(4,false),(5,false),(6,false),(7,false),(8,false),(9,false),(10,false),(11,false),(12,false),(13,false),(14,false),(15,false),(16,false),(17,false),(18,false),(19,false),(20,false),(21,false),(22,false),(23,false),(24,false),(25,false),(26,false),(27,false),(28,false),(29,false),(30,false),(31,false),(32,false),(33,false),(34,false),(35,false),(36,false),(37,false),(38,false),(39,false),(40,false),(41,false),(42,false),(43,false),(44,false),(45,false),(46,false),(47,false),(48,false),(49,false),(50,false)] (by kernel_rfl) (by kernel_rfl) ?_
        iterate 10 (refine mix_step rfl (fun K hK => ?_); go_simp; refine hK _ ?_; clear hK K)
        (refine mix_step rfl (fun K hK => ?_); go_simp; refine Exists.intro _ ⟨fun _ _ => call_gives (Hs.out _ (Kept.to_below (S := fun _ => False) (by repeat (first | with_reducible refine Kept.more ?_ _ | with_reducible refine Kept.alloc ?_ _ | with_reducible refine Kept.drew ?_ | with_reducible refine Kept.drewN ?_ _ | exact Kept.refl _ _)) (fun _ h => h.elim))), hK _ ?_⟩; clear hK K)
        cases s
        · iterate 40 (refine mix_step rfl (fun K hK => ?_); go_simp; refine hK _ ?_; clear hK K)
          refine mix_done (fun e6 => ?_)
          have HD := Lib.hid (show R = false by
            rw [← HR.out]
            cases hc : sameCs a b with
            | false => rfl
            | true =>
              have hxy := (sameCs_iff.1 hc).2 j x y Hx.out Hy.out
              unfold sameC at hxy
              simp [Hse.out] at hxy)
          clear HR
          go_wp2
          try rw [Exit.noGoto_ret]
          go_ret
          exact ⟨by rw [HD.out] <;> rfl, (Kept.to_below' (S := fun _ => False) (by repeat (first | with_reducible refine Kept.more ?_ _ | with_reducible refine Kept.alloc ?_ _ | with_reducible refine Kept.drew ?_ | with_reducible refine Kept.drewN ?_ _ | exact Kept.refl _ _)) (by omega) (fun _ h => h.elim))⟩
        · by_cases hw : x.whole = y.whole
          · have hw1 : (x.whole != y.whole) = false := (bool_eq hw).1
            have hw2 : (!x.whole == y.whole) = false := (bool_eq hw).2
            have Hhw := Lib.hid hw
            clear hw
            by_cases hc : x.clean = y.clean
            · have hc1 : (x.clean != y.clean) = false := (bool_eq hc).1
              have hc2 : (!x.clean == y.clean) = false := (bool_eq hc).2
              have Hhc := Lib.hid hc
              clear hc
              by_cases hu : x.used = y.used
              · have hu1 : (x.used != y.used) = false := bne_eq_false_iff_eq.2 hu
                have Hhu := Lib.hid hu
                clear hu
                iterate 40 (refine mix_step rfl (fun K hK => ?_); go_simp; refine hK _ ?_; clear hK K)
                refine mix_done (fun e6 => ?_)
                have HE2 := Lib.hid (show ∀ i, i < j + 1 → ∀ x y, a[i]? = some x → b[i]? = some y → sameC x y = true from fun i hi u v hu hv => by
                  by_cases hij : i = j
                  · subst hij
                    rw [Hx.out] at hu
                    rw [Hy.out] at hv
                    cases hu
                    cases hv
                    unfold sameC
                    simp [Hse.out, Hhw.out, Hhc.out, Hhu.out]
                  · exact HE.out i (by omega) u v hu hv)
                go_wp2
                go_roundg (a.length - (j + 1))
                case measure => omega
                case rel => exact ⟨j + 1, by omega, rfl, by go_num, HE2, _, rfl⟩
              · have hu1 : (x.used != y.used) = true := bne_iff_ne.2 hu
                have Hhu := Lib.hid hu
                clear hu
                iterate 40 (refine mix_step rfl (fun K hK => ?_); go_simp; refine hK _ ?_; clear hK K)
                refine mix_done (fun e6 => ?_)
                have HD := Lib.hid (show R = false by
                  rw [← HR.out]
                  cases hc : sameCs a b with
                  | false => rfl
                  | true =>
                    have hxy := (sameCs_iff.1 hc).2 j x y Hx.out Hy.out
                    unfold sameC at hxy
                    simp [Hhu.out] at hxy)
                clear HR
                go_wp2
                try rw [Exit.noGoto_ret]
                go_ret
                exact ⟨by rw [HD.out] <;> rfl, (Kept.to_below' (S := fun _ => False) (by repeat (first | with_reducible refine Kept.more ?_ _ | with_reducible refine Kept.alloc ?_ _ | with_reducible refine Kept.drew ?_ | with_reducible refine Kept.drewN ?_ _ | exact Kept.refl _ _)) (by omega) (fun _ h => h.elim))⟩
            · have hc1 : (x.clean != y.clean) = true := (bool_ne hc).1
              have hc2 : (!x.clean == y.clean) = true := (bool_ne hc).2
              have Hhc := Lib.hid hc
              clear hc
              iterate 40 (refine mix_step rfl (fun K hK => ?_); go_simp; refine hK _ ?_; clear hK K)
              refine mix_done (fun e6 => ?_)
              have HD := Lib.hid (show R = false by
                rw [← HR.out]
                cases hc : sameCs a b with
                | false => rfl
                | true =>
                  have hxy := (sameCs_iff.1 hc).2 j x y Hx.out Hy.out
                  unfold sameC at hxy
                  simp [Hhc.out] at hxy)
              clear HR
              go_wp2
              try rw [Exit.noGoto_ret]
              go_ret
              exact ⟨by rw [HD.out] <;> rfl, (Kept.to_below' (S := fun _ => False) (by repeat (first | with_reducible refine Kept.more ?_ _ | with_reducible refine Kept.alloc ?_ _ | with_reducible refine Kept.drew ?_ | with_reducible refine Kept.drewN ?_ _ | exact Kept.refl _ _)) (by omega) (fun _ h => h.elim))⟩
          · have hw1 : (x.whole != y.whole) = true := (bool_ne hw).1
            have hw2 : (!x.whole == y.whole) = true := (bool_ne hw).2
            have Hhw := Lib.hid hw
            clear hw
            iterate 40 (refine mix_step rfl (fun K hK => ?_); go_simp; refine hK _ ?_; clear hK K)
            refine mix_done (fun e6 => ?_)
            have HD := Lib.hid (show R = false by
              rw [← HR.out]
              cases hc : sameCs a b with
              | false => rfl
              | true =>
                have hxy := (sameCs_iff.1 hc).2 j x y Hx.out Hy.out
                unfold sameC at hxy
                simp [Hhw.out] at hxy)
            clear HR
            go_wp2
            try rw [Exit.noGoto_ret]
            go_ret
            exact ⟨by rw [HD.out] <;> rfl, (Kept.to_below' (S := fun _ => False) (by repeat (first | with_reducible refine Kept.more ?_ _ | with_reducible refine Kept.alloc ?_ _ | with_reducible refine Kept.drew ?_ | with_reducible refine Kept.drewN ?_ _ | exact Kept.refl _ _)) (by omega) (fun _ h => h.elim))⟩
      · have hjn : j = a.length := by omega
        subst hjn
        have HD := Lib.hid (show R = true by
          rw [← HR.out]
          exact sameCs_iff.2 ⟨Hl.out, fun i x y hx hy => HE.out i (List.getElem?_eq_some_iff.1 hx).1 x y hx hy⟩)
        clear HR
        go_wp2
        try rw [Exit.noGoto_ret]
        go_ret
        exact ⟨by rw [HD.out] <;> rfl, (Kept.to_below' (S := fun _ => False) (by repeat (first | with_reducible refine Kept.more ?_ _ | with_reducible refine Kept.alloc ?_ _ | with_reducible refine Kept.drew ?_ | with_reducible refine Kept.drewN ?_ _ | exact Kept.refl _ _)) (by omega) (fun _ h => h.elim))⟩
  · have hneq : ((a.length : Int) != (b.length : Int)) = true := by simp; omega
    have HD := Lib.hid (show R = false by
      rw [← HR.out]
      cases hc : sameCs a b with
      | false => rfl
      | true => exact absurd (sameCs_iff.1 hc).1 hl)
    clear HR
    go_enter Try.func21, Try.ntmps21
    go_wp2
    go_ret
    exact ⟨by rw [HD.out] <;> rfl, (Kept.to_below' (S := fun _ => False) (by repeat (first | with_reducible refine Kept.more ?_ _ | with_reducible refine Kept.alloc ?_ _ | with_reducible refine Kept.drew ?_ | with_reducible refine Kept.drewN ?_ _ | exact Kept.refl _ _)) (by omega) (fun _ h => h.elim))⟩
end Go.Proofs.Ytibolfdgbbaclaa

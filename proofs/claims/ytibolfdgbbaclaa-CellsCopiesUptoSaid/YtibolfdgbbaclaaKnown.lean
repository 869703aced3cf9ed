/-
  What is proved: the law's ent and known: what the chapter's example fixes.
  Conditions: bounds under which nothing wraps.
-/
import Derived.Test.YtibolfdgbbaclaaDone
open Go Go.RowKit Go.Ice
namespace Go.Proofs.Ytibolfdgbbaclaa
set_option maxRecDepth 100000
set_option linter.unusedVariables false
set_option linter.unusedSimpArgs false
attribute [local go_sem] gives givesUpon later_self more_cell more_frozen more_block more_more more_drew more_setCell more_of_drew more_of_drewN more_size lt_plus lt_plus2 lt_plus3 lt_plus4 swap_size swap_cell swap_frozen swap_setCell swap_drew swap_drewN ne_low ne_low1 ne_low2 ne_low3 ne_low4 Instr.field part asAgg List.extract_toArray List.extract_eq_take_drop
def entI (k : ByteArray) (s : Int) : Ent := ⟨k, s, 0, 0, false, []⟩
theorem ent_any (k : ByteArray) (s : Int) (w : World) : Calls Try.prog 31 #[.string k, .int .i64 s] w fun e w' => e = .returned (.agg #[.string k, .int .i64 s, .int .i64 0, .int .i64 0, .bool false, .slice none 0 0]) ∧ Below w.heap.size w w' := by
  go_enter Try.func31, Try.ntmps31
  repeat go_step
  exact bodyPost_ret (v := .agg #[.string k, .int .i64 s, .int .i64 0, .int .i64 0, .bool false, .slice none 0 0]) (by simp [results, Try.results31, go_sem]) rfl ⟨rfl, (Kept.to_below (S := fun _ => False) (by repeat (first | with_reducible refine Kept.more ?_ _ | with_reducible refine Kept.alloc ?_ _ | with_reducible refine Kept.drew ?_ | with_reducible refine Kept.drewN ?_ _ | exact Kept.refl _ _)) (fun _ h => h.elim))⟩
theorem inv_fresh (r : Room) (h : roomOk r) : Inv (freshT r) 0 := by
  obtain ⟨h1, h2, h3, h4, h5, h6⟩ := h
  refine { keys := by simp [freshT, fresh0], used := fun c hc => (by cases hc), distinct := fun c hc => (by cases hc), bytes := rfl, size := fun c hc => (by cases hc), len := ?_, cells := h2, fits := ?_, room := h4, b0 := h5, b1 := h6, toks := ?_, uses0 := Int.le_refl _, uses1 := Int.le_refl _, tok := ?_ }
  · show (0 : Int) ≤ r.cells
    omega
  · show (0 : Int) ≤ r.bytes
    omega
  · simp [freshT, fresh0]
  · intro t ht
    have : t = if r.fresh then 0 else 1 := List.eq_of_mem_replicate ht
    subst this
    show 0 ≤ (if r.fresh = true then (0 : Int) else 1) ∧ (if r.fresh = true then (0 : Int) else 1) + (0 : Int) ≤ 1 + 0
    split <;> omega
def kB : ByteArray := ⟨#[107]⟩
def jB : ByteArray := ⟨#[106]⟩
def kRoom : Room := ⟨1, 99, 1, true⟩
theorem hb1 (k : ByteArray) : hbucket k 1 = 0 := Int.emod_one _
def kT0 : Tab := ⟨kRoom, [], [0], 0, 0⟩
def kT1 (sv : Value) : Tab := ⟨kRoom, [⟨entI kB 1, true, false, 1, sv⟩], [0], 1, 1⟩
def kT2 (sv : Value) : Tab := ⟨kRoom, [⟨entI kB 1, true, true, 1, sv⟩], [0], 1, 1⟩
def kT3 (sv : Value) : Tab := ⟨kRoom, [⟨entI jB 1, true, false, 2, sv⟩], [1], 2, 1⟩
theorem kT0_eq : freshT kRoom = kT0 := rfl
theorem ok_k : okE (entI kB 1) := by decide
theorem ok_j : okE (entI jB 1) := by decide
theorem jk_ne : ¬ jB = kB := by decide
theorem kj_ne : ¬ kB = jB := by decide
theorem kSize : esize (entI kB 1) = 1 := rfl
theorem jSize : esize (entI jB 1) = 1 := rfl
theorem k1 (sv : Value) : storedA kT0 (entI kB 1) sv = (kT1 sv, 0) := by
  unfold storedA
  rw [if_pos ⟨ok_k, by decide⟩]
  have hf : cfind kT0.L (entI kB 1).key = none := rfl
  have hv : victims kT0 (entI kB 1) = ([], true) := rfl
  unfold stored made
  rw [hf, hv]
  simp only [if_true, List.foldl_nil]
  have ht : tokAt kT0 (entI kB 1).key = 0 := by
    show kT0.tok.getD (hbucket _ 1).toNat 0 = 0
    rw [hb1]; rfl
  rw [ht]
  rfl
theorem k2 (sv sv' : Value) : storedA (kT1 sv') (entI jB 1) sv = (kT1 sv', 30) := by
  unfold storedA
  rw [if_pos ⟨ok_j, by decide⟩]
  have hf : cfind (kT1 sv').L (entI jB 1).key = none := by
    unfold cfind kT1 entI
    simp [kj_ne]
  have hv : (victims (kT1 sv') (entI jB 1)).2 = false := by
    unfold victims
    rw [hf]
    have hl : left_ (kT1 sv').L (entI jB 1).key [] = 0 := rfl
    rw [hl]
    rw [vict_none]
    · left; show (1 : Int) < ([_] : List Cel).length + 1; simp
    · rfl
  unfold stored
  rw [hf, hv]
  rfl
theorem k3 (sv' : Value) : cleanedA (kT1 sv') kB ⟨1, 0, 0⟩ = (kT2 sv', true) := by
  have hf : cfind (kT1 sv').L kB = some ⟨entI kB 1, true, false, 1, sv'⟩ := by
    unfold cfind kT1 entI
    simp
  unfold cleanedA
  rw [hf]
  have ht : ¬ 0 < tcmp (tagE (entI kB 1)) ⟨1, 0, 0⟩ := by decide
  simp only [if_neg ht]
  have : (cfind (kT1 sv').L kB).isSome = true := by rw [hf]; rfl
  unfold cleaned cput
  have hk : ({ ({ e := entI kB 1, whole := true, clean := false, used := 1, sv := sv' } : Cel) with clean := true } : Cel).e.key = kB := rfl
  rw [hk, if_pos this]
  unfold kT1 kT2 entI
  simp
theorem k4 (sv sv' : Value) : storedA (kT2 sv') (entI jB 1) sv = (kT3 sv, 0) := by
  unfold storedA
  rw [if_pos ⟨ok_j, by decide⟩]
  have hf : cfind (kT2 sv').L (entI jB 1).key = none := by
    unfold cfind kT2 entI
    simp [kj_ne]
  have hw : worst (kT2 sv').L (entI jB 1).key [] = some ⟨entI kB 1, true, true, 1, sv'⟩ := by
    unfold worst kT2 cand entI
    simp [kj_ne, hasB, best, better]
  have hv : victims (kT2 sv') (entI jB 1) = ([kB], true) := by
    unfold victims
    rw [hf]
    have hl : left_ (kT2 sv').L (entI jB 1).key [] = 1 := by
      unfold left_ kT2 cand entI
      simp [kj_ne, hasB]
    rw [hl]
    rw [vict_some (c := ⟨entI kB 1, true, true, 1, sv'⟩) (by left; show (1 : Int) < ([_] : List Cel).length + 1; simp) hw]
    rw [vict_fits]
    · rfl
    · show ¬ (1 : Int) < ([_] : List Cel).length + 1 - 1; simp
    · show ¬ (99 : Int) < 1 + 1 - 0 - 1; omega
  unfold stored made
  rw [hf, hv]
  simp only [if_true, List.foldl_cons, List.foldl_nil]
  have ht : tokAt (kT2 sv') (entI jB 1).key = 0 := by
    show (kT2 sv').tok.getD (hbucket _ 1).toNat 0 = 0
    rw [hb1]; rfl
  rw [ht]
  have hd : dropped hbucket (kT2 sv') kB = ⟨kRoom, [], [1], 1, 0⟩ := by
    unfold dropped
    have h1 : hbucket kB (kT2 sv').room.buckets = 0 := hb1 kB
    have h2 : cdel (kT2 sv').L kB = [] := by
      unfold cdel kT2 entI
      simp
    have h3 : cfind (kT2 sv').L kB = some ⟨entI kB 1, true, true, 1, sv'⟩ := by
      unfold cfind kT2 entI
      simp
    rw [h1, h2, h3]
    rfl
  rw [hd]
  rfl
theorem k5 (sv : Value) : queried (kT3 sv) kB = (kT3 sv, ⟨zeroE kB, false, 1⟩, 0) := by
  unfold queried
  rw [if_neg (by decide)]
  have hf : cfind (kT3 sv).L kB = none := by
    unfold cfind kT3 entI
    simp [jk_ne]
  have ht : tokAt (kT3 sv) kB = 1 := by
    show (kT3 sv).tok.getD (hbucket _ 1).toNat 0 = 1
    rw [hb1]; rfl
  rw [hf, ht]
  rfl
theorem kRoom_ok : roomOk kRoom := by unfold roomOk kRoom; decide
theorem ki0 : Inv kT0 0 := inv_fresh kRoom kRoom_ok
theorem ki1 (sv : Value) : Inv (kT1 sv) 1 := by have := inv_storedA ki0 (entI kB 1) sv; rwa [k1] at this
theorem ki2 (sv : Value) : Inv (kT2 sv) 2 := by have := inv_cleanedA (ki1 sv) kB ⟨1, 0, 0⟩; rwa [k3] at this
theorem ki3 (sv : Value) : Inv (kT3 sv) 3 := by have := inv_storedA (ki2 sv) (entI jB 1) sv; rwa [k4] at this
theorem ks1 {w : World} {bt bm bk : Nat} (h : IsTab w bt bm bk kT0) : Calls Try.prog 30 #[.pointer (some ⟨bt, 0, none⟩), .agg #[.string ⟨#[107]⟩, .int .i64 1, .int .i64 0, .int .i64 0, .bool false, .slice none 0 0]] w fun en w' => ∃ sv, en = .returned (.int .i64 0) ∧ IsTab w' bt bm bk (kT1 sv) ∧ Kept (foot bt bm bk) w w' := by
  refine (store_any h ki0 (by omega) (entI kB 1) (.slice none 0 0) (fun _ => False) (Bts.nil _ _) (by decide) (fun b h => h.elim)).mono ?_
  rintro en w' ⟨sv, rfl, h1, h2⟩
  rw [k1] at h1 ⊢
  exact ⟨sv, rfl, h1, h2⟩
theorem ks2 {w : World} {bt bm bk : Nat} {sv' : Value} (h : IsTab w bt bm bk (kT1 sv')) : Calls Try.prog 30 #[.pointer (some ⟨bt, 0, none⟩), .agg #[.string ⟨#[106]⟩, .int .i64 1, .int .i64 0, .int .i64 0, .bool false, .slice none 0 0]] w fun en w' => en = .returned (.int .i64 30) ∧ IsTab w' bt bm bk (kT1 sv') ∧ Kept (foot bt bm bk) w w' := by
  refine (store_any h (ki1 sv') (by omega) (entI jB 1) (.slice none 0 0) (fun _ => False) (Bts.nil _ _) (by decide) (fun b h => h.elim)).mono ?_
  rintro en w' ⟨sv, rfl, h1, h2⟩
  rw [k2] at h1 ⊢
  exact ⟨rfl, h1, h2⟩
theorem ks3 {w : World} {bt bm bk : Nat} {sv' : Value} (h : IsTab w bt bm bk (kT1 sv')) : Calls Try.prog 32 #[.pointer (some ⟨bt, 0, none⟩), .string ⟨#[107]⟩, .agg #[.int .i64 1, .int .i64 0, .int .i64 0]] w fun en w' => en = .returned (.bool true) ∧ IsTab w' bt bm bk (kT2 sv') ∧ Kept (foot bt bm bk) w w' := by
  refine (clean_any h kB ⟨1, 0, 0⟩).mono ?_
  rintro en w' ⟨rfl, h1, h2⟩
  rw [k3] at h1 ⊢
  exact ⟨rfl, h1, h2⟩
theorem ks4 {w : World} {bt bm bk : Nat} {sv' : Value} (h : IsTab w bt bm bk (kT2 sv')) : Calls Try.prog 30 #[.pointer (some ⟨bt, 0, none⟩), .agg #[.string ⟨#[106]⟩, .int .i64 1, .int .i64 0, .int .i64 0, .bool false, .slice none 0 0]] w fun en w' => ∃ sv, en = .returned (.int .i64 0) ∧ IsTab w' bt bm bk (kT3 sv) ∧ Kept (foot bt bm bk) w w' := by
  refine (store_any h (ki2 sv') (by omega) (entI jB 1) (.slice none 0 0) (fun _ => False) (Bts.nil _ _) (by decide) (fun b h => h.elim)).mono ?_
  rintro en w' ⟨sv, rfl, h1, h2⟩
  rw [k4] at h1 ⊢
  exact ⟨sv, rfl, h1, h2⟩
theorem ks5 {w : World} {bt bm bk : Nat} {sv : Value} (h : IsTab w bt bm bk (kT3 sv)) : Calls Try.prog 13 #[.pointer (some ⟨bt, 0, none⟩), .string ⟨#[107]⟩] w fun en w' => ∃ A n, en = .returned (.tuple #[.agg #[.string ⟨#[107]⟩, .int .i64 0, .int .i64 0, .int .i64 0, .bool false, .slice A 0 n, .bool false, .int .i64 1], .int .i64 0]) ∧ Kept (foot bt bm bk) w w' := by
  refine (query_any h (ki3 sv) (by omega) kB (by decide)).mono ?_
  rintro en w' ⟨A, n, rfl, _, _, h2⟩
  rw [k5]
  exact ⟨A, n, rfl, h2⟩
theorem below_alloc {B : Nat} {w w' : World} {o : Obj} (hB : B ≤ w.heap.size) (h : Below (w.alloc o).heap.size (w.alloc o) w') : Below B w w' := by
  have h1 : Below B w (w.alloc o) := (Below.refl _ _).alloc hB o
  exact h1.trans (h.mono (by rw [alloc_size]; omega))
theorem foot_below {bt bm bk : Nat} {w w1 w' : World} (hB : Below w.heap.size w w1) (h : Kept (foot bt bm bk) w1 w') (h1 : w.heap.size ≤ bt) (h2 : w.heap.size ≤ bm) (h3 : w.heap.size ≤ bk) : Below w.heap.size w w' :=
  (Kept.trans (Kept.of_below (S := foot bt bm bk) hB) h).to_below fun k hk => by rcases hk with h | h | h <;> omega
set_option maxHeartbeats 1000000 in
theorem known_any (w : World) : Calls Try.prog 10 #[] w fun e w' => e = .returned (.bool true) ∧ Below w.heap.size w w' := by
  go_enter Try.func10, Try.ntmps10
  go_wp2_with fail
  refine (new_ok kRoom kRoom_ok).mono ?_
  rintro e1 w1 ⟨bt, bm, bk, rfl, hI, hB1, g1, g2, g3⟩
  rw [kT0_eq] at hI
  have HI := Lib.hid hI
  have HB := Lib.hid hB1
  have sz1 := hB1.size
  clear hI hB1
  dsimp only
  go_wp2_with (go_at_call 31; refine (ent_any _ _ _).mono ?_; rintro x1_e x1_w ⟨rfl, x1_B⟩; obtain ⟨x1, rfl⟩ := later_of_below x1_B; clear x1_B)
  refine (ks1 (HI.out.below (Kept.to_below (S := fun _ => False) (by repeat (first | with_reducible refine Kept.more ?_ _ | with_reducible refine Kept.alloc ?_ _ | with_reducible refine Kept.drew ?_ | with_reducible refine Kept.drewN ?_ _ | exact Kept.refl _ _)) (fun _ h => h.elim)))).mono ?_
  rintro e2 w2 ⟨sv1, rfl, hI2, hK2⟩
  have HI2 := Lib.hid hI2
  have HB2 := Lib.hid (foot_below (HB.out.trans (Kept.to_below' (S := fun _ => False) (by repeat (first | with_reducible refine Kept.more ?_ _ | with_reducible refine Kept.alloc ?_ _ | with_reducible refine Kept.drew ?_ | with_reducible refine Kept.drewN ?_ _ | exact Kept.refl _ _)) (by omega) (fun _ h => h.elim))) hK2 g1 g2 g3)
  have sz2 := HB2.out.size
  clear hI2 hK2 HI HB
  dsimp only
  go_wp2_with (go_at_call 31; refine (ent_any _ _ _).mono ?_; rintro x2_e x2_w ⟨rfl, x2_B⟩; obtain ⟨x2, rfl⟩ := later_of_below x2_B; clear x2_B)
  refine (ks2 (HI2.out.below (Kept.to_below (S := fun _ => False) (by repeat (first | with_reducible refine Kept.more ?_ _ | with_reducible refine Kept.alloc ?_ _ | with_reducible refine Kept.drew ?_ | with_reducible refine Kept.drewN ?_ _ | exact Kept.refl _ _)) (fun _ h => h.elim)))).mono ?_
  rintro e3 w3 ⟨rfl, hI3, hK3⟩
  have HI3 := Lib.hid hI3
  have HB3 := Lib.hid (foot_below (HB2.out.trans (Kept.to_below' (S := fun _ => False) (by repeat (first | with_reducible refine Kept.more ?_ _ | with_reducible refine Kept.alloc ?_ _ | with_reducible refine Kept.drew ?_ | with_reducible refine Kept.drewN ?_ _ | exact Kept.refl _ _)) (by omega) (fun _ h => h.elim))) hK3 g1 g2 g3)
  have sz3 := HB3.out.size
  clear hI3 hK3 HI2 HB2
  dsimp only
  go_wp2_with fail
  refine (ks3 (HI3.out.below (Kept.to_below (S := fun _ => False) (by repeat (first | with_reducible refine Kept.more ?_ _ | with_reducible refine Kept.alloc ?_ _ | with_reducible refine Kept.drew ?_ | with_reducible refine Kept.drewN ?_ _ | exact Kept.refl _ _)) (fun _ h => h.elim)))).mono ?_
  rintro e4 w4 ⟨rfl, hI4, hK4⟩
  have HI4 := Lib.hid hI4
  have HB4 := Lib.hid (foot_below (HB3.out.trans (Kept.to_below' (S := fun _ => False) (by repeat (first | with_reducible refine Kept.more ?_ _ | with_reducible refine Kept.alloc ?_ _ | with_reducible refine Kept.drew ?_ | with_reducible refine Kept.drewN ?_ _ | exact Kept.refl _ _)) (by omega) (fun _ h => h.elim))) hK4 g1 g2 g3)
  have sz4 := HB4.out.size
  clear hI4 hK4 HI3 HB3
  dsimp only
  go_wp2_with (go_at_call 31; refine (ent_any _ _ _).mono ?_; rintro x4_e x4_w ⟨rfl, x4_B⟩; obtain ⟨x4, rfl⟩ := later_of_below x4_B; clear x4_B)
  refine (ks4 (HI4.out.below (Kept.to_below (S := fun _ => False) (by repeat (first | with_reducible refine Kept.more ?_ _ | with_reducible refine Kept.alloc ?_ _ | with_reducible refine Kept.drew ?_ | with_reducible refine Kept.drewN ?_ _ | exact Kept.refl _ _)) (fun _ h => h.elim)))).mono ?_
  rintro e5 w5 ⟨sv5, rfl, hI5, hK5⟩
  have HI5 := Lib.hid hI5
  have HB5 := Lib.hid (foot_below (HB4.out.trans (Kept.to_below' (S := fun _ => False) (by repeat (first | with_reducible refine Kept.more ?_ _ | with_reducible refine Kept.alloc ?_ _ | with_reducible refine Kept.drew ?_ | with_reducible refine Kept.drewN ?_ _ | exact Kept.refl _ _)) (by omega) (fun _ h => h.elim))) hK5 g1 g2 g3)
  have sz5 := HB5.out.size
  clear hI5 hK5 HI4 HB4
  dsimp only
  go_wp2_with fail
  refine (ks5 (HI5.out.below (Kept.to_below (S := fun _ => False) (by repeat (first | with_reducible refine Kept.more ?_ _ | with_reducible refine Kept.alloc ?_ _ | with_reducible refine Kept.drew ?_ | with_reducible refine Kept.drewN ?_ _ | exact Kept.refl _ _)) (fun _ h => h.elim)))).mono ?_
  rintro e6 w6 ⟨A6, n6, rfl, hK6⟩
  have HB6 := Lib.hid (foot_below (HB5.out.trans (Kept.to_below' (S := fun _ => False) (by repeat (first | with_reducible refine Kept.more ?_ _ | with_reducible refine Kept.alloc ?_ _ | with_reducible refine Kept.drew ?_ | with_reducible refine Kept.drewN ?_ _ | exact Kept.refl _ _)) (by omega) (fun _ h => h.elim))) hK6 g1 g2 g3)
  have sz6 := HB6.out.size
  clear hK6 HI5 HB5
  dsimp only
  go_wp2_with (go_at_call 30; refine (store_nil (zeroE ⟨#[]⟩) (.slice none 0 0)).mono ?_; rintro e7 w7 ⟨rfl, hB7⟩)
  go_ret
  exact ⟨rfl, HB6.out.trans (below_alloc sz6 hB7)⟩
end Go.Proofs.Ytibolfdgbbaclaa

/-
  What is proved: contracts of the package tags (Check, None, Compare, Right, Copy, Size) and of cmp.Compare, cmp.Or at ints.
  Conditions: lengths at most 2^47.
-/
import Derived.Test.YtibolfdgbbaclaaProg
import Derived.Test.YtibolfdgbbaclaaLaws
import Derived.Outline
import Derived.WalkLawsBesides
import Derived.Handy
open Go Go.RowKit Go.Ice
namespace Go.Proofs.Ytibolfdgbbaclaa
set_option maxRecDepth 100000
set_option linter.unusedVariables false
set_option linter.unusedSimpArgs false
attribute [local go_sem] gives givesUpon later_self more_cell more_frozen more_block more_more more_drew more_setCell more_of_drew more_of_drewN more_size
theorem ret_int {k : IntKind} {a b : Int} (h : a = b) : Ending.returned (.int k a) = .returned (.int k b) := by rw [h]
theorem ret_bool {a b : Bool} (h : a = b) : Ending.returned (.bool a) = .returned (.bool b) := by rw [h]
structure Tag where
  seq : Int
  who : Int
  op : Int
def Tag.v (t : Tag) : Value := .agg #[.int .i64 t.seq, .int .i64 t.who, .int .i64 t.op]
def tagOk (s w o : Int) : Prop := (0 ≤ s ∧ s ≤ 1099511627775 ∧ 0 ≤ w ∧ w ≤ 1048575 ∧ 0 ≤ o ∧ o ≤ 1048575) ∧ ¬ (s = 0 ∧ (w ≠ 0 ∨ o ≠ 0))
instance (s w o : Int) : Decidable (tagOk s w o) := by unfold tagOk; infer_instance
def tagChk (s w o : Int) : Int := if tagOk s w o then 0 else 2
theorem none_any (s w o : Int) (W : World) : Calls Try.prog 52 #[.agg #[.int .i64 s, .int .i64 w, .int .i64 o]] W fun e W' => e = .returned (.bool (s == 0)) ∧ Below W.heap.size W W' := by
  go_enter Try.func52, Try.ntmps52
  go_wp2
  go_ret
  exact ⟨rfl, (Below.refl _ _).alloc (Nat.le_refl _) _⟩
set_option maxHeartbeats 1000000 in
theorem check_any (s w o : Int) (W : World) : Calls Try.prog 59 #[.agg #[.int .i64 s, .int .i64 w, .int .i64 o]] W fun e W' => e = .returned (.int .i64 (tagChk s w o)) ∧ Below W.heap.size W W' := by
  go_enter Try.func59, Try.ntmps59
  go_wp2
  all_goals
    go_ret
    refine ⟨ret_int ?_, (Below.refl _ _).alloc (Nat.le_refl _) _⟩
    unfold tagChk
    first | rw [if_pos (by unfold tagOk; omega)] | rw [if_neg (by unfold tagOk; omega)]
theorem nan_any (x : Int) (W : World) : Calls Try.prog 75 #[.int .i64 x] W fun e W' => e = .returned (.bool false) ∧ W' = W := by
  go_enter Try.func75, Try.ntmps75
  go_wp2
  go_ret
  exact ⟨ret_bool (by simp), rfl⟩
def cmpI (x y : Int) : Int := if x < y then -1 else if y < x then 1 else 0
theorem cmp_any (x y : Int) (W : World) : Calls Try.prog 61 #[.int .i64 x, .int .i64 y] W fun e W' => e = .returned (.int .i64 (cmpI x y)) ∧ W' = W := by
  rcases Int.lt_trichotomy x y with h | h | h
  all_goals
    go_enter Try.func61, Try.ntmps61
    go_wp2_with (go_at_call 75; refine (nan_any _ _).mono ?_; rintro e w' ⟨rfl, rfl⟩)
    go_ret
    refine ⟨ret_int ?_, rfl⟩
    unfold cmpI
    first | rw [if_pos (by omega)] | rw [if_neg (by omega), if_pos (by omega)] | rw [if_neg (by omega), if_neg (by omega)]
def orI (a b c : Int) : Int := if a ≠ 0 then a else if b ≠ 0 then b else c
theorem or3_any (a b c : Int) (g : Nat) (W : World) (h0 : W.cell? ⟨g, 0, none⟩ = some (.int .i64 a)) (h1 : W.cell? ⟨g, 1, none⟩ = some (.int .i64 b)) (h2 : W.cell? ⟨g, 2, none⟩ = some (.int .i64 c)) :
    Calls Try.prog 60 #[.slice (some ⟨g, 0, none⟩) 3 3] W fun e W' => e = .returned (.int .i64 (orI a b c)) ∧ W' = W := by
  have hn : ∀ x : Int, x ≠ 0 → (x != 0) = true := fun x hx => by simpa using hx
  by_cases ha : a = 0
  · subst ha
    by_cases hb : b = 0
    · subst hb
      by_cases hc : c = 0
      · subst hc
        clear hn
        go_enter Try.func60, Try.ntmps60
        go_wp2
        go_rounds 4
        go_ret
        exact ⟨rfl, rfl⟩
      · have hb' := hn c hc
        clear hn hc
        go_enter Try.func60, Try.ntmps60
        go_wp2
        go_rounds 4
        go_ret
        exact ⟨rfl, rfl⟩
    · have hb' := hn b hb
      clear hn
      have Hb := Lib.hid hb
      clear hb
      go_enter Try.func60, Try.ntmps60
      go_wp2
      go_rounds 4
      go_ret
      exact ⟨ret_int (by unfold orI; rw [if_neg (by omega), if_pos Hb.out]), rfl⟩
  · have hb' := hn a ha
    clear hn
    have Ha := Lib.hid ha
    clear ha
    go_enter Try.func60, Try.ntmps60
    go_wp2
    go_rounds 4
    go_ret
    exact ⟨ret_int (by unfold orI; rw [if_pos Ha.out]), rfl⟩
def tcmp (a b : Tag) : Int := orI (cmpI a.seq b.seq) (cmpI a.who b.who) (cmpI a.op b.op)
set_option maxHeartbeats 800000 in
theorem compare_any (a b : Tag) (W : World) : Calls Try.prog 42 #[a.v, b.v] W fun e W' => e = .returned (.int .i64 (tcmp a b)) ∧ Below W.heap.size W W' := by
  obtain ⟨s, w, o⟩ := a
  obtain ⟨s', w', o'⟩ := b
  unfold Tag.v tcmp
  dsimp only
  go_enter Try.func42, Try.ntmps42
  go_wp2
  refine wp_region_mix_lit [(0,false),(1,false),(2,false),(3,false),(4,false),(5,false),(6,false),(7,false),(8,false),(9,false),(10,false),(11,false),(12,false),(13,false),(14,false),(15,true),(16,true),(17,false)] (by kernel_rfl) (by kernel_rfl) ?_
  iterate 3
    (repeat (refine mix_step rfl (fun K hK => ?_); go_simp; refine hK _ ?_; clear hK K))
    refine mix_step rfl (fun K hK => ?_)
    go_simp
    refine Exists.intro _ ⟨fun _ _ => call_gives_same (cmp_any _ _ _), hK _ ?_⟩
    clear hK K
  refine mix_loud rfl rfl (by kernel_rfl) (fun e K hK => ?_)
  go_wp2_with fail
  refine mix_loud rfl rfl (by kernel_rfl) (fun e2 K hK => ?_)
  go_wp2_with fail
  refine (or3_any (cmpI s s') (cmpI w w') (cmpI o o') _ _ (by go_simp) (by go_simp) (by go_simp)).mono ?_
  rintro e3 w3 ⟨rfl, rfl⟩
  go_wp2_with fail
  refine mix_step rfl (fun K hK => ?_); go_simp; refine hK _ ?_; clear hK K
  refine mix_done (fun e4 => ?_)
  go_wp2
  go_ret
  refine ⟨rfl, ?_⟩
  exact (Kept.to_below (S := fun _ => False) (by repeat (first | with_reducible refine Kept.more ?_ _ | with_reducible refine Kept.alloc ?_ _ | with_reducible refine Kept.drew ?_ | with_reducible refine Kept.drewN ?_ _ | exact Kept.refl _ _)) (fun _ h => h.elim))
def entOk (kl bl : Nat) (h : Bool) (s w o : Int) : Prop := 1 ≤ kl ∧ kl ≤ 250 ∧ bl ≤ 60000 ∧ ¬ (h = false ∧ 0 < bl) ∧ tagOk s w o ∧ ¬ (s = 0 ∧ h = true)
instance (kl bl : Nat) (h : Bool) (s w o : Int) : Decidable (entOk kl bl h s w o) := by unfold entOk; infer_instance
def entChk (kl bl : Nat) (h : Bool) (s w o : Int) : Int := if entOk kl bl h s w o then 0 else 2
theorem size_zero {k : ByteArray} (h0 : k.size = 0) : k = ByteArray.empty := by
  obtain ⟨d⟩ := k
  have : d = #[] := Array.eq_empty_of_size_eq_zero h0
  rw [this]; rfl
set_option maxHeartbeats 1600000 in
theorem right_any (k : ByteArray) (s w o : Int) (h : Bool) (A : Option Addr) (n c : Nat) (W : World) (hk : k.size ≤ 140737488351232) (hn : n ≤ 140737488351232) :
    Calls Try.prog 41 #[.agg #[.string k, .int .i64 s, .int .i64 w, .int .i64 o, .bool h, .slice A n c]] W fun e W' => e = .returned (.int .i64 (entChk k.size n h s w o)) ∧ Below W.heap.size W W' := by
  have hchk : ∀ x, Calls Try.prog 59 #[.agg #[.int .i64 s, .int .i64 w, .int .i64 o]] x fun e W' => e = .returned (.int .i64 (tagChk s w o)) ∧ Below x.heap.size x W' := fun x => check_any s w o x
  have hcases : (k.size = 0 ∨ (((k.size : Int) == 0) = false ∧ 1 ≤ k.size)) ∧ (k.size ≤ 250 ∨ 250 < k.size) ∧ (n ≤ 60000 ∨ 60000 < n) := by
    refine ⟨?_, Nat.lt_or_ge 250 k.size |>.symm, Nat.lt_or_ge 60000 n |>.symm⟩
    rcases Nat.eq_zero_or_pos k.size with h0 | h0
    · exact .inl h0
    · exact .inr ⟨beq_eq_false_iff_ne.2 (by omega), h0⟩
  obtain ⟨hk0, hk2, hn2⟩ := hcases
  have close2 : ∀ W', ¬ entOk k.size n h s w o → Below W.heap.size W W' → (Ending.returned (.int .i64 2) = Ending.returned (.int .i64 (entChk k.size n h s w o)) ∧ Below W.heap.size W W') := fun W' h1 h2 => ⟨by unfold entChk; rw [if_neg h1], h2⟩
  have Hclose := Lib.hid close2
  clear close2
  rcases hk0 with hk0 | ⟨hk0, hk1⟩
  · have hkk := size_zero hk0
    subst hkk
    have Hchk := Lib.hid hchk
    clear hchk hk0 hk2 hn2
    go_enter Try.func41, Try.ntmps41
    go_wp2
    go_ret
    exact Hclose.out _ (fun hh => by have := hh.1; simp at this) ((Below.refl _ _).alloc (Nat.le_refl _) _)
  rcases hk2 with hk2 | hk2
  case inr =>
    have Hchk := Lib.hid hchk
    clear hchk hn2
    go_enter Try.func41, Try.ntmps41
    go_wp2
    go_ret
    exact Hclose.out _ (fun hh => by have := hh.2.1; omega) ((Below.refl _ _).alloc (Nat.le_refl _) _)
  rcases hn2 with hn2 | hn2
  case inr =>
    have Hchk := Lib.hid hchk
    clear hchk
    go_enter Try.func41, Try.ntmps41
    go_wp2
    go_ret
    exact Hclose.out _ (fun hh => by have := hh.2.2.1; omega) ((Below.refl _ _).alloc (Nat.le_refl _) _)
  by_cases hb : h = false ∧ 0 < n
  · obtain ⟨rfl, hb2⟩ := hb
    have Hchk := Lib.hid hchk
    clear hchk
    go_enter Try.func41, Try.ntmps41
    go_wp2
    go_ret
    exact Hclose.out _ (fun hh => hh.2.2.2.1 ⟨rfl, hb2⟩) ((Below.refl _ _).alloc (Nat.le_refl _) _)
  have hd : h = true ∨ (h = false ∧ n = 0) := by
    cases h
    · exact .inr ⟨rfl, by have : ¬ 0 < n := fun h0 => hb ⟨rfl, h0⟩; omega⟩
    · exact .inl rfl
  clear hb
  by_cases ht : tagOk s w o
  · have e0 : tagChk s w o = 0 := if_pos ht
    rw [e0] at hchk
    have Hchk := Lib.hid hchk
    have Ht := Lib.hid ht
    clear hchk ht e0
    by_cases hs0 : s = 0
    · subst hs0
      rcases hd with rfl | ⟨rfl, rfl⟩
      · go_enter Try.func41, Try.ntmps41
        go_wp2_with (first | (go_at_call 59; refine (Hchk.out _).mono ?_; rintro x1_e x1_w ⟨rfl, x1_B⟩; obtain ⟨x1, rfl⟩ := later_of_below x1_B; clear x1_B) | (go_at_call 52; refine (none_any _ _ _ _).mono ?_; rintro x2_e x2_w ⟨rfl, x2_B⟩; obtain ⟨x2, rfl⟩ := later_of_below x2_B; clear x2_B))
        go_ret
        exact Hclose.out _ (fun hh => hh.2.2.2.2.2 ⟨rfl, rfl⟩) (Kept.to_below (S := fun _ => False) (by repeat (first | with_reducible refine Kept.more ?_ _ | with_reducible refine Kept.alloc ?_ _ | with_reducible refine Kept.drew ?_ | with_reducible refine Kept.drewN ?_ _ | exact Kept.refl _ _)) (fun _ h => h.elim))
      · go_enter Try.func41, Try.ntmps41
        go_wp2_with (first | (go_at_call 59; refine (Hchk.out _).mono ?_; rintro x1_e x1_w ⟨rfl, x1_B⟩; obtain ⟨x1, rfl⟩ := later_of_below x1_B; clear x1_B) | (go_at_call 52; refine (none_any _ _ _ _).mono ?_; rintro x2_e x2_w ⟨rfl, x2_B⟩; obtain ⟨x2, rfl⟩ := later_of_below x2_B; clear x2_B))
        go_ret
        refine ⟨ret_int ?_, (Kept.to_below (S := fun _ => False) (by repeat (first | with_reducible refine Kept.more ?_ _ | with_reducible refine Kept.alloc ?_ _ | with_reducible refine Kept.drew ?_ | with_reducible refine Kept.drewN ?_ _ | exact Kept.refl _ _)) (fun _ h => h.elim))⟩
        unfold entChk
        rw [if_pos (by exact ⟨hk1, hk2, by omega, fun h => absurd h.2 (by omega), Ht.out, fun h => by cases h.2⟩)]
    · have hs1 : (s == 0) = false := by simpa using hs0
      have Hs := Lib.hid hs0
      clear hs0
      rcases hd with rfl | ⟨rfl, rfl⟩
      · go_enter Try.func41, Try.ntmps41
        go_wp2_with (first | (go_at_call 59; refine (Hchk.out _).mono ?_; rintro x1_e x1_w ⟨rfl, x1_B⟩; obtain ⟨x1, rfl⟩ := later_of_below x1_B; clear x1_B) | (go_at_call 52; refine (none_any _ _ _ _).mono ?_; rintro x2_e x2_w ⟨rfl, x2_B⟩; obtain ⟨x2, rfl⟩ := later_of_below x2_B; clear x2_B))
        go_ret
        refine ⟨ret_int ?_, (Kept.to_below (S := fun _ => False) (by repeat (first | with_reducible refine Kept.more ?_ _ | with_reducible refine Kept.alloc ?_ _ | with_reducible refine Kept.drew ?_ | with_reducible refine Kept.drewN ?_ _ | exact Kept.refl _ _)) (fun _ h => h.elim))⟩
        unfold entChk
        rw [if_pos (by exact ⟨hk1, hk2, by omega, fun h => absurd h.1 (by simp), Ht.out, fun h => Hs.out h.1⟩)]
      · go_enter Try.func41, Try.ntmps41
        go_wp2_with (first | (go_at_call 59; refine (Hchk.out _).mono ?_; rintro x1_e x1_w ⟨rfl, x1_B⟩; obtain ⟨x1, rfl⟩ := later_of_below x1_B; clear x1_B) | (go_at_call 52; refine (none_any _ _ _ _).mono ?_; rintro x2_e x2_w ⟨rfl, x2_B⟩; obtain ⟨x2, rfl⟩ := later_of_below x2_B; clear x2_B))
        go_ret
        refine ⟨ret_int ?_, (Kept.to_below (S := fun _ => False) (by repeat (first | with_reducible refine Kept.more ?_ _ | with_reducible refine Kept.alloc ?_ _ | with_reducible refine Kept.drew ?_ | with_reducible refine Kept.drewN ?_ _ | exact Kept.refl _ _)) (fun _ h => h.elim))⟩
        unfold entChk
        rw [if_pos (by exact ⟨hk1, hk2, by omega, fun h => absurd h.2 (by omega), Ht.out, fun h => Hs.out h.1⟩)]
  · have e0 : tagChk s w o = 2 := if_neg ht
    rw [e0] at hchk
    have Hchk := Lib.hid hchk
    have Ht := Lib.hid ht
    clear hchk ht e0
    rcases hd with rfl | ⟨rfl, rfl⟩
    all_goals
        go_enter Try.func41, Try.ntmps41
        go_wp2_with (first | (go_at_call 59; refine (Hchk.out _).mono ?_; rintro x1_e x1_w ⟨rfl, x1_B⟩; obtain ⟨x1, rfl⟩ := later_of_below x1_B; clear x1_B) | (go_at_call 52; refine (none_any _ _ _ _).mono ?_; rintro x2_e x2_w ⟨rfl, x2_B⟩; obtain ⟨x2, rfl⟩ := later_of_below x2_B; clear x2_B))
        go_ret
        exact Hclose.out _ (fun hh => Ht.out hh.2.2.2.2.1) (Kept.to_below (S := fun _ => False) (by repeat (first | with_reducible refine Kept.more ?_ _ | with_reducible refine Kept.alloc ?_ _ | with_reducible refine Kept.drew ?_ | with_reducible refine Kept.drewN ?_ _ | exact Kept.refl _ _)) (fun _ h => h.elim))
theorem size_any (k : ByteArray) (x y z : Int) (h : Bool) (a : Option Addr) (n c : Nat) (w : World) (hk : k.size ≤ 140737488351232) (hn : n ≤ 140737488351232) :
    Calls Try.prog 55 #[.agg #[.string k, .int .i64 x, .int .i64 y, .int .i64 z, .bool h, .slice a n c]] w fun e w' => e = .returned (.int .i64 (k.size + n)) ∧ Below w.heap.size w w' := by
  go_enter Try.func55, Try.ntmps55
  go_wp2
  go_ret
  exact ⟨rfl, (Below.refl _ _).alloc (Nat.le_refl _) _⟩
end Go.Proofs.Ytibolfdgbbaclaa

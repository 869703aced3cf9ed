/-
  What is proved: contracts of slices.Clone at []int and of the method Tokens of a table of cells.
  Conditions: bounds under which nothing wraps.
-/
import Derived.Test.YtibolfdgbbaclaaCellsFill
import Derived.Laws.Cover3
open Go Go.RowKit Go.Ice
namespace Go.Proofs.Ytibolfdgbbaclaa
set_option maxRecDepth 100000
set_option linter.unusedVariables false
set_option linter.unusedSimpArgs false
attribute [local go_sem] gives givesUpon later_self more_cell more_frozen more_block more_more more_drew more_setCell more_of_drew more_of_drewN more_size lt_plus lt_plus2 lt_plus3 lt_plus4 Instr.field part asAgg List.extract_toArray List.extract_eq_take_drop
def intV (l : List Int) : List Value := l.map (Value.int .i64)
theorem intV_len (l : List Int) : (intV l).length = l.length := by simp [intV]
theorem int_info : (Try.prog.info? 3).map (fun i => (i.zero, i.size, i.bytes)) = some (some (.int .i64 0), 1, 8) := by kernel_rfl
theorem range_getD (l : List Value) : (List.range (l.length * 1)).map (fun j => l.getD j undef) = l := by
  apply List.ext_getElem
  · simp
  · intro j h1 h2
    simp at h1
    simp [List.getD_eq_getElem?_getD, List.getElem?_eq_getElem h2]
set_option maxHeartbeats 800000 in
theorem clone_any (w : World) (N : Nat → Prop) (b : Nat) (o : Nat) (cc : Nat) (l : List Int) (h : Row w N (some ⟨b, o, none⟩) l.length (fun j => (intV l).getD j undef)) (hl : l.length ≤ 1000000) :
    Calls Try.prog 40 #[.slice (some ⟨b, o, none⟩) l.length cc] w fun en w' => ∃ v, en = .returned v ∧ Rows w' (fun b => w.heap.size ≤ b) v (intV l) ∧ Below w.heap.size w w' := by
  obtain ⟨i0, hi, hz0, hz1, hz2⟩ := info_parts int_info
  have Hi := Lib.hid (And.intro hi (And.intro hz0 (And.intro hz1 hz2)))
  have Hr := Lib.hid h
  clear hi hz0 hz1 hz2 h
  have hen : ∀ W : World, (binOp .eql 55 (.slice (some ⟨b, o, none⟩) l.length cc) (.slice none 0 0)).run Try.prog W = .ok (.bool false) W := fun W => by
    have he := run_equal_slice_nil (P := Try.prog) (w := W) 55 3 (some ⟨b, o, none⟩) l.length cc Try.underlying55
    simp only [binOp, Sem.run_bind, he, Result.andThen, Sem.run_pure]
    rfl
  go_enter Try.func40, Try.ntmps40
  go_wp2_with (
    at_builtin
    refine wpList_append_row (o := ⟨some 7, .call { callee := .builtin .append, args := #[.tmp 5, .tmp 6], argTypes := #[55, 55] }, _, _, _, _⟩) rfl (.tmp 5) (.tmp 6) 55 rfl w.heap.size 3 i0 (.int .i64 0) 1 8 Try.underlying55 Hi.out.1 Hi.out.2.1 Hi.out.2.2.1 Hi.out.2.2.2 rfl (by omega) (.slice (some ⟨w.heap.size, 0, none⟩) 0 0) 0 [] rfl ⟨rfl, .inr ⟨w.heap.size, 0, #[], rfl, Nat.le_refl _, Blk.of_alloc w _ _, Nat.le_refl _, by simp [maxLen], rfl, rfl⟩⟩ N (some ⟨b, o, none⟩) l.length cc (fun j => (intV l).getD j undef) rfl ?c1 ?c2 (by simp only [maxLen]; omega) (by omega) (by rw [alloc_size]; omega) ?_
    case c1 => rw [Nat.mul_one]; exact Hr.out.below ((Below.refl _ _).alloc (Nat.le_refl _) _)
    case c2 =>
      intro j hj
      have hj' : j < l.length := by omega
      simp [intV, List.getD_eq_getElem?_getD, List.getElem?_eq_getElem hj', Value.oneCell']
    intro v1 w1 hown hg hat)

  go_ret
  have e1 : [] ++ (List.range (l.length * 1)).map (fun j => (intV l).getD j undef) = intV l := by
    rw [List.nil_append]
    have := range_getD (intV l)
    rwa [intV_len] at this
  rw [e1] at hown
  refine ⟨v1, rfl, rows_of_own hown (fun b h => h) (by rw [intV_len]; omega), ?_⟩
  exact ((Below.refl _ _).alloc (Nat.le_refl _) _).grown hg (by rw [alloc_size]; omega) (by intro k hk; cases hk; exact Nat.le_refl _)
set_option maxHeartbeats 800000 in
theorem tokens_any {w : World} {bt bm bk : Nat} {T : Tab} (h : IsTab w bt bm bk T) (hl : T.tok.length ≤ 1000000) :
    Calls Try.prog 17 #[.pointer (some ⟨bt, 0, none⟩)] w fun en w' => ∃ v, en = .returned v ∧ Rows w' (fun b => w.heap.size ≤ b) v (intV T.tok) ∧ Below w.heap.size w w' := by
  obtain ⟨cap, tc, hT, hTk, htc, hcell, hfro, hfrk, hcelk⟩ := h.open_
  have c5 : w.cell? ⟨bt, 5, none⟩ = some (.slice (some ⟨bk, 0, none⟩) T.tok.length cap) := hcell 5
  have Hc := Lib.hid (clone_any w (fun b => b = bk) bk 0 cap T.tok (fun _ => ⟨bk, 0, rfl, rfl, fun j hj => by
    rw [Nat.zero_add]
    have := hcelk j _ (List.getElem?_eq_getElem hj)
    rw [this]
    simp [intV, List.getD_eq_getElem?_getD, List.getElem?_eq_getElem hj]⟩) hl)
  have hbt := h.lt.1
  clear hcell hfro hfrk hcelk hT hTk htc h
  go_enter Try.func17, Try.ntmps17
  go_wp2_with (go_at_call 40; refine (Hc.out).mono ?_; rintro e1 w1 ⟨v1, rfl, hr1, hB1⟩)

  go_ret
  exact ⟨v1, rfl, hr1, hB1⟩
end Go.Proofs.Ytibolfdgbbaclaa

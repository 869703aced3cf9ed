/-
  What is proved: contracts of slices.Index, slices.Contains at []string.
  Conditions: bounds under which nothing wraps.
-/
import Derived.Test.YtibolfdgbbaclaaHash
import Derived.Lib.SlicesS
import Derived.Test.YtibolfdgbbaclaaBase2
open Go Go.RowKit Go.Ice
namespace Go.Proofs.Ytibolfdgbbaclaa
set_option maxRecDepth 100000
set_option linter.unusedVariables false
set_option linter.unusedSimpArgs false
attribute [local go_sem] gives givesUpon later_self more_cell more_frozen more_block more_more more_drew more_setCell more_of_drew more_of_drewN more_size lt_plus lt_plus2 lt_plus3 lt_plus4 Instr.field part asAgg List.extract_toArray List.extract_eq_take_drop
/-- A slice that reads as vs. -/
def Rows (w : World) (N : Nat → Prop) (v : Value) (vs : List Value) : Prop := ∃ A c, v = .slice A vs.length c ∧ Row w N A vs.length (fun j => vs.getD j undef) ∧ vs.length ≤ 140737488351232
theorem rows_mono {w : World} {N N' : Nat → Prop} {v : Value} {vs : List Value} (h : Rows w N v vs) (hN : ∀ b, N b → N' b) : Rows w N' v vs :=
  let ⟨A, c, h1, h2, h3⟩ := h; ⟨A, c, h1, h2.mono hN, h3⟩
theorem rows_kept {w w' : World} {N : Nat → Prop} {v : Value} {vs : List Value} (h : Rows w N v vs) (hk : ∀ b, N b → b < w.heap.size → w'.heap[b]? = w.heap[b]?) : Rows w' N v vs :=
  let ⟨A, c, h1, h2, h3⟩ := h; ⟨A, c, h1, h2.kept hk, h3⟩
theorem rows_below {w w' : World} {N : Nat → Prop} {v : Value} {vs : List Value} (h : Rows w N v vs) (hb : Below w.heap.size w w') : Rows w' N v vs := rows_kept h fun b _ hlt => hb.block b hlt
theorem rows_nil (w : World) (N : Nat → Prop) : Rows w N (.slice none 0 0) [] := ⟨none, 0, rfl, Row.nil, by simp⟩
theorem rows_of_own {w : World} {N : Nat → Prop} {base : Nat} {e : TypeId} {v : Value} {n : Nat} {vs : List Value} (h : w.ownsRow base e 1 v n vs) (hN : ∀ b, base ≤ b → N b) (hl : vs.length ≤ 140737488351232) : Rows w N v vs := by
  have hn : vs.length = n := by simpa using h.1
  subst hn
  rcases h.2 with ⟨rfl, h0⟩ | ⟨g, cap, cur, rfl, hb, hg, _⟩
  · have : vs = [] := List.eq_nil_of_length_eq_zero h0
    subst this
    exact rows_nil w N
  · refine ⟨_, _, rfl, fun _ => ⟨g, 0, rfl, hN g hb, fun j hj => ?_⟩, hl⟩
    have := h.cells (g := g) rfl j (vs.getD j undef) (by simp [List.getD_eq_getElem?_getD, List.getElem?_eq_getElem hj])
    have ha : (⟨g, 0, none⟩ : Addr).add j = ⟨g, 0 + j, none⟩ := by unfold Addr.add; split <;> simp_all
    rwa [ha] at this
def strV (l : List ByteArray) : List Value := l.map Value.string
theorem strV_len (l : List ByteArray) : (strV l).length = l.length := by simp [strV]
theorem strV_at (l : List ByteArray) (j : Nat) (hj : j < l.length) : (strV l).getD j undef = .string l[j] := by simp [strV, List.getD_eq_getElem?_getD, List.getElem?_eq_getElem hj]
def hasB (l : List ByteArray) (k : ByteArray) : Bool := l.any fun x => decide (x = k)
theorem hasB_iff (l : List ByteArray) (k : ByteArray) : hasB l k = true ↔ k ∈ l := by simp [hasB]
theorem hasB_take (l : List ByteArray) (k : ByteArray) (j : Nat) (hj : j < l.length) (h : hasB (l.take j) k = false) (hne : ¬ k = l[j]) : hasB (l.take (j + 1)) k = false := by
  rw [List.take_succ_eq_append_getElem hj]
  unfold hasB at *
  rw [List.any_append, h]
  simp only [List.any_cons, List.any_nil, Bool.or_false, Bool.false_or, decide_eq_false_iff_not]
  exact fun e => hne e.symm
set_option maxHeartbeats 800000 in
theorem index_any (N : Nat → Prop) (v : Value) (ks : List ByteArray) (k : ByteArray) (w : World) (h : Rows w N v (strV ks)) :
    Calls Try.prog 93 #[v, .string k] w fun e w' => ∃ i : Int, e = .returned (.int .i64 i) ∧ decide (0 ≤ i) = hasB ks k ∧ w' = w := by
  obtain ⟨A, c, rfl, hr, hl⟩ := h
  rw [strV_len] at *
  have Hr := Lib.hid (show ∀ j, (hj : j < ks.length) → ∃ b off, A = some ⟨b, off, none⟩ ∧ w.cell? ⟨b, off + j, none⟩ = some (.string ks[j]) from fun j hj => by
    obtain ⟨b, off, h1, _, h3⟩ := hr (by omega)
    refine ⟨b, off, h1, ?_⟩
    have := h3 j hj
    dsimp only at this
    rwa [strV_at ks j hj] at this)
  clear hr
  go_enter Try.func93, Try.ntmps93
  go_wp2
  go_loopg [8] ks.length (fun n i wr => ∃ j : Nat, j ≤ ks.length ∧ n = ks.length - j ∧ i = .int .i64 j ∧ Hid (hasB (ks.take j) k = false) ∧ w = wr)
  case atStart => exact ⟨0, by omega, by omega, rfl, rfl, rfl⟩
  case round =>
    obtain ⟨j, hj, rfl, rfl, Hh, rfl⟩ := hrel
    by_cases hlt : j < ks.length
    · obtain ⟨b, off, rfl, hcell⟩ := Hr.out j hlt
      have Hin := Lib.hid (show ks[j] ∈ ks from List.getElem_mem hlt)
      have Ht := Lib.hid (hasB_take ks k j hlt Hh.out)
      generalize ks[j] = x at hcell Hin Ht
      by_cases hx : k = x
      · subst hx
        go_wp2
        try rw [Exit.noGoto_ret]
        go_ret
        refine ⟨_, rfl, ?_, rfl⟩
        rw [(hasB_iff ks k).2 Hin.out]
        simp
      · have hne := Lib.hid hx
        have hf : (k.toList == x.toList) = false := (Lib.bytes_beq_false_iff k x).2 hx
        clear hx
        go_wp2
        go_roundg (ks.length - (j + 1))
        case measure => omega
        case rel => exact ⟨j + 1, by omega, rfl, by go_num, Ht.out hne.out, rfl⟩
    · have hjn : j = ks.length := by omega
      subst hjn
      go_wp2
      try rw [Exit.noGoto_ret]
      go_ret
      refine ⟨_, rfl, ?_, rfl⟩
      have := Hh.out
      rw [List.take_of_length_le (Nat.le_refl _)] at this
      rw [this]
      rfl
theorem contains_any (N : Nat → Prop) (v : Value) (ks : List ByteArray) (k : ByteArray) (w : World) (h : Rows w N v (strV ks)) :
    Calls Try.prog 76 #[v, .string k] w fun e w' => e = .returned (.bool (hasB ks k)) ∧ w' = w := by
  have Hi := Lib.hid (index_any N v ks k w h)
  clear h
  go_enter Try.func76, Try.ntmps76
  go_wp2_with (go_at_call 93; refine (Hi.out).mono ?_; rintro e w' ⟨i, rfl, hi, rfl⟩)
  go_ret
  rw [← hi]
  exact ⟨rfl, rfl⟩
end Go.Proofs.Ytibolfdgbbaclaa

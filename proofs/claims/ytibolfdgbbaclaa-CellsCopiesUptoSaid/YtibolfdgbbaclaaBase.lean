/-
  What is proved: words for memory (what a slice reads as, which blocks may have turned), and the steps of the walk of a region in one order of one's own.
  Conditions: none; no program in it.
-/
import Derived.Test.YtibolfdgbbaclaaMix
import Derived.WalkKit
import Derived.Below
import Derived.Deep.Draws
import Derived.Maps.AppendAt
import Derived.OwnWalk
import Derived.Lib.Hide
import Derived.BigCall
namespace Go.Ice
open Go Go.RowKit

/-! ### worlds with new blocks -/
def more (w : World) (e : Array Obj × Nat) : World := { w with heap := w.heap ++ e.1, drawn := e.2 }
def Later (w w' : World) : Prop := ∃ e, w' = more w e
theorem later_refl (w : World) : Later w w := ⟨(#[], w.drawn), by simp [more]⟩
theorem later_trans (a b c : World) (h : Later a b) (k : Later b c) : Later a c := by
  obtain ⟨e, rfl⟩ := h
  obtain ⟨f, rfl⟩ := k
  exact ⟨(e.1 ++ f.1, f.2), by simp [more]⟩
theorem more_more (w : World) (e f : Array Obj × Nat) : more (more w e) f = more w (e.1 ++ f.1, f.2) := by simp [more]
theorem more_drew (w : World) (e : Array Obj × Nat) : (more w e).drew = more w (e.1, e.2 + 1) := by simp [more, World.drew]
theorem more_setCell (w : World) (e : Array Obj × Nat) (n i : Nat) (v : Value) (h : n < w.heap.size) : (more w e).setCell ⟨n, i, none⟩ v = more (w.setCell ⟨n, i, none⟩ v) e := by
  simp only [more, World.setCell]
  congr 1
  apply Array.ext_getElem?
  intro k
  rcases Nat.lt_or_ge k w.heap.size with hk | hk
  · rw [Array.getElem?_append_left (by simpa using hk)]
    simp only [Array.getElem?_modify]
    rw [Array.getElem?_append_left hk]
  · rw [Array.getElem?_append_right (by simpa using hk)]
    simp only [Array.getElem?_modify, Array.size_modify]
    rw [if_neg (by omega), Array.getElem?_append_right hk]
theorem more_new {w w' : World} {e : Array Obj × Nat} (hs : w'.heap.size = w.heap.size) {b : Nat} (h : w.heap.size ≤ b) : (more w' e).heap[b]? = (more w e).heap[b]? := by
  simp only [more]
  rw [Array.getElem?_append_right (by omega), Array.getElem?_append_right h, hs]
theorem more_of_drew (w : World) (e : Array Obj × Nat) : more w.drew e = more w e := rfl
theorem more_of_drewN (w : World) (n : Nat) (e : Array Obj × Nat) : more (w.drewN n) e = more w e := rfl
theorem more_size (w : World) (e : Array Obj × Nat) : (more w e).heap.size = w.heap.size + e.1.size := by simp [more]
theorem later_self (w : World) : Later w w = True := eq_true (later_refl w)
theorem more_block (w : World) (e : Array Obj × Nat) (k : Nat) (h : k < w.heap.size) : (more w e).heap[k]? = w.heap[k]? := by
  show (w.heap ++ e.1)[k]? = w.heap[k]?
  rw [Array.getElem?_append_left h]
theorem more_cell (w : World) (e : Array Obj × Nat) (n i : Nat) (h : n < w.heap.size) : (more w e).cell? ⟨n, i, none⟩ = w.cell? ⟨n, i, none⟩ :=
  World.cell?_of_block (a := ⟨n, i, none⟩) (more_block w e n h)
theorem more_frozen (w : World) (e : Array Obj × Nat) (n i : Nat) (h : n < w.heap.size) : (more w e).frozen? ⟨n, i, none⟩ = w.frozen? ⟨n, i, none⟩ :=
  World.frozen?_of_block (a := ⟨n, i, none⟩) (more_block w e n h)
theorem lt_plus {a b c : Nat} (h : a < b) : a < b + c := by omega
theorem more_below (w : World) (e : Array Obj × Nat) : Below w.heap.size w (more w e) :=
  ⟨rfl, rfl, rfl, by simp [more], fun k hk => more_block w e k hk⟩
/-- What a contract tells ('Below') is what 'Later' says. -/
theorem later_of_below {w w' : World} (h : Below w.heap.size w w') : Later w w' := by
  refine ⟨(w'.heap.extract w.heap.size w'.heap.size, w'.drawn), ?_⟩
  have hh : w'.heap = w.heap ++ w'.heap.extract w.heap.size w'.heap.size := by
    apply Array.ext_getElem?
    intro i
    rcases Nat.lt_or_ge i w.heap.size with hi | hi
    · rw [h.block i hi, Array.getElem?_append_left hi]
    · rw [Array.getElem?_append_right hi, Array.getElem?_extract]
      by_cases h2 : i < w'.heap.size
      · rw [if_pos (by simp; omega)]
        congr 1
        omega
      · rw [if_neg (by simp; omega), Array.getElem?_eq_none (by omega)]
  cases w' with
  | mk heap tape drawn os output =>
    simp only [more]
    simp only at hh
    have h1 := h.os; have h2 := h.tape; have h3 := h.output
    simp only at h1 h2 h3
    subst h1; subst h2; subst h3
    rw [← hh]
theorem later_below {w w' : World} (h : Later w w') : Below w.heap.size w w' := by
  obtain ⟨e, rfl⟩ := h
  exact more_below w e

/-! ### the steps of 'wpMix' -/
section
variable {P : Program} {l l' : List Oper} {Q : Act → World → Prop} {a : Act} {w : World} {i : Nat} {rest : List (Nat × Bool)} {o : Oper}
theorem at_drop (h : l.drop i = o :: l') : l.toArray[i]? = some o := by
  have h1 := congrArg (·[0]?) h
  simpa using h1
theorem mix_step (ho' : l.drop i = o :: l') (h : ∀ K : Act → Prop, (∀ a, wpMix P .any l.toArray Later Q rest a w → K a) →
    if Region.wanted o (yielded l.toArray a.tmps) then (∃ v, (∀ e, gives P Later o a v (more w e)) ∧ K (a.put o.dst v)) else K (a.put o.dst undef)) :
    wpMix P .any l.toArray Later Q ((i, false) :: rest) a w := by
  have ho := at_drop ho'
  have := h _ (fun _ h => h)
  split at this
  · rename_i hw
    obtain ⟨v, h1, h2⟩ := this
    exact ⟨o, v, ho, .inl ⟨hw, fun w' ⟨e, he⟩ => by rw [he]; exact h1 e⟩, h2⟩
  · rename_i hw
    exact ⟨o, undef, ho, .inr ⟨by simpa using hw, rfl⟩, this⟩
/-- An operation that comes alone: it is run in a world behind w; if nothing else may be beside it the world may turn as it likes. -/
theorem mix_loud (ho' : l.drop i = o :: l') (hg : o.guard = none) (hb : bar .any l.toArray i = true) (h : ∀ e, ∀ K : Act → World → Prop, (∀ a w, wpMix P .any l.toArray Later Q rest a w → K a w) → o.wp P a (more w e) K (fun _ _ _ => False)) :
    wpMix P .any l.toArray Later Q ((i, true) :: rest) a w := by
  have ho := at_drop ho'
  rintro w1 ⟨e, rfl⟩
  unfold mOp
  simp only [ho, Region.wanted, hg, if_true]
  exact Oper.wp_mono (fun a w h => ⟨.inr hb, h⟩) (h e _ (fun _ _ h => h))
/-- An operation that comes alone and makes memory alone. -/
theorem mix_grow (ho' : l.drop i = o :: l') (hg : o.guard = none) (h : ∀ e, ∀ K : Act → World → Prop, (∀ a' w', Below (more w e).heap.size (more w e) w' → wpMix P .any l.toArray Later Q rest a' w' → K a' w') → o.wp P a (more w e) K (fun _ _ _ => False)) :
    wpMix P .any l.toArray Later Q ((i, true) :: rest) a w := by
  have ho := at_drop ho'
  rintro w1 ⟨e, rfl⟩
  unfold mOp
  simp only [ho, Region.wanted, hg, if_true]
  exact h e _ (fun a' w' h1 h2 => ⟨.inl (later_of_below h1), h2⟩)
theorem mix_done (h : ∀ e, Q a (more w e)) : wpMix P .any l.toArray Later Q [] a w := fun _ ⟨e, he⟩ => he ▸ h e
theorem wp_region_mix_lit {id : Nat} {Q : Exit → Act → World → Prop} {l : List Oper} (σ : List (Nat × Bool)) (hm : P.follows .mixedOrders = true)
    (hB : (Region.noSelect l.toArray && (σ.length == l.toArray.size) && mixB .any l.toArray σ (Array.replicate l.toArray.size false)) = true)
    (h : wpMix P .any l.toArray Later (fun a' w' => Q .normal a' w') σ a w.drew) : (Code.region id l.toArray true).wp P Q a w := by
  simp only [Bool.and_eq_true, beq_iff_eq] at hB
  exact wp_region_mix Later later_refl later_trans σ hm hB.1.1 hB.1.2 hB.2 h
/-- A callee that makes memory alone and answers v, whatever was made meanwhile. -/
theorem call_gives {f : FuncId} {args : Array Value} {v : Value} {w : World} (h : Calls P f args w fun en w' => en = .returned v ∧ Below w.heap.size w w') :
    CallGives P Later f args w v := h.mono fun _ _ ⟨h1, h2⟩ => ⟨h1, later_of_below h2⟩
theorem call_gives_same {f : FuncId} {args : Array Value} {v : Value} {w : World} (h : Calls P f args w fun en w' => en = .returned v ∧ w' = w) :
    CallGives P Later f args w v := h.mono fun _ _ ⟨h1, h2⟩ => ⟨h1, by rw [h2]; exact later_refl _⟩
end
end Go.Ice

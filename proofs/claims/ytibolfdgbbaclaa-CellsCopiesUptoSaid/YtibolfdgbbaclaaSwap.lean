/-
  What is proved: a world in which some blocks have turned, written out, so that a walk reads through it.
  Conditions: none; no program in it.
-/
import Derived.Test.YtibolfdgbbaclaaMem
namespace Go.Ice
open Go Go.RowKit
def swap (w : World) (b : Nat) (o : Obj) : World := { w with heap := w.heap.setIfInBounds b o }
theorem swap_size (w : World) (b : Nat) (o : Obj) : (swap w b o).heap.size = w.heap.size := by simp [swap]
theorem swap_block (w : World) (b : Nat) (o : Obj) (k : Nat) (h : ¬ k = b) : (swap w b o).heap[k]? = w.heap[k]? := by
  simp only [swap]
  rw [Array.getElem?_setIfInBounds_ne (fun e => h e.symm)]
theorem swap_cell (w : World) (b : Nat) (o : Obj) (n i : Nat) (h : ¬ n = b) : (swap w b o).cell? ⟨n, i, none⟩ = w.cell? ⟨n, i, none⟩ :=
  World.cell?_of_block (a := ⟨n, i, none⟩) (swap_block w b o n h)
theorem swap_frozen (w : World) (b : Nat) (o : Obj) (n i : Nat) (h : ¬ n = b) : (swap w b o).frozen? ⟨n, i, none⟩ = w.frozen? ⟨n, i, none⟩ :=
  World.frozen?_of_block (a := ⟨n, i, none⟩) (swap_block w b o n h)
theorem swap_setCell (w : World) (b : Nat) (o : Obj) (n i : Nat) (v : Value) (h : ¬ n = b) : (swap w b o).setCell ⟨n, i, none⟩ v = swap (w.setCell ⟨n, i, none⟩ v) b o := by
  simp only [swap, World.setCell]
  congr 1
  apply Array.ext_getElem?
  intro k
  simp only [Array.getElem?_modify, Array.getElem?_setIfInBounds, Array.size_modify]
  by_cases hb : b = k
  · subst hb
    simp [h]
  · simp [hb]
theorem swap_drew (w : World) (b : Nat) (o : Obj) : swap w.drew b o = (swap w b o).drew := rfl
theorem swap_drewN (w : World) (b : Nat) (o : Obj) (n : Nat) : swap (w.drewN n) b o = (swap w b o).drewN n := rfl
theorem ne_low {a b : Nat} (h : b < a) : (a = b) = False := by simp; omega
theorem ne_low1 {a b c : Nat} (h : b < a) : (a + c = b) = False := by simp; omega
theorem ne_low2 {a b c d : Nat} (h : b < a) : (a + c + d = b) = False := by simp; omega
theorem ne_low3 {a b c d e : Nat} (h : b < a) : (a + c + d + e = b) = False := by simp; omega
theorem ne_low4 {a b c d e f : Nat} (h : b < a) : (a + c + d + e + f = b) = False := by simp; omega
theorem swap_of_kept {bt bm bk : Nat} {w w' : World} (h : Kept (fun b => b = bt ∨ b = bm ∨ b = bk) w w') : ∃ o1 o2 o3 e, w' = more (swap (swap (swap w bt o1) bm o2) bk o3) e := by
  refine ⟨(w'.heap[bt]?).getD default, (w'.heap[bm]?).getD default, (w'.heap[bk]?).getD default, (w'.heap.extract w.heap.size w'.heap.size, w'.drawn), ?_⟩
  have hs := h.size
  have hh : w'.heap = (swap (swap (swap w bt ((w'.heap[bt]?).getD default)) bm ((w'.heap[bm]?).getD default)) bk ((w'.heap[bk]?).getD default)).heap ++ w'.heap.extract w.heap.size w'.heap.size := by
    apply Array.ext_getElem?
    intro i
    rcases Nat.lt_or_ge i w.heap.size with hi | hi
    · rw [Array.getElem?_append_left (by simp only [swap_size]; exact hi)]
      have hi' : i < w'.heap.size := by omega
      have hget : w'.heap[i]? = some w'.heap[i] := Array.getElem?_eq_getElem hi'
      simp only [swap, Array.getElem?_setIfInBounds, Array.size_setIfInBounds]
      by_cases h3 : bk = i
      · subst h3; simp [hi, hget]
      · by_cases h2 : bm = i
        · subst h2; simp [hi, hget, h3]
        · by_cases h1 : bt = i
          · subst h1; simp [hi, hget, h2, h3]
          · simp only [h1, h2, h3, if_false]
            exact h.block i hi (by rintro (e | e | e) <;> omega)
    · rw [Array.getElem?_append_right (by simp only [swap_size]; exact hi), Array.getElem?_extract]
      simp only [swap_size]
      by_cases h2 : i < w'.heap.size
      · rw [if_pos (by omega)]
        congr 1
        omega
      · rw [if_neg (by omega), Array.getElem?_eq_none (by omega)]
  cases w' with
  | mk heap tape drawn os output =>
    simp only [more]
    simp only at hh
    have h1 := h.os; have h2 := h.tape; have h3 := h.output
    simp only at h1 h2 h3
    subst h1; subst h2; subst h3
    rw [← hh]
    rfl
/-- One block. -/
theorem swap_of_kept1 {bt : Nat} {w w' : World} (h : Kept (fun b => b = bt) w w') : ∃ o1 e, w' = more (swap w bt o1) e := by
  obtain ⟨o1, o2, o3, e, he⟩ := swap_of_kept (bt := bt) (bm := bt) (bk := bt) (h.mono fun b hb => .inl hb)
  refine ⟨o3, e, ?_⟩
  rw [he]
  congr 1
  simp only [swap]
  congr 1
  simp
theorem Kept.swap {S : Nat → Prop} {a w : World} (h : Kept S a w) {b : Nat} (hb : S b ∨ a.heap.size ≤ b) (o : Obj) : Kept S a (swap w b o) :=
  ⟨h.os, h.tape, h.output, by rw [swap_size]; exact h.size, fun i hi hn => (swap_block w b o i (by
    rintro rfl
    rcases hb with hb | hb
    · exact hn hb
    · omega)).trans (h.block i hi hn)⟩
end Go.Ice

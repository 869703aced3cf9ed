/-
  What is proved: what a slice reads as (bytes; cells), and how that is kept.
  Conditions: none; no program in it.
-/
import Derived.Test.YtibolfdgbbaclaaMaps
namespace Go.Ice
open Go Go.RowKit

/-- A run of m cells behind A, in a block of which N holds. -/
def Row (w : World) (N : Nat → Prop) (A : Option Addr) (m : Nat) (f : Nat → Value) : Prop :=
  0 < m → ∃ b off, A = some ⟨b, off, none⟩ ∧ N b ∧ ∀ j, j < m → w.cell? ⟨b, off + j, none⟩ = some (f j)
theorem Row.mono {w : World} {N N' : Nat → Prop} {A : Option Addr} {m : Nat} {f : Nat → Value} (h : Row w N A m f) (hN : ∀ b, N b → N' b) : Row w N' A m f :=
  fun hm => let ⟨b, off, h1, h2, h3⟩ := h hm; ⟨b, off, h1, hN b h2, h3⟩
theorem Row.nil {w : World} {N : Nat → Prop} {A : Option Addr} {f : Nat → Value} : Row w N A 0 f := fun h => absurd h (by omega)
/-- Kept where the blocks of which N holds are. -/
theorem Row.kept {w w' : World} {N : Nat → Prop} {A : Option Addr} {m : Nat} {f : Nat → Value} (h : Row w N A m f) (hk : ∀ b, N b → b < w.heap.size → w'.heap[b]? = w.heap[b]?) : Row w' N A m f := by
  intro hm
  obtain ⟨b, off, h1, h2, h3⟩ := h hm
  refine ⟨b, off, h1, h2, fun j hj => ?_⟩
  have hlt : b < w.heap.size := World.block_lt_of_cell? w ⟨b, off + j, none⟩ (h3 j hj)
  rw [World.cell?_of_block (a := ⟨b, off + j, none⟩) (hk b h2 hlt)]
  exact h3 j hj
theorem Row.below {w w' : World} {N : Nat → Prop} {A : Option Addr} {m : Nat} {f : Nat → Value} (h : Row w N A m f) (hb : Below w.heap.size w w') : Row w' N A m f :=
  h.kept fun b _ hlt => hb.block b hlt

theorem Row.setCell {w : World} {N : Nat → Prop} {A : Option Addr} {m : Nat} {f : Nat → Value} (h : Row w N A m f) {p : Addr} (hp : ¬ N p.block) (u : Value) : Row (w.setCell p u) N A m f :=
  h.kept fun b hN _ => Below.heap_setCell w p u b (fun e => hp (e ▸ hN))
/-- w' is w with new blocks, but that blocks in S may have turned. -/
structure Kept (S : Nat → Prop) (w w' : World) : Prop where
  os : w'.os = w.os
  tape : w'.tape = w.tape
  output : w'.output = w.output
  size : w.heap.size ≤ w'.heap.size
  block : ∀ k, k < w.heap.size → ¬ S k → w'.heap[k]? = w.heap[k]?
theorem Kept.refl (S : Nat → Prop) (w : World) : Kept S w w := ⟨rfl, rfl, rfl, Nat.le_refl _, fun _ _ _ => rfl⟩
theorem Kept.trans {S : Nat → Prop} {a b c : World} (h : Kept S a b) (k : Kept S b c) : Kept S a c :=
  ⟨k.os.trans h.os, k.tape.trans h.tape, k.output.trans h.output, Nat.le_trans h.size k.size, fun i hi hn => (k.block i (Nat.lt_of_lt_of_le hi h.size) hn).trans (h.block i hi hn)⟩
theorem Kept.mono {S S' : Nat → Prop} {a b : World} (h : Kept S a b) (hs : ∀ k, S k → S' k) : Kept S' a b :=
  ⟨h.os, h.tape, h.output, h.size, fun k hk hn => h.block k hk fun hS => hn (hs k hS)⟩
/-- Blocks that were not there do not matter. -/
theorem Kept.mono' {S S' : Nat → Prop} {a b : World} (h : Kept S a b) (hs : ∀ k, k < a.heap.size → S k → S' k) : Kept S' a b :=
  ⟨h.os, h.tape, h.output, h.size, fun k hk hn => h.block k hk fun hS => hn (hs k hk hS)⟩
theorem Kept.of_below {S : Nat → Prop} {w w' : World} (h : Below w.heap.size w w') : Kept S w w' := ⟨h.os, h.tape, h.output, h.size, fun k hk _ => h.block k hk⟩
theorem Kept.to_below {S : Nat → Prop} {w w' : World} (h : Kept S w w') (hs : ∀ k, S k → w.heap.size ≤ k) : Below w.heap.size w w' :=
  ⟨h.os, h.tape, h.output, h.size, fun k hk => h.block k hk fun hS => by have := hs k hS; omega⟩
theorem Kept.to_below' {S : Nat → Prop} {B : Nat} {w w' : World} (h : Kept S w w') (hB : B ≤ w.heap.size) (hs : ∀ k, S k → B ≤ k) : Below B w w' :=
  ⟨h.os, h.tape, h.output, h.size, fun k hk => h.block k (by omega) fun hS => by have := hs k hS; omega⟩
theorem Kept.alloc {S : Nat → Prop} {a w : World} (h : Kept S a w) (o : Obj) : Kept S a (w.alloc o) := h.trans (.of_below ((Below.refl _ _).alloc (Nat.le_refl _) o))
theorem Kept.more {S : Nat → Prop} {a w : World} (h : Kept S a w) (e : Array Obj × Nat) : Kept S a (more w e) := h.trans (.of_below (more_below w e))
theorem Kept.drew {S : Nat → Prop} {a w : World} (h : Kept S a w) : Kept S a w.drew := ⟨h.os, h.tape, h.output, h.size, h.block⟩
theorem Kept.drewN {S : Nat → Prop} {a w : World} (h : Kept S a w) (n : Nat) : Kept S a (w.drewN n) := ⟨h.os, h.tape, h.output, h.size, h.block⟩
theorem Kept.below {S : Nat → Prop} {a w w' : World} (h : Kept S a w) (hb : Below w.heap.size w w') : Kept S a w' := h.trans (.of_below hb)
theorem Kept.setCell {S : Nat → Prop} {a w : World} (h : Kept S a w) {p : Addr} (hp : S p.block ∨ a.heap.size ≤ p.block) (u : Value) : Kept S a (w.setCell p u) :=
  ⟨h.os, h.tape, h.output, by simpa [World.setCell] using h.size, fun i hi hn => (Below.heap_setCell w p u i (by
    rintro rfl
    rcases hp with hp | hp
    · exact hn hp
    · omega)).trans (h.block i hi hn)⟩
theorem Kept.grown {S : Nat → Prop} {a w w' : World} {row : Option Nat} (h : Kept S a w) (hg : w.grownBy w' row) (hr : ∀ k, row = some k → S k ∨ a.heap.size ≤ k) : Kept S a w' :=
  ⟨hg.os.trans h.os, hg.tape.trans h.tape, hg.output.trans h.output, Nat.le_trans h.size hg.size, fun i hi hn => (hg.block i (Nat.lt_of_lt_of_le hi h.size) (fun e => by
    rcases hr i e.symm with hS | hge
    · exact hn hS
    · omega)).trans (h.block i hi hn)⟩

/-- A slice of bytes that reads as l. -/
def Bts (w : World) (N : Nat → Prop) (v : Value) (l : List UInt8) : Prop :=
  ∃ A c, v = .slice A l.length c ∧ Row w N A l.length (fun j => .int .u8 ((l.getD j 0).toNat : Int)) ∧ l.length ≤ 140737488351232
theorem Bts.mono {w : World} {N N' : Nat → Prop} {v : Value} {l : List UInt8} (h : Bts w N v l) (hN : ∀ b, N b → N' b) : Bts w N' v l :=
  let ⟨A, c, h1, h2, h3⟩ := h; ⟨A, c, h1, h2.mono hN, h3⟩
theorem Bts.kept {w w' : World} {N : Nat → Prop} {v : Value} {l : List UInt8} (h : Bts w N v l) (hk : ∀ b, N b → b < w.heap.size → w'.heap[b]? = w.heap[b]?) : Bts w' N v l :=
  let ⟨A, c, h1, h2, h3⟩ := h; ⟨A, c, h1, h2.kept hk, h3⟩
theorem Bts.below {w w' : World} {N : Nat → Prop} {v : Value} {l : List UInt8} (h : Bts w N v l) (hb : Below w.heap.size w w') : Bts w' N v l :=
  h.kept fun b _ hlt => hb.block b hlt
theorem Bts.setCell {w : World} {N : Nat → Prop} {v : Value} {l : List UInt8} (h : Bts w N v l) {p : Addr} (hp : ¬ N p.block) (u : Value) : Bts (w.setCell p u) N v l :=
  let ⟨A, c, h1, h2, h3⟩ := h; ⟨A, c, h1, h2.setCell hp u, h3⟩
theorem Bts.alloc {w : World} {N : Nat → Prop} {v : Value} {l : List UInt8} (h : Bts w N v l) (o : Obj) : Bts (w.alloc o) N v l := h.below ((Below.refl _ _).alloc (Nat.le_refl _) o)
theorem Bts.more {w : World} {N : Nat → Prop} {v : Value} {l : List UInt8} (h : Bts w N v l) (e : Array Obj × Nat) : Bts (more w e) N v l := h.below (more_below w e)
theorem Bts.drew {w : World} {N : Nat → Prop} {v : Value} {l : List UInt8} (h : Bts w N v l) : Bts w.drew N v l := h
theorem Bts.nil (w : World) (N : Nat → Prop) : Bts w N (.slice none 0 0) [] := ⟨none, 0, rfl, Row.nil, by simp⟩
/-- A row of the call's own reads so. -/
theorem Bts.of_own {w : World} {N : Nat → Prop} {base : Nat} {e : TypeId} {v : Value} {n : Nat} {l : List UInt8} (h : w.ownsRow base e 1 v n (l.map fun c => .int .u8 (c.toNat : Int))) (hN : ∀ b, base ≤ b → N b) (hl : l.length ≤ 140737488351232) : Bts w N v l := by
  have hn : l.length = n := by simpa using h.1
  subst hn
  rcases h.2 with ⟨rfl, h0⟩ | ⟨g, cap, cur, rfl, hb, hg, _⟩
  · have : l = [] := List.eq_nil_of_length_eq_zero h0
    subst this
    exact Bts.nil w N
  · refine ⟨_, _, rfl, fun _ => ⟨g, 0, rfl, hN g hb, fun j hj => ?_⟩, hl⟩
    have := h.cells (g := g) rfl j (.int .u8 ((l.getD j 0).toNat : Int)) (by simp [List.getD_eq_getElem?_getD, List.getElem?_eq_getElem hj])
    have ha : (⟨g, 0, none⟩ : Addr).add j = ⟨g, 0 + j, none⟩ := by unfold Addr.add; split <;> simp_all
    rwa [ha] at this
/-- After a callee that makes memory alone: the old cells and marks read as before. -/
theorem bcell {W w1 : World} (hb : Below W.heap.size W w1) : (∀ b o, b < W.heap.size → w1.cell? ⟨b, o, none⟩ = W.cell? ⟨b, o, none⟩) ∧ (∀ b o, b < W.heap.size → w1.frozen? ⟨b, o, none⟩ = W.frozen? ⟨b, o, none⟩) :=
  ⟨fun b o h => hb.cell (p := ⟨b, o, none⟩) h, fun b o h => hb.frozen (p := ⟨b, o, none⟩) h⟩
end Go.Ice

/-
  What is proved: laws at an operation on a map, for the walk and for the walk of a region in one order of one's own.
  Conditions: none; no program in it.
-/
import Derived.Test.YtibolfdgbbaclaaLaws
namespace Go.Ice
open Go Go.RowKit
theorem MapAt.alloc {w : World} {bm : Nat} {L : Assoc} (h : MapAt w bm L) (o : Obj) : MapAt (w.alloc o) bm L := h.of_block (Below.heap_alloc w o bm h.lt)
theorem MapAt.drew {w : World} {bm : Nat} {L : Assoc} (h : MapAt w bm L) : MapAt w.drew bm L := h
theorem MapAt.drewN {w : World} {bm : Nat} {L : Assoc} (h : MapAt w bm L) (n : Nat) : MapAt (w.drewN n) bm L := h
theorem MapAt.setCell {w : World} {bm : Nat} {L : Assoc} (h : MapAt w bm L) {p : Addr} (hp : bm ≠ p.block) (u : Value) : MapAt (w.setCell p u) bm L := h.of_block (Below.heap_setCell w p u bm hp)
theorem MapAt.kept {w w' : World} {bm : Nat} {L : Assoc} {S : Nat → Prop} (h : MapAt w bm L) (hk : Kept S w w') (hs : ¬ S bm) : MapAt w' bm L := h.of_block (hk.block bm h.lt hs)
section
variable {P : Program} {l l' : List Oper} {Q : Act → World → Prop} {a : Act} {w : World} {i : Nat} {rest : List (Nat × Bool)} {o : Oper}
variable {ops : Array Oper} {Qx : Exit → Act → World → Prop} {lrest : List Oper}
variable {t kt et : TypeId} {z : Value} {bm : Nat} {L : Assoc} {k : ByteArray} {ok : Bool}

theorem mix_lookup (ho' : l.drop i = o :: l') (hg : o.guard = none) (t kt et : TypeId) (m x : Operand) (ok : Bool) (hop : o.op = .lookup t m x ok) (bm : Nat) (k : ByteArray) (hm : a.eval m = .map (some bm)) (hx : a.eval x = .string k)
    (ht : P.underlying t = some (.map kt et)) (hk : P.underlying kt = some .string) (z : Value) (hz : ∀ w, (zeroValue et).run P w = .ok z w) (L : Assoc) (hM : MapAt w bm L) (v : Value) (hv : lookV ok z (aget L k) = v)
    (h : wpMix P .any l.toArray Later Q rest (a.put o.dst v) w) : wpMix P .any l.toArray Later Q ((i, false) :: rest) a w := by
  subst hv
  refine ⟨o, _, at_drop ho', .inl ⟨by simp [Region.wanted, hg], fun w' ⟨e, he⟩ => ?_⟩, h⟩
  subst he
  have hr := run_lookup_at (P := P) ht hk (hz (more w e)) (hM.more e) k ok
  unfold gives
  simp only [execOp, hop, hm, hx, Sem.run_bind, hr, Result.andThen, Sem.run_pure, givesUpon]
  exact ⟨trivial, later_refl _⟩
theorem wpList_lookup' (hw : Region.wanted o (yielded ops a.tmps) = true) (t kt et : TypeId) (m x : Operand) (ok : Bool) (hop : o.op = .lookup t m x ok) (bm : Nat) (k : ByteArray) (hm : a.eval m = .map (some bm)) (hx : a.eval x = .string k)
    (ht : P.underlying t = some (.map kt et)) (hk : P.underlying kt = some .string) (z : Value) (hz : ∀ w, (zeroValue et).run P w = .ok z w) (L : Assoc) (hM : MapAt w bm L) (v : Value) (hv : lookV ok z (aget L k) = v)
    (h : wpList P ops Qx lrest (a.put o.dst v) w) : wpList P ops Qx (o :: lrest) a w := by
  subst hv
  refine wpList_step fun K hK => ?_
  rw [if_pos hw]
  have hr := run_lookup_at (P := P) ht hk (hz w) hM k ok
  unfold Oper.wp
  simp only [execOp, hop, hm, hx, Sem.run_bind, hr, Result.andThen, Sem.run_pure, Oper.upon]
  exact hK _ _ h
theorem wp_update' {K : Act → World → Prop} {Qe : Exit → Act → World → Prop} (t kt et : TypeId) (m x y : Operand) (hop : o.op = .mapUpdate t m x y) (bm : Nat) (k : ByteArray) (val : Value) (hm : a.eval m = .map (some bm)) (hx : a.eval x = .string k) (hy : a.eval y = val)
    (ht : P.underlying t = some (.map kt et)) (hk : P.underlying kt = some .string) (L : Assoc) (hM : MapAt w bm L)
    (h : ∀ w', MapAt w' bm (aput L k val) → Kept (fun b => b = bm) w w' → w'.heap.size = w.heap.size → K (a.put o.dst undef) w') : o.wp P a w K Qe := by
  obtain ⟨w', hr, h1, h2, h3⟩ := run_update_at (P := P) ht hk hM k val
  unfold Oper.wp
  simp only [execOp, hop, hm, hx, hy, Sem.run_bind, hr, Result.andThen, Sem.run_pure, Oper.upon]
  exact h w' h1 ((Kept.refl _ w).grown h2 (fun b hb => .inl (by cases hb; rfl))) h3
theorem mix_update (ho' : l.drop i = o :: l') (hg : o.guard = none) (hb : bar .any l.toArray i = true) (t kt et : TypeId) (m x y : Operand) (hop : o.op = .mapUpdate t m x y) (bm : Nat) (k : ByteArray) (val : Value) (hm : a.eval m = .map (some bm)) (hx : a.eval x = .string k) (hy : a.eval y = val)
    (ht : P.underlying t = some (.map kt et)) (hk : P.underlying kt = some .string) (L : Assoc) (hM : MapAt w bm L)
    (h : ∀ w', MapAt w' bm (aput L k val) → Kept (fun b => b = bm) w w' → wpMix P .any l.toArray Later Q rest (a.put o.dst undef) w') : wpMix P .any l.toArray Later Q ((i, true) :: rest) a w :=
  mix_loud ho' hg hb fun e K hK => wp_update' t kt et m x y hop bm k val hm hx hy ht hk L (hM.more e) fun w' h1 h2 _ => hK _ _ (h w' h1 (Kept.trans (.of_below (more_below w e)) h2))
theorem wpList_update' (hg : o.guard = none) (t kt et : TypeId) (m x y : Operand) (hop : o.op = .mapUpdate t m x y) (bm : Nat) (k : ByteArray) (val : Value) (hm : a.eval m = .map (some bm)) (hx : a.eval x = .string k) (hy : a.eval y = val)
    (ht : P.underlying t = some (.map kt et)) (hk : P.underlying kt = some .string) (L : Assoc) (hM : MapAt w bm L)
    (h : ∀ w', MapAt w' bm (aput L k val) → Kept (fun b => b = bm) w w' → w'.heap.size = w.heap.size → wpList P ops Qx lrest (a.put o.dst undef) w') : wpList P ops Qx (o :: lrest) a w :=
  wpList_plain hg fun _ hK => wp_update' t kt et m x y hop bm k val hm hx hy ht hk L hM fun w' h1 h2 h3 => hK _ _ (h w' h1 h2 h3)
theorem wpList_delete' (hg : o.guard = none) (t kt et : TypeId) (m x : Operand) (hop : o.op = .call { callee := .builtin .delete, args := #[m, x], argTypes := #[t, kt] }) (bm : Nat) (k : ByteArray) (hm : a.eval m = .map (some bm)) (hx : a.eval x = .string k)
    (ht : P.underlying t = some (.map kt et)) (hk : P.underlying kt = some .string) (L : Assoc) (hM : MapAt w bm L)
    (h : ∀ w', MapAt w' bm (adel L k) → Kept (fun b => b = bm) w w' → w'.heap.size = w.heap.size → wpList P ops Qx lrest (a.put o.dst (.tuple #[])) w') : wpList P ops Qx (o :: lrest) a w := by
  refine wpList_plain hg fun K hK => ?_
  obtain ⟨w', hr, h1, h2, h3⟩ := run_delete_at (P := P) ht hk hM k #[t, kt] o.type rfl
  unfold Oper.wp execOp
  simp only [hop, resolve, invoke, builtin, Sem.run_bind, Sem.run_pure, Result.andThen_ok, List.map_toArray, List.map_cons, List.map_nil, hm, hx, hr]
  exact hK _ _ (h w' h1 ((Kept.refl _ w).grown h2 (fun b hb => .inl (by cases hb; rfl))) h3)
end
end Go.Ice

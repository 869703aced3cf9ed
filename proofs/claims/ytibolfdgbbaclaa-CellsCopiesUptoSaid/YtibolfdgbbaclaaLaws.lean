/-
  What is proved: laws at single operations, for the walk: '[]byte(s)', 'append(v, xs...)' and 'append(v, x)' onto a row of the call's own.
  Conditions: none; no program in it.
-/
import Derived.Test.YtibolfdgbbaclaaMem
import Derived.Lib.ConvBytes
import Derived.Deep.AppendLies
namespace Go.Ice
open Go Go.RowKit
section
variable {P : Program} {ops : Array Oper} {Q : Exit → Act → World → Prop} {a : Act} {w : World} {rest : List Oper} {o : Oper}

theorem bytesWorld_below (w : World) (e : TypeId) (s : ByteArray) : Below w.heap.size w (Lib.bytesWorld w e s) :=
  ⟨by simp [Lib.bytesWorld, World.freeze]; rfl, by simp [Lib.bytesWorld, World.freeze], by simp [Lib.bytesWorld, World.freeze]; rfl, by rw [Lib.bytesWorld_size]; omega, fun k hk => Lib.bytesWorld_at_old w e s k hk⟩

/-- '[]byte(s)'. -/
theorem run_bytes {src dst e : TypeId} {s : ByteArray} (hs : P.underlying src = some .string) (hd : P.underlying dst = some (.slice e)) (he : P.underlying e = some (.int .u8)) (hl : s.size ≤ 140737488351232) :
    ∃ v' w', (convert src dst (.string s)).run P w = .ok v' w' ∧ (∃ c, v' = .slice (some ⟨w.heap.size, 0, none⟩) s.size c) ∧ Bts w' (fun b => w.heap.size ≤ b) v' s.data.toList ∧ Below w.heap.size w w' := by
  refine ⟨_, _, Lib.run_convert_string_bytes w src dst e s hs hd he, ⟨_, rfl⟩, ?_, bytesWorld_below w e s⟩
  have hsz : s.data.toList.length = s.size := by simp
  refine ⟨some ⟨w.heap.size, 0, none⟩, grownCap w s.size 0 e, by rw [hsz], fun _ => ⟨w.heap.size, 0, rfl, Nat.le_refl _, fun j hj => ?_⟩, by omega⟩
  have := Lib.bytesWorld_cell w e s j (by omega)
  rw [Nat.zero_add]
  exact this
theorem wpList_bytes (hg : o.guard = none) (src dst e : TypeId) (x : Operand) (ho : o.op = .convert src dst x) (s : ByteArray) (hx : a.eval x = .string s)
    (hs : P.underlying src = some .string) (hd : P.underlying dst = some (.slice e)) (he : P.underlying e = some (.int .u8)) (hl : s.size ≤ 140737488351232)
    (h : ∀ c w', Bts w' (fun b => w.heap.size ≤ b) (.slice (some ⟨w.heap.size, 0, none⟩) s.size c) s.data.toList → Below w.heap.size w w' → wpList P ops Q rest (a.put o.dst (.slice (some ⟨w.heap.size, 0, none⟩) s.size c)) w') : wpList P ops Q (o :: rest) a w := by
  refine wpList_plain hg fun K hK => ?_
  obtain ⟨v', w', hrun, ⟨c, rfl⟩, h1, h2⟩ := run_bytes (P := P) (w := w) hs hd he hl
  unfold Oper.wp
  simp only [execOp, ho, hx, Sem.run_bind, hrun, Result.andThen, Sem.run_pure, Oper.upon]
  exact hK _ _ (h c w' h1 h2)

/-- What a slice's cells are, as 'append' wants them. -/
theorem Row.cells {N : Nat → Prop} {A : Option Addr} {m : Nat} {f : Nat → Value} (h : Row w N A m f) (ad : Addr) (hA : A = some ad) : ∀ j u, ((List.range m).map f)[j]? = some u → w.cell? (ad.add j) = some u := by
  intro j u hu
  have hj : j < m := by
    have := (List.getElem?_eq_some_iff.1 hu).1
    simpa using this
  obtain ⟨b, off, h1, _, h3⟩ := h (by omega)
  rw [hA] at h1
  cases h1
  have ha : (⟨b, off, none⟩ : Addr).add j = ⟨b, off + j, none⟩ := by unfold Addr.add; split <;> simp_all
  rw [ha, h3 j hj]
  simp [hj] at hu
  exact congrArg some hu

theorem run_append_nothing' {base : Nat} {t ty e : TypeId} {i : TypeInfo} {size : Nat} (ht : P.underlying t = some (.slice e)) (hi : P.info? e = some i)
    {v : Value} {n : Nat} {xs : List Value} (hown : w.ownsRow base e size v n xs) (A : Option Addr) (c : Nat) : (Builtin.append_ #[t, t] ty #[v, .slice A 0 c]).run P w = .ok v w := by
  rcases hown.2 with ⟨rfl, rfl⟩ | ⟨g, cap, cur, rfl, _, _, hnc, _⟩
  · cases A <;> simp [Builtin.append_, run_underlying ht, sizeOf, typeInfo, hi, Builtin.lenOf, Builtin.firstCells, loadCells, loadCellsFrom]
  · cases A <;> simp [Builtin.append_, run_underlying ht, sizeOf, typeInfo, hi, Builtin.lenOf, Builtin.firstCells, loadCells, loadCellsFrom, hnc, storeCells]

/-- 'append(v, xs...)' onto a row of the call's own; the source nil, empty or not. -/
theorem run_append_row (base : Nat) (t ty e : TypeId) (i : TypeInfo) (z : Value) (size bytes : Nat) (ht : P.underlying t = some (.slice e)) (hi : P.info? e = some i) (hz : i.zero = some z)
    (hsize : i.size = size) (hby : i.bytes = bytes) (hzs : z.cells.size = size) (hsz : 0 < size)
    (v : Value) (n : Nat) (xs : List Value) (hown : w.ownsRow base e size v n xs)
    (N : Nat → Prop) (A : Option Addr) (m c : Nat) (f : Nat → Value) (hr : Row w N A (m * size) f) (h1 : ∀ j, j < m * size → (f j).oneCell' = true)
    (h63 : n + m ≤ maxLen) (hbytes : (n + m) * bytes ≤ 140737488355328) (hbase : base ≤ w.heap.size) :
    ∃ v' w', (Builtin.append_ #[t, t] ty #[v, .slice A m c]).run P w = .ok v' w' ∧ w'.ownsRow base e size v' (n + m) (xs ++ (List.range (m * size)).map f) ∧ w.grownBy w' v.ownBlock ∧
      (v'.ownBlock = v.ownBlock ∨ v'.ownBlock = some w.heap.size) := by
  rcases Nat.eq_zero_or_pos m with h0 | h0
  · subst h0
    exact ⟨v, w, run_append_nothing' ht hi hown A c, by simpa using hown, World.grownBy.refl w _, .inl rfl⟩
  · have hpos : 0 < m * size := Nat.mul_pos h0 hsz
    obtain ⟨b, off, hA, _, _⟩ := hr hpos
    subst hA
    obtain ⟨v', w', hrun, h2, h3, _, h5⟩ := run_append_own_at (P := P) w base t ty e i z size bytes ht hi hz hsize hby hzs hsz v n xs hown ⟨b, off, none⟩ m c ((List.range (m * size)).map f) (by simp) (hr.cells _ rfl)
      (fun u hu => by obtain ⟨j, hj, rfl⟩ := List.mem_map.1 hu; exact h1 j (List.mem_range.1 hj)) h63 hbytes hbase
    exact ⟨v', w', hrun, h2, h3, h5⟩
theorem wpList_append_row (hgd : o.guard = none) (s x : Operand) (t : TypeId) (ho : o.op = .call { callee := .builtin .append, args := #[s, x], argTypes := #[t, t] })
    (base : Nat) (e : TypeId) (i : TypeInfo) (z : Value) (size bytes : Nat) (ht : P.underlying t = some (.slice e)) (hi : P.info? e = some i) (hz : i.zero = some z)
    (hsize : i.size = size) (hby : i.bytes = bytes) (hzs : z.cells.size = size) (hsz : 0 < size)
    (v : Value) (n : Nat) (xs : List Value) (hs : a.eval s = v) (hown : w.ownsRow base e size v n xs)
    (N : Nat → Prop) (A : Option Addr) (m c : Nat) (f : Nat → Value) (hx : a.eval x = .slice A m c) (hr : Row w N A (m * size) f) (h1 : ∀ j, j < m * size → (f j).oneCell' = true)
    (h63 : n + m ≤ maxLen) (hbytes : (n + m) * bytes ≤ 140737488355328) (hbase : base ≤ w.heap.size)
    (h : ∀ v' w', w'.ownsRow base e size v' (n + m) (xs ++ (List.range (m * size)).map f) → w.grownBy w' v.ownBlock → (v'.ownBlock = v.ownBlock ∨ v'.ownBlock = some w.heap.size) → wpList P ops Q rest (a.put o.dst v') w') : wpList P ops Q (o :: rest) a w := by
  refine wpList_plain hgd fun K hK => ?_
  obtain ⟨v', w', hrun, h2, h3, h4⟩ := run_append_row (P := P) (w := w) base t o.type e i z size bytes ht hi hz hsize hby hzs hsz v n xs hown N A m c f hr h1 h63 hbytes hbase
  unfold Oper.wp execOp
  simp only [ho, resolve, invoke, builtin, Sem.run_bind, Sem.run_pure, Result.andThen_ok, List.map_toArray, List.map_cons, List.map_nil, hs, hx, hrun]
  exact hK _ _ (h v' w' h2 h3 h4)

/-- 'append([]byte(nil), b...)': a copy of bytes. -/
theorem wpList_copy_bytes (hgd : o.guard = none) (x : Operand) (t e : TypeId) (i : TypeInfo) (ho : o.op = .call { callee := .builtin .append, args := #[.const (.slice none 0 0), x], argTypes := #[t, t] })
    (ht : P.underlying t = some (.slice e)) (hi : P.info? e = some i) (hz : i.zero = some (.int .u8 0)) (hsize : i.size = 1) (hby : i.bytes = 1)
    (N : Nat → Prop) (l : List UInt8) (v : Value) (hx : a.eval x = v) (hb : Bts w N v l)
    (h : ∀ A c w', Bts w' (fun b => w.heap.size ≤ b) (.slice A l.length c) l → Below w.heap.size w w' → wpList P ops Q rest (a.put o.dst (.slice A l.length c)) w') : wpList P ops Q (o :: rest) a w := by
  obtain ⟨A, c, rfl, hr, hl⟩ := hb
  refine wpList_append_row hgd (.const (.slice none 0 0)) x t ho w.heap.size e i (.int .u8 0) 1 1 ht hi hz hsize hby rfl (by omega) (.slice none 0 0) 0 [] rfl (World.ownsRow_nil _ _ _ _) N A l.length c (fun j => .int .u8 ((l.getD j 0).toNat : Int)) hx
    (by rw [Nat.mul_one]; exact hr) (fun j _ => rfl) (by simp only [maxLen]; omega) (by omega) (Nat.le_refl _) ?_
  intro v' w' hown hg hat
  have hmap : ([] : List Value) ++ (List.range (l.length * 1)).map (fun j => Value.int .u8 ((l.getD j 0).toNat : Int)) = l.map fun c => .int .u8 (c.toNat : Int) := by
    rw [List.nil_append, Nat.mul_one]
    apply List.ext_getElem
    · simp
    · intro j h1 h2
      simp at h1
      simp [List.getD_eq_getElem?_getD, List.getElem?_eq_getElem h1]
  rw [hmap, Nat.zero_add] at hown
  have hB : Below w.heap.size w w' := (Below.refl _ _).grown hg (Nat.le_refl _) (by simp [Value.ownBlock])
  have hbt : Bts w' (fun b => w.heap.size ≤ b) v' l := Bts.of_own hown (fun b h => h) hl
  obtain ⟨A', c', rfl, hr', _⟩ := hbt
  exact h A' c' w' ⟨A', c', rfl, hr', hl⟩ hB
end
end Go.Ice

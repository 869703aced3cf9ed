/-
  What is proved: how the arguments of the laws over tables read: bytes, entries, things to be done, a room; what the bound on their bulk gives.
  Conditions: bounds under which nothing wraps.
-/
import Derived.Test.YtibolfdgbbaclaaLong
import Derived.Test.YtibolfdgbbaclaaRows
import Derived.Deep.Slices
import Derived.Deep.Fields
import Derived.ChangeSame
import Derived.OpenShut
import Derived.WalkKit
import Derived.ProofKit
import Derived.JoinedCond
import Derived.Lib.SmallJoins
open Go Go.RowKit Go.Ice
namespace Go.Proofs.Ytibolfdgbbaclaa
set_option maxRecDepth 100000
set_option linter.unusedVariables false
set_option linter.unusedSimpArgs false
attribute [local go_sem] gives givesUpon later_self more_cell more_frozen more_block more_more more_drew more_setCell more_of_drew more_of_drewN more_size lt_plus lt_plus2 lt_plus3 lt_plus4 swap_size swap_cell swap_frozen swap_setCell swap_drew swap_drewN ne_low ne_low1 ne_low2 ne_low3 ne_low4 Instr.field part asAgg List.extract_toArray List.extract_eq_take_drop
open Go.ChangeShapes Go.WideShapes Go.ChangeAt
theorem blk_one {H : Type} (d : DataW H) : 1 ≤ Rows.uptoBulk d := by
  cases d with
  | lit l => cases l <;> simp [Rows.uptoBulk]
  | nil => simp [Rows.uptoBulk]
  | ptr d => simp [Rows.uptoBulk]
  | slice elems spare => simp [Rows.uptoBulk]
  | agg parts => simp [Rows.uptoBulk]
  | iface t d => simp [Rows.uptoBulk]
  | map entries => simp [Rows.uptoBulk]
  | held h => simp [Rows.uptoBulk]
theorem blk_mem {H : Type} {d : DataW H} {l : List (DataW H)} (h : d ∈ l) : Rows.uptoBulk d ≤ Rows.uptoBulkAll l := by
  induction l with
  | nil => cases h
  | cons x r ih =>
    simp only [Rows.uptoBulkAll]
    cases List.mem_cons.1 h with
    | inl e => subst e; omega
    | inr e => have := ih e; omega
theorem blk_len {H : Type} (l : List (DataW H)) : l.length ≤ Rows.uptoBulkAll l := by
  induction l with
  | nil => simp [Rows.uptoBulkAll]
  | cons x r ih => have := blk_one x; simp only [Rows.uptoBulkAll, List.length_cons]; omega
theorem blk_agg {H : Type} {d : DataW H} {l : List (DataW H)} (h : d ∈ l) : Rows.uptoBulk d ≤ Rows.uptoBulk (.agg l) := by
  have := blk_mem h
  simp only [Rows.uptoBulk]
  omega
theorem blk_slice {H : Type} {d : DataW H} {l s : List (DataW H)} (h : d ∈ l) : Rows.uptoBulk d ≤ Rows.uptoBulk (.slice l s) := by
  have := blk_mem h
  simp only [Rows.uptoBulk]
  omega
theorem blk_slice_len {H : Type} (l s : List (DataW H)) : l.length ≤ Rows.uptoBulk (.slice l s) := by
  have := blk_len l
  simp only [Rows.uptoBulk]
  omega
section
variable {H : Type} {enc : TypeId × Value → H} {w : World} {base : Nat} {spare : Nat → Bool} {held : Bool}
theorem addr_plain {a : Addr} {v : Value} {w : World} (h : w.cell? a = some v) : a = ⟨a.block, a.off, none⟩ := by
  have := World.cell?_spot h
  cases a
  simp at this
  subst this
  rfl
theorem add_plain (b o i : Nat) : (⟨b, o, none⟩ : Addr).add i = ⟨b, o + i, none⟩ := by unfold Addr.add; split <;> simp_all
theorem add_both (a : Addr) (i j : Nat) : (a.add i).add j = a.add (i + j) := by
  unfold Addr.add
  by_cases hi : i = 0 <;> by_cases hj : j = 0 <;> simp [hi, hj, Nat.add_assoc]
theorem cells5 : Try.prog.cellsOf 5 = 1 := by kernel_rfl
theorem cells37 : Try.prog.cellsOf 37 = 6 := by kernel_rfl
theorem cells43 : Try.prog.cellsOf 43 = 8 := by kernel_rfl
theorem cells9 : Try.prog.cellsOf 9 = 1 := by kernel_rfl
theorem cells3 : Try.prog.cellsOf 3 = 1 := by kernel_rfl
theorem cells4 : Try.prog.cellsOf 4 = 1 := by kernel_rfl
theorem cells32 : Try.prog.cellsOf 32 = 3 := by kernel_rfl
theorem cells35 : Try.prog.cellsOf 35 = 2 := by kernel_rfl
theorem cells33 : Try.prog.cellsOf 33 = 1 := by kernel_rfl
theorem cells23 : Try.prog.cellsOf 23 = 4 := by kernel_rfl
/-- Bytes. -/
theorem open_bts {n : Nat} {v : Value} {y : DataW H × List MemPlace} (h : DataW.trod enc Try.prog w base spare held n 33 [v] = some y) (hb : Rows.uptoBulk y.1 ≤ 1048576) :
    ∃ l : List UInt8, Bts w (fun b => b < w.heap.size) v l ∧ l.length ≤ 1048576 := by
  rcases open_ints Try.underlying33 Try.underlying5 cells5 h with ⟨hv, rfl⟩ | ⟨a, len, cap, zs, hv, _, hl1, hl2, hlen, rfl, hcell, hwf⟩
  · cases hv
    exact ⟨[], Bts.nil _ _, by simp⟩
  · cases hv
    have hle : len ≤ zs.length := by rw [hlen]; split <;> omega
    have hbl : len ≤ 1048576 := by
      have := blk_slice_len (lits .u8 (zs.take len) : List (DataW H)) (lits .u8 (zs.drop len))
      have h2 : (lits .u8 (zs.take len) : List (DataW H)).length = len := by simp [lits]; omega
      rw [h2] at this
      exact Nat.le_trans this hb
    refine ⟨(zs.take len).map fun z => UInt8.ofNat z.toNat, ⟨some a, cap, ?_, fun hm => ?_, ?_⟩, ?_⟩
    · simp [Nat.min_eq_left hle]
    · have hlen' : ((zs.take len).map fun z => UInt8.ofNat z.toNat).length = len := by simp; omega
      rw [hlen'] at hm
      have h0 := hcell 0 (by omega)
      have ha := addr_plain h0
      rw [show a.add 0 = a from rfl] at ha h0
      have hlt := World.block_lt_of_cell? w _ h0
      refine ⟨a.block, a.off, by rw [← ha], hlt, fun j hj => ?_⟩
      rw [hlen'] at hj
      have hc := hcell j (by omega)
      rw [ha, add_plain] at hc
      rw [hc]
      have hw := hwf (zs.getD j 0) (by
        rw [List.getD_eq_getElem?_getD, List.getElem?_eq_getElem (by omega)]
        exact List.getElem_mem _)
      have hz : 0 ≤ zs.getD j 0 ∧ zs.getD j 0 ≤ 255 := by simpa [Lit.wf, IntKind.min, IntKind.max, IntKind.signed, IntKind.bits] using hw
      have e1 : ((zs.take len).map fun z => UInt8.ofNat z.toNat).getD j 0 = UInt8.ofNat (zs.getD j 0).toNat := by
        rw [List.getD_eq_getElem?_getD, List.getD_eq_getElem?_getD, List.getElem?_map, List.getElem?_take_of_lt hj, List.getElem?_eq_getElem (by omega)]
        rfl
      show some (Value.int IntKind.u8 (zs.getD j 0)) = some (Value.int .u8 ((((zs.take len).map fun z => UInt8.ofNat z.toNat).getD j 0).toNat : Int))
      rw [e1]
      have e2 : ((UInt8.ofNat (zs.getD j 0).toNat).toNat : Int) = zs.getD j 0 := by
        rw [UInt8.toNat_ofNat', Nat.mod_eq_of_lt (by omega)]
        omega
      rw [e2]
    · simp; omega
    · simp; omega
theorem one_of {cs : List Value} (h : cs.length = 1) : ∃ c, cs = [c] := by
  match cs, h with
  | [c], _ => exact ⟨c, rfl⟩
/-- An entry's six cells. -/
theorem open_entry {n : Nat} {cs : List Value} {y : DataW H × List MemPlace} (h : DataW.trod enc Try.prog w base spare held n 37 cs = some y) (hb : Rows.uptoBulk y.1 ≤ 1048576) :
    ∃ (e : Ent) (sv : Value), cs = [.string e.key, .int .i64 e.seq, .int .i64 e.who, .int .i64 e.op, .bool e.has, sv] ∧ Bts w (fun b => b < w.heap.size) sv e.b ∧ e.key.size ≤ 1048576 ∧ e.b.length ≤ 1048576 := by
  obtain ⟨ys, n1, _, rfl, hlen, hyl, hf⟩ := DataW.trod_struct Try.underlying37 h
  rw [cells37] at hlen
  match cs, hlen with
  | [c0, c1, c2, c3, c4, c5], _ =>
    match ys, hyl with
    | [y0, y1, y2], _ =>
      have f0 := hf 0 _ rfl
      have f1 := hf 1 _ rfl
      have f2 := hf 2 _ rfl
      simp only [cells9, cells32, cells35, List.drop, List.take, List.getElem?_cons_zero, List.getElem?_cons_succ] at f0 f1 f2
      obtain ⟨s, hs, rfl, _⟩ := DataW.trod_string Try.underlying9 f0
      cases hs
      obtain ⟨zs, n2, _, rfl, _, hzl, hg⟩ := DataW.trod_struct Try.underlying32 f1
      match zs, hzl with
      | [z0, z1, z2], _ =>
        have g0 := hg 0 _ rfl
        have g1 := hg 1 _ rfl
        have g2 := hg 2 _ rfl
        simp only [cells3, List.drop, List.take, List.getElem?_cons_zero, List.getElem?_cons_succ] at g0 g1 g2
        obtain ⟨i0, e0, rfl, _⟩ := DataW.trod_int Try.underlying3 g0
        obtain ⟨i1, e1, rfl, _⟩ := DataW.trod_int Try.underlying3 g1
        obtain ⟨i2, e2, rfl, _⟩ := DataW.trod_int Try.underlying3 g2
        cases e0; cases e1; cases e2
        obtain ⟨us, n3, _, rfl, _, hul, hk⟩ := DataW.trod_struct Try.underlying35 f2
        match us, hul with
        | [u0, u1], _ =>
          have k0 := hk 0 _ rfl
          have k1 := hk 1 _ rfl
          simp only [cells4, cells33, List.drop, List.take, List.getElem?_cons_zero, List.getElem?_cons_succ] at k0 k1
          obtain ⟨b0, eb, rfl⟩ := DataW.trod_bool Try.underlying4 k0
          cases eb
          simp only [List.map_cons, List.map_nil, Rows.uptoBulk, Rows.uptoBulkAll] at hb
          obtain ⟨l, hl, hll⟩ := open_bts k1 (by omega)
          refine ⟨⟨s, i0, i1, i2, b0, l⟩, c5, rfl, hl, ?_, hll⟩
          have hsz : s.data.toList.length = s.size := by simp
          show s.size ≤ 1048576
          omega
theorem open_do {n : Nat} {cs : List Value} {y : DataW H × List MemPlace} (h : DataW.trod enc Try.prog w base spare held n 43 cs = some y) (hb : Rows.uptoBulk y.1 ≤ 1048576) :
    ∃ d : Do, cs = doCells d ∧ Bts w (fun b => b < w.heap.size) d.sv d.e.b ∧ d.e.key.size ≤ 1048576 ∧ d.e.b.length ≤ 1048576 := by
  obtain ⟨ys, n1, _, rfl, hlen, hyl, hf⟩ := DataW.trod_struct Try.underlying43 h
  rw [cells43] at hlen
  match cs, hlen with
  | [c0, c1, c2, c3, c4, c5, c6, c7], _ =>
    match ys, hyl with
    | [y0, y1, y2], _ =>
      have f0 := hf 0 _ rfl
      have f1 := hf 1 _ rfl
      have f2 := hf 2 _ rfl
      simp only [cells3, cells37, List.drop, List.take, List.getElem?_cons_zero, List.getElem?_cons_succ] at f0 f1 f2
      obtain ⟨i0, e0, rfl, _⟩ := DataW.trod_int Try.underlying3 f0
      obtain ⟨i2, e2, rfl, _⟩ := DataW.trod_int Try.underlying3 f2
      cases e0; cases e2
      simp only [List.map_cons, List.map_nil, Rows.uptoBulk, Rows.uptoBulkAll] at hb
      obtain ⟨e, sv, he, h1, h2, h3⟩ := open_entry f1 (by omega)
      refine ⟨⟨i0, e, i2, c6⟩, ?_, ?_, h2, h3⟩
      · injection he with q1 he
        injection he with q2 he
        injection he with q3 he
        injection he with q4 he
        injection he with q5 he
        injection he with q6 he
        rw [q1, q2, q3, q4, q5]
        rfl
      · injection he with q1 he
        injection he with q2 he
        injection he with q3 he
        injection he with q4 he
        injection he with q5 he
        injection he with q6 he
        rw [q6]
        exact h1
theorem open_dos {n : Nat} {v : Value} {y : DataW H × List MemPlace} (h : DataW.trod enc Try.prog w base spare held n 24 [v] = some y) (hb : Rows.uptoBulk y.1 ≤ 1048576) :
    ∃ ds, DRows w (fun b => b < w.heap.size) v ds := by
  rcases Go.Deep.open_slice Try.underlying24 h with ⟨hv, rfl⟩ | ⟨a, len, cap, m, k, D, Pl, hv, _, hl1, hl2, hm, rfl, hi⟩
  · cases hv
    exact ⟨[], none, 0, rfl, Row.nil, fun d hd => (by cases hd), by simp⟩
  · cases hv
    have hle : len ≤ m := by rw [hm]; split <;> omega
    have hbl : len ≤ 1048576 := by
      have := blk_slice_len ((List.range len).map D) ((List.range (m - len)).map fun j => D (len + j))
      simp only [List.length_map, List.length_range] at this
      exact Nat.le_trans this hb
    have hel : ∀ i, i < len → ∃ d : Do, (∀ (j : Nat) (u : Value), (doCells d)[j]? = some u → w.cell? (a.add (i * 8 + j)) = some u) ∧ Bts w (fun b => b < w.heap.size) d.sv d.e.b ∧ d.e.key.size ≤ 1048576 ∧ d.e.b.length ≤ 1048576 := by
      intro i hil
      obtain ⟨cs', hc, ht⟩ := hi i (by omega)
      have hbi : Rows.uptoBulk (D i) ≤ 1048576 := Nat.le_trans (blk_slice (List.mem_map.2 ⟨i, List.mem_range.2 hil, rfl⟩)) hb
      obtain ⟨d, rfl, h1, h2, h3⟩ := open_do ht hbi
      rw [cells43] at hc
      obtain ⟨_, hcl, hat⟩ := World.cells?_some hc
      refine ⟨d, fun j u hu => ?_, h1, h2, h3⟩
      have hj : j < 8 := (List.getElem?_eq_some_iff.1 hu).1
      have := hat j hj
      rw [add_both] at this
      rw [this, hu]
    have hch : ∃ f : Nat → Do, ∀ i, i < len → (∀ (j : Nat) (u : Value), (doCells (f i))[j]? = some u → w.cell? (a.add (i * 8 + j)) = some u) ∧ Bts w (fun b => b < w.heap.size) (f i).sv (f i).e.b ∧ (f i).e.key.size ≤ 1048576 ∧ (f i).e.b.length ≤ 1048576 := by
      refine ⟨fun i => if h : i < len then (hel i h).choose else ⟨0, zeroE ⟨#[]⟩, 0, undef⟩, fun i hil => ?_⟩
      simp only [dif_pos hil]
      exact (hel i hil).choose_spec
    obtain ⟨f, hf⟩ := hch
    have hlen : ((List.range len).map f).length = len := by simp
    refine ⟨(List.range len).map f, some a, cap, by rw [hlen], fun hm0 => ?_, fun d hd => ?_, by rw [hlen]; exact hbl⟩
    · rw [hlen] at hm0
      have h0 := (hf 0 (by omega)).1 0 _ rfl
      have ha := addr_plain h0
      rw [show a.add (0 * 8 + 0) = a from rfl] at ha h0
      have hlt := World.block_lt_of_cell? w _ h0
      refine ⟨a.block, a.off, by rw [← ha], hlt, fun j hj => ?_⟩
      rw [hlen] at hj
      have hq : j / 8 < len := by omega
      have hr : j % 8 < 8 := Nat.mod_lt _ (by omega)
      have hj8 : j / 8 * 8 + j % 8 = j := by omega
      have h1 := flatD_at ((List.range len).map f) (j / 8) (j % 8) (by rw [hlen]; exact hq) hr
      rw [hj8] at h1
      have h2 : ((List.range len).map f)[j / 8]'(by rw [hlen]; exact hq) = f (j / 8) := by simp
      rw [h2] at h1
      obtain ⟨u, h3⟩ : ∃ u, (doCells (f (j / 8)))[j % 8]? = some u := ⟨_, List.getElem?_eq_getElem (show j % 8 < (doCells (f (j / 8))).length from hr)⟩
      have h4 := (hf (j / 8) hq).1 (j % 8) _ h3
      rw [hj8, ha, add_plain] at h4
      rw [h4]
      show some u = some ((flatD ((List.range len).map f)).getD j undef)
      rw [List.getD_eq_getElem?_getD, h1, h3]
      rfl
    · obtain ⟨i, hi', rfl⟩ := List.mem_map.1 hd
      exact (hf i (List.mem_range.1 hi')).2
theorem open_room {r : Reach} {b0 : Nat} {v : Value} {d : DataW H} {p : List MemPlace} (hv : Value.okWide Try.prog w r b0 23 v) (h : DataW.Trod enc Try.prog w base spare held 23 v d p) : ∃ x : Room, v = roomV x := by
  obtain ⟨v0, v1, v2, v3, y0, y1, y2, y3, n, rfl, _, _, h0, h1, h2, h3⟩ := Go.Joins.open_agg4 Try.underlying23 (by kernel_rfl) cells23 hv h
  obtain ⟨i0, e0, _, _⟩ := DataW.trod_int Try.underlying3 h0
  obtain ⟨i1, e1, _, _⟩ := DataW.trod_int Try.underlying3 h1
  obtain ⟨i2, e2, _, _⟩ := DataW.trod_int Try.underlying3 h2
  obtain ⟨b3, e3, _⟩ := DataW.trod_bool Try.underlying4 h3
  cases e0; cases e1; cases e2; cases e3
  exact ⟨⟨i0, i1, i2, b3⟩, rfl⟩
end
end Go.Proofs.Ytibolfdgbbaclaa

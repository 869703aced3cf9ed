/-
  What is proved: the contract of the reference's Long; how a list of things to be done lies in memory.
  Conditions: bounds under which nothing wraps.
-/
import Derived.Test.YtibolfdgbbaclaaKnown
open Go Go.RowKit Go.Ice
namespace Go.Proofs.Ytibolfdgbbaclaa
set_option maxRecDepth 100000
set_option linter.unusedVariables false
set_option linter.unusedSimpArgs false
attribute [local go_sem] gives givesUpon later_self more_cell more_frozen more_block more_more more_drew more_setCell more_of_drew more_of_drewN more_size lt_plus lt_plus2 lt_plus3 lt_plus4 swap_size swap_cell swap_frozen swap_setCell swap_drew swap_drewN ne_low ne_low1 ne_low2 ne_low3 ne_low4 Instr.field part asAgg List.extract_toArray List.extract_eq_take_drop
def doCells (d : Do) : List Value := [.int .i64 d.kind, .string d.e.key, .int .i64 d.e.seq, .int .i64 d.e.who, .int .i64 d.e.op, .bool d.e.has, d.sv, .int .i64 d.tok]
def flatD (ds : List Do) : List Value := ds.flatMap doCells
def DRows (w : World) (N : Nat → Prop) (v : Value) (ds : List Do) : Prop :=
  ∃ A c, v = .slice A ds.length c ∧ Row w N A (ds.length * 8) (fun j => (flatD ds).getD j undef) ∧ (∀ d ∈ ds, Bts w N d.sv d.e.b ∧ d.e.key.size ≤ 1048576 ∧ d.e.b.length ≤ 1048576) ∧ ds.length ≤ 1048576
theorem DRows.below {w w' : World} {N : Nat → Prop} {v : Value} {ds : List Do} (h : DRows w N v ds) (hB : Below w.heap.size w w') : DRows w' N v ds :=
  let ⟨A, c, h1, h2, h3, h4⟩ := h; ⟨A, c, h1, h2.below hB, fun d hd => ⟨(h3 d hd).1.below hB, (h3 d hd).2⟩, h4⟩
theorem flatD_at (ds : List Do) (j k : Nat) (hj : j < ds.length) (hk : k < 8) : (flatD ds)[j * 8 + k]? = (doCells ds[j])[k]? := by
  induction ds generalizing j with
  | nil => simp at hj
  | cons c cs ih =>
    have e : flatD (c :: cs) = doCells c ++ flatD cs := rfl
    have hl : (doCells c).length = 8 := rfl
    rw [e]
    cases j with
    | zero =>
      rw [Nat.zero_mul, Nat.zero_add, List.getElem?_append_left (by omega)]
      rfl
    | succ j =>
      rw [List.getElem?_append_right (by omega), hl]
      have : (j + 1) * 8 + k - 8 = j * 8 + k := by omega
      rw [this, ih j (by simpa using hj)]
      rfl
structure Cell8 (w : World) (b o : Nat) (c : Do) : Prop where
  p0 : w.cell? ⟨b, o, none⟩ = some (.int .i64 c.kind)
  p1 : w.cell? ⟨b, o + 1, none⟩ = some (.string c.e.key)
  p2 : w.cell? ⟨b, o + 2, none⟩ = some (.int .i64 c.e.seq)
  p3 : w.cell? ⟨b, o + 3, none⟩ = some (.int .i64 c.e.who)
  p4 : w.cell? ⟨b, o + 4, none⟩ = some (.int .i64 c.e.op)
  p5 : w.cell? ⟨b, o + 5, none⟩ = some (.bool c.e.has)
  p6 : w.cell? ⟨b, o + 6, none⟩ = some c.sv
  p7 : w.cell? ⟨b, o + 7, none⟩ = some (.int .i64 c.tok)
theorem Cell8.below {w w' : World} {b o : Nat} {c : Do} (h : Cell8 w b o c) (hb : b < w.heap.size) (hB : Below w.heap.size w w') : Cell8 w' b o c :=
  ⟨(hB.cell (p := ⟨b, _, none⟩) hb).trans h.p0, (hB.cell (p := ⟨b, _, none⟩) hb).trans h.p1, (hB.cell (p := ⟨b, _, none⟩) hb).trans h.p2, (hB.cell (p := ⟨b, _, none⟩) hb).trans h.p3, (hB.cell (p := ⟨b, _, none⟩) hb).trans h.p4, (hB.cell (p := ⟨b, _, none⟩) hb).trans h.p5, (hB.cell (p := ⟨b, _, none⟩) hb).trans h.p6, (hB.cell (p := ⟨b, _, none⟩) hb).trans h.p7⟩
theorem drow_cells {w : World} {N : Nat → Prop} {A : Option Addr} {n c : Nat} {ds : List Do} (h : DRows w N (.slice A n c) ds) : n = ds.length ∧ ds.length ≤ 1048576 ∧ ∀ j, (hj : j < ds.length) → ∃ b o, A = some ⟨b, o, none⟩ ∧ b < w.heap.size ∧ N b ∧
    Cell8 w b (o + j * 8) ds[j] ∧ Bts w N ds[j].sv ds[j].e.b ∧ ds[j].e.key.size ≤ 1048576 ∧ ds[j].e.b.length ≤ 1048576 := by
  obtain ⟨A', c', he, hr, hv, hl⟩ := h
  injection he with hA hn hc
  subst hA
  refine ⟨hn, hl, fun j hj => ?_⟩
  obtain ⟨b, o, h1, hN, h3⟩ := hr (by omega)
  have q : ∀ (k : Nat) (u : Value), (doCells ds[j])[k]? = some u → w.cell? ⟨b, o + j * 8 + k, none⟩ = some u := by
    intro k u hu
    have hk : k < 8 := (List.getElem?_eq_some_iff.1 hu).1
    have h5 := h3 (j * 8 + k) (by omega)
    dsimp only at h5
    rw [List.getD_eq_getElem?_getD, flatD_at ds j k hj hk, hu] at h5
    rw [Nat.add_assoc]
    exact h5
  obtain ⟨g1, g2, g3⟩ := hv _ (List.getElem_mem hj)
  exact ⟨b, o, h1, World.block_lt_of_cell? w _ (q 0 _ rfl), hN, ⟨q 0 _ rfl, q 1 _ rfl, q 2 _ rfl, q 3 _ rfl, q 4 _ rfl, q 5 _ rfl, q 6 _ rfl, q 7 _ rfl⟩, g1, g2, g3⟩
def longD : List Do → Int
  | [] => 0
  | d :: ds => 10 + d.e.key.size + d.e.b.length + longD ds
theorem longD_append (a b : List Do) : longD (a ++ b) = longD a + longD b := by
  induction a with
  | nil => simp [longD]
  | cons d a ih => simp only [List.cons_append, longD, ih]; omega
theorem longD_take (ds : List Do) (j : Nat) (hj : j < ds.length) : longD (ds.take (j + 1)) = longD (ds.take j) + 10 + ds[j].e.key.size + ds[j].e.b.length := by
  rw [List.take_succ_eq_append_getElem hj, longD_append]
  simp only [longD]
  omega
theorem longD_len (ds : List Do) : 10 * (ds.length : Int) ≤ longD ds := by
  induction ds with
  | nil => simp [longD]
  | cons d ds ih => simp only [longD, List.length_cons]; omega
set_option maxHeartbeats 1000000 in
theorem long_any (w : World) (N : Nat → Prop) (v : Value) (ds : List Do) (h : DRows w N v ds) :
    Calls Try.prog 9 #[v] w fun e w' => e = .returned (.int .i64 (longD ds)) ∧ Below w.heap.size w w' := by
  have hs := h
  obtain ⟨A, c, rfl, _, hv, _⟩ := hs
  obtain ⟨_, hl, ha⟩ := drow_cells h
  have Ha := Lib.hid ha
  have Hv := Lib.hid hv
  clear h ha hv
  go_enter Try.func9, Try.ntmps9
  go_wp2
  go_loopg [3, 4] ds.length (fun k s i wx => ∃ (j : Nat) (n : Int), j ≤ ds.length ∧ k = ds.length - j ∧ i = .int .i64 j ∧ s = .int .i64 n ∧ Hid (n = longD (ds.take j)) ∧ (0 ≤ n ∧ n ≤ 2097162 * (j : Int)) ∧ Later w wx)
  case atStart => exact ⟨0, 0, by omega, by omega, rfl, rfl, Lib.hid rfl, by omega, later_refl _⟩
  case round =>
    obtain ⟨j, n, hj, rfl, rfl, rfl, HE, hn, e, rfl⟩ := hrel
    by_cases hlt : j < ds.length
    · obtain ⟨b, o, rfl, hb, _, ⟨p0, p1, p2, p3, p4, p5, p6, p7⟩, bt, hk1, hk2⟩ := Ha.out j hlt
      have HT := Lib.hid (longD_take ds j hlt)
      have hj0 : (0 : Int) ≤ (j : Int) := by omega
      have hj1 : (j : Int) < (ds.length : Int) := by omega
      have hjt : ((j : Int)).toNat = j := by omega
      generalize ds[j] = d at *
      obtain ⟨As, cs, hsv, _, _⟩ := bt
      rw [hsv] at p6
      have hn0 := hn.1
      have hn1 : n ≤ 4398046511104 := by omega
      have hn2 := hn.2
      clear Ha hn hsv
      have hz1 : (d.e.key.size : Int) ≤ 1048576 := by omega
      have hz2 : (d.e.b.length : Int) ≤ 1048576 := by omega
      go_wp2
      refine wp_region_mix_lit [(0,false),(1,false),(2,false),(3,false),(4,false),(5,false),(6,false),(7,false),(8,false),(9,false),(10,false),(11,false),(12,false),(13,false),(14,false),(15,false),(16,false),(17,false),(18,false),(19,false)] (by kernel_rfl) (by kernel_rfl) ?_
      iterate 20 (refine mix_step rfl (fun K hK => ?_); go_simp; refine hK _ ?_; clear hK K)
      refine mix_done (fun e6 => ?_)
      go_wp2
      go_roundg (ds.length - (j + 1))
      case measure => omega
      case rel => exact ⟨j + 1, n + 10 + d.e.key.size + d.e.b.length, by omega, rfl, by go_num, by rw [wrapI (x := n + 10) (by omega) (by omega), wrapI (x := n + 10 + d.e.key.size) (by omega) (by omega), wrapI (x := n + 10 + d.e.key.size + d.e.b.length) (by omega) (by omega)], Lib.hid (by rw [HT.out, HE.out]), by omega, _, rfl⟩
    · have hjn : j = ds.length := by omega
      subst hjn
      have HD := Lib.hid (show n = longD ds by have := HE.out; rwa [List.take_of_length_le (Nat.le_refl _)] at this)
      go_wp2
      go_ret
      exact ⟨by rw [HD.out] <;> rfl, (Kept.to_below' (S := fun _ => False) (by repeat (first | with_reducible refine Kept.more ?_ _ | with_reducible refine Kept.alloc ?_ _ | with_reducible refine Kept.drew ?_ | with_reducible refine Kept.drewN ?_ _ | exact Kept.refl _ _)) (by omega) (fun _ h => h.elim))⟩
end Go.Proofs.Ytibolfdgbbaclaa

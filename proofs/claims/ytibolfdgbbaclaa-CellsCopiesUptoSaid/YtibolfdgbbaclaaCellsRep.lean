/-
  What is proved: how a table of cells lies in memory; contracts of its smallest methods.
  Conditions: bounds under which nothing wraps.
-/
import Derived.Test.YtibolfdgbbaclaaCellsPlain
import Derived.Test.YtibolfdgbbaclaaHash2
import Derived.Test.YtibolfdgbbaclaaTags2
import Derived.Test.YtibolfdgbbaclaaMapLaws
open Go Go.RowKit Go.Ice
namespace Go.Proofs.Ytibolfdgbbaclaa
set_option maxRecDepth 100000
set_option linter.unusedVariables false
set_option linter.unusedSimpArgs false
attribute [local go_sem] gives givesUpon later_self more_cell more_frozen more_block more_more more_drew more_setCell more_of_drew more_of_drewN more_size lt_plus Instr.field part asAgg List.extract_toArray List.extract_eq_take_drop
def off (bt bm bk : Nat) : Nat → Prop := fun b => b ≠ bt ∧ b ≠ bm ∧ b ≠ bk
def foot (bt bm bk : Nat) : Nat → Prop := fun b => b = bt ∨ b = bm ∨ b = bk
/-- The cells of the table's own block. -/
def tabCells (T : Tab) (bm bk cap : Nat) : Array Value :=
  #[.int .i64 T.room.cells, .int .i64 T.room.bytes, .int .i64 T.room.buckets, .bool T.room.fresh, .map (some bm), .slice (some ⟨bk, 0, none⟩) T.tok.length cap, .int .i64 T.uses, .int .i64 T.bytes]
def notU8 (v : Value) : Bool := match v with | .int .u8 _ => false | _ => true
theorem nou_set {cs : Array Value} (h : cs.toList.all notU8 = true) (i : Nat) (v : Value) (hv : notU8 v = true) : (cs.setIfInBounds i v).toList.all notU8 = true := by
  refine List.all_eq_true.2 fun x hx => ?_
  rw [Array.toList_setIfInBounds] at hx
  rcases List.mem_or_eq_of_mem_set hx with hx | rfl
  · exact List.all_eq_true.1 h x hx
  · exact hv
structure IsTab (w : World) (bt bm bk : Nat) (T : Tab) : Prop where
  tm : bt ≠ bm
  tk : bt ≠ bk
  bmk : bm ≠ bk
  tab : ∃ cap, w.heap[bt]? = some (.cells (tabCells T bm bk cap) 78 (0, 0))
  toks : ∃ cs, w.heap[bk]? = some (.cells cs 3 (0, 0)) ∧ (∀ (i : Nat) (t : Int), T.tok[i]? = some t → cs[i]? = some (Value.int .i64 t)) ∧ cs.toList.all notU8 = true
  cells : MapAt w bm (assoc T.L)
  vals : ∀ c ∈ T.L, Bts w (off bt bm bk) c.sv c.e.b
theorem IsTab.lt {w : World} {bt bm bk : Nat} {T : Tab} (h : IsTab w bt bm bk T) : bt < w.heap.size ∧ bm < w.heap.size ∧ bk < w.heap.size := by
  obtain ⟨cap, h1⟩ := h.tab
  obtain ⟨cs, h2, _⟩ := h.toks
  exact ⟨(Array.getElem?_eq_some_iff.1 h1).1, h.cells.lt, (Array.getElem?_eq_some_iff.1 h2).1⟩
/-- Kept where its blocks and those of its values are. -/
theorem IsTab.kept {w w' : World} {bt bm bk : Nat} {T : Tab} (h : IsTab w bt bm bk T) (hk : ∀ b, b < w.heap.size → w'.heap[b]? = w.heap[b]?) : IsTab w' bt bm bk T := by
  obtain ⟨l1, l2, l3⟩ := h.lt
  obtain ⟨h1, h2, h3, ⟨cap, h4⟩, ⟨cs, h5, h6⟩, h7, h8⟩ := h
  exact ⟨h1, h2, h3, ⟨cap, (hk bt l1).trans h4⟩, ⟨cs, (hk bk l3).trans h5, h6⟩, h7.of_block (hk bm l2), fun c hc => (h8 c hc).kept fun b _ hb => hk b hb⟩
theorem IsTab.below {w w' : World} {bt bm bk : Nat} {T : Tab} (h : IsTab w bt bm bk T) (hb : Below w.heap.size w w') : IsTab w' bt bm bk T := h.kept fun b hlt => hb.block b hlt
theorem IsTab.more {w : World} {bt bm bk : Nat} {T : Tab} (h : IsTab w bt bm bk T) (e : Array Obj × Nat) : IsTab (more w e) bt bm bk T := h.below (more_below w e)
/-- Other tables, whose blocks these are not, are kept. -/
theorem IsTab.keptS {w w' : World} {bt bm bk : Nat} {T : Tab} {S : Nat → Prop} (h : IsTab w bt bm bk T) (hk : Kept S w w') (hs : ¬ S bt ∧ ¬ S bm ∧ ¬ S bk) (hv : ∀ c ∈ T.L, Bts w (fun b => ¬ S b) c.sv c.e.b) : IsTab w' bt bm bk T := by
  obtain ⟨l1, l2, l3⟩ := h.lt
  obtain ⟨h1, h2, h3, ⟨cap, h4⟩, ⟨cs, h5, h6⟩, h7, h8⟩ := h
  refine ⟨h1, h2, h3, ⟨cap, (hk.block bt l1 hs.1).trans h4⟩, ⟨cs, (hk.block bk l3 hs.2.2).trans h5, h6⟩, h7.of_block (hk.block bm l2 hs.2.1), fun c hc => ?_⟩
  obtain ⟨A, cc, e1, r1, e2⟩ := h8 c hc
  obtain ⟨A', cc', e1', r1', _⟩ := hv c hc
  rw [e1] at e1'
  cases e1'
  refine ⟨A, cc, e1, fun hm => ?_, e2⟩
  obtain ⟨b, o, x1, x2, x3⟩ := r1 hm
  obtain ⟨b', o', y1, y2, y3⟩ := r1' hm
  rw [x1] at y1
  cases y1
  refine ⟨b, o, x1, x2, fun j hj => ?_⟩
  have hlt := World.block_lt_of_cell? w ⟨b, o + j, none⟩ (x3 j hj)
  rw [World.cell?_of_block (a := ⟨b, o + j, none⟩) (hk.block b hlt y2)]
  exact x3 j hj
/-! ### a block that is known whole -/
def Blk (w : World) (b : Nat) (cs : Array Value) (t : TypeId) : Prop := w.heap[b]? = some (.cells cs t (0, 0))
theorem Blk.lt {w : World} {b : Nat} {cs : Array Value} {t : TypeId} (h : Blk w b cs t) : b < w.heap.size := (Array.getElem?_eq_some_iff.1 h).1
theorem Blk.set {w : World} {b : Nat} {cs : Array Value} {t : TypeId} (h : Blk w b cs t) (i : Nat) (v : Value) : Blk (w.setCell ⟨b, i, none⟩ v) b (cs.setIfInBounds i v) t := by
  unfold Blk at *
  simp [World.setCell, Array.getElem?_modify, h]
theorem Blk.far {w : World} {b : Nat} {cs : Array Value} {t : TypeId} (h : Blk w b cs t) {p : Addr} (hp : b ≠ p.block) (v : Value) : Blk (w.setCell p v) b cs t := (Below.heap_setCell w p v b hp).trans h
theorem Blk.alloc {w : World} {b : Nat} {cs : Array Value} {t : TypeId} (h : Blk w b cs t) (o : Obj) : Blk (w.alloc o) b cs t := (Below.heap_alloc w o b h.lt).trans h
theorem Blk.more {w : World} {b : Nat} {cs : Array Value} {t : TypeId} (h : Blk w b cs t) (e : Array Obj × Nat) : Blk (more w e) b cs t := (more_block w e b h.lt).trans h
theorem Blk.drew {w : World} {b : Nat} {cs : Array Value} {t : TypeId} (h : Blk w b cs t) : Blk w.drew b cs t := h
theorem Blk.drewN {w : World} {b : Nat} {cs : Array Value} {t : TypeId} (h : Blk w b cs t) (n : Nat) : Blk (w.drewN n) b cs t := h
theorem Blk.kept {w w' : World} {b : Nat} {cs : Array Value} {t : TypeId} {S : Nat → Prop} (h : Blk w b cs t) (hk : Kept S w w') (hs : ¬ S b) : Blk w' b cs t := (hk.block b h.lt hs).trans h
theorem Blk.cell {w : World} {b : Nat} {cs : Array Value} {t : TypeId} (h : Blk w b cs t) (i : Nat) : w.cell? ⟨b, i, none⟩ = cs[i]? := by unfold Blk at h; simp [World.cell?, h]
theorem Blk.fro {w : World} {b : Nat} {cs : Array Value} {t : TypeId} (h : Blk w b cs t) (i : Nat) : w.frozen? ⟨b, i, none⟩ = false := by unfold Blk at h; simp [World.frozen?, h]
theorem bts_keptF {w w' : World} {bt bm bk : Nat} {v : Value} {l : List UInt8} (h : Bts w (off bt bm bk) v l) (hk : Kept (foot bt bm bk) w w') : Bts w' (off bt bm bk) v l :=
  h.kept fun b hb hlt => hk.block b hlt (fun hf => by
    rcases hf with rfl | rfl | rfl
    · exact hb.1 rfl
    · exact hb.2.1 rfl
    · exact hb.2.2 rfl)
theorem blk_nou {w : World} {bt bm bk : Nat} {T : Tab} (h : IsTab w bt bm bk T) {tc : Array Value} {t : TypeId} (hb : Blk w bk tc t) : tc.toList.all notU8 = true := by
  obtain ⟨cs, h1, _, h2⟩ := h.toks
  unfold Blk at hb
  rw [hb] at h1
  injection h1 with h1
  injection h1 with h1 _
  rw [h1]
  exact h2
theorem isTab_build {w w' : World} {bt bm bk : Nat} {T : Tab} (h : IsTab w bt bm bk T) (hk : Kept (foot bt bm bk) w w') (T' : Tab) {cs' : Array Value} (hb : Blk w' bt cs' 78) (hcs : ∃ cap, cs' = tabCells T' bm bk cap)
    (hM : MapAt w' bm (assoc T'.L)) {tc : Array Value} (htok : Blk w' bk tc 3) (htc : ∀ (i : Nat) (t : Int), T'.tok[i]? = some t → tc[i]? = some (Value.int .i64 t))
    (hv : ∀ c ∈ T'.L, c ∈ T.L ∨ Bts w (off bt bm bk) c.sv c.e.b) (hn : tc.toList.all notU8 = true) : IsTab w' bt bm bk T' := by
  obtain ⟨cap, rfl⟩ := hcs
  refine ⟨h.tm, h.tk, h.bmk, ⟨cap, hb⟩, ⟨tc, htok, htc, hn⟩, hM, fun c hc => ?_⟩
  rcases hv c hc with h1 | h1
  · exact bts_keptF (h.vals c h1) hk
  · exact bts_keptF h1 hk
/-- The cells of the table's block, for the walk. -/
theorem IsTab.reads {w : World} {bt bm bk : Nat} {T : Tab} (h : IsTab w bt bm bk T) : ∃ cap, (∀ i, w.cell? ⟨bt, i, none⟩ = (tabCells T bm bk cap)[i]?) ∧ ∀ i, w.frozen? ⟨bt, i, none⟩ = false := by
  obtain ⟨cap, h4⟩ := h.tab
  exact ⟨cap, fun i => by simp [World.cell?, h4], fun i => by simp [World.frozen?, h4]⟩
theorem bucket_any {w : World} {bt bm bk : Nat} {T : Tab} (h : IsTab w bt bm bk T) (hb0 : 1 ≤ T.room.buckets) (hb1 : T.room.buckets ≤ 65536) (k : ByteArray) (hk : k.size ≤ 140737488351232) :
    Calls Try.prog 34 #[.pointer (some ⟨bt, 0, none⟩), .string k] w fun e w' => e = .returned (.int .i64 (hbucket k T.room.buckets)) ∧ Below w.heap.size w w' := by
  obtain ⟨cap, hc, _⟩ := h.reads
  have c2 : w.cell? ⟨bt, 2, none⟩ = some (.int .i64 T.room.buckets) := hc 2
  clear hc h
  generalize T.room.buckets = n at *
  go_enter Try.func34, Try.ntmps34
  go_wp2_with (go_at_call 54; refine (bucket_of k n _ hk hb0 hb1).mono ?_; rintro x1_e x1_w ⟨rfl, x1_B⟩; obtain ⟨x1, rfl⟩ := later_of_below x1_B; clear x1_B)
  go_ret
  exact ⟨rfl, (Kept.to_below (S := fun _ => False) (by repeat (first | with_reducible refine Kept.more ?_ _ | with_reducible refine Kept.alloc ?_ _ | with_reducible refine Kept.drew ?_ | with_reducible refine Kept.drewN ?_ _ | exact Kept.refl _ _)) (fun _ h => h.elim))⟩
theorem celZ_zero (w : World) : (zeroValue 51).run Try.prog w = .ok celZ w := by kernel_rfl
theorem tab_zero (w : World) : (zeroValue 51).run Try.prog w = .ok celZ w := celZ_zero w
set_option maxHeartbeats 1000000 in
theorem lay_any {w : World} {bt bm bk : Nat} {T : Tab} (h : IsTab w bt bm bk T) (hd : Bd T) (c : Cel) (hc1 : c.e.key.size ≤ 140737488351232) (hv : Bts w (off bt bm bk) c.sv c.e.b) :
    Calls Try.prog 35 #[.pointer (some ⟨bt, 0, none⟩), celV c] w fun e w' => e = .returned (.tuple #[]) ∧ IsTab w' bt bm bk (laid T c) ∧ Kept (foot bt bm bk) w w' := by
  obtain ⟨cap, hT⟩ := h.tab
  have hcell : ∀ i, w.cell? ⟨bt, i, none⟩ = (tabCells T bm bk cap)[i]? := fun i => by simp [World.cell?, hT]
  have hfro : ∀ i, w.frozen? ⟨bt, i, none⟩ = false := fun i => by simp [World.frozen?, hT]
  have hv' := Lib.hid hv
  have c4 : w.cell? ⟨bt, 4, none⟩ = some (.map (some bm)) := hcell 4
  have c6 : w.cell? ⟨bt, 6, none⟩ = some (.int .i64 T.uses) := hcell 6
  have c7 : w.cell? ⟨bt, 7, none⟩ = some (.int .i64 T.bytes) := hcell 7
  have f6 := hfro 6
  have f7 := hfro 7
  have hu0 := hd.uses0
  have hu1 := hd.uses1
  have hy0 := hd.bytes0
  have hy1 := hd.bytes1
  have hbt := h.lt.1
  have hbm : bm ≠ bt := fun e => h.tm e.symm
  have hM := h.cells
  obtain ⟨A, cc, hsv, hrow, hl⟩ := hv
  obtain ⟨v0, hv0, k0, x0, y0, z0, h0, a0, n0, c0, w0, l0, u0, hve, hk0, hn0, hcs⟩ : ∃ v0, lookV false celZ (aget (assoc T.L) c.e.key) = v0 ∧ ∃ (k0 : ByteArray) (x0 y0 z0 : Int) (h0 : Bool) (a0 : Option Addr) (n0 c0 : Nat) (w0 l0 : Bool) (u0 : Int),
      v0 = .agg #[.string k0, .int .i64 x0, .int .i64 y0, .int .i64 z0, .bool h0, .slice a0 n0 c0, .bool w0, .bool l0, .int .i64 u0] ∧ k0.size ≤ 140737488351232 ∧ n0 ≤ 140737488351232 ∧ ((k0.size : Int) + n0 = csize (cfind T.L c.e.key)) := by
    refine ⟨_, rfl, ?_⟩
    rw [aget_assoc]
    cases hf : cfind T.L c.e.key with
    | none => exact ⟨_, _, _, _, _, _, _, _, _, _, _, rfl, by show 0 ≤ _; omega, by omega, rfl⟩
    | some d =>
      obtain ⟨hdm, hdk⟩ := cfind_some hf
      obtain ⟨A', cc', hsv', _, hl'⟩ := h.vals d hdm
      refine ⟨d.e.key, d.e.seq, d.e.who, d.e.op, d.e.has, A', d.e.b.length, cc', d.whole, d.clean, d.used, ?_, (hd.size d hdm).1, (hd.size d hdm).2, by simp [csize, esize]⟩
      simp [lookV, celV, hsv']
  have hcsb := csize_bd hd c.e.key
  rw [← hcs] at hcsb
  have H0 := Lib.hid h
  have HT : Hid (Blk w bt (tabCells T bm bk cap) 78) := hT
  subst hve
  have Hv0 := Lib.hid hv0
  have Hcs := Lib.hid hcs
  clear hv0 hcs hcell hfro hd h hT
  unfold celV
  rw [hsv]
  go_enter Try.func35, Try.ntmps35
  go_wp2
  refine wp_region_mix_lit [(0,false),(1,false),(2,false),(3,false),(4,false),(5,false),(6,false),(7,false),(8,false),(9,false),(10,false),(11,false),(12,false),(13,false),(14,false),(15,false),(16,false),(17,false),(18,false),(19,false),(20,false),(21,true)] (by kernel_rfl) (by kernel_rfl) ?_
  iterate 6 (refine mix_step rfl (fun K hK => ?_); go_simp; refine hK _ ?_; clear hK K)
  (refine mix_step rfl (fun K hK => ?_); go_simp; refine Exists.intro _ ⟨fun _ _ => call_gives (size_any _ _ _ _ _ _ _ _ _ hc1 hl), hK _ ?_⟩; clear hK K)
  iterate 7 (refine mix_step rfl (fun K hK => ?_); go_simp; refine hK _ ?_; clear hK K)
  refine mix_lookup rfl rfl 76 9 51 (.tmp 26) (.tmp 29) false rfl bm c.e.key rfl rfl Try.underlying76 Try.underlying9 celZ celZ_zero (assoc T.L) (by repeat (first | with_reducible refine MapAt.more ?_ _ | with_reducible refine MapAt.alloc ?_ _ | with_reducible refine MapAt.drew ?_ | with_reducible refine MapAt.drewN ?_ _ | with_reducible assumption | refine MapAt.setCell ?_ (by first | assumption | (simp only []; omega)) _)) _ Hv0.out ?_
  iterate 1 (refine mix_step rfl (fun K hK => ?_); go_simp; refine hK _ ?_; clear hK K)
  (refine mix_step rfl (fun K hK => ?_); go_simp; refine Exists.intro _ ⟨fun _ _ => call_gives (size_any _ _ _ _ _ _ _ _ _ hk0 hn0), hK _ ?_⟩; clear hK K)
  iterate 4 (refine mix_step rfl (fun K hK => ?_); go_simp; refine hK _ ?_; clear hK K)
  refine mix_loud rfl rfl (by kernel_rfl) (fun e K hK => ?_)
  go_wp2_with fail
  refine mix_done (fun e2 => ?_)
  go_wp2
  refine wp_region_mix_lit [(0,false),(1,false),(2,false),(3,false),(4,false),(5,false),(6,false),(7,false),(8,true)] (by kernel_rfl) (by kernel_rfl) ?_
  iterate 8 (refine mix_step rfl (fun K hK => ?_); go_simp; refine hK _ ?_; clear hK K)
  refine mix_update rfl rfl (by kernel_rfl) 76 9 51 (.tmp 40) (.tmp 43) (.tmp 44) rfl bm c.e.key (celV { c with used := T.uses + 1 }) rfl rfl (by simp [celV, hsv]; rfl) Try.underlying76 Try.underlying9 (assoc T.L) (by repeat (first | with_reducible refine MapAt.more ?_ _ | with_reducible refine MapAt.alloc ?_ _ | with_reducible refine MapAt.drew ?_ | with_reducible refine MapAt.drewN ?_ _ | with_reducible assumption | refine MapAt.setCell ?_ (by first | assumption | (simp only []; omega)) _)) (fun w9 hM9 hK9 => ?_)
  refine mix_done (fun e2 => ?_)
  go_wp2
  go_end0
  have hK : Kept (foot bt bm bk) w (more w9 e2) := by
    refine Kept.more ?_ _
    refine Kept.trans ?_ (hK9.mono fun b hb => .inr (.inl hb))
    repeat (first | with_reducible refine Kept.more ?_ _ | with_reducible refine Kept.alloc ?_ _ | with_reducible refine Kept.drew ?_ | with_reducible refine Kept.drewN ?_ _ | with_reducible assumption | with_reducible exact Kept.refl _ _ | refine Kept.setCell ?_ (by first | exact Or.inl (Or.inl rfl) | exact Or.inl (Or.inr (Or.inl rfl)) | exact Or.inl (Or.inr (Or.inr rfl)) | (right; simp only []; omega)) _)
  refine ⟨rfl, ?_, hK⟩
  have hne : ¬ (bt = bm) := H0.out.tm
  have hne3 : ¬ (bk = bm) := fun e => H0.out.bmk e.symm
  have hne2 : ¬ (bk = bt) := fun e => H0.out.tk e.symm
  obtain ⟨tc, ht1, ht2, ht3⟩ := H0.out.toks
  have ht1' : Blk w bk tc 3 := ht1
  have hbase : Blk _ bt _ 78 := (((HT.out.set 6 (.int .i64 (T.uses + 1))).set 7 (.int .i64 (T.bytes + (c.e.key.size + c.e.b.length - (k0.size + n0)))))).alloc (.cells #[.string c.e.key, .int .i64 c.e.seq, .int .i64 c.e.who, .int .i64 c.e.op, .bool c.e.has, .slice A c.e.b.length cc, .bool c.whole, .bool c.clean, .int .i64 (T.uses + 1)] 51)
  have htok : Blk _ bk _ 3 := ((ht1'.far (p := ⟨bt, 6, none⟩) hne2 (.int .i64 (T.uses + 1))).far (p := ⟨bt, 7, none⟩) hne2 (.int .i64 (T.bytes + (c.e.key.size + c.e.b.length - (k0.size + n0))))).alloc (.cells #[.string c.e.key, .int .i64 c.e.seq, .int .i64 c.e.who, .int .i64 c.e.op, .bool c.e.has, .slice A c.e.b.length cc, .bool c.whole, .bool c.clean, .int .i64 (T.uses + 1)] 51)
  refine isTab_build H0.out hK (laid T c) (((((hbase.drew.more e).more _).drew).kept hK9 hne).more e2) ⟨cap, ?_⟩ ?_ (((((htok.drew.more e).more _).drew).kept hK9 hne3).more e2) ht2 ?_ ht3
  · simp only [tabCells, laid, ← Hcs.out, esize]
    simp
  · rw [aput_assoc (c := { c with used := T.uses + 1 })] at hM9
    exact hM9.more e2
  · intro d hd
    rcases mem_cput hd with rfl | hd
    · exact .inr hv'.out
    · exact .inl hd
end Go.Proofs.Ytibolfdgbbaclaa

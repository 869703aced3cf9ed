/-
  What is proved: a region that draws its order may be walked in ONE order of one's own choice: what only reads (or calls what makes memory alone, and answers the same whatever was made meanwhile) floats; what does more comes where nothing else may come.
  Conditions: the Bool 'mixB' over the region's text; 'R' is a preorder on worlds.
-/
import Derived.Orders
import Derived.Tactics
import Derived.KernelRfl
namespace Go.Ice
open Go
section
variable {P : Program} {ops : Array Oper} {md : Region.Mode} {R : World → World → Prop}

/-- A call that answers v. -/
def CallGives (P : Program) (R : World → World → Prop) (f : FuncId) (args : Array Value) (w : World) (v : Value) : Prop := Calls P f args w fun e w'' => e = .returned v ∧ R w w''
def givesUpon (P : Program) (R : World → World → Prop) (w : World) (v : Value) : Result Next → Prop
  | .ok (.value u) w' => u = v ∧ R w w'
  | .ok .skip w' => v = undef ∧ R w w'
  | .ok (.enter f args) w' => w' = w ∧ CallGives P R f args w v
  | _ => False
/-- In world w the operation gives v, and the world moves along R. -/
def gives (P : Program) (R : World → World → Prop) (o : Oper) (a : Act) (v : Value) (w : World) : Prop := givesUpon P R w v ((execOp a.eval o).run P w)

/-- i is ahead of j, by at most f steps. -/
def anc (md : Region.Mode) (ops : Array Oper) : Nat → Nat → Nat → Bool
  | 0, _, _ => false
  | f + 1, i, j => match ops[j]? with
    | none => false
    | some oj => oj.after.any fun e => Region.binds md e && (e.on == i || (decide (i < e.on) && anc md ops f i e.on))
/-- An operation that does not look at the world. -/
def pureOp (o : Oper) : Bool := match o.op with | .move _ => true | .assign _ => true | .extract _ _ => true | _ => false
def pureAt (ops : Array Oper) (i : Nat) : Bool := match ops[i]? with | some o => pureOp o | none => false
theorem pure_gives (hr : ∀ w, R w w) {o : Oper} {a : Act} {v : Value} {w w' : World} (hp : pureOp o = true) (h : gives P R o a v w) : gives P R o a v w' := by
  unfold pureOp at hp
  unfold gives at *
  split at hp <;> rename_i hop
  · simp only [execOp, hop, Sem.run_pure, givesUpon] at h ⊢
    exact ⟨h.1, hr _⟩
  · simp only [execOp, hop, Sem.run_pure, givesUpon] at h ⊢
    exact ⟨h.1, hr _⟩
  · simp only [execOp, hop, Sem.run_bind] at h ⊢
    rename_i x ix
    generalize a.eval x = u at *
    unfold Instr.extract at *
    split at h
    · split at h
      · simp_all [Sem.run_pure, Result.andThen, givesUpon]
      · exact h.elim
    · exact h.elim
  · cases hp
/-- Every other operation is ahead of j, or behind it, or does not look at the world. -/
def bar (md : Region.Mode) (ops : Array Oper) (j : Nat) : Bool := (List.range ops.size).all fun i => i == j || anc md ops 9 i j || anc md ops 9 j i || pureAt ops i

structure Closed (md : Region.Mode) (ops : Array Oper) (listed : Array Bool) : Prop where
  size : listed.size = ops.size
  closed : ∀ j oj, ops[j]? = some oj → listed.getD j false = true → ∀ e ∈ oj.after, Region.binds md e = true → listed.getD e.on false = true

theorem getD_both {listed : Array Bool} {i : Nat} (h : listed.getD i true = false) : listed.getD i false = false := by
  rcases Nat.lt_or_ge i listed.size with h' | h'
  · simp [h'] at h ⊢; exact h
  · simp [Array.getElem?_eq_none h'] at h

theorem Closed.set {listed : Array Bool} (inv : Closed md ops listed) {i : Nat} (hi : i ∈ Region.ready md ops listed) : Closed md ops (listed.setIfInBounds i true) := by
  obtain ⟨_, oi, hoi, hall⟩ := mem_ready.1 hi
  refine ⟨by simp [inv.size], fun j oj hj hl e he hb => ?_⟩
  by_cases hij : i = j
  · subst hij
    have : oj = oi := Option.some.inj (hj.symm.trans hoi)
    subst this
    exact getD_set_true (hall e he hb)
  · rw [getD_set_ne false hij] at hl
    exact getD_set_true (inv.closed j oj hj hl e he hb)

theorem anc_listed {listed : Array Bool} (inv : Closed md ops listed) : ∀ (f i j : Nat), anc md ops f i j = true → (listed.getD j false = true ∨ j ∈ Region.ready md ops listed) → listed.getD i false = true := by
  intro f
  induction f with
  | zero => intro i j h; simp [anc] at h
  | succ f ih =>
    intro i j h hj
    unfold anc at h
    split at h
    · cases h
    · rename_i oj hoj
      obtain ⟨e, he, h1⟩ := Array.any_eq_true'.1 h
      simp only [Bool.and_eq_true, Bool.or_eq_true, beq_iff_eq, decide_eq_true_eq] at h1
      have hon : listed.getD e.on false = true := by
        rcases hj with hj | hj
        · exact inv.closed j oj hoj hj e he h1.1
        · obtain ⟨_, o', ho', hall⟩ := mem_ready.1 hj
          have : o' = oj := Option.some.inj (ho'.symm.trans hoj)
          subst this
          exact hall e he h1.1
      rcases h1.2 with h2 | h2
      · rw [← h2]; exact hon
      · exact ih i e.on h2.2 (.inl hon)

theorem bar_alone {listed : Array Bool} (inv : Closed md ops listed) {i j : Nat} (hb : bar md ops j = true) (hi : i ∈ Region.ready md ops listed) (hj : j ∈ Region.ready md ops listed) : i = j ∨ pureAt ops i = true := by
  have hlt : i < ops.size := by
    obtain ⟨_, o, ho, _⟩ := mem_ready.1 hi
    exact (Array.getElem?_eq_some_iff.1 ho).1
  have h1 := List.all_eq_true.1 hb i (List.mem_range.2 hlt)
  simp only [Bool.or_eq_true, beq_iff_eq] at h1
  have ui := getD_both (mem_ready.1 hi).1
  have uj := getD_both (mem_ready.1 hj).1
  rcases h1 with ((h1 | h1) | h1) | h1
  · exact .inl h1
  · rw [anc_listed inv 9 i j h1 (.inr hj)] at ui; cases ui
  · rw [anc_listed inv 9 j i h1 (.inr hi)] at uj; cases uj
  · exact .inr h1

/-- Operation i comes up in (a, w). -/
def mOp (P : Program) (md : Region.Mode) (ops : Array Oper) (R : World → World → Prop) (i : Nat) (K : Act → World → Prop) (a : Act) (w : World) : Prop :=
  match ops[i]? with
  | none => (R w w ∨ bar md ops i = true) ∧ K a w
  | some o => if Region.wanted o (yielded ops a.tmps) then o.wp P a w (fun a' w' => (R w w' ∨ bar md ops i = true) ∧ K a' w') (fun _ _ _ => False) else (R w w ∨ bar md ops i = true) ∧ K (a.put o.dst undef) w

def wpAnyM (P : Program) (md : Region.Mode) (ops : Array Oper) (R : World → World → Prop) (Q : Act → World → Prop) : Nat → Array Bool → Act → World → Prop
  | 0, listed, a, w => ∀ w1, R w w1 → Region.ready md ops listed = [] ∧ Q a w1
  | fuel + 1, listed, a, w => ∀ w1, R w w1 → (Region.ready md ops listed = [] → Q a w1) ∧
      ∀ i ∈ Region.ready md ops listed, mOp P md ops R i (wpAnyM P md ops R Q fuel (listed.setIfInBounds i true)) a w1

theorem wpAnyM_up (ht : ∀ a b c, R a b → R b c → R a c) {Q : Act → World → Prop} : ∀ {fuel : Nat} {listed : Array Bool} {a : Act} {w w1 : World}, R w w1 → wpAnyM P md ops R Q fuel listed a w → wpAnyM P md ops R Q fuel listed a w1
  | 0, _, _, _, _, h, H => fun w2 h2 => H w2 (ht _ _ _ h h2)
  | _ + 1, _, _, _, _, h, H => fun w2 h2 => H w2 (ht _ _ _ h h2)

theorem wp_exits {o : Oper} {a : Act} {w : World} {K K' : Act → World → Prop} {Q' : Exit → Act → World → Prop} (h : ∀ a w, K a w → K' a w) (hh : o.wp P a w K (fun _ _ _ => False)) : o.wp P a w K' Q' := by
  unfold Oper.wp at *
  generalize (execOp a.eval o).run P w = r at *
  cases r with
  | ok n w' =>
    cases n <;> simp only [Oper.upon] at hh ⊢
    case value u => exact h _ _ hh
    case skip => exact h _ _ hh
    case defer d => exact h _ _ hh
    case enter f args =>
      refine hh.mono fun e w'' he => ?_
      cases e with
      | returned v => exact h _ _ he
      | panicked c => exact he.elim
      | outgrown => obtain ⟨_, _, hf⟩ := he; exact hf.elim
    case row row args => exact hh.mono fun v w'' he => h _ _ he
  | halt x w' => cases x <;> simp only [Oper.upon] at hh ⊢

theorem wpAny_of_M (hr : ∀ w, R w w) {Q : Act → World → Prop} {Q' : Exit → Act → World → Prop} (hQ : ∀ a w, Q a w → Q' .normal a w) : ∀ (fuel : Nat) (listed : Array Bool) (a : Act) (w : World),
    wpAnyM P md ops R Q fuel listed a w → wpAny P md ops Q' fuel listed a w
  | 0, _, _, w, h => ⟨(h w (hr w)).1, hQ _ _ (h w (hr w)).2⟩
  | fuel + 1, listed, a, w, h => ⟨fun h0 => hQ _ _ ((h w (hr w)).1 h0), fun i hi => by
      have h1 := (h w (hr w)).2 i hi
      unfold mOp at h1
      unfold wpOp
      split
      · rename_i ho; simp only [ho] at h1; exact wpAny_of_M hr hQ fuel _ _ _ h1.2
      · rename_i o ho
        simp only [ho] at h1
        split
        · rename_i hw; simp only [hw, if_true] at h1
          exact .inl (wp_exits (fun a' w' h2 => wpAny_of_M hr hQ fuel _ a' w' h2.2) h1)
        · rename_i hw; simp only [hw] at h1; exact wpAny_of_M hr hQ fuel _ _ _ h1.2⟩

/-- In (a, w), and in whatever world R leads to, operation o gives v. -/
def GivesAt (P : Program) (ops : Array Oper) (R : World → World → Prop) (o : Oper) (v : Value) (a : Act) (w : World) : Prop :=
  (Region.wanted o (yielded ops a.tmps) = true ∧ ∀ w', R w w' → gives P R o a v w') ∨ (Region.wanted o (yielded ops a.tmps) = false ∧ v = undef)

theorem GivesAt.of_same {o : Oper} {v : Value} {a a' : Act} {w : World} (hy : GivesAt P ops R o v a w) (he : execOp a'.eval o = execOp a.eval o)
    (hw : Region.wanted o (yielded ops a'.tmps) = Region.wanted o (yielded ops a.tmps)) : GivesAt P ops R o v a' w := by
  unfold GivesAt gives at *
  rw [he, hw]
  exact hy
theorem GivesAt.up (ht : ∀ a b c, R a b → R b c → R a c) {o : Oper} {v : Value} {a : Act} {w w1 : World} (h : GivesAt P ops R o v a w) (hR : R w w1) : GivesAt P ops R o v a w1 := by
  rcases h with ⟨h1, h2⟩ | h
  · exact .inl ⟨h1, fun w' hw' => h2 w' (ht _ _ _ hR hw')⟩
  · exact .inr h

theorem GivesAt.pure (hr : ∀ w, R w w) {o : Oper} {v : Value} {a : Act} {w w' : World} (hp : pureOp o = true) (h : GivesAt P ops R o v a w) : GivesAt P ops R o v a w' := by
  rcases h with ⟨h1, h2⟩ | h
  · exact .inl ⟨h1, fun w1 _ => pure_gives hr hp (h2 w (hr w))⟩
  · exact .inr h

theorem GivesAt.mOp (hr : ∀ w, R w w) {i : Nat} {o : Oper} {v : Value} {a : Act} {w : World} (hi : ops[i]? = some o) (hy : GivesAt P ops R o v a w) {K : Act → World → Prop} (h : ∀ w', R w w' → K (a.put o.dst v) w') : mOp P md ops R i K a w := by
  unfold Go.Ice.mOp
  simp only [hi]
  rcases hy with ⟨hw, hv⟩ | ⟨hw, rfl⟩
  · simp only [hw, if_true]
    have h1 := hv w (hr w)
    unfold gives at h1
    unfold Oper.wp
    generalize (execOp a.eval o).run P w = r at *
    cases r with
    | ok n w' =>
      cases n <;> simp only [givesUpon] at h1 <;> simp only [Oper.upon]
      case value u => obtain ⟨rfl, h2⟩ := h1; exact ⟨.inl h2, h _ h2⟩
      case skip => obtain ⟨rfl, h2⟩ := h1; exact ⟨.inl h2, h _ h2⟩
      case enter f args => obtain ⟨rfl, h1⟩ := h1; exact Calls.mono h1 fun e w'' ⟨he, h2⟩ => by subst he; exact ⟨.inl h2, h _ h2⟩
    | halt x w' => simp only [givesUpon] at h1
  · simp only [hw, Bool.false_eq_true, if_false]; exact ⟨.inl (hr w), h w (hr w)⟩

theorem mOp_put (hr : ∀ w, R w w) (ht : ∀ a b c, R a b → R b c → R a c) {j : Nat} {oi oj : Oper} {v : Value} (hj : ops[j]? = some oj) (hap : oi.apart ops oj = true) (hnb : bar md ops j ≠ true ∨ pureOp oi = true)
    (hsi : ∀ cs b, oi.op ≠ .select cs b) (hsj : ∀ cs b, oj.op ≠ .select cs b) {K : Act → World → Prop} {a : Act} {w : World}
    (hy : GivesAt P ops R oi v a w) (h : mOp P md ops R j K (a.put oi.dst v) w) :
    mOp P md ops R j (fun a' w' => GivesAt P ops R oi v a' w' ∧ K (a'.put oi.dst v) w') a w := by
  obtain ⟨h1, h2, h3⟩ := Oper.apart_spec hap
  have keep : ∀ (a : Act) (w w' : World), GivesAt P ops R oi v a w → (R w w' ∨ bar md ops j = true) → ∀ u, GivesAt P ops R oi v (a.put oj.dst u) w' := fun a w w' hy hR u =>
    (show GivesAt P ops R oi v a w' from hnb.elim (fun hnb => hy.up ht (hR.resolve_right hnb)) fun hp => hy.pure hr hp).of_same (execOp_put oi hsi a oj.dst u h3) (wanted_put oi a oj.dst u h3)
  have keepD : ∀ d, GivesAt P ops R oi v { a with defers := d :: a.defers } w := fun d => hy.of_same rfl rfl
  unfold mOp at *
  simp only [hj] at *
  rw [wanted_put oj a oi.dst v h1] at h
  split
  · rename_i hw
    simp only [hw, if_true] at h
    unfold Oper.wp at *
    rw [execOp_put oj hsj a oi.dst v h1] at h
    generalize (execOp a.eval oj).run P w = r at *
    cases r with
    | ok n w' =>
      cases n <;> simp only [Oper.upon] at h ⊢
      case value u => exact ⟨h.1, keep a w w' hy h.1 u, by rw [← Act.put_comm a v u h2]; exact h.2⟩
      case skip => exact ⟨h.1, keep a w w' hy h.1 _, by rw [← Act.put_comm a v undef h2]; exact h.2⟩
      case defer d =>
        refine ⟨h.1, keep _ w w' (keepD d) h.1 _, ?_⟩
        rw [← Act.put_comm _ v undef h2, ← Act.put_defers]
        exact h.2
      case enter f args =>
        refine Calls.mono h fun e w'' he => ?_
        cases e with
        | returned u => exact ⟨he.1, keep a w w'' hy he.1 u, by rw [← Act.put_comm a v u h2]; exact he.2⟩
        | panicked c => exact he
        | outgrown => obtain ⟨_, _, hf⟩ := he; exact hf.elim
      case row row args => exact Rows.mono h fun u w'' he => ⟨he.1, keep a w w'' hy he.1 u, by rw [← Act.put_comm a v u h2]; exact he.2⟩
    | halt x w' => cases x <;> simp only [Oper.upon] at h ⊢
  · rename_i hw
    simp only [hw] at h
    exact ⟨h.1, keep a w w hy h.1 _, by rw [← Act.put_comm a v undef h2]; exact h.2⟩

theorem mOp_mono {i : Nat} {a : Act} {w : World} {K K' : Act → World → Prop} (h : ∀ a w', (R w w' ∨ bar md ops i = true) → K a w' → K' a w') (hh : mOp P md ops R i K a w) : mOp P md ops R i K' a w := by
  unfold mOp at *
  split
  · rename_i ho; simp only [ho] at hh; exact ⟨hh.1, h _ _ hh.1 hh.2⟩
  · rename_i o ho
    simp only [ho] at hh
    split
    · rename_i hw; simp only [hw, if_true] at hh; exact Oper.wp_mono (fun a' w' h2 => ⟨h2.1, h _ _ h2.1 h2.2⟩) hh
    · rename_i hw; simp only [hw] at hh; exact ⟨hh.1, h _ _ hh.1 hh.2⟩

theorem wpAnyM_first (hr : ∀ w, R w w) (ht : ∀ a b c, R a b → R b c → R a c) {Q : Act → World → Prop} {i : Nat} {oi : Oper} {v : Value} (hi : ops[i]? = some oi) (hsel : ∀ (j : Nat) (o : Oper) cs b, ops[j]? = some o → o.op ≠ .select cs b) :
    ∀ (fuel : Nat) (listed : Array Bool) (a : Act) (w : World), Closed md ops listed →
      (∀ j oj, ops[j]? = some oj → j ≠ i → listed.getD j true = false → (∀ e ∈ oj.after, Region.binds md e = true → e.on ≠ i) → oi.apart ops oj = true) →
      i ∈ Region.ready md ops listed → GivesAt P ops R oi v a w →
      wpAnyM P md ops R Q fuel (listed.setIfInBounds i true) (a.put oi.dst v) w → wpAnyM P md ops R Q (fuel + 1) listed a w := by
  intro fuel
  induction fuel with
  | zero =>
    intro listed a w inv _ hr' hy H w1 hw1
    refine ⟨fun h => (by rw [h] at hr'; cases hr'), fun j hj => ?_⟩
    by_cases hji : j = i
    · subst hji; exact (hy.up ht hw1).mOp hr hi fun w' hw' => wpAnyM_up ht (ht _ _ _ hw1 hw') H
    · have := ready_mono hj hji
      rw [(H w1 hw1).1] at this
      cases this
  | succ fuel ih =>
    intro listed a w inv hfree hr' hy H w1 hw1
    refine ⟨fun h => (by rw [h] at hr'; cases hr'), fun j hj => ?_⟩
    by_cases hji : j = i
    · subst hji; exact (hy.up ht hw1).mOp hr hi fun w' hw' => wpAnyM_up ht (ht _ _ _ hw1 hw') H
    · have h1 := (H w1 hw1).2 j (ready_mono hj hji)
      obtain ⟨hjun, oj, hoj, hall⟩ := mem_ready.1 hj
      have hnot : ∀ e ∈ oj.after, Region.binds md e = true → e.on ≠ i := fun e he hb heq => by
        have h1 := hall e he hb
        rw [heq, getD_both (mem_ready.1 hr').1] at h1
        cases h1
      have hnb : bar md ops j ≠ true ∨ pureOp oi = true := by
        by_cases hb : bar md ops j = true
        · rcases bar_alone inv hb hr' hj with h | h
          · exact absurd h.symm hji
          · exact .inr (by unfold pureAt at h; rw [hi] at h; exact h)
        · exact .inl hb
      have h2 := mOp_put hr ht hoj (hfree j oj hoj hji hjun hnot) hnb (fun cs b => hsel i oi cs b hi) (fun cs b => hsel j oj cs b hoj) (hy.up ht hw1) h1
      have hfree' : ∀ k ok, ops[k]? = some ok → k ≠ i → (listed.setIfInBounds j true).getD k true = false →
          (∀ e ∈ ok.after, Region.binds md e = true → e.on ≠ i) → oi.apart ops ok = true := fun k ok hk hki hun hno => by
        refine hfree k ok hk hki ?_ hno
        by_cases hjk : j = k
        · subst hjk; exact hjun
        · rw [getD_set_ne true hjk] at hun; exact hun
      refine mOp_mono (fun a' w' _ h3 => ih (listed.setIfInBounds j true) a' w' (inv.set hj) hfree' (ready_mono hr' (Ne.symm hji)) h3.1 ?_) h2
      rw [Array.setIfInBounds_comm _ _ hji]
      exact h3.2

/-! ### the walk in one order of one's own -/
/-- (i, false): it floats; (i, true): nothing else may come. -/
def mixB (md : Region.Mode) (ops : Array Oper) : List (Nat × Bool) → Array Bool → Bool
  | [], listed => (Region.ready md ops listed).isEmpty
  | (i, true) :: rest, listed => decide (Region.ready md ops listed = [i]) && mixB md ops rest (listed.setIfInBounds i true)
  | (i, false) :: rest, listed => (Region.ready md ops listed).contains i && Region.free md ops listed i && mixB md ops rest (listed.setIfInBounds i true)

def wpMix (P : Program) (md : Region.Mode) (ops : Array Oper) (R : World → World → Prop) (Q : Act → World → Prop) : List (Nat × Bool) → Act → World → Prop
  | [], a, w => ∀ w1, R w w1 → Q a w1
  | (i, true) :: rest, a, w => ∀ w1, R w w1 → mOp P md ops R i (wpMix P md ops R Q rest) a w1
  | (i, false) :: rest, a, w => ∃ o v, ops[i]? = some o ∧ GivesAt P ops R o v a w ∧ wpMix P md ops R Q rest (a.put o.dst v) w

theorem wpAnyM_of_mix (hr : ∀ w, R w w) (ht : ∀ a b c, R a b → R b c → R a c) {Q : Act → World → Prop} (hs : Region.noSelect ops = true) : ∀ (σ : List (Nat × Bool)) (listed : Array Bool) (a : Act) (w : World),
    Closed md ops listed → mixB md ops σ listed = true → wpMix P md ops R Q σ a w → wpAnyM P md ops R Q σ.length listed a w
  | [], listed, a, w, _, hB, h => fun w1 h1 => ⟨by simpa [mixB] using hB, h w1 h1⟩
  | (i, true) :: rest, listed, a, w, inv, hB, h => by
    simp only [mixB, Bool.and_eq_true, decide_eq_true_eq] at hB
    intro w1 h1
    refine ⟨fun h0 => (by rw [hB.1] at h0; cases h0), fun j hj => ?_⟩
    have hji : j = i := by rw [hB.1] at hj; simpa using hj
    subst hji
    exact mOp_mono (fun a' w' _ h2 => wpAnyM_of_mix hr ht hs rest _ a' w' (inv.set hj) hB.2 h2) (h w1 h1)
  | (i, false) :: rest, listed, a, w, inv, hB, h => by
    simp only [mixB, Bool.and_eq_true] at hB
    obtain ⟨⟨hrd, hf⟩, hB'⟩ := hB
    obtain ⟨o, v, ho, hy, hK⟩ := h
    have hrd' : i ∈ Region.ready md ops listed := by simpa using hrd
    exact wpAnyM_first hr ht ho (Region.noSelect_spec hs) rest.length listed a w inv (Region.free_spec ho hf) hrd' hy
      (wpAnyM_of_mix hr ht hs rest _ _ w (inv.set hrd') hB' hK)

theorem wp_region_mix {id : Nat} {Q : Exit → Act → World → Prop} {a : Act} {w : World} (R : World → World → Prop) (hr : ∀ w, R w w) (ht : ∀ a b c, R a b → R b c → R a c) (σ : List (Nat × Bool)) (hm : P.follows .mixedOrders = true)
    (hs : Region.noSelect ops = true) (hl : σ.length = ops.size) (hB : mixB .any ops σ (Array.replicate ops.size false) = true)
    (h : wpMix P .any ops R (fun a' w' => Q .normal a' w') σ a { w with drawn := w.drawn + 1 }) : (Code.region id ops true).wp P Q a w := by
  refine wp_region_any hm (wpAny_of_M hr (Q := fun a' w' => Q .normal a' w') (fun _ _ h => h) _ _ _ _ ?_)
  have := wpAnyM_of_mix hr ht (md := .any) hs σ (Array.replicate ops.size false) a _ ⟨by simp, fun j oj _ hl => ?_⟩ hB h
  · rwa [hl] at this
  · exfalso
    rcases Nat.lt_or_ge j ops.size with h | h
    · simp [h] at hl
    · simp [h] at hl
end
end Go.Ice

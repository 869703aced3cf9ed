/-
  What is proved: plain laws on who has to go.
  Conditions: bounds under which nothing wraps.
-/
import Derived.Test.YtibolfdgbbaclaaCellsOps4
import Derived.Test.YtibolfdgbbaclaaStrs
import Derived.Test.YtibolfdgbbaclaaRanges
open Go Go.RowKit Go.Ice
namespace Go.Proofs.Ytibolfdgbbaclaa
set_option maxRecDepth 100000
set_option linter.unusedVariables false
set_option linter.unusedSimpArgs false
attribute [local go_sem] gives givesUpon later_self more_cell more_frozen more_block more_more more_drew more_setCell more_of_drew more_of_drewN more_size lt_plus lt_plus2 lt_plus3 lt_plus4 Instr.field part asAgg List.extract_toArray List.extract_eq_take_drop
def cand (ek : ByteArray) (out : List ByteArray) (c : Cel) : Bool := c.clean && !decide (c.e.key = ek) && !hasB out c.e.key
def better (b : Option Cel) (c : Cel) : Option Cel := match b with | none => some c | some d => if c.used < d.used then some c else some d
def best (l : List Cel) : Option Cel := l.foldl better none
theorem best_fold (l : List Cel) : ∀ b : Option Cel, (b = none ∧ l = [] ∧ l.foldl better b = none) ∨ ∃ c, l.foldl better b = some c ∧ (b = some c ∨ c ∈ l) ∧ (∀ d ∈ l, c.used ≤ d.used) ∧ ∀ d, b = some d → c.used ≤ d.used := by
  induction l with
  | nil =>
    intro b
    cases b with
    | none => exact .inl ⟨rfl, rfl, rfl⟩
    | some c => exact .inr ⟨c, rfl, .inl rfl, by simp, fun d hd => by cases hd; exact Int.le_refl _⟩
  | cons x l ih =>
    intro b
    right
    obtain ⟨y, hy, hy2, hy3⟩ : ∃ y, better b x = some y ∧ (b = some y ∨ y = x) ∧ (y.used ≤ x.used ∧ ∀ d, b = some d → y.used ≤ d.used) := by
      cases b with
      | none => exact ⟨x, rfl, .inr rfl, Int.le_refl _, by simp⟩
      | some d =>
        unfold better
        by_cases h : x.used < d.used
        · exact ⟨x, by simp [h], .inr rfl, Int.le_refl _, fun d' hd' => by cases hd'; omega⟩
        · exact ⟨d, by simp [h], .inl rfl, by omega, fun d' hd' => by cases hd'; omega⟩
    rcases ih (better b x) with ⟨h1, _, _⟩ | ⟨c, h1, h2, h3, h4⟩
    · rw [hy] at h1; cases h1
    · have hcy := h4 y hy
      refine ⟨c, h1, ?_, ?_, ?_⟩
      · rcases h2 with h2 | h2
        · rw [hy] at h2
          cases h2
          rcases hy2 with h | h
          · exact .inl h
          · exact .inr (by rw [h]; exact List.mem_cons_self)
        · exact .inr (List.mem_cons_of_mem _ h2)
      · intro d hd
        rcases List.mem_cons.1 hd with rfl | hd
        · omega
        · exact h3 d hd
      · intro d hd
        have := hy3.2 d hd
        omega
theorem best_none {l : List Cel} (h : best l = none) : l = [] := by
  rcases best_fold l none with ⟨_, h2, _⟩ | ⟨c, h1, _⟩
  · exact h2
  · rw [best, h1] at h; cases h
theorem best_some {l : List Cel} {c : Cel} (h : best l = some c) : c ∈ l ∧ ∀ d ∈ l, c.used ≤ d.used := by
  rcases best_fold l none with ⟨_, _, h1⟩ | ⟨c', h1, h2, h3, _⟩
  · rw [best, h1] at h; cases h
  · rw [best, h1] at h
    cases h
    rcases h2 with h2 | h2
    · cases h2
    · exact ⟨h2, h3⟩
def worst (L : List Cel) (ek : ByteArray) (out : List ByteArray) : Option Cel := best (L.filter (cand ek out))
def left_ (L : List Cel) (ek : ByteArray) (out : List ByteArray) : Nat := (L.filter (cand ek out)).length
theorem worst_mem {L : List Cel} {ek : ByteArray} {out : List ByteArray} {c : Cel} (h : worst L ek out = some c) : c ∈ L ∧ cand ek out c = true := by
  have := (best_some h).1
  exact List.mem_filter.1 this
theorem left_lt {L : List Cel} {ek : ByteArray} {out : List ByteArray} {c : Cel} (h : worst L ek out = some c) : left_ L ek (out ++ [c.e.key]) < left_ L ek out := by
  obtain ⟨h1, h2⟩ := worst_mem h
  unfold left_
  have hsub : L.filter (cand ek (out ++ [c.e.key])) = (L.filter (cand ek out)).filter fun d => !decide (d.e.key = c.e.key) := by
    rw [List.filter_filter]
    refine List.filter_congr fun d _ => ?_
    unfold cand hasB
    rw [List.any_append]
    simp only [List.any_cons, List.any_nil, Bool.or_false, Bool.not_or]
    by_cases hk : c.e.key = d.e.key
    · simp [hk]
    · have hk2 : ¬ d.e.key = c.e.key := fun e => hk e.symm
      simp [hk, hk2]
  rw [hsub]
  exact List.length_filter_lt_length_iff_exists.2 ⟨c, List.mem_filter.2 ⟨h1, h2⟩, by simp⟩
/-- The search under way: 'seen': keys that came by. -/
def Wst (L : List Cel) (ek : ByteArray) (out seen : List ByteArray) (wk : ByteArray) (ls : Int) : Prop :=
  (ls = 0 ∧ wk = ByteArray.empty ∧ ∀ c ∈ L, c.e.key ∈ seen → cand ek out c = false) ∨
  (∃ c ∈ L, cand ek out c = true ∧ c.e.key ∈ seen ∧ wk = c.e.key ∧ ls = c.used ∧ ∀ d ∈ L, d.e.key ∈ seen → cand ek out d = true → c.used ≤ d.used)
theorem wst_nil (L : List Cel) (ek : ByteArray) (out : List ByteArray) : Wst L ek out [] ByteArray.empty 0 := .inl ⟨rfl, rfl, fun c _ h => by simp at h⟩
theorem wst_skip {L : List Cel} {ek : ByteArray} {out seen : List ByteArray} {wk : ByteArray} {ls : Int} (h : Wst L ek out seen wk ls) (hn : (L.map (·.e.key)).Nodup) {c : Cel} (hc : c ∈ L) (hk : cand ek out c = true → (ls ≠ 0 ∧ ls ≤ c.used)) :
    Wst L ek out (c.e.key :: seen) wk ls := by
  have huniq : ∀ d ∈ L, d.e.key = c.e.key → d = c := fun d hd e => by
    have h1 := cfind_self hd hn
    rw [e, cfind_self hc hn] at h1
    cases h1; rfl
  rcases h with ⟨h1, h2, h3⟩ | ⟨b, h1, h2, h3, h4, h5, h6⟩
  · left
    refine ⟨h1, h2, fun d hd hds => ?_⟩
    rcases List.mem_cons.1 hds with h | h
    · rw [huniq d hd h]
      cases hcc : cand ek out c
      · rfl
      · exact absurd h1 (hk hcc).1
    · exact h3 d hd h
  · right
    refine ⟨b, h1, h2, List.mem_cons_of_mem _ h3, h4, h5, fun d hd hds hcd => ?_⟩
    rcases List.mem_cons.1 hds with h | h
    · obtain rfl := huniq d hd h
      have := (hk hcd).2
      omega
    · exact h6 d hd h hcd
theorem wst_take {L : List Cel} {ek : ByteArray} {out seen : List ByteArray} {wk : ByteArray} {ls : Int} (h : Wst L ek out seen wk ls) (hn : (L.map (·.e.key)).Nodup) {c : Cel} (hc : c ∈ L) (hk : cand ek out c = true) (hu : ls = 0 ∨ c.used < ls) (h0 : ∀ d ∈ L, 1 ≤ d.used) :
    Wst L ek out (c.e.key :: seen) c.e.key c.used := by
  have huniq : ∀ d ∈ L, d.e.key = c.e.key → d = c := fun d hd e => by
    have h1 := cfind_self hd hn
    rw [e, cfind_self hc hn] at h1
    cases h1; rfl
  refine .inr ⟨c, hc, hk, List.mem_cons_self, rfl, rfl, fun d hd hds hcd => ?_⟩
  rcases List.mem_cons.1 hds with h' | h'
  · rw [huniq d hd h']; exact Int.le_refl _
  · rcases h with ⟨h1, h2, h3⟩ | ⟨b, h1, h2, h3, h4, h5, h6⟩
    · rw [h3 d hd h'] at hcd; cases hcd
    · have := h6 d hd h' hcd
      have := h0 b h1
      rcases hu with hu | hu <;> omega
theorem wst_done {L : List Cel} {ek : ByteArray} {out seen : List ByteArray} {wk : ByteArray} {ls : Int} (h : Wst L ek out seen wk ls) (hall : ∀ c ∈ L, c.e.key ∈ seen) (h0 : ∀ d ∈ L, 1 ≤ d.used) (hd : ∀ c ∈ L, ∀ d ∈ L, c.used = d.used → c = d) :
    (ls = 0 ∧ worst L ek out = none) ∨ ∃ c, worst L ek out = some c ∧ wk = c.e.key ∧ ls = c.used ∧ c ∈ L ∧ 1 ≤ ls := by
  rcases h with ⟨h1, h2, h3⟩ | ⟨b, h1, h2, h3, h4, h5, h6⟩
  · left
    refine ⟨h1, ?_⟩
    have : L.filter (cand ek out) = [] := List.filter_eq_nil_iff.2 fun c hc => by rw [h3 c hc (hall c hc)]; simp
    unfold worst
    rw [this]; rfl
  · right
    cases hw : worst L ek out with
    | none =>
      have := best_none hw
      have hb : b ∈ L.filter (cand ek out) := List.mem_filter.2 ⟨h1, h2⟩
      rw [this] at hb
      cases hb
    | some c =>
      obtain ⟨g1, g2⟩ := best_some hw
      obtain ⟨g3, g4⟩ := List.mem_filter.1 g1
      have e1 := g2 b (List.mem_filter.2 ⟨h1, h2⟩)
      have e2 := h6 c g3 (hall c g3) g4
      obtain rfl := hd b h1 c g3 (by omega)
      exact ⟨b, rfl, h4, h5, h1, by rw [h5]; exact h0 b h1⟩
/-- Who goes, one behind the other. -/
def vict (T : Tab) (ek : ByteArray) : Nat → List ByteArray → Int → Int → List ByteArray × Bool
  | 0, out, _, _ => (out, true)
  | f + 1, out, n, b => if T.room.cells < n ∨ T.room.bytes < b then (match worst T.L ek out with
      | none => (out, false)
      | some c => vict T ek f (out ++ [c.e.key]) (n - 1) (b - esize c.e)) else (out, true)
def victims (T : Tab) (e : Ent) : List ByteArray × Bool :=
  vict T e.key (left_ T.L e.key [] + 1) [] (if (cfind T.L e.key).isSome then (T.L.length : Int) else T.L.length + 1) (T.bytes + esize e - csize (cfind T.L e.key))
theorem vict_fits {T : Tab} {ek : ByteArray} {f : Nat} {out : List ByteArray} {n b : Int} (h1 : ¬ T.room.cells < n) (h2 : ¬ T.room.bytes < b) : vict T ek (f + 1) out n b = (out, true) := by
  unfold vict
  rw [if_neg (by omega)]
theorem vict_none {T : Tab} {ek : ByteArray} {f : Nat} {out : List ByteArray} {n b : Int} (h1 : T.room.cells < n ∨ T.room.bytes < b) (h2 : worst T.L ek out = none) : vict T ek (f + 1) out n b = (out, false) := by
  unfold vict
  rw [if_pos h1, h2]
theorem vict_some {T : Tab} {ek : ByteArray} {f : Nat} {out : List ByteArray} {n b : Int} {c : Cel} (h1 : T.room.cells < n ∨ T.room.bytes < b) (h2 : worst T.L ek out = some c) : vict T ek (f + 1) out n b = vict T ek f (out ++ [c.e.key]) (n - 1) (b - esize c.e) := by
  conv => lhs; unfold vict
  rw [if_pos h1, h2]
end Go.Proofs.Ytibolfdgbbaclaa

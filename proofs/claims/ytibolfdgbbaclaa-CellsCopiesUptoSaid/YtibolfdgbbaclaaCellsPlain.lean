/-
  What is proved: plain functions on tables of cells (what the package cells computes), without memory and without Go.
  Conditions: none.
-/
import Derived.Test.YtibolfdgbbaclaaMaps
namespace Go.Ice
open Go
structure Ent where
  key : ByteArray
  seq : Int
  who : Int
  op : Int
  has : Bool
  b : List UInt8
/-- A cell; 'sv': the slice by which its bytes are held. -/
structure Cel where
  e : Ent
  whole : Bool
  clean : Bool
  used : Int
  sv : Value
structure Room where
  cells : Int
  bytes : Int
  buckets : Int
  fresh : Bool
structure Tab where
  room : Room
  L : List Cel
  tok : List Int
  uses : Int
  bytes : Int
def entV (e : Ent) (sv : Value) : Value := .agg #[.string e.key, .int .i64 e.seq, .int .i64 e.who, .int .i64 e.op, .bool e.has, sv]
def celV (c : Cel) : Value := .agg #[.string c.e.key, .int .i64 c.e.seq, .int .i64 c.e.who, .int .i64 c.e.op, .bool c.e.has, c.sv, .bool c.whole, .bool c.clean, .int .i64 c.used]
def celZ : Value := .agg #[.string ⟨#[]⟩, .int .i64 0, .int .i64 0, .int .i64 0, .bool false, .slice none 0 0, .bool false, .bool false, .int .i64 0]
def zeroE (k : ByteArray) : Ent := ⟨k, 0, 0, 0, false, []⟩
def cfind (L : List Cel) (k : ByteArray) : Option Cel := L.find? fun c => decide (c.e.key = k)
def cput (L : List Cel) (c : Cel) : List Cel := if (cfind L c.e.key).isSome then L.map fun d => if d.e.key = c.e.key then c else d else L ++ [c]
def cdel (L : List Cel) (k : ByteArray) : List Cel := L.filter fun c => decide (c.e.key ≠ k)
def esize (e : Ent) : Int := e.key.size + e.b.length
def csize (o : Option Cel) : Int := match o with | some c => esize c.e | none => 0
def cclean (o : Option Cel) : Bool := match o with | some c => c.clean | none => false
def ckv (c : Cel) : ByteArray × Value := (c.e.key, celV c)
def assoc (L : List Cel) : Assoc := L.map ckv
theorem aget_assoc (L : List Cel) (k : ByteArray) : aget (assoc L) k = (cfind L k).map celV := by
  induction L with
  | nil => rfl
  | cons c L ih =>
    unfold aget assoc cfind at *
    simp only [List.map_cons, List.find?_cons, ckv]
    by_cases h : c.e.key = k
    · simp [h]
    · simp only [h, decide_false]
      exact ih
theorem aput_assoc (L : List Cel) (c : Cel) : aput (assoc L) c.e.key (celV c) = assoc (cput L c) := by
  unfold aput cput
  rw [aget_assoc]
  simp only [Option.isSome_map]
  split
  · unfold aset assoc
    simp only [List.map_map]
    refine List.map_congr_left fun d _ => ?_
    simp only [Function.comp_apply, ckv]
    split
    · rename_i h; simp [h]
    · rename_i h; simp [h]
  · simp [assoc, ckv]
theorem adel_assoc (L : List Cel) (k : ByteArray) : adel (assoc L) k = assoc (cdel L k) := by
  unfold adel assoc cdel
  rw [List.filter_map]
  rfl
theorem cfind_some {L : List Cel} {k : ByteArray} {c : Cel} (h : cfind L k = some c) : c ∈ L ∧ c.e.key = k := by
  unfold cfind at h
  exact ⟨List.mem_of_find?_eq_some h, by simpa using List.find?_some h⟩
theorem mem_cput {L : List Cel} {c d : Cel} (h : d ∈ cput L c) : d = c ∨ d ∈ L := by
  unfold cput at h
  split at h
  · obtain ⟨x, hx, rfl⟩ := List.mem_map.1 h
    split
    · exact .inl rfl
    · exact .inr hx
  · rcases List.mem_append.1 h with h | h
    · exact .inr h
    · exact .inl (by simpa using h)
theorem mem_cdel {L : List Cel} {k : ByteArray} {d : Cel} (h : d ∈ cdel L k) : d ∈ L := (List.mem_filter.1 h).1
def laid (T : Tab) (c : Cel) : Tab :=
  { T with uses := T.uses + 1, bytes := T.bytes + (esize c.e - csize (cfind T.L c.e.key)), L := cput T.L { c with used := T.uses + 1 } }
def bumped (tok : List Int) (i : Nat) : List Int := tok.set i (tok.getD i 0 + 1)
/-- 'hb': the bucket of a key. -/
def dropped (hb : ByteArray → Int → Int) (T : Tab) (k : ByteArray) : Tab :=
  { T with bytes := T.bytes - csize (cfind T.L k), L := cdel T.L k, tok := bumped T.tok (hb k T.room.buckets).toNat }
/-- Bounds under which nothing wraps. -/
structure Bd (T : Tab) : Prop where
  uses0 : 0 ≤ T.uses
  uses1 : T.uses ≤ 2305843009213693952
  bytes0 : -2305843009213693952 ≤ T.bytes
  bytes1 : T.bytes ≤ 2305843009213693952
  size : ∀ c ∈ T.L, c.e.key.size ≤ 140737488351232 ∧ c.e.b.length ≤ 140737488351232
  b0 : 1 ≤ T.room.buckets
  b1 : T.room.buckets ≤ 65536
  toks : T.tok.length = T.room.buckets.toNat
  tok : ∀ t ∈ T.tok, -2305843009213693952 ≤ t ∧ t ≤ 2305843009213693952
theorem csize_bd {T : Tab} (h : Bd T) (k : ByteArray) : 0 ≤ csize (cfind T.L k) ∧ csize (cfind T.L k) ≤ 281474976702464 := by
  cases hf : cfind T.L k with
  | none => simp [csize]
  | some c =>
    have h1 := h.size c (cfind_some hf).1
    simp only [csize, esize]
    omega
end Go.Ice

/-
  What is proved: the contract of tags.Copy.
  Conditions: lengths at most 2^47.
-/
import Derived.Test.YtibolfdgbbaclaaTags
open Go Go.RowKit Go.Ice
namespace Go.Proofs.Ytibolfdgbbaclaa
set_option maxRecDepth 100000
set_option linter.unusedVariables false
set_option linter.unusedSimpArgs false
attribute [local go_sem] gives givesUpon later_self more_cell more_frozen more_block more_more more_drew more_setCell more_of_drew more_of_drewN more_size
theorem u8_info : (Try.prog.info? 5).map (fun i => (i.zero, i.size, i.bytes)) = some (some (.int .u8 0), 1, 1) := by kernel_rfl
/-- The entry in new memory. -/
def Copied (w : World) (k : ByteArray) (x y z : Int) (h : Bool) (l : List UInt8) (e : Ending) (w' : World) : Prop :=
  ∃ A c, e = .returned (.agg #[.string k, .int .i64 x, .int .i64 y, .int .i64 z, .bool h, .slice A l.length c]) ∧ Bts w' (fun b => w.heap.size ≤ b) (.slice A l.length c) l ∧ Below w.heap.size w w'
theorem copy_any (k : ByteArray) (x y z : Int) (h : Bool) (v : Value) (l : List UInt8) (w : World) (N : Nat → Prop) (hb : Bts w N v l) :
    Calls Try.prog 36 #[.agg #[.string k, .int .i64 x, .int .i64 y, .int .i64 z, .bool h, v]] w (Copied w k x y z h l) := by
  obtain ⟨i0, hi, hz0, hz1, hz2⟩ := info_parts u8_info
  obtain ⟨A, c, rfl, hr, hl⟩ := hb
  have hR : Row w N A l.length (fun j => .int .u8 ((l.getD j 0).toNat : Int)) := hr
  have Hr := Lib.hid hR
  clear hr hR
  go_enter Try.func36, Try.ntmps36
  go_wp2_with (
    at_builtin
    refine wpList_copy_bytes (o := ⟨some 6, .call { callee := .builtin .append, args := #[.const (.slice none 0 0), .tmp 5], argTypes := #[33, 33] }, _, _, _, _⟩) rfl (.tmp 5) 33 5 i0 rfl Try.underlying33 hi hz0 hz1 hz2 N l (.slice A l.length c) rfl ⟨A, c, rfl, ?c1, hl⟩ ?_
    case c1 => exact (Hr.out.below ((Below.refl _ _).alloc (Nat.le_refl _) _)).below ((Below.refl _ _).alloc (Nat.le_refl _) _)
    intro A' c' w1 hb1 hB1
    obtain ⟨e1, rfl⟩ := later_of_below hB1
    clear hB1)
  refine bodyPost_ret (v := .agg #[.string k, .int .i64 x, .int .i64 y, .int .i64 z, .bool h, .slice A' l.length c']) (by simp [results, Try.results36, go_sem]) rfl ⟨A', c', rfl, ?_, ?_⟩
  · exact (hb1.kept (fun b hN _ => more_new (by simp) hN)).mono (fun b h => by simp at h; omega)
  · exact (Kept.to_below (S := fun _ => False) (by repeat (first | with_reducible refine Kept.more ?_ _ | with_reducible refine Kept.alloc ?_ _ | with_reducible refine Kept.drew ?_ | with_reducible refine Kept.drewN ?_ _ | exact Kept.refl _ _)) (fun _ h => h.elim))
end Go.Proofs.Ytibolfdgbbaclaa

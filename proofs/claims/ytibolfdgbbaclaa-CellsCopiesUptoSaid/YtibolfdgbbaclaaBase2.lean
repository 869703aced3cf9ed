/-
  What is proved: small words for the walks.
  Conditions: none; no program in it.
-/
import Derived.Test.YtibolfdgbbaclaaMapLaws
namespace Go.Ice
open Go Go.RowKit
theorem lt_plus2 {a b c d : Nat} (h : a < b) : a < b + c + d := by omega
theorem lt_plus3 {a b c d e : Nat} (h : a < b) : a < b + c + d + e := by omega
theorem lt_plus4 {a b c d e f : Nat} (h : a < b) : a < b + c + d + e + f := by omega
end Go.Ice

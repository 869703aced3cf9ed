/-
  What is proved: contracts of maps.Keys, slices.Sorted and maps.Clone at the program's map of cells, by the shelf's contracts laid at the program (the layings are written by a program of the kit in plain words).
  Conditions: bounds under which nothing is too great.
-/
import Derived.Shelf.SlIter.Nil
import Derived.Shelf.SortM.Plain
import Derived.Shelf.SortM.SortNone
import Derived.Shelf.SlMaps.Clone
import Derived.Test.YtibolfdgbbaclaaStrs
namespace Go.Proofs
open Go.Shelf
def Try.keysL_ren : Go.Shelf.Ren := ⟨fun | 7 => 38 | 10 => 58 | n => n, fun | 23 => 76 | 26 => 9 | 3 => 51 | 28 => 90 | 0 => 0 | 27 => 89 | 33 => 82 | 4 => 4 | n => n, fun | n => n⟩
theorem Try.keysL : Go.Proofs.SlLaysZ.n7 Try.prog Try.keysL_ren := {
  mixed := by kernel_rfl
  f7 := ⟨Try.f38.name, by decide, Try.func38.trans (congrArg some (by kernel_rfl))⟩
  f10 := ⟨Try.f58.name, by decide, Try.func58.trans (congrArg some (by kernel_rfl))⟩
  t0 := Try.underlying0
  a0 := Try.isAgg0
  z0 := Try.sizeOf0
  v0 := Try.zeroValue0
  t4 := Try.underlying4
  a4 := Try.isAgg4
  z4 := Try.sizeOf4
  v4 := Try.zeroValue4
  t23 := Try.underlying76
  a23 := Try.isAgg76
  z23 := Try.sizeOf76
  v23 := Try.zeroValue76
  t26 := Try.underlying9
  a26 := Try.isAgg9
  z26 := Try.sizeOf9
  v26 := Try.zeroValue9
  t27 := Try.underlying89
  a27 := Try.isAgg89
  z27 := Try.sizeOf89
  v27 := Try.zeroValue89
  t28 := Try.underlying90
  a28 := Try.isAgg90
  z28 := Try.sizeOf90
  v28 := Try.zeroValue90
  t33 := Try.underlying82
  a33 := Try.isAgg82
  z33 := Try.sizeOf82
  v33 := Try.zeroValue82 }
def Try.sortedL_ren : Go.Shelf.Ren := ⟨fun | 6 => 37 | 8 => 56 | 9 => 57 | 11 => 72 | 13 => 74 | 12 => 73 | 23 => 91 | 24 => 92 | 14 => 82 | 15 => 83 | 16 => 84 | 17 => 85 | 18 => 86 | 19 => 87 | 20 => 88 | 21 => 89 | 22 => 90 | 25 => 98 | 26 => 99 | 27 => 100 | 28 => 101 | 29 => 102 | 30 => 103 | 31 => 106 | n => n, fun | 26 => 9 | 28 => 90 | 24 => 87 | 0 => 0 | 3 => 3 | 37 => 126 | 48 => 143 | 50 => 121 | 4 => 4 | 40 => 135 | 39 => 134 | 45 => 140 | 5 => 5 | 9 => 9 | 51 => 149 | 55 => 153 | 57 => 156 | 58 => 44 | 33 => 82 | n => n, fun | n => n⟩
theorem Try.sortedL : Go.Proofs.SlLaysZ.n6 Try.prog Try.sortedL_ren := {
  mixed := by kernel_rfl
  f6 := ⟨Try.f37.name, by decide, Try.func37.trans (congrArg some (by kernel_rfl))⟩
  f8 := ⟨Try.f56.name, by decide, Try.func56.trans (congrArg some (by kernel_rfl))⟩
  f11 := ⟨Try.f72.name, by decide, Try.func72.trans (congrArg some (by kernel_rfl))⟩
  t0 := Try.underlying0
  a0 := Try.isAgg0
  z0 := Try.sizeOf0
  v0 := Try.zeroValue0
  t24 := Try.underlying87
  a24 := Try.isAgg87
  z24 := Try.sizeOf87
  v24 := Try.zeroValue87
  t26 := Try.underlying9
  a26 := Try.isAgg9
  z26 := Try.sizeOf9
  v26 := Try.zeroValue9
  t28 := Try.underlying90
  a28 := Try.isAgg90
  z28 := Try.sizeOf90
  v28 := Try.zeroValue90
  i26 := by kernel_rfl }
def Try.sortL_ren : Go.Shelf.Ren := ⟨fun | 6 => 57 | 8 => 74 | 9 => 73 | 19 => 91 | 20 => 92 | 21 => 82 | 22 => 83 | 23 => 84 | 24 => 85 | 25 => 86 | 26 => 87 | 27 => 88 | 28 => 89 | 29 => 90 | 36 => 98 | 31 => 99 | 32 => 100 | 37 => 101 | 38 => 102 | 39 => 103 | 41 => 106 | n => n, fun | 27 => 87 | 29 => 9 | 3 => 3 | 32 => 126 | 26 => 87 | 0 => 0 | 44 => 143 | 46 => 121 | 4 => 4 | 36 => 135 | 35 => 134 | 41 => 140 | 5 => 5 | 9 => 9 | 53 => 149 | 57 => 153 | 63 => 156 | 64 => 44 | n => n, fun | n => n⟩
theorem Try.sortL : Go.Proofs.SlLaysM.n6 Try.prog Try.sortL_ren := {
  mixed := by kernel_rfl
  f6 := ⟨Try.f57.name, by decide, Try.func57.trans (congrArg some (by kernel_rfl))⟩
  f8 := Try.func74.trans (congrArg some (by kernel_rfl))
  f9 := ⟨Try.f73.name, by decide, Try.func73.trans (congrArg some (by kernel_rfl))⟩
  f19 := Try.func91.trans (congrArg some (by kernel_rfl))
  f20 := Try.func92.trans (congrArg some (by kernel_rfl))
  f21 := ⟨Try.f82.name, by decide, Try.func82.trans (congrArg some (by kernel_rfl))⟩
  f22 := ⟨Try.f83.name, by decide, Try.func83.trans (congrArg some (by kernel_rfl))⟩
  f23 := ⟨Try.f84.name, by decide, Try.func84.trans (congrArg some (by kernel_rfl))⟩
  f24 := ⟨Try.f85.name, by decide, Try.func85.trans (congrArg some (by kernel_rfl))⟩
  f25 := ⟨Try.f86.name, by decide, Try.func86.trans (congrArg some (by kernel_rfl))⟩
  f26 := ⟨Try.f87.name, by decide, Try.func87.trans (congrArg some (by kernel_rfl))⟩
  f27 := ⟨Try.f88.name, by decide, Try.func88.trans (congrArg some (by kernel_rfl))⟩
  f28 := ⟨Try.f89.name, by decide, Try.func89.trans (congrArg some (by kernel_rfl))⟩
  f29 := ⟨Try.f90.name, by decide, Try.func90.trans (congrArg some (by kernel_rfl))⟩
  f31 := Try.func99.trans (congrArg some (by kernel_rfl))
  f32 := Try.func100.trans (congrArg some (by kernel_rfl))
  f36 := ⟨Try.f98.name, by decide, Try.func98.trans (congrArg some (by kernel_rfl))⟩
  f37 := ⟨Try.f101.name, by decide, Try.func101.trans (congrArg some (by kernel_rfl))⟩
  f38 := ⟨Try.f102.name, by decide, Try.func102.trans (congrArg some (by kernel_rfl))⟩
  f39 := ⟨Try.f103.name, by decide, Try.func103.trans (congrArg some (by kernel_rfl))⟩
  f41 := ⟨Try.f106.name, by decide, Try.func106.trans (congrArg some (by kernel_rfl))⟩
  t0 := Try.underlying0
  a0 := Try.isAgg0
  z0 := Try.sizeOf0
  v0 := Try.zeroValue0
  t3 := Try.underlying3
  a3 := Try.isAgg3
  z3 := Try.sizeOf3
  v3 := Try.zeroValue3
  t4 := Try.underlying4
  a4 := Try.isAgg4
  z4 := Try.sizeOf4
  v4 := Try.zeroValue4
  t5 := Try.underlying5
  a5 := Try.isAgg5
  z5 := Try.sizeOf5
  v5 := Try.zeroValue5
  t9 := Try.underlying9
  a9 := Try.isAgg9
  z9 := Try.sizeOf9
  v9 := Try.zeroValue9
  t26 := Try.underlying87
  a26 := Try.isAgg87
  z26 := Try.sizeOf87
  v26 := Try.zeroValue87
  t27 := Try.underlying87
  a27 := Try.isAgg87
  z27 := Try.sizeOf87
  v27 := Try.zeroValue87
  t29 := Try.underlying9
  a29 := Try.isAgg9
  z29 := Try.sizeOf9
  v29 := Try.zeroValue9
  t32 := Try.underlying126
  a32 := Try.isAgg126
  z32 := Try.sizeOf126
  v32 := Try.zeroValue126
  t35 := Try.underlying134
  a35 := Try.isAgg134
  z35 := Try.sizeOf134
  v35 := Try.zeroValue134
  t36 := Try.underlying135
  a36 := Try.isAgg135
  z36 := Try.sizeOf135
  v36 := Try.zeroValue135
  t41 := Try.underlying140
  a41 := Try.isAgg140
  z41 := Try.sizeOf140
  v41 := Try.zeroValue140
  t44 := Try.underlying143
  a44 := Try.isAgg143
  z44 := Try.sizeOf143
  v44 := Try.zeroValue143
  t46 := Try.underlying121
  a46 := Try.isAgg121
  z46 := Try.sizeOf121
  v46 := Try.zeroValue121
  t53 := Try.underlying149
  a53 := Try.isAgg149
  z53 := Try.sizeOf149
  v53 := Try.zeroValue149
  t57 := Try.underlying153
  a57 := Try.isAgg153
  z57 := Try.sizeOf153
  v57 := Try.zeroValue153
  t63 := Try.underlying156
  a63 := Try.isAgg156
  z63 := Try.sizeOf156
  v63 := Try.zeroValue156
  t64 := Try.underlying44
  a64 := Try.isAgg44
  z64 := Try.sizeOf44
  v64 := Try.zeroValue44 }
def Try.cloneL_ren : Go.Shelf.Ren := ⟨fun | 5 => 51 | 7 => 70 | n => n, fun | 23 => 76 | 25 => 9 | 3 => 51 | 4 => 4 | 20 => 20 | n => n, fun | n => n⟩
theorem Try.cloneL : Go.Proofs.SlLaysW.n5 Try.prog Try.cloneL_ren := {
  mixed := by kernel_rfl
  f5 := ⟨Try.f51.name, by decide, Try.func51.trans (congrArg some (by kernel_rfl))⟩
  f7 := Try.func70.trans (congrArg some (by kernel_rfl))
  t4 := Try.underlying4
  a4 := Try.isAgg4
  z4 := Try.sizeOf4
  v4 := Try.zeroValue4
  t20 := Try.underlying20
  a20 := Try.isAgg20
  z20 := Try.sizeOf20
  v20 := Try.zeroValue20
  t23 := Try.underlying76
  a23 := Try.isAgg76
  z23 := Try.sizeOf76
  v23 := Try.zeroValue76 }

end Go.Proofs
namespace Go.Proofs.Ytibolfdgbbaclaa
open Go Go.RowKit Go.Ice Go.Maps Go.Sort Go.Shelf
set_option maxRecDepth 100000
set_option linter.unusedVariables false
def oneR (v : Value) : Option (DataW Unit × List MemPlace) := some (.nil, [])
theorem ownsMap_at {k : TypeId} (hk : Try.prog.underlying k = some .string) {w : World} {bm : Nat} {L : Assoc} (hM : MapAt w bm L) (hl : L.length ≤ maxLen) (hs : ∀ p ∈ L, p.1.size ≤ maxLen) :
    ∃ D0 : DataW Unit, w.ownsMap Try.prog k oneR bm L.length D0 ∧ Maps.size D0 = L.length ∧ (strKeys D0).Perm (L.map (·.1.data.toList)) := by
  obtain ⟨es, clock, hb, hst, hm⟩ := hM
  have hsz : es.size = L.length := by simpa using congrArg List.length hm
  have hrd : ∀ x ∈ es.toList, ∃ s : ByteArray, x.key = .string s ∧ Go.WideElems.rd Try.prog k oneR x = some (.string s.data.toList, .nil) := by
    intro x hx
    have : (x.key, x.val) ∈ L.map kv := hm ▸ List.mem_map.2 ⟨x, hx, rfl⟩
    obtain ⟨p, hp, hpk⟩ := List.mem_map.1 this
    unfold kv at hpk
    simp only [Prod.mk.injEq] at hpk
    refine ⟨p.1, hpk.1.symm, ?_⟩
    unfold Go.WideElems.rd
    rw [← hpk.1, Go.WideMaps.keyOf_string_mk hk (hs p hp)]
    rfl
  refine ⟨_, ⟨es, clock, hb, ⟨by omega, hst, fun x hx => ⟨_, (hrd x hx).choose_spec.2⟩⟩, by omega, rfl⟩, ?_, ?_⟩
  · rw [Maps.size_eq, length_sorted, List.length_map, Array.length_toList, hsz]
  · have h1 : strKeys (.map ((es.toList.map (Go.WideElems.rg Try.prog k oneR)).foldr DataW.insert [])) = ((es.toList.map (Go.WideElems.rg Try.prog k oneR)).foldr DataW.insert []).map fun p => strOf p.1 := rfl
    rw [h1]
    refine ((Go.WideShapes.sorted_perm _).map _).trans ?_
    have h2 : (es.toList.map (Go.WideElems.rg Try.prog k oneR)).map (fun p => strOf p.1) = L.map (·.1.data.toList) := by
      have h3 : (es.toList.map (Go.WideElems.rg Try.prog k oneR)).map (fun p => strOf p.1) = (es.toList.map fun e => (e.key, e.val)).map fun q => match q.1 with | .string s => s.data.toList | _ => [] := by
        rw [List.map_map, List.map_map]
        refine List.map_congr_left fun x hx => ?_
        obtain ⟨s, h4, h5⟩ := hrd x hx
        simp only [Function.comp_apply, Go.WideElems.rg, h5, Option.getD_some, h4]
        rfl
      rw [h3, hm, List.map_map]
      rfl
    rw [h2]
def sortB (l : List ByteArray) : List ByteArray := ((l.map (·.data.toList)).mergeSort (fun x y => decide (x ≤ y))).map fun b => ⟨b.toArray⟩
theorem keys_call (mb : Option Nat) (W : World) : Calls Try.prog 38 #[.map mb] W fun e w' => e = .returned (.func (.func 58) #[] #[.pointer (some ⟨W.heap.size, 0, none⟩)]) ∧ w' = W.alloc (.cells #[.map mb] 76) :=
  callsIn_wide.1 (AnyZ.keys_in Try.keysL Fence.wide 5 trivial rfl mb W)
theorem sorts (m : Nat) : AnyZ.SortsIn Try.prog Try.sortedL_ren Fence.wide m :=
  ⟨fun blk off cap ss W hH hblk hsz => callsIn_wide.2 (AnyM.slices_Sort_string Try.sortL blk off cap ss W hH hblk hsz),
   fun p cap W => callsIn_wide.2 (AnyM.slices_Sort_string_none Try.sortL p cap W)⟩
set_option maxHeartbeats 1000000 in
theorem sorted_call {w : World} {bm : Nat} {L : Assoc} (hM : MapAt w bm L) (hl : L.length ≤ 1000000) (hs : ∀ p ∈ L, p.1.size ≤ maxLen) :
    Calls Try.prog 37 #[.func (.func 58) #[] #[.pointer (some ⟨w.heap.size, 0, none⟩)]] (w.alloc (.cells #[.map (some bm)] 76)) fun e w' => ∃ v, e = .returned v ∧ Rows w' (fun b => w.heap.size < b) v (strV (sortB (L.map (·.1)))) ∧ Below (w.heap.size + 1) (w.alloc (.cells #[.map (some bm)] 76)) w' := by
  obtain ⟨D0, hown, hsz, hp⟩ := ownsMap_at (k := 9) Try.underlying9 hM (by unfold maxLen; omega) hs
  have hbl := hown.lt
  have hseq : SeqGives Fence.wide 2 Try.prog 58 #[.pointer (some ⟨w.heap.size, 0, none⟩)] encStr (fun ss => ss.Perm (strKeys D0)) (Maps.size D0) (w.alloc (.cells #[.map (some bm)] 76)) :=
    AnyZ.keys_gives (ρ := Try.keysL_ren) { Try.keysL with } Fence.wide _ trivial rfl (by omega) w.heap.size bm L.length D0 _ (by simp) (by simp) (by
      obtain ⟨es, clock, hb, Ft, hs, hD⟩ := hown
      exact ⟨es, clock, (Below.heap_alloc _ _ bm hbl).trans hb, Ft, hs, hD⟩)
  refine (callsIn_wide.1 (AnyZ.sorted_in Try.sortedL Fence.wide 5 trivial trivial trivial trivial rfl (by omega) (sorts _) (enters_of Try.func57 (by kernel_rfl) rfl) 58 #[.pointer (some ⟨w.heap.size, 0, none⟩)] trivial (enters_of Try.func58 (by kernel_rfl) rfl) _ _ (by rw [hsz]; unfold maxLen; omega) (by rw [hsz]; omega) _ hseq)).mono ?_
  rintro e w' ⟨v, ss, rfl, hS, hrow, hnil, hb⟩
  have hss : ss.Perm (L.map (·.1.data.toList)) := hS.trans hp
  have hlen : ss.length = L.length := by simpa using hss.length_eq
  have he : ss.mergeSort (fun x y => decide (x ≤ y)) = ((L.map (·.1)).map (·.data.toList)).mergeSort (fun x y => decide (x ≤ y)) := by
    have : (L.map (·.1)).map (·.data.toList) = L.map (·.1.data.toList) := by rw [List.map_map]; rfl
    rw [this]
    exact mergeSort_of_perm hss
  rw [he] at hrow
  have h4 : (((L.map (·.1)).map (·.data.toList)).mergeSort (fun x y => decide (x ≤ y))).map encStr = strV (sortB (L.map (·.1))) := by
    unfold strV sortB
    simp only [List.map_map]
    rfl
  rw [h4] at hrow
  have hsize : (w.alloc (.cells #[.map (some bm)] 76)).heap.size = w.heap.size + 1 := Array.size_push _
  rw [hsize] at hb hrow
  refine ⟨v, rfl, rows_of_own hrow (fun b h => by omega) ?_, hb⟩
  rw [strV_len]
  simp [sortB]
  omega
theorem clone_call {w : World} {bm : Nat} {L : Assoc} (hM : MapAt w bm L) :
    Calls Try.prog 51 #[.map (some bm)] w fun e w' => e = .returned (.map (some w.heap.size)) ∧ MapAt w' w.heap.size L ∧ Below w.heap.size w w' := by
  obtain ⟨es, clock, hb, hst, hm⟩ := hM
  refine (AnyW.maps_Clone (ρ := Try.cloneL_ren) Try.cloneL bm es clock w hb).mono ?_
  rintro e w' ⟨rfl, rfl⟩
  exact ⟨rfl, ⟨es, clock, heap_alloc_new w _, hst, hm⟩, (Below.refl _ _).alloc (Nat.le_refl _) _⟩
end Go.Proofs.Ytibolfdgbbaclaa

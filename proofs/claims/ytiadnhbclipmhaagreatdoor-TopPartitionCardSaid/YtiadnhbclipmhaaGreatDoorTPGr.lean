/- Contracts of functions that the law reaches: YtiadnhbclipmhaaGreatDoorTPGr. Written for this claim. -/
import Derived.Shelf.Spec.SlicesGrow
import Derived.Test.YtiadnhbclipmhaaGreatDoorProg
/-
  THE SHELF's CONTRACT OF slices.Grow AT THIS DUMP, IN PLAIN WORDS (of the form that tools/lay-plain.mjs writes).
-/
namespace Go.Proofs
open Go.Shelf
def Tryz.growN_ren : Go.Shelf.Ren := ⟨fun | 4 => 55 | n => n, fun | 22 => 25 | 25 => 31 | 0 => 0 | 3 => 3 | 4 => 4 | 9 => 9 | 20 => 20 | n => n, fun | n => n⟩
theorem Tryz.growN : Go.Proofs.Lays8.n4 Tryz.prog Tryz.growN_ren := {
  mixed := by kernel_rfl
  f4 := ⟨Tryz.f55.name, by decide, Tryz.func55.trans (congrArg some (by kernel_rfl))⟩
  t0 := Tryz.underlying0
  a0 := Tryz.isAgg0
  z0 := Tryz.sizeOf0
  v0 := Tryz.zeroValue0
  t3 := Tryz.underlying3
  a3 := Tryz.isAgg3
  z3 := Tryz.sizeOf3
  v3 := Tryz.zeroValue3
  t4 := Tryz.underlying4
  a4 := Tryz.isAgg4
  z4 := Tryz.sizeOf4
  v4 := Tryz.zeroValue4
  t9 := Tryz.underlying9
  a9 := Tryz.isAgg9
  z9 := Tryz.sizeOf9
  v9 := Tryz.zeroValue9
  t20 := Tryz.underlying20
  a20 := Tryz.isAgg20
  z20 := Tryz.sizeOf20
  v20 := Tryz.zeroValue20
  t22 := Tryz.underlying25
  a22 := Tryz.isAgg25
  z22 := Tryz.sizeOf25
  v22 := Tryz.zeroValue25 }
def Tryz.growL_ren : Go.Shelf.Ren := ⟨fun | 4 => 61 | n => n, fun | 22 => 33 | 25 => 62 | 0 => 0 | 3 => 3 | 4 => 4 | 9 => 9 | 20 => 20 | n => n, fun | n => n⟩
theorem Tryz.growL : Go.Proofs.Lays8.n4 Tryz.prog Tryz.growL_ren := {
  mixed := by kernel_rfl
  f4 := ⟨Tryz.f61.name, by decide, Tryz.func61.trans (congrArg some (by kernel_rfl))⟩
  t0 := Tryz.underlying0
  a0 := Tryz.isAgg0
  z0 := Tryz.sizeOf0
  v0 := Tryz.zeroValue0
  t3 := Tryz.underlying3
  a3 := Tryz.isAgg3
  z3 := Tryz.sizeOf3
  v3 := Tryz.zeroValue3
  t4 := Tryz.underlying4
  a4 := Tryz.isAgg4
  z4 := Tryz.sizeOf4
  v4 := Tryz.zeroValue4
  t9 := Tryz.underlying9
  a9 := Tryz.isAgg9
  z9 := Tryz.sizeOf9
  v9 := Tryz.zeroValue9
  t20 := Tryz.underlying20
  a20 := Tryz.isAgg20
  z20 := Tryz.sizeOf20
  v20 := Tryz.zeroValue20
  t22 := Tryz.underlying33
  a22 := Tryz.isAgg33
  z22 := Tryz.sizeOf33
  v22 := Tryz.zeroValue33 }
end Go.Proofs

/-
  DERIVED: THE SHELF's CONTRACTS AT THIS DUMP, IN PLAIN WORDS (tools/lay-plain.mjs out of 'TryzShelfI.lean', which tools/lay-shelf.mjs wrote): THE SAME DECLARATIONS UNDER THE SAME NAMES: 'import', 'namespace', 'open', 'def', 'theorem' AND NOTHING ELSE: no command of the shelf's: FOR A HAND-IN. Each laying: the table of numbers ('.._ren') and one theorem, a field a fact of the dump's own or the kernel's comparison; each contract: ONE APPLICATION.
-/
import Derived.Shelf.SlGeneric
import Derived.Shelf.SlLaysM
import Derived.Shelf.SortM.Plain
import Derived.Shelf.SortM.SortNone
import Derived.Ground.SlgmProg
import Derived.Test.YtbifklibdkjbeaaGreatDoorProg
namespace Go.Proofs
open Go.Shelf
def Tryz.sortI_ren : Go.Shelf.Ren := ⟨fun | 5 => 48 | 8 => 87 | 7 => 86 | 19 => 123 | 20 => 124 | 10 => 114 | 11 => 115 | 12 => 116 | 13 => 117 | 14 => 118 | 15 => 119 | 16 => 120 | 17 => 121 | 18 => 122 | 30 => 155 | 31 => 156 | 32 => 157 | 33 => 158 | 34 => 159 | 35 => 160 | 40 => 189 | n => n, fun | 23 => 23 | 25 => 3 | 3 => 3 | 32 => 169 | 22 => 23 | 0 => 0 | 44 => 235 | 46 => 237 | 4 => 4 | 36 => 228 | 35 => 227 | 41 => 87 | 5 => 5 | 9 => 9 | 53 => 297 | 57 => 301 | 63 => 341 | 64 => 164 | n => n, fun | n => n⟩
theorem Tryz.sortI : Go.Proofs.SlLaysM.n5 Tryz.prog Tryz.sortI_ren := {
  mixed := by kernel_rfl
  f5 := ⟨Tryz.f48.name, by decide, Tryz.func48.trans (congrArg some (by kernel_rfl))⟩
  f7 := ⟨Tryz.f86.name, by decide, Tryz.func86.trans (congrArg some (by kernel_rfl))⟩
  f8 := Tryz.func87.trans (congrArg some (by kernel_rfl))
  f10 := ⟨Tryz.f114.name, by decide, Tryz.func114.trans (congrArg some (by kernel_rfl))⟩
  f11 := ⟨Tryz.f115.name, by decide, Tryz.func115.trans (congrArg some (by kernel_rfl))⟩
  f12 := ⟨Tryz.f116.name, by decide, Tryz.func116.trans (congrArg some (by kernel_rfl))⟩
  f13 := ⟨Tryz.f117.name, by decide, Tryz.func117.trans (congrArg some (by kernel_rfl))⟩
  f14 := ⟨Tryz.f118.name, by decide, Tryz.func118.trans (congrArg some (by kernel_rfl))⟩
  f15 := ⟨Tryz.f119.name, by decide, Tryz.func119.trans (congrArg some (by kernel_rfl))⟩
  f16 := ⟨Tryz.f120.name, by decide, Tryz.func120.trans (congrArg some (by kernel_rfl))⟩
  f17 := ⟨Tryz.f121.name, by decide, Tryz.func121.trans (congrArg some (by kernel_rfl))⟩
  f18 := ⟨Tryz.f122.name, by decide, Tryz.func122.trans (congrArg some (by kernel_rfl))⟩
  f19 := Tryz.func123.trans (congrArg some (by kernel_rfl))
  f20 := Tryz.func124.trans (congrArg some (by kernel_rfl))
  f30 := ⟨Tryz.f155.name, by decide, Tryz.func155.trans (congrArg some (by kernel_rfl))⟩
  f31 := Tryz.func156.trans (congrArg some (by kernel_rfl))
  f32 := Tryz.func157.trans (congrArg some (by kernel_rfl))
  f33 := ⟨Tryz.f158.name, by decide, Tryz.func158.trans (congrArg some (by kernel_rfl))⟩
  f34 := ⟨Tryz.f159.name, by decide, Tryz.func159.trans (congrArg some (by kernel_rfl))⟩
  f35 := ⟨Tryz.f160.name, by decide, Tryz.func160.trans (congrArg some (by kernel_rfl))⟩
  f40 := ⟨Tryz.f189.name, by decide, Tryz.func189.trans (congrArg some (by kernel_rfl))⟩
  t0 := Tryz.underlying0
  a0 := Tryz.isAgg0
  z0 := Tryz.sizeOf0
  v0 := Tryz.zeroValue0
  t3 := Tryz.underlying3
  a3 := Tryz.isAgg3
  z3 := Tryz.sizeOf3
  v3 := Tryz.zeroValue3
  t4 := Tryz.underlying4
  a4 := Tryz.isAgg4
  z4 := Tryz.sizeOf4
  v4 := Tryz.zeroValue4
  t5 := Tryz.underlying5
  a5 := Tryz.isAgg5
  z5 := Tryz.sizeOf5
  v5 := Tryz.zeroValue5
  t9 := Tryz.underlying9
  a9 := Tryz.isAgg9
  z9 := Tryz.sizeOf9
  v9 := Tryz.zeroValue9
  t22 := Tryz.underlying23
  a22 := Tryz.isAgg23
  z22 := Tryz.sizeOf23
  v22 := Tryz.zeroValue23
  t23 := Tryz.underlying23
  a23 := Tryz.isAgg23
  z23 := Tryz.sizeOf23
  v23 := Tryz.zeroValue23
  t25 := Tryz.underlying3
  a25 := Tryz.isAgg3
  z25 := Tryz.sizeOf3
  v25 := Tryz.zeroValue3
  t32 := Tryz.underlying169
  a32 := Tryz.isAgg169
  z32 := Tryz.sizeOf169
  v32 := Tryz.zeroValue169
  t35 := Tryz.underlying227
  a35 := Tryz.isAgg227
  z35 := Tryz.sizeOf227
  v35 := Tryz.zeroValue227
  t36 := Tryz.underlying228
  a36 := Tryz.isAgg228
  z36 := Tryz.sizeOf228
  v36 := Tryz.zeroValue228
  t41 := Tryz.underlying87
  a41 := Tryz.isAgg87
  z41 := Tryz.sizeOf87
  v41 := Tryz.zeroValue87
  t44 := Tryz.underlying235
  a44 := Tryz.isAgg235
  z44 := Tryz.sizeOf235
  v44 := Tryz.zeroValue235
  t46 := Tryz.underlying237
  a46 := Tryz.isAgg237
  z46 := Tryz.sizeOf237
  v46 := Tryz.zeroValue237
  t53 := Tryz.underlying297
  a53 := Tryz.isAgg297
  z53 := Tryz.sizeOf297
  v53 := Tryz.zeroValue297
  t57 := Tryz.underlying301
  a57 := Tryz.isAgg301
  z57 := Tryz.sizeOf301
  v57 := Tryz.zeroValue301
  t63 := Tryz.underlying341
  a63 := Tryz.isAgg341
  z63 := Tryz.sizeOf341
  v63 := Tryz.zeroValue341
  t64 := Tryz.underlying164
  a64 := Tryz.isAgg164
  z64 := Tryz.sizeOf164
  v64 := Tryz.zeroValue164 }
end Go.Proofs

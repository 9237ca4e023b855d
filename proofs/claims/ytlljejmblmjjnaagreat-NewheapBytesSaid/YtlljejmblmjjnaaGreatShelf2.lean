/-
  DERIVED: THE SHELF's CONTRACTS AT THIS DUMP, IN PLAIN WORDS (tools/lay-plain.mjs out of 'TryzShelf2.lean', which tools/lay-shelf.mjs wrote): THE SAME DECLARATIONS UNDER THE SAME NAMES: 'import', 'namespace', 'open', 'def', 'theorem' AND NOTHING ELSE: no command of the shelf's: FOR A HAND-IN. Each laying: the table of numbers ('.._ren') and one theorem, a field a fact of the dump's own or the kernel's comparison; each contract: ONE APPLICATION.
-/
import Derived.Shelf.SlGeneric
import Derived.Shelf.SlIterI.Nil
import Derived.Shelf.SlIterI.Sorted
import Derived.Ground.GgzProg
import Derived.Test.YtlljejmblmjjnaaGreatProg
namespace Go.Proofs
open Go.Shelf
def Tryz.keysA_ren : Go.Shelf.Ren := ⟨fun | 7 => 53 | 10 => 93 | n => n, fun | 23 => 77 | 26 => 3 | 3 => 76 | 28 => 106 | 0 => 0 | 27 => 105 | 33 => 36 | 4 => 4 | n => n, fun | n => n⟩
theorem Tryz.keysA : Go.Proofs.SlLaysZI.n7 Tryz.prog Tryz.keysA_ren := {
  mixed := by kernel_rfl
  f7 := ⟨Tryz.f53.name, by decide, Tryz.func53.trans (congrArg some (by kernel_rfl))⟩
  f10 := ⟨Tryz.f93.name, by decide, Tryz.func93.trans (congrArg some (by kernel_rfl))⟩
  t0 := Tryz.underlying0
  a0 := Tryz.isAgg0
  z0 := Tryz.sizeOf0
  v0 := Tryz.zeroValue0
  t4 := Tryz.underlying4
  a4 := Tryz.isAgg4
  z4 := Tryz.sizeOf4
  v4 := Tryz.zeroValue4
  t23 := Tryz.underlying77
  a23 := Tryz.isAgg77
  z23 := Tryz.sizeOf77
  v23 := Tryz.zeroValue77
  t26 := Tryz.underlying3
  a26 := Tryz.isAgg3
  z26 := Tryz.sizeOf3
  v26 := Tryz.zeroValue3
  t27 := Tryz.underlying105
  a27 := Tryz.isAgg105
  z27 := Tryz.sizeOf105
  v27 := Tryz.zeroValue105
  t28 := Tryz.underlying106
  a28 := Tryz.isAgg106
  z28 := Tryz.sizeOf106
  v28 := Tryz.zeroValue106
  t33 := Tryz.underlying36
  a33 := Tryz.isAgg36
  z33 := Tryz.sizeOf36
  v33 := Tryz.zeroValue36 }
def Tryz.sortedA_ren : Go.Shelf.Ren := ⟨fun | 6 => 52 | 8 => 91 | 9 => 92 | 11 => 130 | 13 => 132 | 12 => 131 | 23 => 165 | 24 => 166 | 14 => 156 | 15 => 157 | 16 => 158 | 17 => 159 | 18 => 160 | 19 => 161 | 20 => 162 | 21 => 163 | 22 => 164 | 25 => 179 | 26 => 180 | 27 => 181 | 28 => 182 | 29 => 183 | 30 => 124 | 31 => 186 | n => n, fun | 26 => 3 | 28 => 106 | 24 => 37 | 0 => 0 | 3 => 3 | 37 => 92 | 48 => 250 | 50 => 140 | 4 => 4 | 40 => 244 | 39 => 243 | 45 => 93 | 5 => 5 | 9 => 9 | 51 => 260 | 55 => 263 | 57 => 267 | 58 => 268 | 33 => 36 | n => n, fun | n => n⟩
theorem Tryz.sortedA : Go.Proofs.SlLaysZI.n6 Tryz.prog Tryz.sortedA_ren := {
  mixed := by kernel_rfl
  f6 := ⟨Tryz.f52.name, by decide, Tryz.func52.trans (congrArg some (by kernel_rfl))⟩
  f8 := ⟨Tryz.f91.name, by decide, Tryz.func91.trans (congrArg some (by kernel_rfl))⟩
  f11 := ⟨Tryz.f130.name, by decide, Tryz.func130.trans (congrArg some (by kernel_rfl))⟩
  t0 := Tryz.underlying0
  a0 := Tryz.isAgg0
  z0 := Tryz.sizeOf0
  v0 := Tryz.zeroValue0
  t24 := Tryz.underlying37
  a24 := Tryz.isAgg37
  z24 := Tryz.sizeOf37
  v24 := Tryz.zeroValue37
  t26 := Tryz.underlying3
  a26 := Tryz.isAgg3
  z26 := Tryz.sizeOf3
  v26 := Tryz.zeroValue3
  t28 := Tryz.underlying106
  a28 := Tryz.isAgg106
  z28 := Tryz.sizeOf106
  v28 := Tryz.zeroValue106
  i26 := by kernel_rfl }
end Go.Proofs

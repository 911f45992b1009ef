/-
  DERIVED: THE SHELF's CONTRACTS AT THIS DUMP, IN PLAIN WORDS (tools/lay-plain.mjs out of 'YtflbidbnbfndgaaShelf.lean', which tools/lay-shelf.mjs wrote): THE SAME DECLARATIONS UNDER THE SAME NAMES: 'import', 'namespace', 'open', 'def', 'theorem' AND NOTHING ELSE: no command of the shelf's: FOR A HAND-IN. Each laying: the table of numbers ('.._ren') and one theorem, a field a fact of the dump's own or the kernel's comparison; each contract: ONE APPLICATION.
-/
import Derived.Shelf.SlGeneric
import Derived.Ground.SlgfProg
import Derived.Ground.SlgnProg
import Derived.Ground.SlgqProg
import Derived.Shelf.SlLaysE0
import Derived.Shelf.SlLaysH0
import Derived.Shelf.SlLaysQ
import Derived.Test.YtflbidbnbfndgaaProg
namespace Go.Proofs
open Go.Shelf
def Ytflbidbnbfndgaa.laysContains_ren : Go.Shelf.Ren := ⟨fun | 7 => 46 | 6 => 52 | n => n, fun | 22 => 35 | 24 => 40 | 4 => 4 | 0 => 0 | 3 => 3 | n => n, fun | n => n⟩
theorem Ytflbidbnbfndgaa.laysContains : Go.Proofs.SlLaysQ.n7 Try.prog Ytflbidbnbfndgaa.laysContains_ren := {
  mixed := by kernel_rfl
  f6 := ⟨Try.f52.name, by decide, Try.func52.trans (congrArg some (by kernel_rfl))⟩
  f7 := ⟨Try.f46.name, by decide, Try.func46.trans (congrArg some (by kernel_rfl))⟩
  t0 := Try.underlying0
  a0 := Try.isAgg0
  z0 := Try.sizeOf0
  v0 := Try.zeroValue0
  t3 := Try.underlying3
  a3 := Try.isAgg3
  z3 := Try.sizeOf3
  v3 := Try.zeroValue3
  t4 := Try.underlying4
  a4 := Try.isAgg4
  z4 := Try.sizeOf4
  v4 := Try.zeroValue4
  t22 := Try.underlying35
  a22 := Try.isAgg35
  z22 := Try.sizeOf35
  v22 := Try.zeroValue35 }
def Ytflbidbnbfndgaa.laysIndex_ren : Go.Shelf.Ren := ⟨fun | 6 => 52 | n => n, fun | 22 => 35 | 24 => 40 | 3 => 3 | 0 => 0 | 4 => 4 | n => n, fun | n => n⟩
theorem Ytflbidbnbfndgaa.laysIndex : Go.Proofs.SlLaysQ.n6 Try.prog Ytflbidbnbfndgaa.laysIndex_ren := {
  mixed := by kernel_rfl
  f6 := ⟨Try.f52.name, by decide, Try.func52.trans (congrArg some (by kernel_rfl))⟩
  t0 := Try.underlying0
  a0 := Try.isAgg0
  z0 := Try.sizeOf0
  v0 := Try.zeroValue0
  t3 := Try.underlying3
  a3 := Try.isAgg3
  z3 := Try.sizeOf3
  v3 := Try.zeroValue3
  t4 := Try.underlying4
  a4 := Try.isAgg4
  z4 := Try.sizeOf4
  v4 := Try.zeroValue4
  t22 := Try.underlying35
  a22 := Try.isAgg35
  z22 := Try.sizeOf35
  v22 := Try.zeroValue35 }
def Ytflbidbnbfndgaa.laysContainsFunc_ren : Go.Shelf.Ren := ⟨fun | 8 => 60 | 6 => 73 | n => n, fun | 22 => 35 | 23 => 40 | 25 => 107 | 4 => 4 | 3 => 3 | 0 => 0 | n => n, fun | n => n⟩
theorem Ytflbidbnbfndgaa.laysContainsFunc : Go.Proofs.SlLaysH0.n8 Try.prog Ytflbidbnbfndgaa.laysContainsFunc_ren := {
  mixed := by kernel_rfl
  f6 := ⟨Try.f73.name, by decide, Try.func73.trans (congrArg some (by kernel_rfl))⟩
  f8 := ⟨Try.f60.name, by decide, Try.func60.trans (congrArg some (by kernel_rfl))⟩
  t0 := Try.underlying0
  a0 := Try.isAgg0
  z0 := Try.sizeOf0
  v0 := Try.zeroValue0
  t3 := Try.underlying3
  a3 := Try.isAgg3
  z3 := Try.sizeOf3
  v3 := Try.zeroValue3
  t4 := Try.underlying4
  a4 := Try.isAgg4
  z4 := Try.sizeOf4
  v4 := Try.zeroValue4
  t22 := Try.underlying35
  a22 := Try.isAgg35
  z22 := Try.sizeOf35
  v22 := Try.zeroValue35
  t25 := Try.underlying107
  a25 := Try.isAgg107
  z25 := Try.sizeOf107
  v25 := Try.zeroValue107 }
def Ytflbidbnbfndgaa.laysClone_ren : Go.Shelf.Ren := ⟨fun | 41 => 50 | n => n, fun | 22 => 35 | 23 => 40 | 4 => 4 | n => n, fun | n => n⟩
theorem Ytflbidbnbfndgaa.laysClone : Go.Proofs.SlLaysE0.n41 Try.prog Ytflbidbnbfndgaa.laysClone_ren := {
  mixed := by kernel_rfl
  f41 := ⟨Try.f50.name, by decide, Try.func50.trans (congrArg some (by kernel_rfl))⟩
  t4 := Try.underlying4
  a4 := Try.isAgg4
  z4 := Try.sizeOf4
  v4 := Try.zeroValue4
  t22 := Try.underlying35
  a22 := Try.isAgg35
  z22 := Try.sizeOf35
  v22 := Try.zeroValue35 }
end Go.Proofs

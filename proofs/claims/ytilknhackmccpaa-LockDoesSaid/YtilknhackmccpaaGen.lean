/-
  DERIVED: THE SHELF's CONTRACTS AT THIS DUMP, IN PLAIN WORDS (tools/lay-plain.mjs out of 'TryGen.lean', which tools/lay-shelf.mjs wrote): THE SAME DECLARATIONS UNDER THE SAME NAMES: 'import', 'namespace', 'open', 'def', 'theorem' AND NOTHING ELSE: no command of the shelf's: FOR A HAND-IN. Each laying: the table of numbers ('.._ren') and one theorem, a field a fact of the dump's own or the kernel's comparison; each contract: ONE APPLICATION.
-/
import Derived.Shelf.SlicesE.Index
import Derived.Shelf.SlicesE.Compact
import Derived.Shelf.SlicesE.Clone
import Derived.Shelf.SlicesQ.IndexFunc
import Derived.Test.YtilknhackmccpaaProg
namespace Go.Proofs
open Go.Shelf
def Try.cont_ren : Go.Shelf.Ren := ⟨fun | 31 => 37 | 29 => 61 | n => n, fun | 22 => 24 | 23 => 23 | 4 => 4 | 3 => 3 | 0 => 0 | n => n, fun | n => n⟩
theorem Try.cont : Go.Proofs.SlLaysE.n31 Try.prog Try.cont_ren := {
  mixed := by kernel_rfl
  f29 := ⟨Try.f61.name, by decide, Try.func61.trans (congrArg some (by kernel_rfl))⟩
  f31 := ⟨Try.f37.name, by decide, Try.func37.trans (congrArg some (by kernel_rfl))⟩
  t0 := Try.underlying0
  a0 := Try.isAgg0
  z0 := Try.sizeOf0
  v0 := Try.zeroValue0
  t3 := Try.underlying3
  a3 := Try.isAgg3
  z3 := Try.sizeOf3
  v3 := Try.zeroValue3
  t4 := Try.underlying4
  a4 := Try.isAgg4
  z4 := Try.sizeOf4
  v4 := Try.zeroValue4
  t22 := Try.underlying24
  a22 := Try.isAgg24
  z22 := Try.sizeOf24
  v22 := Try.zeroValue24
  a23 := Try.isAgg23
  z23 := Try.sizeOf23 }
def Try.cmpt_ren : Go.Shelf.Ren := ⟨fun | 43 => 60 | n => n, fun | 22 => 24 | 23 => 23 | 3 => 3 | 4 => 4 | 0 => 0 | n => n, fun | n => n⟩
theorem Try.cmpt : Go.Proofs.SlLaysE.n43 Try.prog Try.cmpt_ren := {
  mixed := by kernel_rfl
  f43 := ⟨Try.f60.name, by decide, Try.func60.trans (congrArg some (by kernel_rfl))⟩
  t0 := Try.underlying0
  a0 := Try.isAgg0
  z0 := Try.sizeOf0
  v0 := Try.zeroValue0
  t3 := Try.underlying3
  a3 := Try.isAgg3
  z3 := Try.sizeOf3
  v3 := Try.zeroValue3
  t4 := Try.underlying4
  a4 := Try.isAgg4
  z4 := Try.sizeOf4
  v4 := Try.zeroValue4
  t22 := Try.underlying24
  a22 := Try.isAgg24
  z22 := Try.sizeOf24
  v22 := Try.zeroValue24
  a23 := Try.isAgg23
  z23 := Try.sizeOf23 }
def Try.idxW_ren : Go.Shelf.Ren := ⟨fun | 6 => 62 | n => n, fun | 22 => 78 | 23 => 77 | 25 => 82 | 3 => 3 | 0 => 0 | 4 => 4 | n => n, fun | n => n⟩
theorem Try.idxW : Go.Proofs.SlLaysH0.n6 Try.prog Try.idxW_ren := {
  mixed := by kernel_rfl
  f6 := ⟨Try.f62.name, by decide, Try.func62.trans (congrArg some (by kernel_rfl))⟩
  t0 := Try.underlying0
  a0 := Try.isAgg0
  z0 := Try.sizeOf0
  v0 := Try.zeroValue0
  t3 := Try.underlying3
  a3 := Try.isAgg3
  z3 := Try.sizeOf3
  v3 := Try.zeroValue3
  t4 := Try.underlying4
  a4 := Try.isAgg4
  z4 := Try.sizeOf4
  v4 := Try.zeroValue4
  t22 := Try.underlying78
  a22 := Try.isAgg78
  z22 := Try.sizeOf78
  v22 := Try.zeroValue78
  t25 := Try.underlying82
  a25 := Try.isAgg82
  z25 := Try.sizeOf82
  v25 := Try.zeroValue82 }
def Try.hasW_ren : Go.Shelf.Ren := ⟨fun | 8 => 64 | 6 => 62 | n => n, fun | 22 => 78 | 23 => 77 | 25 => 82 | 4 => 4 | 3 => 3 | 0 => 0 | n => n, fun | n => n⟩
theorem Try.hasW : Go.Proofs.SlLaysH0.n8 Try.prog Try.hasW_ren := {
  mixed := by kernel_rfl
  f6 := ⟨Try.f62.name, by decide, Try.func62.trans (congrArg some (by kernel_rfl))⟩
  f8 := ⟨Try.f64.name, by decide, Try.func64.trans (congrArg some (by kernel_rfl))⟩
  t0 := Try.underlying0
  a0 := Try.isAgg0
  z0 := Try.sizeOf0
  v0 := Try.zeroValue0
  t3 := Try.underlying3
  a3 := Try.isAgg3
  z3 := Try.sizeOf3
  v3 := Try.zeroValue3
  t4 := Try.underlying4
  a4 := Try.isAgg4
  z4 := Try.sizeOf4
  v4 := Try.zeroValue4
  t22 := Try.underlying78
  a22 := Try.isAgg78
  z22 := Try.sizeOf78
  v22 := Try.zeroValue78
  t25 := Try.underlying82
  a25 := Try.isAgg82
  z25 := Try.sizeOf82
  v25 := Try.zeroValue82 }
def Try.cloneW_ren : Go.Shelf.Ren := ⟨fun | 41 => 68 | n => n, fun | 22 => 78 | 23 => 77 | 4 => 4 | n => n, fun | n => n⟩
theorem Try.cloneW : Go.Proofs.SlLaysE0.n41 Try.prog Try.cloneW_ren := {
  mixed := by kernel_rfl
  f41 := ⟨Try.f68.name, by decide, Try.func68.trans (congrArg some (by kernel_rfl))⟩
  t4 := Try.underlying4
  a4 := Try.isAgg4
  z4 := Try.sizeOf4
  v4 := Try.zeroValue4
  t22 := Try.underlying78
  a22 := Try.isAgg78
  z22 := Try.sizeOf78
  v22 := Try.zeroValue78 }
end Go.Proofs

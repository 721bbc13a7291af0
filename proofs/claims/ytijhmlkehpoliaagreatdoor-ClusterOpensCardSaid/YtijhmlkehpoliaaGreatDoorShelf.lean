/-
  DERIVED: THE SHELF's CONTRACTS AT THIS DUMP, IN PLAIN WORDS (tools/lay-plain.mjs out of 'YtijhmlkehpoliaaGreatDoorShTmp.lean', which tools/lay-shelf.mjs wrote): THE SAME DECLARATIONS UNDER THE SAME NAMES: 'import', 'namespace', 'open', 'def', 'theorem' AND NOTHING ELSE: no command of the shelf's: FOR A HAND-IN. Each laying: the table of numbers ('.._ren') and one theorem, a field a fact of the dump's own or the kernel's comparison; each contract: ONE APPLICATION.
-/
import Derived.Shelf.SlGeneric
import Derived.Shelf.SlIter.Nil
import Derived.Shelf.SortM.Plain
import Derived.Shelf.SortM.SortNone
import Derived.Ground.GgzProg
import Derived.Ground.SlgmProg
import Derived.Test.YtijhmlkehpoliaaGreatDoorProg
namespace Go.Proofs
open Go.Shelf
def Tryz.keysB_ren : Go.Shelf.Ren := ⟨fun | 7 => 100 | 10 => 143 | n => n, fun | 23 => 102 | 26 => 9 | 3 => 90 | 28 => 240 | 0 => 0 | 27 => 239 | 33 => 284 | 4 => 4 | n => n, fun | n => n⟩
theorem Tryz.keysB : Go.Proofs.SlLaysZ.n7 Tryz.prog Tryz.keysB_ren := {
  mixed := by kernel_rfl
  f7 := ⟨Tryz.f100.name, by decide, Tryz.func100.trans (congrArg some (by kernel_rfl))⟩
  f10 := ⟨Tryz.f143.name, by decide, Tryz.func143.trans (congrArg some (by kernel_rfl))⟩
  t0 := Tryz.underlying0
  a0 := Tryz.isAgg0
  z0 := Tryz.sizeOf0
  v0 := Tryz.zeroValue0
  t4 := Tryz.underlying4
  a4 := Tryz.isAgg4
  z4 := Tryz.sizeOf4
  v4 := Tryz.zeroValue4
  t23 := Tryz.underlying102
  a23 := Tryz.isAgg102
  z23 := Tryz.sizeOf102
  v23 := Tryz.zeroValue102
  t26 := Tryz.underlying9
  a26 := Tryz.isAgg9
  z26 := Tryz.sizeOf9
  v26 := Tryz.zeroValue9
  t27 := Tryz.underlying239
  a27 := Tryz.isAgg239
  z27 := Tryz.sizeOf239
  v27 := Tryz.zeroValue239
  t28 := Tryz.underlying240
  a28 := Tryz.isAgg240
  z28 := Tryz.sizeOf240
  v28 := Tryz.zeroValue240
  t33 := Tryz.underlying284
  a33 := Tryz.isAgg284
  z33 := Tryz.sizeOf284
  v33 := Tryz.zeroValue284 }
def Tryz.sortedS_ren : Go.Shelf.Ren := ⟨fun | 6 => 99 | 8 => 141 | 9 => 142 | 11 => 188 | 13 => 105 | 12 => 189 | 23 => 159 | 24 => 160 | 14 => 232 | 15 => 233 | 16 => 234 | 17 => 235 | 18 => 236 | 19 => 237 | 20 => 238 | 21 => 239 | 22 => 240 | 25 => 279 | 26 => 194 | 27 => 195 | 28 => 280 | 29 => 281 | 30 => 282 | 31 => 312 | n => n, fun | 26 => 9 | 28 => 240 | 24 => 202 | 0 => 0 | 3 => 3 | 37 => 106 | 48 => 213 | 50 => 66 | 4 => 4 | 40 => 294 | 39 => 293 | 45 => 174 | 5 => 5 | 9 => 9 | 51 => 343 | 55 => 346 | 57 => 397 | 58 => 398 | 33 => 284 | n => n, fun | n => n⟩
theorem Tryz.sortedS : Go.Proofs.SlLaysZ.n6 Tryz.prog Tryz.sortedS_ren := {
  mixed := by kernel_rfl
  f6 := ⟨Tryz.f99.name, by decide, Tryz.func99.trans (congrArg some (by kernel_rfl))⟩
  f8 := ⟨Tryz.f141.name, by decide, Tryz.func141.trans (congrArg some (by kernel_rfl))⟩
  f11 := ⟨Tryz.f188.name, by decide, Tryz.func188.trans (congrArg some (by kernel_rfl))⟩
  t0 := Tryz.underlying0
  a0 := Tryz.isAgg0
  z0 := Tryz.sizeOf0
  v0 := Tryz.zeroValue0
  t24 := Tryz.underlying202
  a24 := Tryz.isAgg202
  z24 := Tryz.sizeOf202
  v24 := Tryz.zeroValue202
  t26 := Tryz.underlying9
  a26 := Tryz.isAgg9
  z26 := Tryz.sizeOf9
  v26 := Tryz.zeroValue9
  t28 := Tryz.underlying240
  a28 := Tryz.isAgg240
  z28 := Tryz.sizeOf240
  v28 := Tryz.zeroValue240
  i26 := by kernel_rfl }
def Tryz.sortS_ren : Go.Shelf.Ren := ⟨fun | 6 => 142 | 8 => 105 | 9 => 189 | 19 => 159 | 20 => 160 | 21 => 232 | 22 => 233 | 23 => 234 | 24 => 235 | 25 => 236 | 26 => 237 | 27 => 238 | 28 => 239 | 29 => 240 | 36 => 279 | 31 => 194 | 32 => 195 | 37 => 280 | 38 => 281 | 39 => 282 | 41 => 312 | n => n, fun | 27 => 202 | 29 => 9 | 3 => 3 | 32 => 106 | 26 => 202 | 0 => 0 | 44 => 213 | 46 => 66 | 4 => 4 | 36 => 294 | 35 => 293 | 41 => 174 | 5 => 5 | 9 => 9 | 53 => 343 | 57 => 346 | 63 => 397 | 64 => 398 | n => n, fun | n => n⟩
theorem Tryz.sortS : Go.Proofs.SlLaysM.n6 Tryz.prog Tryz.sortS_ren := {
  mixed := by kernel_rfl
  f6 := ⟨Tryz.f142.name, by decide, Tryz.func142.trans (congrArg some (by kernel_rfl))⟩
  f8 := Tryz.func105.trans (congrArg some (by kernel_rfl))
  f9 := ⟨Tryz.f189.name, by decide, Tryz.func189.trans (congrArg some (by kernel_rfl))⟩
  f19 := Tryz.func159.trans (congrArg some (by kernel_rfl))
  f20 := Tryz.func160.trans (congrArg some (by kernel_rfl))
  f21 := ⟨Tryz.f232.name, by decide, Tryz.func232.trans (congrArg some (by kernel_rfl))⟩
  f22 := ⟨Tryz.f233.name, by decide, Tryz.func233.trans (congrArg some (by kernel_rfl))⟩
  f23 := ⟨Tryz.f234.name, by decide, Tryz.func234.trans (congrArg some (by kernel_rfl))⟩
  f24 := ⟨Tryz.f235.name, by decide, Tryz.func235.trans (congrArg some (by kernel_rfl))⟩
  f25 := ⟨Tryz.f236.name, by decide, Tryz.func236.trans (congrArg some (by kernel_rfl))⟩
  f26 := ⟨Tryz.f237.name, by decide, Tryz.func237.trans (congrArg some (by kernel_rfl))⟩
  f27 := ⟨Tryz.f238.name, by decide, Tryz.func238.trans (congrArg some (by kernel_rfl))⟩
  f28 := ⟨Tryz.f239.name, by decide, Tryz.func239.trans (congrArg some (by kernel_rfl))⟩
  f29 := ⟨Tryz.f240.name, by decide, Tryz.func240.trans (congrArg some (by kernel_rfl))⟩
  f31 := Tryz.func194.trans (congrArg some (by kernel_rfl))
  f32 := Tryz.func195.trans (congrArg some (by kernel_rfl))
  f36 := ⟨Tryz.f279.name, by decide, Tryz.func279.trans (congrArg some (by kernel_rfl))⟩
  f37 := ⟨Tryz.f280.name, by decide, Tryz.func280.trans (congrArg some (by kernel_rfl))⟩
  f38 := ⟨Tryz.f281.name, by decide, Tryz.func281.trans (congrArg some (by kernel_rfl))⟩
  f39 := ⟨Tryz.f282.name, by decide, Tryz.func282.trans (congrArg some (by kernel_rfl))⟩
  f41 := ⟨Tryz.f312.name, by decide, Tryz.func312.trans (congrArg some (by kernel_rfl))⟩
  t0 := Tryz.underlying0
  a0 := Tryz.isAgg0
  z0 := Tryz.sizeOf0
  v0 := Tryz.zeroValue0
  t3 := Tryz.underlying3
  a3 := Tryz.isAgg3
  z3 := Tryz.sizeOf3
  v3 := Tryz.zeroValue3
  t4 := Tryz.underlying4
  a4 := Tryz.isAgg4
  z4 := Tryz.sizeOf4
  v4 := Tryz.zeroValue4
  t5 := Tryz.underlying5
  a5 := Tryz.isAgg5
  z5 := Tryz.sizeOf5
  v5 := Tryz.zeroValue5
  t9 := Tryz.underlying9
  a9 := Tryz.isAgg9
  z9 := Tryz.sizeOf9
  v9 := Tryz.zeroValue9
  t26 := Tryz.underlying202
  a26 := Tryz.isAgg202
  z26 := Tryz.sizeOf202
  v26 := Tryz.zeroValue202
  t27 := Tryz.underlying202
  a27 := Tryz.isAgg202
  z27 := Tryz.sizeOf202
  v27 := Tryz.zeroValue202
  t29 := Tryz.underlying9
  a29 := Tryz.isAgg9
  z29 := Tryz.sizeOf9
  v29 := Tryz.zeroValue9
  t32 := Tryz.underlying106
  a32 := Tryz.isAgg106
  z32 := Tryz.sizeOf106
  v32 := Tryz.zeroValue106
  t35 := Tryz.underlying293
  a35 := Tryz.isAgg293
  z35 := Tryz.sizeOf293
  v35 := Tryz.zeroValue293
  t36 := Tryz.underlying294
  a36 := Tryz.isAgg294
  z36 := Tryz.sizeOf294
  v36 := Tryz.zeroValue294
  t41 := Tryz.underlying174
  a41 := Tryz.isAgg174
  z41 := Tryz.sizeOf174
  v41 := Tryz.zeroValue174
  t44 := Tryz.underlying213
  a44 := Tryz.isAgg213
  z44 := Tryz.sizeOf213
  v44 := Tryz.zeroValue213
  t46 := Tryz.underlying66
  a46 := Tryz.isAgg66
  z46 := Tryz.sizeOf66
  v46 := Tryz.zeroValue66
  t53 := Tryz.underlying343
  a53 := Tryz.isAgg343
  z53 := Tryz.sizeOf343
  v53 := Tryz.zeroValue343
  t57 := Tryz.underlying346
  a57 := Tryz.isAgg346
  z57 := Tryz.sizeOf346
  v57 := Tryz.zeroValue346
  t63 := Tryz.underlying397
  a63 := Tryz.isAgg397
  z63 := Tryz.sizeOf397
  v63 := Tryz.zeroValue397
  t64 := Tryz.underlying398
  a64 := Tryz.isAgg398
  z64 := Tryz.sizeOf398
  v64 := Tryz.zeroValue398 }
end Go.Proofs

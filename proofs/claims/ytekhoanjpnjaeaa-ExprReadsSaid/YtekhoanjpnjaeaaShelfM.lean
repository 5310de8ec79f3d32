/-
  DERIVED: THE SHELF's CONTRACTS AT THIS DUMP, IN PLAIN WORDS (tools/lay-plain.mjs out of 'TryShelfM.lean', which tools/lay-shelf.mjs wrote): THE SAME DECLARATIONS UNDER THE SAME NAMES: 'import', 'namespace', 'open', 'def', 'theorem' AND NOTHING ELSE: no command of the shelf's: FOR A HAND-IN. Each laying: the table of numbers ('.._ren') and one theorem, a field a fact of the dump's own or the kernel's comparison; each contract: ONE APPLICATION.
-/
import Derived.Shelf.SlGeneric
import Derived.Shelf.SlIter.Nil
import Derived.Shelf.SortM.Plain
import Derived.Shelf.SortM.SortNone
import Derived.Ground.GgzProg
import Derived.Ground.SlgmProg
import Derived.Test.YtekhoanjpnjaeaaProg
namespace Go.Proofs
open Go.Shelf
def Try.keys102_ren : Go.Shelf.Ren := ⟨fun | 7 => 102 | 10 => 132 | n => n, fun | 23 => 181 | 26 => 9 | 3 => 4 | 28 => 185 | 0 => 0 | 27 => 184 | 33 => 232 | 4 => 4 | n => n, fun | n => n⟩
theorem Try.keys102 : Go.Proofs.SlLaysZ.n7 Try.prog Try.keys102_ren := {
  mixed := by kernel_rfl
  f7 := ⟨Try.f102.name, by decide, Try.func102.trans (congrArg some (by kernel_rfl))⟩
  f10 := ⟨Try.f132.name, by decide, Try.func132.trans (congrArg some (by kernel_rfl))⟩
  t0 := Try.underlying0
  a0 := Try.isAgg0
  z0 := Try.sizeOf0
  v0 := Try.zeroValue0
  t4 := Try.underlying4
  a4 := Try.isAgg4
  z4 := Try.sizeOf4
  v4 := Try.zeroValue4
  t23 := Try.underlying181
  a23 := Try.isAgg181
  z23 := Try.sizeOf181
  v23 := Try.zeroValue181
  t26 := Try.underlying9
  a26 := Try.isAgg9
  z26 := Try.sizeOf9
  v26 := Try.zeroValue9
  t27 := Try.underlying184
  a27 := Try.isAgg184
  z27 := Try.sizeOf184
  v27 := Try.zeroValue184
  t28 := Try.underlying185
  a28 := Try.isAgg185
  z28 := Try.sizeOf185
  v28 := Try.zeroValue185
  t33 := Try.underlying232
  a33 := Try.isAgg232
  z33 := Try.sizeOf232
  v33 := Try.zeroValue232 }
def Try.sorted101_ren : Go.Shelf.Ren := ⟨fun | 6 => 101 | 8 => 130 | 9 => 131 | 11 => 137 | 13 => 139 | 12 => 138 | 23 => 152 | 24 => 153 | 14 => 143 | 15 => 144 | 16 => 145 | 17 => 146 | 18 => 147 | 19 => 148 | 20 => 149 | 21 => 150 | 22 => 151 | 25 => 159 | 26 => 160 | 27 => 161 | 28 => 162 | 29 => 163 | 30 => 164 | 31 => 165 | n => n, fun | 26 => 9 | 28 => 185 | 24 => 90 | 0 => 0 | 3 => 3 | 37 => 235 | 48 => 251 | 50 => 133 | 4 => 4 | 40 => 244 | 39 => 243 | 45 => 148 | 5 => 5 | 9 => 9 | 51 => 256 | 55 => 260 | 57 => 262 | 58 => 263 | 33 => 232 | n => n, fun | n => n⟩
theorem Try.sorted101 : Go.Proofs.SlLaysZ.n6 Try.prog Try.sorted101_ren := {
  mixed := by kernel_rfl
  f6 := ⟨Try.f101.name, by decide, Try.func101.trans (congrArg some (by kernel_rfl))⟩
  f8 := ⟨Try.f130.name, by decide, Try.func130.trans (congrArg some (by kernel_rfl))⟩
  f11 := ⟨Try.f137.name, by decide, Try.func137.trans (congrArg some (by kernel_rfl))⟩
  t0 := Try.underlying0
  a0 := Try.isAgg0
  z0 := Try.sizeOf0
  v0 := Try.zeroValue0
  t24 := Try.underlying90
  a24 := Try.isAgg90
  z24 := Try.sizeOf90
  v24 := Try.zeroValue90
  t26 := Try.underlying9
  a26 := Try.isAgg9
  z26 := Try.sizeOf9
  v26 := Try.zeroValue9
  t28 := Try.underlying185
  a28 := Try.isAgg185
  z28 := Try.sizeOf185
  v28 := Try.zeroValue185
  i26 := by kernel_rfl }
def Try.sort131_ren : Go.Shelf.Ren := ⟨fun | 6 => 131 | 8 => 139 | 9 => 138 | 19 => 152 | 20 => 153 | 21 => 143 | 22 => 144 | 23 => 145 | 24 => 146 | 25 => 147 | 26 => 148 | 27 => 149 | 28 => 150 | 29 => 151 | 36 => 159 | 31 => 160 | 32 => 161 | 37 => 162 | 38 => 163 | 39 => 164 | 41 => 165 | n => n, fun | 27 => 90 | 29 => 9 | 3 => 3 | 32 => 235 | 26 => 90 | 0 => 0 | 44 => 251 | 46 => 133 | 4 => 4 | 36 => 244 | 35 => 243 | 41 => 148 | 5 => 5 | 9 => 9 | 53 => 256 | 57 => 260 | 63 => 262 | 64 => 263 | n => n, fun | n => n⟩
theorem Try.sort131 : Go.Proofs.SlLaysM.n6 Try.prog Try.sort131_ren := {
  mixed := by kernel_rfl
  f6 := ⟨Try.f131.name, by decide, Try.func131.trans (congrArg some (by kernel_rfl))⟩
  f8 := Try.func139.trans (congrArg some (by kernel_rfl))
  f9 := ⟨Try.f138.name, by decide, Try.func138.trans (congrArg some (by kernel_rfl))⟩
  f19 := Try.func152.trans (congrArg some (by kernel_rfl))
  f20 := Try.func153.trans (congrArg some (by kernel_rfl))
  f21 := ⟨Try.f143.name, by decide, Try.func143.trans (congrArg some (by kernel_rfl))⟩
  f22 := ⟨Try.f144.name, by decide, Try.func144.trans (congrArg some (by kernel_rfl))⟩
  f23 := ⟨Try.f145.name, by decide, Try.func145.trans (congrArg some (by kernel_rfl))⟩
  f24 := ⟨Try.f146.name, by decide, Try.func146.trans (congrArg some (by kernel_rfl))⟩
  f25 := ⟨Try.f147.name, by decide, Try.func147.trans (congrArg some (by kernel_rfl))⟩
  f26 := ⟨Try.f148.name, by decide, Try.func148.trans (congrArg some (by kernel_rfl))⟩
  f27 := ⟨Try.f149.name, by decide, Try.func149.trans (congrArg some (by kernel_rfl))⟩
  f28 := ⟨Try.f150.name, by decide, Try.func150.trans (congrArg some (by kernel_rfl))⟩
  f29 := ⟨Try.f151.name, by decide, Try.func151.trans (congrArg some (by kernel_rfl))⟩
  f31 := Try.func160.trans (congrArg some (by kernel_rfl))
  f32 := Try.func161.trans (congrArg some (by kernel_rfl))
  f36 := ⟨Try.f159.name, by decide, Try.func159.trans (congrArg some (by kernel_rfl))⟩
  f37 := ⟨Try.f162.name, by decide, Try.func162.trans (congrArg some (by kernel_rfl))⟩
  f38 := ⟨Try.f163.name, by decide, Try.func163.trans (congrArg some (by kernel_rfl))⟩
  f39 := ⟨Try.f164.name, by decide, Try.func164.trans (congrArg some (by kernel_rfl))⟩
  f41 := ⟨Try.f165.name, by decide, Try.func165.trans (congrArg some (by kernel_rfl))⟩
  t0 := Try.underlying0
  a0 := Try.isAgg0
  z0 := Try.sizeOf0
  v0 := Try.zeroValue0
  t3 := Try.underlying3
  a3 := Try.isAgg3
  z3 := Try.sizeOf3
  v3 := Try.zeroValue3
  t4 := Try.underlying4
  a4 := Try.isAgg4
  z4 := Try.sizeOf4
  v4 := Try.zeroValue4
  t5 := Try.underlying5
  a5 := Try.isAgg5
  z5 := Try.sizeOf5
  v5 := Try.zeroValue5
  t9 := Try.underlying9
  a9 := Try.isAgg9
  z9 := Try.sizeOf9
  v9 := Try.zeroValue9
  t26 := Try.underlying90
  a26 := Try.isAgg90
  z26 := Try.sizeOf90
  v26 := Try.zeroValue90
  t27 := Try.underlying90
  a27 := Try.isAgg90
  z27 := Try.sizeOf90
  v27 := Try.zeroValue90
  t29 := Try.underlying9
  a29 := Try.isAgg9
  z29 := Try.sizeOf9
  v29 := Try.zeroValue9
  t32 := Try.underlying235
  a32 := Try.isAgg235
  z32 := Try.sizeOf235
  v32 := Try.zeroValue235
  t35 := Try.underlying243
  a35 := Try.isAgg243
  z35 := Try.sizeOf243
  v35 := Try.zeroValue243
  t36 := Try.underlying244
  a36 := Try.isAgg244
  z36 := Try.sizeOf244
  v36 := Try.zeroValue244
  t41 := Try.underlying148
  a41 := Try.isAgg148
  z41 := Try.sizeOf148
  v41 := Try.zeroValue148
  t44 := Try.underlying251
  a44 := Try.isAgg251
  z44 := Try.sizeOf251
  v44 := Try.zeroValue251
  t46 := Try.underlying133
  a46 := Try.isAgg133
  z46 := Try.sizeOf133
  v46 := Try.zeroValue133
  t53 := Try.underlying256
  a53 := Try.isAgg256
  z53 := Try.sizeOf256
  v53 := Try.zeroValue256
  t57 := Try.underlying260
  a57 := Try.isAgg260
  z57 := Try.sizeOf260
  v57 := Try.zeroValue260
  t63 := Try.underlying262
  a63 := Try.isAgg262
  z63 := Try.sizeOf262
  v63 := Try.zeroValue262
  t64 := Try.underlying263
  a64 := Try.isAgg263
  z64 := Try.sizeOf263
  v64 := Try.zeroValue263 }
end Go.Proofs

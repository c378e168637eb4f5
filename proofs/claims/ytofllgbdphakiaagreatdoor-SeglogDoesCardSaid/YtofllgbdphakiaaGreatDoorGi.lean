/- DERIVED: THE SHELF's CONTRACTS AT THIS DUMP, IN PLAIN WORDS (tools/lay-plain.mjs out of 'TryzShelf.lean', which tools/lay-shelf.mjs wrote): THE SAME DECLARATIONS UNDER THE SAME NAMES: 'import', 'namespace', 'open', 'def', 'theorem' AND NOTHING ELSE: no command of the shelf's: FOR A HAND-IN. Each laying: the table of numbers ('.._ren') and one theorem, a field a fact of the dump's own or the kernel's comparison; each contract: ONE APPLICATION. Sums put behind bytes, and taken off. No condition but sizes. Numbers of few bytes, walked. No condition but sizes. Frames, in plain words. No condition. Frames, walked. No condition but sizes. Records, in plain words. No condition. Records, walked. No condition but sizes. Names of files by letter and number, walked. Conditions: the table of the powers of ten is laid; a number is one of 64 bits. The document's numbers as bytes, walked. No condition but sizes. Names of files, by the document, walked. Conditions: numbers are of 64 bits. What a name is of, and numbers of names, walked. Conditions: the table of the powers of ten, and the two errors of numerals, are laid; sizes. The two errors of numerals, and the table of the powers of ten, as a row lays them; numbers that came in. No condition. A directory's names, sorted (slices.Sorted of maps.Keys); maps.Clone: by the kit's contracts. No condition but sizes. A disk's directory changed, its files changed: what the calls are made of. No condition but sizes. A disk's calls: change, named, Create, Delete, Rename, DirSync, Names, New. No condition but sizes. A disk's calls: Create, Delete, Rename, DirSync, Names, New. No condition but sizes. A disk's calls: Delete, Rename, DirSync, Names, New. No condition but sizes. A disk's calls: New, Read, Sync, Cut. No condition but sizes. A map ranged over: its iterator in memory, what a step does. No condition but sizes. -/
import Derived.Shelf.SlIter.Nil
import Derived.Shelf.SlMaps.Clone
import Derived.Shelf.Spec.SlicesGrow
import Derived.Shelf.Small.Bits
import Derived.Shelf.Small.Strs
import Derived.Shelf.Strconv.Itoa0
import Derived.Shelf.Strconv.Itoa1
import Derived.Shelf.LaysM
import Derived.Shelf.Strconv.Itoa2
import Derived.Shelf.Strconv.Itoa3
import Derived.Shelf.Pu.ParseUintPublic10
import Derived.Shelf.Pu.ErrVarParseUint
import Derived.Shelf.Strings.Search1
import Derived.Shelf.SortM.Plain
import Derived.Shelf.SortM.SortNone
import Derived.Test.YtofllgbdphakiaaGreatDoorProg
import Derived.Test.YtofllgbdphakiaaGreatDoorGh
import Derived.Test.YtofllgbdphakiaaGreatDoorMa
import Derived.Test.YtofllgbdphakiaaGreatDoorMb
import Derived.Lib.ItoaMem
import Derived.Stop.LaidErr
import Derived.OpenShut
import Derived.Lib.SmallJoins
set_option linter.unusedVariables false
set_option linter.unusedSimpArgs false
section
namespace Go.Proofs
open Go.Shelf
def Tryz.keysA_ren : Go.Shelf.Ren := ⟨fun | 7 => 39 | 10 => 74 | n => n, fun | 23 => 95 | 26 => 9 | 3 => 103 | 28 => 101 | 0 => 0 | 27 => 100 | 33 => 145 | 4 => 4 | n => n, fun | n => n⟩
theorem Tryz.keysA : Go.Proofs.SlLaysZ.n7 Tryz.prog Tryz.keysA_ren := {
  mixed := by kernel_rfl
  f7 := ⟨Tryz.f39.name, by decide, Tryz.func39.trans (congrArg some (by kernel_rfl))⟩
  f10 := ⟨Tryz.f74.name, by decide, Tryz.func74.trans (congrArg some (by kernel_rfl))⟩
  t0 := Tryz.underlying0
  a0 := Tryz.isAgg0
  z0 := Tryz.sizeOf0
  v0 := Tryz.zeroValue0
  t4 := Tryz.underlying4
  a4 := Tryz.isAgg4
  z4 := Tryz.sizeOf4
  v4 := Tryz.zeroValue4
  t23 := Tryz.underlying95
  a23 := Tryz.isAgg95
  z23 := Tryz.sizeOf95
  v23 := Tryz.zeroValue95
  t26 := Tryz.underlying9
  a26 := Tryz.isAgg9
  z26 := Tryz.sizeOf9
  v26 := Tryz.zeroValue9
  t27 := Tryz.underlying100
  a27 := Tryz.isAgg100
  z27 := Tryz.sizeOf100
  v27 := Tryz.zeroValue100
  t28 := Tryz.underlying101
  a28 := Tryz.isAgg101
  z28 := Tryz.sizeOf101
  v28 := Tryz.zeroValue101
  t33 := Tryz.underlying145
  a33 := Tryz.isAgg145
  z33 := Tryz.sizeOf145
  v33 := Tryz.zeroValue145 }
def Tryz.sortedA_ren : Go.Shelf.Ren := ⟨fun | 6 => 38 | 8 => 72 | 9 => 73 | 11 => 102 | 13 => 98 | 12 => 103 | 23 => 128 | 24 => 129 | 14 => 135 | 15 => 136 | 16 => 137 | 17 => 138 | 18 => 139 | 19 => 140 | 20 => 141 | 21 => 142 | 22 => 143 | 25 => 171 | 26 => 162 | 27 => 163 | 28 => 172 | 29 => 173 | 30 => 174 | 31 => 186 | n => n, fun | 26 => 9 | 28 => 101 | 24 => 68 | 0 => 0 | 3 => 3 | 37 => 165 | 48 => 184 | 50 => 22 | 4 => 4 | 40 => 192 | 39 => 191 | 45 => 197 | 5 => 5 | 9 => 9 | 51 => 228 | 55 => 232 | 57 => 248 | 58 => 249 | 33 => 145 | n => n, fun | n => n⟩
theorem Tryz.sortedA : Go.Proofs.SlLaysZ.n6 Tryz.prog Tryz.sortedA_ren := {
  mixed := by kernel_rfl
  f6 := ⟨Tryz.f38.name, by decide, Tryz.func38.trans (congrArg some (by kernel_rfl))⟩
  f8 := ⟨Tryz.f72.name, by decide, Tryz.func72.trans (congrArg some (by kernel_rfl))⟩
  f11 := ⟨Tryz.f102.name, by decide, Tryz.func102.trans (congrArg some (by kernel_rfl))⟩
  t0 := Tryz.underlying0
  a0 := Tryz.isAgg0
  z0 := Tryz.sizeOf0
  v0 := Tryz.zeroValue0
  t24 := Tryz.underlying68
  a24 := Tryz.isAgg68
  z24 := Tryz.sizeOf68
  v24 := Tryz.zeroValue68
  t26 := Tryz.underlying9
  a26 := Tryz.isAgg9
  z26 := Tryz.sizeOf9
  v26 := Tryz.zeroValue9
  t28 := Tryz.underlying101
  a28 := Tryz.isAgg101
  z28 := Tryz.sizeOf101
  v28 := Tryz.zeroValue101
  i26 := by kernel_rfl }
def Tryz.sortA_ren : Go.Shelf.Ren := ⟨fun | 6 => 73 | 8 => 98 | 9 => 103 | 19 => 128 | 20 => 129 | 21 => 135 | 22 => 136 | 23 => 137 | 24 => 138 | 25 => 139 | 26 => 140 | 27 => 141 | 28 => 142 | 29 => 143 | 36 => 171 | 31 => 162 | 32 => 163 | 37 => 172 | 38 => 173 | 39 => 174 | 41 => 186 | n => n, fun | 27 => 68 | 29 => 9 | 3 => 3 | 32 => 165 | 26 => 68 | 0 => 0 | 44 => 184 | 46 => 22 | 4 => 4 | 36 => 192 | 35 => 191 | 41 => 197 | 5 => 5 | 9 => 9 | 53 => 228 | 57 => 232 | 63 => 248 | 64 => 249 | n => n, fun | n => n⟩
theorem Tryz.sortA : Go.Proofs.SlLaysM.n6 Tryz.prog Tryz.sortA_ren := {
  mixed := by kernel_rfl
  f6 := ⟨Tryz.f73.name, by decide, Tryz.func73.trans (congrArg some (by kernel_rfl))⟩
  f8 := Tryz.func98.trans (congrArg some (by kernel_rfl))
  f9 := ⟨Tryz.f103.name, by decide, Tryz.func103.trans (congrArg some (by kernel_rfl))⟩
  f19 := Tryz.func128.trans (congrArg some (by kernel_rfl))
  f20 := Tryz.func129.trans (congrArg some (by kernel_rfl))
  f21 := ⟨Tryz.f135.name, by decide, Tryz.func135.trans (congrArg some (by kernel_rfl))⟩
  f22 := ⟨Tryz.f136.name, by decide, Tryz.func136.trans (congrArg some (by kernel_rfl))⟩
  f23 := ⟨Tryz.f137.name, by decide, Tryz.func137.trans (congrArg some (by kernel_rfl))⟩
  f24 := ⟨Tryz.f138.name, by decide, Tryz.func138.trans (congrArg some (by kernel_rfl))⟩
  f25 := ⟨Tryz.f139.name, by decide, Tryz.func139.trans (congrArg some (by kernel_rfl))⟩
  f26 := ⟨Tryz.f140.name, by decide, Tryz.func140.trans (congrArg some (by kernel_rfl))⟩
  f27 := ⟨Tryz.f141.name, by decide, Tryz.func141.trans (congrArg some (by kernel_rfl))⟩
  f28 := ⟨Tryz.f142.name, by decide, Tryz.func142.trans (congrArg some (by kernel_rfl))⟩
  f29 := ⟨Tryz.f143.name, by decide, Tryz.func143.trans (congrArg some (by kernel_rfl))⟩
  f31 := Tryz.func162.trans (congrArg some (by kernel_rfl))
  f32 := Tryz.func163.trans (congrArg some (by kernel_rfl))
  f36 := ⟨Tryz.f171.name, by decide, Tryz.func171.trans (congrArg some (by kernel_rfl))⟩
  f37 := ⟨Tryz.f172.name, by decide, Tryz.func172.trans (congrArg some (by kernel_rfl))⟩
  f38 := ⟨Tryz.f173.name, by decide, Tryz.func173.trans (congrArg some (by kernel_rfl))⟩
  f39 := ⟨Tryz.f174.name, by decide, Tryz.func174.trans (congrArg some (by kernel_rfl))⟩
  f41 := ⟨Tryz.f186.name, by decide, Tryz.func186.trans (congrArg some (by kernel_rfl))⟩
  t0 := Tryz.underlying0
  a0 := Tryz.isAgg0
  z0 := Tryz.sizeOf0
  v0 := Tryz.zeroValue0
  t3 := Tryz.underlying3
  a3 := Tryz.isAgg3
  z3 := Tryz.sizeOf3
  v3 := Tryz.zeroValue3
  t4 := Tryz.underlying4
  a4 := Tryz.isAgg4
  z4 := Tryz.sizeOf4
  v4 := Tryz.zeroValue4
  t5 := Tryz.underlying5
  a5 := Tryz.isAgg5
  z5 := Tryz.sizeOf5
  v5 := Tryz.zeroValue5
  t9 := Tryz.underlying9
  a9 := Tryz.isAgg9
  z9 := Tryz.sizeOf9
  v9 := Tryz.zeroValue9
  t26 := Tryz.underlying68
  a26 := Tryz.isAgg68
  z26 := Tryz.sizeOf68
  v26 := Tryz.zeroValue68
  t27 := Tryz.underlying68
  a27 := Tryz.isAgg68
  z27 := Tryz.sizeOf68
  v27 := Tryz.zeroValue68
  t29 := Tryz.underlying9
  a29 := Tryz.isAgg9
  z29 := Tryz.sizeOf9
  v29 := Tryz.zeroValue9
  t32 := Tryz.underlying165
  a32 := Tryz.isAgg165
  z32 := Tryz.sizeOf165
  v32 := Tryz.zeroValue165
  t35 := Tryz.underlying191
  a35 := Tryz.isAgg191
  z35 := Tryz.sizeOf191
  v35 := Tryz.zeroValue191
  t36 := Tryz.underlying192
  a36 := Tryz.isAgg192
  z36 := Tryz.sizeOf192
  v36 := Tryz.zeroValue192
  t41 := Tryz.underlying197
  a41 := Tryz.isAgg197
  z41 := Tryz.sizeOf197
  v41 := Tryz.zeroValue197
  t44 := Tryz.underlying184
  a44 := Tryz.isAgg184
  z44 := Tryz.sizeOf184
  v44 := Tryz.zeroValue184
  t46 := Tryz.underlying22
  a46 := Tryz.isAgg22
  z46 := Tryz.sizeOf22
  v46 := Tryz.zeroValue22
  t53 := Tryz.underlying228
  a53 := Tryz.isAgg228
  z53 := Tryz.sizeOf228
  v53 := Tryz.zeroValue228
  t57 := Tryz.underlying232
  a57 := Tryz.isAgg232
  z57 := Tryz.sizeOf232
  v57 := Tryz.zeroValue232
  t63 := Tryz.underlying248
  a63 := Tryz.isAgg248
  z63 := Tryz.sizeOf248
  v63 := Tryz.zeroValue248
  t64 := Tryz.underlying249
  a64 := Tryz.isAgg249
  z64 := Tryz.sizeOf249
  v64 := Tryz.zeroValue249 }
def Tryz.cloneA_ren : Go.Shelf.Ren := ⟨fun | 5 => 104 | 7 => 144 | n => n, fun | 23 => 95 | 25 => 9 | 3 => 103 | 4 => 4 | 20 => 20 | n => n, fun | n => n⟩
theorem Tryz.cloneA : Go.Proofs.SlLaysW.n5 Tryz.prog Tryz.cloneA_ren := {
  mixed := by kernel_rfl
  f5 := ⟨Tryz.f104.name, by decide, Tryz.func104.trans (congrArg some (by kernel_rfl))⟩
  f7 := Tryz.func144.trans (congrArg some (by kernel_rfl))
  t4 := Tryz.underlying4
  a4 := Tryz.isAgg4
  z4 := Tryz.sizeOf4
  v4 := Tryz.zeroValue4
  t20 := Tryz.underlying20
  a20 := Tryz.isAgg20
  z20 := Tryz.sizeOf20
  v20 := Tryz.zeroValue20
  t23 := Tryz.underlying95
  a23 := Tryz.isAgg95
  z23 := Tryz.sizeOf95
  v23 := Tryz.zeroValue95 }
def Tryz.growB_ren : Go.Shelf.Ren := ⟨fun | 4 => 153 | n => n, fun | 22 => 80 | 25 => 5 | 3 => 3 | 4 => 4 | 9 => 9 | 20 => 20 | 0 => 0 | n => n, fun | n => n⟩
theorem Tryz.growB : Go.Proofs.Lays8.n4 Tryz.prog Tryz.growB_ren := {
  mixed := by kernel_rfl
  f4 := ⟨Tryz.f153.name, by decide, Tryz.func153.trans (congrArg some (by kernel_rfl))⟩
  t0 := Tryz.underlying0
  a0 := Tryz.isAgg0
  z0 := Tryz.sizeOf0
  v0 := Tryz.zeroValue0
  t3 := Tryz.underlying3
  a3 := Tryz.isAgg3
  z3 := Tryz.sizeOf3
  v3 := Tryz.zeroValue3
  t4 := Tryz.underlying4
  a4 := Tryz.isAgg4
  z4 := Tryz.sizeOf4
  v4 := Tryz.zeroValue4
  t9 := Tryz.underlying9
  a9 := Tryz.isAgg9
  z9 := Tryz.sizeOf9
  v9 := Tryz.zeroValue9
  t20 := Tryz.underlying20
  a20 := Tryz.isAgg20
  z20 := Tryz.sizeOf20
  v20 := Tryz.zeroValue20
  t22 := Tryz.underlying80
  a22 := Tryz.isAgg80
  z22 := Tryz.sizeOf80
  v22 := Tryz.zeroValue80 }
def Tryz.pu_ren : Go.Shelf.Ren := ⟨fun | 14 => 96 | 16 => 117 | 17 => 118 | 19 => 155 | 20 => 156 | 21 => 157 | 22 => 158 | 23 => 159 | 24 => 160 | 25 => 180 | 27 => 182 | 26 => 181 | 28 => 191 | 29 => 193 | 30 => 131 | 31 => 132 | 32 => 133 | 33 => 134 | 35 => 129 | 34 => 167 | 36 => 168 | 37 => 169 | 38 => 170 | 39 => 184 | 40 => 185 | n => n, fun | 9 => 9 | 3 => 3 | 22 => 22 | 24 => 160 | 25 => 161 | 4 => 4 | 34 => 223 | 5 => 5 | 36 => 165 | 37 => 80 | 0 => 0 | 39 => 225 | 21 => 21 | 44 => 246 | 47 => 254 | 50 => 257 | 48 => 255 | 2 => 2 | 52 => 202 | 55 => 204 | 59 => 236 | 60 => 184 | 20 => 20 | 61 => 237 | 65 => 258 | 66 => 259 | 67 => 261 | n => n, fun | 0 => 2 | 1 => 3 | 2 => 1 | 3 => 4 | 4 => 5 | n => n⟩
theorem Tryz.pu : Go.Proofs.LaysPu.n14 Tryz.prog Tryz.pu_ren := {
  mixed := by kernel_rfl
  f14 := Tryz.func96.trans (congrArg some (by kernel_rfl))
  f16 := Tryz.func117.trans (congrArg some (by kernel_rfl))
  f17 := Tryz.func118.trans (congrArg some (by kernel_rfl))
  f19 := Tryz.func155.trans (congrArg some (by kernel_rfl))
  f20 := Tryz.func156.trans (congrArg some (by kernel_rfl))
  f21 := Tryz.func157.trans (congrArg some (by kernel_rfl))
  f22 := Tryz.func158.trans (congrArg some (by kernel_rfl))
  f23 := Tryz.func159.trans (congrArg some (by kernel_rfl))
  f24 := Tryz.func160.trans (congrArg some (by kernel_rfl))
  f25 := Tryz.func180.trans (congrArg some (by kernel_rfl))
  f26 := Tryz.func181.trans (congrArg some (by kernel_rfl))
  f27 := Tryz.func182.trans (congrArg some (by kernel_rfl))
  f28 := Tryz.func191.trans (congrArg some (by kernel_rfl))
  f29 := Tryz.func193.trans (congrArg some (by kernel_rfl))
  f30 := Tryz.func131.trans (congrArg some (by kernel_rfl))
  f31 := Tryz.func132.trans (congrArg some (by kernel_rfl))
  f32 := Tryz.func133.trans (congrArg some (by kernel_rfl))
  f33 := Tryz.func134.trans (congrArg some (by kernel_rfl))
  f34 := Tryz.func167.trans (congrArg some (by kernel_rfl))
  f35 := Tryz.func129.trans (congrArg some (by kernel_rfl))
  f36 := Tryz.func168.trans (congrArg some (by kernel_rfl))
  f37 := Tryz.func169.trans (congrArg some (by kernel_rfl))
  f38 := Tryz.func170.trans (congrArg some (by kernel_rfl))
  f39 := Tryz.func184.trans (congrArg some (by kernel_rfl))
  f40 := Tryz.func185.trans (congrArg some (by kernel_rfl))
  t0 := Tryz.underlying0
  a0 := Tryz.isAgg0
  z0 := Tryz.sizeOf0
  v0 := Tryz.zeroValue0
  i0 := by kernel_rfl
  t2 := Tryz.underlying2
  a2 := Tryz.isAgg2
  z2 := Tryz.sizeOf2
  v2 := Tryz.zeroValue2
  i2 := by kernel_rfl
  t3 := Tryz.underlying3
  a3 := Tryz.isAgg3
  z3 := Tryz.sizeOf3
  v3 := Tryz.zeroValue3
  i3 := by kernel_rfl
  t4 := Tryz.underlying4
  a4 := Tryz.isAgg4
  z4 := Tryz.sizeOf4
  v4 := Tryz.zeroValue4
  i4 := by kernel_rfl
  t5 := Tryz.underlying5
  a5 := Tryz.isAgg5
  z5 := Tryz.sizeOf5
  v5 := Tryz.zeroValue5
  i5 := by kernel_rfl
  t9 := Tryz.underlying9
  a9 := Tryz.isAgg9
  z9 := Tryz.sizeOf9
  v9 := Tryz.zeroValue9
  i9 := by kernel_rfl
  t20 := Tryz.underlying20
  a20 := Tryz.isAgg20
  z20 := Tryz.sizeOf20
  v20 := Tryz.zeroValue20
  i20 := by kernel_rfl
  t21 := Tryz.underlying21
  a21 := Tryz.isAgg21
  z21 := Tryz.sizeOf21
  v21 := Tryz.zeroValue21
  i21 := by kernel_rfl
  t22 := Tryz.underlying22
  a22 := Tryz.isAgg22
  z22 := Tryz.sizeOf22
  v22 := Tryz.zeroValue22
  i22 := by kernel_rfl
  t24 := Tryz.underlying160
  a24 := Tryz.isAgg160
  z24 := Tryz.sizeOf160
  v24 := Tryz.zeroValue160
  i24 := by kernel_rfl
  t25 := Tryz.underlying161
  a25 := Tryz.isAgg161
  z25 := Tryz.sizeOf161
  v25 := Tryz.zeroValue161
  i25 := by kernel_rfl
  t34 := Tryz.underlying223
  a34 := Tryz.isAgg223
  z34 := Tryz.sizeOf223
  v34 := Tryz.zeroValue223
  i34 := by kernel_rfl
  c34 := by kernel_rfl
  t36 := Tryz.underlying165
  a36 := Tryz.isAgg165
  z36 := Tryz.sizeOf165
  v36 := Tryz.zeroValue165
  i36 := by kernel_rfl
  t37 := Tryz.underlying80
  a37 := Tryz.isAgg80
  z37 := Tryz.sizeOf80
  v37 := Tryz.zeroValue80
  i37 := by kernel_rfl
  t39 := Tryz.underlying225
  a39 := Tryz.isAgg225
  z39 := Tryz.sizeOf225
  v39 := Tryz.zeroValue225
  i39 := by kernel_rfl
  t44 := Tryz.underlying246
  a44 := Tryz.isAgg246
  z44 := Tryz.sizeOf246
  v44 := Tryz.zeroValue246
  i44 := by kernel_rfl
  t47 := Tryz.underlying254
  a47 := Tryz.isAgg254
  z47 := Tryz.sizeOf254
  v47 := Tryz.zeroValue254
  i47 := by kernel_rfl
  t48 := Tryz.underlying255
  a48 := Tryz.isAgg255
  z48 := Tryz.sizeOf255
  v48 := Tryz.zeroValue255
  i48 := by kernel_rfl
  t50 := Tryz.underlying257
  a50 := Tryz.isAgg257
  z50 := Tryz.sizeOf257
  v50 := Tryz.zeroValue257
  i50 := by kernel_rfl
  t52 := Tryz.underlying202
  a52 := Tryz.isAgg202
  z52 := Tryz.sizeOf202
  v52 := Tryz.zeroValue202
  i52 := by kernel_rfl
  t55 := Tryz.underlying204
  a55 := Tryz.isAgg204
  z55 := Tryz.sizeOf204
  v55 := Tryz.zeroValue204
  i55 := by kernel_rfl
  t59 := Tryz.underlying236
  a59 := Tryz.isAgg236
  z59 := Tryz.sizeOf236
  v59 := Tryz.zeroValue236
  i59 := by kernel_rfl
  t60 := Tryz.underlying184
  a60 := Tryz.isAgg184
  z60 := Tryz.sizeOf184
  v60 := Tryz.zeroValue184
  i60 := by kernel_rfl
  t61 := Tryz.underlying237
  a61 := Tryz.isAgg237
  z61 := Tryz.sizeOf237
  t65 := Tryz.underlying258
  a65 := Tryz.isAgg258
  z65 := Tryz.sizeOf258
  v65 := Tryz.zeroValue258
  i65 := by kernel_rfl
  t66 := Tryz.underlying259
  a66 := Tryz.isAgg259
  z66 := Tryz.sizeOf259
  v66 := Tryz.zeroValue259
  i66 := by kernel_rfl
  t67 := Tryz.underlying261
  a67 := Tryz.isAgg261
  z67 := Tryz.sizeOf261
  v67 := Tryz.zeroValue261
  i67 := by kernel_rfl
  g0 := by kernel_rfl
  m0 := by kernel_rfl
  g1 := by kernel_rfl
  m1 := by kernel_rfl
  g2 := by kernel_rfl
  m2 := by kernel_rfl
  g3 := by kernel_rfl
  m3 := by kernel_rfl
  g4 := by kernel_rfl
  m4 := by kernel_rfl }
def Tryz.lays128_ren : Go.Shelf.Ren := ⟨fun | 128 => 128 | n => n, fun | 51 => 184 | 3 => 3 | 4 => 4 | 46 => 165 | 5 => 5 | 9 => 9 | n => n, fun | n => n⟩
theorem Tryz.lays128 : Go.Proofs.Lays.n128 Tryz.prog Tryz.lays128_ren := {
  mixed := by kernel_rfl
  f128 := Tryz.func128.trans (congrArg some (by kernel_rfl))
  t3 := Tryz.underlying3
  a3 := Tryz.isAgg3
  z3 := Tryz.sizeOf3
  v3 := Tryz.zeroValue3
  t4 := Tryz.underlying4
  a4 := Tryz.isAgg4
  z4 := Tryz.sizeOf4
  v4 := Tryz.zeroValue4
  t5 := Tryz.underlying5
  a5 := Tryz.isAgg5
  z5 := Tryz.sizeOf5
  v5 := Tryz.zeroValue5
  t9 := Tryz.underlying9
  a9 := Tryz.isAgg9
  z9 := Tryz.sizeOf9
  v9 := Tryz.zeroValue9
  t46 := Tryz.underlying165
  a46 := Tryz.isAgg165
  z46 := Tryz.sizeOf165
  v46 := Tryz.zeroValue165
  t51 := Tryz.underlying184
  a51 := Tryz.isAgg184
  z51 := Tryz.sizeOf184
  v51 := Tryz.zeroValue184 }
/-- bits.Len32: "Len32 returns the minimum number of bits required to represent x; the result is 0 for x == 0.": IT RETURNS 'Lib.bitLen x'; the world is as it was. ('h0', 'h1': x is a uint32.) (LAID: no walk: one application.) -/
theorem Tryz.bits_Len32 (x : Int) (w : World) (h0 : 0 ≤ x) (h1 : x ≤ 4294967295) :
    Calls Tryz.prog 128 #[.int .u32 x] w fun e w' => e = .returned (.int .i64 (Lib.bitLen x.toNat)) ∧ w' = w := Any.bits_Len32 Tryz.lays128 x w h0 h1
def Tryz.lays125_ren : Go.Shelf.Ren := ⟨fun | 125 => 98 | 128 => 128 | 129 => 129 | n => n, fun | 46 => 165 | 3 => 3 | 51 => 184 | 53 => 22 | 4 => 4 | 5 => 5 | 9 => 9 | n => n, fun | n => n⟩
theorem Tryz.lays125 : Go.Proofs.Lays.n125 Tryz.prog Tryz.lays125_ren := {
  mixed := by kernel_rfl
  f125 := Tryz.func98.trans (congrArg some (by kernel_rfl))
  f128 := Tryz.func128.trans (congrArg some (by kernel_rfl))
  f129 := Tryz.func129.trans (congrArg some (by kernel_rfl))
  t3 := Tryz.underlying3
  a3 := Tryz.isAgg3
  z3 := Tryz.sizeOf3
  v3 := Tryz.zeroValue3
  t4 := Tryz.underlying4
  a4 := Tryz.isAgg4
  z4 := Tryz.sizeOf4
  v4 := Tryz.zeroValue4
  t5 := Tryz.underlying5
  a5 := Tryz.isAgg5
  z5 := Tryz.sizeOf5
  v5 := Tryz.zeroValue5
  t9 := Tryz.underlying9
  a9 := Tryz.isAgg9
  z9 := Tryz.sizeOf9
  v9 := Tryz.zeroValue9
  t46 := Tryz.underlying165
  a46 := Tryz.isAgg165
  z46 := Tryz.sizeOf165
  v46 := Tryz.zeroValue165
  t51 := Tryz.underlying184
  a51 := Tryz.isAgg184
  z51 := Tryz.sizeOf184
  v51 := Tryz.zeroValue184
  t53 := Tryz.underlying22
  a53 := Tryz.isAgg22
  z53 := Tryz.sizeOf22
  v53 := Tryz.zeroValue22 }
/-- bits.Len: "Len returns the minimum number of bits required to represent x; the result is 0 for x == 0.": IT RETURNS 'Lib.bitLen x'; the world is as it was. (A uint has 64 bits in the model.) ITS CALLEE bits.Len64 IS MET BY ITS OWN CONTRACT OFF THE SHELF (lay that first). (LAID: no walk: one application.) -/
theorem Tryz.bits_Len (x : Int) (w : World) (h0 : 0 ≤ x) (h1 : x ≤ 18446744073709551615) :
    Calls Tryz.prog 98 #[.int .u64 x] w fun e w' => e = .returned (.int .i64 (Lib.bitLen x.toNat)) ∧ w' = w := Any.bits_Len Tryz.lays125 x w h0 h1
def Tryz.lays137_ren : Go.Shelf.Ren := ⟨fun | 137 => 68 | 217 => 100 | 266 => 130 | n => n, fun | 9 => 9 | 5 => 5 | 3 => 3 | n => n, fun | n => n⟩
theorem Tryz.lays137 : Go.Proofs.Lays.n137 Tryz.prog Tryz.lays137_ren := {
  mixed := by kernel_rfl
  f137 := Tryz.func68.trans (congrArg some (by kernel_rfl))
  f217 := Tryz.func100.trans (congrArg some (by kernel_rfl))
  f266 := Tryz.func130.trans (congrArg some (by kernel_rfl))
  t3 := Tryz.underlying3
  a3 := Tryz.isAgg3
  z3 := Tryz.sizeOf3
  v3 := Tryz.zeroValue3
  t5 := Tryz.underlying5
  a5 := Tryz.isAgg5
  z5 := Tryz.sizeOf5
  v5 := Tryz.zeroValue5
  t9 := Tryz.underlying9
  a9 := Tryz.isAgg9
  z9 := Tryz.sizeOf9
  v9 := Tryz.zeroValue9 }
open Go.RowKit in
/-- strings.IndexByte: "IndexByte returns the index of the first instance of c in s, or -1 if c is not present in s.": IT RETURNS 'Lib.indexByte s c'; the world is as it was. (LAID: no walk: one application.) -/
theorem Tryz.strings_IndexByte (s : ByteArray) (c : Int) (w : World) :
    Calls Tryz.prog 68 #[.string s, .int .u8 c] w fun e w' => e = .returned (.int .i64 (Lib.indexByte s.data.toList c.toNat.toUInt8)) ∧ w' = w := Any.strings_IndexByte Tryz.lays137 s c w
def Tryz.lays129_ren : Go.Shelf.Ren := ⟨fun | 129 => 129 | n => n, fun | 53 => 22 | 3 => 3 | 4 => 4 | 46 => 165 | 5 => 5 | 9 => 9 | n => n, fun | n => n⟩
theorem Tryz.lays129 : Go.Proofs.Lays.n129 Tryz.prog Tryz.lays129_ren := {
  mixed := by kernel_rfl
  f129 := Tryz.func129.trans (congrArg some (by kernel_rfl))
  t3 := Tryz.underlying3
  a3 := Tryz.isAgg3
  z3 := Tryz.sizeOf3
  v3 := Tryz.zeroValue3
  t4 := Tryz.underlying4
  a4 := Tryz.isAgg4
  z4 := Tryz.sizeOf4
  v4 := Tryz.zeroValue4
  t5 := Tryz.underlying5
  a5 := Tryz.isAgg5
  z5 := Tryz.sizeOf5
  v5 := Tryz.zeroValue5
  t9 := Tryz.underlying9
  a9 := Tryz.isAgg9
  z9 := Tryz.sizeOf9
  v9 := Tryz.zeroValue9
  t46 := Tryz.underlying165
  a46 := Tryz.isAgg165
  z46 := Tryz.sizeOf165
  v46 := Tryz.zeroValue165
  t53 := Tryz.underlying22
  a53 := Tryz.isAgg22
  z53 := Tryz.sizeOf22
  v53 := Tryz.zeroValue22 }
/-- bits.Len64: "Len64 returns the minimum number of bits required to represent x; the result is 0 for x == 0.": IT RETURNS 'Lib.bitLen x'; the world is as it was. ('h0', 'h1': x is a uint64.) (LAID: no walk: one application.) -/
theorem Tryz.bits_Len64 (x : Int) (w : World) (h0 : 0 ≤ x) (h1 : x ≤ 18446744073709551615) :
    Calls Tryz.prog 129 #[.int .u64 x] w fun e w' => e = .returned (.int .i64 (Lib.bitLen x.toNat)) ∧ w' = w := Any.bits_Len64 Tryz.lays129 x w h0 h1
def Tryz.lays317_ren : Go.Shelf.Ren := ⟨fun | 317 => 167 | n => n, fun | 3 => 3 | 46 => 165 | n => n, fun | n => n⟩
theorem Tryz.lays317 : Go.Proofs.Lays.n317 Tryz.prog Tryz.lays317_ren := {
  mixed := by kernel_rfl
  f317 := Tryz.func167.trans (congrArg some (by kernel_rfl))
  t3 := Tryz.underlying3
  a3 := Tryz.isAgg3
  z3 := Tryz.sizeOf3
  v3 := Tryz.zeroValue3
  t46 := Tryz.underlying165
  a46 := Tryz.isAgg165
  z46 := Tryz.sizeOf165
  v46 := Tryz.zeroValue165 }
open Go.Lib in
/-- internal/strconv.log10Pow2: "log10Pow2(x) returns ⌊log₁₀ 2**x⌋ = ⌊x * log₁₀ 2⌋.": '(x * 78913) >> 18', at an x up to 64 (a length in bits). The world is as it was. (LAID: no walk: one application.) -/
theorem Tryz.internal_strconv_log10Pow2 (x : Nat) (h : x ≤ 64) (w : World) :
    Calls Tryz.prog 167 #[.int .i64 x] w fun e w' => e = .returned (.int .i64 (Lib.l10 x)) ∧ w' = w := Any.internal_strconv_log10Pow2 Tryz.lays317 x h w
def Tryz.lays318_ren : Go.Shelf.Ren := ⟨fun | 318 => 168 | n => n, fun | 3 => 3 | 4 => 4 | n => n, fun | n => n⟩
theorem Tryz.lays318 : Go.Proofs.Lays.n318 Tryz.prog Tryz.lays318_ren := {
  mixed := by kernel_rfl
  f318 := Tryz.func168.trans (congrArg some (by kernel_rfl))
  t3 := Tryz.underlying3
  a3 := Tryz.isAgg3
  z3 := Tryz.sizeOf3
  v3 := Tryz.zeroValue3
  t4 := Tryz.underlying4
  a4 := Tryz.isAgg4
  z4 := Tryz.sizeOf4
  v4 := Tryz.zeroValue4 }
open Go.Lib in
/-- internal/strconv.bool2: "bool2 converts b to an integer: 1 for true, 0 for false." The world is as it was. (LAID: no walk: one application.) -/
theorem Tryz.internal_strconv_bool2_int (b : Bool) (w : World) :
    Calls Tryz.prog 168 #[.bool b] w fun e w' => e = .returned (.int .i64 (if b then 1 else 0)) ∧ w' = w := Any.internal_strconv_bool2_int Tryz.lays318 b w
def Tryz.lays283_ren : Go.Shelf.Ren := ⟨fun | 283 => 131 | n => n, fun | 3 => 3 | 9 => 9 | 4 => 4 | n => n, fun | n => n⟩
theorem Tryz.lays283 : Go.Proofs.Lays.n283 Tryz.prog Tryz.lays283_ren := {
  mixed := by kernel_rfl
  f283 := Tryz.func131.trans (congrArg some (by kernel_rfl))
  t3 := Tryz.underlying3
  a3 := Tryz.isAgg3
  z3 := Tryz.sizeOf3
  v3 := Tryz.zeroValue3
  t4 := Tryz.underlying4
  a4 := Tryz.isAgg4
  z4 := Tryz.sizeOf4
  v4 := Tryz.zeroValue4
  t9 := Tryz.underlying9
  a9 := Tryz.isAgg9
  z9 := Tryz.sizeOf9
  v9 := Tryz.zeroValue9 }
open Go.Lib in
/-- internal/strconv.small: "small returns the string for an i with 0 <= i < nSmalls.": i's decimal numeral. The world is as it was. (LAID: no walk: one application.) -/
theorem Tryz.internal_strconv_small (i : Nat) (h : i < 100) (w : World) :
    Calls Tryz.prog 131 #[.int .i64 i] w fun e w' => e = .returned (.string ⟨(Lib.decDigits i).toArray⟩) ∧ w' = w := Any.internal_strconv_small Tryz.lays283 i h w
def Tryz.laysM284_ren : Go.Shelf.Ren := ⟨fun | 284 => 132 | 129 => 129 | 317 => 167 | 318 => 168 | n => n, fun | 53 => 22 | 3 => 3 | 212 => 236 | 0 => 0 | 4 => 4 | 46 => 165 | 5 => 5 | 9 => 9 | n => n, fun | 17 => 1 | n => n⟩
theorem Tryz.laysM284 : Go.Proofs.LaysM.n284 Tryz.prog Tryz.laysM284_ren := {
  mixed := by kernel_rfl
  f129 := Tryz.func129.trans (congrArg some (by kernel_rfl))
  f284 := Tryz.func132.trans (congrArg some (by kernel_rfl))
  f317 := Tryz.func167.trans (congrArg some (by kernel_rfl))
  f318 := Tryz.func168.trans (congrArg some (by kernel_rfl))
  t0 := Tryz.underlying0
  a0 := Tryz.isAgg0
  z0 := Tryz.sizeOf0
  v0 := Tryz.zeroValue0
  t3 := Tryz.underlying3
  a3 := Tryz.isAgg3
  z3 := Tryz.sizeOf3
  v3 := Tryz.zeroValue3
  t4 := Tryz.underlying4
  a4 := Tryz.isAgg4
  z4 := Tryz.sizeOf4
  v4 := Tryz.zeroValue4
  t5 := Tryz.underlying5
  a5 := Tryz.isAgg5
  z5 := Tryz.sizeOf5
  v5 := Tryz.zeroValue5
  t9 := Tryz.underlying9
  a9 := Tryz.isAgg9
  z9 := Tryz.sizeOf9
  v9 := Tryz.zeroValue9
  t46 := Tryz.underlying165
  a46 := Tryz.isAgg165
  z46 := Tryz.sizeOf165
  v46 := Tryz.zeroValue165
  t53 := Tryz.underlying22
  a53 := Tryz.isAgg22
  z53 := Tryz.sizeOf22
  v53 := Tryz.zeroValue22
  t212 := Tryz.underlying236
  a212 := Tryz.isAgg236
  z212 := Tryz.sizeOf236
  v212 := Tryz.zeroValue236
  g17 := by kernel_rfl
  i0 := by kernel_rfl
  i3 := by kernel_rfl
  i4 := by kernel_rfl
  i5 := by kernel_rfl
  i9 := by kernel_rfl
  i46 := by kernel_rfl
  i53 := by kernel_rfl
  i212 := by kernel_rfl
  m17 := by kernel_rfl }
open Go.Lib in
/-- internal/strconv.numDigits, at a d that is not 0: THE NUMBER OF d's DECIMAL DIGITS. The world is as it was. (LAID: no walk: one application.) -/
theorem Tryz.internal_strconv_numDigits (u : Nat) (h1 : 1 ≤ u) (h2 : u < 18446744073709551616) (w : World) (htab : Lib.TabIs Tryz.prog w "internal/strconv.uint64pow10" .u64 Lib.pow10Tab) :
    Calls Tryz.prog 132 #[.int .u64 u] w fun e w' => e = .returned (.int .i64 (Lib.nDigits u)) ∧ w' = w := Any.internal_strconv_numDigits Tryz.laysM284 u h1 h2 w htab
def Tryz.lays285_ren : Go.Shelf.Ren := ⟨fun | 285 => 133 | n => n, fun | 37 => 80 | 53 => 22 | 3 => 3 | 4 => 4 | 51 => 184 | 9 => 9 | 5 => 5 | 0 => 0 | n => n, fun | n => n⟩
theorem Tryz.lays285 : Go.Proofs.Lays.n285 Tryz.prog Tryz.lays285_ren := {
  mixed := by kernel_rfl
  f285 := Tryz.func133.trans (congrArg some (by kernel_rfl))
  t0 := Tryz.underlying0
  a0 := Tryz.isAgg0
  z0 := Tryz.sizeOf0
  v0 := Tryz.zeroValue0
  t3 := Tryz.underlying3
  a3 := Tryz.isAgg3
  z3 := Tryz.sizeOf3
  v3 := Tryz.zeroValue3
  t4 := Tryz.underlying4
  a4 := Tryz.isAgg4
  z4 := Tryz.sizeOf4
  v4 := Tryz.zeroValue4
  t5 := Tryz.underlying5
  a5 := Tryz.isAgg5
  z5 := Tryz.sizeOf5
  v5 := Tryz.zeroValue5
  t9 := Tryz.underlying9
  a9 := Tryz.isAgg9
  z9 := Tryz.sizeOf9
  v9 := Tryz.zeroValue9
  t37 := Tryz.underlying80
  a37 := Tryz.isAgg80
  z37 := Tryz.sizeOf80
  v37 := Tryz.zeroValue80
  t51 := Tryz.underlying184
  a51 := Tryz.isAgg184
  z51 := Tryz.sizeOf184
  v51 := Tryz.zeroValue184
  t53 := Tryz.underlying22
  a53 := Tryz.isAgg22
  z53 := Tryz.sizeOf22
  v53 := Tryz.zeroValue22 }
open Go.RowKit Go.Sort Go.Lib in
/-- internal/strconv.formatBase10: "formatBase10 formats the decimal representation of u into a. The caller is responsible for ensuring that a is big enough to hold u. If a is too big, leading zeros will be filled in as needed.": THE ROW HOLDS u's DIGITS ('FmtInv .. 0 ..': every place t holds 'dg u (len - 1 - t)'); all else is as it was but for the count of draws. (LAID: no walk: one application.) -/
theorem Tryz.internal_strconv_formatBase10 (blk off cap : Nat) (u : Nat) (d : Array UInt8) (w : World) (hH : Holds (fun (b : UInt8) => Value.int .u8 (b.toNat : Int)) w blk off d) (hu : u < 10 ^ d.size) (hu64 : u < 18446744073709551616) (hsz : d.size < 4611686018427387904) :
    Calls Tryz.prog 133 #[.slice (some ⟨blk, off, none⟩) d.size cap, .int .u64 u] w fun e w' =>
      e = .returned (.tuple #[]) ∧ ∃ (n v' : Nat) (dk : Array UInt8), w' = (putRow (fun (b : UInt8) => Value.int .u8 (b.toNat : Int)) w blk off dk).drewN n ∧ FmtInv d.size u 0 v' dk := Any.internal_strconv_formatBase10 Tryz.lays285 blk off cap u d w hH hu hu64 hsz
def Tryz.laysM246_ren : Go.Shelf.Ren := ⟨fun | 246 => 193 | 283 => 131 | 284 => 132 | 285 => 133 | 286 => 134 | 129 => 129 | 317 => 167 | 318 => 168 | 319 => 169 | 320 => 170 | 337 => 184 | 338 => 185 | n => n, fun | 2 => 2 | 3 => 3 | 9 => 9 | 4 => 4 | 171 => 202 | 0 => 0 | 53 => 22 | 37 => 80 | 5 => 5 | 173 => 204 | 212 => 236 | 51 => 184 | 20 => 20 | 213 => 237 | 46 => 165 | 232 => 258 | 233 => 259 | n => n, fun | 17 => 1 | 18 => 4 | 19 => 5 | n => n⟩
theorem Tryz.laysM246 : Go.Proofs.LaysM.n246 Tryz.prog Tryz.laysM246_ren := {
  mixed := by kernel_rfl
  f129 := Tryz.func129.trans (congrArg some (by kernel_rfl))
  f246 := Tryz.func193.trans (congrArg some (by kernel_rfl))
  f283 := Tryz.func131.trans (congrArg some (by kernel_rfl))
  f284 := Tryz.func132.trans (congrArg some (by kernel_rfl))
  f285 := Tryz.func133.trans (congrArg some (by kernel_rfl))
  f286 := Tryz.func134.trans (congrArg some (by kernel_rfl))
  f317 := Tryz.func167.trans (congrArg some (by kernel_rfl))
  f318 := Tryz.func168.trans (congrArg some (by kernel_rfl))
  f319 := Tryz.func169.trans (congrArg some (by kernel_rfl))
  f320 := Tryz.func170.trans (congrArg some (by kernel_rfl))
  f337 := Tryz.func184.trans (congrArg some (by kernel_rfl))
  f338 := Tryz.func185.trans (congrArg some (by kernel_rfl))
  t0 := Tryz.underlying0
  a0 := Tryz.isAgg0
  z0 := Tryz.sizeOf0
  v0 := Tryz.zeroValue0
  t2 := Tryz.underlying2
  a2 := Tryz.isAgg2
  z2 := Tryz.sizeOf2
  v2 := Tryz.zeroValue2
  t3 := Tryz.underlying3
  a3 := Tryz.isAgg3
  z3 := Tryz.sizeOf3
  v3 := Tryz.zeroValue3
  t4 := Tryz.underlying4
  a4 := Tryz.isAgg4
  z4 := Tryz.sizeOf4
  v4 := Tryz.zeroValue4
  t5 := Tryz.underlying5
  a5 := Tryz.isAgg5
  z5 := Tryz.sizeOf5
  v5 := Tryz.zeroValue5
  t9 := Tryz.underlying9
  a9 := Tryz.isAgg9
  z9 := Tryz.sizeOf9
  v9 := Tryz.zeroValue9
  t20 := Tryz.underlying20
  a20 := Tryz.isAgg20
  z20 := Tryz.sizeOf20
  v20 := Tryz.zeroValue20
  t37 := Tryz.underlying80
  a37 := Tryz.isAgg80
  z37 := Tryz.sizeOf80
  v37 := Tryz.zeroValue80
  t46 := Tryz.underlying165
  a46 := Tryz.isAgg165
  z46 := Tryz.sizeOf165
  v46 := Tryz.zeroValue165
  t51 := Tryz.underlying184
  a51 := Tryz.isAgg184
  z51 := Tryz.sizeOf184
  v51 := Tryz.zeroValue184
  t53 := Tryz.underlying22
  a53 := Tryz.isAgg22
  z53 := Tryz.sizeOf22
  v53 := Tryz.zeroValue22
  t171 := Tryz.underlying202
  a171 := Tryz.isAgg202
  z171 := Tryz.sizeOf202
  v171 := Tryz.zeroValue202
  t173 := Tryz.underlying204
  a173 := Tryz.isAgg204
  z173 := Tryz.sizeOf204
  v173 := Tryz.zeroValue204
  t212 := Tryz.underlying236
  a212 := Tryz.isAgg236
  z212 := Tryz.sizeOf236
  v212 := Tryz.zeroValue236
  t213 := Tryz.underlying237
  a213 := Tryz.isAgg237
  z213 := Tryz.sizeOf237
  t232 := Tryz.underlying258
  a232 := Tryz.isAgg258
  z232 := Tryz.sizeOf258
  v232 := Tryz.zeroValue258
  t233 := Tryz.underlying259
  a233 := Tryz.isAgg259
  z233 := Tryz.sizeOf259
  v233 := Tryz.zeroValue259
  g17 := by kernel_rfl
  g18 := by kernel_rfl
  g19 := by kernel_rfl
  i0 := by kernel_rfl
  i2 := by kernel_rfl
  i3 := by kernel_rfl
  i4 := by kernel_rfl
  i5 := by kernel_rfl
  i9 := by kernel_rfl
  i20 := by kernel_rfl
  i37 := by kernel_rfl
  i46 := by kernel_rfl
  i51 := by kernel_rfl
  i53 := by kernel_rfl
  i171 := by kernel_rfl
  i173 := by kernel_rfl
  i212 := by kernel_rfl
  i232 := by kernel_rfl
  i233 := by kernel_rfl
  m17 := by kernel_rfl
  m18 := by kernel_rfl
  m19 := by kernel_rfl }
open Go.RowKit Go.Sort Go.Lib in
/-- internal/strconv.FormatInt: "FormatInt returns the string representation of i in the given base": AT BASE 10: i's decimal numeral, for every int64. The world behind the call: the world before it, new blocks behind the heap, draws. (LAID: no walk: one application.) -/
theorem Tryz.internal_strconv_FormatInt_10 (n : Int) (h0 : -9223372036854775808 ≤ n) (h1 : n ≤ 9223372036854775807) (w : World) (htab : Lib.TabIs Tryz.prog w "internal/strconv.uint64pow10" .u64 Lib.pow10Tab) :
    Calls Tryz.prog 193 #[.int .i64 n, .int .i64 10] w fun e w' => e = .returned (.string ⟨(Lib.itoa n).toArray⟩) ∧ ∃ k os, w' = grow (w.drewN k) os := Any.internal_strconv_FormatInt_10 Tryz.laysM246 n h0 h1 w htab
def Tryz.lays246_ren : Go.Shelf.Ren := ⟨fun | 246 => 193 | 283 => 131 | 284 => 132 | 285 => 133 | 286 => 134 | 129 => 129 | 317 => 167 | 318 => 168 | 319 => 169 | 320 => 170 | 337 => 184 | 338 => 185 | n => n, fun | 2 => 2 | 3 => 3 | 9 => 9 | 4 => 4 | 171 => 202 | 0 => 0 | 53 => 22 | 37 => 80 | 5 => 5 | 173 => 204 | 212 => 236 | 51 => 184 | 20 => 20 | 213 => 237 | 46 => 165 | 232 => 258 | 233 => 259 | n => n, fun | 17 => 1 | 18 => 4 | 19 => 5 | n => n⟩
theorem Tryz.lays246 : Go.Proofs.Lays.n246 Tryz.prog Tryz.lays246_ren := {
  mixed := by kernel_rfl
  f129 := Tryz.func129.trans (congrArg some (by kernel_rfl))
  f246 := Tryz.func193.trans (congrArg some (by kernel_rfl))
  f283 := Tryz.func131.trans (congrArg some (by kernel_rfl))
  f284 := Tryz.func132.trans (congrArg some (by kernel_rfl))
  f285 := Tryz.func133.trans (congrArg some (by kernel_rfl))
  f286 := Tryz.func134.trans (congrArg some (by kernel_rfl))
  f317 := Tryz.func167.trans (congrArg some (by kernel_rfl))
  f318 := Tryz.func168.trans (congrArg some (by kernel_rfl))
  f319 := Tryz.func169.trans (congrArg some (by kernel_rfl))
  f320 := Tryz.func170.trans (congrArg some (by kernel_rfl))
  f337 := Tryz.func184.trans (congrArg some (by kernel_rfl))
  f338 := Tryz.func185.trans (congrArg some (by kernel_rfl))
  t0 := Tryz.underlying0
  a0 := Tryz.isAgg0
  z0 := Tryz.sizeOf0
  v0 := Tryz.zeroValue0
  t2 := Tryz.underlying2
  a2 := Tryz.isAgg2
  z2 := Tryz.sizeOf2
  v2 := Tryz.zeroValue2
  t3 := Tryz.underlying3
  a3 := Tryz.isAgg3
  z3 := Tryz.sizeOf3
  v3 := Tryz.zeroValue3
  t4 := Tryz.underlying4
  a4 := Tryz.isAgg4
  z4 := Tryz.sizeOf4
  v4 := Tryz.zeroValue4
  t5 := Tryz.underlying5
  a5 := Tryz.isAgg5
  z5 := Tryz.sizeOf5
  v5 := Tryz.zeroValue5
  t9 := Tryz.underlying9
  a9 := Tryz.isAgg9
  z9 := Tryz.sizeOf9
  v9 := Tryz.zeroValue9
  t20 := Tryz.underlying20
  a20 := Tryz.isAgg20
  z20 := Tryz.sizeOf20
  v20 := Tryz.zeroValue20
  t37 := Tryz.underlying80
  a37 := Tryz.isAgg80
  z37 := Tryz.sizeOf80
  v37 := Tryz.zeroValue80
  t46 := Tryz.underlying165
  a46 := Tryz.isAgg165
  z46 := Tryz.sizeOf165
  v46 := Tryz.zeroValue165
  t51 := Tryz.underlying184
  a51 := Tryz.isAgg184
  z51 := Tryz.sizeOf184
  v51 := Tryz.zeroValue184
  t53 := Tryz.underlying22
  a53 := Tryz.isAgg22
  z53 := Tryz.sizeOf22
  v53 := Tryz.zeroValue22
  t171 := Tryz.underlying202
  a171 := Tryz.isAgg202
  z171 := Tryz.sizeOf202
  v171 := Tryz.zeroValue202
  t173 := Tryz.underlying204
  a173 := Tryz.isAgg204
  z173 := Tryz.sizeOf204
  v173 := Tryz.zeroValue204
  t212 := Tryz.underlying236
  a212 := Tryz.isAgg236
  z212 := Tryz.sizeOf236
  v212 := Tryz.zeroValue236
  t213 := Tryz.underlying237
  a213 := Tryz.isAgg237
  z213 := Tryz.sizeOf237
  t232 := Tryz.underlying258
  a232 := Tryz.isAgg258
  z232 := Tryz.sizeOf258
  v232 := Tryz.zeroValue258
  t233 := Tryz.underlying259
  a233 := Tryz.isAgg259
  z233 := Tryz.sizeOf259
  v233 := Tryz.zeroValue259
  g17 := by kernel_rfl
  g18 := by kernel_rfl
  g19 := by kernel_rfl }
open Go.RowKit Go.Sort Go.Lib in
/-- THE ROAD WITHOUT THE TABLE: 0 <= i < 100: two constants are read, nothing is laid: no premise on the world, and the world is as it was. (LAID: no walk: one application.) -/
theorem Tryz.internal_strconv_FormatInt_10_small (i : Nat) (hi : i < 100) (w : World) :
    Calls Tryz.prog 193 #[.int .i64 i, .int .i64 10] w fun e w' => e = .returned (.string ⟨(Lib.decDigits i).toArray⟩) ∧ w' = w := Any.internal_strconv_FormatInt_10_small Tryz.lays246 i hi w
def Tryz.laysM243_ren : Go.Shelf.Ren := ⟨fun | 243 => 191 | 246 => 193 | 283 => 131 | 284 => 132 | 285 => 133 | 286 => 134 | 129 => 129 | 317 => 167 | 318 => 168 | 319 => 169 | 320 => 170 | 337 => 184 | 338 => 185 | n => n, fun | 3 => 3 | 9 => 9 | 2 => 2 | 4 => 4 | 171 => 202 | 0 => 0 | 53 => 22 | 37 => 80 | 5 => 5 | 173 => 204 | 212 => 236 | 51 => 184 | 20 => 20 | 213 => 237 | 46 => 165 | 232 => 258 | 233 => 259 | n => n, fun | 17 => 1 | 18 => 4 | 19 => 5 | n => n⟩
theorem Tryz.laysM243 : Go.Proofs.LaysM.n243 Tryz.prog Tryz.laysM243_ren := {
  mixed := by kernel_rfl
  f129 := Tryz.func129.trans (congrArg some (by kernel_rfl))
  f243 := Tryz.func191.trans (congrArg some (by kernel_rfl))
  f246 := Tryz.func193.trans (congrArg some (by kernel_rfl))
  f283 := Tryz.func131.trans (congrArg some (by kernel_rfl))
  f284 := Tryz.func132.trans (congrArg some (by kernel_rfl))
  f285 := Tryz.func133.trans (congrArg some (by kernel_rfl))
  f286 := Tryz.func134.trans (congrArg some (by kernel_rfl))
  f317 := Tryz.func167.trans (congrArg some (by kernel_rfl))
  f318 := Tryz.func168.trans (congrArg some (by kernel_rfl))
  f319 := Tryz.func169.trans (congrArg some (by kernel_rfl))
  f320 := Tryz.func170.trans (congrArg some (by kernel_rfl))
  f337 := Tryz.func184.trans (congrArg some (by kernel_rfl))
  f338 := Tryz.func185.trans (congrArg some (by kernel_rfl))
  t0 := Tryz.underlying0
  a0 := Tryz.isAgg0
  z0 := Tryz.sizeOf0
  v0 := Tryz.zeroValue0
  t2 := Tryz.underlying2
  a2 := Tryz.isAgg2
  z2 := Tryz.sizeOf2
  v2 := Tryz.zeroValue2
  t3 := Tryz.underlying3
  a3 := Tryz.isAgg3
  z3 := Tryz.sizeOf3
  v3 := Tryz.zeroValue3
  t4 := Tryz.underlying4
  a4 := Tryz.isAgg4
  z4 := Tryz.sizeOf4
  v4 := Tryz.zeroValue4
  t5 := Tryz.underlying5
  a5 := Tryz.isAgg5
  z5 := Tryz.sizeOf5
  v5 := Tryz.zeroValue5
  t9 := Tryz.underlying9
  a9 := Tryz.isAgg9
  z9 := Tryz.sizeOf9
  v9 := Tryz.zeroValue9
  t20 := Tryz.underlying20
  a20 := Tryz.isAgg20
  z20 := Tryz.sizeOf20
  v20 := Tryz.zeroValue20
  t37 := Tryz.underlying80
  a37 := Tryz.isAgg80
  z37 := Tryz.sizeOf80
  v37 := Tryz.zeroValue80
  t46 := Tryz.underlying165
  a46 := Tryz.isAgg165
  z46 := Tryz.sizeOf165
  v46 := Tryz.zeroValue165
  t51 := Tryz.underlying184
  a51 := Tryz.isAgg184
  z51 := Tryz.sizeOf184
  v51 := Tryz.zeroValue184
  t53 := Tryz.underlying22
  a53 := Tryz.isAgg22
  z53 := Tryz.sizeOf22
  v53 := Tryz.zeroValue22
  t171 := Tryz.underlying202
  a171 := Tryz.isAgg202
  z171 := Tryz.sizeOf202
  v171 := Tryz.zeroValue202
  t173 := Tryz.underlying204
  a173 := Tryz.isAgg204
  z173 := Tryz.sizeOf204
  v173 := Tryz.zeroValue204
  t212 := Tryz.underlying236
  a212 := Tryz.isAgg236
  z212 := Tryz.sizeOf236
  v212 := Tryz.zeroValue236
  t213 := Tryz.underlying237
  a213 := Tryz.isAgg237
  z213 := Tryz.sizeOf237
  t232 := Tryz.underlying258
  a232 := Tryz.isAgg258
  z232 := Tryz.sizeOf258
  v232 := Tryz.zeroValue258
  t233 := Tryz.underlying259
  a233 := Tryz.isAgg259
  z233 := Tryz.sizeOf259
  v233 := Tryz.zeroValue259
  g17 := by kernel_rfl
  g18 := by kernel_rfl
  g19 := by kernel_rfl
  i0 := by kernel_rfl
  i2 := by kernel_rfl
  i3 := by kernel_rfl
  i4 := by kernel_rfl
  i5 := by kernel_rfl
  i9 := by kernel_rfl
  i20 := by kernel_rfl
  i37 := by kernel_rfl
  i46 := by kernel_rfl
  i51 := by kernel_rfl
  i53 := by kernel_rfl
  i171 := by kernel_rfl
  i173 := by kernel_rfl
  i212 := by kernel_rfl
  i232 := by kernel_rfl
  i233 := by kernel_rfl
  m17 := by kernel_rfl
  m18 := by kernel_rfl
  m19 := by kernel_rfl }
open Go.RowKit Go.Sort Go.Lib in
/-- internal/strconv.Itoa: "Itoa is equivalent to FormatInt(int64(i), 10).": i's decimal numeral, for every int. (LAID: no walk: one application.) -/
theorem Tryz.internal_strconv_Itoa (n : Int) (h0 : -9223372036854775808 ≤ n) (h1 : n ≤ 9223372036854775807) (w : World) (htab : Lib.TabIs Tryz.prog w "internal/strconv.uint64pow10" .u64 Lib.pow10Tab) :
    Calls Tryz.prog 191 #[.int .i64 n] w fun e w' => e = .returned (.string ⟨(Lib.itoa n).toArray⟩) ∧ ∃ k os, w' = grow (w.drewN k) os := Any.internal_strconv_Itoa Tryz.laysM243 n h0 h1 w htab
def Tryz.lays243_ren : Go.Shelf.Ren := ⟨fun | 243 => 191 | 246 => 193 | 283 => 131 | 284 => 132 | 285 => 133 | 286 => 134 | 129 => 129 | 317 => 167 | 318 => 168 | 319 => 169 | 320 => 170 | 337 => 184 | 338 => 185 | n => n, fun | 3 => 3 | 9 => 9 | 2 => 2 | 4 => 4 | 171 => 202 | 0 => 0 | 53 => 22 | 37 => 80 | 5 => 5 | 173 => 204 | 212 => 236 | 51 => 184 | 20 => 20 | 213 => 237 | 46 => 165 | 232 => 258 | 233 => 259 | n => n, fun | 17 => 1 | 18 => 4 | 19 => 5 | n => n⟩
theorem Tryz.lays243 : Go.Proofs.Lays.n243 Tryz.prog Tryz.lays243_ren := {
  mixed := by kernel_rfl
  f129 := Tryz.func129.trans (congrArg some (by kernel_rfl))
  f243 := Tryz.func191.trans (congrArg some (by kernel_rfl))
  f246 := Tryz.func193.trans (congrArg some (by kernel_rfl))
  f283 := Tryz.func131.trans (congrArg some (by kernel_rfl))
  f284 := Tryz.func132.trans (congrArg some (by kernel_rfl))
  f285 := Tryz.func133.trans (congrArg some (by kernel_rfl))
  f286 := Tryz.func134.trans (congrArg some (by kernel_rfl))
  f317 := Tryz.func167.trans (congrArg some (by kernel_rfl))
  f318 := Tryz.func168.trans (congrArg some (by kernel_rfl))
  f319 := Tryz.func169.trans (congrArg some (by kernel_rfl))
  f320 := Tryz.func170.trans (congrArg some (by kernel_rfl))
  f337 := Tryz.func184.trans (congrArg some (by kernel_rfl))
  f338 := Tryz.func185.trans (congrArg some (by kernel_rfl))
  t0 := Tryz.underlying0
  a0 := Tryz.isAgg0
  z0 := Tryz.sizeOf0
  v0 := Tryz.zeroValue0
  t2 := Tryz.underlying2
  a2 := Tryz.isAgg2
  z2 := Tryz.sizeOf2
  v2 := Tryz.zeroValue2
  t3 := Tryz.underlying3
  a3 := Tryz.isAgg3
  z3 := Tryz.sizeOf3
  v3 := Tryz.zeroValue3
  t4 := Tryz.underlying4
  a4 := Tryz.isAgg4
  z4 := Tryz.sizeOf4
  v4 := Tryz.zeroValue4
  t5 := Tryz.underlying5
  a5 := Tryz.isAgg5
  z5 := Tryz.sizeOf5
  v5 := Tryz.zeroValue5
  t9 := Tryz.underlying9
  a9 := Tryz.isAgg9
  z9 := Tryz.sizeOf9
  v9 := Tryz.zeroValue9
  t20 := Tryz.underlying20
  a20 := Tryz.isAgg20
  z20 := Tryz.sizeOf20
  v20 := Tryz.zeroValue20
  t37 := Tryz.underlying80
  a37 := Tryz.isAgg80
  z37 := Tryz.sizeOf80
  v37 := Tryz.zeroValue80
  t46 := Tryz.underlying165
  a46 := Tryz.isAgg165
  z46 := Tryz.sizeOf165
  v46 := Tryz.zeroValue165
  t51 := Tryz.underlying184
  a51 := Tryz.isAgg184
  z51 := Tryz.sizeOf184
  v51 := Tryz.zeroValue184
  t53 := Tryz.underlying22
  a53 := Tryz.isAgg22
  z53 := Tryz.sizeOf22
  v53 := Tryz.zeroValue22
  t171 := Tryz.underlying202
  a171 := Tryz.isAgg202
  z171 := Tryz.sizeOf202
  v171 := Tryz.zeroValue202
  t173 := Tryz.underlying204
  a173 := Tryz.isAgg204
  z173 := Tryz.sizeOf204
  v173 := Tryz.zeroValue204
  t212 := Tryz.underlying236
  a212 := Tryz.isAgg236
  z212 := Tryz.sizeOf236
  v212 := Tryz.zeroValue236
  t213 := Tryz.underlying237
  a213 := Tryz.isAgg237
  z213 := Tryz.sizeOf237
  t232 := Tryz.underlying258
  a232 := Tryz.isAgg258
  z232 := Tryz.sizeOf258
  v232 := Tryz.zeroValue258
  t233 := Tryz.underlying259
  a233 := Tryz.isAgg259
  z233 := Tryz.sizeOf259
  v233 := Tryz.zeroValue259
  g17 := by kernel_rfl
  g18 := by kernel_rfl
  g19 := by kernel_rfl }
open Go.RowKit Go.Sort Go.Lib in
/-- THE ROAD WITHOUT THE TABLE: 0 <= i < 100. (LAID: no walk: one application.) -/
theorem Tryz.internal_strconv_Itoa_small (i : Nat) (hi : i < 100) (w : World) :
    Calls Tryz.prog 191 #[.int .i64 i] w fun e w' => e = .returned (.string ⟨(Lib.decDigits i).toArray⟩) ∧ w' = w := Any.internal_strconv_Itoa_small Tryz.lays243 i hi w
def Tryz.laysM171_ren : Go.Shelf.Ren := ⟨fun | 171 => 182 | 243 => 191 | 246 => 193 | 283 => 131 | 284 => 132 | 285 => 133 | 286 => 134 | 129 => 129 | 317 => 167 | 318 => 168 | 319 => 169 | 320 => 170 | 337 => 184 | 338 => 185 | n => n, fun | 3 => 3 | 9 => 9 | 2 => 2 | 4 => 4 | 171 => 202 | 0 => 0 | 53 => 22 | 37 => 80 | 5 => 5 | 173 => 204 | 212 => 236 | 51 => 184 | 20 => 20 | 213 => 237 | 46 => 165 | 232 => 258 | 233 => 259 | n => n, fun | 17 => 1 | 18 => 4 | 19 => 5 | n => n⟩
theorem Tryz.laysM171 : Go.Proofs.LaysM.n171 Tryz.prog Tryz.laysM171_ren := {
  mixed := by kernel_rfl
  f129 := Tryz.func129.trans (congrArg some (by kernel_rfl))
  f171 := Tryz.func182.trans (congrArg some (by kernel_rfl))
  f243 := Tryz.func191.trans (congrArg some (by kernel_rfl))
  f246 := Tryz.func193.trans (congrArg some (by kernel_rfl))
  f283 := Tryz.func131.trans (congrArg some (by kernel_rfl))
  f284 := Tryz.func132.trans (congrArg some (by kernel_rfl))
  f285 := Tryz.func133.trans (congrArg some (by kernel_rfl))
  f286 := Tryz.func134.trans (congrArg some (by kernel_rfl))
  f317 := Tryz.func167.trans (congrArg some (by kernel_rfl))
  f318 := Tryz.func168.trans (congrArg some (by kernel_rfl))
  f319 := Tryz.func169.trans (congrArg some (by kernel_rfl))
  f320 := Tryz.func170.trans (congrArg some (by kernel_rfl))
  f337 := Tryz.func184.trans (congrArg some (by kernel_rfl))
  f338 := Tryz.func185.trans (congrArg some (by kernel_rfl))
  t0 := Tryz.underlying0
  a0 := Tryz.isAgg0
  z0 := Tryz.sizeOf0
  v0 := Tryz.zeroValue0
  t2 := Tryz.underlying2
  a2 := Tryz.isAgg2
  z2 := Tryz.sizeOf2
  v2 := Tryz.zeroValue2
  t3 := Tryz.underlying3
  a3 := Tryz.isAgg3
  z3 := Tryz.sizeOf3
  v3 := Tryz.zeroValue3
  t4 := Tryz.underlying4
  a4 := Tryz.isAgg4
  z4 := Tryz.sizeOf4
  v4 := Tryz.zeroValue4
  t5 := Tryz.underlying5
  a5 := Tryz.isAgg5
  z5 := Tryz.sizeOf5
  v5 := Tryz.zeroValue5
  t9 := Tryz.underlying9
  a9 := Tryz.isAgg9
  z9 := Tryz.sizeOf9
  v9 := Tryz.zeroValue9
  t20 := Tryz.underlying20
  a20 := Tryz.isAgg20
  z20 := Tryz.sizeOf20
  v20 := Tryz.zeroValue20
  t37 := Tryz.underlying80
  a37 := Tryz.isAgg80
  z37 := Tryz.sizeOf80
  v37 := Tryz.zeroValue80
  t46 := Tryz.underlying165
  a46 := Tryz.isAgg165
  z46 := Tryz.sizeOf165
  v46 := Tryz.zeroValue165
  t51 := Tryz.underlying184
  a51 := Tryz.isAgg184
  z51 := Tryz.sizeOf184
  v51 := Tryz.zeroValue184
  t53 := Tryz.underlying22
  a53 := Tryz.isAgg22
  z53 := Tryz.sizeOf22
  v53 := Tryz.zeroValue22
  t171 := Tryz.underlying202
  a171 := Tryz.isAgg202
  z171 := Tryz.sizeOf202
  v171 := Tryz.zeroValue202
  t173 := Tryz.underlying204
  a173 := Tryz.isAgg204
  z173 := Tryz.sizeOf204
  v173 := Tryz.zeroValue204
  t212 := Tryz.underlying236
  a212 := Tryz.isAgg236
  z212 := Tryz.sizeOf236
  v212 := Tryz.zeroValue236
  t213 := Tryz.underlying237
  a213 := Tryz.isAgg237
  z213 := Tryz.sizeOf237
  t232 := Tryz.underlying258
  a232 := Tryz.isAgg258
  z232 := Tryz.sizeOf258
  v232 := Tryz.zeroValue258
  t233 := Tryz.underlying259
  a233 := Tryz.isAgg259
  z233 := Tryz.sizeOf259
  v233 := Tryz.zeroValue259
  g17 := by kernel_rfl
  g18 := by kernel_rfl
  g19 := by kernel_rfl
  i0 := by kernel_rfl
  i2 := by kernel_rfl
  i3 := by kernel_rfl
  i4 := by kernel_rfl
  i5 := by kernel_rfl
  i9 := by kernel_rfl
  i20 := by kernel_rfl
  i37 := by kernel_rfl
  i46 := by kernel_rfl
  i51 := by kernel_rfl
  i53 := by kernel_rfl
  i171 := by kernel_rfl
  i173 := by kernel_rfl
  i212 := by kernel_rfl
  i232 := by kernel_rfl
  i233 := by kernel_rfl
  m17 := by kernel_rfl
  m18 := by kernel_rfl
  m19 := by kernel_rfl }
open Go.RowKit Go.Sort Go.Lib in
/-- strconv.Itoa: "Itoa is equivalent to FormatInt(int64(i), 10).": i's DECIMAL NUMERAL ('Lib.itoa': a '-' where i is negative, then the digits), FOR EVERY int. The world behind the call: the world before it, new blocks behind the heap (the library's 'var a [24]byte'), draws. (LAID: no walk: one application.) -/
theorem Tryz.strconv_Itoa (n : Int) (h0 : -9223372036854775808 ≤ n) (h1 : n ≤ 9223372036854775807) (w : World) (htab : Lib.TabIs Tryz.prog w "internal/strconv.uint64pow10" .u64 Lib.pow10Tab) :
    Calls Tryz.prog 182 #[.int .i64 n] w fun e w' => e = .returned (.string ⟨(Lib.itoa n).toArray⟩) ∧ ∃ k os, w' = grow (w.drewN k) os := Any.strconv_Itoa Tryz.laysM171 n h0 h1 w htab
def Tryz.lays171_ren : Go.Shelf.Ren := ⟨fun | 171 => 182 | 243 => 191 | 246 => 193 | 283 => 131 | 284 => 132 | 285 => 133 | 286 => 134 | 129 => 129 | 317 => 167 | 318 => 168 | 319 => 169 | 320 => 170 | 337 => 184 | 338 => 185 | n => n, fun | 3 => 3 | 9 => 9 | 2 => 2 | 4 => 4 | 171 => 202 | 0 => 0 | 53 => 22 | 37 => 80 | 5 => 5 | 173 => 204 | 212 => 236 | 51 => 184 | 20 => 20 | 213 => 237 | 46 => 165 | 232 => 258 | 233 => 259 | n => n, fun | 17 => 1 | 18 => 4 | 19 => 5 | n => n⟩
theorem Tryz.lays171 : Go.Proofs.Lays.n171 Tryz.prog Tryz.lays171_ren := {
  mixed := by kernel_rfl
  f129 := Tryz.func129.trans (congrArg some (by kernel_rfl))
  f171 := Tryz.func182.trans (congrArg some (by kernel_rfl))
  f243 := Tryz.func191.trans (congrArg some (by kernel_rfl))
  f246 := Tryz.func193.trans (congrArg some (by kernel_rfl))
  f283 := Tryz.func131.trans (congrArg some (by kernel_rfl))
  f284 := Tryz.func132.trans (congrArg some (by kernel_rfl))
  f285 := Tryz.func133.trans (congrArg some (by kernel_rfl))
  f286 := Tryz.func134.trans (congrArg some (by kernel_rfl))
  f317 := Tryz.func167.trans (congrArg some (by kernel_rfl))
  f318 := Tryz.func168.trans (congrArg some (by kernel_rfl))
  f319 := Tryz.func169.trans (congrArg some (by kernel_rfl))
  f320 := Tryz.func170.trans (congrArg some (by kernel_rfl))
  f337 := Tryz.func184.trans (congrArg some (by kernel_rfl))
  f338 := Tryz.func185.trans (congrArg some (by kernel_rfl))
  t0 := Tryz.underlying0
  a0 := Tryz.isAgg0
  z0 := Tryz.sizeOf0
  v0 := Tryz.zeroValue0
  t2 := Tryz.underlying2
  a2 := Tryz.isAgg2
  z2 := Tryz.sizeOf2
  v2 := Tryz.zeroValue2
  t3 := Tryz.underlying3
  a3 := Tryz.isAgg3
  z3 := Tryz.sizeOf3
  v3 := Tryz.zeroValue3
  t4 := Tryz.underlying4
  a4 := Tryz.isAgg4
  z4 := Tryz.sizeOf4
  v4 := Tryz.zeroValue4
  t5 := Tryz.underlying5
  a5 := Tryz.isAgg5
  z5 := Tryz.sizeOf5
  v5 := Tryz.zeroValue5
  t9 := Tryz.underlying9
  a9 := Tryz.isAgg9
  z9 := Tryz.sizeOf9
  v9 := Tryz.zeroValue9
  t20 := Tryz.underlying20
  a20 := Tryz.isAgg20
  z20 := Tryz.sizeOf20
  v20 := Tryz.zeroValue20
  t37 := Tryz.underlying80
  a37 := Tryz.isAgg80
  z37 := Tryz.sizeOf80
  v37 := Tryz.zeroValue80
  t46 := Tryz.underlying165
  a46 := Tryz.isAgg165
  z46 := Tryz.sizeOf165
  v46 := Tryz.zeroValue165
  t51 := Tryz.underlying184
  a51 := Tryz.isAgg184
  z51 := Tryz.sizeOf184
  v51 := Tryz.zeroValue184
  t53 := Tryz.underlying22
  a53 := Tryz.isAgg22
  z53 := Tryz.sizeOf22
  v53 := Tryz.zeroValue22
  t171 := Tryz.underlying202
  a171 := Tryz.isAgg202
  z171 := Tryz.sizeOf202
  v171 := Tryz.zeroValue202
  t173 := Tryz.underlying204
  a173 := Tryz.isAgg204
  z173 := Tryz.sizeOf204
  v173 := Tryz.zeroValue204
  t212 := Tryz.underlying236
  a212 := Tryz.isAgg236
  z212 := Tryz.sizeOf236
  v212 := Tryz.zeroValue236
  t213 := Tryz.underlying237
  a213 := Tryz.isAgg237
  z213 := Tryz.sizeOf237
  t232 := Tryz.underlying258
  a232 := Tryz.isAgg258
  z232 := Tryz.sizeOf258
  v232 := Tryz.zeroValue258
  t233 := Tryz.underlying259
  a233 := Tryz.isAgg259
  z233 := Tryz.sizeOf259
  v233 := Tryz.zeroValue259
  g17 := by kernel_rfl
  g18 := by kernel_rfl
  g19 := by kernel_rfl }
open Go.RowKit Go.Sort Go.Lib in
/-- THE ROAD WITHOUT THE TABLE: 0 <= i < 100: NO PREMISE ON THE WORLD, AND THE WORLD IS AS IT WAS: a row that keeps its argument in that range need list no table ('laid = []'). (LAID: no walk: one application.) -/
theorem Tryz.strconv_Itoa_small (i : Nat) (hi : i < 100) (w : World) :
    Calls Tryz.prog 182 #[.int .i64 i] w fun e w' => e = .returned (.string ⟨(Lib.decDigits i).toArray⟩) ∧ w' = w := Any.strconv_Itoa_small Tryz.lays171 i hi w
def Tryz.laysPu14_ren : Go.Shelf.Ren := ⟨fun | 14 => 96 | 16 => 117 | 17 => 118 | 19 => 155 | 20 => 156 | 21 => 157 | 22 => 158 | 23 => 159 | 24 => 160 | 25 => 180 | 27 => 182 | 26 => 181 | 28 => 191 | 29 => 193 | 30 => 131 | 31 => 132 | 32 => 133 | 33 => 134 | 35 => 129 | 34 => 167 | 36 => 168 | 37 => 169 | 38 => 170 | 39 => 184 | 40 => 185 | n => n, fun | 9 => 9 | 3 => 3 | 22 => 22 | 24 => 160 | 25 => 161 | 4 => 4 | 34 => 223 | 5 => 5 | 36 => 165 | 37 => 80 | 0 => 0 | 39 => 225 | 21 => 21 | 44 => 246 | 47 => 254 | 50 => 257 | 48 => 255 | 2 => 2 | 52 => 202 | 55 => 204 | 59 => 236 | 60 => 184 | 20 => 20 | 61 => 237 | 65 => 258 | 66 => 259 | 67 => 261 | n => n, fun | 0 => 2 | 1 => 3 | 2 => 1 | 3 => 4 | 4 => 5 | n => n⟩
theorem Tryz.laysPu14 : Go.Proofs.LaysPu.n14 Tryz.prog Tryz.laysPu14_ren := {
  mixed := by kernel_rfl
  f14 := Tryz.func96.trans (congrArg some (by kernel_rfl))
  f16 := Tryz.func117.trans (congrArg some (by kernel_rfl))
  f17 := Tryz.func118.trans (congrArg some (by kernel_rfl))
  f19 := Tryz.func155.trans (congrArg some (by kernel_rfl))
  f20 := Tryz.func156.trans (congrArg some (by kernel_rfl))
  f21 := Tryz.func157.trans (congrArg some (by kernel_rfl))
  f22 := Tryz.func158.trans (congrArg some (by kernel_rfl))
  f23 := Tryz.func159.trans (congrArg some (by kernel_rfl))
  f24 := Tryz.func160.trans (congrArg some (by kernel_rfl))
  f25 := Tryz.func180.trans (congrArg some (by kernel_rfl))
  f26 := Tryz.func181.trans (congrArg some (by kernel_rfl))
  f27 := Tryz.func182.trans (congrArg some (by kernel_rfl))
  f28 := Tryz.func191.trans (congrArg some (by kernel_rfl))
  f29 := Tryz.func193.trans (congrArg some (by kernel_rfl))
  f30 := Tryz.func131.trans (congrArg some (by kernel_rfl))
  f31 := Tryz.func132.trans (congrArg some (by kernel_rfl))
  f32 := Tryz.func133.trans (congrArg some (by kernel_rfl))
  f33 := Tryz.func134.trans (congrArg some (by kernel_rfl))
  f34 := Tryz.func167.trans (congrArg some (by kernel_rfl))
  f35 := Tryz.func129.trans (congrArg some (by kernel_rfl))
  f36 := Tryz.func168.trans (congrArg some (by kernel_rfl))
  f37 := Tryz.func169.trans (congrArg some (by kernel_rfl))
  f38 := Tryz.func170.trans (congrArg some (by kernel_rfl))
  f39 := Tryz.func184.trans (congrArg some (by kernel_rfl))
  f40 := Tryz.func185.trans (congrArg some (by kernel_rfl))
  t0 := Tryz.underlying0
  a0 := Tryz.isAgg0
  z0 := Tryz.sizeOf0
  v0 := Tryz.zeroValue0
  i0 := by kernel_rfl
  t2 := Tryz.underlying2
  a2 := Tryz.isAgg2
  z2 := Tryz.sizeOf2
  v2 := Tryz.zeroValue2
  i2 := by kernel_rfl
  t3 := Tryz.underlying3
  a3 := Tryz.isAgg3
  z3 := Tryz.sizeOf3
  v3 := Tryz.zeroValue3
  i3 := by kernel_rfl
  t4 := Tryz.underlying4
  a4 := Tryz.isAgg4
  z4 := Tryz.sizeOf4
  v4 := Tryz.zeroValue4
  i4 := by kernel_rfl
  t5 := Tryz.underlying5
  a5 := Tryz.isAgg5
  z5 := Tryz.sizeOf5
  v5 := Tryz.zeroValue5
  i5 := by kernel_rfl
  t9 := Tryz.underlying9
  a9 := Tryz.isAgg9
  z9 := Tryz.sizeOf9
  v9 := Tryz.zeroValue9
  i9 := by kernel_rfl
  t20 := Tryz.underlying20
  a20 := Tryz.isAgg20
  z20 := Tryz.sizeOf20
  v20 := Tryz.zeroValue20
  i20 := by kernel_rfl
  t21 := Tryz.underlying21
  a21 := Tryz.isAgg21
  z21 := Tryz.sizeOf21
  v21 := Tryz.zeroValue21
  i21 := by kernel_rfl
  t22 := Tryz.underlying22
  a22 := Tryz.isAgg22
  z22 := Tryz.sizeOf22
  v22 := Tryz.zeroValue22
  i22 := by kernel_rfl
  t24 := Tryz.underlying160
  a24 := Tryz.isAgg160
  z24 := Tryz.sizeOf160
  v24 := Tryz.zeroValue160
  i24 := by kernel_rfl
  t25 := Tryz.underlying161
  a25 := Tryz.isAgg161
  z25 := Tryz.sizeOf161
  v25 := Tryz.zeroValue161
  i25 := by kernel_rfl
  t34 := Tryz.underlying223
  a34 := Tryz.isAgg223
  z34 := Tryz.sizeOf223
  v34 := Tryz.zeroValue223
  i34 := by kernel_rfl
  c34 := by kernel_rfl
  t36 := Tryz.underlying165
  a36 := Tryz.isAgg165
  z36 := Tryz.sizeOf165
  v36 := Tryz.zeroValue165
  i36 := by kernel_rfl
  t37 := Tryz.underlying80
  a37 := Tryz.isAgg80
  z37 := Tryz.sizeOf80
  v37 := Tryz.zeroValue80
  i37 := by kernel_rfl
  t39 := Tryz.underlying225
  a39 := Tryz.isAgg225
  z39 := Tryz.sizeOf225
  v39 := Tryz.zeroValue225
  i39 := by kernel_rfl
  t44 := Tryz.underlying246
  a44 := Tryz.isAgg246
  z44 := Tryz.sizeOf246
  v44 := Tryz.zeroValue246
  i44 := by kernel_rfl
  t47 := Tryz.underlying254
  a47 := Tryz.isAgg254
  z47 := Tryz.sizeOf254
  v47 := Tryz.zeroValue254
  i47 := by kernel_rfl
  t48 := Tryz.underlying255
  a48 := Tryz.isAgg255
  z48 := Tryz.sizeOf255
  v48 := Tryz.zeroValue255
  i48 := by kernel_rfl
  t50 := Tryz.underlying257
  a50 := Tryz.isAgg257
  z50 := Tryz.sizeOf257
  v50 := Tryz.zeroValue257
  i50 := by kernel_rfl
  t52 := Tryz.underlying202
  a52 := Tryz.isAgg202
  z52 := Tryz.sizeOf202
  v52 := Tryz.zeroValue202
  i52 := by kernel_rfl
  t55 := Tryz.underlying204
  a55 := Tryz.isAgg204
  z55 := Tryz.sizeOf204
  v55 := Tryz.zeroValue204
  i55 := by kernel_rfl
  t59 := Tryz.underlying236
  a59 := Tryz.isAgg236
  z59 := Tryz.sizeOf236
  v59 := Tryz.zeroValue236
  i59 := by kernel_rfl
  t60 := Tryz.underlying184
  a60 := Tryz.isAgg184
  z60 := Tryz.sizeOf184
  v60 := Tryz.zeroValue184
  i60 := by kernel_rfl
  t61 := Tryz.underlying237
  a61 := Tryz.isAgg237
  z61 := Tryz.sizeOf237
  t65 := Tryz.underlying258
  a65 := Tryz.isAgg258
  z65 := Tryz.sizeOf258
  v65 := Tryz.zeroValue258
  i65 := by kernel_rfl
  t66 := Tryz.underlying259
  a66 := Tryz.isAgg259
  z66 := Tryz.sizeOf259
  v66 := Tryz.zeroValue259
  i66 := by kernel_rfl
  t67 := Tryz.underlying261
  a67 := Tryz.isAgg261
  z67 := Tryz.sizeOf261
  v67 := Tryz.zeroValue261
  i67 := by kernel_rfl
  g0 := by kernel_rfl
  m0 := by kernel_rfl
  g1 := by kernel_rfl
  m1 := by kernel_rfl
  g2 := by kernel_rfl
  m2 := by kernel_rfl
  g3 := by kernel_rfl
  m3 := by kernel_rfl
  g4 := by kernel_rfl
  m4 := by kernel_rfl }
open Go.RowKit in
/-- strconv.ParseUint(s, 10, 0), AT EVERY STRING THAT SPELLS A uint64 ('Lib.parseUintB 64 s.data.toList = .ok u'): u, AND NO ERROR. (LAID: no walk: one application.) -/
theorem Tryz.strconv_ParseUint_10_at0_ok (s : ByteArray) (hmax : s.size ≤ 9223372036854775806) (u : Nat) (h : Lib.parseUintB 64 s.data.toList = .ok u) (w : World) :
    Calls Tryz.prog 96 #[.string s, .int .i64 10, .int .i64 0] w fun e w' => e = .returned (.tuple #[.int .u64 u, .nilIface]) ∧ (w' = w ∨ w' = Lib.bytesWorld w 5 s) := Any.strconv_ParseUint_10_at0_ok Tryz.laysPu14 s hmax u h w
open Go.RowKit in
/-- strconv.ParseUint(s, 10, 0), AT EVERY STRING THAT IS NO ROW OF DECIMAL DIGITS (a sign is a fault): 0, AND AN ERROR THAT IS NOT nil: a *NumError in a new block N: {Func: "ParseUint", Num: s's bytes, Err: what the variable ErrSyntax holds}. Of what was there nothing has turned. (LAID: no walk: one application.) -/
theorem Tryz.strconv_ParseUint_10_at0_syntax (s : ByteArray) (hlim : s.size ≤ 281474976710656) (h : Lib.parseUintB 64 s.data.toList = .«syntax») (ev : Value) (w : World) (hv : w.cell? ⟨2, 0, none⟩ = some ev) (hev : ev = .nilIface ∨ ∃ te pe, ev = .iface te pe) :
    Calls Tryz.prog 96 #[.string s, .int .i64 10, .int .i64 0] w fun e w' => ∃ N, e = .returned (.tuple #[.int .u64 0, .iface 225 (.pointer (some ⟨N, 0, none⟩))]) ∧ w.heap.size ≤ N ∧ w'.heap[N]? = some (.cells #[.string ⟨#[80, 97, 114, 115, 101, 85, 105, 110, 116]⟩, .string s, ev] 246 (0, 0)) ∧ Below w.heap.size w w' := Any.strconv_ParseUint_10_at0_syntax Tryz.laysPu14 s hlim h ev w hv hev
open Go.RowKit in
/-- strconv.ParseUint(s, 10, 0), AT EVERY NUMERAL THAT NO uint64 HOLDS: THE GREATEST uint64, AND AN ERROR THAT IS NOT nil: a *NumError in a new block N: {Func: "ParseUint", Num: s's bytes, Err: what the variable ErrRange holds}. Of what was there nothing has turned. (LAID: no walk: one application.) -/
theorem Tryz.strconv_ParseUint_10_at0_range (s : ByteArray) (hlim : s.size ≤ 281474976710656) (h : Lib.parseUintB 64 s.data.toList = .range) (ev : Value) (w : World) (hv : w.cell? ⟨3, 0, none⟩ = some ev) (hev : ev = .nilIface ∨ ∃ te pe, ev = .iface te pe) :
    Calls Tryz.prog 96 #[.string s, .int .i64 10, .int .i64 0] w fun e w' => ∃ N, e = .returned (.tuple #[.int .u64 18446744073709551615, .iface 225 (.pointer (some ⟨N, 0, none⟩))]) ∧ w.heap.size ≤ N ∧ w'.heap[N]? = some (.cells #[.string ⟨#[80, 97, 114, 115, 101, 85, 105, 110, 116]⟩, .string s, ev] 246 (0, 0)) ∧ Below w.heap.size w w' := Any.strconv_ParseUint_10_at0_range Tryz.laysPu14 s hlim h ev w hv hev
open Go.RowKit in
/-- strconv.ParseUint(s, 10, 64), AT EVERY STRING THAT SPELLS A uint64 ('Lib.parseUintB 64 s.data.toList = .ok u'): u, AND NO ERROR. (LAID: no walk: one application.) -/
theorem Tryz.strconv_ParseUint_10_at64_ok (s : ByteArray) (hmax : s.size ≤ 9223372036854775806) (u : Nat) (h : Lib.parseUintB 64 s.data.toList = .ok u) (w : World) :
    Calls Tryz.prog 96 #[.string s, .int .i64 10, .int .i64 64] w fun e w' => e = .returned (.tuple #[.int .u64 u, .nilIface]) ∧ (w' = w ∨ w' = Lib.bytesWorld w 5 s) := Any.strconv_ParseUint_10_at64_ok Tryz.laysPu14 s hmax u h w
open Go.RowKit in
/-- strconv.ParseUint(s, 10, 64), AT EVERY STRING THAT IS NO ROW OF DECIMAL DIGITS (a sign is a fault): 0, AND AN ERROR THAT IS NOT nil: a *NumError in a new block N: {Func: "ParseUint", Num: s's bytes, Err: what the variable ErrSyntax holds}. Of what was there nothing has turned. (LAID: no walk: one application.) -/
theorem Tryz.strconv_ParseUint_10_at64_syntax (s : ByteArray) (hlim : s.size ≤ 281474976710656) (h : Lib.parseUintB 64 s.data.toList = .«syntax») (ev : Value) (w : World) (hv : w.cell? ⟨2, 0, none⟩ = some ev) (hev : ev = .nilIface ∨ ∃ te pe, ev = .iface te pe) :
    Calls Tryz.prog 96 #[.string s, .int .i64 10, .int .i64 64] w fun e w' => ∃ N, e = .returned (.tuple #[.int .u64 0, .iface 225 (.pointer (some ⟨N, 0, none⟩))]) ∧ w.heap.size ≤ N ∧ w'.heap[N]? = some (.cells #[.string ⟨#[80, 97, 114, 115, 101, 85, 105, 110, 116]⟩, .string s, ev] 246 (0, 0)) ∧ Below w.heap.size w w' := Any.strconv_ParseUint_10_at64_syntax Tryz.laysPu14 s hlim h ev w hv hev
open Go.RowKit in
/-- strconv.ParseUint(s, 10, 64), AT EVERY NUMERAL THAT NO uint64 HOLDS: THE GREATEST uint64, AND AN ERROR THAT IS NOT nil: a *NumError in a new block N: {Func: "ParseUint", Num: s's bytes, Err: what the variable ErrRange holds}. Of what was there nothing has turned. (LAID: no walk: one application.) -/
theorem Tryz.strconv_ParseUint_10_at64_range (s : ByteArray) (hlim : s.size ≤ 281474976710656) (h : Lib.parseUintB 64 s.data.toList = .range) (ev : Value) (w : World) (hv : w.cell? ⟨3, 0, none⟩ = some ev) (hev : ev = .nilIface ∨ ∃ te pe, ev = .iface te pe) :
    Calls Tryz.prog 96 #[.string s, .int .i64 10, .int .i64 64] w fun e w' => ∃ N, e = .returned (.tuple #[.int .u64 18446744073709551615, .iface 225 (.pointer (some ⟨N, 0, none⟩))]) ∧ w.heap.size ≤ N ∧ w'.heap[N]? = some (.cells #[.string ⟨#[80, 97, 114, 115, 101, 85, 105, 110, 116]⟩, .string s, ev] 246 (0, 0)) ∧ Below w.heap.size w w' := Any.strconv_ParseUint_10_at64_range Tryz.laysPu14 s hlim h ev w hv hev
open Go.RowKit in
/-- strconv.ParseUint(s, 10, 32), AT EVERY STRING THAT SPELLS A uint32 ('Lib.parseUintB 32 s.data.toList = .ok u'): u, AND NO ERROR. (LAID: no walk: one application.) -/
theorem Tryz.strconv_ParseUint_10_at32_ok (s : ByteArray) (hmax : s.size ≤ 9223372036854775806) (u : Nat) (h : Lib.parseUintB 32 s.data.toList = .ok u) (w : World) :
    Calls Tryz.prog 96 #[.string s, .int .i64 10, .int .i64 32] w fun e w' => e = .returned (.tuple #[.int .u64 u, .nilIface]) ∧ (w' = w ∨ w' = Lib.bytesWorld w 5 s) := Any.strconv_ParseUint_10_at32_ok Tryz.laysPu14 s hmax u h w
open Go.RowKit in
/-- strconv.ParseUint(s, 10, 32), AT EVERY STRING THAT IS NO ROW OF DECIMAL DIGITS (a sign is a fault): 0, AND AN ERROR THAT IS NOT nil: a *NumError in a new block N: {Func: "ParseUint", Num: s's bytes, Err: what the variable ErrSyntax holds}. Of what was there nothing has turned. (LAID: no walk: one application.) -/
theorem Tryz.strconv_ParseUint_10_at32_syntax (s : ByteArray) (hlim : s.size ≤ 281474976710656) (h : Lib.parseUintB 32 s.data.toList = .«syntax») (ev : Value) (w : World) (hv : w.cell? ⟨2, 0, none⟩ = some ev) (hev : ev = .nilIface ∨ ∃ te pe, ev = .iface te pe) :
    Calls Tryz.prog 96 #[.string s, .int .i64 10, .int .i64 32] w fun e w' => ∃ N, e = .returned (.tuple #[.int .u64 0, .iface 225 (.pointer (some ⟨N, 0, none⟩))]) ∧ w.heap.size ≤ N ∧ w'.heap[N]? = some (.cells #[.string ⟨#[80, 97, 114, 115, 101, 85, 105, 110, 116]⟩, .string s, ev] 246 (0, 0)) ∧ Below w.heap.size w w' := Any.strconv_ParseUint_10_at32_syntax Tryz.laysPu14 s hlim h ev w hv hev
open Go.RowKit in
/-- strconv.ParseUint(s, 10, 32), AT EVERY NUMERAL THAT NO uint32 HOLDS: THE GREATEST uint32, AND AN ERROR THAT IS NOT nil: a *NumError in a new block N: {Func: "ParseUint", Num: s's bytes, Err: what the variable ErrRange holds}. Of what was there nothing has turned. (LAID: no walk: one application.) -/
theorem Tryz.strconv_ParseUint_10_at32_range (s : ByteArray) (hlim : s.size ≤ 281474976710656) (h : Lib.parseUintB 32 s.data.toList = .range) (ev : Value) (w : World) (hv : w.cell? ⟨3, 0, none⟩ = some ev) (hev : ev = .nilIface ∨ ∃ te pe, ev = .iface te pe) :
    Calls Tryz.prog 96 #[.string s, .int .i64 10, .int .i64 32] w fun e w' => ∃ N, e = .returned (.tuple #[.int .u64 4294967295, .iface 225 (.pointer (some ⟨N, 0, none⟩))]) ∧ w.heap.size ≤ N ∧ w'.heap[N]? = some (.cells #[.string ⟨#[80, 97, 114, 115, 101, 85, 105, 110, 116]⟩, .string s, ev] 246 (0, 0)) ∧ Below w.heap.size w w' := Any.strconv_ParseUint_10_at32_range Tryz.laysPu14 s hlim h ev w hv hev
open Go.RowKit in
/-- strconv.ParseUint(s, 10, 16), AT EVERY STRING THAT SPELLS A uint16 ('Lib.parseUintB 16 s.data.toList = .ok u'): u, AND NO ERROR. (LAID: no walk: one application.) -/
theorem Tryz.strconv_ParseUint_10_at16_ok (s : ByteArray) (hmax : s.size ≤ 9223372036854775806) (u : Nat) (h : Lib.parseUintB 16 s.data.toList = .ok u) (w : World) :
    Calls Tryz.prog 96 #[.string s, .int .i64 10, .int .i64 16] w fun e w' => e = .returned (.tuple #[.int .u64 u, .nilIface]) ∧ (w' = w ∨ w' = Lib.bytesWorld w 5 s) := Any.strconv_ParseUint_10_at16_ok Tryz.laysPu14 s hmax u h w
open Go.RowKit in
/-- strconv.ParseUint(s, 10, 16), AT EVERY STRING THAT IS NO ROW OF DECIMAL DIGITS (a sign is a fault): 0, AND AN ERROR THAT IS NOT nil: a *NumError in a new block N: {Func: "ParseUint", Num: s's bytes, Err: what the variable ErrSyntax holds}. Of what was there nothing has turned. (LAID: no walk: one application.) -/
theorem Tryz.strconv_ParseUint_10_at16_syntax (s : ByteArray) (hlim : s.size ≤ 281474976710656) (h : Lib.parseUintB 16 s.data.toList = .«syntax») (ev : Value) (w : World) (hv : w.cell? ⟨2, 0, none⟩ = some ev) (hev : ev = .nilIface ∨ ∃ te pe, ev = .iface te pe) :
    Calls Tryz.prog 96 #[.string s, .int .i64 10, .int .i64 16] w fun e w' => ∃ N, e = .returned (.tuple #[.int .u64 0, .iface 225 (.pointer (some ⟨N, 0, none⟩))]) ∧ w.heap.size ≤ N ∧ w'.heap[N]? = some (.cells #[.string ⟨#[80, 97, 114, 115, 101, 85, 105, 110, 116]⟩, .string s, ev] 246 (0, 0)) ∧ Below w.heap.size w w' := Any.strconv_ParseUint_10_at16_syntax Tryz.laysPu14 s hlim h ev w hv hev
open Go.RowKit in
/-- strconv.ParseUint(s, 10, 16), AT EVERY NUMERAL THAT NO uint16 HOLDS: THE GREATEST uint16, AND AN ERROR THAT IS NOT nil: a *NumError in a new block N: {Func: "ParseUint", Num: s's bytes, Err: what the variable ErrRange holds}. Of what was there nothing has turned. (LAID: no walk: one application.) -/
theorem Tryz.strconv_ParseUint_10_at16_range (s : ByteArray) (hlim : s.size ≤ 281474976710656) (h : Lib.parseUintB 16 s.data.toList = .range) (ev : Value) (w : World) (hv : w.cell? ⟨3, 0, none⟩ = some ev) (hev : ev = .nilIface ∨ ∃ te pe, ev = .iface te pe) :
    Calls Tryz.prog 96 #[.string s, .int .i64 10, .int .i64 16] w fun e w' => ∃ N, e = .returned (.tuple #[.int .u64 65535, .iface 225 (.pointer (some ⟨N, 0, none⟩))]) ∧ w.heap.size ≤ N ∧ w'.heap[N]? = some (.cells #[.string ⟨#[80, 97, 114, 115, 101, 85, 105, 110, 116]⟩, .string s, ev] 246 (0, 0)) ∧ Below w.heap.size w w' := Any.strconv_ParseUint_10_at16_range Tryz.laysPu14 s hlim h ev w hv hev
open Go.RowKit in
/-- strconv.ParseUint(s, 10, 8), AT EVERY STRING THAT SPELLS A uint8 ('Lib.parseUintB 8 s.data.toList = .ok u'): u, AND NO ERROR. (LAID: no walk: one application.) -/
theorem Tryz.strconv_ParseUint_10_at8_ok (s : ByteArray) (hmax : s.size ≤ 9223372036854775806) (u : Nat) (h : Lib.parseUintB 8 s.data.toList = .ok u) (w : World) :
    Calls Tryz.prog 96 #[.string s, .int .i64 10, .int .i64 8] w fun e w' => e = .returned (.tuple #[.int .u64 u, .nilIface]) ∧ (w' = w ∨ w' = Lib.bytesWorld w 5 s) := Any.strconv_ParseUint_10_at8_ok Tryz.laysPu14 s hmax u h w
open Go.RowKit in
/-- strconv.ParseUint(s, 10, 8), AT EVERY STRING THAT IS NO ROW OF DECIMAL DIGITS (a sign is a fault): 0, AND AN ERROR THAT IS NOT nil: a *NumError in a new block N: {Func: "ParseUint", Num: s's bytes, Err: what the variable ErrSyntax holds}. Of what was there nothing has turned. (LAID: no walk: one application.) -/
theorem Tryz.strconv_ParseUint_10_at8_syntax (s : ByteArray) (hlim : s.size ≤ 281474976710656) (h : Lib.parseUintB 8 s.data.toList = .«syntax») (ev : Value) (w : World) (hv : w.cell? ⟨2, 0, none⟩ = some ev) (hev : ev = .nilIface ∨ ∃ te pe, ev = .iface te pe) :
    Calls Tryz.prog 96 #[.string s, .int .i64 10, .int .i64 8] w fun e w' => ∃ N, e = .returned (.tuple #[.int .u64 0, .iface 225 (.pointer (some ⟨N, 0, none⟩))]) ∧ w.heap.size ≤ N ∧ w'.heap[N]? = some (.cells #[.string ⟨#[80, 97, 114, 115, 101, 85, 105, 110, 116]⟩, .string s, ev] 246 (0, 0)) ∧ Below w.heap.size w w' := Any.strconv_ParseUint_10_at8_syntax Tryz.laysPu14 s hlim h ev w hv hev
open Go.RowKit in
/-- strconv.ParseUint(s, 10, 8), AT EVERY NUMERAL THAT NO uint8 HOLDS: THE GREATEST uint8, AND AN ERROR THAT IS NOT nil: a *NumError in a new block N: {Func: "ParseUint", Num: s's bytes, Err: what the variable ErrRange holds}. Of what was there nothing has turned. (LAID: no walk: one application.) -/
theorem Tryz.strconv_ParseUint_10_at8_range (s : ByteArray) (hlim : s.size ≤ 281474976710656) (h : Lib.parseUintB 8 s.data.toList = .range) (ev : Value) (w : World) (hv : w.cell? ⟨3, 0, none⟩ = some ev) (hev : ev = .nilIface ∨ ∃ te pe, ev = .iface te pe) :
    Calls Tryz.prog 96 #[.string s, .int .i64 10, .int .i64 8] w fun e w' => ∃ N, e = .returned (.tuple #[.int .u64 255, .iface 225 (.pointer (some ⟨N, 0, none⟩))]) ∧ w.heap.size ≤ N ∧ w'.heap[N]? = some (.cells #[.string ⟨#[80, 97, 114, 115, 101, 85, 105, 110, 116]⟩, .string s, ev] 246 (0, 0)) ∧ Below w.heap.size w w' := Any.strconv_ParseUint_10_at8_range Tryz.laysPu14 s hlim h ev w hv hev
open Go.RowKit in
theorem Tryz.strconv_ParseUint_10_at0_syntax_var (s : ByteArray) (hlim : s.size ≤ 281474976710656) (h : Lib.parseUintB 64 s.data.toList = .«syntax») (tp : TypeId) (p : Value) (w : World) (hvar : w.var? Tryz.prog "strconv.ErrSyntax" = some #[.iface tp p]) :
    Calls Tryz.prog 96 #[.string s, .int .i64 10, .int .i64 0] w fun e w' => ∃ N, e = .returned (.tuple #[.int .u64 0, .iface 225 (.pointer (some ⟨N, 0, none⟩))]) ∧ w.heap.size ≤ N ∧ w'.heap[N]? = some (.cells #[.string ⟨#[80, 97, 114, 115, 101, 85, 105, 110, 116]⟩, .string s, .iface tp p] 246 (0, 0)) ∧ Below w.heap.size w w' := Any.strconv_ParseUint_10_at0_syntax_var Tryz.laysPu14 s hlim h tp p w hvar
open Go.RowKit in
theorem Tryz.strconv_ParseUint_10_at0_range_var (s : ByteArray) (hlim : s.size ≤ 281474976710656) (h : Lib.parseUintB 64 s.data.toList = .range) (tp : TypeId) (p : Value) (w : World) (hvar : w.var? Tryz.prog "strconv.ErrRange" = some #[.iface tp p]) :
    Calls Tryz.prog 96 #[.string s, .int .i64 10, .int .i64 0] w fun e w' => ∃ N, e = .returned (.tuple #[.int .u64 18446744073709551615, .iface 225 (.pointer (some ⟨N, 0, none⟩))]) ∧ w.heap.size ≤ N ∧ w'.heap[N]? = some (.cells #[.string ⟨#[80, 97, 114, 115, 101, 85, 105, 110, 116]⟩, .string s, .iface tp p] 246 (0, 0)) ∧ Below w.heap.size w w' := Any.strconv_ParseUint_10_at0_range_var Tryz.laysPu14 s hlim h tp p w hvar
open Go.RowKit in
theorem Tryz.strconv_ParseUint_10_at64_syntax_var (s : ByteArray) (hlim : s.size ≤ 281474976710656) (h : Lib.parseUintB 64 s.data.toList = .«syntax») (tp : TypeId) (p : Value) (w : World) (hvar : w.var? Tryz.prog "strconv.ErrSyntax" = some #[.iface tp p]) :
    Calls Tryz.prog 96 #[.string s, .int .i64 10, .int .i64 64] w fun e w' => ∃ N, e = .returned (.tuple #[.int .u64 0, .iface 225 (.pointer (some ⟨N, 0, none⟩))]) ∧ w.heap.size ≤ N ∧ w'.heap[N]? = some (.cells #[.string ⟨#[80, 97, 114, 115, 101, 85, 105, 110, 116]⟩, .string s, .iface tp p] 246 (0, 0)) ∧ Below w.heap.size w w' := Any.strconv_ParseUint_10_at64_syntax_var Tryz.laysPu14 s hlim h tp p w hvar
open Go.RowKit in
theorem Tryz.strconv_ParseUint_10_at64_range_var (s : ByteArray) (hlim : s.size ≤ 281474976710656) (h : Lib.parseUintB 64 s.data.toList = .range) (tp : TypeId) (p : Value) (w : World) (hvar : w.var? Tryz.prog "strconv.ErrRange" = some #[.iface tp p]) :
    Calls Tryz.prog 96 #[.string s, .int .i64 10, .int .i64 64] w fun e w' => ∃ N, e = .returned (.tuple #[.int .u64 18446744073709551615, .iface 225 (.pointer (some ⟨N, 0, none⟩))]) ∧ w.heap.size ≤ N ∧ w'.heap[N]? = some (.cells #[.string ⟨#[80, 97, 114, 115, 101, 85, 105, 110, 116]⟩, .string s, .iface tp p] 246 (0, 0)) ∧ Below w.heap.size w w' := Any.strconv_ParseUint_10_at64_range_var Tryz.laysPu14 s hlim h tp p w hvar
open Go.RowKit in
theorem Tryz.strconv_ParseUint_10_at32_syntax_var (s : ByteArray) (hlim : s.size ≤ 281474976710656) (h : Lib.parseUintB 32 s.data.toList = .«syntax») (tp : TypeId) (p : Value) (w : World) (hvar : w.var? Tryz.prog "strconv.ErrSyntax" = some #[.iface tp p]) :
    Calls Tryz.prog 96 #[.string s, .int .i64 10, .int .i64 32] w fun e w' => ∃ N, e = .returned (.tuple #[.int .u64 0, .iface 225 (.pointer (some ⟨N, 0, none⟩))]) ∧ w.heap.size ≤ N ∧ w'.heap[N]? = some (.cells #[.string ⟨#[80, 97, 114, 115, 101, 85, 105, 110, 116]⟩, .string s, .iface tp p] 246 (0, 0)) ∧ Below w.heap.size w w' := Any.strconv_ParseUint_10_at32_syntax_var Tryz.laysPu14 s hlim h tp p w hvar
open Go.RowKit in
theorem Tryz.strconv_ParseUint_10_at32_range_var (s : ByteArray) (hlim : s.size ≤ 281474976710656) (h : Lib.parseUintB 32 s.data.toList = .range) (tp : TypeId) (p : Value) (w : World) (hvar : w.var? Tryz.prog "strconv.ErrRange" = some #[.iface tp p]) :
    Calls Tryz.prog 96 #[.string s, .int .i64 10, .int .i64 32] w fun e w' => ∃ N, e = .returned (.tuple #[.int .u64 4294967295, .iface 225 (.pointer (some ⟨N, 0, none⟩))]) ∧ w.heap.size ≤ N ∧ w'.heap[N]? = some (.cells #[.string ⟨#[80, 97, 114, 115, 101, 85, 105, 110, 116]⟩, .string s, .iface tp p] 246 (0, 0)) ∧ Below w.heap.size w w' := Any.strconv_ParseUint_10_at32_range_var Tryz.laysPu14 s hlim h tp p w hvar
open Go.RowKit in
theorem Tryz.strconv_ParseUint_10_at16_syntax_var (s : ByteArray) (hlim : s.size ≤ 281474976710656) (h : Lib.parseUintB 16 s.data.toList = .«syntax») (tp : TypeId) (p : Value) (w : World) (hvar : w.var? Tryz.prog "strconv.ErrSyntax" = some #[.iface tp p]) :
    Calls Tryz.prog 96 #[.string s, .int .i64 10, .int .i64 16] w fun e w' => ∃ N, e = .returned (.tuple #[.int .u64 0, .iface 225 (.pointer (some ⟨N, 0, none⟩))]) ∧ w.heap.size ≤ N ∧ w'.heap[N]? = some (.cells #[.string ⟨#[80, 97, 114, 115, 101, 85, 105, 110, 116]⟩, .string s, .iface tp p] 246 (0, 0)) ∧ Below w.heap.size w w' := Any.strconv_ParseUint_10_at16_syntax_var Tryz.laysPu14 s hlim h tp p w hvar
open Go.RowKit in
theorem Tryz.strconv_ParseUint_10_at16_range_var (s : ByteArray) (hlim : s.size ≤ 281474976710656) (h : Lib.parseUintB 16 s.data.toList = .range) (tp : TypeId) (p : Value) (w : World) (hvar : w.var? Tryz.prog "strconv.ErrRange" = some #[.iface tp p]) :
    Calls Tryz.prog 96 #[.string s, .int .i64 10, .int .i64 16] w fun e w' => ∃ N, e = .returned (.tuple #[.int .u64 65535, .iface 225 (.pointer (some ⟨N, 0, none⟩))]) ∧ w.heap.size ≤ N ∧ w'.heap[N]? = some (.cells #[.string ⟨#[80, 97, 114, 115, 101, 85, 105, 110, 116]⟩, .string s, .iface tp p] 246 (0, 0)) ∧ Below w.heap.size w w' := Any.strconv_ParseUint_10_at16_range_var Tryz.laysPu14 s hlim h tp p w hvar
open Go.RowKit in
theorem Tryz.strconv_ParseUint_10_at8_syntax_var (s : ByteArray) (hlim : s.size ≤ 281474976710656) (h : Lib.parseUintB 8 s.data.toList = .«syntax») (tp : TypeId) (p : Value) (w : World) (hvar : w.var? Tryz.prog "strconv.ErrSyntax" = some #[.iface tp p]) :
    Calls Tryz.prog 96 #[.string s, .int .i64 10, .int .i64 8] w fun e w' => ∃ N, e = .returned (.tuple #[.int .u64 0, .iface 225 (.pointer (some ⟨N, 0, none⟩))]) ∧ w.heap.size ≤ N ∧ w'.heap[N]? = some (.cells #[.string ⟨#[80, 97, 114, 115, 101, 85, 105, 110, 116]⟩, .string s, .iface tp p] 246 (0, 0)) ∧ Below w.heap.size w w' := Any.strconv_ParseUint_10_at8_syntax_var Tryz.laysPu14 s hlim h tp p w hvar
open Go.RowKit in
theorem Tryz.strconv_ParseUint_10_at8_range_var (s : ByteArray) (hlim : s.size ≤ 281474976710656) (h : Lib.parseUintB 8 s.data.toList = .range) (tp : TypeId) (p : Value) (w : World) (hvar : w.var? Tryz.prog "strconv.ErrRange" = some #[.iface tp p]) :
    Calls Tryz.prog 96 #[.string s, .int .i64 10, .int .i64 8] w fun e w' => ∃ N, e = .returned (.tuple #[.int .u64 255, .iface 225 (.pointer (some ⟨N, 0, none⟩))]) ∧ w.heap.size ≤ N ∧ w'.heap[N]? = some (.cells #[.string ⟨#[80, 97, 114, 115, 101, 85, 105, 110, 116]⟩, .string s, .iface tp p] 246 (0, 0)) ∧ Below w.heap.size w w' := Any.strconv_ParseUint_10_at8_range_var Tryz.laysPu14 s hlim h tp p w hvar
def Tryz.lays217_ren : Go.Shelf.Ren := ⟨fun | 217 => 100 | 266 => 130 | n => n, fun | 9 => 9 | 5 => 5 | 3 => 3 | n => n, fun | n => n⟩
theorem Tryz.lays217 : Go.Proofs.Lays.n217 Tryz.prog Tryz.lays217_ren := {
  mixed := by kernel_rfl
  f217 := Tryz.func100.trans (congrArg some (by kernel_rfl))
  f266 := Tryz.func130.trans (congrArg some (by kernel_rfl))
  t3 := Tryz.underlying3
  a3 := Tryz.isAgg3
  z3 := Tryz.sizeOf3
  v3 := Tryz.zeroValue3
  t5 := Tryz.underlying5
  a5 := Tryz.isAgg5
  z5 := Tryz.sizeOf5
  v5 := Tryz.zeroValue5
  t9 := Tryz.underlying9
  a9 := Tryz.isAgg9
  z9 := Tryz.sizeOf9
  v9 := Tryz.zeroValue9 }
open Go.RowKit Go.Lib in
/-- internal/stringslite.IndexByte (what strings.IndexByte calls): IT RETURNS 'Lib.indexByte s c'; the world is as it was. (LAID: no walk: one application.) -/
theorem Tryz.stringslite_IndexByte (s : ByteArray) (c : Int) (w : World) :
    Calls Tryz.prog 100 #[.string s, .int .u8 c] w fun e w' => e = .returned (.int .i64 (Lib.indexByte s.data.toList c.toNat.toUInt8)) ∧ w' = w := Any.stringslite_IndexByte Tryz.lays217 s c w
def Tryz.laysSlM6_f73_ren : Go.Shelf.Ren := ⟨fun | 6 => 73 | 8 => 98 | 9 => 103 | 19 => 128 | 20 => 129 | 21 => 135 | 22 => 136 | 23 => 137 | 24 => 138 | 25 => 139 | 26 => 140 | 27 => 141 | 28 => 142 | 29 => 143 | 36 => 171 | 31 => 162 | 32 => 163 | 37 => 172 | 38 => 173 | 39 => 174 | 41 => 186 | n => n, fun | 27 => 68 | 29 => 9 | 3 => 3 | 32 => 165 | 26 => 68 | 0 => 0 | 44 => 184 | 46 => 22 | 4 => 4 | 36 => 192 | 35 => 191 | 41 => 197 | 5 => 5 | 9 => 9 | 53 => 228 | 57 => 232 | 63 => 248 | 64 => 249 | n => n, fun | n => n⟩
theorem Tryz.laysSlM6_f73 : Go.Proofs.SlLaysM.n6 Tryz.prog Tryz.laysSlM6_f73_ren := {
  mixed := by kernel_rfl
  f6 := ⟨Tryz.f73.name, by decide, Tryz.func73.trans (congrArg some (by kernel_rfl))⟩
  f8 := Tryz.func98.trans (congrArg some (by kernel_rfl))
  f9 := ⟨Tryz.f103.name, by decide, Tryz.func103.trans (congrArg some (by kernel_rfl))⟩
  f19 := Tryz.func128.trans (congrArg some (by kernel_rfl))
  f20 := Tryz.func129.trans (congrArg some (by kernel_rfl))
  f21 := ⟨Tryz.f135.name, by decide, Tryz.func135.trans (congrArg some (by kernel_rfl))⟩
  f22 := ⟨Tryz.f136.name, by decide, Tryz.func136.trans (congrArg some (by kernel_rfl))⟩
  f23 := ⟨Tryz.f137.name, by decide, Tryz.func137.trans (congrArg some (by kernel_rfl))⟩
  f24 := ⟨Tryz.f138.name, by decide, Tryz.func138.trans (congrArg some (by kernel_rfl))⟩
  f25 := ⟨Tryz.f139.name, by decide, Tryz.func139.trans (congrArg some (by kernel_rfl))⟩
  f26 := ⟨Tryz.f140.name, by decide, Tryz.func140.trans (congrArg some (by kernel_rfl))⟩
  f27 := ⟨Tryz.f141.name, by decide, Tryz.func141.trans (congrArg some (by kernel_rfl))⟩
  f28 := ⟨Tryz.f142.name, by decide, Tryz.func142.trans (congrArg some (by kernel_rfl))⟩
  f29 := ⟨Tryz.f143.name, by decide, Tryz.func143.trans (congrArg some (by kernel_rfl))⟩
  f31 := Tryz.func162.trans (congrArg some (by kernel_rfl))
  f32 := Tryz.func163.trans (congrArg some (by kernel_rfl))
  f36 := ⟨Tryz.f171.name, by decide, Tryz.func171.trans (congrArg some (by kernel_rfl))⟩
  f37 := ⟨Tryz.f172.name, by decide, Tryz.func172.trans (congrArg some (by kernel_rfl))⟩
  f38 := ⟨Tryz.f173.name, by decide, Tryz.func173.trans (congrArg some (by kernel_rfl))⟩
  f39 := ⟨Tryz.f174.name, by decide, Tryz.func174.trans (congrArg some (by kernel_rfl))⟩
  f41 := ⟨Tryz.f186.name, by decide, Tryz.func186.trans (congrArg some (by kernel_rfl))⟩
  t0 := Tryz.underlying0
  a0 := Tryz.isAgg0
  z0 := Tryz.sizeOf0
  v0 := Tryz.zeroValue0
  t3 := Tryz.underlying3
  a3 := Tryz.isAgg3
  z3 := Tryz.sizeOf3
  v3 := Tryz.zeroValue3
  t4 := Tryz.underlying4
  a4 := Tryz.isAgg4
  z4 := Tryz.sizeOf4
  v4 := Tryz.zeroValue4
  t5 := Tryz.underlying5
  a5 := Tryz.isAgg5
  z5 := Tryz.sizeOf5
  v5 := Tryz.zeroValue5
  t9 := Tryz.underlying9
  a9 := Tryz.isAgg9
  z9 := Tryz.sizeOf9
  v9 := Tryz.zeroValue9
  t26 := Tryz.underlying68
  a26 := Tryz.isAgg68
  z26 := Tryz.sizeOf68
  v26 := Tryz.zeroValue68
  t27 := Tryz.underlying68
  a27 := Tryz.isAgg68
  z27 := Tryz.sizeOf68
  v27 := Tryz.zeroValue68
  t29 := Tryz.underlying9
  a29 := Tryz.isAgg9
  z29 := Tryz.sizeOf9
  v29 := Tryz.zeroValue9
  t32 := Tryz.underlying165
  a32 := Tryz.isAgg165
  z32 := Tryz.sizeOf165
  v32 := Tryz.zeroValue165
  t35 := Tryz.underlying191
  a35 := Tryz.isAgg191
  z35 := Tryz.sizeOf191
  v35 := Tryz.zeroValue191
  t36 := Tryz.underlying192
  a36 := Tryz.isAgg192
  z36 := Tryz.sizeOf192
  v36 := Tryz.zeroValue192
  t41 := Tryz.underlying197
  a41 := Tryz.isAgg197
  z41 := Tryz.sizeOf197
  v41 := Tryz.zeroValue197
  t44 := Tryz.underlying184
  a44 := Tryz.isAgg184
  z44 := Tryz.sizeOf184
  v44 := Tryz.zeroValue184
  t46 := Tryz.underlying22
  a46 := Tryz.isAgg22
  z46 := Tryz.sizeOf22
  v46 := Tryz.zeroValue22
  t53 := Tryz.underlying228
  a53 := Tryz.isAgg228
  z53 := Tryz.sizeOf228
  v53 := Tryz.zeroValue228
  t57 := Tryz.underlying232
  a57 := Tryz.isAgg232
  z57 := Tryz.sizeOf232
  v57 := Tryz.zeroValue232
  t63 := Tryz.underlying248
  a63 := Tryz.isAgg248
  z63 := Tryz.sizeOf248
  v63 := Tryz.zeroValue248
  t64 := Tryz.underlying249
  a64 := Tryz.isAgg249
  z64 := Tryz.sizeOf249
  v64 := Tryz.zeroValue249 }
open Go.Sort Go.RowKit in
theorem Tryz.slices_Sort_string (blk off cap : Nat) (ss : List (List UInt8)) (w : World) (hH : Holds encStr w blk off ss.toArray) (hblk : blk < w.heap.size) (hsz : ss.length < 4611686018427387904) :
    Calls Tryz.prog 73 #[.slice (some ⟨blk, off, none⟩) ss.length cap] w fun e w' =>
      e = .returned (.tuple #[]) ∧ ∃ n os, w' = grow (putRow encStr (Sort.ahead w n) blk off (ss.mergeSort fun x y => decide (x ≤ y)).toArray) os := AnyM.slices_Sort_string Tryz.laysSlM6_f73 blk off cap ss w hH hblk hsz
open Go.RowKit Go.Sort in
/-- .. and plain. (LAID AT THE INSTANCE 'slices.Sort[[]string,string]': no walk: one application.) -/
theorem Tryz.slices_Sort_string_none (p : Option Addr) (cap : Nat) (w : World) :
    Calls Tryz.prog 73 #[.slice p 0 cap] w fun e w' => e = .returned (.tuple #[]) ∧ w' = w := AnyM.slices_Sort_string_none Tryz.laysSlM6_f73 p cap w
end Go.Proofs
end

section
namespace Go.Proofs.YtofllgbdphakiaaGreatDoor
open Go.Den Go.Disk Go.Crc
theorem slc_nil' : binv .slc .eql (.slice none 0 0) (.slice none 0 0) = some (.bool true) := rfl
theorem slc_is (a : Option Addr) (n c : Nat) : binv .slc .eql (.slice a n c) (.slice none 0 0) = some (.bool a.isNone) := by cases a <;> rfl
def lensOf (xs : List (SV × List UInt8)) : Nat := (xs.map (·.2.length)).sum
theorem lensOf_le (xs : List (SV × List UInt8)) (i : Nat) : lensOf (xs.take i) ≤ lensOf xs := by
  conv => rhs; rw [← List.take_append_drop i xs]
  unfold lensOf
  rw [List.map_append, List.sum_append]
  omega
theorem lensOf_flat (xs : List (SV × List UInt8)) : (xs.flatMap (·.2)).length = lensOf xs := by
  induction xs with
  | nil => rfl
  | cons a xs ih => unfold lensOf at *; simp [ih]
theorem grow_sl (n : Nat) (hn : n < 1000000000) {w : World} {R : Value → World → Prop} (hR : ∀ w' v G, Slc encB 1 w' v [] G → (∀ b ∈ G, hsz w ≤ b) → Fr [] w w' → R v w') : CALL PR F_slices_Grow_byte_byte [.slice none 0 0, .int .i64 (n : Int)] w R := by
  by_cases h0 : n = 0
  · subst h0
    refine ⟨(Any8.slices_Grow_room Tryz.growB none 0 0 0 w (by omega) (by omega) (by omega) (by omega)).mono ?_⟩
    rintro e w1 ⟨rfl, rfl⟩
    exact ⟨_, rfl, hR _ _ [] (Slc.nil _ _ _) (by simp) (Fr.refl _ _)⟩
  · have hq : (PR.info? 5).map (fun i => (i.size, i.bytes)) = some (1, 1) := by kernel_rfl
    have hq2 : (PR.info? 5).bind (·.zero) = some (Value.int .u8 0) := by kernel_rfl
    obtain ⟨i0, hi⟩ : ∃ i0, PR.info? 5 = some i0 := by
      cases hi : PR.info? 5 with
      | none => rw [hi] at hq; cases hq
      | some i0 => exact ⟨i0, rfl⟩
    rw [hi] at hq hq2
    simp only [Option.map_some, Option.some.injEq, Prod.mk.injEq, Option.bind_some] at hq hq2
    obtain ⟨hs, hb⟩ := hq
    obtain ⟨z, hz, hzc⟩ : ∃ z, i0.zero = some z ∧ z.cells.size = 1 := ⟨_, hq2, rfl⟩
    refine ⟨(Any8.slices_Grow_grow Tryz.growB i0 z hi hz (by omega) none 0 0 n [] w (by omega) (by omega) (by rw [hb]; omega) (by omega) (by simp) (by simp) (by simp)).mono ?_⟩
    rintro e w1 ⟨rfl, rfl⟩
    refine ⟨_, rfl, hR _ _ [hsz w] (.inr ⟨hsz w, _, _, _, rfl, blk_alloc_new _ _, by simp, ?_, rfl, by simp⟩) (by simp) ((Fr.drew [] w).trans' (Fr.alloc _ _ _))⟩
    have hg := grownCap_ge w (0 + n) 0 5
    simp only [Array.size_append, Builtin.zeroCells, Array.size_map, Array.size_range, hzc, List.size_toArray, List.length_nil]
    show 0 + (0 + n - 0) * 1 + (grownCap w (0 + n) 0 5 - (0 + n)) * 1 = grownCap w (0 + n) 0 5 * 1
    omega
set_option linter.unusedSimpArgs false
set_option linter.unusedVariables false
set_option maxRecDepth 20000
set_option maxHeartbeats 4000000
attribute [local congr] BND_cg COND_cg GEF_cg
attribute [local irreducible] capl slicea load1 loadn iaddr iaddra faddr storev newslice binv lookv mupd mdel mlenv mentry mestore slicev slicev3 slices indexs indexav textv rangev nexts clearv shiftv eqaggv convi buildv pickv lens lenl unv nilchk extractv partn JOIN
section
variable {w : World} {R : Value → World → Prop}
theorem sl_Equal {a b : Value} {xs ys : List UInt8} (ha : Arr encB 1 w a xs) (hb : Arr encB 1 w b ys) (hn : xs.length < 1000000000) (hR : ∀ w', Fr [] w w' → R (.bool (decide (xs = ys))) w') :
    CALL PR F_slices_Equal_byte_byte [a, b] w R := by
  refine C_slices_Equal_byte_byte ?_
  unfold M_slices_Equal_byte_byte
  by_cases hl : xs.length = ys.length
  · (repeat (first | refine BND_step ha.len ?_ | refine BND_step hb.len ?_ | refine gg ?_))
    refine loop_up 0 xs.length (fun i w' => Fr [] w w' ∧ xs.take i = ys.take i) ⟨Fr.refl _ _, rfl⟩ (by omega) ?_
    rintro i w1 - hi ⟨f1, e⟩ J m hJ
    by_cases hlt : i < xs.length
    · have hx := List.getElem?_eq_getElem hlt
      have hy := List.getElem?_eq_getElem (l := ys) (i := i) (by omega)
      obtain ⟨b1, o1, i1, _, _, l1⟩ := (ha.fr f1 (by simp)).spot hx rfl .i64
      obtain ⟨b2, o2, i2, _, _, l2⟩ := (hb.fr f1 (by simp)).spot hy rfl .i64
      have hu : ((xs[i].toNat : Nat) : Int) = ((ys[i].toNat : Nat) : Int) ↔ xs[i] = ys[i] := by rw [Int.ofNat_inj, UInt8.toNat_inj]
      by_cases he : ((xs[i].toNat : Nat) : Int) = ((ys[i].toNat : Nat) : Int)
      · (repeat (first | refine BND_step (l1 (w' := w1.drew) rfl (j := 0) rfl) ?_ | refine BND_step (l2 (w' := w1.drew) rfl (j := 0) rfl) ?_ | refine gg ?_))
        refine hJ _ hlt ⟨f1.trans' (Fr.drew _ _), ?_⟩
        rw [List.take_add_one, List.take_add_one, hx, hy, e, hu.1 he]
      · (repeat (first | refine BND_step (l1 (w' := w1.drew) rfl (j := 0) rfl) ?_ | refine BND_step (l2 (w' := w1.drew) rfl (j := 0) rfl) ?_ | refine gg ?_))
        have := hR _ (f1.trans' (Fr.drew _ _))
        rwa [decide_eq_false (fun h => he (by subst h; rfl))] at this
    · (repeat refine gg ?_)
      have := hR _ f1
      rw [List.take_of_length_le (by omega), List.take_of_length_le (by omega)] at e
      rwa [decide_eq_true e] at this
  · (repeat (first | refine BND_step ha.len ?_ | refine BND_step hb.len ?_ | refine gg ?_))
    have := hR _ (Fr.refl _ _)
    rwa [decide_eq_false (fun h => hl (by rw [h]))] at this
theorem sl_Clone {a : Value} {xs : List UInt8} (ha : Arr encB 1 w a xs) (hn : xs.length < 1000000000) (hR : ∀ w' v G, Slc encB 1 w' v xs G → (∀ b ∈ G, hsz w ≤ b) → Fr [] w w' → R v w') :
    CALL PR F_slices_Clone_byte_byte [a] w R := by
  refine C_slices_Clone_byte_byte ?_
  unfold M_slices_Clone_byte_byte
  have ha' := ha
  obtain ⟨ad, c, rfl, h⟩ := ha'
  cases ad with
  | none =>
    rcases h with rfl | ⟨b, o, cs, T, fz, e, _⟩
    · (repeat (first | refine BND_step (slc_is _ _ _) ?_ | refine gg ?_))
      exact hR _ _ [] (Slc.nil _ _ _) (by simp) (Fr.refl _ _)
    · cases e
  | some ad =>
    (repeat (first | refine BND_step (slc_is _ _ _) ?_ | refine gg ?_))
    refine copy_step (enc := encB) (ys := xs) (fun w1 f1 => (ha.fr f1 (by simp)).src encB_len (by omega)) encB_len encB_one rfl (by omega) (by omega) fun v' w' G s hG f => ?_
    (repeat refine gg ?_)
    exact hR _ _ _ s hG f
theorem sl_Concat {sv : Value} {xs : List (SV × List UInt8)} {G : List Nat} (hs : Slc encV 1 w sv (xs.map (·.1)) G) (hx : ∀ p ∈ xs, Arr encB 1 w p.1.v p.2) (hn : lensOf xs < 1000000000) (hn2 : xs.length < 1000)
    (hR : ∀ w' v G, Slc encB 1 w' v (xs.flatMap (·.2)) G → (∀ b ∈ G, hsz w ≤ b) → Fr [] w w' → R v w') : CALL PR F_slices_Concat_byte_byte [sv] w R := by
  refine C_slices_Concat_byte_byte ?_
  unfold M_slices_Concat_byte_byte
  have hl := hs.len
  rw [List.length_map] at hl
  (repeat refine gg ?_)
  refine loop_up2 (o := .int .i64 0) 0 xs.length (fun o i w' => o = .int .i64 ((lensOf (xs.take i) : Nat) : Int) ∧ w' = w) ⟨rfl, rfl⟩ (by omega) ?_
  rintro o i w1 - hi ⟨rfl, rfl⟩ J m hJ
  have hle := lensOf_le xs i
  by_cases hlt : i < xs.length
  · have hxi := List.getElem?_eq_getElem hlt
    have hm := List.getElem_mem hlt
    generalize xs[i] = p at hxi hm
    obtain ⟨b, o, ia, _, _, l1⟩ := hs.arr.spot (i := i) (x := p.1) (by rw [List.getElem?_map, hxi]; rfl) rfl .i64
    have hst : lensOf (xs.take (i + 1)) = lensOf (xs.take i) + p.2.length := by
      unfold lensOf; rw [List.take_add_one, hxi]; simp
    have hle2 := lensOf_le xs (i + 1)
    (repeat (first | (apply BND_step; exact (l1 (w' := w1) rfl (j := 0) rfl)) | refine BND_step (hx p hm).len ?_ | refine BND_step (addn_ (n := lensOf (xs.take i)) (m := p.2.length) (by omega)) ?_ | refine gg ?_))
    exact hJ _ _ hlt ⟨by rw [hst], rfl⟩
  · (repeat refine gg ?_)
    refine grow_sl _ (by omega) fun w2 v2 G2 s2 g2 f2 => ?_
    (repeat refine gg ?_)
    refine loop_up2 (o := v2) 0 xs.length (fun o i w' => ∃ H, Slc encB 1 w' o ((xs.take i).flatMap (·.2)) H ∧ (∀ b ∈ H, hsz w1 ≤ b) ∧ Fr [] w1 w') ⟨G2, by simpa using s2, g2, f2⟩ (by omega) ?_
    rintro o k w3 - hk ⟨H, s3, h3, f3⟩ J2 m2 hJ2
    by_cases hlt2 : k < xs.length
    · have hxi := List.getElem?_eq_getElem hlt2
      have hm := List.getElem_mem hlt2
      generalize xs[k] = p at hxi hm
      obtain ⟨b, o2, ia, _, _, l1⟩ := (hs.fr f3 (by simp)).arr.spot (i := k) (x := p.1) (by rw [List.getElem?_map, hxi]; rfl) rfl .i64
      have hst : (xs.take (k + 1)).flatMap (·.2) = (xs.take k).flatMap (·.2) ++ p.2 := by rw [List.take_add_one, hxi]; simp
      have hl1 := lensOf_flat (xs.take (k + 1))
      have hle2 := lensOf_le xs (k + 1)
      rw [hst, List.length_append] at hl1
      (repeat (first | (apply BND_step; exact (l1 (w' := w3) rfl (j := 0) rfl)) | refine gg ?_))
      refine APPEND_slc s3 (((hx p hm).fr f3 (by simp)).src encB_len (by omega)) encB_len encB_one rfl (by omega) (by omega) fun v4 w4 G4 s4 f4 sub4 => ?_
      (repeat refine gg ?_)
      refine hJ2 _ _ hlt2 ⟨G4, by rw [hst]; exact s4, fun b hb => ?_, f3.trans f4 fun b hb => .inr (h3 b hb)⟩
      rcases sub4 b hb with hq | hq
      · exact h3 b hq
      · have := f3.grow; omega
    · (repeat refine gg ?_)
      rw [List.take_of_length_le (by omega)] at s3
      exact hR _ _ _ s3 h3 f3
theorem sum_Put {bv : Value} {bs : List UInt8} (hb : Arr encB 1 w bv bs) (hn : bs.length < 100000000) (hR : ∀ w' v G, Slc encB 1 w' v (putS bs) G → (∀ b ∈ G, hsz w ≤ b) → Fr [] w w' → R v w') : CALL PR F_sum_Put [bv] w R := by
  refine C_sum_Put ?_
  unfold M_sum_Put
  refine sum_Of hb (by omega) fun w1 f1 => ?_
  refine sum_four _ fun w2 v2 G2 s2 g2 f2 => ?_
  obtain ⟨x, rfl⟩ := hb.sv
  obtain ⟨y, rfl⟩ := slc_sv s2
  have f02 := f1.trans' f2
  refine newparts_step encV_len (val := SV.v) (fun _ => rfl) [x, y] rfl rfl fun t w3 s3 f3 z3 => ?_
  have f03 := f02.trans' f3
  refine sl_Concat (xs := [(x, bs), (y, four (crcOf bs))]) s3 (fun p hp => ?_) (by simp [lensOf, four_len]; omega) (by simp) fun w4 v4 G4 s4 g4 f4 => ?_
  · simp only [List.mem_cons, List.not_mem_nil, or_false] at hp
    rcases hp with rfl | rfl
    · exact hb.fr f03 (by simp)
    · exact (s2.fr f3 (by simp)).arr
  · (repeat refine gg ?_)
    refine hR _ _ G4 (by simpa [putS] using s4) (fun b hb => ?_) (f03.trans' f4)
    have := g4 b hb; have := f03.grow; omega
theorem sum_Cut {bv : Value} {bs : List UInt8} (hb : ArrC encB 1 w bv bs) (hn : bs.length < 100000000) (hR0 : ∀ w', Fr [] w w' → cutS bs = none → R (.tuple #[.slice none 0 0, .bool false]) w')
    (hR : ∀ w' v G b, cutS bs = some b → Slc encB 1 w' v b G → (∀ b ∈ G, hsz w ≤ b) → Fr [] w w' → R (.tuple #[v, .bool true]) w') : CALL PR F_sum_Cut [bv] w R := by
  refine C_sum_Cut ?_
  unfold M_sum_Cut
  have esub : binv .int .sub (.int .i64 (bs.length : Int)) (.int .i64 4) = some (.int .i64 ((bs.length : Int) - 4)) := by rw [binv_sub, wrap_i64 (by omega) (by omega)]
  unfold cutS at hR hR0
  by_cases h4 : bs.length < 4
  · (repeat (first | refine BND_step hb.len ?_ | refine gg ?_))
    exact hR0 _ (Fr.drew _ _) (by rw [if_pos h4])
  rw [show (bs.length : Int) - 4 = ((bs.length - 4 : Nat) : Int) by omega] at esub
  rw [if_neg h4] at hR hR0
  obtain ⟨va, ea, aa⟩ := hb.from (lo := bs.length - 4) (by omega)
  obtain ⟨vb, eb, ab⟩ := hb.to (hi := bs.length - 4) (by omega)
  (repeat (first | refine BND_step hb.len ?_ | refine gg ?_))
  have ab' := ab.fr (Fr.drew [] w) (by simp)
  refine sum_Of ab'.arr (by rw [List.length_take]; omega) fun w1 f1 => ?_
  (repeat refine gg ?_)
  refine sum_four _ fun w2 v2 G2 s2 g2 f2 => ?_
  have f02 := ((Fr.drew [] w).trans' f1).trans' f2
  (repeat refine gg ?_)
  refine sl_Equal (aa.fr f02 (by simp)).arr s2.arr (by rw [List.length_drop]; omega) fun w3 f3 => ?_
  have f03 := f02.trans' f3
  by_cases he : bs.drop (bs.length - 4) = four (crcOf (bs.take (bs.length - 4)))
  · rw [decide_eq_true he]
    rw [if_pos he] at hR
    (repeat refine gg ?_)
    refine sl_Clone (ab.fr f03 (by simp)).arr (by rw [List.length_take]; omega) fun w4 v4 G4 s4 g4 f4 => ?_
    (repeat refine gg ?_)
    exact hR _ _ G4 _ rfl s4 (fun b hb => by have := g4 b hb; have := f03.grow; omega) (f03.trans' f4)
  · rw [decide_eq_false he]
    rw [if_neg he] at hR0
    (repeat refine gg ?_)
    exact hR0 _ f03 rfl
end
end Go.Proofs.YtofllgbdphakiaaGreatDoor
end

section
namespace Go.Proofs.YtofllgbdphakiaaGreatDoor
open Go.Den Go.Disk Go.Vint Go.Crc
def encU (x : Nat) : List Value := [.int .u64 (x : Int)]
theorem encU_len (x : Nat) : (encU x).length = 1 := rfl
theorem encU_one (x : Nat) : ∀ u ∈ encU x, u.oneCell' = true := by intro u hu; simp [encU] at hu; subst hu; rfl
theorem slicea_to {len b k : Nat} (h : k ≤ len) : slicea len 1 (.pointer (some ⟨b, 0, none⟩)) none (some (.int .i64 (k : Int))) (some (.int .i64 (k : Int))) = some (.slice (some ⟨b, 0, none⟩) k k) := by
  unfold slicea
  simp only [natOf]
  simp [h]
  intro _
  simp [Addr.add]
def valsB (l : List UInt8) : List Value := l.map fun x => .int .u8 (x.toNat : Int)
theorem set_snocB (pre : List UInt8) (k : Nat) (x : UInt8) : (valsB (pre ++ List.replicate (k + 1) 0)).set pre.length (.int .u8 (x.toNat : Int)) = valsB ((pre ++ [x]) ++ List.replicate k 0) := by
  unfold valsB
  rw [List.map_append, List.set_append_right _ _ (by simp)]
  simp [List.replicate_succ]
theorem shl_le {n i : Nat} (h : n * 2 ^ (7 * i) < 18446744073709551616) (h1 : 128 ≤ n) : i ≤ 8 := by
  refine Nat.le_of_not_lt fun hi => ?_
  have : 2 ^ (7 * 9) ≤ 2 ^ (7 * i) := Nat.pow_le_pow_right (by omega) (by omega)
  have := Nat.mul_le_mul h1 this
  omega
theorem shl_le9 {n i : Nat} (h : n * 2 ^ (7 * i) < 18446744073709551616) (h1 : 1 ≤ n) : i ≤ 9 := by
  refine Nat.le_of_not_lt fun hi => ?_
  have : 2 ^ (7 * 10) ≤ 2 ^ (7 * i) := Nat.pow_le_pow_right (by omega) (by omega)
  have := Nat.mul_le_mul h1 this
  omega
set_option linter.unusedSimpArgs false
set_option linter.unusedVariables false
set_option maxRecDepth 20000
set_option maxHeartbeats 4000000
attribute [local congr] BND_cg COND_cg GEF_cg
attribute [local irreducible] capl slicea load1 loadn iaddr iaddra faddr storev newslice binv lookv mupd mdel mlenv mentry mestore slicev slicev3 slices indexs indexav textv rangev nexts clearv shiftv eqaggv convi buildv pickv lens lenl unv nilchk extractv partn JOIN
section
variable {w : World} {R : Value → World → Prop}
theorem vint_lay (n b : Nat) (T : TypeId) (hn : n < 18446744073709551616) (hb : blk w b = some (.cells (valsB (List.replicate 10 0)).toArray T (0, 0)))
    (hR : ∀ w' k, blk w' b = some (.cells (valsB (layV n ++ List.replicate k 0)).toArray T (0, 0)) → Fr [b] w w' → (layV n).length + k = 10 → R (.int .i64 ((layV n).length : Int)) w') : CALL PR F_vint_lay [.pointer (some ⟨b, 0, none⟩), .int .u64 (n : Int)] w R := by
  refine C_vint_lay ?_
  unfold M_vint_lay
  refine ⟨fun t u w' => ∃ (i m : Nat) (pre : List UInt8), t = .int .u64 (m : Int) ∧ u = .int .i64 (i : Int) ∧ pre.length = i ∧ layV n = pre ++ layV m ∧ m * 2 ^ (7 * i) < 18446744073709551616 ∧ (0 < i → 1 ≤ m) ∧ blk w' b = some (.cells (valsB (pre ++ List.replicate (10 - i) 0)).toArray T (0, 0)) ∧ Fr [b] w w',
    fun t _ _ => match t with | .int _ k => k.toNat | _ => 0, ⟨0, n, [], rfl, rfl, rfl, rfl, by simpa using hn, by omega, by simpa using hb, Fr.refl _ _⟩, ?_⟩
  rintro _ _ _ w1 ⟨i, m, pre, rfl, rfl, hpl, hlay, hbd, hpos, hb1, f1⟩
  have h9 : i ≤ 9 := by
    rcases Nat.eq_zero_or_pos i with h0 | h0
    · omega
    · exact shl_le9 hbd (hpos h0)
  obtain ⟨k, hk⟩ : ∃ k, 10 - i = k + 1 := ⟨9 - i, by omega⟩
  rw [hk] at hb1
  have ia := iaddra_at (len := 10) (b := b) (k := .i64) (i := i) (by omega)
  by_cases hge : (128 : Int) ≤ (m : Int)
  · have h8 := shl_le hbd (by omega)
    have e1 := conv8n m
    have e2 := or8 (x := m % 256) (by omega)
    have e3 := shr7 m
    have e4 : m % 256 % 128 + 128 = (UInt8.ofNat (m % 128 + 128)).toNat := by rw [ofNat_toNat (by omega)]; omega
    rw [e4] at e2
    (repeat refine gg ?_)
    refine fstore_step hb1 ⟨rfl, rfl⟩ (by simp [valsB]; omega) fun w2 b2 f2 _ => ?_
    rw [← hpl, set_snocB] at b2
    (repeat refine gg ?_)
    have hp2 : 2 ^ (7 * (i + 1)) = 2 ^ (7 * i) * 128 := by rw [Nat.mul_add, Nat.pow_add]
    have hle : m / 128 * 2 ^ (7 * (i + 1)) ≤ m * 2 ^ (7 * i) := by
      rw [hp2, ← Nat.mul_assoc, Nat.mul_right_comm]
      exact Nat.mul_le_mul_right _ (by omega)
    refine ⟨⟨i + 1, m / 128, pre ++ [UInt8.ofNat (m % 128 + 128)], rfl, rfl, by simp [hpl], ?_, by omega, fun _ => by omega, ?_, f1.trans' f2⟩, ?_⟩
    · rw [hlay, layV_ge (by omega)]; simp
    · rw [show 10 - (i + 1) = k by omega]; exact b2
    · simp only [Int.toNat_natCast]; omega
  · have e1 := conv8n m
    have e4 : m % 256 = (UInt8.ofNat m).toNat := by rw [ofNat_toNat (by omega)]; omega
    rw [e4] at e1
    (repeat refine gg ?_)
    refine fstore_step hb1 ⟨rfl, rfl⟩ (by simp [valsB]; omega) fun w2 b2 f2 _ => ?_
    rw [← hpl, set_snocB] at b2
    have hl : layV n = pre ++ [UInt8.ofNat m] := by rw [hlay, layV_lt (by omega)]
    rw [← hl] at b2
    have hlen : (layV n).length = i + 1 := by rw [hl]; simp [hpl]
    (repeat refine gg ?_)
    have := hR w2 k b2 (f1.trans' f2) (by omega)
    rwa [hlen] at this
theorem vint_Put (n : Nat) (hn : n < 18446744073709551616) (hR : ∀ w' v, ArrC encB 1 w' v (layV n) → Fr [] w w' → R v w') : CALL PR F_vint_Put [.int .u64 (n : Int)] w R := by
  refine C_vint_Put ?_
  unfold M_vint_Put
  refine NEW_intro fun w1 b1 f1 z1 => ?_
  refine vint_lay n (hsz w) _ hn b1 fun w2 k b2 f2 hk => ?_
  have e := slicea_to (b := hsz w) (show (layV n).length ≤ 10 by omega)
  (repeat refine gg ?_)
  refine hR _ _ ⟨⟨_, _, rfl, .inr ⟨hsz w, 0, _, _, _, rfl, b2, fun i x hx => ?_⟩⟩, ⟨_, _, _, rfl, Nat.le_refl _⟩⟩ (f1.trans f2 (by simp))
  have hi := (List.getElem?_eq_some_iff.1 hx).1
  refine ⟨by simp [valsB]; omega, fun j hj => ?_⟩
  obtain rfl : j = 0 := by omega
  simp only [valsB, Nat.zero_add, Nat.mul_one, Nat.add_zero, List.getElem?_toArray, List.getElem?_map]
  rw [List.getElem?_append_left hi, hx]
  rfl
theorem vint_All {lv : Value} {ns : List Nat} (hl : Arr encU 1 w lv ns) (hs : ∀ n ∈ ns, n < 18446744073709551616) (hn : ns.length < 1000000) (hR : ∀ w' v G, Slc encB 1 w' v (ns.flatMap layV) G → (∀ b ∈ G, hsz w ≤ b) → Fr [] w w' → R v w') : CALL PR F_vint_All [lv] w R := by
  refine C_vint_All ?_
  unfold M_vint_All
  (repeat (first | refine BND_step hl.len ?_ | refine gg ?_))
  refine loop_up2 (o := .slice none 0 0) 0 ns.length (fun o i w' => ∃ H, Slc encB 1 w' o ((ns.take i).flatMap layV) H ∧ (∀ b ∈ H, hsz w ≤ b) ∧ Fr [] w w' ∧ ((ns.take i).flatMap layV).length ≤ i * 10) ⟨[], Slc.nil _ _ _, by simp, Fr.refl _ _, by simp⟩ (by omega) ?_
  rintro o i w1 - hi ⟨H, s1, h1, f1, hlen⟩ J m hJ
  by_cases hlt : i < ns.length
  · have hx := List.getElem?_eq_getElem hlt
    have hm := hs _ (List.getElem_mem hlt)
    generalize ns[i] = x at hx hm
    obtain ⟨b, o2, ia, _, _, l1⟩ := (hl.fr f1 (by simp)).spot hx rfl .i64
    have hle := layV_le x hm
    have hst : (ns.take (i + 1)).flatMap layV = (ns.take i).flatMap layV ++ layV x := by rw [List.take_add_one, hx]; simp
    (repeat (first | (apply BND_step; exact (l1 (w' := w1) rfl (j := 0) rfl)) | refine gg ?_))
    refine vint_Put x hm fun w2 v2 a2 f2 => ?_
    refine APPEND_slc (s1.fr f2 (by simp)) (a2.arr.src encB_len (by omega)) encB_len encB_one rfl (by omega) (by omega) fun v3 w3 G3 s3 f3 sub3 => ?_
    (repeat refine gg ?_)
    have f12 := f1.trans' f2
    refine hJ _ _ hlt ⟨G3, by rw [hst]; exact s3, fun b hb => ?_, f12.trans f3 fun b hb => .inr (h1 b hb), by rw [hst, List.length_append]; omega⟩
    rcases sub3 b hb with hq | hq
    · exact h1 b hq
    · have := f12.grow; omega
  · (repeat refine gg ?_)
    rw [List.take_of_length_le (by omega)] at s1
    exact hR _ _ H s1 h1 f1
theorem vint_Get {bv : Value} {bs : List UInt8} (hb : Arr encB 1 w bv bs) (hn : bs.length < 1000000000) (hR : R (.tuple #[.int .u64 ((getV bs).1 : Int), .int .i64 ((getV bs).2.1 : Int), .int .i64 (getV bs).2.2]) w) : CALL PR F_vint_Get [bv] w R := by
  refine C_vint_Get ?_
  unfold M_vint_Get
  unfold getV at hR
  (repeat (first | refine BND_step hb.len ?_ | refine gg ?_))
  refine loop_up2 (o := .int .u64 0) 0 bs.length (fun o i w' => ∃ n : Nat, o = .int .u64 (n : Int) ∧ w' = w ∧ getL bs 0 0 = getL (bs.drop i) i n ∧ n < 2 ^ (7 * i) ∧ i ≤ 9) ⟨0, rfl, rfl, rfl, by simp, by omega⟩ (by omega) ?_
  rintro o i w1 - hi ⟨n, rfl, rfl, hg, hnb, h9⟩ J m hJ
  by_cases hlt : i < bs.length
  · have hx := List.getElem?_eq_getElem hlt
    have hdr : bs.drop i = bs[i] :: bs.drop (i + 1) := List.drop_eq_getElem_cons hlt
    generalize bs[i] = c at hx hdr
    obtain ⟨b, o2, ia, _, _, l1⟩ := hb.spot hx rfl .i64
    rw [hg, hdr] at hR
    rw [hdr] at hg
    simp only [getL] at hR hg
    have hcl := c.toNat_lt
    have hp2 : 2 ^ (7 * (i + 1)) = 2 ^ (7 * i) * 128 := by rw [Nat.mul_add, Nat.pow_add]
    (repeat (first | (apply BND_step; exact (l1 (w' := w1) rfl (j := 0) rfl)) | refine gg ?_))
    have bad : i = 9 ∧ 1 < c.toNat → R (.tuple #[.int .u64 0, .int .i64 0, .int .i64 2]) w1 := fun h => by rw [if_pos h] at hR; exact hR
    have rest : ¬ (i = 9 ∧ 1 < c.toNat) → (BND (binv .int .rem (.int .u8 (c.toNat : Int)) (Value.int .u8 128)) fun t23_47 =>
        BND (convi .u64 t23_47) fun t24_48 =>
        BND (binv .int .mul (Value.int .i64 7) (.int .i64 (i : Int))) fun t26_49 =>
        BND (shiftv .shl t24_48 t26_49) fun t27_50 =>
        BND (binv .int .or (.int .u64 (n : Int)) t27_50) fun t28_51 =>
        BND (binv .int .geq (.int .u8 (c.toNat : Int)) (Value.int .u8 128)) fun t30_52 =>
        COND t30_52
        (BND (binv .int .add (.int .i64 (i : Int)) (Value.int .i64 1)) fun t40_53 =>
        (J t28_51 t40_53 w1 ∧ m t28_51 t40_53 w1 < m (.int .u64 (n : Int)) (.int .i64 (i : Int)) w1))
        (BND (binv .int .eql (.int .u8 (c.toNat : Int)) (Value.int .u8 0)) fun t32_54 =>
        BND (grd (isB t32_54 true) (some (.int .i64 (i : Int)))) fun t34_55 =>
        BND (grd (isB t32_54 true) (binv .int .gtr t34_55 (Value.int .i64 0))) fun t35_56 =>
        BND (pickv t32_54 t35_56 (Value.bool false)) fun t36_57 =>
        COND t36_57
        (R (.tuple #[(Value.int .u64 0), (Value.int .i64 0), (Value.int .i64 2)]) w1)
        (BND (binv .int .add (.int .i64 (i : Int)) (Value.int .i64 1)) fun t39_58 =>
        R (.tuple #[t28_51, t39_58, (Value.int .i64 0)]) w1))) := by
      intro hno
      rw [if_neg hno] at hR hg
      have hsmall : n + c.toNat % 128 * 2 ^ (7 * i) < 18446744073709551616 := by
        by_cases hi9 : i = 9
        · subst hi9
          have : c.toNat % 128 ≤ 1 := by omega
          have := Nat.mul_le_mul_right (2 ^ (7 * 9)) this
          omega
        · have : 2 ^ (7 * i) ≤ 2 ^ (7 * 8) := Nat.pow_le_pow_right (by omega) (by omega)
          have : c.toNat % 128 * 2 ^ (7 * i) ≤ 127 * 2 ^ (7 * 8) := Nat.mul_le_mul (by omega) this
          omega
      have e1 := rem128 c
      have e2 := convu64 (k := .u8) (x := c.toNat % 128) (by omega)
      have e3 : binv .int .mul (.int .i64 7) (.int .i64 (i : Int)) = some (.int .i64 ((7 * i : Nat) : Int)) := by rw [binv_mul, wrap_i64 (by omega) (by omega)]; congr 2
      have e4 := shl7 (x := c.toNat % 128) (i := i) (by omega) h9
      have e5 := or64 (x := c.toNat % 128) hnb hsmall
      (repeat refine gg ?_)
      by_cases hge : (128 : Int) ≤ (c.toNat : Int)
      · rw [if_pos (by omega)] at hg
        (repeat refine gg ?_)
        refine hJ _ _ hlt ⟨_, rfl, rfl, hg, ?_, ?_⟩
        · have : c.toNat % 128 * 2 ^ (7 * i) ≤ 127 * 2 ^ (7 * i) := Nat.mul_le_mul_right _ (by omega)
          omega
        · omega
      · rw [if_neg (by omega)] at hR
        by_cases hz : (c.toNat : Int) = 0
        · by_cases hi0 : (0 : Int) < (i : Int)
          · rw [if_pos ⟨by omega, by omega⟩] at hR
            (repeat refine gg ?_)
            exact hR
          · rw [if_neg (by omega)] at hR
            (repeat refine gg ?_)
            exact hR
        · rw [if_neg (by omega)] at hR
          (repeat refine gg ?_)
          exact hR
    by_cases hi9 : i = 9
    · by_cases hc1 : (1 : Int) < (c.toNat : Int)
      · (repeat refine gg ?_)
        exact bad ⟨hi9, by omega⟩
      · (repeat refine gg ?_)
        exact rest (by omega)
    · (repeat refine gg ?_)
      exact rest (by omega)
  · (repeat refine gg ?_)
    rw [hg, List.drop_eq_nil_of_le (by omega)] at hR
    simpa [getL] using hR
end
end Go.Proofs.YtofllgbdphakiaaGreatDoor
end

section
namespace Go.Frame
open Go.Den Go.Crc
abbrev Fra := UInt8 × List UInt8
def frB (x : Fra) : List UInt8 := putS [x.1, UInt8.ofNat (x.2.length % 256), UInt8.ofNat (x.2.length / 256 % 256)] ++ putS x.2
def sizeOf_ (h : List UInt8) : Nat := (h.getD 1 0).toNat + (h.getD 2 0).toNat * 256
def frRead (b : List UInt8) : Fra × Nat × Int :=
  if b.length < 7 then ((0, []), 0, 3) else
  match cutS (b.take 7) with
  | none => ((0, []), 0, 8)
  | some h => if 400 < sizeOf_ h then ((0, []), 0, 2) else if b.length < 11 + sizeOf_ h then ((0, []), 0, 3) else
    match cutS ((b.take (11 + sizeOf_ h)).drop 7) with
    | none => ((0, []), 0, 8)
    | some body => ((h.getD 0 0, body), 11 + sizeOf_ h, 0)
theorem frB_len (x : Fra) : (frB x).length = 11 + x.2.length := by
  unfold frB; rw [List.length_append, putS_len, putS_len]; simp; omega
theorem read_frB (x : Fra) (h : x.2.length ≤ 400) (r : List UInt8) : frRead (frB x ++ r) = (x, 11 + x.2.length, 0) := by
  unfold frRead
  rw [List.length_append, frB_len, if_neg (by omega)]
  have hp : (putS [x.1, UInt8.ofNat (x.2.length % 256), UInt8.ofNat (x.2.length / 256 % 256)]).length = 7 := by rw [putS_len]; rfl
  have e1 : (frB x ++ r).take 7 = putS [x.1, UInt8.ofNat (x.2.length % 256), UInt8.ofNat (x.2.length / 256 % 256)] := by
    unfold frB
    rw [List.append_assoc, List.take_append_of_le_length (by omega), List.take_of_length_le (by omega)]
  have es : sizeOf_ [x.1, UInt8.ofNat (x.2.length % 256), UInt8.ofNat (x.2.length / 256 % 256)] = x.2.length := by
    unfold sizeOf_
    simp only [List.getD_cons_succ, List.getD_cons_zero]
    rw [UInt8.toNat_ofNat', UInt8.toNat_ofNat']
    omega
  have e2 : ((frB x ++ r).take (11 + x.2.length)).drop 7 = putS x.2 := by
    rw [List.take_append_of_le_length (by rw [frB_len]; omega), List.take_of_length_le (by rw [frB_len]; omega)]
    unfold frB
    rw [List.drop_append_of_le_length (by omega), List.drop_of_length_le (by omega), List.nil_append]
  rw [e1, cut_put]
  simp only
  rw [es, if_neg (by omega), if_neg (by omega), e2, cut_put]
  rfl
theorem cut_len {b c : List UInt8} (h : cutS b = some c) : b.length = c.length + 4 := by
  unfold cutS at h
  split at h
  · cases h
  · split at h
    · cases h; rw [List.length_take]; omega
    · cases h
theorem read_ok {b : List UInt8} (h : (frRead b).2.2 = 0) : 11 ≤ (frRead b).2.1 ∧ (frRead b).2.1 ≤ b.length ∧ (frRead b).1.2.length + 11 = (frRead b).2.1 ∧ (frRead b).1.2.length ≤ 400 := by
  unfold frRead at h ⊢
  split at h
  · simp at h
  · rename_i h7
    rw [if_neg h7]
    split at h
    · simp at h
    · rename_i hh hc
      split at h
      · simp at h
      · rename_i h4
        split at h
        · simp at h
        · rename_i h5
          split at h
          · simp at h
          · rename_i body hb
            have := cut_len hb
            rw [List.length_drop, List.length_take] at this
            simp only [hc, h4, h5, hb, if_false]
            omega
def frAll (b : List UInt8) (at_ : Nat) : List Fra × Nat × Int :=
  if _ : b = [] then ([], at_, 0) else if _ : (frRead b).2.2 = 0 then
    let q := frAll (b.drop (frRead b).2.1) (at_ + (frRead b).2.1)
    ((frRead b).1 :: q.1, q.2)
  else ([], at_, (frRead b).2.2)
termination_by b.length
decreasing_by
  rename_i h1 h2
  have := read_ok h2
  rw [List.length_drop]
  omega
theorem frAll_nil (k : Nat) : frAll [] k = ([], k, 0) := by rw [frAll]; simp
theorem frAll_ok {b : List UInt8} (k : Nat) (h1 : b ≠ []) (h2 : (frRead b).2.2 = 0) : frAll b k = ((frRead b).1 :: (frAll (b.drop (frRead b).2.1) (k + (frRead b).2.1)).1, (frAll (b.drop (frRead b).2.1) (k + (frRead b).2.1)).2) := by
  rw [frAll]; simp [h1, h2]
theorem frAll_bad {b : List UInt8} (k : Nat) (h1 : b ≠ []) (h2 : (frRead b).2.2 ≠ 0) : frAll b k = ([], k, (frRead b).2.2) := by
  rw [frAll]; simp [h1, h2]
theorem frAll_cons (x : Fra) (h : x.2.length ≤ 400) (r : List UInt8) (k : Nat) : frAll (frB x ++ r) k = (x :: (frAll r (k + (11 + x.2.length))).1, (frAll r (k + (11 + x.2.length))).2) := by
  have hr := read_frB x h r
  have hne : frB x ++ r ≠ [] := by
    intro e
    have := congrArg List.length e
    rw [List.length_append, frB_len] at this
    simp at this
  rw [frAll_ok k hne (by rw [hr]), hr]
  have : (frB x ++ r).drop (11 + x.2.length) = r := by rw [← frB_len x, List.drop_left]
  simp only [this]
theorem frAll_small : ∀ (n : Nat) (b : List UInt8) (k : Nat), b.length = n → ∀ x ∈ (frAll b k).1, x.2.length ≤ 400 := by
  intro n
  induction n using Nat.strongRecOn with
  | _ n ih =>
    intro b k hb x hx
    by_cases h1 : b = []
    · subst h1; rw [frAll_nil] at hx; simp at hx
    · by_cases h2 : (frRead b).2.2 = 0
      · rw [frAll_ok k h1 h2] at hx
        have hok := read_ok h2
        rcases List.mem_cons.1 hx with rfl | hx
        · omega
        · exact ih _ (by rw [List.length_drop]; omega) _ _ rfl x hx
      · rw [frAll_bad k h1 h2] at hx; simp at hx
/-! ## The words of numbers -/
theorem ofI64 {y : Nat} (h : y < 18446744073709551616) : (BitVec.ofInt 64 (y : Int)).toNat = y := by
  rw [BitVec.toNat_ofInt]
  omega
theorem and255 {n : Nat} (h : n < 9223372036854775808) : binv .int .and (.int .i64 (n : Int)) (.int .i64 255) = some (.int .i64 ((n % 256 : Nat) : Int)) := by
  show some (Value.int .i64 (IntKind.i64.wrap ((BitVec.ofInt 64 (n : Int) &&& BitVec.ofInt 64 255).toNat : Int))) = _
  have e1 : (BitVec.ofInt 64 (n : Int)).toNat = n := ofI64 (by omega)
  have e2 : (BitVec.ofInt 64 255).toNat = 2 ^ 8 - 1 := by decide
  rw [BitVec.toNat_and, e1, e2, Nat.and_two_pow_sub_one_eq_mod, wrap_i64 (by omega) (by omega)]
theorem shr8 (n : Nat) : shiftv .shr (.int .i64 (n : Int)) (.int .u64 8) = some (.int .i64 ((n / 256 : Nat) : Int)) := by
  simp only [shiftv]
  rw [if_pos (by omega)]
  congr 2
  have : min (Int.toNat 8) IntKind.i64.bits = 8 := by decide
  rw [this, Int.fdiv_eq_ediv_of_nonneg _ (by decide)]
  norm_cast
theorem conv8i (m : Nat) : convi .u8 (.int .i64 (m : Int)) = some (.int .u8 ((m % 256 : Nat) : Int)) := by
  simp only [convi]; rw [wrap_u8]
theorem convi64 {k : IntKind} {x : Nat} (h : x < 9223372036854775808) : convi .i64 (.int k (x : Int)) = some (.int .i64 (x : Int)) := by
  simp only [convi]; rw [wrap_i64 (by omega) (by omega)]
theorem shl8 {x : Nat} (h : x < 256) : shiftv .shl (.int .i64 (x : Int)) (.int .u64 8) = some (.int .i64 ((x * 256 : Nat) : Int)) := by
  simp only [shiftv]
  rw [if_pos (by omega)]
  have e : min (Int.toNat 8) IntKind.i64.bits = 8 := by decide
  rw [e, show (x : Int) * 2 ^ 8 = ((x * 256 : Nat) : Int) by rw [Int.natCast_mul]; rfl, wrap_i64 (by omega) (by omega)]
theorem or256 {n x : Nat} (hn : n < 256) (hx : x < 256) : binv .int .or (.int .i64 (n : Int)) (.int .i64 ((x * 256 : Nat) : Int)) = some (.int .i64 ((n + x * 256 : Nat) : Int)) := by
  show some (Value.int .i64 (IntKind.i64.wrap ((BitVec.ofInt 64 (n : Int) ||| BitVec.ofInt 64 ((x * 256 : Nat) : Int)).toNat : Int))) = _
  have e1 : ∀ y : Nat, y < 9223372036854775808 → (BitVec.ofInt 64 (y : Int)).toNat = y := fun y hy => ofI64 (by omega)
  rw [BitVec.toNat_or, e1 n (by omega), e1 _ (by omega)]
  have e2 : n ||| x * 256 = n + x * 256 := by
    rw [Nat.or_comm, Nat.mul_comm, show 256 = 2 ^ 8 from rfl, ← Nat.two_pow_add_eq_or_of_lt (i := 8) hn]; omega
  rw [e2, wrap_i64 (by omega) (by omega)]
end Go.Frame
end

section
namespace Go.Proofs.YtofllgbdphakiaaGreatDoor
open Go.Den Go.Disk Go.Vint Go.Crc Go.Frame
def encFr (x : UInt8 × SV) : List Value := [.int .u8 (x.1.toNat : Int), x.2.v]
theorem encFr_len (x : UInt8 × SV) : (encFr x).length = 2 := rfl
theorem encFr_one (x : UInt8 × SV) : ∀ u ∈ encFr x, u.oneCell' = true := by intro u hu; simp [encFr] at hu; rcases hu with rfl | rfl <;> rfl
theorem sv_one (x : SV) : x.v.cells = #[x.v] ∧ x.v.oneCell' = true := ⟨rfl, rfl⟩
/-- frames in memory: the row, and each body. -/
def FrmL (w : World) (v : Value) (xs : List Fra) (G B : List Nat) : Prop :=
  (∃ cs : List (UInt8 × SV), Slc encFr 2 w v cs G ∧ cs.length = xs.length ∧ ∀ (i : Nat) (x : Fra), xs[i]? = some x → ∃ (s : SV) (H : List Nat), cs[i]? = some (x.1, s) ∧ Slc encB 1 w s.v x.2 H ∧ ∀ b ∈ H, b ∈ B) ∧ ∀ b ∈ B, b ∉ G ∧ b < hsz w
theorem FrmL.fr {w w' : World} {v : Value} {xs : List Fra} {G B : List Nat} (h : FrmL w v xs G B) (f : Fr [] w w') : FrmL w' v xs G B := by
  obtain ⟨⟨cs, h1, h2, h3⟩, h4⟩ := h
  exact ⟨⟨cs, h1.fr f (by simp), h2, fun i x hx => by obtain ⟨s, H, a, b, c⟩ := h3 i x hx; exact ⟨s, H, a, b.fr f (by simp), c⟩⟩, fun b hb => ⟨(h4 b hb).1, Nat.lt_of_lt_of_le (h4 b hb).2 f.grow⟩⟩
theorem FrmL.len {w : World} {v : Value} {xs : List Fra} {G B : List Nat} (h : FrmL w v xs G B) : lenl v = some (.int .i64 xs.length) := by
  obtain ⟨⟨cs, h1, h2, _⟩, _⟩ := h
  rw [h1.len, h2]
theorem FrmL.nil (w : World) : FrmL w (.slice none 0 0) [] [] [] := ⟨⟨[], Slc.nil _ _ _, rfl, by simp⟩, by simp⟩
set_option linter.unusedSimpArgs false
set_option linter.unusedVariables false
set_option maxRecDepth 20000
set_option maxHeartbeats 4000000
attribute [local congr] BND_cg COND_cg GEF_cg
attribute [local irreducible] capl slicea load1 loadn iaddr iaddra faddr storev newslice binv lookv mupd mdel mlenv mentry mestore slicev slicev3 slices indexs indexav textv rangev nexts clearv shiftv eqaggv convi buildv pickv lens lenl unv nilchk extractv partn JOIN
section
variable {w : World} {R : Value → World → Prop}
theorem frame_low (n : Nat) (h : n < 9223372036854775808) (hR : R (.tuple #[.int .u8 ((n % 256 : Nat) : Int), .int .i64 ((n / 256 : Nat) : Int)]) w) : CALL PR F_frame_low_int [.int .i64 (n : Int)] w R := by
  refine C_frame_low_int ?_
  unfold M_frame_low_int
  have e2 := conv8i (n % 256)
  rw [Nat.mod_mod] at e2
  (repeat (first | refine BND_step (and255 h) ?_ | refine BND_step (shr8 n) ?_ | refine gg ?_))
  exact hR
theorem frame_Bytes {bv : SV} {k : UInt8} {body : List UInt8} (hb : Arr encB 1 w bv.v body) (hn : body.length < 1000000) (hR0 : ∀ w', 400 < body.length → Fr [] w w' → R (.tuple #[.slice none 0 0, .int .i64 4]) w')
    (hR : ∀ w' v G, body.length ≤ 400 → Slc encB 1 w' v (frB (k, body)) G → (∀ b ∈ G, hsz w ≤ b) → Fr [] w w' → R (.tuple #[v, .int .i64 0]) w') : CALL PR F_frame_Bytes [.agg (encFr (k, bv)).toArray] w R := by
  refine C_frame_Bytes ?_
  unfold M_frame_Bytes
  refine NEW_intro fun w1 b1 f1 z1 => ?_
  replace b1 : blk w1 (hsz w) = some (.cells (encFr (k, bv)).toArray 133 (0, 0)) := b1
  have hb1 := hb.fr f1 (by simp)
  by_cases h4 : 400 < body.length
  · (repeat (first | refine BND_step hb1.len ?_ | refine gg ?_))
    exact hR0 _ h4 f1
  · (repeat (first | refine BND_step hb1.len ?_ | refine gg ?_))
    refine frame_low _ (by omega) ?_
    (repeat refine gg ?_)
    refine frame_low _ (by omega) ?_
    (repeat refine gg ?_)
    have b1' : blk w1.drew (hsz w) = some (.cells (encFr (k, bv)).toArray 133 (0, 0)) := b1
    refine ⟨fun _ w' => blk w' (hsz w) = some (.cells (encFr (k, bv)).toArray 133 (0, 0)), b1', ?_⟩
    (repeat refine gg ?_)
    have e1 : ((body.length % 256 : Nat) : Int) = ((UInt8.ofNat (body.length % 256)).toNat : Int) := by rw [ofNat_toNat (by omega)]
    have e2 : ((body.length / 256 % 256 : Nat) : Int) = ((UInt8.ofNat (body.length / 256 % 256)).toNat : Int) := by rw [ofNat_toNat (by omega)]
    rw [e1, e2]
    refine newparts_step encB_len (val := fun x : UInt8 => Value.int .u8 (x.toNat : Int)) (fun _ => rfl) [k, UInt8.ofNat (body.length % 256), UInt8.ofNat (body.length / 256 % 256)] rfl rfl fun t w4 s4 f4 z4 => ?_
    have b4 := f4.some (by simp) b1'
    refine ⟨b4, ?_⟩
    refine sum_Put s4.arr (by simp) fun w5 v5 G5 s5 g5 f5 => ?_
    refine ⟨f5.some (by simp) b4, ?_⟩
    have f15 := (((Fr.drew [] w1).trans' f4).trans' f5)
    refine sum_Put (hb1.fr f15 (by simp)) (by omega) fun w6 v6 G6 s6 g6 f6 => ?_
    have hp : (putS [k, UInt8.ofNat (body.length % 256), UInt8.ofNat (body.length / 256 % 256)]).length = 7 := by rw [putS_len]; rfl
    have hp2 := putS_len body
    refine APPEND_slc (s5.fr f6 (by simp)) (s6.loads encB_len) encB_len encB_one rfl (by omega) (by omega) fun v7 w7 G7 s7 f7 sub7 => ?_
    (repeat refine gg ?_)
    have f06 := (f1.trans' f15).trans' f6
    have gr4 := (f1.trans' ((Fr.drew [] w1).trans' f4)).grow
    refine hR _ _ G7 (by omega) s7 (fun b hb => ?_) (f06.trans f7 fun b hb => .inr (by have := g5 b hb; omega))
    rcases sub7 b hb with hq | hq
    · have := g5 b hq; omega
    · have := f06.grow; omega
theorem frame_Read {bv : Value} {bs : List UInt8} (hb : ArrC encB 1 w bv bs) (hn : bs.length < 100000000)
    (hR : ∀ w' v G, Slc encB 1 w' (SV.v v) (frRead bs).1.2 G → (∀ b ∈ G, hsz w ≤ b) → Fr [] w w' → R (.tuple #[.agg (encFr ((frRead bs).1.1, v)).toArray, .int .i64 ((frRead bs).2.1 : Int), .int .i64 (frRead bs).2.2]) w') : CALL PR F_frame_Read [bv] w R := by
  refine C_frame_Read ?_
  unfold M_frame_Read
  refine NEW_intro fun w1 b1 f1 z1 => ?_
  replace b1 : blk w1 (hsz w) = some (.cells [Value.int .u8 0, .slice none 0 0].toArray 133 (0, 0)) := b1
  -- what comes of an error
  have bad : ∀ (w3 : World) (e : Int), Fr [] w w3 → blk w3 (hsz w) = some (.cells [Value.int .u8 0, .slice none 0 0].toArray 133 (0, 0)) → frRead bs = ((0, []), 0, e) →
      (BND (buildv #[(Value.int .u8 0), (Value.slice none 0 0)] []) fun t => BND (storev 2 w3 (.pointer (some ⟨hsz w, 0, none⟩)) t) fun w4 => BND (loadn 2 w4 (.pointer (some ⟨hsz w, 0, none⟩))) fun r => R (.tuple #[r, (Value.int .i64 0), (Value.int .i64 e)]) w4) := by
    intro w3 e f3 b3 he
    rw [he] at hR
    (repeat (first | refine gg ?_ | (apply BND_build ([.int .u8 0, .slice none 0 0]); exact rfl)))
    refine put_step (n := 2) (vs := [.int .u8 0, .slice none 0 0]) b3 rfl rfl (by intro u hu; simp at hu; rcases hu with rfl | rfl <;> rfl) (by simp) fun w4 b4 f4 _ => ?_
    (repeat (first | refine BND_step (loadn_all' b4 rfl) ?_ | refine gg ?_))
    exact hR w4 ⟨none, 0, 0⟩ [] (Slc.nil _ _ _) (by simp) (f3.trans f4 fun b hb => .inr (by simp at hb; omega))
  have hb1 := hb.fr f1 (by simp)
  by_cases h7 : bs.length < 7
  · (repeat (first | refine BND_step hb1.len ?_ | refine gg ?_))
    exact bad w1 3 f1 b1 (by unfold frRead; rw [if_pos h7])
  obtain ⟨va, ea, aa⟩ := hb1.to (hi := 7) (by omega)
  (repeat (first | refine BND_step hb1.len ?_ | refine gg ?_))
  refine sum_Cut aa (by rw [List.length_take]; omega) (fun w3 f3 hc => ?_) fun w3 v3 G3 h hc s3 g3 f3 => ?_
  · (repeat refine gg ?_)
    refine bad w3 8 (f1.trans' f3) (f3.some (by simp) b1) ?_
    unfold frRead
    rw [if_neg h7, hc]
  have hh : h.length = 3 := by
    have := cut_len hc
    rw [List.length_take] at this; omega
  obtain ⟨h0, h1, h2, rfl⟩ : ∃ a b c, h = [a, b, c] := by
    match h, hh with
    | [a, b, c], _ => exact ⟨a, b, c, rfl⟩
  have hfr : frRead bs = (if 400 < sizeOf_ [h0, h1, h2] then ((0, []), 0, 2) else if bs.length < 11 + sizeOf_ [h0, h1, h2] then ((0, []), 0, 3) else
      match cutS ((bs.take (11 + sizeOf_ [h0, h1, h2])).drop 7) with
      | none => ((0, []), 0, 8)
      | some body => ((h0, body), 11 + sizeOf_ [h0, h1, h2], 0) : Fra × Nat × Int) := by
    unfold frRead
    rw [if_neg h7, hc]; rfl
  have hsz' : sizeOf_ [h0, h1, h2] = h1.toNat + h2.toNat * 256 := rfl
  generalize hN : sizeOf_ [h0, h1, h2] = N at hfr hsz'
  have s3' : Slc encB 1 w3.drew v3 [h0, h1, h2] G3 := s3.congr fun _ _ => rfl
  obtain ⟨p1, o1, i1, _, _, l1⟩ := s3'.arr.spot (i := 1) (x := h1) rfl rfl .i64
  obtain ⟨p2, o2, i2, _, _, l2⟩ := s3'.arr.spot (i := 2) (x := h2) rfl rfl .i64
  have c1 := h1.toNat_lt
  have c2 := h2.toNat_lt
  have f03 := f1.trans' f3
  have f03d := f03.trans' (Fr.drew [] w3)
  have b3 := f3.some (by simp) b1
  have b3d : blk w3.drew (hsz w) = some (.cells [Value.int .u8 0, .slice none 0 0].toArray 133 (0, 0)) := b3
  have e1 := convi64 (k := .u8) (x := h1.toNat) (by omega)
  have e2 := convi64 (k := .u8) (x := h2.toNat) (by omega)
  have e3 := shl8 (x := h2.toNat) (by omega)
  have e4 := or256 (n := h1.toNat) (x := h2.toNat) (by omega) (by omega)
  rw [← hsz'] at e4
  have e5 : binv .int .add (.int .i64 7) (.int .i64 (N : Int)) = some (.int .i64 ((7 + N : Nat) : Int)) := addn_ (n := 7) (m := N) (by omega)
  have e6 : binv .int .add (.int .i64 ((7 + N : Nat) : Int)) (.int .i64 4) = some (.int .i64 ((11 + N : Nat) : Int)) := (addn_ (n := 7 + N) (m := 4) (by omega)).trans (by congr 3; omega)
  (repeat (first | (apply BND_step; exact (l1 (w' := w3.drew) rfl (j := 0) rfl)) | (apply BND_step; exact (l2 (w' := w3.drew) rfl (j := 0) rfl)) | refine gg ?_))
  by_cases h4 : 400 < N
  · (repeat refine gg ?_)
    exact bad w3.drew 2 f03d b3d (by rw [hfr, if_pos h4])
  have hbd := hb.fr f03d (by simp)
  by_cases h5 : bs.length < 11 + N
  · (repeat (first | refine BND_step hbd.len ?_ | refine gg ?_))
    exact bad w3.drew 3 f03d b3d (by rw [hfr, if_neg h4, if_pos h5])
  obtain ⟨vb, eb, ab⟩ := hbd.mid (lo := 7) (hi := 11 + N) (by omega) (by omega)
  (repeat (first | refine BND_step hbd.len ?_ | refine gg ?_))
  rw [if_neg h4, if_neg h5] at hfr
  refine sum_Cut ab (by rw [List.length_drop, List.length_take]; omega) (fun w7 f7 hc2 => ?_) fun w7 v7 G7 body hc2 s7 g7 f7 => ?_
  · (repeat refine gg ?_)
    exact bad w7 8 (f03d.trans' f7) (f7.some (by simp) b3d) (by rw [hfr, hc2])
  · rw [hc2] at hfr
    simp only at hfr
    rw [hfr] at hR
    obtain ⟨p0, o0, i0, _, _, l0⟩ := (s3'.fr f7 (by simp)).arr.spot (i := 0) (x := h0) rfl rfl .i64
    obtain ⟨x7, rfl⟩ := slc_sv s7
    have b7 := f7.some (by simp) b3d
    (repeat (first | (apply BND_step; exact (l0 (w' := w7) rfl (j := 0) rfl)) | refine gg ?_ | (apply BND_build ([.int .u8 (h0.toNat : Int), x7.v]); exact rfl)))
    refine put_step (n := 2) (vs := [.int .u8 (h0.toNat : Int), x7.v]) b7 rfl rfl (by intro u hu; simp at hu; rcases hu with rfl | rfl <;> rfl) (by simp) fun w9 b9 f9 _ => ?_
    (repeat (first | refine BND_step (loadn_all' b9 rfl) ?_ | refine gg ?_))
    have gr := f03d.grow
    refine hR w9 x7 G7 (s7.fr f9 (fun b hb hb' => by have := g7 b hb; have := f1.grow; have := f3.grow; simp at hb'; have e : hsz w3.drew = hsz w3 := rfl; omega)) (fun b hb => by have := g7 b hb; omega) ((f03d.trans' f7).trans f9 fun b hb => .inr (by simp at hb; omega))
theorem frm_push {E E' bytes : Nat} {zero : Array Value} {zero' : Value} {k : Value → World → Prop} {o : Value} {xs : List Fra} {G B H : List Nat} {s : SV} {x : Fra} (h : FrmL w o xs G B) (hs : Slc encB 1 w s.v x.2 H) (hH : ∀ b ∈ H, b ∉ G) (hz : zero'.cells.size = 2) (hb : bytes ≤ 1000) (hn : xs.length < 1000000000)
    (K : ∀ v' w' G', FrmL w' v' (xs ++ [x]) G' (H ++ B) → (∀ b ∈ G', b ∈ G ∨ hsz w ≤ b) → Fr G w w' → k v' w') : BND (newslice E zero 2 1 [(0, 2, .agg (encFr (x.1, s)).toArray)] w) fun p_ => NEW p_ fun t w1 => APPEND E' 2 bytes zero' o t w1 k := by
  obtain ⟨⟨cs, h1, h2, h3⟩, h4⟩ := h
  refine push_step (enc := encFr) (x := (x.1, s)) h1 encFr_len encFr_one rfl hz hb (by omega) fun v' w' G' s' g' f' => ?_
  refine K v' w' G' ⟨⟨cs ++ [(x.1, s)], s', by simp [h2], fun i y hy => ?_⟩, fun b hb => ?_⟩ g' f'
  · by_cases hi : i < xs.length
    · rw [List.getElem?_append_left hi] at hy
      obtain ⟨s2, H2, a, b, c⟩ := h3 i y hy
      exact ⟨s2, H2, by rw [List.getElem?_append_left (by omega)]; exact a, b.fr f' (fun d hd => (h4 d (c d hd)).1), fun d hd => by simp [c d hd]⟩
    · have : i = xs.length := by have := (List.getElem?_eq_some_iff.1 hy).1; simp at this; omega
      subst this
      simp at hy; subst hy
      exact ⟨s, H, by rw [List.getElem?_append_right (by omega)]; simp [h2], hs.fr f' hH, fun d hd => by simp [hd]⟩
  · have hlt : b < hsz w := by
      rcases List.mem_append.1 hb with hb | hb
      · exact hs.lt b hb
      · exact (h4 b hb).2
    refine ⟨?_, Nat.lt_of_lt_of_le hlt f'.grow⟩
    intro hb'
    rcases g' b hb' with hq | hq
    · rcases List.mem_append.1 hb with hb | hb
      · exact hH b hb hq
      · exact (h4 b hb).1 hq
    · omega
theorem frame_All {bv : Value} {bs : List UInt8} (hb : ArrC encB 1 w bv bs) (hn : bs.length < 100000000)
    (hR : ∀ w' v G B, FrmL w' v (frAll bs 0).1 G B → (∀ b ∈ G, hsz w ≤ b) → (∀ b ∈ B, hsz w ≤ b) → Fr [] w w' → (frAll bs 0).1.length ≤ bs.length → R (.tuple #[v, .int .i64 ((frAll bs 0).2.1 : Int), .int .i64 (frAll bs 0).2.2]) w') : CALL PR F_frame_All [bv] w R := by
  refine C_frame_All ?_
  unfold M_frame_All
  refine ⟨fun o t w' => ∃ (k : Nat) (done : List Fra) (G B : List Nat), t = .int .i64 (k : Int) ∧ FrmL w' o done G B ∧ (∀ b ∈ G, hsz w ≤ b) ∧ (∀ b ∈ B, hsz w ≤ b) ∧ Fr [] w w' ∧ k ≤ bs.length ∧ done.length ≤ k ∧ frAll bs 0 = (done ++ (frAll (bs.drop k) k).1, (frAll (bs.drop k) k).2),
    fun _ t _ => match t with | .int _ n => bs.length - n.toNat | _ => 0, ⟨0, [], [], [], rfl, FrmL.nil _, by simp, by simp, Fr.refl _ _, by omega, by simp, by simp⟩, ?_⟩
  rintro _ o _ w1 ⟨k, done, G, B, rfl, h1, hG, hB, f1, hk, hdl, heq⟩
  by_cases hlt : k < bs.length
  · obtain ⟨va, ea, aa⟩ := (hb.fr f1 (by simp)).from (lo := k) (by omega)
    (repeat (first | refine BND_step hb.len ?_ | refine gg ?_))
    have hne : bs.drop k ≠ [] := by intro e; have := congrArg List.length e; simp at this; omega
    refine frame_Read aa (by rw [List.length_drop]; omega) fun w2 v2 G2 s2 g2 f2 => ?_
    (repeat refine gg ?_)
    refine box_step (n := 2) (zs := [_, _]) (vs := encFr ((frRead (bs.drop k)).1.1, v2)) rfl rfl (encFr_one _) (by simp [encFr]) fun w4 b4 f4 z4 => ?_
    have f24 := (f1.trans' f2).trans' f4
    have h4 := (h1.fr f2).fr f4
    by_cases he : (frRead (bs.drop k)).2.2 = 0
    · obtain ⟨u1, u2, u3, u4⟩ := read_ok he
      rw [List.length_drop] at u2
      (repeat (first | refine BND_step (loadn_all' b4 rfl) ?_ | refine gg ?_))
      have gr1 := f1.grow
      refine frm_push (x := (frRead (bs.drop k)).1) h4 (s2.fr f4 (by simp)) (fun b hb hb' => ?_) rfl (by omega) (by omega) fun v6 w6 G6 s6 g6 f6 => ?_
      · obtain ⟨⟨cs, q1, _⟩, _⟩ := h1
        have := q1.lt b hb'
        have := g2 b hb
        omega
      · (repeat (first | refine BND_step (addn_ (n := k) (by omega)) ?_ | refine gg ?_))
        rw [frAll_ok k hne he] at heq
        refine ⟨⟨k + (frRead (bs.drop k)).2.1, done ++ [(frRead (bs.drop k)).1], G6, G2 ++ B, rfl, s6, fun b hb => ?_, fun b hb => ?_, f24.trans f6 fun b hb => .inr (hG b hb), by omega, by simp; omega, ?_⟩, ?_⟩
        · rcases g6 b hb with hq | hq
          · exact hG b hq
          · have := f24.grow; omega
        · rcases List.mem_append.1 hb with hb | hb
          · have := g2 b hb; omega
          · exact hB b hb
        · rw [heq, List.drop_drop]; simp
        · simp only [Int.toNat_natCast]; omega
    · (repeat refine gg ?_)
      rw [frAll_bad k hne he] at heq
      have := hR w4 o G B (by rw [heq]; simpa using h4) hG hB f24 (by rw [heq]; simp; omega)
      rw [heq] at this
      exact this
  · (repeat (first | refine BND_step hb.len ?_ | refine gg ?_))
    rw [List.drop_eq_nil_of_le (by omega), frAll_nil] at heq
    have := hR w1 o G B (by rw [heq]; simpa using h1) hG hB f1 (by rw [heq]; simp; omega)
    rw [heq] at this
    exact this
end
end Go.Proofs.YtofllgbdphakiaaGreatDoor
end

section
namespace Go.Rec
open Go.Den Go.Crc Go.Frame Go.Vint
structure Rc where
  kind : Nat
  n : List Nat
  text : List UInt8
def zeroR : Rc := ⟨0, [], []⟩
def manyL : List Nat := [0, 0, 5, 2, 1, 2, 2, 1, 1, 1, 1, 1, 5, 7, 10, 2, 1, 1]
def manyOf (k : Nat) : Nat := manyL.getD k 0
def knownB (k : Int) : Bool := decide (1 ≤ k) && decide (k ≤ 17)
def wordedB (k : Int) : Bool := decide (k = 10) || decide (k = 11) || decide (k = 16)
def fitsB (k : Int) (m : Nat) : Bool := decide (m = 0) || (wordedB k && decide (m ≤ 64))
def rightB (k : Int) (n m : Nat) : Bool := knownB k && decide (n = manyOf k.toNat) && fitsB k m
theorem manyOf_le (k : Nat) : manyOf k ≤ 10 := by
  unfold manyOf
  rw [List.getD_eq_getElem?_getD]
  cases h : manyL[k]? with
  | none => simp
  | some x =>
    have := List.mem_of_getElem? h
    simp only [manyL, List.mem_cons, List.not_mem_nil, or_false] at this
    simp; omega
def bodyOf_ (ns : List Nat) (text : List UInt8) : List UInt8 := ns.flatMap layV ++ text
theorem flat_len10 (ns : List Nat) (h : ∀ n ∈ ns, n < 18446744073709551616) : (ns.flatMap layV).length ≤ ns.length * 10 := by
  induction ns with
  | nil => simp
  | cons a ns ih =>
    have h1 := layV_le a (h a (by simp))
    have h2 := ih fun n hn => h n (by simp [hn])
    simp only [List.flatMap_cons, List.length_append, List.length_cons, Nat.add_mul]; omega
theorem right_known {k : Int} {n m : Nat} (h : rightB k n m = true) : 1 ≤ k ∧ k ≤ 17 ∧ n = manyOf k.toNat ∧ fitsB k m = true := by
  unfold rightB knownB at h
  simp only [Bool.and_eq_true, decide_eq_true_eq] at h
  exact ⟨h.1.1.1, h.1.1.2, h.1.2, h.2⟩
theorem fits_le {k : Int} {m : Nat} (h : fitsB k m = true) : m ≤ 64 := by
  unfold fitsB at h
  simp only [Bool.or_eq_true, Bool.and_eq_true, decide_eq_true_eq] at h
  omega
theorem body_small {k : Int} {ns : List Nat} {t : List UInt8} (h : rightB k ns.length t.length = true) (hs : ∀ n ∈ ns, n < 18446744073709551616) : (bodyOf_ ns t).length ≤ 164 := by
  obtain ⟨_, _, h1, h2⟩ := right_known h
  have h3 := flat_len10 ns hs
  have h4 := manyOf_le k.toNat
  have h5 := fits_le h2
  unfold bodyOf_
  rw [List.length_append]
  omega
def readN : Nat → List UInt8 → List Nat × List UInt8 × Int
  | 0, rest => ([], rest, 0)
  | m + 1, rest => if (getV rest).2.2 = 0 then ((getV rest).1 :: (readN m (rest.drop (getV rest).2.1)).1, (readN m (rest.drop (getV rest).2.1)).2) else ([], [], (getV rest).2.2)
def recRead (x : Fra) : Rc × Int :=
  if knownB x.1.toNat = false then (zeroR, 2) else
  if (readN (manyOf x.1.toNat) x.2).2.2 = 0 then
    (if fitsB x.1.toNat (readN (manyOf x.1.toNat) x.2).2.1.length = true then (⟨x.1.toNat, (readN (manyOf x.1.toNat) x.2).1, (readN (manyOf x.1.toNat) x.2).2.1⟩, 0) else (zeroR, 2))
  else (zeroR, (readN (manyOf x.1.toNat) x.2).2.2)
theorem readN_lay : ∀ (ns : List Nat) (t : List UInt8), (∀ n ∈ ns, n < 18446744073709551616) → readN ns.length (bodyOf_ ns t) = (ns, t, 0)
  | [], t, _ => rfl
  | a :: ns, t, h => by
    have e : bodyOf_ (a :: ns) t = layV a ++ bodyOf_ ns t := by unfold bodyOf_; simp
    have hg := get_put a (h a (by simp)) (bodyOf_ ns t)
    simp only [List.length_cons, readN]
    rw [e, hg]
    simp only [if_true, List.drop_left]
    rw [readN_lay ns t fun n hn => h n (by simp [hn])]
def toFra (k : Nat) (ns : List Nat) (t : List UInt8) : Fra := (UInt8.ofNat k, bodyOf_ ns t)
theorem recRead_of {k : Nat} {ns : List Nat} {t : List UInt8} (h : rightB k ns.length t.length = true) (hs : ∀ n ∈ ns, n < 18446744073709551616) : recRead (toFra k ns t) = (⟨k, ns, t⟩, 0) := by
  obtain ⟨h1, h2, h3, h4⟩ := right_known h
  unfold recRead toFra
  have e : (UInt8.ofNat k).toNat = k := ofNat_toNat (by omega)
  simp only [e]
  have hk : knownB (k : Int) = true := by unfold knownB; simp; omega
  rw [if_neg (by rw [hk]; simp)]
  have h3' : manyOf k = ns.length := by rw [h3]; simp
  rw [h3', readN_lay ns t hs]
  simp [h4]
def recAllF : List Fra → Nat → Int → List Rc × List Nat × Int
  | [], _, e => ([], [], e)
  | x :: r, k, e => if (recRead x).2 = 0 then ((recRead x).1 :: (recAllF r (k + (11 + x.2.length)) e).1, (k + (11 + x.2.length)) :: (recAllF r (k + (11 + x.2.length)) e).2.1, (recAllF r (k + (11 + x.2.length)) e).2.2) else ([], [], (recRead x).2)
def recAll (b : List UInt8) : List Rc × List Nat × Int := recAllF (frAll b 0).1 0 (frAll b 0).2.2
def recB (k : Nat) (ns : List Nat) (t : List UInt8) : List UInt8 := frB (toFra k ns t)
theorem recAll_one {k : Nat} {ns : List Nat} {t : List UInt8} (h : rightB k ns.length t.length = true) (hs : ∀ n ∈ ns, n < 18446744073709551616) : recAll (recB k ns t) = ([⟨k, ns, t⟩], [(recB k ns t).length], 0) := by
  have hb := body_small h hs
  have e := frAll_cons (toFra k ns t) (by unfold toFra; simp only; omega) [] 0
  rw [List.append_nil, frAll_nil] at e
  unfold recAll
  rw [show recB k ns t = frB (toFra k ns t) from rfl, e]
  simp only [recAllF, recRead_of h hs, if_true, frB_len]
  simp
theorem readN_good : ∀ (m : Nat) (b : List UInt8), (readN m b).2.2 = 0 → (readN m b).1.length = m ∧ (∀ n ∈ (readN m b).1, n < 18446744073709551616) ∧ (readN m b).2.1.length ≤ b.length
  | 0, b, _ => by simp [readN]
  | m + 1, b, h => by
    simp only [readN] at h ⊢
    by_cases hg : (getV b).2.2 = 0
    · rw [if_pos hg] at h ⊢
      obtain ⟨h1, h2, h3⟩ := readN_good m _ h
      refine ⟨by simp [h1], fun n hn => ?_, by simp only; rw [List.length_drop] at h3; omega⟩
      rcases List.mem_cons.1 hn with rfl | hn
      · exact getL_small b 0 0 (by simp) (by omega)
      · exact h2 n hn
    · rw [if_neg hg] at h; exact absurd h hg
theorem recRead_good {x : Fra} (h : (recRead x).2 = 0) : rightB (recRead x).1.kind (recRead x).1.n.length (recRead x).1.text.length = true ∧ ∀ n ∈ (recRead x).1.n, n < 18446744073709551616 := by
  unfold recRead at h ⊢
  by_cases h1 : knownB x.1.toNat = false
  · rw [if_pos h1] at h; simp at h
  · rw [if_neg h1] at h ⊢
    by_cases h2 : (readN (manyOf x.1.toNat) x.2).2.2 = 0
    · rw [if_pos h2] at h ⊢
      obtain ⟨g1, g2, g3⟩ := readN_good _ _ h2
      by_cases h3 : fitsB x.1.toNat (readN (manyOf x.1.toNat) x.2).2.1.length = true
      · rw [if_pos h3]
        refine ⟨?_, g2⟩
        unfold rightB
        simp only [g1, h3]
        simp at h1
        simp [h1]
      · rw [if_neg h3] at h; simp at h
    · rw [if_neg h2] at h; exact absurd h h2
end Go.Rec
end

section
namespace Go.Proofs.YtofllgbdphakiaaGreatDoor
open Go.Den Go.Disk Go.Vint Go.Crc Go.Frame Go.Rec
def txB (l : List UInt8) : ByteArray := ⟨l.toArray⟩
def encRc (x : Int × SV × ByteArray) : List Value := [.int .i64 x.1, x.2.1.v, .string x.2.2]
theorem encRc_len (x : Int × SV × ByteArray) : (encRc x).length = 3 := rfl
theorem encRc_one (x : Int × SV × ByteArray) : ∀ u ∈ encRc x, u.oneCell' = true := by intro u hu; simp [encRc] at hu; rcases hu with rfl | rfl | rfl <;> rfl
def encO (x : Nat) : List Value := [.int .i64 (x : Int)]
theorem encO_len (x : Nat) : (encO x).length = 1 := rfl
theorem encO_one (x : Nat) : ∀ u ∈ encO x, u.oneCell' = true := by intro u hu; simp [encO] at hu; subst hu; rfl
theorem flat_encB (l : List UInt8) : flat encB l = l.map fun b => Value.int .u8 (b.toNat : Int) := by
  induction l with
  | nil => rfl
  | cons a l ih => simp [flat, encB] at *; exact ih
theorem str_src (w : World) (s : ByteArray) : cellsOfArg w 1 (.string s) = some (flat encB s.data.toList, s.data.toList.length) := by
  rw [flat_encB]
  show some _ = _
  congr 2
theorem intsOf_u8 (l : List UInt8) : intsOf .u8 (l.map fun b => Value.int .u8 (b.toNat : Int)) = some (l.map fun b => (b.toNat : Int)) := by
  induction l with
  | nil => rfl
  | cons a l ih => simp [intsOf, ih]
theorem text_fold : ∀ (l : List UInt8) (r : ByteArray), (l.map fun b => (b.toNat : Int)).foldl (fun r n => r.push (UInt8.ofNat n.toNat)) r = ⟨r.data ++ l.toArray⟩
  | [], r => by simp
  | a :: l, r => by
    simp only [List.map_cons, List.foldl_cons]
    rw [text_fold l]
    apply ByteArray.ext
    simp [ByteArray.push]
theorem textB {w : World} {v : Value} {bs : List UInt8} (h : Arr encB 1 w v bs) : textv .u8 textOfBytes w v = some (.string (txB bs)) := by
  have hs := h.src encB_len (by omega)
  obtain ⟨a, c, rfl, h2⟩ := h
  cases a with
  | none =>
    rcases h2 with rfl | ⟨b, o, cs, T, fz, e, _⟩
    · rfl
    · cases e
  | some a =>
    simp only [cellsOfArg, Nat.mul_one, Option.map_eq_some_iff, Prod.mk.injEq] at hs
    obtain ⟨vs, h1, rfl, _⟩ := hs
    simp only [textv, h1, Option.bind_some, flat_encB, intsOf_u8, Option.map_some]
    congr 2
    unfold textOfBytes
    rw [text_fold]
    apply ByteArray.ext
    simp [txB]
def manyV : List Value := manyL.map fun n : Nat => .int .i64 (n : Int)
theorem many_at {k : Nat} (h : k < 18) : indexav false 18 1 (.agg manyV.toArray) (.int .i64 (k : Int)) = some (.int .i64 ((manyOf k : Nat) : Int)) := by
  simp only [indexav]
  rw [if_pos ⟨by omega, by omega⟩]
  have e : manyV[k]? = some (.int .i64 ((manyOf k : Nat) : Int)) := by
    have hl : k < manyL.length := h
    unfold manyV manyOf
    rw [List.getElem?_map, List.getD_eq_getElem?_getD, List.getElem?_eq_getElem hl]
    rfl
  simpa using e
set_option linter.unusedSimpArgs false
set_option linter.unusedVariables false
set_option maxRecDepth 20000
set_option maxHeartbeats 4000000
attribute [local congr] BND_cg COND_cg GEF_cg
attribute [local irreducible] capl slicea load1 loadn iaddr iaddra faddr storev newslice binv lookv mupd mdel mlenv mentry mestore slicev slicev3 slices indexs indexav textv rangev nexts clearv shiftv eqaggv convi buildv pickv lens lenl unv nilchk extractv partn JOIN
section
variable {w : World} {R : Value → World → Prop}
theorem rec_known (k : Int) (hR : R (.bool (knownB k)) w) : CALL PR F_record_known [.int .i64 k] w R := by
  refine C_record_known ?_
  unfold M_record_known
  unfold knownB at hR
  by_cases h1 : 1 ≤ k
  · (repeat refine gg ?_)
    rw [decide_eq_true h1, Bool.true_and] at hR
    exact hR
  · (repeat refine gg ?_)
    rw [decide_eq_false h1, Bool.false_and] at hR
    exact hR
theorem rec_worded (k : Int) (hR : R (.bool (wordedB k)) w) : CALL PR F_record_worded [.int .i64 k] w R := by
  refine C_record_worded ?_
  unfold M_record_worded
  unfold wordedB at hR
  by_cases h1 : k = 10
  · (repeat refine gg ?_)
    simpa [h1] using hR
  · by_cases h2 : k = 11
    · (repeat refine gg ?_)
      simpa [h1, h2] using hR
    · (repeat refine gg ?_)
      simpa [h1, h2] using hR
theorem rec_fits (k : Int) (m : Nat) (hR : R (.bool (fitsB k m)) w) : CALL PR F_record_fits [.int .i64 k, .int .i64 (m : Int)] w R := by
  refine C_record_fits ?_
  unfold M_record_fits
  unfold fitsB at hR
  by_cases h1 : (m : Int) = 0
  · (repeat refine gg ?_)
    rw [decide_eq_true (show m = 0 by omega), Bool.true_or] at hR
    exact hR
  · rw [decide_eq_false (show ¬ m = 0 by omega), Bool.false_or] at hR
    (repeat refine gg ?_)
    refine rec_worded k ?_
    cases hw : wordedB k with
    | true =>
      rw [hw, Bool.true_and] at hR
      (repeat refine gg ?_)
      have e : decide ((m : Int) ≤ 64) = decide (m ≤ 64) := by rw [decide_eq_decide]; omega
      rw [e]
      exact hR
    | false =>
      rw [hw, Bool.false_and] at hR
      (repeat refine gg ?_)
      exact hR
theorem rec_numbers (hR : ∀ w', Fr [] w w' → R (.agg manyV.toArray) w') : CALL PR F_record_numbers [] w R := by
  refine C_record_numbers ?_
  unfold M_record_numbers
  refine NEW_intro fun w1 b1 f1 z1 => ?_
  (repeat (first | refine gg ?_ | (apply BND_build (manyV); exact rfl)))
  refine put_step (n := 18) (vs := manyV) b1 (by simp [Value.cells]) rfl (by intro u hu; obtain ⟨_, _, rfl⟩ := List.mem_map.1 hu; rfl) (by simp [manyV, manyL]) fun w2 b2 f2 _ => ?_
  (repeat (first | refine BND_step (loadn_all' b2 rfl) ?_ | refine gg ?_))
  exact hR _ (f1.trans f2 (by simp))
theorem rec_Right {nv : SV} {ns : List Nat} (k : Int) (t : ByteArray) (hn : Arr encU 1 w nv.v ns) (hR : ∀ w', Fr [] w w' → R (.bool (rightB k ns.length t.size)) w') : CALL PR F_record_Right [.agg (encRc (k, nv, t)).toArray] w R := by
  refine C_record_Right ?_
  unfold M_record_Right
  refine NEW_intro fun w1 b1 f1 z1 => ?_
  replace b1 : blk w1.drew (hsz w) = some (.cells (encRc (k, nv, t)).toArray 37 (0, 0)) := b1
  have f1d := f1.trans' (Fr.drew [] w1)
  unfold rightB at hR
  refine ⟨fun _ w' => blk w' (hsz w) = some (.cells (encRc (k, nv, t)).toArray 37 (0, 0)), b1, b1, ?_⟩
  (repeat refine gg ?_)
  refine rec_known k ?_
  refine ⟨b1, b1, ?_⟩
  cases hk : knownB k with
  | false =>
    rw [hk, Bool.false_and, Bool.false_and] at hR
    (repeat refine gg ?_)
    refine ⟨undef, fun _ _ => rfl, ?_⟩
    (repeat refine gg ?_)
    refine ⟨undef, fun _ _ => rfl, ?_⟩
    (repeat refine gg ?_)
    refine ⟨b1, b1, ?_⟩
    (repeat refine gg ?_)
    exact hR _ f1d
  | true =>
    rw [hk, Bool.true_and] at hR
    obtain ⟨hk1, hk2⟩ : 1 ≤ k ∧ k ≤ 17 := by unfold knownB at hk; simpa using hk
    obtain ⟨kn, rfl⟩ : ∃ kn : Nat, k = (kn : Int) := ⟨k.toNat, by omega⟩
    (repeat (first | refine BND_step hn.len ?_ | refine gg ?_))
    refine rec_numbers fun w3 f3 => ?_
    have b3 := f3.some (by simp) b1
    refine ⟨b3, b3, ?_⟩
    (repeat (first | refine BND_step (many_at (k := kn) (by omega)) ?_ | refine gg ?_))
    have e : decide ((ns.length : Int) = ((manyOf kn : Nat) : Int)) = decide (ns.length = manyOf (kn : Int).toNat) := by rw [decide_eq_decide]; simp; omega
    rw [e]
    by_cases hm : ns.length = manyOf (kn : Int).toNat
    · rw [decide_eq_true hm, Bool.true_and] at hR
      rw [decide_eq_true hm]
      (repeat refine gg ?_)
      refine rec_fits _ _ ?_
      (repeat refine gg ?_)
      exact hR _ (f1d.trans' f3)
    · rw [decide_eq_false hm, Bool.false_and] at hR
      rw [decide_eq_false hm]
      (repeat refine gg ?_)
      exact hR _ (f1d.trans' f3)
theorem rec_Bytes {nv : SV} {ns : List Nat} (k : Int) (t : ByteArray) (hn : Arr encU 1 w nv.v ns) (hs : ∀ n ∈ ns, n < 18446744073709551616) (hR0 : ∀ w', rightB k ns.length t.size = false → Fr [] w w' → R (.tuple #[.slice none 0 0, .int .i64 1]) w')
    (hR : ∀ w' v G, rightB k ns.length t.size = true → Slc encB 1 w' v (recB k.toNat ns t.data.toList) G → (∀ b ∈ G, hsz w ≤ b) → Fr [] w w' → R (.tuple #[v, .int .i64 0]) w') : CALL PR F_record_Bytes [.agg (encRc (k, nv, t)).toArray] w R := by
  refine C_record_Bytes ?_
  unfold M_record_Bytes
  have htl : t.data.toList.length = t.size := Array.length_toList
  refine NEW_intro fun w1 b1 f1 z1 => ?_
  replace b1 : blk w1 (hsz w) = some (.cells (encRc (k, nv, t)).toArray 37 (0, 0)) := b1
  (repeat (first | refine BND_step (loadn_all' b1 rfl) ?_ | refine gg ?_))
  refine rec_Right k t (hn.fr f1 (by simp)) fun w2 f2 => ?_
  have f02 := f1.trans' f2
  have b2 := f2.some (by simp) b1
  replace b2 : blk w2.drew (hsz w) = some (.cells (encRc (k, nv, t)).toArray 37 (0, 0)) := b2
  cases hr : rightB k ns.length t.size with
  | false =>
    (repeat refine gg ?_)
    exact hR0 _ hr f02
  | true =>
    obtain ⟨hk1, hk2, hm, hf⟩ := right_known hr
    have hsm := body_small (t := t.data.toList) (by rw [htl]; exact hr) hs
    obtain ⟨kn, rfl⟩ : ∃ kn : Nat, k = (kn : Int) := ⟨k.toNat, by omega⟩
    have f02d := f02.trans' (Fr.drew [] w2)
    (repeat refine gg ?_)
    refine ⟨fun _ w' => blk w' (hsz w) = some (.cells (encRc ((kn : Int), nv, t)).toArray 37 (0, 0)), b2, b2, ?_⟩
    have e8 := conv8i kn
    rw [Nat.mod_eq_of_lt (show kn < 256 by omega)] at e8
    have ek : ((kn : Nat) : Int) = ((UInt8.ofNat kn).toNat : Int) := by rw [ofNat_toNat (by omega)]
    (repeat refine gg ?_)
    refine vint_All (hn.fr f02d (by simp)) hs (by have := manyOf_le (kn : Int).toNat; omega) fun w3 v3 G3 s3 g3 f3 => ?_
    have b3 := f3.some (by simp) b2
    refine ⟨b3, b3, ?_⟩
    have hlb : (ns.flatMap layV).length + t.data.toList.length = (bodyOf_ ns t.data.toList).length := by unfold bodyOf_; rw [List.length_append]
    refine APPEND_slc s3 (str_src w3 t) encB_len encB_one rfl (by omega) (by omega) fun v4 w4 G4 s4 f4 sub4 => ?_
    have e2 : hsz w2.drew = hsz w2 := rfl
    have gr2 := f02.grow
    have gr3 := f3.grow
    have b4 := f4.some (fun hb => by have := g3 _ hb; have := blk_lt b2; omega) b3
    refine ⟨b4, ?_⟩
    obtain ⟨x4, rfl⟩ := slc_sv s4
    (repeat (first | refine gg ?_ | (apply BND_build ([.int .u8 (kn : Int), x4.v]); exact rfl)))
    rw [show ([Value.int .u8 (kn : Int), x4.v] : List Value) = encFr (UInt8.ofNat kn, x4) by unfold encFr; rw [← ek]]
    have f24 : Fr [] w2.drew w4 := f3.trans f4 fun b hb => .inr (g3 b hb)
    refine frame_Bytes (body := bodyOf_ ns t.data.toList) s4.arr (by omega) (fun w5 h5 _ => by omega) fun w5 v5 G5 _ s5 g5 f5 => ?_
    (repeat refine gg ?_)
    refine hR _ _ G5 hr s5 (fun b hb => ?_) ((f02d.trans' f24).trans' f5)
    have := g5 b hb; have := f24.grow; omega
end
end Go.Proofs.YtofllgbdphakiaaGreatDoor
end

section
namespace Go.Proofs.YtofllgbdphakiaaGreatDoor
open Go.Den Go.Nm Go.Disk Go.Crc Go.Frame Go.Rec
def encC (b : UInt8) : Value := .int .u8 (b.toNat : Int)
theorem slicea_upto {len b k : Nat} (h : k ≤ len) : slicea len 1 (.pointer (some ⟨b, 0, none⟩)) none (some (.int .i64 (k : Int))) none = some (.slice (some ⟨b, 0, none⟩) k len) := by
  unfold slicea
  simp only [natOf]
  simp [h]
  intro _
  simp [Addr.add]
theorem putRow_blk {w : World} {b n : Nat} {c : Array Value} {T : Nat} (dk : Array UInt8) (h : blk w b = some (.cells c T (0, 0))) :
    blk ((Go.Sort.putRow encC w b 0 dk).drewN n) b = some (.cells (Go.Sort.putCells encC 0 dk c) T (0, 0)) ∧ (∀ i, i ≠ b → blk ((Go.Sort.putRow encC w b 0 dk).drewN n) i = blk w i) ∧ Fr [b] w ((Go.Sort.putRow encC w b 0 dk).drewN n) := by
  have h' : w.heap[b]? = some (.cells c T (0, 0)) := h
  have hh : ((Go.Sort.putRow encC w b 0 dk).drewN n).heap = w.heap.modify b (Go.Sort.onCells (Go.Sort.putCells encC 0 dk)) := rfl
  have h2 : ∀ i, i ≠ b → blk ((Go.Sort.putRow encC w b 0 dk).drewN n) i = blk w i := fun i hi => by
    unfold blk
    rw [hh, Array.getElem?_modify]
    rw [if_neg (fun e => hi e.symm)]
  refine ⟨?_, h2, ?_⟩
  · unfold blk
    rw [hh, Array.getElem?_modify, if_pos rfl, h']
    rfl
  · exact ⟨by unfold hsz; rw [hh]; simp, fun i _ hi => h2 i (by simpa using hi), rfl, rfl, rfl⟩
theorem conv32 (k : UInt8) : convi .i32 (.int .u8 (k.toNat : Int)) = some (.int .i32 (k.toNat : Int)) := by
  have := k.toNat_lt
  have e : ((k.toNat : Int) + 2147483648) % 4294967296 - 2147483648 = k.toNat := by omega
  simp only [convi]
  rw [IntKind.wrap_i32, e]
theorem cat_ {x y : ByteArray} (h : x.size + y.size < 1000000) : binv .str .add (.string x) (.string y) = some (.string (x ++ y)) := by
  have e : binv .str .add (.string x) (.string y) = bins .add x y := rfl
  have m : IntKind.i64.max = 9223372036854775807 := by decide
  rw [e]
  unfold bins
  simp only
  rw [m, if_neg (by omega)]
theorem arr_size (l : List UInt8) : (ByteArray.mk l.toArray).size = l.length := by show l.toArray.size = _; simp
set_option linter.unusedSimpArgs false
set_option linter.unusedVariables false
set_option maxRecDepth 20000
set_option maxHeartbeats 4000000
attribute [local congr] BND_cg COND_cg GEF_cg
attribute [local irreducible] capl slicea load1 loadn iaddr iaddra faddr storev newslice binv lookv mupd mdel mlenv mentry mestore slicev slicev3 slices indexs indexav textv rangev nexts clearv shiftv eqaggv convi buildv pickv lens lenl unv nilchk extractv partn JOIN
section
variable {w : World} {R : Value → World → Prop}
theorem st_small (i : Nat) (h : i < 100) (hR : R (.string ⟨(Lib.decDigits i).toArray⟩) w) : CALL PR F_internal_strconv_small [.int .i64 i] w R :=
  ⟨(Tryz.internal_strconv_small i h w).mono fun e w1 ⟨he, hw⟩ => ⟨_, he, by rw [hw]; exact hR⟩⟩
theorem st_digits (hT : Tab w) (u : Nat) (h1 : 1 ≤ u) (h2 : u < 18446744073709551616) (hR : R (.int .i64 (Lib.nDigits u)) w) : CALL PR F_internal_strconv_numDigits [.int .u64 u] w R :=
  ⟨(Tryz.internal_strconv_numDigits u h1 h2 w hT.is).mono fun e w1 ⟨he, hw⟩ => ⟨_, he, by rw [hw]; exact hR⟩⟩
theorem st_index (s : ByteArray) (c : Int) (hR : R (.int .i64 (Lib.indexByte s.data.toList c.toNat.toUInt8)) w) : CALL PR F_strings_IndexByte [.string s, .int .u8 c] w R :=
  ⟨(Tryz.strings_IndexByte s c w).mono fun e w1 ⟨he, hw⟩ => ⟨_, he, by rw [hw]; exact hR⟩⟩
theorem st_base {b T cap u nd : Nat} {c : Array Value} (hb : blk w b = some (.cells c T (0, 0))) (hc : ∀ j, j < nd → c[j]? = some (.int .u8 0)) (hu : u < 10 ^ nd) (hu64 : u < 18446744073709551616) (hnd : nd < 1000)
    (hR : ∀ w' (dk : Array UInt8) v, blk w' b = some (.cells (Go.Sort.putCells encC 0 dk c) T (0, 0)) → Lib.FmtInv nd u 0 v dk → Fr [b] w w' → R (.tuple #[]) w') :
    CALL PR F_internal_strconv_formatBase10 [.slice (some ⟨b, 0, none⟩) nd cap, .int .u64 u] w R := by
  have hs : (Array.replicate nd (0 : UInt8)).size = nd := Array.size_replicate
  have hh : Go.Sort.Holds (fun (b : UInt8) => Value.int .u8 (b.toNat : Int)) w b 0 (Array.replicate nd (0 : UInt8)) := fun j hj => by
    rw [hs] at hj
    refine ⟨?_, ?_⟩
    · rw [cell?_blk hb, Nat.zero_add, hc j hj, getElem!_pos _ j (by rw [hs]; exact hj)]
      simp
    · have h' : w.heap[b]? = some (.cells c T (0, 0)) := hb
      simp [World.frozen?, h']
  have := Tryz.internal_strconv_formatBase10 b 0 cap u (Array.replicate nd (0 : UInt8)) w hh (by rw [hs]; exact hu) hu64 (by rw [hs]; omega)
  rw [hs] at this
  refine ⟨this.mono fun e w1 ⟨he, n, v, dk, hw, hI⟩ => ⟨_, he, ?_⟩⟩
  obtain ⟨q1, _, q3⟩ := putRow_blk (n := n) dk hb
  rw [hw]
  exact hR _ dk v q1 hI q3
theorem st_FormatUint (hT : Tab w) (u : Nat) (hu : u < 18446744073709551616) (hR : ∀ w', Fr [] w w' → R (.string ⟨(Lib.decDigits u).toArray⟩) w') : CALL PR F_strconv_FormatUint [.int .u64 u, .int .i64 10] w R := by
  refine C_strconv_FormatUint ?_
  unfold M_strconv_FormatUint
  refine C_internal_strconv_FormatUint ?_
  unfold M_internal_strconv_FormatUint
  (repeat (first | refine stp ?_ | (apply BND_inc; omega) | (apply BND_dec; omega) | refine BND_step (rfl : some _ = some _) ?_ | (apply cyes; first | assumption | omega) | (apply cno; first | assumption | omega) | refine (COND_true _ _).2 ?_ | refine (COND_false _ _).2 ?_ | simp (disch := first | assumption | omega) only [gs1, gs2, decide_true, decide_false, eq_self, beq_self_eq_true, Bool.not_true, Bool.not_false]))
  by_cases h1 : u < 100
  · (repeat (first | refine BND_step (convi64 (k := .u64) (x := u) (by omega)) ?_ | refine stp ?_ | (apply BND_inc; omega) | (apply BND_dec; omega) | refine BND_step (rfl : some _ = some _) ?_ | (apply cyes; first | assumption | omega) | (apply cno; first | assumption | omega) | refine (COND_true _ _).2 ?_ | refine (COND_false _ _).2 ?_ | simp (disch := first | assumption | omega) only [gs1, gs2, decide_true, decide_false, eq_self, beq_self_eq_true, Bool.not_true, Bool.not_false]))
    refine st_small u h1 ?_
    exact hR _ (Fr.refl _ _)
  · (repeat (first | refine stp ?_ | (apply BND_inc; omega) | (apply BND_dec; omega) | refine BND_step (rfl : some _ = some _) ?_ | (apply cyes; first | assumption | omega) | (apply cno; first | assumption | omega) | refine (COND_true _ _).2 ?_ | refine (COND_false _ _).2 ?_ | simp (disch := first | assumption | omega) only [gs1, gs2, decide_true, decide_false, eq_self, beq_self_eq_true, Bool.not_true, Bool.not_false]))
    refine NEW_intro fun w1 b1 f1 z1 => ?_
    have hnd := Lib.numDigits_eq u (by omega) hu
    have h20 : Lib.nDigits u ≤ 20 := by split at hnd <;> omega
    refine st_digits (hT.fr f1) u (by omega) hu ?_
    have hlt : u < 10 ^ Lib.nDigits u := by
      have := Lib.lt_pow_nDigits u
      exact this
    (repeat (first | refine BND_step (slicea_upto (len := 24) (b := hsz w) (k := Lib.nDigits u) (by omega)) ?_ | refine stp ?_ | (apply BND_inc; omega) | (apply BND_dec; omega) | refine BND_step (rfl : some _ = some _) ?_ | (apply cyes; first | assumption | omega) | (apply cno; first | assumption | omega) | refine (COND_true _ _).2 ?_ | refine (COND_false _ _).2 ?_ | simp (disch := first | assumption | omega) only [gs1, gs2, decide_true, decide_false, eq_self, beq_self_eq_true, Bool.not_true, Bool.not_false]))
    replace b1 : blk w1 (hsz w) = some (.cells (Array.replicate 24 (.int .u8 0)) 202 (0, 0)) := b1
    refine st_base b1 (fun j hj => ?_) hlt hu (by omega) fun w2 dk v b2 hI f2 => ?_
    · rw [Array.getElem?_replicate, if_pos (by omega)]
    · have ar : Arr encB 1 w2 (.slice (some ⟨hsz w, 0, none⟩) (Lib.nDigits u) 24) (Lib.decDigits u) := by
        refine ⟨_, 24, by rw [Lib.decDigits_length], .inr ⟨hsz w, 0, _, _, _, rfl, b2, fun i x hx => ?_⟩⟩
        have hi := (List.getElem?_eq_some_iff.1 hx).1
        have hx' := (List.getElem?_eq_some_iff.1 hx).2
        have hl := Lib.decDigits_length u
        have hsz' : (Go.Sort.putCells encC 0 dk (Array.replicate 24 (.int .u8 0))).size = 24 := by simp [Go.Sort.putCells]
        refine ⟨by omega, fun j hj => ?_⟩
        obtain rfl : j = 0 := by omega
        have hd := hI.size
        have hr := Lib.row_is_numeral hI i (by omega)
        rw [Array.getElem?_eq_getElem (by omega)]
        simp only [Go.Sort.putCells, Array.getElem_mapIdx, Nat.zero_add, Nat.mul_one, Nat.add_zero, Nat.zero_le, true_and, Nat.sub_zero]
        rw [if_pos (by omega), ← hr, hx']
        rfl
      (repeat (first | refine BND_step (slicea_upto (len := 24) (b := hsz w) (k := Lib.nDigits u) (by omega)) ?_ | refine BND_step (textB ar) ?_ | refine stp ?_ | (apply BND_inc; omega) | (apply BND_dec; omega) | refine BND_step (rfl : some _ = some _) ?_ | (apply cyes; first | assumption | omega) | (apply cno; first | assumption | omega) | refine (COND_true _ _).2 ?_ | refine (COND_false _ _).2 ?_ | simp (disch := first | assumption | omega) only [gs1, gs2, decide_true, decide_false, eq_self, beq_self_eq_true, Bool.not_true, Bool.not_false]))
      refine hR _ (f1.trans f2 fun b hb => .inr (by simp at hb; omega))
theorem idx_kinds (k : UInt8) : (Lib.indexByte [109, 101, 115] k < 0) ↔ kindN k = false := by
  unfold kindN
  by_cases h1 : k = 109
  · subst h1; decide
  · by_cases h2 : k = 101
    · subst h2; decide
    · by_cases h3 : k = 115
      · subst h3; decide
      · have e : Lib.indexByte [109, 101, 115] k = -1 := by
          have a1 : ((109 : UInt8) == k) = false := by simpa using fun e => h1 e.symm
          have a2 : ((101 : UInt8) == k) = false := by simpa using fun e => h2 e.symm
          have a3 : ((115 : UInt8) == k) = false := by simpa using fun e => h3 e.symm
          simp [Lib.indexByte, a1, a2, a3]
        rw [e]
        simp [h1, h2, h3]
theorem rune_kind {k : UInt8} (h : kindN k = true) : runev (.int .i32 (k.toNat : Int)) = some (.string ⟨#[k]⟩) := by
  unfold kindN at h
  simp only [Bool.or_eq_true, decide_eq_true_eq] at h
  rcases h with (rfl | rfl) | rfl
  · exact congrArg (fun x => some (Value.string x)) (by decide +kernel : Utf8.encode ((109 : UInt8).toNat : Int) = ⟨#[109]⟩)
  · exact congrArg (fun x => some (Value.string x)) (by decide +kernel : Utf8.encode ((101 : UInt8).toNat : Int) = ⟨#[101]⟩)
  · exact congrArg (fun x => some (Value.string x)) (by decide +kernel : Utf8.encode ((115 : UInt8).toNat : Int) = ⟨#[115]⟩)
theorem name_Of (hT : Tab w) (k : UInt8) (n : Nat) (hn : n < 18446744073709551616) (hR : ∀ w', Fr [] w w' → R (.tuple #[.string (nameOf k n).1, .int .i64 (nameOf k n).2]) w') : CALL PR F_name_Of [.int .u8 (k.toNat : Int), .int .u64 (n : Int)] w R := by
  refine C_name_Of ?_
  unfold M_name_Of
  refine st_index _ _ ?_
  have hk : ((k.toNat : Int)).toNat.toUInt8 = k := by simp
  rw [hk]
  have hi := idx_kinds k
  unfold nameOf okN at hR
  generalize hx : Lib.indexByte (ByteArray.data ⟨#[109, 101, 115]⟩).toList k = x at *
  obtain ⟨L, hL⟩ : ∃ L : Int, L = 10000000000 := ⟨_, rfl⟩
  rw [← hL]
  cases hb : kindN k with
  | false =>
    have := hi.2 hb
    rw [hb] at hR
    (repeat (first | refine stp ?_ | (apply BND_inc; omega) | (apply BND_dec; omega) | refine BND_step (rfl : some _ = some _) ?_ | (apply cyes; first | assumption | omega) | (apply cno; first | assumption | omega) | refine (COND_true _ _).2 ?_ | refine (COND_false _ _).2 ?_ | simp (disch := first | assumption | omega) only [gs1, gs2, decide_true, decide_false, eq_self, beq_self_eq_true, Bool.not_true, Bool.not_false]))
    exact hR _ (Fr.refl _ _)
  | true =>
    have : ¬ x < 0 := fun h => by rw [hi.1 h] at hb; cases hb
    rw [hb] at hR
    by_cases hm : (n : Int) < L
    · have ec1 := cat_ (x := ⟨#[k]⟩) (y := ⟨#[46]⟩) (by show 1 + 1 < 1000000; omega)
      (repeat (first | refine BND_step (conv32 k) ?_ | refine BND_step (rune_kind hb) ?_ | refine BND_step ec1 ?_ | refine stp ?_ | (apply BND_inc; omega) | (apply BND_dec; omega) | refine BND_step (rfl : some _ = some _) ?_ | (apply cyes; first | assumption | omega) | (apply cno; first | assumption | omega) | refine (COND_true _ _).2 ?_ | refine (COND_false _ _).2 ?_ | simp (disch := first | assumption | omega) only [gs1, gs2, decide_true, decide_false, eq_self, beq_self_eq_true, Bool.not_true, Bool.not_false]))
      refine st_FormatUint hT n hn fun w2 f2 => ?_
      have hsz9 := (dec_len 19 n (by omega)).1
      have ec := cat_ (x := ⟨#[k]⟩ ++ ⟨#[46]⟩) (y := ⟨(Lib.decDigits n).toArray⟩) (by rw [ByteArray.size_append, arr_size (Lib.decDigits n)]; show 1 + 1 + _ < 1000000; omega)
      (repeat (first | refine BND_step ec ?_ | refine stp ?_ | (apply BND_inc; omega) | (apply BND_dec; omega) | refine BND_step (rfl : some _ = some _) ?_ | (apply cyes; first | assumption | omega) | (apply cno; first | assumption | omega) | refine (COND_true _ _).2 ?_ | refine (COND_false _ _).2 ?_ | simp (disch := first | assumption | omega) only [gs1, gs2, decide_true, decide_false, eq_self, beq_self_eq_true, Bool.not_true, Bool.not_false]))
      rw [decide_eq_true (show n < 10000000000 by omega)] at hR
      have e : (ByteArray.mk #[k] ++ ByteArray.mk #[46]) ++ ByteArray.mk (Lib.decDigits n).toArray = nmB k n := by
        refine ByteArray.ext (Array.ext' ?_)
        simp [nmB, nmL]
      have := hR w2 f2
      simp only [Bool.and_true, if_true] at this
      rw [← e] at this
      exact this
    · (repeat (first | refine stp ?_ | (apply BND_inc; omega) | (apply BND_dec; omega) | refine BND_step (rfl : some _ = some _) ?_ | (apply cyes; first | assumption | omega) | (apply cno; first | assumption | omega) | refine (COND_true _ _).2 ?_ | refine (COND_false _ _).2 ?_ | simp (disch := first | assumption | omega) only [gs1, gs2, decide_true, decide_false, eq_self, beq_self_eq_true, Bool.not_true, Bool.not_false]))
      rw [decide_eq_false (show ¬ n < 10000000000 by omega)] at hR
      exact hR _ (Fr.refl _ _)
end
end Go.Proofs.YtofllgbdphakiaaGreatDoor
end

section
namespace Go.Vint
open Go.Den
def horn : List UInt8 → Nat
  | [] => 0
  | c :: r => c.toNat % 128 + 128 * horn r
theorem horn_snoc : ∀ (l : List UInt8) (c : UInt8), horn (l ++ [c]) = horn l + 128 ^ l.length * (c.toNat % 128)
  | [], c => by simp [horn]
  | a :: l, c => by
    simp only [List.cons_append, horn, horn_snoc l c, List.length_cons]
    rw [Nat.mul_add, ← Nat.mul_assoc, Nat.pow_succ, Nat.mul_comm 128 (128 ^ l.length)]
    omega
theorem horn_lt : ∀ l : List UInt8, horn l < 128 ^ l.length
  | [] => by simp [horn]
  | a :: l => by
    have h := horn_lt l
    simp only [horn, List.length_cons, Nat.pow_succ]
    omega
theorem pow7 (i : Nat) : 2 ^ (7 * (i + 1)) = 128 * 2 ^ (7 * i) := by
  rw [Nat.mul_add, Nat.pow_add]
  show 2 ^ (7 * i) * 128 = _
  omega
theorem getL_lead : ∀ (j : Nat) (b : List UInt8) (i n : Nat), (∀ t, t < j → ∃ c, b[t]? = some c ∧ 128 ≤ c.toNat) → i + j ≤ 9 → getL b i n = getL (b.drop j) (i + j) (n + horn (b.take j) * 2 ^ (7 * i))
  | 0, b, i, n, _, _ => by simp [horn]
  | j + 1, [], i, n, h, _ => by obtain ⟨c, hc, _⟩ := h 0 (by omega); simp at hc
  | j + 1, c :: r, i, n, h, hj => by
    obtain ⟨c', hc, h128⟩ := h 0 (by omega)
    simp at hc; subst hc
    have ih := getL_lead j r (i + 1) (n + c.toNat % 128 * 2 ^ (7 * i)) (fun t ht => by obtain ⟨x, hx, hx2⟩ := h (t + 1) (by omega); exact ⟨x, by simpa using hx, hx2⟩) (by omega)
    rw [getL, if_neg (by omega), if_pos h128, ih]
    simp only [List.drop_succ_cons, List.take_succ_cons, horn]
    rw [show i + 1 + j = i + (j + 1) by omega, pow7, Nat.add_mul, Nat.mul_comm 128 (horn _), Nat.mul_assoc, Nat.add_assoc]
theorem getV_lead {b : List UInt8} {j : Nat} (h : ∀ t, t < j → ∃ c, b[t]? = some c ∧ 128 ≤ c.toNat) (hj : j ≤ 9) : getV b = getL (b.drop j) j (horn (b.take j)) := by
  have := getL_lead j b 0 0 h (by omega)
  simpa [getV] using this
theorem drop_at {b : List UInt8} {m : Nat} {c : UInt8} (h : b[m]? = some c) : b.drop m = c :: b.drop (m + 1) ∧ b.take (m + 1) = b.take m ++ [c] := by
  have hl := (List.getElem?_eq_some_iff.1 h).1
  have he := (List.getElem?_eq_some_iff.1 h).2
  refine ⟨by rw [List.drop_eq_getElem_cons hl, he], by rw [List.take_add_one, h]; rfl⟩
theorem horn_small {b : List UInt8} {m k : Nat} {c : UInt8} (h : b[m]? = some c) (hm : m ≤ 9) (h9 : m = 9 → c.toNat ≤ 1) (hk : k ≤ m) : horn ((b.take (m + 1)).drop k) < 18446744073709551616 := by
  have hl := (List.getElem?_eq_some_iff.1 h).1
  have hlt : (b.take m).length = m := by rw [List.length_take]; omega
  rw [(drop_at h).2, List.drop_append_of_le_length (by omega), horn_snoc]
  have h1 := horn_lt ((b.take m).drop k)
  have hlen : ((b.take m).drop k).length = m - k := by rw [List.length_drop, hlt]
  rw [hlen] at h1 ⊢
  by_cases h8 : m ≤ 8
  · have h2 : 128 ^ (m - k) ≤ 128 ^ 8 := Nat.pow_le_pow_right (by omega) (by omega)
    have h3 : 128 ^ (m - k) * (c.toNat % 128) ≤ 128 ^ 8 * 127 := Nat.mul_le_mul h2 (by omega)
    have h4 : 128 ^ 8 = 72057594037927936 := by decide
    omega
  · have h2 : 128 ^ (m - k) ≤ 128 ^ 9 := Nat.pow_le_pow_right (by omega) (by omega)
    have h3 : 128 ^ (m - k) * (c.toNat % 128) ≤ 128 ^ 9 * 1 := Nat.mul_le_mul h2 (by have := h9 (by omega); omega)
    have h4 : 128 ^ 9 = 9223372036854775808 := by decide
    omega
end Go.Vint
namespace Go.Proofs.YtofllgbdphakiaaGreatDoor
open Go.Den Go.Disk Go.Vint
theorem remU (x k : Nat) (hk : 0 < k) : binv .int .rem (.int .u64 (x : Int)) (.int .u64 (k : Int)) = some (.int .u64 ((x % k : Nat) : Int)) := by
  rw [binv_rem _ _ _ _ (by omega)]
  rfl
theorem quoU (x k : Nat) (hk : 0 < k) (hx : x < 18446744073709551616) : binv .int .quo (.int .u64 (x : Int)) (.int .u64 (k : Int)) = some (.int .u64 ((x / k : Nat) : Int)) := by
  rw [binv_quo _ _ _ _ (by omega)]
  have e : (x : Int).tdiv (k : Int) = ((x / k : Nat) : Int) := rfl
  have hd := Nat.div_le_self x k
  rw [e]
  generalize x / k = q at hd
  rw [wrap_u64 (by omega) (by omega)]
theorem addU {x y : Nat} (h : x + y < 18446744073709551616) : binv .int .add (.int .u64 (x : Int)) (.int .u64 (y : Int)) = some (.int .u64 ((x + y : Nat) : Int)) := by
  rw [binv_add, wrap_u64 (by omega) (by omega)]
  simp
theorem mulU {x y : Nat} (h : x * y < 18446744073709551616) : binv .int .mul (.int .u64 (x : Int)) (.int .u64 (y : Int)) = some (.int .u64 ((x * y : Nat) : Int)) := by
  have e : (x : Int) * (y : Int) = ((x * y : Nat) : Int) := by simp
  rw [binv_mul, e, wrap_u64 (by omega) (by omega)]
/-- a loop of something made, and a variable that counts down. -/
theorem loop_dn2 {B : (Value → Value → World → Prop) → (Value → Value → World → Nat) → Value → Value → World → Prop} {w : World} {o t : Value} (n : Nat) (I : Value → Nat → World → Prop) (ht : t = .int .i64 ((n : Int) - 1)) (h0 : I o n w)
    (h : ∀ o k w1, k ≤ n → I o k w1 → ∀ J m, (∀ o' w', 0 < k → I o' (k - 1) w' → J o' (.int .i64 ((k : Int) - 1 - 1)) w' ∧ m o' (.int .i64 ((k : Int) - 1 - 1)) w' < m o (.int .i64 ((k : Int) - 1)) w1) → B J m o (.int .i64 ((k : Int) - 1)) w1) :
    ∃ (J : Value → Value → World → Prop) (m : Value → Value → World → Nat), J o t w ∧ ∀ (_d : Env) (o t : Value) (w1 : World), J o t w1 → B J m o t w1 := by
  refine ⟨fun o t w' => ∃ i : Nat, t = .int .i64 ((i : Int) - 1) ∧ i ≤ n ∧ I o i w', fun _ t _ => match t with | .int _ k => (k + 1).toNat | _ => 0, ⟨n, ht, Nat.le_refl _, h0⟩, ?_⟩
  rintro _ o _ w1 ⟨i, rfl, h1, h3⟩
  exact h o i w1 h1 h3 _ _ fun o' w' h4 h5 => ⟨⟨i - 1, by congr 1; omega, by omega, h5⟩, by simp; omega⟩
set_option linter.unusedSimpArgs false
set_option linter.unusedVariables false
set_option maxRecDepth 20000
set_option maxHeartbeats 4000000
attribute [local congr] BND_cg COND_cg GEF_cg
attribute [local irreducible] capl slicea load1 loadn iaddr iaddra faddr storev newslice binv lookv mupd mdel mlenv mentry mestore slicev slicev3 slices indexs indexav textv rangev nexts clearv shiftv eqaggv convi buildv pickv lens lenl unv nilchk extractv partn JOIN
theorem r2_Put : ∀ (n : Nat), n < 18446744073709551616 → ∀ {w : World} {R : Value → World → Prop}, (∀ w' v G, Slc encB 1 w' v (layV n) G → (∀ b ∈ G, hsz w ≤ b) → Fr [] w w' → R v w') → CALL PR F_tumbrelref02_Put [.int .u64 (n : Int)] w R := by
  intro n
  induction n using Nat.strongRecOn with
  | _ n ih =>
    intro hn w R hR
    refine C_tumbrelref02_Put ?_
    unfold M_tumbrelref02_Put
    have key : ∀ m : Nat, convi .u8 (.int .u64 (m : Int)) = some (.int .u8 ((UInt8.ofNat m).toNat : Int)) := fun m => by rw [conv8n, UInt8.toNat_ofNat']
    by_cases h1 : n < 128
    · (repeat (first | refine BND_step (key n) ?_ | refine gg ?_))
      refine newone_step (enc := encB) (x := UInt8.ofNat n) (y := .int .u8 ((UInt8.ofNat n).toNat : Int)) encB_len rfl fun t w1 s1 f1 z1 => ?_
      rw [layV_lt h1] at hR
      exact hR _ _ _ s1 (by simp) f1
    · have e2 : binv .int .add (.int .u64 128) (.int .u64 ((n % 128 : Nat) : Int)) = some (.int .u64 ((n % 128 + 128 : Nat) : Int)) := by
        rw [Nat.add_comm]; exact addU (x := 128) (by omega)
      (repeat (first | refine BND_step (remU n 128 (by omega)) ?_ | refine BND_step (key _) ?_ | refine gg ?_))
      refine newone_step (enc := encB) (x := UInt8.ofNat (n % 128 + 128)) (y := .int .u8 ((UInt8.ofNat (n % 128 + 128)).toNat : Int)) encB_len rfl fun t w1 s1 f1 z1 => ?_
      (repeat (first | refine BND_step (quoU n 128 (by omega) hn) ?_ | refine gg ?_))
      refine ih (n / 128) (by omega) (by omega) fun w2 v2 G2 s2 g2 f2 => ?_
      have hl := layV_le (n / 128) (by omega)
      refine APPEND_slc (s1.fr f2 (by simp)) (s2.loads encB_len) encB_len encB_one rfl (by simp; omega) (by simp; omega) fun v3 w3 G3 s3 f3 g3 => ?_
      rw [layV_ge h1] at hR
      have gr1 := f1.grow
      have gr2 := f2.grow
      refine hR _ _ G3 s3 (fun b hb => ?_) ((f1.trans' f2).trans f3 fun b hb => .inr (by simp at hb; omega))
      rcases g3 b hb with h | h
      · simp at h; omega
      · omega
section
variable {w : World} {R : Value → World → Prop}
theorem r2_All {lv : Value} {ns : List Nat} (hl : Arr encU 1 w lv ns) (hs : ∀ n ∈ ns, n < 18446744073709551616) (hn : ns.length < 1000000) (hR : ∀ w' v G, Slc encB 1 w' v (ns.flatMap layV) G → (∀ b ∈ G, hsz w ≤ b) → Fr [] w w' → R v w') : CALL PR F_tumbrelref02_All [lv] w R := by
  refine C_tumbrelref02_All ?_
  unfold M_tumbrelref02_All
  refine newnil_step encB fun t w1 s1 f1 z1 => ?_
  refine loop_up2 (o := t) 0 ns.length (fun o i w' => ∃ G, Slc encB 1 w' o ((ns.take i).flatMap layV) G ∧ (∀ b ∈ G, hsz w ≤ b) ∧ Fr [] w w') ⟨_, s1, by simp, f1⟩ (by omega) ?_
  rintro o i w2 - hi ⟨G, s2, g2, f2⟩ J m hJ
  by_cases hlt : i < ns.length
  · have hx := List.getElem?_eq_getElem hlt
    have hm := List.getElem_mem hlt
    generalize ns[i] = n at hx hm
    obtain ⟨b1, o1, i1, _, _, l1⟩ := (hl.fr f2 (by simp)).spot hx rfl .i64
    (repeat (first | refine BND_step hl.len ?_ | refine BND_step (l1 (w' := w2) rfl (j := 0) rfl) ?_ | refine gg ?_))
    refine r2_Put n (hs n hm) fun w3 v3 G3 s3 g3 f3 => ?_
    have hl1 := layV_le n (hs n hm)
    have hl2 : ∀ l : List Nat, (∀ x ∈ l, x < 18446744073709551616) → (l.flatMap layV).length ≤ 10 * l.length := by
      intro l
      induction l with
      | nil => intro _; simp
      | cons a l ih =>
        intro h
        have h1 := layV_le a (h a (by simp))
        have h2 := ih fun x hx => h x (by simp [hx])
        simp only [List.flatMap_cons, List.length_append, List.length_cons]; omega
    have hl3 := hl2 (ns.take i) fun x hx => hs x (List.mem_of_mem_take hx)
    have hl4 : (ns.take i).length = i := by rw [List.length_take]; omega
    refine APPEND_slc (s2.fr f3 (by simp)) (s3.loads encB_len) encB_len encB_one rfl (by omega) (by omega) fun v4 w4 G4 s4 f4 g4 => ?_
    have gr2 := f2.grow
    have gr3 := f3.grow
    (repeat refine gg ?_)
    refine hJ _ _ hlt ⟨G4, ?_, fun b hb => ?_, (f2.trans' f3).trans f4 fun b hb => .inr (g2 b hb)⟩
    · have e : (ns.take (i + 1)).flatMap layV = (ns.take i).flatMap layV ++ layV n := by rw [List.take_add_one, hx]; simp
      rw [e]; exact s4
    · rcases g4 b hb with h | h
      · exact g2 b h
      · omega
  · obtain rfl : i = ns.length := by omega
    rw [List.take_length] at s2
    (repeat (first | refine BND_step hl.len ?_ | refine gg ?_))
    exact hR _ _ _ s2 g2 f2
theorem r2_Get {bv : Value} {bs : List UInt8} (hb : Arr encB 1 w bv bs) (hn : bs.length < 1000000000) (hR : R (.tuple #[.int .u64 ((getV bs).1 : Int), .int .i64 ((getV bs).2.1 : Int), .int .i64 (getV bs).2.2]) w) : CALL PR F_tumbrelref02_Get [bv] w R := by
  refine C_tumbrelref02_Get ?_
  unfold M_tumbrelref02_Get
  refine loop_up 0 (min bs.length 9) (fun i w' => w' = w ∧ ∀ t, t < i → ∃ c, bs[t]? = some c ∧ 128 ≤ c.toNat) ⟨rfl, by simp⟩ (by omega) ?_
  rintro i w1 - hi ⟨rfl, hp⟩ J m hJ
  have hv := getV_lead hp (by omega)
  by_cases hlt : i < bs.length
  · have hx := List.getElem?_eq_getElem hlt
    generalize bs[i] = c at hx
    obtain ⟨d1, d2⟩ := drop_at hx
    rw [d1, getL] at hv
    obtain ⟨b1, o1, i1, _, _, l1⟩ := hb.spot hx rfl .i64
    have ld := l1 (w' := w1) rfl (j := 0) rfl
    have fin : ∀ (h9 : i = 9 → c.toNat ≤ 1) (hz : ¬ (c.toNat = 0 ∧ 0 < i)) (hc : c.toNat < 128), ∃ (J_50 : Value → Value → World → Prop) (m_50 : Value → Value → World → Nat), J_50 (Value.int .u64 0) (.int .i64 (i : Int)) w1 ∧ ∀ (_d_50 : Env) (n_51 i_52 : Value) (w2 : World), J_50 n_51 i_52 w2 →
        (BND (binv .int .geq i_52 (Value.int .i64 0)) fun t50_66 =>
        COND t50_66
        (BND (binv .int .mul (Value.int .u64 128) n_51) fun t54_67 =>
        BND (iaddr 1 bv i_52) fun t57_68 =>
        BND (load1 w2 t57_68) fun t58_69 =>
        BND (binv .int .rem t58_69 (Value.int .u8 128)) fun t59_70 =>
        BND (convi .u64 t59_70) fun t60_71 =>
        BND (binv .int .add t54_67 t60_71) fun t61_72 =>
        BND (binv .int .sub i_52 (Value.int .i64 1)) fun t52_73 =>
        (J_50 t61_72 t52_73 w2 ∧ m_50 t61_72 t52_73 w2 < m_50 n_51 i_52 w2))
        (BND (binv .int .add (.int .i64 (i : Int)) (Value.int .i64 1)) fun t64_74 =>
        R (.tuple #[n_51, t64_74, (Value.int .i64 0)]) w2)) := by
      intro h9 hz hc
      refine loop_dn2 (o := .int .u64 0) (i + 1) (fun o k w' => o = .int .u64 (horn ((bs.take (i + 1)).drop k) : Int) ∧ w' = w1) (by congr 1; omega) ⟨?_, rfl⟩ ?_
      · rw [List.drop_of_length_le (by rw [List.length_take]; omega)]; rfl
      rintro _ k w2 hk ⟨rfl, rfl⟩ J2 m2 hJ2
      cases k with
      | zero =>
        (repeat refine gg ?_)
        rw [List.drop_zero, d2, horn_snoc] at *
        have e1 : (bs.take i).length = i := by rw [List.length_take]; omega
        rw [e1]
        rw [if_neg (by omega), if_neg (by omega), if_neg hz] at hv
        rw [hv] at hR
        have e2 : 2 ^ (7 * i) = 128 ^ i := by rw [Nat.pow_mul]
        simp only [e2] at hR
        rw [Nat.mul_comm]
        exact hR
      | succ j =>
        have ej : (((j + 1 : Nat) : Int) - 1) = (j : Int) := by omega
        have hxj := List.getElem?_eq_getElem (l := bs) (i := j) (by omega)
        generalize bs[j] = cj at hxj
        obtain ⟨bj, oj, ij, _, _, lj⟩ := hb.spot hxj rfl .i64
        have hdj : (bs.take (i + 1)).drop j = cj :: (bs.take (i + 1)).drop (j + 1) := by
          have : (bs.take (i + 1))[j]? = some cj := by rw [List.getElem?_take]; rw [if_pos (by omega)]; exact hxj
          exact (drop_at this).1
        have hs := horn_small hx (by omega) h9 (k := j) (by omega)
        rw [hdj, horn] at hs
        have esub : binv .int .sub (.int .i64 (j : Int)) (.int .i64 1) = some (.int .i64 (((j + 1 : Nat) : Int) - 1 - 1)) := by rw [binv_sub, wrap_i64 (by omega) (by omega), ej]
        rw [ej] at hJ2 ⊢
        rw [show ((j : Int) - 1) = (((j + 1 : Nat) : Int) - 1 - 1) by omega] at hJ2
        have emul : binv .int .mul (.int .u64 128) (.int .u64 ((horn ((bs.take (i + 1)).drop (j + 1)) : Nat) : Int)) = some (.int .u64 ((128 * horn ((bs.take (i + 1)).drop (j + 1)) : Nat) : Int)) := mulU (x := 128) (by omega)
        have eadd := addU (x := 128 * horn ((bs.take (i + 1)).drop (j + 1))) (y := cj.toNat % 128) (by omega)
        (repeat (first | refine BND_step (lj (w' := w2) rfl (j := 0) rfl) ?_ | refine BND_step (rem128 cj) ?_ | refine BND_step (convu64 (k := .u8) (x := cj.toNat % 128) (by omega)) ?_ | refine gg ?_))
        refine hJ2 _ _ (by omega) ⟨?_, rfl⟩
        rw [show j + 1 - 1 = j by omega, hdj, horn, Nat.add_comm]
    by_cases h9 : i < 9
    · by_cases h128 : 128 ≤ c.toNat
      · have h128' : (128 : Int) ≤ (c.toNat : Int) := by omega
        (repeat (first | refine BND_step hb.len ?_ | refine gg ?_))
        refine hJ _ (by omega) ⟨rfl, fun t ht => ?_⟩
        by_cases h : t < i
        · exact hp t h
        · obtain rfl : t = i := by omega
          exact ⟨c, hx, h128⟩
      · have h128' : ¬ (128 : Int) ≤ (c.toNat : Int) := by omega
        by_cases hz : c.toNat = 0 ∧ 0 < i
        · have hz1 : (c.toNat : Int) = 0 := by omega
          (repeat (first | refine BND_step hb.len ?_ | refine gg ?_))
          rw [if_neg (by omega), if_neg h128, if_pos hz] at hv
          rw [hv] at hR
          exact hR
        · by_cases hi0 : 0 < i
          · have hz1 : ¬ (c.toNat : Int) = 0 := by omega
            (repeat (first | refine BND_step hb.len ?_ | refine gg ?_))
            exact fin (by omega) hz (by omega)
          · (repeat (first | refine BND_step hb.len ?_ | refine gg ?_))
            exact fin (by omega) hz (by omega)
    · obtain rfl : i = 9 := by omega
      by_cases h1 : 1 < c.toNat
      · have h1' : (1 : Int) < (c.toNat : Int) := by omega
        (repeat (first | refine BND_step hb.len ?_ | refine gg ?_))
        rw [if_pos (by omega)] at hv
        rw [hv] at hR
        exact hR
      · have h1' : ¬ (1 : Int) < (c.toNat : Int) := by omega
        by_cases hz : c.toNat = 0
        · have hz1 : (c.toNat : Int) = 0 := by omega
          (repeat (first | refine BND_step hb.len ?_ | refine gg ?_))
          rw [if_neg (by omega), if_neg (by omega), if_pos (by omega)] at hv
          rw [hv] at hR
          exact hR
        · have hz1 : ¬ (c.toNat : Int) = 0 := by omega
          (repeat (first | refine BND_step hb.len ?_ | refine gg ?_))
          exact fin (by omega) (by omega) (by omega)
  · obtain rfl : i = bs.length := by omega
    rw [List.drop_of_length_le (by omega), getL] at hv
    rw [hv] at hR
    (repeat (first | refine BND_step hb.len ?_ | refine gg ?_))
    exact hR
end
end Go.Proofs.YtofllgbdphakiaaGreatDoor
end

section
namespace Go.Proofs.YtofllgbdphakiaaGreatDoor
open Go.Den Go.Disk Go.Vint Go.Crc Go.Frame Go.Rec Go.Nm
theorem join_v2n {f : (Value → Value → World → Prop) → Prop} {k : Value → Value → World → Prop} (Q : Value → Value → World → Prop) (h : ∀ K, (∀ a b w', Q a b w' → K a b w') → f K) (hk : ∀ a b w', Q a b w' → k a b w') : JOIN f k := h k hk
theorem dig_conv {n : Nat} (h : n < 10) : convi .u8 (.int .u64 ((48 + n : Nat) : Int)) = some (.int .u8 ((UInt8.ofNat (48 + n)).toNat : Int)) := by
  rw [conv8n, UInt8.toNat_ofNat']
theorem dec_size {n : Nat} (h : n < 18446744073709551616) : (Lib.decDigits n).length ≤ 20 := (dec_len 19 n (by omega)).1
theorem txB_one (c : UInt8) : txB [c] = ⟨#[c]⟩ := rfl
theorem dec_cat {n : Nat} (h : ¬ n < 10) : (⟨(Lib.decDigits (n / 10)).toArray⟩ : ByteArray) ++ txB [UInt8.ofNat (48 + n % 10)] = ⟨(Lib.decDigits n).toArray⟩ := by
  refine ByteArray.ext (Array.ext' ?_)
  rw [dec_big h]
  simp [txB]
set_option linter.unusedSimpArgs false
set_option linter.unusedVariables false
set_option maxRecDepth 20000
set_option maxHeartbeats 4000000
attribute [local congr] BND_cg COND_cg GEF_cg
attribute [local irreducible] capl slicea load1 loadn iaddr iaddra faddr storev newslice binv lookv mupd mdel mlenv mentry mestore slicev slicev3 slices indexs indexav textv rangev nexts clearv shiftv eqaggv convi buildv pickv lens lenl unv nilchk extractv partn JOIN
theorem r14_digits : ∀ (n : Nat), n < 18446744073709551616 → ∀ {w : World} {R : Value → World → Prop}, (∀ w', Fr [] w w' → R (.string ⟨(Lib.decDigits n).toArray⟩) w') → CALL PR F_tumbrelref14_digits [.int .u64 (n : Int)] w R := by
  intro n
  induction n using Nat.strongRecOn with
  | _ n ih =>
    intro hn w R hR
    refine C_tumbrelref14_digits ?_
    unfold M_tumbrelref14_digits
    have e1 := remU n 10 (by omega)
    have e2 : binv .int .add (.int .u64 48) (.int .u64 ((n % 10 : Nat) : Int)) = some (.int .u64 ((48 + n % 10 : Nat) : Int)) := addU (x := 48) (by omega)
    have e3 := dig_conv (n := n % 10) (by omega)
    (repeat refine gg ?_)
    refine newone_step (enc := encB) (x := UInt8.ofNat (48 + n % 10)) (y := .int .u8 ((UInt8.ofNat (48 + n % 10)).toNat : Int)) encB_len rfl fun t w1 s1 f1 z1 => ?_
    have et := textB s1.arr
    by_cases h : n < 10
    · (repeat refine gg ?_)
      have := hR w1 f1
      rw [dec_small h] at this
      rw [show n % 10 = n by omega]
      exact this
    · have e4 := quoU n 10 (by omega) hn
      (repeat refine gg ?_)
      refine ih (n / 10) (by omega) (by omega) fun w2 f2 => ?_
      have hs := dec_size (n := n / 10) (by omega)
      have ec := cat_ (x := ⟨(Lib.decDigits (n / 10)).toArray⟩) (y := txB [UInt8.ofNat (48 + n % 10)]) (by rw [arr_size (Lib.decDigits (n / 10))]; show _ + 1 < 1000000; omega)
      rw [dec_cat h] at ec
      (repeat refine gg ?_)
      exact hR _ (f1.trans' f2)
section
variable {w : World} {R : Value → World → Prop}
theorem r14_Of (k : UInt8) (n : Nat) (hn : n < 18446744073709551616) (hR : ∀ w', Fr [] w w' → R (.tuple #[.string (nameOf k n).1, .int .i64 (nameOf k n).2]) w') : CALL PR F_tumbrelref14_Of [.int .u8 (k.toNat : Int), .int .u64 (n : Int)] w R := by
  refine C_tumbrelref14_Of ?_
  unfold M_tumbrelref14_Of
  obtain ⟨L, hL⟩ : ∃ L : Int, L = 9999999999 := ⟨_, rfl⟩
  rw [← hL]
  have kinj : ∀ c : UInt8, ((k.toNat : Nat) : Int) = ((c.toNat : Nat) : Int) ↔ k = c := fun c => by rw [Int.ofNat_inj, UInt8.toNat_inj]
  have bad : okN k n = false → R (.tuple #[.string ⟨#[]⟩, .int .i64 1]) w := fun h => by
    have := hR w (Fr.refl _ _)
    unfold nameOf at this
    rw [if_neg (by rw [h]; simp)] at this
    exact this
  have good : kindN k = true → n < 10000000000 → ∀ (f : (Value → Value → World → Prop) → Prop), (∀ K : Value → Value → World → Prop, (∀ w', Fr [] w w' → K (.string (nmB k n)) (.int .i64 0) w') →
      ((BND (newslice 5 #[(Value.int .u8 0)] 1 2 [(0, 1, .int .u8 (k.toNat : Int)), (1, 1, (Value.int .u8 46))] w.drew) fun p_ => NEW p_ fun t21 w2 => BND (textv .u8 textOfBytes w2 t21) fun t22 => CALL PR F_tumbrelref14_digits [.int .u64 (n : Int)] w2 fun t24 w3 => BND (binv .str .add t22 t24) fun t25 => K t25 (Value.int .i64 0) w3) ∧
      (BND (newslice 5 #[(Value.int .u8 0)] 1 2 [(0, 1, .int .u8 (k.toNat : Int)), (1, 1, (Value.int .u8 46))] w.drew) fun p_ => NEW p_ fun t21 w4 => CALL PR F_tumbrelref14_digits [.int .u64 (n : Int)] w4 fun t24 w5 => BND (textv .u8 textOfBytes w5 t21) fun t22 => BND (binv .str .add t22 t24) fun t25 => K t25 (Value.int .i64 0) w5) ∧
      (CALL PR F_tumbrelref14_digits [.int .u64 (n : Int)] w.drew fun t24 w6 => BND (newslice 5 #[(Value.int .u8 0)] 1 2 [(0, 1, .int .u8 (k.toNat : Int)), (1, 1, (Value.int .u8 46))] w6) fun p_ => NEW p_ fun t21 w7 => BND (textv .u8 textOfBytes w7 t21) fun t22 => BND (binv .str .add t22 t24) fun t25 => K t25 (Value.int .i64 0) w7)) → f K) →
      JOIN f fun t4 t5 w1 => R (.tuple #[t4, t5]) w1 := by
    intro hk hlt f hf
    have hs := dec_size hn
    have ec := cat_ (x := txB [k, 46]) (y := ⟨(Lib.decDigits n).toArray⟩) (by rw [arr_size (Lib.decDigits n)]; show 2 + _ < 1000000; omega)
    have en : txB [k, 46] ++ (⟨(Lib.decDigits n).toArray⟩ : ByteArray) = nmB k n := by
      refine ByteArray.ext (Array.ext' ?_)
      simp [nmB, nmL, txB]
    rw [en] at ec
    have ok : okN k n = true := by unfold okN; rw [hk, decide_eq_true hlt]; rfl
    refine join_v2n (fun a b w' => a = .string (nmB k n) ∧ b = .int .i64 0 ∧ Fr [] w w') (fun K hK => hf K (fun w' fr => hK _ _ _ ⟨rfl, rfl, fr⟩) ⟨?_, ?_, ?_⟩) ?_
    · refine newparts_step encB_len (val := fun x : UInt8 => Value.int .u8 (x.toNat : Int)) (fun _ => rfl) [k, 46] rfl rfl fun t w2 s2 f2 z2 => ?_
      have et := textB s2.arr
      (repeat refine gg ?_)
      refine r14_digits n hn fun w3 f3 => ?_
      (repeat refine gg ?_)
      exact hK _ _ _ ⟨rfl, rfl, ((Fr.drew [] w).trans' f2).trans' f3⟩
    · refine newparts_step encB_len (val := fun x : UInt8 => Value.int .u8 (x.toNat : Int)) (fun _ => rfl) [k, 46] rfl rfl fun t w2 s2 f2 z2 => ?_
      refine r14_digits n hn fun w3 f3 => ?_
      have et := textB (s2.fr f3 (by simp)).arr
      (repeat refine gg ?_)
      exact hK _ _ _ ⟨rfl, rfl, ((Fr.drew [] w).trans' f2).trans' f3⟩
    · refine r14_digits n hn fun w3 f3 => ?_
      refine newparts_step encB_len (val := fun x : UInt8 => Value.int .u8 (x.toNat : Int)) (fun _ => rfl) [k, 46] rfl rfl fun t w2 s2 f2 z2 => ?_
      have et := textB s2.arr
      (repeat refine gg ?_)
      exact hK _ _ _ ⟨rfl, rfl, ((Fr.drew [] w).trans' f3).trans' f2⟩
    · rintro _ _ w' ⟨rfl, rfl, fr⟩
      have := hR w' fr
      unfold nameOf at this
      rw [if_pos ok] at this
      exact this
  by_cases hk : kindN k = true
  · have hk' := hk
    unfold kindN at hk'
    simp only [Bool.or_eq_true, decide_eq_true_eq] at hk'
    have big : L < (n : Int) → R (.tuple #[.string ⟨#[]⟩, .int .i64 1]) w := fun h => bad (by unfold okN; rw [decide_eq_false (show ¬ n < 10000000000 by omega)]; simp)
    by_cases hn' : L < (n : Int)
    · rcases hk' with (rfl | rfl) | rfl
      · have e : (((109 : UInt8).toNat : Nat) : Int) = 109 := rfl
        rw [e]
        (repeat refine gg ?_)
        exact big hn'
      · have e : (((101 : UInt8).toNat : Nat) : Int) = 101 := rfl
        rw [e]
        (repeat refine gg ?_)
        exact big hn'
      · have e : (((115 : UInt8).toNat : Nat) : Int) = 115 := rfl
        rw [e]
        (repeat refine gg ?_)
        exact big hn'
    · rcases hk' with (rfl | rfl) | rfl
      · have e : (((109 : UInt8).toNat : Nat) : Int) = 109 := rfl
        rw [e]
        (repeat refine gg ?_)
        refine ⟨fun _ _ => True, ?_⟩
        exact good hk (by omega) _ fun K _ h => h
      · have e : (((101 : UInt8).toNat : Nat) : Int) = 101 := rfl
        rw [e]
        (repeat refine gg ?_)
        refine ⟨fun _ _ => True, ?_⟩
        exact good hk (by omega) _ fun K _ h => h
      · have e : (((115 : UInt8).toNat : Nat) : Int) = 115 := rfl
        rw [e]
        (repeat refine gg ?_)
        refine ⟨fun _ _ => True, ?_⟩
        exact good hk (by omega) _ fun K _ h => h
  · have hk' := hk
    unfold kindN at hk'
    simp only [Bool.or_eq_true, decide_eq_true_eq, not_or] at hk'
    have n1 : ¬ ((k.toNat : Nat) : Int) = 109 := fun h => hk'.1.1 ((kinj 109).1 h)
    have n2 : ¬ ((k.toNat : Nat) : Int) = 101 := fun h => hk'.1.2 ((kinj 101).1 h)
    have n3 : ¬ ((k.toNat : Nat) : Int) = 115 := fun h => hk'.2 ((kinj 115).1 h)
    (repeat refine gg ?_)
    exact bad (by unfold okN; rw [Bool.eq_false_iff.2 hk]; rfl)
end
end Go.Proofs.YtofllgbdphakiaaGreatDoor
end

section
namespace Go.Proofs.YtofllgbdphakiaaGreatDoor
open Go.Den Go.Nm Go.Disk Go.Rec Go.RowKit Go.Shelf
def Sent (n : String) (w : World) : Prop := ∃ g T f tp p, PR.globalNamed n = some g ∧ blk w g = some (.cells #[.iface tp p] T f)
theorem Sent.fr {n : String} {w w' : World} (h : Sent n w) (f : Fr [] w w') : Sent n w' := by
  obtain ⟨g, T, q, tp, p, h1, h2⟩ := h
  exact ⟨g, T, q, tp, p, h1, f.some (by simp) h2⟩
theorem Sent.var {n : String} {w : World} (h : Sent n w) : ∃ tp p, w.var? PR n = some #[.iface tp p] := by
  obtain ⟨g, T, q, tp, p, h1, h2⟩ := h
  have h2' : w.heap[g]? = some (.cells #[.iface tp p] T q) := h2
  refine ⟨tp, p, ?_⟩
  unfold World.var?
  rw [h1]
  simp only [Option.bind_some, h2']
structure Errs (w : World) : Prop where
  syn : Sent "strconv.ErrSyntax" w
  rng : Sent "strconv.ErrRange" w
theorem Errs.fr {w w' : World} (h : Errs w) (f : Fr [] w w') : Errs w' := ⟨h.syn.fr f, h.rng.fr f⟩
theorem frb {w w' : World} (h : Below w.heap.size w w') : Fr [] w w' := ⟨h.size, fun b hb _ => h.block b hb, h.os, h.tape, h.output⟩
theorem slices_from2 {s : ByteArray} (h : 2 ≤ s.size) : slices (.string s) (some (.int .i64 2)) none = some (.string (txB (s.data.toList.drop 2))) := by
  have e : s.extract 2 s.size = txB (s.data.toList.drop 2) := by
    refine ByteArray.ext (Array.ext' ?_)
    simp [txB, ByteArray.data_extract]
    exact List.take_of_length_le (by rw [List.length_drop, Array.length_toList]; exact Nat.le_refl _)
  simp only [slices, natOf]
  simp only [show (0 : Int) ≤ 2 by decide, if_true, show (2 : Int).toNat = 2 from rfl, Nat.le_refl, h, and_self, e]
theorem if_nil : ifnilv .neq .nilIface .nilIface = some (.bool false) := rfl
theorem if_some {t : TypeId} {p : Value} : ifnilv .neq (.iface t p) .nilIface = some (.bool true) := rfl
set_option linter.unusedSimpArgs false
set_option linter.unusedVariables false
set_option maxRecDepth 20000
set_option maxHeartbeats 4000000
attribute [local congr] BND_cg COND_cg GEF_cg
attribute [local irreducible] capl slicea load1 loadn iaddr iaddra faddr storev newslice binv lookv mupd mdel mlenv mentry mestore slicev slicev3 slices indexs indexav textv rangev nexts clearv shiftv eqaggv convi buildv pickv lens lenl unv nilchk extractv partn JOIN
section
variable {w : World} {R : Value → World → Prop}
theorem nm_Read (hT : Tab w) (hE : Errs w) (s : ByteArray) (hs : s.size ≤ 281474976710656) (hR : ∀ w', Fr [] w w' → R (.tuple #[.int .u8 ((readN s).1.toNat : Int), .int .u64 ((readN s).2.1 : Int), .bool (readN s).2.2]) w') : CALL PR F_name_Read [.string s] w R := by
  refine C_name_Read ?_
  unfold M_name_Read
  by_cases h3 : s.size < 3
  · (repeat refine gg ?_)
    have := hR w (Fr.refl _ _)
    rw [readN_short (.inl h3)] at this
    exact this
  have e2 := slices_from2 (s := s) (by omega)
  have hlen : s.data.toList.length = s.size := Array.length_toList
  have hts : (txB (s.data.toList.drop 2)).size ≤ 281474976710656 := by show (s.data.toList.drop 2).toArray.size ≤ _; simp; omega
  have e0 := sidx (k := .i64) (headD_at (l := s.data.toList) (by omega))
  have e0' : indexs (.string s) (.int .i64 0) = some (.int .u8 ((s.data.toList.headD 0).toNat : Int)) := e0
  have hrp := readN_prog (s := s) (by omega)
  (repeat refine gg ?_)
  cases hp : Lib.parseUintB 64 (s.data.toList.drop 2) with
  | «syntax» =>
    rw [hp] at hrp
    obtain ⟨tp, p, hv⟩ := hE.syn.var
    refine ⟨(Tryz.strconv_ParseUint_10_at64_syntax_var (txB (s.data.toList.drop 2)) hts (by simpa [txB] using hp) tp p w hv).mono fun e w1 he => ?_⟩
    obtain ⟨N, rfl, _, _, hb⟩ := he
    refine ⟨_, rfl, ?_⟩
    (repeat (first | refine BND_step if_some ?_ | refine gg ?_))
    have := hR w1 (frb hb)
    rw [hrp] at this
    exact this
  | range =>
    rw [hp] at hrp
    obtain ⟨tp, p, hv⟩ := hE.rng.var
    refine ⟨(Tryz.strconv_ParseUint_10_at64_range_var (txB (s.data.toList.drop 2)) hts (by simpa [txB] using hp) tp p w hv).mono fun e w1 he => ?_⟩
    obtain ⟨N, rfl, _, _, hb⟩ := he
    refine ⟨_, rfl, ?_⟩
    (repeat (first | refine BND_step if_some ?_ | refine gg ?_))
    have := hR w1 (frb hb)
    rw [hrp] at this
    exact this
  | ok u =>
    rw [hp] at hrp
    have hu : u ≤ 18446744073709551615 := Lib.parseUintB_le hp
    refine ⟨(Tryz.strconv_ParseUint_10_at64_ok (txB (s.data.toList.drop 2)) (by omega) u (by simpa [txB] using hp) w).mono fun e w1 he => ?_⟩
    obtain ⟨rfl, hw⟩ := he
    have f1 : Fr [] w w1 := by
      rcases hw with rfl | rfl
      · exact Fr.refl _ _
      · exact frb (Lib.bytesWorld_below _ _ _)
    refine ⟨_, rfl, ?_⟩
    (repeat (first | refine BND_step if_nil ?_ | refine gg ?_))
    refine name_Of (hT.fr f1) (s.data.toList.headD 0) u (by omega) fun w2 f2 => ?_
    have f02 := f1.trans' f2
    simp only at hrp
    have := hR w2 f02
    rw [hrp] at this
    cases hk : okN (s.data.toList.headD 0) u with
    | false =>
      rw [hk] at this
      have en : nameOf (s.data.toList.headD 0) u = (ByteArray.empty, 1) := by unfold nameOf; rw [hk]; rfl
      rw [en]
      have ne : ¬ (ByteArray.empty = s) := fun e => by subst e; simp at h3
      (repeat refine gg ?_)
      simpa using this
    | true =>
      rw [hk] at this
      have en : nameOf (s.data.toList.headD 0) u = (nmB (s.data.toList.headD 0) u, 0) := by unfold nameOf; rw [hk]; rfl
      rw [en]
      by_cases he : nmB (s.data.toList.headD 0) u = s
      · (repeat refine gg ?_)
        rw [if_pos ⟨rfl, he⟩] at this
        exact this
      · (repeat refine gg ?_)
        rw [if_neg fun h => he h.2] at this
        exact this
end
end Go.Proofs.YtofllgbdphakiaaGreatDoor
end

section
namespace Go.Proofs.YtofllgbdphakiaaGreatDoor
open Go.Den
open Go.ChangeShapes Go.WideShapes Go.ChangeAt Go.RowKit
set_option linter.unusedVariables false
theorem tabl_at {l : List (String × DataW Unit)} {w : World} (i : Nat) (hp : (l.all fun x => x.2.handleName?.isNone) = true) (hi : l[i]? = some (tabN, Lib.tabData .u64 Lib.pow10Tab)) (h : laidMetH PR l w) : Tab w :=
  tab_of (t := 236) (e := 22) hp (List.mem_of_getElem? hi) (by kernel_rfl) Tryz.underlying236 Tryz.underlying22 (by kernel_rfl) (by kernel_rfl) h
theorem u64_nat {x : Int} (h : (Lit.int .u64 x).wf = true) : ∃ n : Nat, x = (n : Int) ∧ n < 18446744073709551616 := by
  have := h
  simp [Lit.wf, IntKind.min, IntKind.max, IntKind.signed, IntKind.bits] at this
  exact ⟨x.toNat, by omega, by omega⟩
theorem u8_byte {x : Int} (h : (Lit.int .u8 x).wf = true) : ∃ c : UInt8, x = (c.toNat : Int) := by
  have := h
  simp [Lit.wf, IntKind.min, IntKind.max, IntKind.signed, IntKind.bits] at this
  refine ⟨UInt8.ofNat x.toNat, ?_⟩
  rw [UInt8.toNat_ofNat']
  omega
theorem sent_star : "*" ++ "errors.errorString" = "*errors.errorString" := by decide
theorem sent_row (u : TypeId) (h : PR.typeName? 3 u = some "*errors.errorString") : u = 255 :=
  typeName_ptr_named (nm := "errors.errorString") (by rw [sent_star]; kernel_rfl) (by kernel_rfl) (by decide) u (by rw [sent_star]; exact h)
theorem sent_of {n : String} {g : Nat} {text : List UInt8} {r : List (String × DataW Unit)} {W : World} (h : laidMet PR ((n, .iface "*errors.errorString" (.ptr (.agg [.lit (.string text)]))) :: r) W)
    (hg : PR.globalNamed n = some g) (ht : (PR.globals[g]?).map (·.type) = some 160) : Sent n W := by
  obtain ⟨a, s, hv, _⟩ := laid_sentinel h hg ht Tryz.underlying160 sent_row Tryz.underlying255 Tryz.underlying257 rfl rfl Tryz.underlying9 (by kernel_rfl) (by kernel_rfl)
  unfold World.var? at hv
  rw [hg] at hv
  simp only [Option.bind_some] at hv
  split at hv
  · rename_i cs T f hb
    cases hv
    exact ⟨g, T, f, _, _, hg, hb⟩
  · cases hv
noncomputable def gOf (n : String) : Nat := (PR.globalNamed n).getD 0
theorem gOf_named {n : String} (h : (PR.globalNamed n).isSome = true) : PR.globalNamed n = some (gOf n) := by
  unfold gOf
  cases e : PR.globalNamed n with
  | none => rw [e] at h; cases h
  | some g => rfl
theorem errs_of {a b c : String × DataW Unit} {t1 t2 : List UInt8} {W : World} (hp : (([a, b, c, ("strconv.ErrRange", .iface "*errors.errorString" (.ptr (.agg [.lit (.string t1)]))), ("strconv.ErrSyntax", .iface "*errors.errorString" (.ptr (.agg [.lit (.string t2)])))] : List (String × DataW Unit)).all fun x => x.2.handleName?.isNone) = true)
    (h : laidMetH PR [a, b, c, ("strconv.ErrRange", .iface "*errors.errorString" (.ptr (.agg [.lit (.string t1)]))), ("strconv.ErrSyntax", .iface "*errors.errorString" (.ptr (.agg [.lit (.string t2)])))] W) : Errs W := by
  rw [MakeChecks.laidMetH_plain _ _ _ hp] at h
  have h3 := h.tail.tail.tail
  exact ⟨sent_of h3.tail (gOf_named (by kernel_rfl)) (by kernel_rfl), sent_of h3 (gOf_named (by kernel_rfl)) (by kernel_rfl)⟩
end Go.Proofs.YtofllgbdphakiaaGreatDoor
end

section
namespace Go.Proofs.YtofllgbdphakiaaGreatDoor
open Go.Den Go.Disk Go.RowKit Go.Maps Go.Sort Go.Shelf
abbrev noVal : Value → Option (DataW Unit × List MemPlace) := fun _ => some (.lit (.bool false), [])
def keyBytesOf : Value → List UInt8
  | .string s => s.data.toList
  | _ => []
theorem fr_of_below {w w' : World} (h : Below w.heap.size w w') : Fr [] w w' := ⟨h.size, fun b hb _ => h.block b hb, h.os, h.tape, h.output⟩
set_option maxRecDepth 100000 in
theorem map_data {es : Array MapEntry} {ck : Nat} {L : List (ByteArray × Value)} (h : MapB (fun s : ByteArray => Value.string s) es ck L) (hs : L.length < 1000000) (hsmall : ∀ p ∈ L, p.1.size < 1000000)
    {w : World} {mb : Nat} (hb : blk w mb = some (.map es ck)) :
    ∃ D : DataW Unit, w.ownsMap Tryz.prog 9 noVal mb L.length D ∧ (strKeys D).Perm (L.map fun p => p.1.data.toList) ∧ Maps.size D = L.length := by
  have hsz : es.size = L.length := by rw [h.l.size]
  have hents := h.l.ents
  have hkeys : es.toList.map (·.key) = L.map fun p => Value.string p.1 := by
    have := congrArg (List.map Prod.fst) hents
    simpa [List.map_map, Function.comp_def] using this
  have hread : ∀ x ∈ es.toList, ∃ s : ByteArray, x.key = .string s ∧ s.size < 1000000 := by
    intro x hx
    have : x.key ∈ es.toList.map (·.key) := List.mem_map.2 ⟨x, hx, rfl⟩
    rw [hkeys] at this
    obtain ⟨p, hp, e⟩ := List.mem_map.1 this
    exact ⟨p.1, e.symm, hsmall p hp⟩
  have hrd : ∀ x ∈ es.toList, ∀ s : ByteArray, x.key = .string s → s.size < 1000000 → WideElems.rd Tryz.prog 9 noVal x = some (.string s.data.toList, .lit (.bool false)) := by
    intro x hx s hk hss
    have hkey : keyOf Tryz.prog 9 x.key = some (.string s.data.toList) := by
      have hml : s.size ≤ maxLen := by unfold maxLen; omega
      simp [keyOf, Tryz.underlying9, mapKey, hk, hml]
    simp [WideElems.rd, hkey, noVal]
  refine ⟨.map ((es.toList.map (WideElems.rg Tryz.prog 9 noVal)).foldr DataW.insert []), ⟨es, ck, hb, ⟨by rw [hsz]; unfold maxLen; omega, ⟨h.lt, h.nd, ?_⟩, ?_⟩, by rw [hsz]; exact Nat.le_refl _, rfl⟩, ?_, ?_⟩
  · rw [hkeys]
    have := h.l.once
    rw [List.nodup_iff_pairwise_ne, List.pairwise_map] at this ⊢
    exact this.imp fun h e => h (by injection e)
  · intro x hx
    obtain ⟨s, hk, hss⟩ := hread x hx
    exact ⟨_, hrd x hx s hk hss⟩
  · have hf : ∀ x ∈ es.toList, strOf (WideElems.rg Tryz.prog 9 noVal x).1 = keyBytesOf x.key := by
      intro x hx
      obtain ⟨s, hk, hss⟩ := hread x hx
      rw [WideElems.rg_of (hrd x hx s hk hss), hk]
      rfl
    have h1 : (strKeys (.map ((es.toList.map (WideElems.rg Tryz.prog 9 noVal)).foldr DataW.insert []))).Perm ((es.toList.map (WideElems.rg Tryz.prog 9 noVal)).map fun p => strOf p.1) := (WideShapes.sorted_perm _).map _
    refine h1.trans ?_
    rw [List.map_map, show es.toList.map ((fun p : Lit × DataW Unit => strOf p.1) ∘ WideElems.rg Tryz.prog 9 noVal) = es.toList.map (fun x => keyBytesOf x.key) from List.map_congr_left (fun x hx => hf x hx)]
    have h2 : es.toList.map (fun x => keyBytesOf x.key) = (es.toList.map (·.key)).map keyBytesOf := by rw [List.map_map]; rfl
    rw [h2, hkeys, List.map_map]
    exact .refl _
  · rw [Maps.size_eq, (WideShapes.sorted_perm _).length_eq, List.length_map, Array.length_toList, hsz]
def txt (l : List UInt8) : ByteArray := ⟨l.toArray⟩
theorem txt_of (s : ByteArray) : txt s.data.toList = s := by simp [txt]
theorem slc_of_owns {w : World} {base e : Nat} {v : Value} {ss : List (List UInt8)} (h : w.ownsRow base e 1 v ss.length (ss.map encStr)) : ∃ G, Slc encN 1 w v (ss.map txt) G ∧ ∀ b ∈ G, base ≤ b := by
  obtain ⟨_, h⟩ := h
  rcases h with ⟨rfl, h0⟩ | ⟨g, cap, cur, rfl, hb, hg, hn, hm, hs, ht⟩
  · have : ss = [] := List.eq_nil_of_length_eq_zero h0
    subst this
    exact ⟨[], Slc.nil _ _ _, by simp⟩
  · refine ⟨[g], .inr ⟨g, cap, cur, e, by simp, hg, by simpa using hn, hs, rfl, fun i x hx j hj => ?_⟩, by simpa using hb⟩
    obtain rfl : j = 0 := by omega
    rw [Nat.mul_one, Nat.add_zero]
    have hi : i < ss.length := by have := (List.getElem?_eq_some_iff.1 hx).1; simpa using this
    have h1 := congrArg (fun l : List Value => l[i]?) ht
    simp only [List.getElem?_take, Nat.mul_one, hi, if_true, Array.getElem?_toList] at h1
    rw [h1]
    simp only [List.getElem?_map] at hx ⊢
    cases hss : ss[i]? with
    | none => simp [hss] at hx
    | some l => simp [hss] at hx; subst hx; rfl
/-- names that rise, the same ones, are the same list. -/
theorem names_ext : ∀ {l m : List ByteArray}, l.Pairwise (fun a b => bl a b = true) → m.Pairwise (fun a b => bl a b = true) → (∀ x, x ∈ l ↔ x ∈ m) → l = m
  | [], [], _, _, _ => rfl
  | [], y :: m, _, _, h => by have := (h y).2 (by simp); simp at this
  | x :: l, [], _, _, h => by have := (h x).1 (by simp); simp at this
  | x :: l, y :: m, hl, hm, h => by
    obtain ⟨p1, p2⟩ := List.pairwise_cons.1 hl
    obtain ⟨q1, q2⟩ := List.pairwise_cons.1 hm
    have hxy : x = y := by
      rcases List.mem_cons.1 ((h x).1 (by simp)) with h1 | h1
      · exact h1
      · rcases List.mem_cons.1 ((h y).2 (by simp)) with h2 | h2
        · exact h2.symm
        · have a1 := p1 y h2; have a2 := q1 x h1
          rw [bl_asym a1] at a2; cases a2
    subst hxy
    congr 1
    refine names_ext p2 q2 fun z => ⟨fun hz => ?_, fun hz => ?_⟩
    · rcases List.mem_cons.1 ((h z).1 (by simp [hz])) with h1 | h1
      · subst h1; have := p1 z hz; rw [bl_irr] at this; cases this
      · exact h1
    · rcases List.mem_cons.1 ((h z).2 (by simp [hz])) with h1 | h1
      · subst h1; have := q1 z hz; rw [bl_irr] at this; cases this
      · exact h1
theorem rise_names {l : Dir} (h : riseD l) : (l.map (·.1)).Pairwise fun a b => bl a b = true := List.pairwise_map.2 h
theorem sorted_rise {ss : List (List UInt8)} (hn : ss.Nodup) : ((ss.mergeSort (fun x y => decide (x ≤ y))).map txt).Pairwise fun a b => bl a b = true := by
  have h1 : (ss.mergeSort (fun x y => decide (x ≤ y))).Pairwise (fun x y => decide (x ≤ y) = true) :=
    List.pairwise_mergeSort (fun a b c h1 h2 => by
      rw [decide_eq_true_eq] at *
      exact List.le_trans h1 h2) (fun a b => by
      rw [Bool.or_eq_true, decide_eq_true_eq, decide_eq_true_eq]
      exact List.le_total a b) ss
  have h2 : (ss.mergeSort (fun x y => decide (x ≤ y))).Nodup := (List.mergeSort_perm _ _).nodup_iff.2 hn
  rw [List.pairwise_map]
  refine (h1.and (List.nodup_iff_pairwise_ne.1 h2)).imp fun {a b} ⟨h3, h4⟩ => ?_
  rw [decide_eq_true_eq] at h3
  have ea : (txt a).toList = a := by rw [ByteArray.toList_eq]; simp [txt]
  have eb : (txt b).toList = b := by rw [ByteArray.toList_eq]; simp [txt]
  unfold bl
  rw [ea, eb]
  have h5 : Op.bytesLess b a = false := by
    rw [bytesLess_eq, decide_eq_false_iff_not]
    exact List.not_lt.2 h3
  exact bytesLess_tri b a (fun e => h4 e.symm) h5
section
variable {w : World} {R : Value → World → Prop}
theorem dk_keys {m : Nat} {fb : List Nat} {es : Array MapEntry} {ck : Nat} {L : List (ByteArray × Value)} {l : Dir} (b1 : blk w m = some (.map es ck)) (b2 : MapB (fun s : ByteArray => Value.string s) es ck L) (b3 : L.Perm (dirL fb l)) (hr : riseD l)
    (hn : l.length ≤ 60) (hsm : ∀ x ∈ l, named x.1 = true) (hR : ∀ w' v G, Slc encN 1 w' v (l.map (·.1)) G → (∀ b ∈ G, hsz w ≤ b) → Fr [] w w' → R v w') :
    CALL PR F_maps_Keys_file [.map (some m)] w fun t w1 => CALL PR F_slices_Sorted_string [t] w1 R := by
  refine ⟨(callsIn_wide.1 (AnyZ.keys_in Tryz.keysA Fence.wide 5 trivial rfl (some m) w)).mono ?_⟩
  rintro e w1 ⟨rfl, hw1⟩
  replace hw1 : w1 = w.alloc (.cells #[.map (some m)] 95) := hw1
  refine ⟨_, rfl, ?_⟩
  have hLl : L.length = l.length := by rw [b3.length_eq]; simp [dirL]
  obtain ⟨D, hown, hperm, hsiz⟩ := map_data b2 (by omega) (fun p hp => by
    obtain ⟨x, hx, rfl⟩ := List.mem_map.1 (b3.mem_iff.1 hp)
    have := hsm x hx
    unfold named at this
    simp only [Bool.and_eq_true, decide_eq_true_eq] at this
    show x.1.size < 1000000
    omega) b1
  have hbl := hown.lt
  have f1 : Fr [] w w1 := by rw [hw1]; exact Fr.alloc _ _ _
  have z1 : hsz w1 = hsz w + 1 := by rw [hw1]; simp
  have hseq : SeqGives Fence.wide 2 Tryz.prog F_maps_Keys_file_1 #[.pointer (some ⟨w.heap.size, 0, none⟩)] encStr (fun ss => ss.Perm (strKeys D)) (Maps.size D) (w.alloc (.cells #[.map (some m)] 95)) :=
    AnyZ.keys_gives (ρ := Tryz.keysA_ren) { Tryz.keysA with } Fence.wide _ trivial rfl (by omega) w.heap.size m L.length D _ (by simp [-heap_size]) (by simp [-heap_size]) (by
      obtain ⟨es, clock, hb, Ft, hs, hD⟩ := hown
      exact ⟨es, clock, (Below.heap_alloc _ _ m hbl).trans hb, Ft, hs, hD⟩)
  rw [hw1]
  refine ⟨(callsIn_wide.1 (AnyZ.sorted_in Tryz.sortedA Fence.wide 5 trivial trivial trivial trivial rfl (by omega) (⟨fun blk off cap ss W hH hblk hsz => callsIn_wide.2 (AnyM.slices_Sort_string Tryz.sortA blk off cap ss W hH hblk hsz), fun p cap W => callsIn_wide.2 (AnyM.slices_Sort_string_none Tryz.sortA p cap W)⟩ : AnyZ.SortsIn Tryz.prog Tryz.sortedA_ren Fence.wide _)
    (enters_of Tryz.func73 (by kernel_rfl) rfl) F_maps_Keys_file_1 #[.pointer (some ⟨w.heap.size, 0, none⟩)] trivial (enters_of Tryz.func74 (by kernel_rfl) rfl) _ _ (by rw [hsiz]; unfold maxLen; omega) (by rw [hsiz]; omega) _ hseq)).mono ?_⟩
  rintro e w2 ⟨v, ss, rfl, hss, hrow, _, hbel⟩
  refine ⟨_, rfl, ?_⟩
  have hlen : ss.length = (ss.mergeSort (fun x y => decide (x ≤ y))).length := by rw [List.length_mergeSort]
  rw [hlen] at hrow
  obtain ⟨G, hslc, hG⟩ := slc_of_owns hrow
  have f2 : Fr [] (w.alloc (.cells #[.map (some m)] 95)) w2 := fr_of_below hbel
  rw [← hw1] at f2 hG
  have hks : (ss.map txt).Perm (l.map (·.1)) := by
    refine ((hss.trans hperm).map txt).trans ?_
    rw [List.map_map]
    have e : L.map (txt ∘ fun p => p.1.data.toList) = L.map (·.1) := List.map_congr_left fun p _ => txt_of p.1
    rw [e]
    have := b3.map (·.1)
    refine this.trans ?_
    unfold dirL
    rw [List.map_map]
    exact .refl _
  have hnd : ss.Nodup := by
    have h1 : (l.map (·.1)).Nodup := by
      rw [List.nodup_iff_pairwise_ne]
      exact (rise_names hr).imp fun {a b} h e => by subst e; rw [bl_irr] at h; cases h
    have h2 := hks.nodup_iff.2 h1
    rw [List.nodup_iff_pairwise_ne, List.pairwise_map] at h2
    rw [List.nodup_iff_pairwise_ne]
    exact h2.imp fun h e => h (by rw [e])
  have heq : (ss.mergeSort (fun x y => decide (x ≤ y))).map txt = l.map (·.1) := names_ext (sorted_rise hnd) (rise_names hr) fun x => by
    rw [((List.mergeSort_perm ss _).map txt).mem_iff, hks.mem_iff]
  rw [heq] at hslc
  exact hR w2 v G hslc (fun b hb => by have := hG b hb; rw [heap_size] at this; omega) (f1.trans' f2)
/-- maps.Clone. -/
theorem dk_clone {m : Nat} {es : Array MapEntry} {ck : Nat} (b1 : blk w m = some (.map es ck)) (hR : ∀ w', blk w' (hsz w) = some (.map es ck) → Fr [] w w' → hsz w' = hsz w + 1 → R (.map (some (hsz w))) w') : CALL PR F_maps_Clone_file [.map (some m)] w R := by
  refine ⟨(AnyW.maps_Clone Tryz.cloneA m es ck w b1).mono ?_⟩
  rintro e w1 ⟨rfl, rfl⟩
  exact ⟨_, rfl, hR _ (blk_alloc_new _ _) (Fr.alloc _ _ _) (by simp)⟩
end
end Go.Proofs.YtofllgbdphakiaaGreatDoor
end

section
namespace Go.Proofs.YtofllgbdphakiaaGreatDoor
open Go.Den Go.Disk

section
variable {κ : Type} [DecidableEq κ] {enc : κ → Value} {kd : TypeDesc} {es : Array MapEntry} {ck : Nat} {L : List (κ × Value)}
theorem mdel_B (hk : KeyOk kd enc) {w : World} {b : Nat} (hb : blk w b = some (.map es ck)) (h : MapB enc es ck L) (k : κ) :
    ∃ es' ck', mdel kd w (.map (some b)) (enc k) = some (setB w b (.map es' ck')) ∧ MapB enc es' ck' (delL L k) := by
  have h' : w.heap[b]? = some (.map es ck) := hb
  obtain ⟨es1, ck1, e1, l1⟩ := mdel_L hk hb h.l k
  have e2 := e1
  unfold mdel at e2
  simp only [h', mfind_L hk h.l] at e2
  have key : ∀ es2 ck2, some ({ w with heap := w.heap.setIfInBounds b (.map es2 ck2) } : World) = some (setB w b (.map es1 ck1)) → es1 = es2 ∧ ck1 = ck2 := by
    intro es2 ck2 e
    have h1 : blk (setB w b (.map es2 ck2)) b = blk (setB w b (.map es1 ck1)) b := congrArg (fun x : World => blk x b) (Option.some.inj e)
    rw [blk_setB_same hb, blk_setB_same hb] at h1
    cases h1
    exact ⟨rfl, rfl⟩
  have hsub : ∀ i, (es.eraseIdxIfInBounds i).toList.Sublist es.toList := fun i => by
    unfold Array.eraseIdxIfInBounds
    split
    · rw [Array.toList_eraseIdx]; exact List.eraseIdx_sublist _ _
    · exact List.Sublist.refl _
  refine ⟨es1, ck1, e1, l1, ?_, ?_⟩
  all_goals
    cases hf : findL L k 0 with
    | none =>
      simp only [hf] at e2
      obtain ⟨rfl, rfl⟩ := key _ _ e2
      first | exact h.lt | exact h.nd
    | some p =>
      obtain ⟨i, u⟩ := p
      simp only [hf] at e2
      obtain ⟨rfl, rfl⟩ := key _ _ e2
      first
        | exact fun x hx => h.lt x ((hsub i).subset hx)
        | exact List.Nodup.sublist ((hsub i).map _) h.nd
omit [DecidableEq κ] in
theorem nodup_of_map {α β : Type} {f : α → β} {L : List α} (h : (L.map f).Nodup) : L.Nodup := by
  rw [List.nodup_iff_pairwise_ne, List.pairwise_map] at h
  rw [List.nodup_iff_pairwise_ne]
  exact h.imp fun h e => h (by rw [e])
theorem ins_perm {L M : List (κ × Value)} (hn : (L.map (·.1)).Nodup) (hm : (M.map (·.1)).Nodup) (h : ∀ k, lk L k = lk M k) : L.Perm M := by
  refine (List.perm_ext_iff_of_nodup ?_ ?_).2 fun ⟨k, v⟩ => ?_
  · exact nodup_of_map hn
  · exact nodup_of_map hm
  · rw [← lk_mem hn, ← lk_mem hm, h]
end
theorem stars_snoc : ∀ (ps : List HP) {w : World} {F G : List Nat} {Q : HP}, (stars ps).p w F → Q.p w G → (∀ b ∈ F, b ∉ G) → (stars (ps ++ [Q])).p w (F ++ G)
  | [], w, F, G, Q, h, hq, _ => by
    obtain ⟨_, rfl⟩ := h
    exact ⟨G, [], hq, ⟨trivial, rfl⟩, by simp, by simp⟩
  | P :: ps, w, F, G, Q, h, hq, hd => by
    obtain ⟨A, B, h1, h2, rfl, h3⟩ := h
    refine ⟨A, B ++ G, h1, stars_snoc ps h2 hq (fun b hb => hd b (by simp [hb])), by simp, fun b hb hb' => ?_⟩
    rcases List.mem_append.1 hb' with hb' | hb'
    · exact h3 b hb hb'
    · exact hd b (by simp [hb]) hb'
theorem zipWith_set {α β γ : Type} (g : α → β → γ) : ∀ (xs : List α) (ys : List β) (i : Nat) (a : α) (b : β), xs[i]? = some a → (List.zipWith g xs ys).set i (g a b) = List.zipWith g xs (ys.set i b)
  | [], _, i, _, _, h => by simp at h
  | a' :: xs, [], i, a, b, _ => by simp
  | a' :: xs, b' :: ys, 0, a, b, h => by simp at h; subst h; rfl
  | a' :: xs, b' :: ys, i + 1, a, b, h => by simp only [List.zipWith_cons_cons, List.set_cons_succ]; rw [zipWith_set g xs ys i a b (by simpa using h)]
theorem zipWith_snoc {α β γ : Type} (g : α → β → γ) (xs : List α) (ys : List β) (a : α) (b : β) (h : xs.length = ys.length) : List.zipWith g (xs ++ [a]) (ys ++ [b]) = List.zipWith g xs ys ++ [g a b] := by
  rw [List.zipWith_append h]; rfl
section
variable {w0 w w' : World} {F0 : List Nat} {d : Nat} {s : Dk} {sv : Value} {ms fb : List Nat}
/-- a directory is given other entries. -/
theorem dk_setdir (h : At w0 F0 (stars (dkL d s sv ms fb)) w) {i m : Nat} {l l' : Dir} (hm : ms[i]? = some m) (hl : s.dirs[i]? = some l) {es' : Array MapEntry} {ck' : Nat} {L' : List (ByteArray × Value)} (f : Fr [m] w w') (b1 : blk w' m = some (.map es' ck'))
    (b2 : MapB (fun s : ByteArray => Value.string s) es' ck' L') (b3 : L'.Perm (dirL fb l')) : At w0 F0 (stars (dkL d { s with dirs := s.dirs.set i l' } sv ms fb)) w' := by
  obtain ⟨A0, ⟨h0, _⟩, _⟩ := h.get 0 rfl
  obtain ⟨A, h1, upd⟩ := h.upd 3 rfl
  obtain ⟨B, ⟨_, rfl⟩, _, upd2⟩ := stars_upd (dirHPs fb ms s.dirs) i (dirHP fb m l) (by unfold dirHPs; rw [List.getElem?_zipWith, hm, hl]) h1
  obtain ⟨A', h2, h3⟩ := upd2 w' [m] (dirHP fb m l') ⟨⟨es', ck', L', b1, b2, b3⟩, rfl⟩ f (fun b hb => .inl hb)
  have hz : (dirHPs fb ms s.dirs).set i (dirHP fb m l') = dirHPs fb ms (s.dirs.set i l') := zipWith_set _ _ _ _ _ _ hm
  rw [hz] at h2
  have hmA : m ∈ A := by
    obtain ⟨B, ⟨_, rfl⟩, h4⟩ := stars_get (dirHPs fb ms s.dirs) i (dirHP fb m l) (by unfold dirHPs; rw [List.getElem?_zipWith, hm, hl]) h1
    exact h4 m (by simp)
  have h5 := upd w' A' (stars (dirHPs fb ms (s.dirs.set i l'))) h2 (f.wider fun b hb => by simp at hb; subst hb; exact hmA) h3
  obtain ⟨F, g1, g2, g3⟩ := h5
  obtain ⟨C, D, ⟨_, rfl⟩, k2, hF, k4⟩ := g1
  exact ⟨F, ⟨[], D, ⟨⟨by simpa using h0.1, h0.2⟩, rfl⟩, k2, hF, by simp⟩, g2, g3⟩
/-- a file is changed. -/
theorem dk_fupd (h : At w0 F0 (stars (dkL d s sv ms fb)) w) {f b : Nat} {x : Fl} (hb : fb[f]? = some b) (hx : s.files[f]? = some x) : ∃ A bv, At w A (stars [pts b [bv, .int .i64 (x.sure : Int)], slc encB 1 bv x.b]) w ∧
    ∀ w' bv' x', At w A (stars [pts b [bv', .int .i64 ((x' : Fl).sure : Int)], slc encB 1 bv' x'.b]) w' → At w0 F0 (stars (dkL d (setF s f x') sv ms fb)) w' := by
  obtain ⟨A0, ⟨h0, _⟩, _⟩ := h.get 0 rfl
  obtain ⟨A, h1, upd⟩ := h.upd 4 rfl
  obtain ⟨B, ⟨bv, hB⟩, hBA, upd2⟩ := stars_upd (fileHPs fb s.files) f (fileHP b x) (by unfold fileHPs; rw [List.getElem?_zipWith, hb, hx]) h1
  refine ⟨B, bv, At.start hB, fun w' bv' x' ⟨F', p1, p2, p3⟩ => ?_⟩
  obtain ⟨A', h2, h3⟩ := upd2 w' F' (fileHP b x') ⟨bv', p1⟩ p3 p2
  have hz : (fileHPs fb s.files).set f (fileHP b x') = fileHPs fb (s.files.set f x') := zipWith_set _ _ _ _ _ _ hb
  rw [hz] at h2
  have h5 := upd w' A' (stars (fileHPs fb (s.files.set f x'))) h2 (p3.wider hBA) h3
  obtain ⟨F, g1, g2, g3⟩ := h5
  obtain ⟨C, D, ⟨_, rfl⟩, k2, hF, k4⟩ := g1
  exact ⟨F, ⟨[], D, ⟨⟨h0.1, by simpa [setF] using h0.2⟩, rfl⟩, k2, hF, by simp⟩, g2, g3⟩
theorem dirL_more {fb : List Nat} {l : Dir} (b : Nat) (h : ∀ x ∈ l, x.2 < fb.length) : dirL (fb ++ [b]) l = dirL fb l := by
  unfold dirL
  refine List.map_congr_left fun x hx => ?_
  have := h x hx
  rw [List.getD_eq_getElem?_getD, List.getD_eq_getElem?_getD, List.getElem?_append_left this]
theorem dirHPs_more {fb ms : List Nat} {ds : List Dir} (b : Nat) (h : ∀ l ∈ ds, ∀ x ∈ l, x.2 < fb.length) : dirHPs (fb ++ [b]) ms ds = dirHPs fb ms ds := by
  unfold dirHPs
  induction ds generalizing ms with
  | nil => simp
  | cons l ds ih =>
    cases ms with
    | nil => rfl
    | cons m ms =>
      simp only [List.zipWith_cons_cons]
      rw [ih fun l hl => h l (by simp [hl])]
      congr 1
      unfold dirHP
      simp only [dirL_more b (h l (by simp))]
/-- a new file. -/
theorem dk_newfile (h : At w0 F0 (stars (dkL d s sv ms fb)) w) (f : Fr [] w w') {b T : Nat} (hb : hsz w ≤ b) (b1 : blk w' b = some (.cells [.slice none 0 0, .int .i64 0].toArray T (0, 0))) (hidx : ∀ l ∈ s.dirs, ∀ x ∈ l, x.2 < s.files.length) :
    At w0 F0 (stars (dkL d { s with files := s.files ++ [⟨[], 0⟩] } sv ms (fb ++ [b]))) w' := by
  obtain ⟨A0, ⟨h0, _⟩, _⟩ := h.get 0 rfl
  have h' := h.fr0 f
  obtain ⟨A, h1, upd⟩ := h.upd 4 rfl
  have hlt := (stars (fileHPs fb s.files)).lt h1
  have hnew : (fileHP b ⟨[], 0⟩).p w' [b] := ⟨.slice none 0 0, [b], [], ⟨⟨T, b1⟩, rfl⟩, ⟨[], [], Slc.nil _ _ _, ⟨trivial, rfl⟩, rfl, by simp⟩, rfl, by simp⟩
  have h2 := stars_snoc (fileHPs fb s.files) ((stars (fileHPs fb s.files)).fr h1 f (by simp)) hnew (fun c hc hc' => by simp at hc'; subst hc'; have := hlt _ hc; omega)
  have hz : fileHPs fb s.files ++ [fileHP b ⟨[], 0⟩] = fileHPs (fb ++ [b]) (s.files ++ [⟨[], 0⟩]) := (zipWith_snoc _ _ _ _ _ h0.2).symm
  rw [hz] at h2
  have h5 := upd w' (A ++ [b]) (stars (fileHPs (fb ++ [b]) (s.files ++ [⟨[], 0⟩]))) h2 f.nil (fun c hc => by
    rcases List.mem_append.1 hc with hc | hc
    · exact .inl hc
    · simp at hc; subst hc; exact .inr hb)
  obtain ⟨F, g1, g2, g3⟩ := h5
  obtain ⟨C, D, ⟨_, rfl⟩, k2, hF, k4⟩ := g1
  have hm : dirHPs (fb ++ [b]) ms s.dirs = dirHPs fb ms s.dirs := dirHPs_more b fun l hl x hx => by rw [h0.2]; exact hidx l hl x hx
  refine ⟨F, ⟨[], D, ⟨⟨h0.1, by simp [h0.2]⟩, rfl⟩, ?_, hF, by simp⟩, g2, g3⟩
  show (stars [pts d (dkC s (ms.headD 0) sv), slc encM 1 sv ms.tail, stars (dirHPs (fb ++ [b]) ms s.dirs), stars (fileHPs (fb ++ [b]) (s.files ++ [⟨[], 0⟩]))]).p w' D
  rw [hm]; exact k2
end
end Go.Proofs.YtofllgbdphakiaaGreatDoor
end

section
namespace Go.Proofs.YtofllgbdphakiaaGreatDoor
open Go.Den Go.Disk
set_option linter.unusedSimpArgs false
set_option linter.unusedVariables false
set_option maxRecDepth 20000
set_option maxHeartbeats 4000000
attribute [local congr] BND_cg COND_cg GEF_cg
attribute [local irreducible] capl slicea load1 loadn iaddr iaddra faddr storev newslice binv lookv mupd mdel mlenv mentry mestore slicev slicev3 slices indexs indexav textv rangev nexts clearv shiftv eqaggv convi buildv pickv lens lenl unv nilchk extractv partn JOIN
theorem At.pure0 {w0 w : World} {F0 : List Nat} {a b : Prop} {ps : List HP} (h : At w0 F0 (stars (pure_ a :: ps)) w) (hb : b) : At w0 F0 (stars (pure_ b :: ps)) w := by
  obtain ⟨F, ⟨A, B, ⟨_, rfl⟩, h2, h3, h4⟩, h5⟩ := h
  exact ⟨F, ⟨[], B, ⟨hb, rfl⟩, h2, h3, h4⟩, h5⟩
/-- the directory, as it stands behind a change. -/
structure NowAt (w : World) (fb : List Nat) (m : Nat) (l : Dir) : Prop where
  h : ∃ es ck L, blk w m = some (.map es ck) ∧ MapB (fun s : ByteArray => Value.string s) es ck L ∧ L.Perm (dirL fb l)
section
variable {w0 w : World} {F0 : List Nat} {d : Nat} {s : Dk} {R : Value → World → Prop}
theorem dk_change (h : At w0 F0 (diskHP d s) w) (hw : s.Wf) (hn : s.dirs.length < 1000000000)
    (hR : ∀ w' sv ms fb m, At w0 F0 (stars (dkL d { s with dirs := s.dirs ++ [s.now] } sv ms fb)) w' → ms[s.dirs.length]? = some m → NowAt w' fb m s.now → hsz w ≤ m → R (.map (some m)) w') : CALL PR F_disk_Disk_change [ptrTo d] w R := by
  refine C_disk_Disk_change ?_
  unfold M_disk_Disk_change
  refine dk_now h hw.ne hn fun sv ms fb m es ck L hs hm hf hmm b1 b2 b3 => ?_
  refine dk_clone b1 fun w2 c1 f2 z2 => ?_
  obtain ⟨A, h1, upd⟩ := hs.upd 3 rfl
  have hlt := (stars (dirHPs fb ms s.dirs)).lt h1
  have h2 := stars_snoc (Q := dirHP fb (hsz w) s.now) (G := [hsz w]) (dirHPs fb ms s.dirs) ((stars (dirHPs fb ms s.dirs)).fr h1 f2 (by simp)) ⟨⟨es, ck, L, c1, b2, b3⟩, rfl⟩ (fun c hc hc' => by simp at hc'; subst hc'; have := hlt _ hc; omega)
  have hz : dirHPs fb ms s.dirs ++ [dirHP fb (hsz w) s.now] = dirHPs fb (ms ++ [hsz w]) (s.dirs ++ [s.now]) := (zipWith_snoc _ _ _ _ _ hm).symm
  rw [hz] at h2
  have h5 := upd w2 (A ++ [hsz w]) (stars (dirHPs fb (ms ++ [hsz w]) (s.dirs ++ [s.now]))) h2 f2.nil (fun c hc => by
    rcases List.mem_append.1 hc with hc | hc
    · exact .inl hc
    · simp at hc; subst hc; exact .inr (Nat.le_refl _))
  unfold ptrTo
  obtain ⟨T, c⟩ := h5.cell (i := 1) rfl
  (repeat refine gg ?_)
  refine newone_step (enc := encM) (x := hsz w) encM_len rfl fun u w3 s3 f3 z3 => ?_
  have htl : ms.tail.length = ms.length - 1 := by simp
  refine (h5.fr0 f3).append (i := 2) rfl (s3.loads encM_len) encM_len encM_one rfl (by omega) (by rw [htl]; simp; omega) fun v' w4 h6 one6 => ?_
  (repeat refine gg ?_)
  refine h6.store (i := 1) rfl one6 (by simp [dkC]) fun w5 h7 f7 => ?_
  have hne : ms ≠ [] := by
    intro e; subst e
    have := List.length_pos_iff.2 hw.ne
    simp at hm; omega
  have et : (ms ++ [hsz w]).tail = ms.tail ++ [hsz w] := by cases ms with
    | nil => exact absurd rfl hne
    | cons a r => rfl
  have eh : (ms ++ [hsz w]).headD 0 = ms.headD 0 := by cases ms with
    | nil => exact absurd rfl hne
    | cons a r => rfl
  have h8 : At w0 F0 (stars (dkL d { s with dirs := s.dirs ++ [s.now] } v' (ms ++ [hsz w]) fb)) w5 := by
    have := At.pure0 (b := (ms ++ [hsz w]).length = (s.dirs ++ [s.now]).length ∧ fb.length = s.files.length) h7 ⟨by simp [hm], hf⟩
    unfold dkL
    rw [et, eh]
    exact this
  have hget : (ms ++ [hsz w])[s.dirs.length]? = some (hsz w) := by rw [← hm, List.getElem?_append_right (Nat.le_refl _)]; simp
  refine hR w5 v' (ms ++ [hsz w]) fb (hsz w) h8 hget ?_ (Nat.le_refl _)
  have := dk_dir h8 (i := s.dirs.length) (l := s.now) hget (by simp)
  exact ⟨this⟩
theorem dk_named (n : ByteArray) (hR : ∀ w', Fr [] w w' → R (.bool (named n)) w') : CALL PR F_disk_named [.string n] w R := by
  refine C_disk_named ?_
  unfold M_disk_named
  unfold named at hR
  (repeat refine gg ?_)
  by_cases h0 : n.size = 0
  · (repeat refine gg ?_)
    have := hR _ (Fr.refl _ _)
    simpa [h0] using this
  by_cases h12 : 12 < n.size
  · (repeat refine gg ?_)
    have := hR _ (Fr.refl _ _)
    simpa [show ¬ n.size ≤ 12 by omega] using this
  (repeat refine gg ?_)
  have e0 : (decide (1 ≤ n.size) && decide (n.size ≤ 12)) = true := by simp; omega
  rw [e0, Bool.true_and] at hR
  refine ⟨n, rfl, fun c w1 hc hh hrest => ?_⟩
  have hsz1 : hsz w1 = hsz w := by unfold hsz; rw [hh]
  have hl : n.data.toList.length = n.size := Array.length_toList
  have f1 : Fr [] w (w1.alloc (.cells (n.data.map (fun b => Value.int .u8 b.toNat) ++ Array.replicate (c - n.size) (.int .u8 0)) 5 (c, c + 1))) := ⟨by simp [hsz1], fun b hb _ => by rw [blk_alloc_old (by omega), heap_ext hh], hrest.1, hrest.2.1, hrest.2.2⟩
  have ar : Arr encB 1 (w1.alloc (.cells (n.data.map (fun b => Value.int .u8 b.toNat) ++ Array.replicate (c - n.size) (.int .u8 0)) 5 (c, c + 1))) (.slice (some ⟨w1.heap.size, 0, .none⟩) n.size c) n.data.toList := by
    refine ⟨some ⟨w1.heap.size, 0, .none⟩, c, by rw [hl], .inr ⟨w1.heap.size, 0, _, _, _, rfl, blk_alloc_new _ _, fun i x hx => ⟨?_, fun j hj => ?_⟩⟩⟩
    · have hi := (List.getElem?_eq_some_iff.1 hx).1
      simp only [Array.size_append, Array.size_map, Array.size_replicate]
      have : n.data.size = n.size := rfl
      omega
    · obtain rfl : j = 0 := by omega
      have hi := (List.getElem?_eq_some_iff.1 hx).1
      rw [Array.getElem?_append_left (by simp; omega)]
      rw [Array.getElem?_toList] at hx
      simp [encB, hx]
  generalize w1.alloc (.cells (n.data.map (fun b => Value.int .u8 b.toNat) ++ Array.replicate (c - n.size) (.int .u8 0)) 5 (c, c + 1)) = w2 at f1 ar
  generalize (Value.slice (some ⟨w1.heap.size, 0, .none⟩) n.size c) = bv at ar
  (repeat (first | refine BND_step ar.len ?_ | refine gg ?_))
  refine loop_up 0 n.data.toList.length (fun i w' => w' = w2 ∧ (n.data.toList.take i).all okByte = true) ⟨rfl, rfl⟩ (by omega) ?_
  rintro i w5 - hi ⟨rfl, e⟩ J m hJ
  by_cases hlt : i < n.data.toList.length
  · have hx := List.getElem?_eq_getElem hlt
    generalize n.data.toList[i] = x at hx
    obtain ⟨b, o, ia, _, _, l1⟩ := ar.spot hx rfl .i64
    have l1' := l1 rfl (j := 0) rfl
    have yes : okByte x = true → J (.int .i64 ((i + 1 : Nat) : Int)) w5 ∧ m (.int .i64 ((i + 1 : Nat) : Int)) w5 < m (.int .i64 (i : Int)) w5 := fun hok => hJ w5 hlt ⟨rfl, by rw [List.take_add_one, hx, List.all_append, e]; simp [hok]⟩
    have no : okByte x = false → R (.bool false) w5 := fun hno => by
      have := hR w5 f1
      have e2 : n.data.toList.all okByte = false := by rw [List.all_eq_false]; exact ⟨x, List.mem_of_getElem? hx, by simp [hno]⟩
      rwa [e2] at this
    have hx46 : (x.toNat : Int) = 46 ↔ x = 46 := by
      rw [← UInt8.toNat_inj]; show (x.toNat : Int) = 46 ↔ x.toNat = 46; omega
    have h48 : 48 ≤ x ↔ (48 : Int) ≤ (x.toNat : Int) := by rw [UInt8.le_iff_toNat_le]; show 48 ≤ x.toNat ↔ _; omega
    have h57 : x ≤ 57 ↔ (x.toNat : Int) ≤ 57 := by rw [UInt8.le_iff_toNat_le]; show x.toNat ≤ 57 ↔ _; omega
    have h97 : 97 ≤ x ↔ (97 : Int) ≤ (x.toNat : Int) := by rw [UInt8.le_iff_toNat_le]; show 97 ≤ x.toNat ↔ _; omega
    have h122 : x ≤ 122 ↔ (x.toNat : Int) ≤ 122 := by rw [UInt8.le_iff_toNat_le]; show x.toNat ≤ 122 ↔ _; omega
    have hok : okByte x = true ↔ (x.toNat : Int) = 46 ∨ (48 ≤ (x.toNat : Int) ∧ (x.toNat : Int) ≤ 57) ∨ (97 ≤ (x.toNat : Int) ∧ (x.toNat : Int) ≤ 122) := by
      unfold okByte
      simp only [Bool.or_eq_true, Bool.and_eq_true, decide_eq_true_eq, h48, h57, h97, h122, hx46, or_assoc]
    have hno : okByte x = false ↔ ¬ ((x.toNat : Int) = 46 ∨ (48 ≤ (x.toNat : Int) ∧ (x.toNat : Int) ≤ 57) ∨ (97 ≤ (x.toNat : Int) ∧ (x.toNat : Int) ≤ 122)) := by
      rw [← hok]; simp
    generalize (x.toNat : Int) = z at *
    by_cases q1 : z = 46
    · (repeat refine gg ?_)
      exact yes (hok.2 (by omega))
    by_cases q2 : z < 48
    · by_cases q3 : z < 97
      · (repeat refine gg ?_)
        exact no (hno.2 (by omega))
      · (repeat refine gg ?_)
        omega
    by_cases q4 : 57 < z
    · by_cases q5 : z < 97
      · (repeat refine gg ?_)
        exact no (hno.2 (by omega))
      · by_cases q6 : 122 < z
        · (repeat refine gg ?_)
          exact no (hno.2 (by omega))
        · (repeat refine gg ?_)
          exact yes (hok.2 (by omega))
    · (repeat refine gg ?_)
      exact yes (hok.2 (by omega))
  · (repeat refine gg ?_)
    rw [List.take_of_length_le (by omega)] at e
    have := hR w5 f1
    rwa [e] at this
end
end Go.Proofs.YtofllgbdphakiaaGreatDoor
end

section
namespace Go.Proofs.YtofllgbdphakiaaGreatDoor
open Go.Den Go.Disk
/-! ## Plain -/
theorem can_keep (s : Dk) (e : Int) : (can s e).1.files = s.files ∧ (can s e).1.dirs = s.dirs ∧ (can s e).1.room = s.room := by
  unfold can
  split
  · exact ⟨rfl, rfl, rfl⟩
  · split
    · exact ⟨rfl, rfl, rfl⟩
    · split
      · exact ⟨rfl, rfl, rfl⟩
      · split <;> exact ⟨rfl, rfl, rfl⟩
theorem can_zero {s : Dk} {e : Int} (h : (can s e).2 = 0) : e = 0 := by
  unfold can at h
  split at h
  · simp at h
  · split at h
    · exact h
    · rename_i h2; simpa using h2
theorem wf_can {s : Dk} (h : s.Wf) (e : Int) : (can s e).1.Wf := by
  obtain ⟨h1, h2, h3⟩ := can_keep s e
  refine ⟨by rw [h2]; exact h.ne, by rw [h2]; exact h.rise, by rw [h1, h2]; exact h.idx, by rw [h2]; exact h.many, by rw [h2]; exact h.nm, by rw [h1]; exact h.sure, by rw [h1, h3]; exact h.small, by rw [h3]; exact h.room, ?_⟩
  have hb := h.burn
  unfold can
  split
  · exact hb
  · split
    · exact hb
    · split
      · exact hb
      · split
        · show -1 ≤ s.burn - 1 ∧ s.burn - 1 ≤ _; omega
        · exact hb
theorem can_now (s : Dk) (e : Int) : (can s e).1.now = s.now := by unfold Dk.now; rw [(can_keep s e).2.1]
theorem findD_withD {l : Dir} (hr : riseD l) {x : ByteArray × Nat} (hn : ∀ y ∈ l, y.1 ≠ x.1) (k : ByteArray) : findD (withD l x) k = if k = x.1 then some x.2 else findD l k := by
  have hr' := rise_withD hr hn
  by_cases hk : k = x.1
  · rw [if_pos hk, hk]
    exact findD_of_mem hr' (mem_withD.2 (.inl rfl))
  · rw [if_neg hk]
    cases hf : findD l k with
    | none =>
      rw [findD_none]
      intro y hy
      rcases mem_withD.1 hy with rfl | hy
      · exact fun e => hk e.symm
      · exact findD_none.1 hf y hy
    | some f => exact findD_of_mem hr' (mem_withD.2 (.inr (findD_mem hf)))
theorem findD_without {l : Dir} (hr : riseD l) (n k : ByteArray) : findD (without l n) k = if k = n then none else findD l k := by
  by_cases hk : k = n
  · rw [if_pos hk, findD_none]
    intro y hy e
    exact (mem_without.1 hy).2 (by rw [e, hk])
  · rw [if_neg hk]
    cases hf : findD l k with
    | none =>
      rw [findD_none]
      intro y hy
      exact findD_none.1 hf y (mem_without.1 hy).1
    | some f => exact findD_of_mem (rise_without hr n) (mem_without.2 ⟨findD_mem hf, hk⟩)
theorem without_id {l : Dir} {n : ByteArray} (h : findD l n = none) : without l n = l := by
  unfold without
  refine List.filter_eq_self.2 fun x hx => ?_
  have := findD_none.1 h x hx
  simp [this]
theorem keys_dir {fb : List Nat} {l : Dir} (hr : riseD l) : ((dirL fb l).map (·.1)).Nodup := by
  unfold dirL
  rw [List.map_map, List.nodup_iff_pairwise_ne]
  exact (rise_names hr).imp fun {a b} h e => by subst e; rw [bl_irr] at h; cases h
theorem lk_dirL {fb : List Nat} {l : Dir} (hr : riseD l) (k : ByteArray) : lk (dirL fb l) k = (findD l k).map fun f => ptrTo (fb.getD f 0) := lk_dir hr (.refl _) (keys_dir hr) k
theorem ins_dir {fb : List Nat} {l : Dir} {L : List (ByteArray × Value)} (hr : riseD l) (hp : L.Perm (dirL fb l)) (hL : (L.map (·.1)).Nodup) (n : ByteArray) (f : Nat) : (insL L n (ptrTo (fb.getD f 0))).Perm (dirL fb (withD (without l n) (n, f))) := by
  have hnn : ∀ y ∈ without l n, y.1 ≠ n := fun y hy => (mem_without.1 hy).2
  have hr2 : riseD (withD (without l n) (n, f)) := rise_withD (rise_without hr n) hnn
  refine ins_perm (once_ins hL n _) (keys_dir hr2) fun k => ?_
  rw [lk_ins, lk_dirL hr2, findD_withD (rise_without hr n) hnn, findD_without hr, lk_dir hr hp hL]
  by_cases hk : k = n
  · simp [hk]
  · simp [hk]
theorem del_dir {fb : List Nat} {l : Dir} {L : List (ByteArray × Value)} (hr : riseD l) (hp : L.Perm (dirL fb l)) (hL : (L.map (·.1)).Nodup) (n : ByteArray) : (delL L n).Perm (dirL fb (without l n)) := by
  refine ins_perm (once_del hL n) (keys_dir (rise_without hr n)) fun k => ?_
  rw [lk_del hL, lk_dirL (rise_without hr n), findD_without hr, lk_dir hr hp hL]
  by_cases hk : k = n
  · simp [hk]
  · simp [hk]
theorem set_snoc {α : Type} (l : List α) (a b : α) : (l ++ [a]).set l.length b = l ++ [b] := by
  induction l with
  | nil => rfl
  | cons x l ih => simp only [List.cons_append, List.length_cons, List.set_cons_succ, ih]
set_option linter.unusedSimpArgs false
set_option linter.unusedVariables false
set_option maxRecDepth 20000
set_option maxHeartbeats 4000000
attribute [local congr] BND_cg COND_cg GEF_cg
attribute [local irreducible] capl slicea load1 loadn iaddr iaddra faddr storev newslice binv lookv mupd mdel mlenv mentry mestore slicev slicev3 slices indexs indexav textv rangev nexts clearv shiftv eqaggv convi buildv pickv lens lenl unv nilchk extractv partn JOIN
section
variable {w0 w : World} {F0 : List Nat} {d : Nat} {s : Dk} {R : Value → World → Prop}
theorem dk_Create (h : At w0 F0 (diskHP d s) w) (hw : s.Wf) (hn : s.dirs.length < 1000000000) (n : ByteArray) (hR : ∀ w', At w0 F0 (diskHP d (create s n).1) w' → R (.int .i64 (create s n).2) w') :
    CALL PR F_disk_Disk_Create [ptrTo d, .string n] w R := by
  refine C_disk_Disk_Create ?_
  unfold M_disk_Disk_Create
  refine dk_now h hw.ne hn fun sv ms fb m es ck L hs hm hf hmm b1 b2 b3 => ?_
  have hr : riseD s.now := hw.rise _ (List.mem_of_getElem? (dk_now_get hw.ne))
  refine dk_named n fun w2 f2 => ?_
  have h2 := h.fr0 f2
  have c1 := f2.some (by simp) b1
  have lk1 := dk_lookup c1 b2 b3 hr n
  have ml := mlenv_L c1 b2.l
  have hLl : L.length = s.now.length := by rw [b3.length_eq]; simp [dirL]
  rw [hLl] at ml
  (repeat refine gg ?_)
  refine join_v (fun e w' => e = .int .i64 (createE s n) ∧ w' = w2) (fun K hK => ?_) ?_
  · cases hnm : named n with
    | false =>
      have e : createE s n = 1 := by simp [createE, hnm]
      (repeat refine gg ?_)
      exact hK _ _ ⟨by rw [e], rfl⟩
    | true =>
    cases hfd : findD s.now n with
    | some f =>
      rw [hfd] at lk1
      simp only [ptrTo] at lk1
      have e : createE s n = 6 := by simp [createE, hnm, Dk.find, hfd]
      (repeat refine gg ?_)
      refine join_v (fun e w' => e = .int .i64 (createE s n) ∧ w' = w2) (fun K2 hK2 => ?_) (fun e w' hq => hK e w' hq)
      (repeat refine gg ?_)
      exact hK2 _ _ ⟨by rw [e], rfl⟩
    | none =>
      rw [hfd] at lk1
      simp only at lk1
      (repeat refine gg ?_)
      refine join_v (fun e w' => e = .int .i64 (createE s n) ∧ w' = w2) (fun K2 hK2 => ?_) (fun e w' hq => hK e w' hq)
      by_cases h60 : 60 ≤ s.now.length
      · have e : createE s n = 4 := by simp [createE, hnm, Dk.find, hfd, h60]
        (repeat refine gg ?_)
        refine join_v (fun e w' => e = .int .i64 (createE s n) ∧ w' = w2) (fun K3 hK3 => ?_) (fun e w' hq => hK2 e w' hq)
        (repeat refine gg ?_)
        exact hK3 _ _ ⟨by rw [e], rfl⟩
      · have e : createE s n = 0 := by simp [createE, hnm, Dk.find, hfd, h60]
        (repeat refine gg ?_)
        refine join_v (fun e w' => e = .int .i64 (createE s n) ∧ w' = w2) (fun K3 hK3 => ?_) (fun e w' hq => hK2 e w' hq)
        (repeat refine gg ?_)
        exact hK3 _ _ ⟨by rw [e], rfl⟩
  · rintro _ _ ⟨rfl, rfl⟩
    refine dk_can h2 _ hw.burn fun w4 h4 => ?_
    unfold create at hR
    by_cases hc : (can s (createE s n)).2 = 0
    · simp only [hc, if_true] at hR
      rw [hc]
      (repeat refine gg ?_)
      refine join_w (fun w' => At w0 F0 (diskHP d { (can s (createE s n)).1 with files := s.files ++ [⟨[], 0⟩], dirs := s.dirs ++ [withD s.now (n, s.files.length)] }) w') (fun K hK => ?_) (fun w' hw' => hR w' hw')
      obtain ⟨k1, k2, k3⟩ := can_keep s (createE s n)
      have hcz := can_zero hc
      have hfd : findD s.now n = none := by
        cases hq : findD s.now n with
        | none => rfl
        | some f =>
          exfalso
          unfold createE Dk.find at hcz
          rw [hq] at hcz
          split at hcz <;> simp at hcz
      (repeat refine gg ?_)
      refine dk_change h4 (wf_can hw _) (by rw [k2]; exact hn) fun w6 sv6 ms6 fb6 m6 hs6 hm6 na6 _ => ?_
      rw [can_now, k2] at hs6
      rw [k2] at hm6
      rw [can_now] at na6
      have g6 := hs6.get 0 rfl
      obtain ⟨_, ⟨hlen6, _⟩, _⟩ := g6
      have hfb : fb6.length = s.files.length := by rw [← k1]; exact hlen6.2
      (repeat (first | refine gg ?_ | (apply BND_build ([.slice none 0 0, .int .i64 0]); exact rfl)))
      refine NEW_intro fun w7 b7 f7 z7 => ?_
      have hidx : ∀ l ∈ s.dirs ++ [s.now], ∀ x ∈ l, x.2 < s.files.length := fun l hl x hx => by
        rcases List.mem_append.1 hl with hl | hl
        · exact hw.idx l hl x hx
        · simp at hl; subst hl; exact hw.idx _ (List.mem_of_getElem? (dk_now_get hw.ne)) x hx
      have h7 := dk_newfile hs6 f7 (Nat.le_refl _) b7 (by rw [k1]; exact hidx)
      rw [k1] at h7
      obtain ⟨es6, ck6, L6, q1, q2, q3⟩ := na6.h
      have q1' := f7.some (by simp) q1
      obtain ⟨es8, ck8, e8, m8⟩ := mupd_B keyStr q1' q2 n (ptrTo (hsz w6))
      refine BND_step e8 <| hK _ ?_
      have hget : (fb6 ++ [hsz w6]).getD s.files.length 0 = hsz w6 := by
        rw [List.getD_eq_getElem?_getD, ← hfb, List.getElem?_append_right (Nat.le_refl _)]; simp
      have q3' : L6.Perm (dirL (fb6 ++ [hsz w6]) s.now) := by
        rw [dirL_more _ (fun x hx => by rw [hfb]; exact hw.idx _ (List.mem_of_getElem? (dk_now_get hw.ne)) x hx)]; exact q3
      have hperm := ins_dir (fb := fb6 ++ [hsz w6]) hr q3' q2.l.once n s.files.length
      rw [hget, without_id hfd] at hperm
      have h9 := dk_setdir h7 (i := s.dirs.length) (l := s.now) (l' := withD s.now (n, s.files.length)) hm6 (by simp) (Fr.setB (F := [m6]) (.inl (by simp)) _) (blk_setB_same q1') m8 hperm
      simp only [set_snoc] at h9
      exact dk_shut h9
    · simp only [hc, if_false] at hR
      (repeat refine gg ?_)
      refine join_w (fun w' => At w0 F0 (diskHP d (can s (createE s n)).1) w') (fun K hK => ?_) (fun w' hw' => hR w' hw')
      (repeat refine gg ?_)
      exact hK w4 h4
end
end Go.Proofs.YtofllgbdphakiaaGreatDoor
end

section
namespace Go.Proofs.YtofllgbdphakiaaGreatDoor
open Go.Den Go.Disk
theorem there_zero {s : Dk} {n : ByteArray} (h : there s n = 0) : ∃ f, findD s.now n = some f := by
  unfold there Dk.find at h
  cases hq : findD s.now n with
  | some f => exact ⟨f, rfl⟩
  | none => rw [hq] at h; simp at h
set_option linter.unusedSimpArgs false
set_option linter.unusedVariables false
set_option maxRecDepth 20000
set_option maxHeartbeats 4000000
attribute [local congr] BND_cg COND_cg GEF_cg
attribute [local irreducible] capl slicea load1 loadn iaddr iaddra faddr storev newslice binv lookv mupd mdel mlenv mentry mestore slicev slicev3 slices indexs indexav textv rangev nexts clearv shiftv eqaggv convi buildv pickv lens lenl unv nilchk extractv partn JOIN
section
variable {w0 w : World} {F0 : List Nat} {d : Nat} {s : Dk} {R : Value → World → Prop}
theorem dk_DirSync (h : At w0 F0 (diskHP d s) w) (hw : s.Wf) (hn : s.dirs.length < 1000000000) (hR : ∀ w', At w0 F0 (diskHP d (dirsync s).1) w' → R (.int .i64 (dirsync s).2) w') :
    CALL PR F_disk_Disk_DirSync [ptrTo d] w R := by
  refine C_disk_Disk_DirSync ?_
  unfold M_disk_Disk_DirSync
  refine dk_can h _ hw.burn fun w4 h4 => ?_
  unfold dirsync at hR
  by_cases hc : (can s 0).2 = 0
  · simp only [hc, if_true] at hR
    rw [hc]
    (repeat refine gg ?_)
    refine join_w (fun w' => At w0 F0 (diskHP d { (can s 0).1 with dirs := [s.now] }) w') (fun K hK => ?_) (fun w' hw' => hR w' hw')
    obtain ⟨k1, k2, k3⟩ := can_keep s 0
    (repeat refine gg ?_)
    refine dk_now h4 (by rw [k2]; exact hw.ne) (by rw [k2]; exact hn) fun sv ms fb m es ck L hs hm hf hmm b1 b2 b3 => ?_
    rw [can_now] at b3
    unfold ptrTo
    (repeat refine gg ?_)
    refine hs.store (i := 1) rfl ⟨rfl, rfl⟩ (by simp [dkC]) fun w1 h1 f1 => ?_
    (repeat refine gg ?_)
    refine h1.store (i := 1) rfl ⟨rfl, rfl⟩ (by simp [dkC]) fun w2 h2 f2 => hK _ ?_
    obtain ⟨A, a1, upd⟩ := h2.upd 2 rfl
    have h3 := upd w2 [] (slc encM 1 (.slice none 0 0) []) (Slc.nil _ _ _) (Fr.refl _ _) (by simp)
    obtain ⟨A3, a3, upd3⟩ := h3.upd 3 rfl
    obtain ⟨B, ⟨b4, rfl⟩, hmA⟩ := stars_get (dirHPs fb ms (can s 0).1.dirs) ((can s 0).1.dirs.length - 1) (dirHP fb m s.now) (by
      unfold dirHPs; rw [List.getElem?_zipWith, hmm, dk_now_get (by rw [k2]; exact hw.ne), can_now]) a3
    have h5 := upd3 w2 [m] (stars [dirHP fb m s.now]) ⟨[m], [], ⟨b4, rfl⟩, ⟨trivial, rfl⟩, rfl, by simp⟩ (Fr.refl _ _) (fun c hc => .inl (hmA c hc))
    have h6 := At.pure0 (b := [m].length = [s.now].length ∧ fb.length = (can s 0).1.files.length) h5 ⟨rfl, hf⟩
    exact dk_shut (s := { (can s 0).1 with dirs := [s.now] }) (sv := .slice none 0 0) (ms := [m]) (fb := fb) h6
  · simp only [hc, if_false] at hR
    (repeat refine gg ?_)
    refine join_w (fun w' => At w0 F0 (diskHP d (can s 0).1) w') (fun K hK => ?_) (fun w' hw' => hR w' hw')
    (repeat refine gg ?_)
    exact hK w4 h4
theorem dk_Names (h : At w0 F0 (diskHP d s) w) (hw : s.Wf) (hn : s.dirs.length < 1000000000) (hR : ∀ w' v G, At w0 F0 (diskHP d s) w' → Slc encN 1 w' v (s.now.map (·.1)) G → (∀ b ∈ G, hsz w ≤ b) → Fr [] w w' → R v w') :
    CALL PR F_disk_Disk_Names [ptrTo d] w R := by
  refine C_disk_Disk_Names ?_
  unfold M_disk_Disk_Names
  have hmem : s.now ∈ s.dirs := List.mem_of_getElem? (dk_now_get hw.ne)
  refine dk_now h hw.ne hn fun sv ms fb m es ck L hs hm hf hmm b1 b2 b3 => ?_
  exact dk_keys b1 b2 b3 (hw.rise _ hmem) (hw.many _ hmem) (hw.nm _ hmem) fun w' v G h1 h2 h3 => hR w' v G (h.fr0 h3) h1 h2 h3
end
end Go.Proofs.YtofllgbdphakiaaGreatDoor
end

section
namespace Go.Proofs.YtofllgbdphakiaaGreatDoor
open Go.Den Go.Disk
theorem isSome_find {s : Dk} {n : ByteArray} {f : Nat} (h : findD s.now n = some f) : (s.find n).isSome = true ∧ (s.find n).getD 0 = f := by
  unfold Dk.find; rw [h]; exact ⟨rfl, rfl⟩
theorem wf_pick {s : Dk} (hw : s.Wf) {n : ByteArray} {f : Nat} (h : findD s.now n = some f) : s.files[f]? = some (fileAt s f) := by
  have hi := hw.idx _ (List.mem_of_getElem? (dk_now_get hw.ne)) _ (findD_mem h)
  unfold fileAt
  rw [List.getD_eq_getElem?_getD, List.getElem?_eq_getElem hi]; rfl
theorem Slc.take0 {α : Type} {enc : α → List Value} {sz : Nat} {w : World} {v : Value} {xs : List α} {F : List Nat} (h : Slc enc sz w v xs F) {n : Nat} (hn : n ≤ xs.length) (k : IntKind) : ∃ v', slicev sz v none (some (.int k (n : Int))) = some v' ∧ Slc enc sz w v' (xs.take n) F := by
  rcases h with ⟨rfl, rfl, rfl⟩ | ⟨b, cap, c, T, rfl, hb, hc, hs, rfl, hel⟩
  · have : n = 0 := by simpa using hn
    subst this
    exact ⟨.slice none 0 0, by simp [slicev, natOf], Slc.nil _ _ _⟩
  · have h1 : n ≤ cap := by omega
    refine ⟨.slice (some ⟨b, 0, none⟩) n cap, ?_, .inr ⟨b, cap, c, T, by simp [Nat.min_eq_left hn], hb, by simp; omega, hs, rfl, fun i x hx j hj => ?_⟩⟩
    · simp [slicev, natOf, h1, Addr.add]
    · rw [List.getElem?_take] at hx
      split at hx
      · exact hel i x hx j hj
      · simp at hx
theorem slc_nil : binv .slc .eql (.slice none 0 0) (.slice none 0 0) = some (.bool true) := rfl
theorem slc_not {a : Addr} {n c : Nat} : binv .slc .eql (.slice (some a) n c) (.slice none 0 0) = some (.bool false) := rfl
set_option linter.unusedSimpArgs false
set_option linter.unusedVariables false
set_option maxRecDepth 20000
set_option maxHeartbeats 4000000
attribute [local congr] BND_cg COND_cg GEF_cg
attribute [local irreducible] capl slicea load1 loadn iaddr iaddra faddr storev newslice binv lookv mupd mdel mlenv mentry mestore slicev slicev3 slices indexs indexav textv rangev nexts clearv shiftv eqaggv convi buildv pickv lens lenl unv nilchk extractv partn JOIN
section
variable {w0 w : World} {F0 : List Nat} {d : Nat} {s : Dk} {R : Value → World → Prop}
theorem dk_New (room : Int) (hR0 : (room < 16 ∨ 1048576 < room) → R (.tuple #[.pointer none, .int .i64 1]) w)
    (hR : 16 ≤ room ∧ room ≤ 1048576 → ∀ w' d, At w [] (diskHP d (empty room)) w' → R (.tuple #[ptrTo d, .int .i64 0]) w') : CALL PR F_disk_New [.int .i64 room] w R := by
  refine C_disk_New ?_
  unfold M_disk_New
  by_cases h1 : room < 16
  · (repeat refine gg ?_)
    exact hR0 (.inl h1)
  by_cases h2 : 1048576 < room
  · (repeat refine gg ?_)
    exact hR0 (.inr h2)
  (repeat refine gg ?_)
  refine NEWMAP_intro fun w1 b1 f1 z1 => ?_
  (repeat (first | refine gg ?_ | (apply BND_build ([.int .i64 room, .map (some (hsz w)), .slice none 0 0, .int .i64 (-1), .bool false]); exact rfl)))
  refine NEW_intro fun w2 b2 f2 z2 => ?_
  (repeat refine gg ?_)
  have hd : (dirHP [] (hsz w) []).p w2 [hsz w] := ⟨⟨#[], 0, [], by rw [f2.keep _ (by omega) (by simp), b1], ⟨⟨rfl, .nil⟩, by simp, by simp⟩, by simp [dirL]⟩, rfl⟩
  refine hR (by omega) w2 (hsz w1) (dk_shut (sv := .slice none 0 0) (ms := [hsz w]) (fb := []) ⟨[hsz w1, hsz w], ?_, fun b hb => ?_, f1.trans' f2⟩)
  · refine ⟨[], _, ⟨⟨rfl, rfl⟩, rfl⟩, ⟨[hsz w1], [hsz w], ⟨⟨_, b2⟩, rfl⟩, ⟨[], [hsz w], Slc.nil _ _ _, ⟨[hsz w], [], ⟨[hsz w], [], hd, ⟨trivial, rfl⟩, rfl, by simp⟩, ⟨[], [], ⟨trivial, rfl⟩, ⟨trivial, rfl⟩, rfl, by simp⟩, rfl, by simp⟩, rfl, by simp⟩, rfl, ?_⟩, rfl, by simp⟩
    intro b hb hb'
    simp at hb hb'
    omega
  · simp at hb
    right; omega
theorem dk_Read (h : At w0 F0 (diskHP d s) w) (hw : s.Wf) (hn : s.dirs.length < 1000000000) (n : ByteArray) (hR : ∀ w' v G, At w0 F0 (diskHP d s) w' → Slc encB 1 w' v (Disk.read s n).1 G → (∀ b ∈ G, hsz w ≤ b) → Fr [] w w' → R (.tuple #[v, .int .i64 (Disk.read s n).2]) w') :
    CALL PR F_disk_Disk_Read [ptrTo d, .string n] w R := by
  refine C_disk_Disk_Read ?_
  unfold M_disk_Disk_Read
  obtain ⟨sv, ms, fb, hs, hm, hf⟩ := dk_open h
  obtain ⟨T, c⟩ := hs.cell (i := 1) rfl
  unfold Disk.read at hR
  cases hg : s.gone with
  | true =>
    simp only [hg, if_true] at hR
    unfold ptrTo
    (repeat refine gg ?_)
    rw [hg]
    (repeat refine gg ?_)
    exact hR w _ [] h (Slc.nil _ _ _) (by simp) (Fr.refl _ _)
  | false =>
    simp only [hg, Bool.false_eq_true, if_false] at hR
    unfold ptrTo
    (repeat refine gg ?_)
    rw [hg]
    (repeat refine gg ?_)
    unfold Dk.find at hR
    refine dk_there h hw hn n ?_
    cases hfd : findD s.now n with
    | none =>
      have e : there s n = 5 := by unfold there Dk.find; rw [hfd]; rfl
      rw [e]
      simp only [hfd] at hR
      (repeat refine gg ?_)
      exact hR w _ [] h (Slc.nil _ _ _) (by simp) (Fr.refl _ _)
    | some f =>
      have e : there s n = 0 := by unfold there Dk.find; rw [hfd]; rfl
      rw [e]
      simp only [hfd] at hR
      have hr : riseD s.now := hw.rise _ (List.mem_of_getElem? (dk_now_get hw.ne))
      (repeat refine gg ?_)
      refine dk_now h hw.ne hn fun sv ms fb m es ck L hs hm hf hmm b1 b2 b3 => ?_
      have lk1 := dk_lookup b1 b2 b3 hr n
      rw [hfd] at lk1
      have hx := wf_pick hw hfd
      have hi : f < fb.length := by rw [hf]; exact (List.getElem?_eq_some_iff.1 hx).1
      have hb := List.getElem?_eq_getElem hi
      have hgd : fb.getD f 0 = fb[f] := by rw [List.getD_eq_getElem?_getD, hb]; rfl
      simp only [hgd] at lk1
      generalize fb[f] = b at hb lk1
      simp only [ptrTo] at lk1
      obtain ⟨bv, T, G, c2, ss⟩ := dk_file hs hb hx
      have hsm := hw.small _ (List.mem_of_getElem? hx)
      have hrm := hw.room
      (repeat refine gg ?_)
      refine C_slices_Clone_byte_byte ?_
      unfold M_slices_Clone_byte_byte
      have ss0 := ss
      rcases ss with ⟨rfl, e3, _⟩ | ⟨b', cap, cc, T', rfl, _, _, _, _, _⟩
      · (repeat (first | refine BND_step slc_nil ?_ | refine BND_step slc_not ?_ | refine gg ?_))
        rw [show (fileAt s f).b = [] from e3] at hR
        exact hR w _ [] h (Slc.nil _ _ _) (by simp) (Fr.refl _ _)
      · (repeat (first | refine BND_step slc_nil ?_ | refine BND_step slc_not ?_ | refine gg ?_))
        refine newnil_step encB fun t w1 s1 f1 z1 => ?_
        refine APPEND_slc s1 (ys := (fileAt s f).b) ((ss0.fr f1 (by simp)).loads encB_len) encB_len encB_one rfl (by simp; omega) (by simp; omega) fun v' w2 F' s2 f2 sub => ?_
        (repeat refine gg ?_)
        have f3 : Fr [] w w2 := f1.trans f2 (by simp)
        exact hR w2 v' F' (h.fr0 f3) s2 (fun b hb => by
          rcases sub b hb with hb | hb
          · simp at hb; omega
          · omega) f3
theorem dk_Sync (h : At w0 F0 (diskHP d s) w) (hw : s.Wf) (hn : s.dirs.length < 1000000000) (n : ByteArray) (hR : ∀ w', At w0 F0 (diskHP d (sync s n).1) w' → R (.int .i64 (sync s n).2) w') :
    CALL PR F_disk_Disk_Sync [ptrTo d, .string n] w R := by
  refine C_disk_Disk_Sync ?_
  unfold M_disk_Disk_Sync
  refine dk_there h hw hn n ?_
  refine dk_can h _ hw.burn fun w4 h4 => ?_
  have hr : riseD s.now := hw.rise _ (List.mem_of_getElem? (dk_now_get hw.ne))
  unfold sync at hR
  by_cases hc : (can s (there s n)).2 = 0
  · simp only [hc, if_true] at hR
    rw [hc]
    obtain ⟨f, hfd⟩ := there_zero (can_zero hc)
    rw [(isSome_find hfd).2] at hR
    (repeat refine gg ?_)
    refine join_w (fun w' => At w0 F0 (diskHP d (setF (can s (there s n)).1 f { fileAt s f with sure := (fileAt s f).b.length })) w') (fun K hK => ?_) (fun w' hw' => hR w' hw')
    obtain ⟨k1, k2, k3⟩ := can_keep s (there s n)
    (repeat refine gg ?_)
    refine dk_now h4 (by rw [k2]; exact hw.ne) (by rw [k2]; exact hn) fun sv ms fb m es ck L hs hm hf hmm b1 b2 b3 => ?_
    rw [can_now] at b3
    have lk1 := dk_lookup b1 b2 b3 hr n
    rw [hfd] at lk1
    have hx : (can s (there s n)).1.files[f]? = some (fileAt s f) := by rw [k1]; exact wf_pick hw hfd
    have hi : f < fb.length := by rw [hf]; exact (List.getElem?_eq_some_iff.1 hx).1
    have hb := List.getElem?_eq_getElem hi
    have hgd : fb.getD f 0 = fb[f] := by rw [List.getD_eq_getElem?_getD, hb]; rfl
    simp only [hgd] at lk1
    generalize fb[f] = b at hb lk1
    simp only [ptrTo] at lk1
    obtain ⟨A, bv, ha, back⟩ := dk_fupd hs hb hx
    obtain ⟨T, c⟩ := ha.cell (i := 0) rfl
    obtain ⟨Fs, ss, _⟩ := ha.slc1 (i := 1) rfl
    (repeat (first | refine BND_step ss.len ?_ | refine gg ?_))
    refine ha.store (i := 0) rfl ⟨rfl, rfl⟩ (by simp) fun w5 h5 f5 => hK _ ?_
    exact dk_shut (back w5 bv { fileAt s f with sure := (fileAt s f).b.length } h5)
  · simp only [hc, if_false] at hR
    (repeat refine gg ?_)
    refine join_w (fun w' => At w0 F0 (diskHP d (can s (there s n)).1) w') (fun K hK => ?_) (fun w' hw' => hR w' hw')
    (repeat refine gg ?_)
    exact hK w4 h4
theorem dk_Cut (h : At w0 F0 (diskHP d s) w) (hw : s.Wf) (hn : s.dirs.length < 1000000000) (n : ByteArray) (k : Int) (hR : ∀ w', At w0 F0 (diskHP d (cut s n k).1) w' → R (.int .i64 (cut s n k).2) w') :
    CALL PR F_disk_Disk_Cut [ptrTo d, .string n, .int .i64 k] w R := by
  refine C_disk_Disk_Cut ?_
  unfold M_disk_Disk_Cut
  refine dk_there h hw hn n ?_
  have hr : riseD s.now := hw.rise _ (List.mem_of_getElem? (dk_now_get hw.ne))
  have rest : ∀ e, e = cutE s n k → (CALL PR F_disk_Disk_can [ptrTo d, .int .i64 e] w fun t32_19 w4 =>
      BND (binv .int .eql t32_19 (Value.int .i64 0)) fun t34_20 =>
      JOIN (α := World → Prop) (fun k_44 => COND t34_20
      (CALL PR F_disk_Disk_now [ptrTo d] w4 fun t36_45 w6 =>
      BND (lookv .string (Value.pointer none) false w6 t36_45 (.string n)) fun t38_46 =>
      BND (nilchk t38_46) fun t42_47 =>
      BND (faddr 0 t42_47) fun t43_48 =>
      BND (nilchk t38_46) fun t48_49 =>
      BND (faddr 1 t48_49) fun t49_50 =>
      BND (load1 w6.drew t43_48) fun t44_51 =>
      BND (slicev 1 t44_51 none (some (.int .i64 k))) fun t46_52 =>
      BND (load1 w6.drew t49_50) fun t50_53 =>
      BND (min2v t50_53 (.int .i64 k)) fun t52_54 =>
      BND (nilchk t38_46) fun t53_55 =>
      BND (faddr 0 t53_55) fun t54_56 =>
      BND (storev 1 w6.drew t54_56 t46_52) fun w7 =>
      BND (nilchk t38_46) fun t55_57 =>
      BND (faddr 1 t55_57) fun t56_58 =>
      BND (storev 1 w7 t56_58 t52_54) fun w8 =>
      k_44 w8)
      (k_44 w4))
      (fun w5 => R t32_19 w5)) := by
    rintro _ rfl
    refine dk_can h _ hw.burn fun w4 h4 => ?_
    unfold cut at hR
    by_cases hc : (can s (cutE s n k)).2 = 0
    · simp only [hc, if_true] at hR
      rw [hc]
      have hcz := can_zero hc
      obtain ⟨f, hfd⟩ : ∃ f, findD s.now n = some f := by
        unfold cutE Dk.find at hcz
        cases hq : findD s.now n with
        | some f => exact ⟨f, rfl⟩
        | none => rw [hq] at hcz; simp at hcz
      have hk : 0 ≤ k ∧ k ≤ ((fileAt s f).b.length : Int) := by
        unfold cutE Dk.find at hcz
        rw [hfd] at hcz
        simp only at hcz
        split at hcz
        · simp at hcz
        · omega
      rw [(isSome_find hfd).2] at hR
      (repeat refine gg ?_)
      refine join_w (fun w' => At w0 F0 (diskHP d (setF (can s (cutE s n k)).1 f ⟨(fileAt s f).b.take k.toNat, min (fileAt s f).sure k.toNat⟩)) w') (fun K hK => ?_) (fun w' hw' => hR w' hw')
      obtain ⟨k1, k2, k3⟩ := can_keep s (cutE s n k)
      (repeat refine gg ?_)
      refine dk_now h4 (by rw [k2]; exact hw.ne) (by rw [k2]; exact hn) fun sv ms fb m es ck L hs hm hf hmm b1 b2 b3 => ?_
      rw [can_now] at b3
      have lk1 := dk_lookup b1 b2 b3 hr n
      rw [hfd] at lk1
      have hx : (can s (cutE s n k)).1.files[f]? = some (fileAt s f) := by rw [k1]; exact wf_pick hw hfd
      have hi : f < fb.length := by rw [hf]; exact (List.getElem?_eq_some_iff.1 hx).1
      have hb := List.getElem?_eq_getElem hi
      have hgd : fb.getD f 0 = fb[f] := by rw [List.getD_eq_getElem?_getD, hb]; rfl
      simp only [hgd] at lk1
      generalize fb[f] = b at hb lk1
      simp only [ptrTo] at lk1
      obtain ⟨A, bv, ha, back⟩ := dk_fupd (hs.fr0 (Fr.drew [] _)) hb hx
      obtain ⟨T, c⟩ := ha.cell (i := 0) rfl
      obtain ⟨Fs, ss, upd⟩ := ha.upd 1 rfl
      obtain ⟨kn, rfl⟩ : ∃ kn : Nat, k = (kn : Int) := ⟨k.toNat, by omega⟩
      obtain ⟨bv', e1, s1⟩ := Slc.take0 ss (n := kn) (by omega) .i64
      have ha2 := upd _ Fs (slc encB 1 bv' ((fileAt s f).b.take kn)) s1 (Fr.refl _ _) (fun c hc => .inl hc)
      have em : min2v (.int .i64 ((fileAt s f).sure : Int)) (.int .i64 (kn : Int)) = some (.int .i64 ((min (fileAt s f).sure kn : Nat) : Int)) := by
        show some (Value.int .i64 (if (kn : Int) < ((fileAt s f).sure : Int) then (kn : Int) else ((fileAt s f).sure : Int))) = _
        congr 2
        split <;> omega
      (repeat refine gg ?_)
      refine ha2.store (i := 0) rfl s1.one (by simp) fun w7 h7 f7 => ?_
      (repeat refine gg ?_)
      refine h7.store (i := 0) rfl ⟨rfl, rfl⟩ (by simp) fun w8 h8 f8 => hK _ ?_
      exact dk_shut (back w8 bv' ⟨(fileAt s f).b.take kn, min (fileAt s f).sure kn⟩ h8)
    · simp only [hc, if_false] at hR
      (repeat refine gg ?_)
      refine join_w (fun w' => At w0 F0 (diskHP d (can s (cutE s n k)).1) w') (fun K hK => ?_) (fun w' hw' => hR w' hw')
      (repeat refine gg ?_)
      exact hK w4 h4
  cases hfd : findD s.now n with
  | none =>
    have e1 : there s n = 5 := by unfold there Dk.find; rw [hfd]; rfl
    have e : cutE s n k = 5 := by unfold cutE Dk.find; rw [hfd]
    rw [e1]
    (repeat refine gg ?_)
    refine join_v (fun e w' => e = .int .i64 (cutE s n k) ∧ w' = w) (fun K hK => ?_) ?_
    · (repeat refine gg ?_)
      exact hK _ _ ⟨by rw [e], rfl⟩
    · rintro _ _ ⟨rfl, rfl⟩
      exact rest _ rfl
  | some f =>
    have e1 : there s n = 0 := by unfold there Dk.find; rw [hfd]; rfl
    have e : cutE s n k = if k < 0 ∨ ((fileAt s f).b.length : Int) < k then 1 else 0 := by unfold cutE Dk.find; rw [hfd]
    rw [e1]
    by_cases hk0 : k < 0
    · (repeat refine gg ?_)
      refine join_v (fun e w' => e = .int .i64 (cutE s n k) ∧ w' = w) (fun K hK => ?_) ?_
      · (repeat refine gg ?_)
        exact hK _ _ ⟨by rw [e, if_pos (.inl hk0)], rfl⟩
      · rintro _ _ ⟨rfl, rfl⟩
        exact rest _ rfl
    · (repeat refine gg ?_)
      refine dk_now h hw.ne hn fun sv ms fb m es ck L hs hm hf hmm b1 b2 b3 => ?_
      have lk1 := dk_lookup b1 b2 b3 hr n
      rw [hfd] at lk1
      have hx := wf_pick hw hfd
      have hi : f < fb.length := by rw [hf]; exact (List.getElem?_eq_some_iff.1 hx).1
      have hb := List.getElem?_eq_getElem hi
      have hgd : fb.getD f 0 = fb[f] := by rw [List.getD_eq_getElem?_getD, hb]; rfl
      simp only [hgd] at lk1
      generalize fb[f] = b at hb lk1
      simp only [ptrTo] at lk1
      obtain ⟨bv, T, G, c2, ss⟩ := dk_file hs hb hx
      (repeat (first | refine BND_step ss.len ?_ | refine gg ?_))
      by_cases hk1 : ((fileAt s f).b.length : Int) < k
      · (repeat refine gg ?_)
        refine join_v (fun e w' => e = .int .i64 (cutE s n k) ∧ w' = w) (fun K hK => ?_) ?_
        · (repeat refine gg ?_)
          exact hK _ _ ⟨by rw [e, if_pos (.inr hk1)], rfl⟩
        · rintro _ _ ⟨rfl, rfl⟩
          exact rest _ rfl
      · (repeat refine gg ?_)
        refine join_v (fun e w' => e = .int .i64 (cutE s n k) ∧ w' = w) (fun K hK => ?_) ?_
        · (repeat refine gg ?_)
          exact hK _ _ ⟨by rw [e, if_neg (by omega)], rfl⟩
        · rintro _ _ ⟨rfl, rfl⟩
          exact rest _ rfl
end
end Go.Proofs.YtofllgbdphakiaaGreatDoor
end

section
set_option linter.unusedSimpArgs false
set_option linter.unusedVariables false
namespace Go.Proofs.YtofllgbdphakiaaGreatDoor
open Go.Den
def itHP (r m ck : Nat) (sn : Array Nat) : HP where
  p w F := blk w r = some (.mapIter (some m) ck sn ck) ∧ F = [r]
  lt := by rintro w F ⟨h, rfl⟩ c hc; simp at hc; subst hc; exact blk_lt h
  st := by rintro w w' F ⟨h, rfl⟩ hk; exact ⟨by rw [hk r (by simp), h], rfl⟩
/-- what was seen, what was not. -/
structure ItAt (es : Array MapEntry) (sn : Array Nat) (A B : List MapEntry) : Prop where
  all : (A ++ B).Perm es.toList
  seen : sn.toList = A.map (·.born)
theorem ItAt.start (es : Array MapEntry) : ItAt es #[] [] es.toList := ⟨by simp, by simp⟩
theorem find_born : ∀ {l : List MapEntry} {e : MapEntry}, (l.map (·.born)).Nodup → e ∈ l → l.find? (fun x => x.born == e.born) = some e
  | [], e, _, h => by simp at h
  | x :: l, e, hn, h => by
    simp only [List.map_cons, List.nodup_cons] at hn
    rcases List.mem_cons.1 h with rfl | h
    · simp
    · have hne : x.born ≠ e.born := fun he => hn.1 (by rw [he]; exact List.mem_map.2 ⟨e, h, rfl⟩)
      rw [List.find?_cons_of_neg (by simpa using hne)]
      exact find_born hn.2 h
section
variable {es : Array MapEntry} {sn : Array Nat} {A B : List MapEntry} {w : World} {r m ck : Nat}
theorem ItAt.nd (h : ItAt es sn A B) (hn : (es.toList.map (·.born)).Nodup) : ((A ++ B).map (·.born)).Nodup := (h.all.map _).nodup_iff.2 hn
theorem RANGEM_step {k : Value → World → Prop} (b1 : blk w m = some (.map es ck)) (h : ∀ w', blk w' (hsz w) = some (.mapIter (some m) ck #[] ck) → Fr [] w w' → hsz w' = hsz w + 1 → k (.pointer (some ⟨hsz w, 0, none⟩)) w') :
    BND (rangemv w (.map (some m))) fun p => NEW p k := by
  have b1' : w.heap[m]? = some (.map es ck) := b1
  refine BND_step (v := (.pointer (some ⟨w.heap.size, 0, none⟩), w.alloc (.mapIter (some m) ck #[] ck))) (by simp [rangemv, b1']) <| (NEW_pair _ _ _).2 ?_
  exact h _ (blk_alloc_new _ _) (Fr.alloc _ _ _) (by simp)
theorem NEXTM_step {k : Value → World → Prop} (b1 : blk w m = some (.map es ck)) (hlt : ∀ x ∈ es.toList, x.born < ck) (hnd : (es.toList.map (·.born)).Nodup) (b2 : blk w r = some (.mapIter (some m) ck sn ck)) (hi : ItAt es sn A B)
    (h0 : B = [] → k (.tuple #[.bool false]) w)
    (h1 : ∀ e B1 B2 w', B = B1 ++ e :: B2 → Fr [r] w w' → (itHP r m ck (sn.push e.born)).p w' [r] → ItAt es (sn.push e.born) (A ++ [e]) (B1 ++ B2) → entryv w' (.pointer (some ⟨r, 0, none⟩)) = some (.tuple #[e.key, e.val]) → k (.tuple #[.bool true, e.key, e.val]) w') :
    NEXTM (.pointer (some ⟨r, 0, none⟩)) w k := by
  refine ⟨?_⟩
  have b1' : w.heap[m]? = some (.map es ck) := b1
  have b2' : w.heap[r]? = some (.mapIter (some m) ck sn ck) := b2
  have hn := hi.nd hnd
  unfold NEXTMS
  simp only [b2', b1']
  refine ⟨hlt, Nat.le_refl _, fun hall => h0 ?_, fun e he hse w1 hh ho => ?_⟩
  · cases hB : B with
    | nil => rfl
    | cons x B' =>
      exfalso
      have hx : x ∈ es.toList := hi.all.mem_iff.1 (by rw [hB]; simp)
      have := hall x hx
      have hc : x.born ∈ A.map (·.born) := by
        rw [← hi.seen]
        simpa using this
      rw [List.map_append, List.nodup_append] at hn
      exact hn.2.2 _ hc _ (List.mem_map.2 ⟨x, by rw [hB]; simp, rfl⟩) rfl
  · have heA : e ∉ A := fun hA => by
      have hc : e.born ∈ sn.toList := by rw [hi.seen]; exact List.mem_map.2 ⟨e, hA, rfl⟩
      have : sn.contains e.born = true := by simpa using hc
      rw [this] at hse; cases hse
    have heB : e ∈ B := by
      rcases List.mem_append.1 (hi.all.mem_iff.2 he) with h | h
      · exact absurd h heA
      · exact h
    obtain ⟨B1, B2, hB⟩ := List.append_of_mem heB
    have hrm : r ≠ m := fun e => by subst e; rw [b1'] at b2'; cases b2'
    have hrlt : r < w.heap.size := blk_lt b2
    have k1 : blk ({ w1 with heap := w1.heap.setIfInBounds r (.mapIter (some m) ck (sn.push e.born) ck) } : World) r = some (.mapIter (some m) ck (sn.push e.born) ck) := by
      show (w1.heap.setIfInBounds r _)[r]? = _
      rw [hh, Array.getElem?_setIfInBounds_self, if_pos hrlt]
    have k2 : blk ({ w1 with heap := w1.heap.setIfInBounds r (.mapIter (some m) ck (sn.push e.born) ck) } : World) m = some (.map es ck) := by
      show (w1.heap.setIfInBounds r _)[m]? = _
      rw [hh, Array.getElem?_setIfInBounds_ne hrm]; exact b1'
    refine h1 e B1 B2 _ hB ⟨?_, fun b hb hb' => ?_, ho.1, ho.2.1, ho.2.2⟩ ⟨k1, rfl⟩ ⟨?_, ?_⟩ ?_
    · show w.heap.size ≤ (w1.heap.setIfInBounds r _).size
      rw [Array.size_setIfInBounds, hh]; exact Nat.le_refl _
    · show (w1.heap.setIfInBounds r _)[b]? = w.heap[b]?
      rw [hh, Array.getElem?_setIfInBounds_ne (fun e => hb' (by simp [e]))]
    · refine List.Perm.trans ?_ hi.all
      rw [hB, List.append_assoc]
      refine List.Perm.append_left A ?_
      rw [List.singleton_append]
      exact List.perm_middle.symm
    · simp [hi.seen]
    · have k1' : ({ w1 with heap := w1.heap.setIfInBounds r (.mapIter (some m) ck (sn.push e.born) ck) } : World).heap[r]? = _ := k1
      have k2' : ({ w1 with heap := w1.heap.setIfInBounds r (.mapIter (some m) ck (sn.push e.born) ck) } : World).heap[m]? = _ := k2
      have hf : es.find? (fun x => x.born == e.born) = some e := by rw [← Array.find?_toList]; exact find_born hnd he
      unfold entryv
      simp only [k1', k2', Array.back?_push, hf, if_true, Option.map_some]
end
/-- pointers of blocks of cells, compared. -/
def ptrB (b : Nat) : Value := .pointer (some ⟨b, 0, none⟩)
theorem ptrv_blk {w : World} {a b : Nat} {c c' : Array Value} {T T' : Nat} (ha : blk w a = some (.cells c T (0, 0))) (hb : blk w b = some (.cells c' T' (0, 0))) :
    ptrv w .eql (.pointer (some ⟨a, 0, none⟩)) (.pointer (some ⟨b, 0, none⟩)) = some (.bool (decide (a = b))) := by
  have ha' : w.heap[a]? = some (.cells c T (0, 0)) := ha
  have hb' : w.heap[b]? = some (.cells c' T' (0, 0)) := hb
  by_cases h : a = b
  · subst h; simp [ptrv, binn]
  · simp [ptrv, binn, cellsAt, ha', hb', h]
instance {x : Value} : Ev (extractv (.tuple #[x]) 0) x := ⟨rfl⟩
theorem loop_up3 {B : (Value → Value → Value → World → Prop) → (Value → Value → Value → World → Nat) → Value → Value → Value → World → Prop} {w : World} {o p : Value} (s n : Nat) (I : Value → Value → Nat → World → Prop) (h0 : I o p s w) (hs : s ≤ n)
    (h : ∀ o p i w1, s ≤ i → i ≤ n → I o p i w1 → ∀ J m, (∀ o' p' w', i < n → I o' p' (i + 1) w' → J o' p' (.int .i64 ((i + 1 : Nat) : Int)) w' ∧ m o' p' (.int .i64 ((i + 1 : Nat) : Int)) w' < m o p (.int .i64 (i : Int)) w1) → B J m o p (.int .i64 (i : Int)) w1) :
    ∃ (J : Value → Value → Value → World → Prop) (m : Value → Value → Value → World → Nat), J o p (.int .i64 (s : Int)) w ∧ ∀ (_d : Env) (o p t : Value) (w1 : World), J o p t w1 → B J m o p t w1 := by
  refine ⟨fun o p t w' => ∃ i : Nat, t = .int .i64 i ∧ s ≤ i ∧ i ≤ n ∧ I o p i w', fun _ _ t _ => match t with | .int _ k => n - k.toNat | _ => 0, ⟨s, rfl, Nat.le_refl _, hs, h0⟩, ?_⟩
  rintro _ o p _ w1 ⟨i, rfl, h1, h2, h3⟩
  exact h o p i w1 h1 h2 h3 _ _ fun o' p' w' h4 h5 => ⟨⟨i + 1, rfl, by omega, by omega, h5⟩, by simp; omega⟩
def seenN (r : Nat) (w : World) : Nat := match blk w r with
  | some (.mapIter _ _ sn _) => sn.size
  | _ => 0
theorem seenN_it {r m ck : Nat} {sn : Array Nat} {w : World} (h : blk w r = some (.mapIter (some m) ck sn ck)) : seenN r w = sn.size := by unfold seenN; rw [h]
/-- a loop over a map, of two variables. -/
theorem loop_it2 {B : (Value → Value → World → Prop) → (Value → Value → World → Nat) → Value → Value → World → Prop} {w : World} {o p : Value} (r n : Nat) (I : Value → Value → World → Prop) (h0 : I o p w)
    (h : ∀ o p w1, I o p w1 → ∀ J m, (∀ o' p' w', seenN r w1 < n → seenN r w' = seenN r w1 + 1 → I o' p' w' → J o' p' w' ∧ m o' p' w' < m o p w1) → B J m o p w1) :
    ∃ (J : Value → Value → World → Prop) (m : Value → Value → World → Nat), J o p w ∧ ∀ (_d : Env) (o p : Value) (w1 : World), J o p w1 → B J m o p w1 := by
  refine ⟨I, fun _ _ w' => n - seenN r w', h0, ?_⟩
  intro _ o p w1 h3
  exact h o p w1 h3 _ _ fun o' p' w' h4 h5 h6 => ⟨h6, by show n - seenN r w' < n - seenN r w1; omega⟩
end Go.Proofs.YtofllgbdphakiaaGreatDoor
end

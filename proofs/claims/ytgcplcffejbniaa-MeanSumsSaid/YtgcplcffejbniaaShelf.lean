/-
  DERIVED: THE SHELF's CONTRACTS AT THIS DUMP, IN PLAIN WORDS (tools/lay-plain.mjs out of 'YtgcplcffejbniaaShelf.lean', which tools/lay-shelf.mjs wrote): THE SAME DECLARATIONS UNDER THE SAME NAMES: 'import', 'namespace', 'open', 'def', 'theorem' AND NOTHING ELSE: no command of the shelf's: FOR A HAND-IN. Each laying: the table of numbers ('.._ren') and one theorem, a field a fact of the dump's own or the kernel's comparison; each contract: ONE APPLICATION.
-/
import Derived.Shelf.Sort.Plain
import Derived.Shelf.Slices.In.SortNone
import Derived.Shelf.SlIterI.Nil
import Derived.Test.YtgcplcffejbniaaProg
namespace Go.Proofs
open Go.Shelf
def Try.lays189_ren : Go.Shelf.Ren := ⟨fun | 189 => 62 | 125 => 90 | 257 => 89 | 128 => 107 | 129 => 108 | 294 => 98 | 295 => 99 | 296 => 100 | 297 => 101 | 298 => 102 | 299 => 103 | 216 => 104 | 300 => 105 | 301 => 106 | 328 => 122 | 329 => 123 | 330 => 124 | 331 => 125 | 332 => 126 | 215 => 127 | 343 => 132 | n => n, fun | 28 => 33 | 3 => 3 | 46 => 143 | 0 => 0 | 51 => 163 | 53 => 165 | 4 => 4 | 183 => 156 | 182 => 155 | 131 => 99 | 5 => 5 | 9 => 9 | 218 => 181 | 222 => 185 | 228 => 190 | 229 => 191 | n => n, fun | n => n⟩
theorem Try.lays189 : Go.Proofs.Lays.n189 Try.prog Try.lays189_ren := {
  mixed := by kernel_rfl
  f125 := Try.func90.trans (congrArg some (by kernel_rfl))
  f128 := Try.func107.trans (congrArg some (by kernel_rfl))
  f129 := Try.func108.trans (congrArg some (by kernel_rfl))
  f189 := Try.func62.trans (congrArg some (by kernel_rfl))
  f215 := Try.func127.trans (congrArg some (by kernel_rfl))
  f216 := Try.func104.trans (congrArg some (by kernel_rfl))
  f257 := Try.func89.trans (congrArg some (by kernel_rfl))
  f294 := Try.func98.trans (congrArg some (by kernel_rfl))
  f295 := Try.func99.trans (congrArg some (by kernel_rfl))
  f296 := Try.func100.trans (congrArg some (by kernel_rfl))
  f297 := Try.func101.trans (congrArg some (by kernel_rfl))
  f298 := Try.func102.trans (congrArg some (by kernel_rfl))
  f299 := Try.func103.trans (congrArg some (by kernel_rfl))
  f300 := Try.func105.trans (congrArg some (by kernel_rfl))
  f301 := Try.func106.trans (congrArg some (by kernel_rfl))
  f328 := Try.func122.trans (congrArg some (by kernel_rfl))
  f329 := Try.func123.trans (congrArg some (by kernel_rfl))
  f330 := Try.func124.trans (congrArg some (by kernel_rfl))
  f331 := Try.func125.trans (congrArg some (by kernel_rfl))
  f332 := Try.func126.trans (congrArg some (by kernel_rfl))
  f343 := Try.func132.trans (congrArg some (by kernel_rfl))
  t0 := Try.underlying0
  a0 := Try.isAgg0
  z0 := Try.sizeOf0
  v0 := Try.zeroValue0
  t3 := Try.underlying3
  a3 := Try.isAgg3
  z3 := Try.sizeOf3
  v3 := Try.zeroValue3
  t4 := Try.underlying4
  a4 := Try.isAgg4
  z4 := Try.sizeOf4
  v4 := Try.zeroValue4
  t5 := Try.underlying5
  a5 := Try.isAgg5
  z5 := Try.sizeOf5
  v5 := Try.zeroValue5
  t9 := Try.underlying9
  a9 := Try.isAgg9
  z9 := Try.sizeOf9
  v9 := Try.zeroValue9
  t28 := Try.underlying33
  a28 := Try.isAgg33
  z28 := Try.sizeOf33
  v28 := Try.zeroValue33
  t46 := Try.underlying143
  a46 := Try.isAgg143
  z46 := Try.sizeOf143
  v46 := Try.zeroValue143
  t51 := Try.underlying163
  a51 := Try.isAgg163
  z51 := Try.sizeOf163
  v51 := Try.zeroValue163
  t53 := Try.underlying165
  a53 := Try.isAgg165
  z53 := Try.sizeOf165
  v53 := Try.zeroValue165
  t131 := Try.underlying99
  a131 := Try.isAgg99
  z131 := Try.sizeOf99
  v131 := Try.zeroValue99
  t182 := Try.underlying155
  a182 := Try.isAgg155
  z182 := Try.sizeOf155
  v182 := Try.zeroValue155
  t183 := Try.underlying156
  a183 := Try.isAgg156
  z183 := Try.sizeOf156
  v183 := Try.zeroValue156
  t218 := Try.underlying181
  a218 := Try.isAgg181
  z218 := Try.sizeOf181
  v218 := Try.zeroValue181
  t222 := Try.underlying185
  a222 := Try.isAgg185
  z222 := Try.sizeOf185
  v222 := Try.zeroValue185
  t228 := Try.underlying190
  a228 := Try.isAgg190
  z228 := Try.sizeOf190
  v228 := Try.zeroValue190
  t229 := Try.underlying191
  a229 := Try.isAgg191
  z229 := Try.sizeOf191
  v229 := Try.zeroValue191 }
open Go.Sort Go.RowKit in
theorem Try.slices_Sort_int (blk off cap : Nat) (zs : List Int) (w : World) (hH : Holds (Value.int .i64) w blk off zs.toArray) (hblk : blk < w.heap.size) (hsz : zs.length < 4611686018427387904) :
    Calls Try.prog 62 #[.slice (some ⟨blk, off, none⟩) zs.length cap] w fun e w' =>
      e = .returned (.tuple #[]) ∧ ∃ n os, w' = grow (putRow (Value.int .i64) (Sort.ahead w n) blk off (zs.mergeSort fun x y => decide (x ≤ y)).toArray) os := Any.slices_Sort_int Try.lays189 blk off cap zs w hH hblk hsz
open Go.RowKit Go.Sort in
/-- .. and plain. (LAID: no walk: one application.) -/
theorem Try.slices_Sort_int_none (p : Option Addr) (cap : Nat) (w : World) :
    Calls Try.prog 62 #[.slice p 0 cap] w fun e w' => e = .returned (.tuple #[]) ∧ w' = w := Any.slices_Sort_int_none Try.lays189 p cap w
def Try.keysA_ren : Go.Shelf.Ren := ⟨fun | 7 => 39 | 10 => 63 | n => n, fun | 23 => 72 | 26 => 3 | 3 => 3 | 28 => 77 | 0 => 0 | 27 => 76 | 33 => 112 | 4 => 4 | n => n, fun | n => n⟩
theorem Try.keysA : Go.Proofs.SlLaysZI.n7 Try.prog Try.keysA_ren := {
  mixed := by kernel_rfl
  f7 := ⟨Try.f39.name, by decide, Try.func39.trans (congrArg some (by kernel_rfl))⟩
  f10 := ⟨Try.f63.name, by decide, Try.func63.trans (congrArg some (by kernel_rfl))⟩
  t0 := Try.underlying0
  a0 := Try.isAgg0
  z0 := Try.sizeOf0
  v0 := Try.zeroValue0
  t4 := Try.underlying4
  a4 := Try.isAgg4
  z4 := Try.sizeOf4
  v4 := Try.zeroValue4
  t23 := Try.underlying72
  a23 := Try.isAgg72
  z23 := Try.sizeOf72
  v23 := Try.zeroValue72
  t26 := Try.underlying3
  a26 := Try.isAgg3
  z26 := Try.sizeOf3
  v26 := Try.zeroValue3
  t27 := Try.underlying76
  a27 := Try.isAgg76
  z27 := Try.sizeOf76
  v27 := Try.zeroValue76
  t28 := Try.underlying77
  a28 := Try.isAgg77
  z28 := Try.sizeOf77
  v28 := Try.zeroValue77
  t33 := Try.underlying112
  a33 := Try.isAgg112
  z33 := Try.sizeOf112
  v33 := Try.zeroValue112 }
def Try.sortedA_ren : Go.Shelf.Ren := ⟨fun | 6 => 38 | 8 => 61 | 9 => 62 | 11 => 88 | 13 => 90 | 12 => 89 | 23 => 107 | 24 => 108 | 14 => 98 | 15 => 99 | 16 => 100 | 17 => 101 | 18 => 102 | 19 => 103 | 20 => 104 | 21 => 105 | 22 => 106 | 25 => 122 | 26 => 123 | 27 => 124 | 28 => 125 | 29 => 126 | 30 => 127 | 31 => 132 | n => n, fun | 26 => 3 | 28 => 77 | 24 => 33 | 0 => 0 | 3 => 3 | 37 => 143 | 48 => 163 | 50 => 165 | 4 => 4 | 40 => 156 | 39 => 155 | 45 => 99 | 5 => 5 | 9 => 9 | 51 => 181 | 55 => 185 | 57 => 190 | 58 => 191 | 33 => 112 | n => n, fun | n => n⟩
theorem Try.sortedA : Go.Proofs.SlLaysZI.n6 Try.prog Try.sortedA_ren := {
  mixed := by kernel_rfl
  f6 := ⟨Try.f38.name, by decide, Try.func38.trans (congrArg some (by kernel_rfl))⟩
  f8 := ⟨Try.f61.name, by decide, Try.func61.trans (congrArg some (by kernel_rfl))⟩
  f11 := ⟨Try.f88.name, by decide, Try.func88.trans (congrArg some (by kernel_rfl))⟩
  t0 := Try.underlying0
  a0 := Try.isAgg0
  z0 := Try.sizeOf0
  v0 := Try.zeroValue0
  t24 := Try.underlying33
  a24 := Try.isAgg33
  z24 := Try.sizeOf33
  v24 := Try.zeroValue33
  t26 := Try.underlying3
  a26 := Try.isAgg3
  z26 := Try.sizeOf3
  v26 := Try.zeroValue3
  t28 := Try.underlying77
  a28 := Try.isAgg77
  z28 := Try.sizeOf77
  v28 := Try.zeroValue77
  i26 := by kernel_rfl }
end Go.Proofs

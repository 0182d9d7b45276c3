/-
  DERIVED: THE SHELF's CONTRACTS AT THIS DUMP, IN PLAIN WORDS (tools/lay-plain.mjs out of 'YtgobcldecokppaaShelf.lean', which tools/lay-shelf.mjs wrote): THE SAME DECLARATIONS UNDER THE SAME NAMES: 'import', 'namespace', 'open', 'def', 'theorem' AND NOTHING ELSE: no command of the shelf's: FOR A HAND-IN. Each laying: the table of numbers ('.._ren') and one theorem, a field a fact of the dump's own or the kernel's comparison; each contract: ONE APPLICATION.
-/
import Derived.Shelf.Sort.Plain
import Derived.Shelf.Slices.In.SortNone
import Derived.Shelf.SlIterI.Nil
import Derived.Test.YtgobcldecokppaaProg
namespace Go.Proofs
open Go.Shelf
def Try.lays189_ren : Go.Shelf.Ren := ⟨fun | 189 => 58 | 125 => 70 | 257 => 69 | 128 => 87 | 129 => 88 | 294 => 78 | 295 => 79 | 296 => 80 | 297 => 81 | 298 => 82 | 299 => 83 | 216 => 84 | 300 => 85 | 301 => 86 | 328 => 102 | 329 => 103 | 330 => 104 | 331 => 105 | 332 => 106 | 215 => 107 | 343 => 110 | n => n, fun | 28 => 84 | 3 => 3 | 46 => 129 | 0 => 0 | 51 => 150 | 53 => 152 | 4 => 4 | 183 => 143 | 182 => 142 | 131 => 105 | 5 => 5 | 9 => 9 | 218 => 164 | 222 => 168 | 228 => 171 | 229 => 172 | n => n, fun | n => n⟩
theorem Try.lays189 : Go.Proofs.Lays.n189 Try.prog Try.lays189_ren := {
  mixed := by kernel_rfl
  f125 := Try.func70.trans (congrArg some (by kernel_rfl))
  f128 := Try.func87.trans (congrArg some (by kernel_rfl))
  f129 := Try.func88.trans (congrArg some (by kernel_rfl))
  f189 := Try.func58.trans (congrArg some (by kernel_rfl))
  f215 := Try.func107.trans (congrArg some (by kernel_rfl))
  f216 := Try.func84.trans (congrArg some (by kernel_rfl))
  f257 := Try.func69.trans (congrArg some (by kernel_rfl))
  f294 := Try.func78.trans (congrArg some (by kernel_rfl))
  f295 := Try.func79.trans (congrArg some (by kernel_rfl))
  f296 := Try.func80.trans (congrArg some (by kernel_rfl))
  f297 := Try.func81.trans (congrArg some (by kernel_rfl))
  f298 := Try.func82.trans (congrArg some (by kernel_rfl))
  f299 := Try.func83.trans (congrArg some (by kernel_rfl))
  f300 := Try.func85.trans (congrArg some (by kernel_rfl))
  f301 := Try.func86.trans (congrArg some (by kernel_rfl))
  f328 := Try.func102.trans (congrArg some (by kernel_rfl))
  f329 := Try.func103.trans (congrArg some (by kernel_rfl))
  f330 := Try.func104.trans (congrArg some (by kernel_rfl))
  f331 := Try.func105.trans (congrArg some (by kernel_rfl))
  f332 := Try.func106.trans (congrArg some (by kernel_rfl))
  f343 := Try.func110.trans (congrArg some (by kernel_rfl))
  t0 := Try.underlying0
  a0 := Try.isAgg0
  z0 := Try.sizeOf0
  v0 := Try.zeroValue0
  t3 := Try.underlying3
  a3 := Try.isAgg3
  z3 := Try.sizeOf3
  v3 := Try.zeroValue3
  t4 := Try.underlying4
  a4 := Try.isAgg4
  z4 := Try.sizeOf4
  v4 := Try.zeroValue4
  t5 := Try.underlying5
  a5 := Try.isAgg5
  z5 := Try.sizeOf5
  v5 := Try.zeroValue5
  t9 := Try.underlying9
  a9 := Try.isAgg9
  z9 := Try.sizeOf9
  v9 := Try.zeroValue9
  t28 := Try.underlying84
  a28 := Try.isAgg84
  z28 := Try.sizeOf84
  v28 := Try.zeroValue84
  t46 := Try.underlying129
  a46 := Try.isAgg129
  z46 := Try.sizeOf129
  v46 := Try.zeroValue129
  t51 := Try.underlying150
  a51 := Try.isAgg150
  z51 := Try.sizeOf150
  v51 := Try.zeroValue150
  t53 := Try.underlying152
  a53 := Try.isAgg152
  z53 := Try.sizeOf152
  v53 := Try.zeroValue152
  t131 := Try.underlying105
  a131 := Try.isAgg105
  z131 := Try.sizeOf105
  v131 := Try.zeroValue105
  t182 := Try.underlying142
  a182 := Try.isAgg142
  z182 := Try.sizeOf142
  v182 := Try.zeroValue142
  t183 := Try.underlying143
  a183 := Try.isAgg143
  z183 := Try.sizeOf143
  v183 := Try.zeroValue143
  t218 := Try.underlying164
  a218 := Try.isAgg164
  z218 := Try.sizeOf164
  v218 := Try.zeroValue164
  t222 := Try.underlying168
  a222 := Try.isAgg168
  z222 := Try.sizeOf168
  v222 := Try.zeroValue168
  t228 := Try.underlying171
  a228 := Try.isAgg171
  z228 := Try.sizeOf171
  v228 := Try.zeroValue171
  t229 := Try.underlying172
  a229 := Try.isAgg172
  z229 := Try.sizeOf172
  v229 := Try.zeroValue172 }
open Go.Sort Go.RowKit in
theorem Try.slices_Sort_int (blk off cap : Nat) (zs : List Int) (w : World) (hH : Holds (Value.int .i64) w blk off zs.toArray) (hblk : blk < w.heap.size) (hsz : zs.length < 4611686018427387904) :
    Calls Try.prog 58 #[.slice (some ⟨blk, off, none⟩) zs.length cap] w fun e w' =>
      e = .returned (.tuple #[]) ∧ ∃ n os, w' = grow (putRow (Value.int .i64) (Sort.ahead w n) blk off (zs.mergeSort fun x y => decide (x ≤ y)).toArray) os := Any.slices_Sort_int Try.lays189 blk off cap zs w hH hblk hsz
open Go.RowKit Go.Sort in
/-- .. and plain. (LAID: no walk: one application.) -/
theorem Try.slices_Sort_int_none (p : Option Addr) (cap : Nat) (w : World) :
    Calls Try.prog 58 #[.slice p 0 cap] w fun e w' => e = .returned (.tuple #[]) ∧ w' = w := Any.slices_Sort_int_none Try.lays189 p cap w
def Try.keysA_ren : Go.Shelf.Ren := ⟨fun | 7 => 42 | 10 => 59 | n => n, fun | 23 => 82 | 26 => 3 | 3 => 3 | 28 => 101 | 0 => 0 | 27 => 100 | 33 => 116 | 4 => 4 | n => n, fun | n => n⟩
theorem Try.keysA : Go.Proofs.SlLaysZI.n7 Try.prog Try.keysA_ren := {
  mixed := by kernel_rfl
  f7 := ⟨Try.f42.name, by decide, Try.func42.trans (congrArg some (by kernel_rfl))⟩
  f10 := ⟨Try.f59.name, by decide, Try.func59.trans (congrArg some (by kernel_rfl))⟩
  t0 := Try.underlying0
  a0 := Try.isAgg0
  z0 := Try.sizeOf0
  v0 := Try.zeroValue0
  t4 := Try.underlying4
  a4 := Try.isAgg4
  z4 := Try.sizeOf4
  v4 := Try.zeroValue4
  t23 := Try.underlying82
  a23 := Try.isAgg82
  z23 := Try.sizeOf82
  v23 := Try.zeroValue82
  t26 := Try.underlying3
  a26 := Try.isAgg3
  z26 := Try.sizeOf3
  v26 := Try.zeroValue3
  t27 := Try.underlying100
  a27 := Try.isAgg100
  z27 := Try.sizeOf100
  v27 := Try.zeroValue100
  t28 := Try.underlying101
  a28 := Try.isAgg101
  z28 := Try.sizeOf101
  v28 := Try.zeroValue101
  t33 := Try.underlying116
  a33 := Try.isAgg116
  z33 := Try.sizeOf116
  v33 := Try.zeroValue116 }
def Try.sortedA_ren : Go.Shelf.Ren := ⟨fun | 6 => 41 | 8 => 57 | 9 => 58 | 11 => 68 | 13 => 70 | 12 => 69 | 23 => 87 | 24 => 88 | 14 => 78 | 15 => 79 | 16 => 80 | 17 => 81 | 18 => 82 | 19 => 83 | 20 => 84 | 21 => 85 | 22 => 86 | 25 => 102 | 26 => 103 | 27 => 104 | 28 => 105 | 29 => 106 | 30 => 107 | 31 => 110 | n => n, fun | 26 => 3 | 28 => 101 | 24 => 84 | 0 => 0 | 3 => 3 | 37 => 129 | 48 => 150 | 50 => 152 | 4 => 4 | 40 => 143 | 39 => 142 | 45 => 105 | 5 => 5 | 9 => 9 | 51 => 164 | 55 => 168 | 57 => 171 | 58 => 172 | 33 => 116 | n => n, fun | n => n⟩
theorem Try.sortedA : Go.Proofs.SlLaysZI.n6 Try.prog Try.sortedA_ren := {
  mixed := by kernel_rfl
  f6 := ⟨Try.f41.name, by decide, Try.func41.trans (congrArg some (by kernel_rfl))⟩
  f8 := ⟨Try.f57.name, by decide, Try.func57.trans (congrArg some (by kernel_rfl))⟩
  f11 := ⟨Try.f68.name, by decide, Try.func68.trans (congrArg some (by kernel_rfl))⟩
  t0 := Try.underlying0
  a0 := Try.isAgg0
  z0 := Try.sizeOf0
  v0 := Try.zeroValue0
  t24 := Try.underlying84
  a24 := Try.isAgg84
  z24 := Try.sizeOf84
  v24 := Try.zeroValue84
  t26 := Try.underlying3
  a26 := Try.isAgg3
  z26 := Try.sizeOf3
  v26 := Try.zeroValue3
  t28 := Try.underlying101
  a28 := Try.isAgg101
  z28 := Try.sizeOf101
  v28 := Try.zeroValue101
  i26 := by kernel_rfl }
end Go.Proofs

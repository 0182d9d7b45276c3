/-
  DERIVED: THE SHELF's CONTRACTS AT THIS DUMP, IN PLAIN WORDS (tools/lay-plain.mjs out of 'TrydShelf.lean', which tools/lay-shelf.mjs wrote): THE SAME DECLARATIONS UNDER THE SAME NAMES: 'import', 'namespace', 'open', 'def', 'theorem' AND NOTHING ELSE: no command of the shelf's: FOR A HAND-IN. Each laying: the table of numbers ('.._ren') and one theorem, a field a fact of the dump's own or the kernel's comparison; each contract: ONE APPLICATION.
-/
import Derived.Shelf.Sort.Plain
import Derived.Shelf.Slices.In.SortNone
import Derived.Shelf.Slices.In.SortNone2
import Derived.Test.YtapjdndcnenadaaDoorProg
namespace Go.Proofs
open Go.Shelf
def Tryd.lays189_ren : Go.Shelf.Ren := ⟨fun | 189 => 45 | 125 => 48 | 257 => 47 | 128 => 58 | 129 => 59 | 294 => 49 | 295 => 50 | 296 => 51 | 297 => 52 | 298 => 53 | 299 => 54 | 216 => 55 | 300 => 56 | 301 => 57 | 328 => 60 | 329 => 61 | 330 => 62 | 331 => 63 | 332 => 64 | 215 => 65 | 343 => 66 | n => n, fun | 28 => 38 | 3 => 3 | 46 => 97 | 0 => 0 | 51 => 106 | 53 => 108 | 4 => 4 | 183 => 100 | 182 => 99 | 131 => 61 | 5 => 5 | 9 => 9 | 218 => 109 | 222 => 113 | 228 => 115 | 229 => 116 | n => n, fun | n => n⟩
theorem Tryd.lays189 : Go.Proofs.Lays.n189 Tryd.prog Tryd.lays189_ren := {
  mixed := by kernel_rfl
  f125 := Tryd.func48.trans (congrArg some (by kernel_rfl))
  f128 := Tryd.func58.trans (congrArg some (by kernel_rfl))
  f129 := Tryd.func59.trans (congrArg some (by kernel_rfl))
  f189 := Tryd.func45.trans (congrArg some (by kernel_rfl))
  f215 := Tryd.func65.trans (congrArg some (by kernel_rfl))
  f216 := Tryd.func55.trans (congrArg some (by kernel_rfl))
  f257 := Tryd.func47.trans (congrArg some (by kernel_rfl))
  f294 := Tryd.func49.trans (congrArg some (by kernel_rfl))
  f295 := Tryd.func50.trans (congrArg some (by kernel_rfl))
  f296 := Tryd.func51.trans (congrArg some (by kernel_rfl))
  f297 := Tryd.func52.trans (congrArg some (by kernel_rfl))
  f298 := Tryd.func53.trans (congrArg some (by kernel_rfl))
  f299 := Tryd.func54.trans (congrArg some (by kernel_rfl))
  f300 := Tryd.func56.trans (congrArg some (by kernel_rfl))
  f301 := Tryd.func57.trans (congrArg some (by kernel_rfl))
  f328 := Tryd.func60.trans (congrArg some (by kernel_rfl))
  f329 := Tryd.func61.trans (congrArg some (by kernel_rfl))
  f330 := Tryd.func62.trans (congrArg some (by kernel_rfl))
  f331 := Tryd.func63.trans (congrArg some (by kernel_rfl))
  f332 := Tryd.func64.trans (congrArg some (by kernel_rfl))
  f343 := Tryd.func66.trans (congrArg some (by kernel_rfl))
  t0 := Tryd.underlying0
  a0 := Tryd.isAgg0
  z0 := Tryd.sizeOf0
  v0 := Tryd.zeroValue0
  t3 := Tryd.underlying3
  a3 := Tryd.isAgg3
  z3 := Tryd.sizeOf3
  v3 := Tryd.zeroValue3
  t4 := Tryd.underlying4
  a4 := Tryd.isAgg4
  z4 := Tryd.sizeOf4
  v4 := Tryd.zeroValue4
  t5 := Tryd.underlying5
  a5 := Tryd.isAgg5
  z5 := Tryd.sizeOf5
  v5 := Tryd.zeroValue5
  t9 := Tryd.underlying9
  a9 := Tryd.isAgg9
  z9 := Tryd.sizeOf9
  v9 := Tryd.zeroValue9
  t28 := Tryd.underlying38
  a28 := Tryd.isAgg38
  z28 := Tryd.sizeOf38
  v28 := Tryd.zeroValue38
  t46 := Tryd.underlying97
  a46 := Tryd.isAgg97
  z46 := Tryd.sizeOf97
  v46 := Tryd.zeroValue97
  t51 := Tryd.underlying106
  a51 := Tryd.isAgg106
  z51 := Tryd.sizeOf106
  v51 := Tryd.zeroValue106
  t53 := Tryd.underlying108
  a53 := Tryd.isAgg108
  z53 := Tryd.sizeOf108
  v53 := Tryd.zeroValue108
  t131 := Tryd.underlying61
  a131 := Tryd.isAgg61
  z131 := Tryd.sizeOf61
  v131 := Tryd.zeroValue61
  t182 := Tryd.underlying99
  a182 := Tryd.isAgg99
  z182 := Tryd.sizeOf99
  v182 := Tryd.zeroValue99
  t183 := Tryd.underlying100
  a183 := Tryd.isAgg100
  z183 := Tryd.sizeOf100
  v183 := Tryd.zeroValue100
  t218 := Tryd.underlying109
  a218 := Tryd.isAgg109
  z218 := Tryd.sizeOf109
  v218 := Tryd.zeroValue109
  t222 := Tryd.underlying113
  a222 := Tryd.isAgg113
  z222 := Tryd.sizeOf113
  v222 := Tryd.zeroValue113
  t228 := Tryd.underlying115
  a228 := Tryd.isAgg115
  z228 := Tryd.sizeOf115
  v228 := Tryd.zeroValue115
  t229 := Tryd.underlying116
  a229 := Tryd.isAgg116
  z229 := Tryd.sizeOf116
  v229 := Tryd.zeroValue116 }
def Tryd.lays191_ren : Go.Shelf.Ren := ⟨fun | 191 => 37 | 189 => 45 | 125 => 48 | 257 => 47 | 128 => 58 | 129 => 59 | 294 => 49 | 295 => 50 | 296 => 51 | 297 => 52 | 298 => 53 | 299 => 54 | 216 => 55 | 300 => 56 | 301 => 57 | 328 => 60 | 329 => 61 | 330 => 62 | 331 => 63 | 332 => 64 | 215 => 65 | 343 => 66 | n => n, fun | 28 => 38 | 0 => 0 | 3 => 3 | 46 => 97 | 51 => 106 | 53 => 108 | 4 => 4 | 183 => 100 | 182 => 99 | 131 => 61 | 5 => 5 | 9 => 9 | 218 => 109 | 222 => 113 | 228 => 115 | 229 => 116 | n => n, fun | n => n⟩
theorem Tryd.lays191 : Go.Proofs.Lays.n191 Tryd.prog Tryd.lays191_ren := {
  mixed := by kernel_rfl
  f125 := Tryd.func48.trans (congrArg some (by kernel_rfl))
  f128 := Tryd.func58.trans (congrArg some (by kernel_rfl))
  f129 := Tryd.func59.trans (congrArg some (by kernel_rfl))
  f189 := Tryd.func45.trans (congrArg some (by kernel_rfl))
  f191 := Tryd.func37.trans (congrArg some (by kernel_rfl))
  f215 := Tryd.func65.trans (congrArg some (by kernel_rfl))
  f216 := Tryd.func55.trans (congrArg some (by kernel_rfl))
  f257 := Tryd.func47.trans (congrArg some (by kernel_rfl))
  f294 := Tryd.func49.trans (congrArg some (by kernel_rfl))
  f295 := Tryd.func50.trans (congrArg some (by kernel_rfl))
  f296 := Tryd.func51.trans (congrArg some (by kernel_rfl))
  f297 := Tryd.func52.trans (congrArg some (by kernel_rfl))
  f298 := Tryd.func53.trans (congrArg some (by kernel_rfl))
  f299 := Tryd.func54.trans (congrArg some (by kernel_rfl))
  f300 := Tryd.func56.trans (congrArg some (by kernel_rfl))
  f301 := Tryd.func57.trans (congrArg some (by kernel_rfl))
  f328 := Tryd.func60.trans (congrArg some (by kernel_rfl))
  f329 := Tryd.func61.trans (congrArg some (by kernel_rfl))
  f330 := Tryd.func62.trans (congrArg some (by kernel_rfl))
  f331 := Tryd.func63.trans (congrArg some (by kernel_rfl))
  f332 := Tryd.func64.trans (congrArg some (by kernel_rfl))
  f343 := Tryd.func66.trans (congrArg some (by kernel_rfl))
  t0 := Tryd.underlying0
  a0 := Tryd.isAgg0
  z0 := Tryd.sizeOf0
  v0 := Tryd.zeroValue0
  t3 := Tryd.underlying3
  a3 := Tryd.isAgg3
  z3 := Tryd.sizeOf3
  v3 := Tryd.zeroValue3
  t4 := Tryd.underlying4
  a4 := Tryd.isAgg4
  z4 := Tryd.sizeOf4
  v4 := Tryd.zeroValue4
  t5 := Tryd.underlying5
  a5 := Tryd.isAgg5
  z5 := Tryd.sizeOf5
  v5 := Tryd.zeroValue5
  t9 := Tryd.underlying9
  a9 := Tryd.isAgg9
  z9 := Tryd.sizeOf9
  v9 := Tryd.zeroValue9
  t28 := Tryd.underlying38
  a28 := Tryd.isAgg38
  z28 := Tryd.sizeOf38
  v28 := Tryd.zeroValue38
  t46 := Tryd.underlying97
  a46 := Tryd.isAgg97
  z46 := Tryd.sizeOf97
  v46 := Tryd.zeroValue97
  t51 := Tryd.underlying106
  a51 := Tryd.isAgg106
  z51 := Tryd.sizeOf106
  v51 := Tryd.zeroValue106
  t53 := Tryd.underlying108
  a53 := Tryd.isAgg108
  z53 := Tryd.sizeOf108
  v53 := Tryd.zeroValue108
  t131 := Tryd.underlying61
  a131 := Tryd.isAgg61
  z131 := Tryd.sizeOf61
  v131 := Tryd.zeroValue61
  t182 := Tryd.underlying99
  a182 := Tryd.isAgg99
  z182 := Tryd.sizeOf99
  v182 := Tryd.zeroValue99
  t183 := Tryd.underlying100
  a183 := Tryd.isAgg100
  z183 := Tryd.sizeOf100
  v183 := Tryd.zeroValue100
  t218 := Tryd.underlying109
  a218 := Tryd.isAgg109
  z218 := Tryd.sizeOf109
  v218 := Tryd.zeroValue109
  t222 := Tryd.underlying113
  a222 := Tryd.isAgg113
  z222 := Tryd.sizeOf113
  v222 := Tryd.zeroValue113
  t228 := Tryd.underlying115
  a228 := Tryd.isAgg115
  z228 := Tryd.sizeOf115
  v228 := Tryd.zeroValue115
  t229 := Tryd.underlying116
  a229 := Tryd.isAgg116
  z229 := Tryd.sizeOf116
  v229 := Tryd.zeroValue116 }
open Go.Sort Go.RowKit in
theorem Tryd.sort_Ints (blk off cap : Nat) (zs : List Int) (w : World) (hH : Holds (Value.int .i64) w blk off zs.toArray) (hblk : blk < w.heap.size) (hsz : zs.length < 4611686018427387904) :
    Calls Tryd.prog 37 #[.slice (some ⟨blk, off, none⟩) zs.length cap] w fun e w' =>
      e = .returned (.tuple #[]) ∧ ∃ n os, w' = grow (putRow (Value.int .i64) (Sort.ahead w n) blk off (zs.mergeSort fun x y => decide (x ≤ y)).toArray) os := Any.sort_Ints Tryd.lays191 blk off cap zs w hH hblk hsz
open Go.RowKit Go.Sort in
/-- .. and plain. (LAID: no walk: one application.) -/
theorem Tryd.slices_Sort_int_none (p : Option Addr) (cap : Nat) (w : World) :
    Calls Tryd.prog 45 #[.slice p 0 cap] w fun e w' => e = .returned (.tuple #[]) ∧ w' = w := Any.slices_Sort_int_none Tryd.lays189 p cap w
open Go.RowKit Go.Sort in
/-- .. and plain. (LAID: no walk: one application.) -/
theorem Tryd.sort_Ints_none (p : Option Addr) (cap : Nat) (w : World) :
    Calls Tryd.prog 37 #[.slice p 0 cap] w fun e w' => e = .returned (.tuple #[]) ∧ w' = w := Any.sort_Ints_none Tryd.lays191 p cap w
end Go.Proofs

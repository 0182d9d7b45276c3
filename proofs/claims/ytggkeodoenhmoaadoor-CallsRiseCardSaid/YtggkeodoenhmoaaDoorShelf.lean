/-
  DERIVED: THE SHELF's CONTRACTS AT THIS DUMP, IN PLAIN WORDS (tools/lay-plain.mjs out of 'TrydShelf.lean', which tools/lay-shelf.mjs wrote): THE SAME DECLARATIONS UNDER THE SAME NAMES: 'import', 'namespace', 'open', 'def', 'theorem' AND NOTHING ELSE: no command of the shelf's: FOR A HAND-IN. Each laying: the table of numbers ('.._ren') and one theorem, a field a fact of the dump's own or the kernel's comparison; each contract: ONE APPLICATION.
-/
import Derived.Shelf.Sort.Plain
import Derived.Shelf.Slices.In.SortNone
import Derived.Shelf.Slices.In.SortNone2
import Derived.Test.YtggkeodoenhmoaaDoorProg
namespace Go.Proofs
open Go.Shelf
def Tryd.lays189_ren : Go.Shelf.Ren := ⟨fun | 189 => 25 | 125 => 30 | 257 => 29 | 128 => 41 | 129 => 42 | 294 => 32 | 295 => 33 | 296 => 34 | 297 => 35 | 298 => 36 | 299 => 37 | 216 => 38 | 300 => 39 | 301 => 40 | 328 => 45 | 329 => 46 | 330 => 47 | 331 => 48 | 332 => 49 | 215 => 50 | 343 => 53 | n => n, fun | 28 => 27 | 3 => 3 | 46 => 77 | 0 => 0 | 51 => 89 | 53 => 91 | 4 => 4 | 183 => 81 | 182 => 80 | 131 => 86 | 5 => 5 | 9 => 9 | 218 => 93 | 222 => 97 | 228 => 99 | 229 => 100 | n => n, fun | n => n⟩
theorem Tryd.lays189 : Go.Proofs.Lays.n189 Tryd.prog Tryd.lays189_ren := {
  mixed := by kernel_rfl
  f125 := Tryd.func30.trans (congrArg some (by kernel_rfl))
  f128 := Tryd.func41.trans (congrArg some (by kernel_rfl))
  f129 := Tryd.func42.trans (congrArg some (by kernel_rfl))
  f189 := Tryd.func25.trans (congrArg some (by kernel_rfl))
  f215 := Tryd.func50.trans (congrArg some (by kernel_rfl))
  f216 := Tryd.func38.trans (congrArg some (by kernel_rfl))
  f257 := Tryd.func29.trans (congrArg some (by kernel_rfl))
  f294 := Tryd.func32.trans (congrArg some (by kernel_rfl))
  f295 := Tryd.func33.trans (congrArg some (by kernel_rfl))
  f296 := Tryd.func34.trans (congrArg some (by kernel_rfl))
  f297 := Tryd.func35.trans (congrArg some (by kernel_rfl))
  f298 := Tryd.func36.trans (congrArg some (by kernel_rfl))
  f299 := Tryd.func37.trans (congrArg some (by kernel_rfl))
  f300 := Tryd.func39.trans (congrArg some (by kernel_rfl))
  f301 := Tryd.func40.trans (congrArg some (by kernel_rfl))
  f328 := Tryd.func45.trans (congrArg some (by kernel_rfl))
  f329 := Tryd.func46.trans (congrArg some (by kernel_rfl))
  f330 := Tryd.func47.trans (congrArg some (by kernel_rfl))
  f331 := Tryd.func48.trans (congrArg some (by kernel_rfl))
  f332 := Tryd.func49.trans (congrArg some (by kernel_rfl))
  f343 := Tryd.func53.trans (congrArg some (by kernel_rfl))
  t0 := Tryd.underlying0
  a0 := Tryd.isAgg0
  z0 := Tryd.sizeOf0
  v0 := Tryd.zeroValue0
  t3 := Tryd.underlying3
  a3 := Tryd.isAgg3
  z3 := Tryd.sizeOf3
  v3 := Tryd.zeroValue3
  t4 := Tryd.underlying4
  a4 := Tryd.isAgg4
  z4 := Tryd.sizeOf4
  v4 := Tryd.zeroValue4
  t5 := Tryd.underlying5
  a5 := Tryd.isAgg5
  z5 := Tryd.sizeOf5
  v5 := Tryd.zeroValue5
  t9 := Tryd.underlying9
  a9 := Tryd.isAgg9
  z9 := Tryd.sizeOf9
  v9 := Tryd.zeroValue9
  t28 := Tryd.underlying27
  a28 := Tryd.isAgg27
  z28 := Tryd.sizeOf27
  v28 := Tryd.zeroValue27
  t46 := Tryd.underlying77
  a46 := Tryd.isAgg77
  z46 := Tryd.sizeOf77
  v46 := Tryd.zeroValue77
  t51 := Tryd.underlying89
  a51 := Tryd.isAgg89
  z51 := Tryd.sizeOf89
  v51 := Tryd.zeroValue89
  t53 := Tryd.underlying91
  a53 := Tryd.isAgg91
  z53 := Tryd.sizeOf91
  v53 := Tryd.zeroValue91
  t131 := Tryd.underlying86
  a131 := Tryd.isAgg86
  z131 := Tryd.sizeOf86
  v131 := Tryd.zeroValue86
  t182 := Tryd.underlying80
  a182 := Tryd.isAgg80
  z182 := Tryd.sizeOf80
  v182 := Tryd.zeroValue80
  t183 := Tryd.underlying81
  a183 := Tryd.isAgg81
  z183 := Tryd.sizeOf81
  v183 := Tryd.zeroValue81
  t218 := Tryd.underlying93
  a218 := Tryd.isAgg93
  z218 := Tryd.sizeOf93
  v218 := Tryd.zeroValue93
  t222 := Tryd.underlying97
  a222 := Tryd.isAgg97
  z222 := Tryd.sizeOf97
  v222 := Tryd.zeroValue97
  t228 := Tryd.underlying99
  a228 := Tryd.isAgg99
  z228 := Tryd.sizeOf99
  v228 := Tryd.zeroValue99
  t229 := Tryd.underlying100
  a229 := Tryd.isAgg100
  z229 := Tryd.sizeOf100
  v229 := Tryd.zeroValue100 }
open Go.Sort Go.RowKit in
theorem Tryd.slices_Sort_int (blk off cap : Nat) (zs : List Int) (w : World) (hH : Holds (Value.int .i64) w blk off zs.toArray) (hblk : blk < w.heap.size) (hsz : zs.length < 4611686018427387904) :
    Calls Tryd.prog 25 #[.slice (some ⟨blk, off, none⟩) zs.length cap] w fun e w' =>
      e = .returned (.tuple #[]) ∧ ∃ n os, w' = grow (putRow (Value.int .i64) (Sort.ahead w n) blk off (zs.mergeSort fun x y => decide (x ≤ y)).toArray) os := Any.slices_Sort_int Tryd.lays189 blk off cap zs w hH hblk hsz
def Tryd.lays191_ren : Go.Shelf.Ren := ⟨fun | 191 => 16 | 189 => 25 | 125 => 30 | 257 => 29 | 128 => 41 | 129 => 42 | 294 => 32 | 295 => 33 | 296 => 34 | 297 => 35 | 298 => 36 | 299 => 37 | 216 => 38 | 300 => 39 | 301 => 40 | 328 => 45 | 329 => 46 | 330 => 47 | 331 => 48 | 332 => 49 | 215 => 50 | 343 => 53 | n => n, fun | 28 => 27 | 0 => 0 | 3 => 3 | 46 => 77 | 51 => 89 | 53 => 91 | 4 => 4 | 183 => 81 | 182 => 80 | 131 => 86 | 5 => 5 | 9 => 9 | 218 => 93 | 222 => 97 | 228 => 99 | 229 => 100 | n => n, fun | n => n⟩
theorem Tryd.lays191 : Go.Proofs.Lays.n191 Tryd.prog Tryd.lays191_ren := {
  mixed := by kernel_rfl
  f125 := Tryd.func30.trans (congrArg some (by kernel_rfl))
  f128 := Tryd.func41.trans (congrArg some (by kernel_rfl))
  f129 := Tryd.func42.trans (congrArg some (by kernel_rfl))
  f189 := Tryd.func25.trans (congrArg some (by kernel_rfl))
  f191 := Tryd.func16.trans (congrArg some (by kernel_rfl))
  f215 := Tryd.func50.trans (congrArg some (by kernel_rfl))
  f216 := Tryd.func38.trans (congrArg some (by kernel_rfl))
  f257 := Tryd.func29.trans (congrArg some (by kernel_rfl))
  f294 := Tryd.func32.trans (congrArg some (by kernel_rfl))
  f295 := Tryd.func33.trans (congrArg some (by kernel_rfl))
  f296 := Tryd.func34.trans (congrArg some (by kernel_rfl))
  f297 := Tryd.func35.trans (congrArg some (by kernel_rfl))
  f298 := Tryd.func36.trans (congrArg some (by kernel_rfl))
  f299 := Tryd.func37.trans (congrArg some (by kernel_rfl))
  f300 := Tryd.func39.trans (congrArg some (by kernel_rfl))
  f301 := Tryd.func40.trans (congrArg some (by kernel_rfl))
  f328 := Tryd.func45.trans (congrArg some (by kernel_rfl))
  f329 := Tryd.func46.trans (congrArg some (by kernel_rfl))
  f330 := Tryd.func47.trans (congrArg some (by kernel_rfl))
  f331 := Tryd.func48.trans (congrArg some (by kernel_rfl))
  f332 := Tryd.func49.trans (congrArg some (by kernel_rfl))
  f343 := Tryd.func53.trans (congrArg some (by kernel_rfl))
  t0 := Tryd.underlying0
  a0 := Tryd.isAgg0
  z0 := Tryd.sizeOf0
  v0 := Tryd.zeroValue0
  t3 := Tryd.underlying3
  a3 := Tryd.isAgg3
  z3 := Tryd.sizeOf3
  v3 := Tryd.zeroValue3
  t4 := Tryd.underlying4
  a4 := Tryd.isAgg4
  z4 := Tryd.sizeOf4
  v4 := Tryd.zeroValue4
  t5 := Tryd.underlying5
  a5 := Tryd.isAgg5
  z5 := Tryd.sizeOf5
  v5 := Tryd.zeroValue5
  t9 := Tryd.underlying9
  a9 := Tryd.isAgg9
  z9 := Tryd.sizeOf9
  v9 := Tryd.zeroValue9
  t28 := Tryd.underlying27
  a28 := Tryd.isAgg27
  z28 := Tryd.sizeOf27
  v28 := Tryd.zeroValue27
  t46 := Tryd.underlying77
  a46 := Tryd.isAgg77
  z46 := Tryd.sizeOf77
  v46 := Tryd.zeroValue77
  t51 := Tryd.underlying89
  a51 := Tryd.isAgg89
  z51 := Tryd.sizeOf89
  v51 := Tryd.zeroValue89
  t53 := Tryd.underlying91
  a53 := Tryd.isAgg91
  z53 := Tryd.sizeOf91
  v53 := Tryd.zeroValue91
  t131 := Tryd.underlying86
  a131 := Tryd.isAgg86
  z131 := Tryd.sizeOf86
  v131 := Tryd.zeroValue86
  t182 := Tryd.underlying80
  a182 := Tryd.isAgg80
  z182 := Tryd.sizeOf80
  v182 := Tryd.zeroValue80
  t183 := Tryd.underlying81
  a183 := Tryd.isAgg81
  z183 := Tryd.sizeOf81
  v183 := Tryd.zeroValue81
  t218 := Tryd.underlying93
  a218 := Tryd.isAgg93
  z218 := Tryd.sizeOf93
  v218 := Tryd.zeroValue93
  t222 := Tryd.underlying97
  a222 := Tryd.isAgg97
  z222 := Tryd.sizeOf97
  v222 := Tryd.zeroValue97
  t228 := Tryd.underlying99
  a228 := Tryd.isAgg99
  z228 := Tryd.sizeOf99
  v228 := Tryd.zeroValue99
  t229 := Tryd.underlying100
  a229 := Tryd.isAgg100
  z229 := Tryd.sizeOf100
  v229 := Tryd.zeroValue100 }
open Go.Sort Go.RowKit in
theorem Tryd.sort_Ints (blk off cap : Nat) (zs : List Int) (w : World) (hH : Holds (Value.int .i64) w blk off zs.toArray) (hblk : blk < w.heap.size) (hsz : zs.length < 4611686018427387904) :
    Calls Tryd.prog 16 #[.slice (some ⟨blk, off, none⟩) zs.length cap] w fun e w' =>
      e = .returned (.tuple #[]) ∧ ∃ n os, w' = grow (putRow (Value.int .i64) (Sort.ahead w n) blk off (zs.mergeSort fun x y => decide (x ≤ y)).toArray) os := Any.sort_Ints Tryd.lays191 blk off cap zs w hH hblk hsz
open Go.RowKit Go.Sort in
/-- .. and plain. (LAID: no walk: one application.) -/
theorem Tryd.slices_Sort_int_none (p : Option Addr) (cap : Nat) (w : World) :
    Calls Tryd.prog 25 #[.slice p 0 cap] w fun e w' => e = .returned (.tuple #[]) ∧ w' = w := Any.slices_Sort_int_none Tryd.lays189 p cap w
open Go.RowKit Go.Sort in
/-- .. and plain. (LAID: no walk: one application.) -/
theorem Tryd.sort_Ints_none (p : Option Addr) (cap : Nat) (w : World) :
    Calls Tryd.prog 16 #[.slice p 0 cap] w fun e w' => e = .returned (.tuple #[]) ∧ w' = w := Any.sort_Ints_none Tryd.lays191 p cap w
end Go.Proofs

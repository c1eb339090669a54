/- The library's sort, search and copy of whole numbers, at this program: given contracts laid by their own names; each laying a table of numbers and one theorem. -/
import Derived.Shelf.Sort.Plain
import Derived.Shelf.Slices.Clone
import Derived.Shelf.Slices.SearchI
import Derived.Test.YtajbchecjbddgaaGreatDoorProg
namespace Go.Proofs
open Go.Shelf
def Tryz.lays189_ren : Go.Shelf.Ren := ⟨fun | 189 => 18 | 125 => 36 | 257 => 35 | 128 => 66 | 129 => 67 | 294 => 58 | 295 => 59 | 296 => 60 | 297 => 61 | 298 => 62 | 299 => 63 | 216 => 37 | 300 => 64 | 301 => 65 | 328 => 77 | 329 => 78 | 330 => 79 | 331 => 80 | 332 => 81 | 215 => 68 | 343 => 88 | n => n, fun | 28 => 36 | 3 => 3 | 46 => 81 | 0 => 0 | 51 => 100 | 53 => 102 | 4 => 4 | 183 => 94 | 182 => 93 | 131 => 50 | 5 => 5 | 9 => 9 | 218 => 109 | 222 => 113 | 228 => 119 | 229 => 120 | n => n, fun | n => n⟩
theorem Tryz.lays189 : Go.Proofs.Lays.n189 Tryz.prog Tryz.lays189_ren := {
  mixed := by kernel_rfl
  f125 := Tryz.func36.trans (congrArg some (by kernel_rfl))
  f128 := Tryz.func66.trans (congrArg some (by kernel_rfl))
  f129 := Tryz.func67.trans (congrArg some (by kernel_rfl))
  f189 := Tryz.func18.trans (congrArg some (by kernel_rfl))
  f215 := Tryz.func68.trans (congrArg some (by kernel_rfl))
  f216 := Tryz.func37.trans (congrArg some (by kernel_rfl))
  f257 := Tryz.func35.trans (congrArg some (by kernel_rfl))
  f294 := Tryz.func58.trans (congrArg some (by kernel_rfl))
  f295 := Tryz.func59.trans (congrArg some (by kernel_rfl))
  f296 := Tryz.func60.trans (congrArg some (by kernel_rfl))
  f297 := Tryz.func61.trans (congrArg some (by kernel_rfl))
  f298 := Tryz.func62.trans (congrArg some (by kernel_rfl))
  f299 := Tryz.func63.trans (congrArg some (by kernel_rfl))
  f300 := Tryz.func64.trans (congrArg some (by kernel_rfl))
  f301 := Tryz.func65.trans (congrArg some (by kernel_rfl))
  f328 := Tryz.func77.trans (congrArg some (by kernel_rfl))
  f329 := Tryz.func78.trans (congrArg some (by kernel_rfl))
  f330 := Tryz.func79.trans (congrArg some (by kernel_rfl))
  f331 := Tryz.func80.trans (congrArg some (by kernel_rfl))
  f332 := Tryz.func81.trans (congrArg some (by kernel_rfl))
  f343 := Tryz.func88.trans (congrArg some (by kernel_rfl))
  t0 := Tryz.underlying0
  a0 := Tryz.isAgg0
  z0 := Tryz.sizeOf0
  v0 := Tryz.zeroValue0
  t3 := Tryz.underlying3
  a3 := Tryz.isAgg3
  z3 := Tryz.sizeOf3
  v3 := Tryz.zeroValue3
  t4 := Tryz.underlying4
  a4 := Tryz.isAgg4
  z4 := Tryz.sizeOf4
  v4 := Tryz.zeroValue4
  t5 := Tryz.underlying5
  a5 := Tryz.isAgg5
  z5 := Tryz.sizeOf5
  v5 := Tryz.zeroValue5
  t9 := Tryz.underlying9
  a9 := Tryz.isAgg9
  z9 := Tryz.sizeOf9
  v9 := Tryz.zeroValue9
  t28 := Tryz.underlying36
  a28 := Tryz.isAgg36
  z28 := Tryz.sizeOf36
  v28 := Tryz.zeroValue36
  t46 := Tryz.underlying81
  a46 := Tryz.isAgg81
  z46 := Tryz.sizeOf81
  v46 := Tryz.zeroValue81
  t51 := Tryz.underlying100
  a51 := Tryz.isAgg100
  z51 := Tryz.sizeOf100
  v51 := Tryz.zeroValue100
  t53 := Tryz.underlying102
  a53 := Tryz.isAgg102
  z53 := Tryz.sizeOf102
  v53 := Tryz.zeroValue102
  t131 := Tryz.underlying50
  a131 := Tryz.isAgg50
  z131 := Tryz.sizeOf50
  v131 := Tryz.zeroValue50
  t182 := Tryz.underlying93
  a182 := Tryz.isAgg93
  z182 := Tryz.sizeOf93
  v182 := Tryz.zeroValue93
  t183 := Tryz.underlying94
  a183 := Tryz.isAgg94
  z183 := Tryz.sizeOf94
  v183 := Tryz.zeroValue94
  t218 := Tryz.underlying109
  a218 := Tryz.isAgg109
  z218 := Tryz.sizeOf109
  v218 := Tryz.zeroValue109
  t222 := Tryz.underlying113
  a222 := Tryz.isAgg113
  z222 := Tryz.sizeOf113
  v222 := Tryz.zeroValue113
  t228 := Tryz.underlying119
  a228 := Tryz.isAgg119
  z228 := Tryz.sizeOf119
  v228 := Tryz.zeroValue119
  t229 := Tryz.underlying120
  a229 := Tryz.isAgg120
  z229 := Tryz.sizeOf120
  v229 := Tryz.zeroValue120 }
open Go.Sort Go.RowKit in
theorem Tryz.slices_Sort_int (blk off cap : Nat) (zs : List Int) (w : World) (hH : Holds (Value.int .i64) w blk off zs.toArray) (hblk : blk < w.heap.size) (hsz : zs.length < 4611686018427387904) :
    Calls Tryz.prog 18 #[.slice (some ⟨blk, off, none⟩) zs.length cap] w fun e w' =>
      e = .returned (.tuple #[]) ∧ ∃ n os, w' = grow (putRow (Value.int .i64) (Sort.ahead w n) blk off (zs.mergeSort fun x y => decide (x ≤ y)).toArray) os := Any.slices_Sort_int Tryz.lays189 blk off cap zs w hH hblk hsz
def Tryz.laysNm225_ren : Go.Shelf.Ren := ⟨fun | 25 => 19 | 31 => 37 | 32 => 38 | 37 => 68 | n => n, fun | 22 => 36 | 3 => 3 | 4 => 4 | 40 => 81 | 0 => 0 | n => n, fun | n => n⟩
theorem Tryz.laysNm225 : Go.Proofs.Lays2.n25 Tryz.prog Tryz.laysNm225_ren := {
  mixed := by kernel_rfl
  f25 := Tryz.func19.trans (congrArg some (by kernel_rfl))
  f31 := Tryz.func37.trans (congrArg some (by kernel_rfl))
  f32 := Tryz.func38.trans (congrArg some (by kernel_rfl))
  f37 := Tryz.func68.trans (congrArg some (by kernel_rfl))
  t0 := Tryz.underlying0
  a0 := Tryz.isAgg0
  z0 := Tryz.sizeOf0
  v0 := Tryz.zeroValue0
  t3 := Tryz.underlying3
  a3 := Tryz.isAgg3
  z3 := Tryz.sizeOf3
  v3 := Tryz.zeroValue3
  t4 := Tryz.underlying4
  a4 := Tryz.isAgg4
  z4 := Tryz.sizeOf4
  v4 := Tryz.zeroValue4
  t22 := Tryz.underlying36
  a22 := Tryz.isAgg36
  z22 := Tryz.sizeOf36
  v22 := Tryz.zeroValue36
  t40 := Tryz.underlying81
  a40 := Tryz.isAgg81
  z40 := Tryz.sizeOf81
  v40 := Tryz.zeroValue81 }
open Go.RowKit Go.Lib in
/-- slices.BinarySearch at []int: "BinarySearch searches for target in a sorted slice and returns the earliest position where target is found, or the position where target would appear in the sort order; it also returns a bool saying whether the target is really found in the slice. The slice must be sorted in increasing order.": OF A SORTED SLICE IT RETURNS how many elements are less than the target, and whether the target is among the elements; the world is as it was but for the count of draws. 'zs': what the cells behind the slice's address hold; 'zs.take n': its elements. (Of a slice that is not sorted: no contract here.) (LAID: no walk: one application.) -/
theorem Tryz.slices_BinarySearch_int (b off n c : Nat) (zs : List Int) (x : Int) (w : World) (hz : n ≤ zs.length) (hbig : n < 4611686018427387904) (hc : ∀ j, j < zs.length → w.cell? ⟨b, off + j, none⟩ = some (.int .i64 (zs.getD j 0))) (hs : (zs.take n).Pairwise (· ≤ ·)) :
    Calls Tryz.prog 19 #[.slice (some ⟨b, off, none⟩) n c, .int .i64 x] w fun e w' => e = .returned (.tuple #[.int .i64 ((zs.take n).countP (· < x) : Nat), .bool ((zs.take n).contains x)]) ∧ ∃ q, w' = w.drewN q := Any.slices_BinarySearch_int Tryz.laysNm225 b off n c zs x w hz hbig hc hs
end Go.Proofs

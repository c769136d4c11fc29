/-
  Contracts of functions of the program, laid together.
-/
import Derived.Test.YtcenagpkfimkbaaGreatDoorTopSlotsM1
import Derived.Shelf.Sort.Plain
namespace Go.Proofs.YtcenagpkfimkbaaGreatDoor
open Go Go.RowKit Go.Shelf Go.Sort

def sortRen : Ren := ⟨fun | 189 => 134 | 125 => 176 | 257 => 175 | 128 => 209 | 129 => 210 | 294 => 200 | 295 => 201 | 296 => 202 | 297 => 203 | 298 => 204 | 299 => 205 | 216 => 206 | 300 => 207 | 301 => 208 | 328 => 219 | 329 => 220 | 330 => 221 | 331 => 222 | 332 => 223 | 215 => 224 | 343 => 232 | n => n, fun | 28 => 58 | 3 => 3 | 46 => 270 | 0 => 0 | 51 => 297 | 53 => 34 | 4 => 4 | 183 => 291 | 182 => 290 | 131 => 139 | 5 => 5 | 9 => 9 | 218 => 302 | 222 => 306 | 228 => 315 | 229 => 239 | n => n, fun n => n⟩
theorem sortLays : Lays.n189 Tryz.prog sortRen := {
  mixed := by kernel_rfl
  f125 := Tryz.func176.trans (congrArg some (by kernel_rfl))
  f128 := Tryz.func209.trans (congrArg some (by kernel_rfl))
  f129 := Tryz.func210.trans (congrArg some (by kernel_rfl))
  f189 := Tryz.func134.trans (congrArg some (by kernel_rfl))
  f215 := Tryz.func224.trans (congrArg some (by kernel_rfl))
  f216 := Tryz.func206.trans (congrArg some (by kernel_rfl))
  f257 := Tryz.func175.trans (congrArg some (by kernel_rfl))
  f294 := Tryz.func200.trans (congrArg some (by kernel_rfl))
  f295 := Tryz.func201.trans (congrArg some (by kernel_rfl))
  f296 := Tryz.func202.trans (congrArg some (by kernel_rfl))
  f297 := Tryz.func203.trans (congrArg some (by kernel_rfl))
  f298 := Tryz.func204.trans (congrArg some (by kernel_rfl))
  f299 := Tryz.func205.trans (congrArg some (by kernel_rfl))
  f300 := Tryz.func207.trans (congrArg some (by kernel_rfl))
  f301 := Tryz.func208.trans (congrArg some (by kernel_rfl))
  f328 := Tryz.func219.trans (congrArg some (by kernel_rfl))
  f329 := Tryz.func220.trans (congrArg some (by kernel_rfl))
  f330 := Tryz.func221.trans (congrArg some (by kernel_rfl))
  f331 := Tryz.func222.trans (congrArg some (by kernel_rfl))
  f332 := Tryz.func223.trans (congrArg some (by kernel_rfl))
  f343 := Tryz.func232.trans (congrArg some (by kernel_rfl))
  t0 := Tryz.underlying0
  a0 := Tryz.isAgg0
  z0 := Tryz.sizeOf0
  v0 := Tryz.zeroValue0
  t3 := Tryz.underlying3
  a3 := Tryz.isAgg3
  z3 := Tryz.sizeOf3
  v3 := Tryz.zeroValue3
  t4 := Tryz.underlying4
  a4 := Tryz.isAgg4
  z4 := Tryz.sizeOf4
  v4 := Tryz.zeroValue4
  t5 := Tryz.underlying5
  a5 := Tryz.isAgg5
  z5 := Tryz.sizeOf5
  v5 := Tryz.zeroValue5
  t9 := Tryz.underlying9
  a9 := Tryz.isAgg9
  z9 := Tryz.sizeOf9
  v9 := Tryz.zeroValue9
  t28 := Tryz.underlying58
  a28 := Tryz.isAgg58
  z28 := Tryz.sizeOf58
  v28 := Tryz.zeroValue58
  t46 := Tryz.underlying270
  a46 := Tryz.isAgg270
  z46 := Tryz.sizeOf270
  v46 := Tryz.zeroValue270
  t51 := Tryz.underlying297
  a51 := Tryz.isAgg297
  z51 := Tryz.sizeOf297
  v51 := Tryz.zeroValue297
  t53 := Tryz.underlying34
  a53 := Tryz.isAgg34
  z53 := Tryz.sizeOf34
  v53 := Tryz.zeroValue34
  t131 := Tryz.underlying139
  a131 := Tryz.isAgg139
  z131 := Tryz.sizeOf139
  v131 := Tryz.zeroValue139
  t182 := Tryz.underlying290
  a182 := Tryz.isAgg290
  z182 := Tryz.sizeOf290
  v182 := Tryz.zeroValue290
  t183 := Tryz.underlying291
  a183 := Tryz.isAgg291
  z183 := Tryz.sizeOf291
  v183 := Tryz.zeroValue291
  t218 := Tryz.underlying302
  a218 := Tryz.isAgg302
  z218 := Tryz.sizeOf302
  v218 := Tryz.zeroValue302
  t222 := Tryz.underlying306
  a222 := Tryz.isAgg306
  z222 := Tryz.sizeOf306
  v222 := Tryz.zeroValue306
  t228 := Tryz.underlying315
  a228 := Tryz.isAgg315
  z228 := Tryz.sizeOf315
  v228 := Tryz.zeroValue315
  t229 := Tryz.underlying239
  a229 := Tryz.isAgg239
  z229 := Tryz.sizeOf239
  v229 := Tryz.zeroValue239 }
theorem Sort_any (blk off cap : Nat) (zs : List Int) (w : World) (hH : Holds (Value.int .i64) w blk off zs.toArray) (hblk : blk < w.heap.size) (hsz : zs.length < 4611686018427387904) :
    Calls Tryz.prog 134 #[.slice (some ⟨blk, off, none⟩) zs.length cap] w fun e w' =>
      e = .returned (.tuple #[]) ∧ ∃ n os, w' = grow (putRow (Value.int .i64) (Sort.ahead w n) blk off (zs.mergeSort fun x y => decide (x ≤ y)).toArray) os :=
  Any.slices_Sort_int sortLays blk off cap zs w hH hblk hsz
end Go.Proofs.YtcenagpkfimkbaaGreatDoor

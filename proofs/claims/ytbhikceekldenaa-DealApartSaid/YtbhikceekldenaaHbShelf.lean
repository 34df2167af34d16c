/- Contracts of the library, laid at this program (the plain text of the shelf). -/
import Derived.Shelf.Small.Bits
import Derived.Shelf.Strconv.Itoa0
import Derived.Shelf.Sort.Plain
import Derived.Shelf.Bits.Mul64
import Derived.Shelf.Slices.Turned
import Derived.Ground.Names2Prog
import Derived.Shelf.Slices.Clone
import Derived.Shelf.Slices.SearchI
import Derived.Shelf.Slices.In.SortNone
import Derived.Ground.SlgnProg
import Derived.Shelf.SlicesE.Clone
import Derived.Test.YtbhikceekldenaaProg
namespace Go.Proofs.Ytbhikceekldenaa.Hb
set_option linter.unusedVariables false
open Go.Proofs Go.Shelf Go.Sort Go.RowKit Go.Lib
def sh_lays189_ren : Go.Shelf.Ren := ⟨fun | 189 => 56 | 125 => 82 | 257 => 81 | 128 => 103 | 129 => 104 | 294 => 94 | 295 => 95 | 296 => 96 | 297 => 97 | 298 => 98 | 299 => 99 | 216 => 100 | 300 => 101 | 301 => 102 | 328 => 111 | 329 => 112 | 330 => 113 | 331 => 114 | 332 => 115 | 215 => 116 | 343 => 118 | n => n, fun | 28 => 54 | 3 => 3 | 46 => 133 | 0 => 0 | 51 => 156 | 53 => 72 | 4 => 4 | 183 => 149 | 182 => 148 | 131 => 136 | 5 => 5 | 9 => 9 | 218 => 165 | 222 => 168 | 228 => 171 | 229 => 172 | n => n, fun | n => n⟩
theorem sh_lays189 : Go.Proofs.Lays.n189 Try.prog sh_lays189_ren := {
  mixed := by kernel_rfl
  f125 := Try.func82.trans (congrArg some (by kernel_rfl))
  f128 := Try.func103.trans (congrArg some (by kernel_rfl))
  f129 := Try.func104.trans (congrArg some (by kernel_rfl))
  f189 := Try.func56.trans (congrArg some (by kernel_rfl))
  f215 := Try.func116.trans (congrArg some (by kernel_rfl))
  f216 := Try.func100.trans (congrArg some (by kernel_rfl))
  f257 := Try.func81.trans (congrArg some (by kernel_rfl))
  f294 := Try.func94.trans (congrArg some (by kernel_rfl))
  f295 := Try.func95.trans (congrArg some (by kernel_rfl))
  f296 := Try.func96.trans (congrArg some (by kernel_rfl))
  f297 := Try.func97.trans (congrArg some (by kernel_rfl))
  f298 := Try.func98.trans (congrArg some (by kernel_rfl))
  f299 := Try.func99.trans (congrArg some (by kernel_rfl))
  f300 := Try.func101.trans (congrArg some (by kernel_rfl))
  f301 := Try.func102.trans (congrArg some (by kernel_rfl))
  f328 := Try.func111.trans (congrArg some (by kernel_rfl))
  f329 := Try.func112.trans (congrArg some (by kernel_rfl))
  f330 := Try.func113.trans (congrArg some (by kernel_rfl))
  f331 := Try.func114.trans (congrArg some (by kernel_rfl))
  f332 := Try.func115.trans (congrArg some (by kernel_rfl))
  f343 := Try.func118.trans (congrArg some (by kernel_rfl))
  t0 := Try.underlying0
  a0 := Try.isAgg0
  z0 := Try.sizeOf0
  v0 := Try.zeroValue0
  t3 := Try.underlying3
  a3 := Try.isAgg3
  z3 := Try.sizeOf3
  v3 := Try.zeroValue3
  t4 := Try.underlying4
  a4 := Try.isAgg4
  z4 := Try.sizeOf4
  v4 := Try.zeroValue4
  t5 := Try.underlying5
  a5 := Try.isAgg5
  z5 := Try.sizeOf5
  v5 := Try.zeroValue5
  t9 := Try.underlying9
  a9 := Try.isAgg9
  z9 := Try.sizeOf9
  v9 := Try.zeroValue9
  t28 := Try.underlying54
  a28 := Try.isAgg54
  z28 := Try.sizeOf54
  v28 := Try.zeroValue54
  t46 := Try.underlying133
  a46 := Try.isAgg133
  z46 := Try.sizeOf133
  v46 := Try.zeroValue133
  t51 := Try.underlying156
  a51 := Try.isAgg156
  z51 := Try.sizeOf156
  v51 := Try.zeroValue156
  t53 := Try.underlying72
  a53 := Try.isAgg72
  z53 := Try.sizeOf72
  v53 := Try.zeroValue72
  t131 := Try.underlying136
  a131 := Try.isAgg136
  z131 := Try.sizeOf136
  v131 := Try.zeroValue136
  t182 := Try.underlying148
  a182 := Try.isAgg148
  z182 := Try.sizeOf148
  v182 := Try.zeroValue148
  t183 := Try.underlying149
  a183 := Try.isAgg149
  z183 := Try.sizeOf149
  v183 := Try.zeroValue149
  t218 := Try.underlying165
  a218 := Try.isAgg165
  z218 := Try.sizeOf165
  v218 := Try.zeroValue165
  t222 := Try.underlying168
  a222 := Try.isAgg168
  z222 := Try.sizeOf168
  v222 := Try.zeroValue168
  t228 := Try.underlying171
  a228 := Try.isAgg171
  z228 := Try.sizeOf171
  v228 := Try.zeroValue171
  t229 := Try.underlying172
  a229 := Try.isAgg172
  z229 := Try.sizeOf172
  v229 := Try.zeroValue172 }
open Go.Sort Go.RowKit in
theorem sh_slices_Sort_int (blk off cap : Nat) (zs : List Int) (w : World) (hH : Holds (Value.int .i64) w blk off zs.toArray) (hblk : blk < w.heap.size) (hsz : zs.length < 4611686018427387904) :
    Calls Try.prog 56 #[.slice (some ⟨blk, off, none⟩) zs.length cap] w fun e w' =>
      e = .returned (.tuple #[]) ∧ ∃ n os, w' = grow (putRow (Value.int .i64) (Sort.ahead w n) blk off (zs.mergeSort fun x y => decide (x ≤ y)).toArray) os := Any.slices_Sort_int sh_lays189 blk off cap zs w hH hblk hsz
def sh_laysNm215_ren : Go.Shelf.Ren := ⟨fun | 15 => 55 | n => n, fun | 22 => 54 | 3 => 3 | 4 => 4 | n => n, fun | n => n⟩
theorem sh_laysNm215 : Go.Proofs.Lays2.n15 Try.prog sh_laysNm215_ren := {
  mixed := by kernel_rfl
  f15 := Try.func55.trans (congrArg some (by kernel_rfl))
  t3 := Try.underlying3
  a3 := Try.isAgg3
  z3 := Try.sizeOf3
  v3 := Try.zeroValue3
  t4 := Try.underlying4
  a4 := Try.isAgg4
  z4 := Try.sizeOf4
  v4 := Try.zeroValue4
  t22 := Try.underlying54
  a22 := Try.isAgg54
  z22 := Try.sizeOf54
  v22 := Try.zeroValue54
  i3 := by kernel_rfl }
open Go.RowKit Go.Lib in
theorem sh_slices_Clone_int (b off n c : Nat) (zs : List Int) (w : World) (hz : n ≤ zs.length) (hbig : n * 8 ≤ 140737488355328) (hc : ∀ j, j < zs.length → w.cell? ⟨b, off + j, none⟩ = some (.int .i64 (zs.getD j 0))) :
    Calls Try.prog 55 #[.slice (some ⟨b, off, none⟩) n c] w fun e w' => ∃ v', e = .returned v' ∧ w'.ownsRow w.heap.size 3 1 v' n ((zs.take n).map (Value.int .i64)) ∧ v' ≠ .slice none 0 0 ∧ Below w.heap.size w w' := Any.slices_Clone_int sh_laysNm215 b off n c zs w hz hbig hc
open Go.RowKit Go.Lib in
theorem sh_slices_Clone_int_nil (n c : Nat) (w : World) :
    Calls Try.prog 55 #[.slice none n c] w fun e w' => e = .returned (.slice none 0 0) ∧ w' = w := Any.slices_Clone_int_nil sh_laysNm215 n c w
open Go.RowKit Go.Lib in
theorem sh_slices_Clone_int_zero (a : Addr) (c : Nat) (w : World) :
    Calls Try.prog 55 #[.slice (some a) 0 c] w fun e w' => ∃ v', e = .returned v' ∧ w'.ownsRow w.heap.size 3 1 v' 0 [] ∧ v' ≠ .slice none 0 0 ∧ Below w.heap.size w w' := Any.slices_Clone_int_zero sh_laysNm215 a c w
open Go.RowKit Go.Sort in
theorem sh_slices_Sort_int_none (p : Option Addr) (cap : Nat) (w : World) :
    Calls Try.prog 56 #[.slice p 0 cap] w fun e w' => e = .returned (.tuple #[]) ∧ w' = w := Any.slices_Sort_int_none sh_lays189 p cap w
end Go.Proofs.Ytbhikceekldenaa.Hb

/- What functions of the program compute: lemmas. -/
import Derived.Test.YtjicfdolcieliaaAmEv
import Derived.Test.YtjicfdolcieliaaProg
import Derived.KernelRfl
import Derived.Shelf.Sort.Plain
import Derived.Shelf.Slices.Clone
import Derived.Shelf.SlicesE.Clone
import Derived.Shelf.Slices.CompactI
import Derived.Shelf.Slices.SearchI
import Derived.Shelf.Slices.Cells
import Derived.Shelf.Slices.In.SortNone
set_option linter.unusedSimpArgs false
set_option linter.unusedVariables false
set_option linter.unusedSectionVars false


namespace Go.Proofs
open Go.Shelf
def Try.laysNm220_ren : Go.Shelf.Ren := ⟨fun | 20 => 26 | n => n,fun | 22 => 22 | 3 => 3 | 4 => 4 | 0 => 0 | n => n,fun | n => n⟩
theorem Try.laysNm220 : Go.Proofs.Lays2.n20 Try.prog Try.laysNm220_ren := {
 mixed := by kernel_rfl
 f20 := Try.func26.trans (congrArg some (by kernel_rfl))
 t0 := Try.underlying0
 a0 := Try.isAgg0
 z0 := Try.sizeOf0
 v0 := Try.zeroValue0
 t3 := Try.underlying3
 a3 := Try.isAgg3
 z3 := Try.sizeOf3
 v3 := Try.zeroValue3
 t4 := Try.underlying4
 a4 := Try.isAgg4
 z4 := Try.sizeOf4
 v4 := Try.zeroValue4
 t22 := Try.underlying22
 a22 := Try.isAgg22
 z22 := Try.sizeOf22
 v22 := Try.zeroValue22
 i3 := by kernel_rfl }
open Go.RowKit Go.Lib Go.Sort in
theorem Try.slices_Compact_int (blk off cap : Nat) (zs : List Int) (w : World) (hH : Holds (Value.int .i64) w blk off zs.toArray) (hsz : zs.length ≤ 9223372036854775807) (hcap : zs.length ≤ cap) :
 Calls Try.prog 26 #[.slice (some ⟨blk,off,none⟩) zs.length cap] w fun e w' => e = .returned (.slice (some ⟨blk,off,none⟩) (Lib.compact zs).length cap) ∧ ∃ q,w' = putRow (Value.int .i64) (Sort.ahead w q) blk off (Lib.compact zs ++ List.replicate (zs.length - (Lib.compact zs).length) 0).toArray := Any.slices_Compact_int Try.laysNm220 blk off cap zs w hH hsz hcap
open Go.RowKit Go.Lib Go.Sort in
theorem Try.slices_Compact_int_empty (a : Option Addr) (cap : Nat) (w : World) :
 Calls Try.prog 26 #[.slice a 0 cap] w fun e w' => e = .returned (.slice a 0 cap) ∧ w' = w := Any.slices_Compact_int_empty Try.laysNm220 a cap w
def Try.lays189_ren : Go.Shelf.Ren := ⟨fun | 189 => 47 | 125 => 55 | 257 => 54 | 128 => 65 | 129 => 66 | 294 => 57 | 295 => 58 | 296 => 59 | 297 => 60 | 298 => 61 | 299 => 62 | 216 => 49 | 300 => 63 | 301 => 64 | 328 => 67 | 329 => 68 | 330 => 69 | 331 => 70 | 332 => 71 | 215 => 56 | 343 => 72 | n => n,fun | 28 => 22 | 3 => 3 | 46 => 26 | 0 => 0 | 51 => 95 | 53 => 38 | 4 => 4 | 183 => 89 | 182 => 88 | 131 => 64 | 5 => 5 | 9 => 9 | 218 => 97 | 222 => 100 | 228 => 102 | 229 => 103 | n => n,fun | n => n⟩
theorem Try.lays189 : Go.Proofs.Lays.n189 Try.prog Try.lays189_ren := {
 mixed := by kernel_rfl
 f125 := Try.func55.trans (congrArg some (by kernel_rfl))
 f128 := Try.func65.trans (congrArg some (by kernel_rfl))
 f129 := Try.func66.trans (congrArg some (by kernel_rfl))
 f189 := Try.func47.trans (congrArg some (by kernel_rfl))
 f215 := Try.func56.trans (congrArg some (by kernel_rfl))
 f216 := Try.func49.trans (congrArg some (by kernel_rfl))
 f257 := Try.func54.trans (congrArg some (by kernel_rfl))
 f294 := Try.func57.trans (congrArg some (by kernel_rfl))
 f295 := Try.func58.trans (congrArg some (by kernel_rfl))
 f296 := Try.func59.trans (congrArg some (by kernel_rfl))
 f297 := Try.func60.trans (congrArg some (by kernel_rfl))
 f298 := Try.func61.trans (congrArg some (by kernel_rfl))
 f299 := Try.func62.trans (congrArg some (by kernel_rfl))
 f300 := Try.func63.trans (congrArg some (by kernel_rfl))
 f301 := Try.func64.trans (congrArg some (by kernel_rfl))
 f328 := Try.func67.trans (congrArg some (by kernel_rfl))
 f329 := Try.func68.trans (congrArg some (by kernel_rfl))
 f330 := Try.func69.trans (congrArg some (by kernel_rfl))
 f331 := Try.func70.trans (congrArg some (by kernel_rfl))
 f332 := Try.func71.trans (congrArg some (by kernel_rfl))
 f343 := Try.func72.trans (congrArg some (by kernel_rfl))
 t0 := Try.underlying0
 a0 := Try.isAgg0
 z0 := Try.sizeOf0
 v0 := Try.zeroValue0
 t3 := Try.underlying3
 a3 := Try.isAgg3
 z3 := Try.sizeOf3
 v3 := Try.zeroValue3
 t4 := Try.underlying4
 a4 := Try.isAgg4
 z4 := Try.sizeOf4
 v4 := Try.zeroValue4
 t5 := Try.underlying5
 a5 := Try.isAgg5
 z5 := Try.sizeOf5
 v5 := Try.zeroValue5
 t9 := Try.underlying9
 a9 := Try.isAgg9
 z9 := Try.sizeOf9
 v9 := Try.zeroValue9
 t28 := Try.underlying22
 a28 := Try.isAgg22
 z28 := Try.sizeOf22
 v28 := Try.zeroValue22
 t46 := Try.underlying26
 a46 := Try.isAgg26
 z46 := Try.sizeOf26
 v46 := Try.zeroValue26
 t51 := Try.underlying95
 a51 := Try.isAgg95
 z51 := Try.sizeOf95
 v51 := Try.zeroValue95
 t53 := Try.underlying38
 a53 := Try.isAgg38
 z53 := Try.sizeOf38
 v53 := Try.zeroValue38
 t131 := Try.underlying64
 a131 := Try.isAgg64
 z131 := Try.sizeOf64
 v131 := Try.zeroValue64
 t182 := Try.underlying88
 a182 := Try.isAgg88
 z182 := Try.sizeOf88
 v182 := Try.zeroValue88
 t183 := Try.underlying89
 a183 := Try.isAgg89
 z183 := Try.sizeOf89
 v183 := Try.zeroValue89
 t218 := Try.underlying97
 a218 := Try.isAgg97
 z218 := Try.sizeOf97
 v218 := Try.zeroValue97
 t222 := Try.underlying100
 a222 := Try.isAgg100
 z222 := Try.sizeOf100
 v222 := Try.zeroValue100
 t228 := Try.underlying102
 a228 := Try.isAgg102
 z228 := Try.sizeOf102
 v228 := Try.zeroValue102
 t229 := Try.underlying103
 a229 := Try.isAgg103
 z229 := Try.sizeOf103
 v229 := Try.zeroValue103 }
open Go.Sort Go.RowKit in
theorem Try.slices_Sort_int (blk off cap : Nat) (zs : List Int) (w : World) (hH : Holds (Value.int .i64) w blk off zs.toArray) (hblk : blk < w.heap.size) (hsz : zs.length < 4611686018427387904) :
 Calls Try.prog 47 #[.slice (some ⟨blk,off,none⟩) zs.length cap] w fun e w' =>
  e = .returned (.tuple #[]) ∧ ∃ n os,w' = grow (putRow (Value.int .i64) (Sort.ahead w n) blk off (zs.mergeSort fun x y => decide (x ≤ y)).toArray) os := Any.slices_Sort_int Try.lays189 blk off cap zs w hH hblk hsz
open Go.RowKit Go.Sort in
theorem Try.slices_Sort_int_none (p : Option Addr) (cap : Nat) (w : World) :
 Calls Try.prog 47 #[.slice p 0 cap] w fun e w' => e = .returned (.tuple #[]) ∧ w' = w := Any.slices_Sort_int_none Try.lays189 p cap w
def Try.laysNm216_ren : Go.Shelf.Ren := ⟨fun | 16 => 29 | n => n,fun | 24 => 28 | 9 => 9 | 4 => 4 | n => n,fun | n => n⟩
theorem Try.laysNm216 : Go.Proofs.Lays2.n16 Try.prog Try.laysNm216_ren := {
 mixed := by kernel_rfl
 f16 := Try.func29.trans (congrArg some (by kernel_rfl))
 t4 := Try.underlying4
 a4 := Try.isAgg4
 z4 := Try.sizeOf4
 v4 := Try.zeroValue4
 t9 := Try.underlying9
 a9 := Try.isAgg9
 z9 := Try.sizeOf9
 v9 := Try.zeroValue9
 t24 := Try.underlying28
 a24 := Try.isAgg28
 z24 := Try.sizeOf28
 v24 := Try.zeroValue28
 i9 := by kernel_rfl }
open Go.RowKit Go.Lib in
theorem Try.slices_Clone_string (b off n c : Nat) (zs : List ByteArray) (w : World) (hz : n ≤ zs.length) (hbig : n * 16 ≤ 140737488355328) (hc : ∀ j,j < zs.length → w.cell? ⟨b,off + j,none⟩ = some (.string (zs.getD j ByteArray.empty))) :
 Calls Try.prog 29 #[.slice (some ⟨b,off,none⟩) n c] w fun e w' => ∃ v',e = .returned v' ∧ w'.ownsRow w.heap.size 9 1 v' n ((zs.take n).map (Value.string)) ∧ v' ≠ .slice none 0 0 ∧ Below w.heap.size w w' := Any.slices_Clone_string Try.laysNm216 b off n c zs w hz hbig hc
open Go.RowKit Go.Lib in
theorem Try.slices_Clone_string_nil (n c : Nat) (w : World) :
 Calls Try.prog 29 #[.slice none n c] w fun e w' => e = .returned (.slice none 0 0) ∧ w' = w := Any.slices_Clone_string_nil Try.laysNm216 n c w
open Go.RowKit Go.Lib in
theorem Try.slices_Clone_string_zero (a : Addr) (c : Nat) (w : World) :
 Calls Try.prog 29 #[.slice (some a) 0 c] w fun e w' => ∃ v',e = .returned v' ∧ w'.ownsRow w.heap.size 9 1 v' 0 [] ∧ v' ≠ .slice none 0 0 ∧ Below w.heap.size w w' := Any.slices_Clone_string_zero Try.laysNm216 a c w
def Try.laysSlE041_f34_ren : Go.Shelf.Ren := ⟨fun | 41 => 34 | n => n,fun | 22 => 36 | 23 => 38 | 4 => 4 | n => n,fun | n => n⟩
theorem Try.laysSlE041_f34 : Go.Proofs.SlLaysE0.n41 Try.prog Try.laysSlE041_f34_ren := {
 mixed := by kernel_rfl
 f41 := ⟨Try.f34.name,by decide,Try.func34.trans (congrArg some (by kernel_rfl))⟩
 t4 := Try.underlying4
 a4 := Try.isAgg4
 z4 := Try.sizeOf4
 v4 := Try.zeroValue4
 t22 := Try.underlying36
 a22 := Try.isAgg36
 z22 := Try.sizeOf36
 v22 := Try.zeroValue36 }
open Go.RowKit Go.Lib in
theorem Try.slices_Clone_f34 (i0 : TypeInfo) (z : Value) (size bytes : Nat) (hi : Try.prog.info? 38 = some i0) (hz0 : i0.zero = some z) (hz1 : i0.size = size) (hz2 : i0.bytes = bytes) (hzs : z.cells.size = size) (hsz : 0 < size) (z23 : ∀ w,(Go.sizeOf 38).run Try.prog w = .ok size w) (b off n c : Nat) (news : List Value) (w : World) (hl : news.length = n * size) (hn : n ≤ maxLen) (hbig : n * bytes ≤ 140737488355328) (hc : ∀ j u,news[j]? = some u → w.cell? ⟨b,off + j,none⟩ = some u) (h1 : ∀ u ∈ news,u.oneCell' = true) :
 Calls Try.prog 34 #[.slice (some ⟨b,off,none⟩) n c] w fun e w' => ∃ v',e = .returned v' ∧ w'.ownsRow w.heap.size 38 size v' n news ∧ v' ≠ .slice none 0 0 ∧ Below w.heap.size w w' := AnyE.slices_Clone Try.laysSlE041_f34 i0 z size bytes hi hz0 hz1 hz2 hzs hsz z23 b off n c news w hl hn hbig hc h1
open Go.RowKit Go.Lib in
theorem Try.slices_Clone_nil_f34 (n c : Nat) (w : World) :
 Calls Try.prog 34 #[.slice none n c] w fun e w' => e = .returned (.slice none 0 0) ∧ w' = w := AnyE.slices_Clone_nil Try.laysSlE041_f34 n c w
end Go.Proofs

/- Plain programs of the functions of the program and lemmas about what they compute. -/
import Derived.Test.YtjedjjooidohhaaAmEv
import Derived.Test.YtjedjjooidohhaaProg
import Derived.KernelRfl
import Derived.Shelf.Sort.Plain
import Derived.Shelf.Slices.Clone
import Derived.Shelf.Slices.CompactI
import Derived.Shelf.Slices.CompactS
import Derived.Shelf.Slices.SearchI
import Derived.Shelf.Slices.Cells
import Derived.Shelf.Slices.In.SortNone
set_option linter.unusedSimpArgs false
set_option linter.unusedVariables false
set_option linter.unusedSectionVars false
namespace Go.Proofs.Ytjedjjooidohhaa
open Go Am
set_option maxRecDepth 100000
def NT : Tab := [
  (3, ⟨1, 8, true, true, false, none, none, (some .i64), false, false, (some (.int .i64 0)), [], none⟩),
  (9, ⟨1, 16, true, true, false, none, none, none, true, false, (some (.string ⟨⟨[]⟩⟩)), [], none⟩),
  (25, ⟨1, 24, true, true, false, (some 9), none, none, false, false, (some (.slice none 0 0)), [], none⟩),
  (57, ⟨1, 24, true, true, false, (some 59), none, none, false, false, (some (.slice none 0 0)), [], none⟩),
  (59, ⟨3, 48, true, true, true, none, none, none, false, false, (some (.agg #[(.int .i64 0), (.string ⟨⟨[]⟩⟩), (.slice none 0 0)])), [(0, 3), (1, 9), (2, 57)], (some [(0, 1), (1, 1), (2, 1)])⟩)]
theorem Ntok : TOK Try.prog NT := tok_of (by kernel_rfl)
def NSG : SGlob := []
def Nsg0 : Sig := ⟨116, 4, [⟨false, true, 9, 1, (.v 0), []⟩], [(.own 0), (.agg [(.atm (.v 1)), (.atm (.v 2)), (.atm (.v 3))])], 1, [⟨false, true, 9, 1, (.v 0), []⟩], (.own 0), true, []⟩
def Nsg1 : Sig := ⟨127, 3, [], [(.agg [(.atm (.v 0)), (.atm (.v 1)), (.atm (.v 2))])], 1, [], (.atm (.v 0)), false, []⟩
def Nsigs : List Sig := [Nsg0, Nsg1]
/- 0:formula.names -/
def Nan0 : Ann := (.s none .z (.s none .z (.s none (.s none .z (.b (.l ⟨2, [(1, .junk), (3, .junk), (4, .junk), (7, .junk), (8, .junk), (14, .junk), (17, (.atm (.v 0)))], [(0, ⟨false, true, 9, 1, (.v 1), []⟩)], 2, []⟩ .z))) .z)))
def Nir0p0 : IR :=
 (.op (.bin .lss false) [(.v 6), (.v 5)]
 (.ite (.v 8)
  (.op (.row 3) [(.v 3), (.v 6)]
  (.call 0 1 false [0] [(.v 7), (.v 9), (.v 10), (.v 11)]
  (.op (.bin .add false) [(.v 6), (.c (.int .i64 1))]
  (.jump 0 [(.v 13), (.v 12)]))))
 (.ret [(.v 7)])))
def Nir0 : IR :=
 (.call 1 1 false [] [(.v 1), (.v 2), (.v 3)]
 (.ite (.v 4)
  (.op (.mk 1 1) [(.v 2)]
  (.op (.app 1 16) [(.v 0), (.v 5)]
  (.ret [(.v 6)])))
 (.op .lenL [(.v 3)]
 (.loop 2 [(.c (.int .i64 0)), (.v 0)] Nir0p0))))
theorem Nrd0 : readFn NT NSG Nsigs 3000 Nsg0 Try.f116 Nan0 = some Nir0 := by kernel_rfl
/- 1:formula.atom -/
def Nan1 : Ann := .z
def Nir1 : IR :=
 (.op (.bin .eql false) [(.v 0), (.c (.int .i64 3))]
 (.ite (.v 3)
  (.op .lenL [(.v 2)]
  (.op (.bin .eql false) [(.v 4), (.c (.int .i64 0))]
  (.ret [(.v 5)])))
 (.ret [(.c (.bool false))])))
theorem Nrd1 : readFn NT NSG Nsigs 3000 Nsg1 Try.f127 Nan1 = some Nir1 := by kernel_rfl
def Ntbl : List TE := [.ir Nir0, .ir Nir1]
theorem Ntbl_ok {G : Glob} : TLok Try.prog G NT NSG Nsigs 0 Ntbl := ⟨⟨Nsg0, Try.f116, Nan0, 3000, rfl, Try.func116, Nrd0⟩,
  ⟨Nsg1, Try.f127, Nan1, 3000, rfl, Try.func127, Nrd1⟩, trivial⟩

def Ntb : Nat → TE := tbOf Ntbl
theorem Ntb_ok {G : Glob} : TabOK Try.prog G NT NSG Nsigs Ntb := tabOK_of Ntbl_ok
theorem Ngok {G : Glob} : GOK G NSG := ⟨(fun g cs h => by cases h), (fun g cs h => by cases h)⟩
end Go.Proofs.Ytjedjjooidohhaa

namespace Go.Proofs
open Go.Shelf
def Try.lays190_ren : Go.Shelf.Ren := ⟨fun | 190 => 117 | 125 => 90 | 258 => 128 | 128 => 109 | 129 => 110 | 302 => 130 | 303 => 131 | 304 => 132 | 305 => 133 | 306 => 134 | 307 => 135 | 308 => 136 | 309 => 137 | 310 => 138 | 333 => 139 | 329 => 123 | 330 => 124 | 334 => 140 | 335 => 141 | 336 => 142 | 344 => 143 | n => n, fun | 31 => 25 | 9 => 9 | 3 => 3 | 46 => 37 | 0 => 0 | 51 => 127 | 53 => 30 | 4 => 4 | 183 => 121 | 182 => 120 | 131 => 76 | 5 => 5 | 218 => 131 | 222 => 134 | 228 => 137 | 229 => 138 | n => n, fun | n => n⟩
theorem Try.lays190 : Go.Proofs.Lays.n190 Try.prog Try.lays190_ren := {
  mixed := by kernel_rfl
  f125 := Try.func90.trans (congrArg some (by kernel_rfl))
  f128 := Try.func109.trans (congrArg some (by kernel_rfl))
  f129 := Try.func110.trans (congrArg some (by kernel_rfl))
  f190 := Try.func117.trans (congrArg some (by kernel_rfl))
  f258 := Try.func128.trans (congrArg some (by kernel_rfl))
  f302 := Try.func130.trans (congrArg some (by kernel_rfl))
  f303 := Try.func131.trans (congrArg some (by kernel_rfl))
  f304 := Try.func132.trans (congrArg some (by kernel_rfl))
  f305 := Try.func133.trans (congrArg some (by kernel_rfl))
  f306 := Try.func134.trans (congrArg some (by kernel_rfl))
  f307 := Try.func135.trans (congrArg some (by kernel_rfl))
  f308 := Try.func136.trans (congrArg some (by kernel_rfl))
  f309 := Try.func137.trans (congrArg some (by kernel_rfl))
  f310 := Try.func138.trans (congrArg some (by kernel_rfl))
  f329 := Try.func123.trans (congrArg some (by kernel_rfl))
  f330 := Try.func124.trans (congrArg some (by kernel_rfl))
  f333 := Try.func139.trans (congrArg some (by kernel_rfl))
  f334 := Try.func140.trans (congrArg some (by kernel_rfl))
  f335 := Try.func141.trans (congrArg some (by kernel_rfl))
  f336 := Try.func142.trans (congrArg some (by kernel_rfl))
  f344 := Try.func143.trans (congrArg some (by kernel_rfl))
  t0 := Try.underlying0
  a0 := Try.isAgg0
  z0 := Try.sizeOf0
  v0 := Try.zeroValue0
  t3 := Try.underlying3
  a3 := Try.isAgg3
  z3 := Try.sizeOf3
  v3 := Try.zeroValue3
  t4 := Try.underlying4
  a4 := Try.isAgg4
  z4 := Try.sizeOf4
  v4 := Try.zeroValue4
  t5 := Try.underlying5
  a5 := Try.isAgg5
  z5 := Try.sizeOf5
  v5 := Try.zeroValue5
  t9 := Try.underlying9
  a9 := Try.isAgg9
  z9 := Try.sizeOf9
  v9 := Try.zeroValue9
  t31 := Try.underlying25
  a31 := Try.isAgg25
  z31 := Try.sizeOf25
  v31 := Try.zeroValue25
  t46 := Try.underlying37
  a46 := Try.isAgg37
  z46 := Try.sizeOf37
  v46 := Try.zeroValue37
  t51 := Try.underlying127
  a51 := Try.isAgg127
  z51 := Try.sizeOf127
  v51 := Try.zeroValue127
  t53 := Try.underlying30
  a53 := Try.isAgg30
  z53 := Try.sizeOf30
  v53 := Try.zeroValue30
  t131 := Try.underlying76
  a131 := Try.isAgg76
  z131 := Try.sizeOf76
  v131 := Try.zeroValue76
  t182 := Try.underlying120
  a182 := Try.isAgg120
  z182 := Try.sizeOf120
  v182 := Try.zeroValue120
  t183 := Try.underlying121
  a183 := Try.isAgg121
  z183 := Try.sizeOf121
  v183 := Try.zeroValue121
  t218 := Try.underlying131
  a218 := Try.isAgg131
  z218 := Try.sizeOf131
  v218 := Try.zeroValue131
  t222 := Try.underlying134
  a222 := Try.isAgg134
  z222 := Try.sizeOf134
  v222 := Try.zeroValue134
  t228 := Try.underlying137
  a228 := Try.isAgg137
  z228 := Try.sizeOf137
  v228 := Try.zeroValue137
  t229 := Try.underlying138
  a229 := Try.isAgg138
  z229 := Try.sizeOf138
  v229 := Try.zeroValue138 }
open Go.Sort Go.RowKit in
theorem Try.slices_Sort_string (blk off cap : Nat) (ss : List (List UInt8)) (w : World) (hH : Holds encStr w blk off ss.toArray) (hblk : blk < w.heap.size) (hsz : ss.length < 4611686018427387904) :
    Calls Try.prog 117 #[.slice (some ⟨blk, off, none⟩) ss.length cap] w fun e w' =>
      e = .returned (.tuple #[]) ∧ ∃ n os, w' = grow (putRow encStr (Sort.ahead w n) blk off (ss.mergeSort fun x y => decide (x ≤ y)).toArray) os := Any.slices_Sort_string Try.lays190 blk off cap ss w hH hblk hsz
open Go.RowKit Go.Sort in
theorem Try.slices_Sort_string_none (p : Option Addr) (cap : Nat) (w : World) :
    Calls Try.prog 117 #[.slice p 0 cap] w fun e w' => e = .returned (.tuple #[]) ∧ w' = w := Any.slices_Sort_string_none Try.lays190 p cap w
def Try.lays194_ren : Go.Shelf.Ren := ⟨fun | 194 => 118 | n => n, fun | 31 => 25 | 9 => 9 | 3 => 3 | 4 => 4 | 0 => 0 | n => n, fun | n => n⟩
theorem Try.lays194 : Go.Proofs.Lays.n194 Try.prog Try.lays194_ren := {
  mixed := by kernel_rfl
  f194 := Try.func118.trans (congrArg some (by kernel_rfl))
  t0 := Try.underlying0
  a0 := Try.isAgg0
  z0 := Try.sizeOf0
  v0 := Try.zeroValue0
  t3 := Try.underlying3
  a3 := Try.isAgg3
  z3 := Try.sizeOf3
  v3 := Try.zeroValue3
  t4 := Try.underlying4
  a4 := Try.isAgg4
  z4 := Try.sizeOf4
  v4 := Try.zeroValue4
  t9 := Try.underlying9
  a9 := Try.isAgg9
  z9 := Try.sizeOf9
  v9 := Try.zeroValue9
  t31 := Try.underlying25
  a31 := Try.isAgg25
  z31 := Try.sizeOf25
  v31 := Try.zeroValue25 }
open Go.RowKit Go.Lib Go.Sort in
theorem Try.slices_Compact_string (blk off cap : Nat) (zs : List (List UInt8)) (w : World) (hH : Holds encStr w blk off zs.toArray) (hsz : zs.length ≤ 9223372036854775807) (hcap : zs.length ≤ cap) :
    Calls Try.prog 118 #[.slice (some ⟨blk, off, none⟩) zs.length cap] w fun e w' => e = .returned (.slice (some ⟨blk, off, none⟩) (Lib.compact zs).length cap) ∧ ∃ q, w' = putRow encStr (Sort.ahead w q) blk off (Lib.compact zs ++ List.replicate (zs.length - (Lib.compact zs).length) []).toArray := Any.slices_Compact_string Try.lays194 blk off cap zs w hH hsz hcap
open Go.RowKit Go.Lib Go.Sort in
theorem Try.slices_Compact_string_empty (a : Option Addr) (cap : Nat) (w : World) :
    Calls Try.prog 118 #[.slice a 0 cap] w fun e w' => e = .returned (.slice a 0 cap) ∧ w' = w := Any.slices_Compact_string_empty Try.lays194 a cap w
def Try.lays189_ren : Go.Shelf.Ren := ⟨fun | 189 => 74 | 125 => 90 | 257 => 89 | 128 => 109 | 129 => 110 | 294 => 101 | 295 => 102 | 296 => 103 | 297 => 104 | 298 => 105 | 299 => 106 | 216 => 76 | 300 => 107 | 301 => 108 | 328 => 122 | 329 => 123 | 330 => 124 | 331 => 125 | 332 => 126 | 215 => 91 | 343 => 129 | n => n, fun | 28 => 22 | 3 => 3 | 46 => 37 | 0 => 0 | 51 => 127 | 53 => 30 | 4 => 4 | 183 => 121 | 182 => 120 | 131 => 76 | 5 => 5 | 9 => 9 | 218 => 131 | 222 => 134 | 228 => 137 | 229 => 138 | n => n, fun | n => n⟩
theorem Try.lays189 : Go.Proofs.Lays.n189 Try.prog Try.lays189_ren := {
  mixed := by kernel_rfl
  f125 := Try.func90.trans (congrArg some (by kernel_rfl))
  f128 := Try.func109.trans (congrArg some (by kernel_rfl))
  f129 := Try.func110.trans (congrArg some (by kernel_rfl))
  f189 := Try.func74.trans (congrArg some (by kernel_rfl))
  f215 := Try.func91.trans (congrArg some (by kernel_rfl))
  f216 := Try.func76.trans (congrArg some (by kernel_rfl))
  f257 := Try.func89.trans (congrArg some (by kernel_rfl))
  f294 := Try.func101.trans (congrArg some (by kernel_rfl))
  f295 := Try.func102.trans (congrArg some (by kernel_rfl))
  f296 := Try.func103.trans (congrArg some (by kernel_rfl))
  f297 := Try.func104.trans (congrArg some (by kernel_rfl))
  f298 := Try.func105.trans (congrArg some (by kernel_rfl))
  f299 := Try.func106.trans (congrArg some (by kernel_rfl))
  f300 := Try.func107.trans (congrArg some (by kernel_rfl))
  f301 := Try.func108.trans (congrArg some (by kernel_rfl))
  f328 := Try.func122.trans (congrArg some (by kernel_rfl))
  f329 := Try.func123.trans (congrArg some (by kernel_rfl))
  f330 := Try.func124.trans (congrArg some (by kernel_rfl))
  f331 := Try.func125.trans (congrArg some (by kernel_rfl))
  f332 := Try.func126.trans (congrArg some (by kernel_rfl))
  f343 := Try.func129.trans (congrArg some (by kernel_rfl))
  t0 := Try.underlying0
  a0 := Try.isAgg0
  z0 := Try.sizeOf0
  v0 := Try.zeroValue0
  t3 := Try.underlying3
  a3 := Try.isAgg3
  z3 := Try.sizeOf3
  v3 := Try.zeroValue3
  t4 := Try.underlying4
  a4 := Try.isAgg4
  z4 := Try.sizeOf4
  v4 := Try.zeroValue4
  t5 := Try.underlying5
  a5 := Try.isAgg5
  z5 := Try.sizeOf5
  v5 := Try.zeroValue5
  t9 := Try.underlying9
  a9 := Try.isAgg9
  z9 := Try.sizeOf9
  v9 := Try.zeroValue9
  t28 := Try.underlying22
  a28 := Try.isAgg22
  z28 := Try.sizeOf22
  v28 := Try.zeroValue22
  t46 := Try.underlying37
  a46 := Try.isAgg37
  z46 := Try.sizeOf37
  v46 := Try.zeroValue37
  t51 := Try.underlying127
  a51 := Try.isAgg127
  z51 := Try.sizeOf127
  v51 := Try.zeroValue127
  t53 := Try.underlying30
  a53 := Try.isAgg30
  z53 := Try.sizeOf30
  v53 := Try.zeroValue30
  t131 := Try.underlying76
  a131 := Try.isAgg76
  z131 := Try.sizeOf76
  v131 := Try.zeroValue76
  t182 := Try.underlying120
  a182 := Try.isAgg120
  z182 := Try.sizeOf120
  v182 := Try.zeroValue120
  t183 := Try.underlying121
  a183 := Try.isAgg121
  z183 := Try.sizeOf121
  v183 := Try.zeroValue121
  t218 := Try.underlying131
  a218 := Try.isAgg131
  z218 := Try.sizeOf131
  v218 := Try.zeroValue131
  t222 := Try.underlying134
  a222 := Try.isAgg134
  z222 := Try.sizeOf134
  v222 := Try.zeroValue134
  t228 := Try.underlying137
  a228 := Try.isAgg137
  z228 := Try.sizeOf137
  v228 := Try.zeroValue137
  t229 := Try.underlying138
  a229 := Try.isAgg138
  z229 := Try.sizeOf138
  v229 := Try.zeroValue138 }
open Go.Sort Go.RowKit in
theorem Try.slices_Sort_int (blk off cap : Nat) (zs : List Int) (w : World) (hH : Holds (Value.int .i64) w blk off zs.toArray) (hblk : blk < w.heap.size) (hsz : zs.length < 4611686018427387904) :
    Calls Try.prog 74 #[.slice (some ⟨blk, off, none⟩) zs.length cap] w fun e w' =>
      e = .returned (.tuple #[]) ∧ ∃ n os, w' = grow (putRow (Value.int .i64) (Sort.ahead w n) blk off (zs.mergeSort fun x y => decide (x ≤ y)).toArray) os := Any.slices_Sort_int Try.lays189 blk off cap zs w hH hblk hsz
open Go.RowKit Go.Sort in
theorem Try.slices_Sort_int_none (p : Option Addr) (cap : Nat) (w : World) :
    Calls Try.prog 74 #[.slice p 0 cap] w fun e w' => e = .returned (.tuple #[]) ∧ w' = w := Any.slices_Sort_int_none Try.lays189 p cap w
def Try.laysNm220_ren : Go.Shelf.Ren := ⟨fun | 20 => 47 | n => n, fun | 22 => 22 | 3 => 3 | 4 => 4 | 0 => 0 | n => n, fun | n => n⟩
theorem Try.laysNm220 : Go.Proofs.Lays2.n20 Try.prog Try.laysNm220_ren := {
  mixed := by kernel_rfl
  f20 := Try.func47.trans (congrArg some (by kernel_rfl))
  t0 := Try.underlying0
  a0 := Try.isAgg0
  z0 := Try.sizeOf0
  v0 := Try.zeroValue0
  t3 := Try.underlying3
  a3 := Try.isAgg3
  z3 := Try.sizeOf3
  v3 := Try.zeroValue3
  t4 := Try.underlying4
  a4 := Try.isAgg4
  z4 := Try.sizeOf4
  v4 := Try.zeroValue4
  t22 := Try.underlying22
  a22 := Try.isAgg22
  z22 := Try.sizeOf22
  v22 := Try.zeroValue22
  i3 := by kernel_rfl }
open Go.RowKit Go.Lib Go.Sort in
theorem Try.slices_Compact_int (blk off cap : Nat) (zs : List Int) (w : World) (hH : Holds (Value.int .i64) w blk off zs.toArray) (hsz : zs.length ≤ 9223372036854775807) (hcap : zs.length ≤ cap) :
    Calls Try.prog 47 #[.slice (some ⟨blk, off, none⟩) zs.length cap] w fun e w' => e = .returned (.slice (some ⟨blk, off, none⟩) (Lib.compact zs).length cap) ∧ ∃ q, w' = putRow (Value.int .i64) (Sort.ahead w q) blk off (Lib.compact zs ++ List.replicate (zs.length - (Lib.compact zs).length) 0).toArray := Any.slices_Compact_int Try.laysNm220 blk off cap zs w hH hsz hcap
open Go.RowKit Go.Lib Go.Sort in
theorem Try.slices_Compact_int_empty (a : Option Addr) (cap : Nat) (w : World) :
    Calls Try.prog 47 #[.slice a 0 cap] w fun e w' => e = .returned (.slice a 0 cap) ∧ w' = w := Any.slices_Compact_int_empty Try.laysNm220 a cap w
def Try.laysNm216_ren : Go.Shelf.Ren := ⟨fun | 16 => 50 | n => n, fun | 24 => 25 | 9 => 9 | 4 => 4 | n => n, fun | n => n⟩
theorem Try.laysNm216 : Go.Proofs.Lays2.n16 Try.prog Try.laysNm216_ren := {
  mixed := by kernel_rfl
  f16 := Try.func50.trans (congrArg some (by kernel_rfl))
  t4 := Try.underlying4
  a4 := Try.isAgg4
  z4 := Try.sizeOf4
  v4 := Try.zeroValue4
  t9 := Try.underlying9
  a9 := Try.isAgg9
  z9 := Try.sizeOf9
  v9 := Try.zeroValue9
  t24 := Try.underlying25
  a24 := Try.isAgg25
  z24 := Try.sizeOf25
  v24 := Try.zeroValue25
  i9 := by kernel_rfl }
open Go.RowKit Go.Lib in
theorem Try.slices_Clone_string (b off n c : Nat) (zs : List ByteArray) (w : World) (hz : n ≤ zs.length) (hbig : n * 16 ≤ 140737488355328) (hc : ∀ j, j < zs.length → w.cell? ⟨b, off + j, none⟩ = some (.string (zs.getD j ByteArray.empty))) :
    Calls Try.prog 50 #[.slice (some ⟨b, off, none⟩) n c] w fun e w' => ∃ v', e = .returned v' ∧ w'.ownsRow w.heap.size 9 1 v' n ((zs.take n).map (Value.string)) ∧ v' ≠ .slice none 0 0 ∧ Below w.heap.size w w' := Any.slices_Clone_string Try.laysNm216 b off n c zs w hz hbig hc
open Go.RowKit Go.Lib in
theorem Try.slices_Clone_string_nil (n c : Nat) (w : World) :
    Calls Try.prog 50 #[.slice none n c] w fun e w' => e = .returned (.slice none 0 0) ∧ w' = w := Any.slices_Clone_string_nil Try.laysNm216 n c w
open Go.RowKit Go.Lib in
theorem Try.slices_Clone_string_zero (a : Addr) (c : Nat) (w : World) :
    Calls Try.prog 50 #[.slice (some a) 0 c] w fun e w' => ∃ v', e = .returned v' ∧ w'.ownsRow w.heap.size 9 1 v' 0 [] ∧ v' ≠ .slice none 0 0 ∧ Below w.heap.size w w' := Any.slices_Clone_string_zero Try.laysNm216 a c w
end Go.Proofs

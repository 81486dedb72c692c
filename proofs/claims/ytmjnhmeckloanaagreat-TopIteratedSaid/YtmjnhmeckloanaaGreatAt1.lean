/- What functions of the program compute: lemmas. -/
import Derived.Test.YtmjnhmeckloanaaGreatAmEv
import Derived.Test.YtmjnhmeckloanaaGreatProg
import Derived.KernelRfl
import Derived.Shelf.Sort.Plain
import Derived.Shelf.Slices.Clone
import Derived.Shelf.Slices.CompactI
import Derived.Shelf.Slices.CompactS
import Derived.Shelf.Slices.SearchI
import Derived.Shelf.Slices.Cells
import Derived.Shelf.Slices.In.SortNone
set_option linter.unusedSimpArgs false
set_option linter.unusedVariables false
set_option linter.unusedSectionVars false
namespace Go.Proofs.YtmjnhmeckloanaaGreat
open Go Am
set_option maxRecDepth 100000
def NT : Tab := [
 (3, ⟨1, 8, true, true, false, none, none, (some .i64), false, false, (some (.int .i64 0)), [], none⟩),
 (9, ⟨1, 16, true, true, false, none, none, none, true, false, (some (.string ⟨⟨[]⟩⟩)), [], none⟩),
 (26, ⟨1, 24, true, true, false, (some 9), none, none, false, false, (some (.slice none 0 0)), [], none⟩),
 (31, ⟨1, 24, true, true, false, (some 33), none, none, false, false, (some (.slice none 0 0)), [], none⟩),
 (33, ⟨3, 48, true, true, true, none, none, none, false, false, (some (.agg #[(.int .i64 0), (.string ⟨⟨[]⟩⟩), (.slice none 0 0)])), [(0, 3), (1, 9), (2, 31)], (some [(0, 1), (1, 1), (2, 1)])⟩)]
theorem Ntok : TOK Tryz.prog NT := tok_of (by kernel_rfl)
def NSG : SGlob := []
def Nsg0 : Sig := ⟨95, 4, [⟨false, true, 9, 1, (.v 0), []⟩], [(.own 0), (.agg [(.atm (.v 1)), (.atm (.v 2)), (.atm (.v 3))])], 1, [⟨false, true, 9, 1, (.v 0), []⟩], (.own 0), true, []⟩
def Nsg1 : Sig := ⟨130, 3, [], [(.agg [(.atm (.v 0)), (.atm (.v 1)), (.atm (.v 2))])], 1, [], (.atm (.v 0)), false, []⟩
def Nsigs : List Sig := [Nsg0, Nsg1]
def Nan0 : Ann := (.s none .z (.s none .z (.s none (.s none .z (.b (.l ⟨2, [(1, .junk), (3, .junk), (4, .junk), (7, .junk), (8, .junk), (14, .junk), (17, (.atm (.v 0)))], [(0, ⟨false, true, 9, 1, (.v 1), []⟩)], 2, []⟩ .z))) .z)))
def Nir0p0 : IR :=
 (.op (.bin .lss false) [(.v 6), (.v 5)]
 (.ite (.v 8)
  (.op (.row 3) [(.v 3), (.v 6)]
  (.call 0 1 false [0] [(.v 7), (.v 9), (.v 10), (.v 11)]
  (.op (.bin .add false) [(.v 6), (.c (.int .i64 1))]
  (.jump 0 [(.v 13), (.v 12)]))))
 (.ret [(.v 7)])))
def Nir0 : IR :=
 (.call 1 1 false [] [(.v 1), (.v 2), (.v 3)]
 (.ite (.v 4)
  (.op (.mk 1 1) [(.v 2)]
  (.op (.app 1 16) [(.v 0), (.v 5)]
  (.ret [(.v 6)])))
 (.op .lenL [(.v 3)]
 (.loop 2 [(.c (.int .i64 0)), (.v 0)] Nir0p0))))
theorem Nrd0 : readFn NT NSG Nsigs 3000 Nsg0 Tryz.f95 Nan0 = some Nir0 := by kernel_rfl
def Nan1 : Ann := .z
def Nir1 : IR :=
 (.op (.bin .eql false) [(.v 0), (.c (.int .i64 3))]
 (.ite (.v 3)
  (.op .lenL [(.v 2)]
  (.op (.bin .eql false) [(.v 4), (.c (.int .i64 0))]
  (.ret [(.v 5)])))
 (.ret [(.c (.bool false))])))
theorem Nrd1 : readFn NT NSG Nsigs 3000 Nsg1 Tryz.f130 Nan1 = some Nir1 := by kernel_rfl
def Ntbl : List TE := [.ir Nir0, .ir Nir1]
theorem Ntbl_ok {G : Glob} : TLok Tryz.prog G NT NSG Nsigs 0 Ntbl := ⟨⟨Nsg0, Tryz.f95, Nan0, 3000, rfl, Tryz.func95, Nrd0⟩,
 ⟨Nsg1, Tryz.f130, Nan1, 3000, rfl, Tryz.func130, Nrd1⟩, trivial⟩
def Ntb : Nat → TE := tbOf Ntbl
theorem Ntb_ok {G : Glob} : TabOK Tryz.prog G NT NSG Nsigs Ntb := tabOK_of Ntbl_ok
theorem Ngok {G : Glob} : GOK G NSG := ⟨(fun g cs h => by cases h), (fun g cs h => by cases h)⟩
end Go.Proofs.YtmjnhmeckloanaaGreat

namespace Go.Proofs
open Go.Shelf
def Tryz.lays190_ren : Go.Shelf.Ren := ⟨fun | 190 => 96 | 125 => 132 | 258 => 131 | 128 => 174 | 129 => 175 | 302 => 165 | 303 => 166 | 304 => 167 | 305 => 168 | 306 => 169 | 307 => 170 | 308 => 171 | 309 => 172 | 310 => 173 | 333 => 182 | 329 => 183 | 330 => 184 | 334 => 185 | 335 => 186 | 336 => 187 | 344 => 196 | n => n, fun | 31 => 26 | 9 => 9 | 3 => 3 | 46 => 83 | 0 => 0 | 51 => 184 | 53 => 35 | 4 => 4 | 183 => 177 | 182 => 176 | 131 => 151 | 5 => 5 | 218 => 188 | 222 => 192 | 228 => 199 | 229 => 121 | n => n, fun | n => n⟩
theorem Tryz.lays190 : Go.Proofs.Lays.n190 Tryz.prog Tryz.lays190_ren := {
 mixed := by kernel_rfl
 f125 := Tryz.func132.trans (congrArg some (by kernel_rfl))
 f128 := Tryz.func174.trans (congrArg some (by kernel_rfl))
 f129 := Tryz.func175.trans (congrArg some (by kernel_rfl))
 f190 := Tryz.func96.trans (congrArg some (by kernel_rfl))
 f258 := Tryz.func131.trans (congrArg some (by kernel_rfl))
 f302 := Tryz.func165.trans (congrArg some (by kernel_rfl))
 f303 := Tryz.func166.trans (congrArg some (by kernel_rfl))
 f304 := Tryz.func167.trans (congrArg some (by kernel_rfl))
 f305 := Tryz.func168.trans (congrArg some (by kernel_rfl))
 f306 := Tryz.func169.trans (congrArg some (by kernel_rfl))
 f307 := Tryz.func170.trans (congrArg some (by kernel_rfl))
 f308 := Tryz.func171.trans (congrArg some (by kernel_rfl))
 f309 := Tryz.func172.trans (congrArg some (by kernel_rfl))
 f310 := Tryz.func173.trans (congrArg some (by kernel_rfl))
 f329 := Tryz.func183.trans (congrArg some (by kernel_rfl))
 f330 := Tryz.func184.trans (congrArg some (by kernel_rfl))
 f333 := Tryz.func182.trans (congrArg some (by kernel_rfl))
 f334 := Tryz.func185.trans (congrArg some (by kernel_rfl))
 f335 := Tryz.func186.trans (congrArg some (by kernel_rfl))
 f336 := Tryz.func187.trans (congrArg some (by kernel_rfl))
 f344 := Tryz.func196.trans (congrArg some (by kernel_rfl))
 t0 := Tryz.underlying0
 a0 := Tryz.isAgg0
 z0 := Tryz.sizeOf0
 v0 := Tryz.zeroValue0
 t3 := Tryz.underlying3
 a3 := Tryz.isAgg3
 z3 := Tryz.sizeOf3
 v3 := Tryz.zeroValue3
 t4 := Tryz.underlying4
 a4 := Tryz.isAgg4
 z4 := Tryz.sizeOf4
 v4 := Tryz.zeroValue4
 t5 := Tryz.underlying5
 a5 := Tryz.isAgg5
 z5 := Tryz.sizeOf5
 v5 := Tryz.zeroValue5
 t9 := Tryz.underlying9
 a9 := Tryz.isAgg9
 z9 := Tryz.sizeOf9
 v9 := Tryz.zeroValue9
 t31 := Tryz.underlying26
 a31 := Tryz.isAgg26
 z31 := Tryz.sizeOf26
 v31 := Tryz.zeroValue26
 t46 := Tryz.underlying83
 a46 := Tryz.isAgg83
 z46 := Tryz.sizeOf83
 v46 := Tryz.zeroValue83
 t51 := Tryz.underlying184
 a51 := Tryz.isAgg184
 z51 := Tryz.sizeOf184
 v51 := Tryz.zeroValue184
 t53 := Tryz.underlying35
 a53 := Tryz.isAgg35
 z53 := Tryz.sizeOf35
 v53 := Tryz.zeroValue35
 t131 := Tryz.underlying151
 a131 := Tryz.isAgg151
 z131 := Tryz.sizeOf151
 v131 := Tryz.zeroValue151
 t182 := Tryz.underlying176
 a182 := Tryz.isAgg176
 z182 := Tryz.sizeOf176
 v182 := Tryz.zeroValue176
 t183 := Tryz.underlying177
 a183 := Tryz.isAgg177
 z183 := Tryz.sizeOf177
 v183 := Tryz.zeroValue177
 t218 := Tryz.underlying188
 a218 := Tryz.isAgg188
 z218 := Tryz.sizeOf188
 v218 := Tryz.zeroValue188
 t222 := Tryz.underlying192
 a222 := Tryz.isAgg192
 z222 := Tryz.sizeOf192
 v222 := Tryz.zeroValue192
 t228 := Tryz.underlying199
 a228 := Tryz.isAgg199
 z228 := Tryz.sizeOf199
 v228 := Tryz.zeroValue199
 t229 := Tryz.underlying121
 a229 := Tryz.isAgg121
 z229 := Tryz.sizeOf121
 v229 := Tryz.zeroValue121 }
open Go.Sort Go.RowKit in
theorem Tryz.slices_Sort_string (blk off cap : Nat) (ss : List (List UInt8)) (w : World) (hH : Holds encStr w blk off ss.toArray) (hblk : blk < w.heap.size) (hsz : ss.length < 4611686018427387904) :
 Calls Tryz.prog 96 #[.slice (some ⟨blk, off, none⟩) ss.length cap] w fun e w' =>
  e = .returned (.tuple #[]) ∧ ∃ n os, w' = grow (putRow encStr (Sort.ahead w n) blk off (ss.mergeSort fun x y => decide (x ≤ y)).toArray) os := Any.slices_Sort_string Tryz.lays190 blk off cap ss w hH hblk hsz
open Go.RowKit Go.Sort in
theorem Tryz.slices_Sort_string_none (p : Option Addr) (cap : Nat) (w : World) :
 Calls Tryz.prog 96 #[.slice p 0 cap] w fun e w' => e = .returned (.tuple #[]) ∧ w' = w := Any.slices_Sort_string_none Tryz.lays190 p cap w
def Tryz.lays194_ren : Go.Shelf.Ren := ⟨fun | 194 => 97 | n => n, fun | 31 => 26 | 9 => 9 | 3 => 3 | 4 => 4 | 0 => 0 | n => n, fun | n => n⟩
theorem Tryz.lays194 : Go.Proofs.Lays.n194 Tryz.prog Tryz.lays194_ren := {
 mixed := by kernel_rfl
 f194 := Tryz.func97.trans (congrArg some (by kernel_rfl))
 t0 := Tryz.underlying0
 a0 := Tryz.isAgg0
 z0 := Tryz.sizeOf0
 v0 := Tryz.zeroValue0
 t3 := Tryz.underlying3
 a3 := Tryz.isAgg3
 z3 := Tryz.sizeOf3
 v3 := Tryz.zeroValue3
 t4 := Tryz.underlying4
 a4 := Tryz.isAgg4
 z4 := Tryz.sizeOf4
 v4 := Tryz.zeroValue4
 t9 := Tryz.underlying9
 a9 := Tryz.isAgg9
 z9 := Tryz.sizeOf9
 v9 := Tryz.zeroValue9
 t31 := Tryz.underlying26
 a31 := Tryz.isAgg26
 z31 := Tryz.sizeOf26
 v31 := Tryz.zeroValue26 }
open Go.RowKit Go.Lib Go.Sort in
theorem Tryz.slices_Compact_string (blk off cap : Nat) (zs : List (List UInt8)) (w : World) (hH : Holds encStr w blk off zs.toArray) (hsz : zs.length ≤ 9223372036854775807) (hcap : zs.length ≤ cap) :
 Calls Tryz.prog 97 #[.slice (some ⟨blk, off, none⟩) zs.length cap] w fun e w' => e = .returned (.slice (some ⟨blk, off, none⟩) (Lib.compact zs).length cap) ∧ ∃ q, w' = putRow encStr (Sort.ahead w q) blk off (Lib.compact zs ++ List.replicate (zs.length - (Lib.compact zs).length) []).toArray := Any.slices_Compact_string Tryz.lays194 blk off cap zs w hH hsz hcap
open Go.RowKit Go.Lib Go.Sort in
theorem Tryz.slices_Compact_string_empty (a : Option Addr) (cap : Nat) (w : World) :
 Calls Tryz.prog 97 #[.slice a 0 cap] w fun e w' => e = .returned (.slice a 0 cap) ∧ w' = w := Any.slices_Compact_string_empty Tryz.lays194 a cap w
def Tryz.laysNm220_ren : Go.Shelf.Ren := ⟨fun | 20 => 114 | n => n, fun | 22 => 22 | 3 => 3 | 4 => 4 | 0 => 0 | n => n, fun | n => n⟩
theorem Tryz.laysNm220 : Go.Proofs.Lays2.n20 Tryz.prog Tryz.laysNm220_ren := {
 mixed := by kernel_rfl
 f20 := Tryz.func114.trans (congrArg some (by kernel_rfl))
 t0 := Tryz.underlying0
 a0 := Tryz.isAgg0
 z0 := Tryz.sizeOf0
 v0 := Tryz.zeroValue0
 t3 := Tryz.underlying3
 a3 := Tryz.isAgg3
 z3 := Tryz.sizeOf3
 v3 := Tryz.zeroValue3
 t4 := Tryz.underlying4
 a4 := Tryz.isAgg4
 z4 := Tryz.sizeOf4
 v4 := Tryz.zeroValue4
 t22 := Tryz.underlying22
 a22 := Tryz.isAgg22
 z22 := Tryz.sizeOf22
 v22 := Tryz.zeroValue22
 i3 := by kernel_rfl }
open Go.RowKit Go.Lib Go.Sort in
theorem Tryz.slices_Compact_int (blk off cap : Nat) (zs : List Int) (w : World) (hH : Holds (Value.int .i64) w blk off zs.toArray) (hsz : zs.length ≤ 9223372036854775807) (hcap : zs.length ≤ cap) :
 Calls Tryz.prog 114 #[.slice (some ⟨blk, off, none⟩) zs.length cap] w fun e w' => e = .returned (.slice (some ⟨blk, off, none⟩) (Lib.compact zs).length cap) ∧ ∃ q, w' = putRow (Value.int .i64) (Sort.ahead w q) blk off (Lib.compact zs ++ List.replicate (zs.length - (Lib.compact zs).length) 0).toArray := Any.slices_Compact_int Tryz.laysNm220 blk off cap zs w hH hsz hcap
open Go.RowKit Go.Lib Go.Sort in
theorem Tryz.slices_Compact_int_empty (a : Option Addr) (cap : Nat) (w : World) :
 Calls Tryz.prog 114 #[.slice a 0 cap] w fun e w' => e = .returned (.slice a 0 cap) ∧ w' = w := Any.slices_Compact_int_empty Tryz.laysNm220 a cap w
def Tryz.lays189_ren : Go.Shelf.Ren := ⟨fun | 189 => 137 | 125 => 132 | 257 => 177 | 128 => 174 | 129 => 175 | 294 => 188 | 295 => 189 | 296 => 190 | 297 => 191 | 298 => 192 | 299 => 193 | 216 => 139 | 300 => 194 | 301 => 195 | 328 => 197 | 329 => 183 | 330 => 184 | 331 => 198 | 332 => 199 | 215 => 113 | 343 => 200 | n => n, fun | 28 => 22 | 3 => 3 | 46 => 83 | 0 => 0 | 51 => 184 | 53 => 35 | 4 => 4 | 183 => 177 | 182 => 176 | 131 => 151 | 5 => 5 | 9 => 9 | 218 => 188 | 222 => 192 | 228 => 199 | 229 => 121 | n => n, fun | n => n⟩
theorem Tryz.lays189 : Go.Proofs.Lays.n189 Tryz.prog Tryz.lays189_ren := {
 mixed := by kernel_rfl
 f125 := Tryz.func132.trans (congrArg some (by kernel_rfl))
 f128 := Tryz.func174.trans (congrArg some (by kernel_rfl))
 f129 := Tryz.func175.trans (congrArg some (by kernel_rfl))
 f189 := Tryz.func137.trans (congrArg some (by kernel_rfl))
 f215 := Tryz.func113.trans (congrArg some (by kernel_rfl))
 f216 := Tryz.func139.trans (congrArg some (by kernel_rfl))
 f257 := Tryz.func177.trans (congrArg some (by kernel_rfl))
 f294 := Tryz.func188.trans (congrArg some (by kernel_rfl))
 f295 := Tryz.func189.trans (congrArg some (by kernel_rfl))
 f296 := Tryz.func190.trans (congrArg some (by kernel_rfl))
 f297 := Tryz.func191.trans (congrArg some (by kernel_rfl))
 f298 := Tryz.func192.trans (congrArg some (by kernel_rfl))
 f299 := Tryz.func193.trans (congrArg some (by kernel_rfl))
 f300 := Tryz.func194.trans (congrArg some (by kernel_rfl))
 f301 := Tryz.func195.trans (congrArg some (by kernel_rfl))
 f328 := Tryz.func197.trans (congrArg some (by kernel_rfl))
 f329 := Tryz.func183.trans (congrArg some (by kernel_rfl))
 f330 := Tryz.func184.trans (congrArg some (by kernel_rfl))
 f331 := Tryz.func198.trans (congrArg some (by kernel_rfl))
 f332 := Tryz.func199.trans (congrArg some (by kernel_rfl))
 f343 := Tryz.func200.trans (congrArg some (by kernel_rfl))
 t0 := Tryz.underlying0
 a0 := Tryz.isAgg0
 z0 := Tryz.sizeOf0
 v0 := Tryz.zeroValue0
 t3 := Tryz.underlying3
 a3 := Tryz.isAgg3
 z3 := Tryz.sizeOf3
 v3 := Tryz.zeroValue3
 t4 := Tryz.underlying4
 a4 := Tryz.isAgg4
 z4 := Tryz.sizeOf4
 v4 := Tryz.zeroValue4
 t5 := Tryz.underlying5
 a5 := Tryz.isAgg5
 z5 := Tryz.sizeOf5
 v5 := Tryz.zeroValue5
 t9 := Tryz.underlying9
 a9 := Tryz.isAgg9
 z9 := Tryz.sizeOf9
 v9 := Tryz.zeroValue9
 t28 := Tryz.underlying22
 a28 := Tryz.isAgg22
 z28 := Tryz.sizeOf22
 v28 := Tryz.zeroValue22
 t46 := Tryz.underlying83
 a46 := Tryz.isAgg83
 z46 := Tryz.sizeOf83
 v46 := Tryz.zeroValue83
 t51 := Tryz.underlying184
 a51 := Tryz.isAgg184
 z51 := Tryz.sizeOf184
 v51 := Tryz.zeroValue184
 t53 := Tryz.underlying35
 a53 := Tryz.isAgg35
 z53 := Tryz.sizeOf35
 v53 := Tryz.zeroValue35
 t131 := Tryz.underlying151
 a131 := Tryz.isAgg151
 z131 := Tryz.sizeOf151
 v131 := Tryz.zeroValue151
 t182 := Tryz.underlying176
 a182 := Tryz.isAgg176
 z182 := Tryz.sizeOf176
 v182 := Tryz.zeroValue176
 t183 := Tryz.underlying177
 a183 := Tryz.isAgg177
 z183 := Tryz.sizeOf177
 v183 := Tryz.zeroValue177
 t218 := Tryz.underlying188
 a218 := Tryz.isAgg188
 z218 := Tryz.sizeOf188
 v218 := Tryz.zeroValue188
 t222 := Tryz.underlying192
 a222 := Tryz.isAgg192
 z222 := Tryz.sizeOf192
 v222 := Tryz.zeroValue192
 t228 := Tryz.underlying199
 a228 := Tryz.isAgg199
 z228 := Tryz.sizeOf199
 v228 := Tryz.zeroValue199
 t229 := Tryz.underlying121
 a229 := Tryz.isAgg121
 z229 := Tryz.sizeOf121
 v229 := Tryz.zeroValue121 }
open Go.Sort Go.RowKit in
theorem Tryz.slices_Sort_int (blk off cap : Nat) (zs : List Int) (w : World) (hH : Holds (Value.int .i64) w blk off zs.toArray) (hblk : blk < w.heap.size) (hsz : zs.length < 4611686018427387904) :
 Calls Tryz.prog 137 #[.slice (some ⟨blk, off, none⟩) zs.length cap] w fun e w' =>
  e = .returned (.tuple #[]) ∧ ∃ n os, w' = grow (putRow (Value.int .i64) (Sort.ahead w n) blk off (zs.mergeSort fun x y => decide (x ≤ y)).toArray) os := Any.slices_Sort_int Tryz.lays189 blk off cap zs w hH hblk hsz
open Go.RowKit Go.Sort in
theorem Tryz.slices_Sort_int_none (p : Option Addr) (cap : Nat) (w : World) :
 Calls Tryz.prog 137 #[.slice p 0 cap] w fun e w' => e = .returned (.tuple #[]) ∧ w' = w := Any.slices_Sort_int_none Tryz.lays189 p cap w
def Tryz.laysNm216_ren : Go.Shelf.Ren := ⟨fun | 16 => 117 | n => n, fun | 24 => 26 | 9 => 9 | 4 => 4 | n => n, fun | n => n⟩
theorem Tryz.laysNm216 : Go.Proofs.Lays2.n16 Tryz.prog Tryz.laysNm216_ren := {
 mixed := by kernel_rfl
 f16 := Tryz.func117.trans (congrArg some (by kernel_rfl))
 t4 := Tryz.underlying4
 a4 := Tryz.isAgg4
 z4 := Tryz.sizeOf4
 v4 := Tryz.zeroValue4
 t9 := Tryz.underlying9
 a9 := Tryz.isAgg9
 z9 := Tryz.sizeOf9
 v9 := Tryz.zeroValue9
 t24 := Tryz.underlying26
 a24 := Tryz.isAgg26
 z24 := Tryz.sizeOf26
 v24 := Tryz.zeroValue26
 i9 := by kernel_rfl }
open Go.RowKit Go.Lib in
theorem Tryz.slices_Clone_string (b off n c : Nat) (zs : List ByteArray) (w : World) (hz : n ≤ zs.length) (hbig : n * 16 ≤ 140737488355328) (hc : ∀ j, j < zs.length → w.cell? ⟨b, off + j, none⟩ = some (.string (zs.getD j ByteArray.empty))) :
 Calls Tryz.prog 117 #[.slice (some ⟨b, off, none⟩) n c] w fun e w' => ∃ v', e = .returned v' ∧ w'.ownsRow w.heap.size 9 1 v' n ((zs.take n).map (Value.string)) ∧ v' ≠ .slice none 0 0 ∧ Below w.heap.size w w' := Any.slices_Clone_string Tryz.laysNm216 b off n c zs w hz hbig hc
open Go.RowKit Go.Lib in
theorem Tryz.slices_Clone_string_nil (n c : Nat) (w : World) :
 Calls Tryz.prog 117 #[.slice none n c] w fun e w' => e = .returned (.slice none 0 0) ∧ w' = w := Any.slices_Clone_string_nil Tryz.laysNm216 n c w
open Go.RowKit Go.Lib in
theorem Tryz.slices_Clone_string_zero (a : Addr) (c : Nat) (w : World) :
 Calls Tryz.prog 117 #[.slice (some a) 0 c] w fun e w' => ∃ v', e = .returned v' ∧ w'.ownsRow w.heap.size 9 1 v' 0 [] ∧ v' ≠ .slice none 0 0 ∧ Below w.heap.size w w' := Any.slices_Clone_string_zero Tryz.laysNm216 a c w
end Go.Proofs

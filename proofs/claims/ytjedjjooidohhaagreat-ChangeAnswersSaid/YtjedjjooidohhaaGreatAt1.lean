/- Plain programs of the functions of the program and lemmas about what they compute. -/
import Derived.Test.YtjedjjooidohhaaGreatAmEv
import Derived.Test.YtjedjjooidohhaaGreatProg
import Derived.KernelRfl
import Derived.Shelf.Sort.Plain
import Derived.Shelf.Slices.Clone
import Derived.Shelf.Slices.CompactI
import Derived.Shelf.Slices.CompactS
import Derived.Shelf.Slices.SearchI
import Derived.Shelf.Slices.Cells
import Derived.Shelf.Slices.In.SortNone
set_option linter.unusedSimpArgs false
set_option linter.unusedVariables false
set_option linter.unusedSectionVars false
namespace Go.Proofs.YtjedjjooidohhaaGreat
open Go Am
set_option maxRecDepth 100000
def NT : Tab := [
  (3, ⟨1, 8, true, true, false, none, none, (some .i64), false, false, (some (.int .i64 0)), [], none⟩),
  (9, ⟨1, 16, true, true, false, none, none, none, true, false, (some (.string ⟨⟨[]⟩⟩)), [], none⟩),
  (22, ⟨1, 24, true, true, false, (some 9), none, none, false, false, (some (.slice none 0 0)), [], none⟩),
  (27, ⟨1, 24, true, true, false, (some 29), none, none, false, false, (some (.slice none 0 0)), [], none⟩),
  (29, ⟨3, 48, true, true, true, none, none, none, false, false, (some (.agg #[(.int .i64 0), (.string ⟨⟨[]⟩⟩), (.slice none 0 0)])), [(0, 3), (1, 9), (2, 27)], (some [(0, 1), (1, 1), (2, 1)])⟩)]
theorem Ntok : TOK Tryz.prog NT := tok_of (by kernel_rfl)
def NSG : SGlob := []
def Nsg0 : Sig := ⟨97, 4, [⟨false, true, 9, 1, (.v 0), []⟩], [(.own 0), (.agg [(.atm (.v 1)), (.atm (.v 2)), (.atm (.v 3))])], 1, [⟨false, true, 9, 1, (.v 0), []⟩], (.own 0), true, []⟩
def Nsg1 : Sig := ⟨118, 3, [], [(.agg [(.atm (.v 0)), (.atm (.v 1)), (.atm (.v 2))])], 1, [], (.atm (.v 0)), false, []⟩
def Nsigs : List Sig := [Nsg0, Nsg1]
/- 0:formula.names -/
def Nan0 : Ann := (.s none .z (.s none .z (.s none (.s none .z (.b (.l ⟨2, [(1, .junk), (3, .junk), (4, .junk), (7, .junk), (8, .junk), (14, .junk), (17, (.atm (.v 0)))], [(0, ⟨false, true, 9, 1, (.v 1), []⟩)], 2, []⟩ .z))) .z)))
def Nir0p0 : IR :=
 (.op (.bin .lss false) [(.v 6), (.v 5)]
 (.ite (.v 8)
  (.op (.row 3) [(.v 3), (.v 6)]
  (.call 0 1 false [0] [(.v 7), (.v 9), (.v 10), (.v 11)]
  (.op (.bin .add false) [(.v 6), (.c (.int .i64 1))]
  (.jump 0 [(.v 13), (.v 12)]))))
 (.ret [(.v 7)])))
def Nir0 : IR :=
 (.call 1 1 false [] [(.v 1), (.v 2), (.v 3)]
 (.ite (.v 4)
  (.op (.mk 1 1) [(.v 2)]
  (.op (.app 1 16) [(.v 0), (.v 5)]
  (.ret [(.v 6)])))
 (.op .lenL [(.v 3)]
 (.loop 2 [(.c (.int .i64 0)), (.v 0)] Nir0p0))))
theorem Nrd0 : readFn NT NSG Nsigs 3000 Nsg0 Tryz.f97 Nan0 = some Nir0 := by kernel_rfl
/- 1:formula.atom -/
def Nan1 : Ann := .z
def Nir1 : IR :=
 (.op (.bin .eql false) [(.v 0), (.c (.int .i64 3))]
 (.ite (.v 3)
  (.op .lenL [(.v 2)]
  (.op (.bin .eql false) [(.v 4), (.c (.int .i64 0))]
  (.ret [(.v 5)])))
 (.ret [(.c (.bool false))])))
theorem Nrd1 : readFn NT NSG Nsigs 3000 Nsg1 Tryz.f118 Nan1 = some Nir1 := by kernel_rfl
def Ntbl : List TE := [.ir Nir0, .ir Nir1]
theorem Ntbl_ok {G : Glob} : TLok Tryz.prog G NT NSG Nsigs 0 Ntbl := ⟨⟨Nsg0, Tryz.f97, Nan0, 3000, rfl, Tryz.func97, Nrd0⟩,
  ⟨Nsg1, Tryz.f118, Nan1, 3000, rfl, Tryz.func118, Nrd1⟩, trivial⟩

def Ntb : Nat → TE := tbOf Ntbl
theorem Ntb_ok {G : Glob} : TabOK Tryz.prog G NT NSG Nsigs Ntb := tabOK_of Ntbl_ok
theorem Ngok {G : Glob} : GOK G NSG := ⟨(fun g cs h => by cases h), (fun g cs h => by cases h)⟩
end Go.Proofs.YtjedjjooidohhaaGreat

namespace Go.Proofs
open Go.Shelf
def Tryz.lays190_ren : Go.Shelf.Ren := ⟨fun | 190 => 98 | 125 => 116 | 258 => 119 | 128 => 130 | 129 => 131 | 302 => 132 | 303 => 133 | 304 => 134 | 305 => 135 | 306 => 136 | 307 => 137 | 308 => 138 | 309 => 139 | 310 => 140 | 333 => 146 | 329 => 142 | 330 => 143 | 334 => 147 | 335 => 148 | 336 => 149 | 344 => 151 | n => n, fun | 31 => 22 | 9 => 9 | 3 => 3 | 46 => 66 | 0 => 0 | 51 => 129 | 53 => 26 | 4 => 4 | 183 => 123 | 182 => 122 | 131 => 90 | 5 => 5 | 218 => 137 | 222 => 140 | 228 => 144 | 229 => 145 | n => n, fun | n => n⟩
theorem Tryz.lays190 : Go.Proofs.Lays.n190 Tryz.prog Tryz.lays190_ren := {
  mixed := by kernel_rfl
  f125 := Tryz.func116.trans (congrArg some (by kernel_rfl))
  f128 := Tryz.func130.trans (congrArg some (by kernel_rfl))
  f129 := Tryz.func131.trans (congrArg some (by kernel_rfl))
  f190 := Tryz.func98.trans (congrArg some (by kernel_rfl))
  f258 := Tryz.func119.trans (congrArg some (by kernel_rfl))
  f302 := Tryz.func132.trans (congrArg some (by kernel_rfl))
  f303 := Tryz.func133.trans (congrArg some (by kernel_rfl))
  f304 := Tryz.func134.trans (congrArg some (by kernel_rfl))
  f305 := Tryz.func135.trans (congrArg some (by kernel_rfl))
  f306 := Tryz.func136.trans (congrArg some (by kernel_rfl))
  f307 := Tryz.func137.trans (congrArg some (by kernel_rfl))
  f308 := Tryz.func138.trans (congrArg some (by kernel_rfl))
  f309 := Tryz.func139.trans (congrArg some (by kernel_rfl))
  f310 := Tryz.func140.trans (congrArg some (by kernel_rfl))
  f329 := Tryz.func142.trans (congrArg some (by kernel_rfl))
  f330 := Tryz.func143.trans (congrArg some (by kernel_rfl))
  f333 := Tryz.func146.trans (congrArg some (by kernel_rfl))
  f334 := Tryz.func147.trans (congrArg some (by kernel_rfl))
  f335 := Tryz.func148.trans (congrArg some (by kernel_rfl))
  f336 := Tryz.func149.trans (congrArg some (by kernel_rfl))
  f344 := Tryz.func151.trans (congrArg some (by kernel_rfl))
  t0 := Tryz.underlying0
  a0 := Tryz.isAgg0
  z0 := Tryz.sizeOf0
  v0 := Tryz.zeroValue0
  t3 := Tryz.underlying3
  a3 := Tryz.isAgg3
  z3 := Tryz.sizeOf3
  v3 := Tryz.zeroValue3
  t4 := Tryz.underlying4
  a4 := Tryz.isAgg4
  z4 := Tryz.sizeOf4
  v4 := Tryz.zeroValue4
  t5 := Tryz.underlying5
  a5 := Tryz.isAgg5
  z5 := Tryz.sizeOf5
  v5 := Tryz.zeroValue5
  t9 := Tryz.underlying9
  a9 := Tryz.isAgg9
  z9 := Tryz.sizeOf9
  v9 := Tryz.zeroValue9
  t31 := Tryz.underlying22
  a31 := Tryz.isAgg22
  z31 := Tryz.sizeOf22
  v31 := Tryz.zeroValue22
  t46 := Tryz.underlying66
  a46 := Tryz.isAgg66
  z46 := Tryz.sizeOf66
  v46 := Tryz.zeroValue66
  t51 := Tryz.underlying129
  a51 := Tryz.isAgg129
  z51 := Tryz.sizeOf129
  v51 := Tryz.zeroValue129
  t53 := Tryz.underlying26
  a53 := Tryz.isAgg26
  z53 := Tryz.sizeOf26
  v53 := Tryz.zeroValue26
  t131 := Tryz.underlying90
  a131 := Tryz.isAgg90
  z131 := Tryz.sizeOf90
  v131 := Tryz.zeroValue90
  t182 := Tryz.underlying122
  a182 := Tryz.isAgg122
  z182 := Tryz.sizeOf122
  v182 := Tryz.zeroValue122
  t183 := Tryz.underlying123
  a183 := Tryz.isAgg123
  z183 := Tryz.sizeOf123
  v183 := Tryz.zeroValue123
  t218 := Tryz.underlying137
  a218 := Tryz.isAgg137
  z218 := Tryz.sizeOf137
  v218 := Tryz.zeroValue137
  t222 := Tryz.underlying140
  a222 := Tryz.isAgg140
  z222 := Tryz.sizeOf140
  v222 := Tryz.zeroValue140
  t228 := Tryz.underlying144
  a228 := Tryz.isAgg144
  z228 := Tryz.sizeOf144
  v228 := Tryz.zeroValue144
  t229 := Tryz.underlying145
  a229 := Tryz.isAgg145
  z229 := Tryz.sizeOf145
  v229 := Tryz.zeroValue145 }
open Go.Sort Go.RowKit in
theorem Tryz.slices_Sort_string (blk off cap : Nat) (ss : List (List UInt8)) (w : World) (hH : Holds encStr w blk off ss.toArray) (hblk : blk < w.heap.size) (hsz : ss.length < 4611686018427387904) :
    Calls Tryz.prog 98 #[.slice (some ⟨blk, off, none⟩) ss.length cap] w fun e w' =>
      e = .returned (.tuple #[]) ∧ ∃ n os, w' = grow (putRow encStr (Sort.ahead w n) blk off (ss.mergeSort fun x y => decide (x ≤ y)).toArray) os := Any.slices_Sort_string Tryz.lays190 blk off cap ss w hH hblk hsz
open Go.RowKit Go.Sort in
theorem Tryz.slices_Sort_string_none (p : Option Addr) (cap : Nat) (w : World) :
    Calls Tryz.prog 98 #[.slice p 0 cap] w fun e w' => e = .returned (.tuple #[]) ∧ w' = w := Any.slices_Sort_string_none Tryz.lays190 p cap w
def Tryz.lays194_ren : Go.Shelf.Ren := ⟨fun | 194 => 99 | n => n, fun | 31 => 22 | 9 => 9 | 3 => 3 | 4 => 4 | 0 => 0 | n => n, fun | n => n⟩
theorem Tryz.lays194 : Go.Proofs.Lays.n194 Tryz.prog Tryz.lays194_ren := {
  mixed := by kernel_rfl
  f194 := Tryz.func99.trans (congrArg some (by kernel_rfl))
  t0 := Tryz.underlying0
  a0 := Tryz.isAgg0
  z0 := Tryz.sizeOf0
  v0 := Tryz.zeroValue0
  t3 := Tryz.underlying3
  a3 := Tryz.isAgg3
  z3 := Tryz.sizeOf3
  v3 := Tryz.zeroValue3
  t4 := Tryz.underlying4
  a4 := Tryz.isAgg4
  z4 := Tryz.sizeOf4
  v4 := Tryz.zeroValue4
  t9 := Tryz.underlying9
  a9 := Tryz.isAgg9
  z9 := Tryz.sizeOf9
  v9 := Tryz.zeroValue9
  t31 := Tryz.underlying22
  a31 := Tryz.isAgg22
  z31 := Tryz.sizeOf22
  v31 := Tryz.zeroValue22 }
open Go.RowKit Go.Lib Go.Sort in
theorem Tryz.slices_Compact_string (blk off cap : Nat) (zs : List (List UInt8)) (w : World) (hH : Holds encStr w blk off zs.toArray) (hsz : zs.length ≤ 9223372036854775807) (hcap : zs.length ≤ cap) :
    Calls Tryz.prog 99 #[.slice (some ⟨blk, off, none⟩) zs.length cap] w fun e w' => e = .returned (.slice (some ⟨blk, off, none⟩) (Lib.compact zs).length cap) ∧ ∃ q, w' = putRow encStr (Sort.ahead w q) blk off (Lib.compact zs ++ List.replicate (zs.length - (Lib.compact zs).length) []).toArray := Any.slices_Compact_string Tryz.lays194 blk off cap zs w hH hsz hcap
open Go.RowKit Go.Lib Go.Sort in
theorem Tryz.slices_Compact_string_empty (a : Option Addr) (cap : Nat) (w : World) :
    Calls Tryz.prog 99 #[.slice a 0 cap] w fun e w' => e = .returned (.slice a 0 cap) ∧ w' = w := Any.slices_Compact_string_empty Tryz.lays194 a cap w
def Tryz.lays189_ren : Go.Shelf.Ren := ⟨fun | 189 => 88 | 125 => 116 | 257 => 115 | 128 => 130 | 129 => 131 | 294 => 122 | 295 => 123 | 296 => 124 | 297 => 125 | 298 => 126 | 299 => 127 | 216 => 90 | 300 => 128 | 301 => 129 | 328 => 141 | 329 => 142 | 330 => 143 | 331 => 144 | 332 => 145 | 215 => 117 | 343 => 150 | n => n, fun | 28 => 23 | 3 => 3 | 46 => 66 | 0 => 0 | 51 => 129 | 53 => 26 | 4 => 4 | 183 => 123 | 182 => 122 | 131 => 90 | 5 => 5 | 9 => 9 | 218 => 137 | 222 => 140 | 228 => 144 | 229 => 145 | n => n, fun | n => n⟩
theorem Tryz.lays189 : Go.Proofs.Lays.n189 Tryz.prog Tryz.lays189_ren := {
  mixed := by kernel_rfl
  f125 := Tryz.func116.trans (congrArg some (by kernel_rfl))
  f128 := Tryz.func130.trans (congrArg some (by kernel_rfl))
  f129 := Tryz.func131.trans (congrArg some (by kernel_rfl))
  f189 := Tryz.func88.trans (congrArg some (by kernel_rfl))
  f215 := Tryz.func117.trans (congrArg some (by kernel_rfl))
  f216 := Tryz.func90.trans (congrArg some (by kernel_rfl))
  f257 := Tryz.func115.trans (congrArg some (by kernel_rfl))
  f294 := Tryz.func122.trans (congrArg some (by kernel_rfl))
  f295 := Tryz.func123.trans (congrArg some (by kernel_rfl))
  f296 := Tryz.func124.trans (congrArg some (by kernel_rfl))
  f297 := Tryz.func125.trans (congrArg some (by kernel_rfl))
  f298 := Tryz.func126.trans (congrArg some (by kernel_rfl))
  f299 := Tryz.func127.trans (congrArg some (by kernel_rfl))
  f300 := Tryz.func128.trans (congrArg some (by kernel_rfl))
  f301 := Tryz.func129.trans (congrArg some (by kernel_rfl))
  f328 := Tryz.func141.trans (congrArg some (by kernel_rfl))
  f329 := Tryz.func142.trans (congrArg some (by kernel_rfl))
  f330 := Tryz.func143.trans (congrArg some (by kernel_rfl))
  f331 := Tryz.func144.trans (congrArg some (by kernel_rfl))
  f332 := Tryz.func145.trans (congrArg some (by kernel_rfl))
  f343 := Tryz.func150.trans (congrArg some (by kernel_rfl))
  t0 := Tryz.underlying0
  a0 := Tryz.isAgg0
  z0 := Tryz.sizeOf0
  v0 := Tryz.zeroValue0
  t3 := Tryz.underlying3
  a3 := Tryz.isAgg3
  z3 := Tryz.sizeOf3
  v3 := Tryz.zeroValue3
  t4 := Tryz.underlying4
  a4 := Tryz.isAgg4
  z4 := Tryz.sizeOf4
  v4 := Tryz.zeroValue4
  t5 := Tryz.underlying5
  a5 := Tryz.isAgg5
  z5 := Tryz.sizeOf5
  v5 := Tryz.zeroValue5
  t9 := Tryz.underlying9
  a9 := Tryz.isAgg9
  z9 := Tryz.sizeOf9
  v9 := Tryz.zeroValue9
  t28 := Tryz.underlying23
  a28 := Tryz.isAgg23
  z28 := Tryz.sizeOf23
  v28 := Tryz.zeroValue23
  t46 := Tryz.underlying66
  a46 := Tryz.isAgg66
  z46 := Tryz.sizeOf66
  v46 := Tryz.zeroValue66
  t51 := Tryz.underlying129
  a51 := Tryz.isAgg129
  z51 := Tryz.sizeOf129
  v51 := Tryz.zeroValue129
  t53 := Tryz.underlying26
  a53 := Tryz.isAgg26
  z53 := Tryz.sizeOf26
  v53 := Tryz.zeroValue26
  t131 := Tryz.underlying90
  a131 := Tryz.isAgg90
  z131 := Tryz.sizeOf90
  v131 := Tryz.zeroValue90
  t182 := Tryz.underlying122
  a182 := Tryz.isAgg122
  z182 := Tryz.sizeOf122
  v182 := Tryz.zeroValue122
  t183 := Tryz.underlying123
  a183 := Tryz.isAgg123
  z183 := Tryz.sizeOf123
  v183 := Tryz.zeroValue123
  t218 := Tryz.underlying137
  a218 := Tryz.isAgg137
  z218 := Tryz.sizeOf137
  v218 := Tryz.zeroValue137
  t222 := Tryz.underlying140
  a222 := Tryz.isAgg140
  z222 := Tryz.sizeOf140
  v222 := Tryz.zeroValue140
  t228 := Tryz.underlying144
  a228 := Tryz.isAgg144
  z228 := Tryz.sizeOf144
  v228 := Tryz.zeroValue144
  t229 := Tryz.underlying145
  a229 := Tryz.isAgg145
  z229 := Tryz.sizeOf145
  v229 := Tryz.zeroValue145 }
open Go.Sort Go.RowKit in
theorem Tryz.slices_Sort_int (blk off cap : Nat) (zs : List Int) (w : World) (hH : Holds (Value.int .i64) w blk off zs.toArray) (hblk : blk < w.heap.size) (hsz : zs.length < 4611686018427387904) :
    Calls Tryz.prog 88 #[.slice (some ⟨blk, off, none⟩) zs.length cap] w fun e w' =>
      e = .returned (.tuple #[]) ∧ ∃ n os, w' = grow (putRow (Value.int .i64) (Sort.ahead w n) blk off (zs.mergeSort fun x y => decide (x ≤ y)).toArray) os := Any.slices_Sort_int Tryz.lays189 blk off cap zs w hH hblk hsz
open Go.RowKit Go.Sort in
theorem Tryz.slices_Sort_int_none (p : Option Addr) (cap : Nat) (w : World) :
    Calls Tryz.prog 88 #[.slice p 0 cap] w fun e w' => e = .returned (.tuple #[]) ∧ w' = w := Any.slices_Sort_int_none Tryz.lays189 p cap w
def Tryz.laysNm220_ren : Go.Shelf.Ren := ⟨fun | 20 => 66 | n => n, fun | 22 => 23 | 3 => 3 | 4 => 4 | 0 => 0 | n => n, fun | n => n⟩
theorem Tryz.laysNm220 : Go.Proofs.Lays2.n20 Tryz.prog Tryz.laysNm220_ren := {
  mixed := by kernel_rfl
  f20 := Tryz.func66.trans (congrArg some (by kernel_rfl))
  t0 := Tryz.underlying0
  a0 := Tryz.isAgg0
  z0 := Tryz.sizeOf0
  v0 := Tryz.zeroValue0
  t3 := Tryz.underlying3
  a3 := Tryz.isAgg3
  z3 := Tryz.sizeOf3
  v3 := Tryz.zeroValue3
  t4 := Tryz.underlying4
  a4 := Tryz.isAgg4
  z4 := Tryz.sizeOf4
  v4 := Tryz.zeroValue4
  t22 := Tryz.underlying23
  a22 := Tryz.isAgg23
  z22 := Tryz.sizeOf23
  v22 := Tryz.zeroValue23
  i3 := by kernel_rfl }
open Go.RowKit Go.Lib Go.Sort in
theorem Tryz.slices_Compact_int (blk off cap : Nat) (zs : List Int) (w : World) (hH : Holds (Value.int .i64) w blk off zs.toArray) (hsz : zs.length ≤ 9223372036854775807) (hcap : zs.length ≤ cap) :
    Calls Tryz.prog 66 #[.slice (some ⟨blk, off, none⟩) zs.length cap] w fun e w' => e = .returned (.slice (some ⟨blk, off, none⟩) (Lib.compact zs).length cap) ∧ ∃ q, w' = putRow (Value.int .i64) (Sort.ahead w q) blk off (Lib.compact zs ++ List.replicate (zs.length - (Lib.compact zs).length) 0).toArray := Any.slices_Compact_int Tryz.laysNm220 blk off cap zs w hH hsz hcap
open Go.RowKit Go.Lib Go.Sort in
theorem Tryz.slices_Compact_int_empty (a : Option Addr) (cap : Nat) (w : World) :
    Calls Tryz.prog 66 #[.slice a 0 cap] w fun e w' => e = .returned (.slice a 0 cap) ∧ w' = w := Any.slices_Compact_int_empty Tryz.laysNm220 a cap w
def Tryz.laysNm216_ren : Go.Shelf.Ren := ⟨fun | 16 => 69 | n => n, fun | 24 => 22 | 9 => 9 | 4 => 4 | n => n, fun | n => n⟩
theorem Tryz.laysNm216 : Go.Proofs.Lays2.n16 Tryz.prog Tryz.laysNm216_ren := {
  mixed := by kernel_rfl
  f16 := Tryz.func69.trans (congrArg some (by kernel_rfl))
  t4 := Tryz.underlying4
  a4 := Tryz.isAgg4
  z4 := Tryz.sizeOf4
  v4 := Tryz.zeroValue4
  t9 := Tryz.underlying9
  a9 := Tryz.isAgg9
  z9 := Tryz.sizeOf9
  v9 := Tryz.zeroValue9
  t24 := Tryz.underlying22
  a24 := Tryz.isAgg22
  z24 := Tryz.sizeOf22
  v24 := Tryz.zeroValue22
  i9 := by kernel_rfl }
open Go.RowKit Go.Lib in
theorem Tryz.slices_Clone_string (b off n c : Nat) (zs : List ByteArray) (w : World) (hz : n ≤ zs.length) (hbig : n * 16 ≤ 140737488355328) (hc : ∀ j, j < zs.length → w.cell? ⟨b, off + j, none⟩ = some (.string (zs.getD j ByteArray.empty))) :
    Calls Tryz.prog 69 #[.slice (some ⟨b, off, none⟩) n c] w fun e w' => ∃ v', e = .returned v' ∧ w'.ownsRow w.heap.size 9 1 v' n ((zs.take n).map (Value.string)) ∧ v' ≠ .slice none 0 0 ∧ Below w.heap.size w w' := Any.slices_Clone_string Tryz.laysNm216 b off n c zs w hz hbig hc
open Go.RowKit Go.Lib in
theorem Tryz.slices_Clone_string_nil (n c : Nat) (w : World) :
    Calls Tryz.prog 69 #[.slice none n c] w fun e w' => e = .returned (.slice none 0 0) ∧ w' = w := Any.slices_Clone_string_nil Tryz.laysNm216 n c w
open Go.RowKit Go.Lib in
theorem Tryz.slices_Clone_string_zero (a : Addr) (c : Nat) (w : World) :
    Calls Tryz.prog 69 #[.slice (some a) 0 c] w fun e w' => ∃ v', e = .returned v' ∧ w'.ownsRow w.heap.size 9 1 v' 0 [] ∧ v' ≠ .slice none 0 0 ∧ Below w.heap.size w w' := Any.slices_Clone_string_zero Tryz.laysNm216 a c w
end Go.Proofs

/- Plain programs of the functions of the program and lemmas about what they compute. -/
import Derived.Test.YtefkehflmlikmaaGreatDoorAmEv
import Derived.Test.YtefkehflmlikmaaGreatDoorProg
import Derived.KernelRfl
import Derived.Shelf.Sort.Plain
import Derived.Shelf.Slices.CompactS
import Derived.Shelf.Slices.Cells
import Derived.Shelf.Slices.In.SortNone
set_option linter.unusedSimpArgs false
set_option linter.unusedVariables false
set_option linter.unusedSectionVars false
namespace Go.Proofs.YtefkehflmlikmaaGreatDoor
open Go Am
set_option maxRecDepth 100000
def NT : Tab := [
 (3, ⟨1, 8, true, true, false, none, none, (some .i64), false, false, (some (.int .i64 0)), [], none⟩),
 (9, ⟨1, 16, true, true, false, none, none, none, true, false, (some (.string ⟨⟨[]⟩⟩)), [], none⟩),
 (22, ⟨1, 24, true, true, false, (some 9), none, none, false, false, (some (.slice none 0 0)), [], none⟩),
 (25, ⟨1, 24, true, true, false, (some 27), none, none, false, false, (some (.slice none 0 0)), [], none⟩),
 (27, ⟨3, 48, true, true, true, none, none, none, false, false, (some (.agg #[(.int .i64 0), (.string ⟨⟨[]⟩⟩), (.slice none 0 0)])), [(0, 3), (1, 9), (2, 25)], (some [(0, 1), (1, 1), (2, 1)])⟩)]
theorem Ntok : TOK Tryz.prog NT := tok_of (by kernel_rfl)
def NSG : SGlob := []
def Nsg0 : Sig := ⟨80, 4, [⟨false, true, 9, 1, (.v 0), []⟩], [(.own 0), (.agg [(.atm (.v 1)), (.atm (.v 2)), (.atm (.v 3))])], 1, [⟨false, true, 9, 1, (.v 0), []⟩], (.own 0), true, []⟩
def Nsg1 : Sig := ⟨100, 3, [], [(.agg [(.atm (.v 0)), (.atm (.v 1)), (.atm (.v 2))])], 1, [], (.atm (.v 0)), false, []⟩
def Nsigs : List Sig := [Nsg0, Nsg1]
def Nan0 : Ann := (.s none .z (.s none .z (.s none (.s none .z (.b (.l ⟨2, [(1, .junk), (3, .junk), (4, .junk), (7, .junk), (8, .junk), (14, .junk), (17, (.atm (.v 0)))], [(0, ⟨false, true, 9, 1, (.v 1), []⟩)], 2, []⟩ .z))) .z)))
def Nir0p0 : IR :=
 (.op (.bin .lss false) [(.v 6), (.v 5)]
 (.ite (.v 8)
  (.op (.row 3) [(.v 3), (.v 6)]
  (.call 0 1 false [0] [(.v 7), (.v 9), (.v 10), (.v 11)]
  (.op (.bin .add false) [(.v 6), (.c (.int .i64 1))]
  (.jump 0 [(.v 13), (.v 12)]))))
 (.ret [(.v 7)])))
def Nir0 : IR :=
 (.call 1 1 false [] [(.v 1), (.v 2), (.v 3)]
 (.ite (.v 4)
  (.op (.mk 1 1) [(.v 2)]
  (.op (.app 1 16) [(.v 0), (.v 5)]
  (.ret [(.v 6)])))
 (.op .lenL [(.v 3)]
 (.loop 2 [(.c (.int .i64 0)), (.v 0)] Nir0p0))))
theorem Nrd0 : readFn NT NSG Nsigs 3000 Nsg0 Tryz.f80 Nan0 = some Nir0 := by kernel_rfl
def Nan1 : Ann := .z
def Nir1 : IR :=
 (.op (.bin .eql false) [(.v 0), (.c (.int .i64 3))]
 (.ite (.v 3)
  (.op .lenL [(.v 2)]
  (.op (.bin .eql false) [(.v 4), (.c (.int .i64 0))]
  (.ret [(.v 5)])))
 (.ret [(.c (.bool false))])))
theorem Nrd1 : readFn NT NSG Nsigs 3000 Nsg1 Tryz.f100 Nan1 = some Nir1 := by kernel_rfl
def Ntbl : List TE := [.ir Nir0, .ir Nir1]
theorem Ntbl_ok {G : Glob} : TLok Tryz.prog G NT NSG Nsigs 0 Ntbl := ⟨⟨Nsg0, Tryz.f80, Nan0, 3000, rfl, Tryz.func80, Nrd0⟩,
 ⟨Nsg1, Tryz.f100, Nan1, 3000, rfl, Tryz.func100, Nrd1⟩, trivial⟩
def Ntb : Nat → TE := tbOf Ntbl
theorem Ntb_ok {G : Glob} : TabOK Tryz.prog G NT NSG Nsigs Ntb := tabOK_of Ntbl_ok
theorem Ngok {G : Glob} : GOK G NSG := ⟨(fun g cs h => by cases h), (fun g cs h => by cases h)⟩
end Go.Proofs.YtefkehflmlikmaaGreatDoor

namespace Go.Proofs
open Go.Shelf
def Tryz.lays190_ren : Go.Shelf.Ren := ⟨fun | 190 => 81 | 125 => 102 | 258 => 101 | 128 => 124 | 129 => 125 | 302 => 115 | 303 => 116 | 304 => 117 | 305 => 118 | 306 => 119 | 307 => 120 | 308 => 121 | 309 => 122 | 310 => 123 | 333 => 130 | 329 => 131 | 330 => 132 | 334 => 133 | 335 => 134 | 336 => 135 | 344 => 139 | n => n, fun | 31 => 22 | 9 => 9 | 3 => 3 | 46 => 38 | 0 => 0 | 51 => 134 | 53 => 24 | 4 => 4 | 183 => 126 | 182 => 125 | 131 => 131 | 5 => 5 | 218 => 136 | 222 => 139 | 228 => 144 | 229 => 145 | n => n, fun | n => n⟩
theorem Tryz.lays190 : Go.Proofs.Lays.n190 Tryz.prog Tryz.lays190_ren := {
 mixed := by kernel_rfl
 f125 := Tryz.func102.trans (congrArg some (by kernel_rfl))
 f128 := Tryz.func124.trans (congrArg some (by kernel_rfl))
 f129 := Tryz.func125.trans (congrArg some (by kernel_rfl))
 f190 := Tryz.func81.trans (congrArg some (by kernel_rfl))
 f258 := Tryz.func101.trans (congrArg some (by kernel_rfl))
 f302 := Tryz.func115.trans (congrArg some (by kernel_rfl))
 f303 := Tryz.func116.trans (congrArg some (by kernel_rfl))
 f304 := Tryz.func117.trans (congrArg some (by kernel_rfl))
 f305 := Tryz.func118.trans (congrArg some (by kernel_rfl))
 f306 := Tryz.func119.trans (congrArg some (by kernel_rfl))
 f307 := Tryz.func120.trans (congrArg some (by kernel_rfl))
 f308 := Tryz.func121.trans (congrArg some (by kernel_rfl))
 f309 := Tryz.func122.trans (congrArg some (by kernel_rfl))
 f310 := Tryz.func123.trans (congrArg some (by kernel_rfl))
 f329 := Tryz.func131.trans (congrArg some (by kernel_rfl))
 f330 := Tryz.func132.trans (congrArg some (by kernel_rfl))
 f333 := Tryz.func130.trans (congrArg some (by kernel_rfl))
 f334 := Tryz.func133.trans (congrArg some (by kernel_rfl))
 f335 := Tryz.func134.trans (congrArg some (by kernel_rfl))
 f336 := Tryz.func135.trans (congrArg some (by kernel_rfl))
 f344 := Tryz.func139.trans (congrArg some (by kernel_rfl))
 t0 := Tryz.underlying0
 a0 := Tryz.isAgg0
 z0 := Tryz.sizeOf0
 v0 := Tryz.zeroValue0
 t3 := Tryz.underlying3
 a3 := Tryz.isAgg3
 z3 := Tryz.sizeOf3
 v3 := Tryz.zeroValue3
 t4 := Tryz.underlying4
 a4 := Tryz.isAgg4
 z4 := Tryz.sizeOf4
 v4 := Tryz.zeroValue4
 t5 := Tryz.underlying5
 a5 := Tryz.isAgg5
 z5 := Tryz.sizeOf5
 v5 := Tryz.zeroValue5
 t9 := Tryz.underlying9
 a9 := Tryz.isAgg9
 z9 := Tryz.sizeOf9
 v9 := Tryz.zeroValue9
 t31 := Tryz.underlying22
 a31 := Tryz.isAgg22
 z31 := Tryz.sizeOf22
 v31 := Tryz.zeroValue22
 t46 := Tryz.underlying38
 a46 := Tryz.isAgg38
 z46 := Tryz.sizeOf38
 v46 := Tryz.zeroValue38
 t51 := Tryz.underlying134
 a51 := Tryz.isAgg134
 z51 := Tryz.sizeOf134
 v51 := Tryz.zeroValue134
 t53 := Tryz.underlying24
 a53 := Tryz.isAgg24
 z53 := Tryz.sizeOf24
 v53 := Tryz.zeroValue24
 t131 := Tryz.underlying131
 a131 := Tryz.isAgg131
 z131 := Tryz.sizeOf131
 v131 := Tryz.zeroValue131
 t182 := Tryz.underlying125
 a182 := Tryz.isAgg125
 z182 := Tryz.sizeOf125
 v182 := Tryz.zeroValue125
 t183 := Tryz.underlying126
 a183 := Tryz.isAgg126
 z183 := Tryz.sizeOf126
 v183 := Tryz.zeroValue126
 t218 := Tryz.underlying136
 a218 := Tryz.isAgg136
 z218 := Tryz.sizeOf136
 v218 := Tryz.zeroValue136
 t222 := Tryz.underlying139
 a222 := Tryz.isAgg139
 z222 := Tryz.sizeOf139
 v222 := Tryz.zeroValue139
 t228 := Tryz.underlying144
 a228 := Tryz.isAgg144
 z228 := Tryz.sizeOf144
 v228 := Tryz.zeroValue144
 t229 := Tryz.underlying145
 a229 := Tryz.isAgg145
 z229 := Tryz.sizeOf145
 v229 := Tryz.zeroValue145 }
open Go.Sort Go.RowKit in
theorem Tryz.slices_Sort_string (blk off cap : Nat) (ss : List (List UInt8)) (w : World) (hH : Holds encStr w blk off ss.toArray) (hblk : blk < w.heap.size) (hsz : ss.length < 4611686018427387904) :
 Calls Tryz.prog 81 #[.slice (some ⟨blk, off, none⟩) ss.length cap] w fun e w' =>
  e = .returned (.tuple #[]) ∧ ∃ n os, w' = grow (putRow encStr (Sort.ahead w n) blk off (ss.mergeSort fun x y => decide (x ≤ y)).toArray) os := Any.slices_Sort_string Tryz.lays190 blk off cap ss w hH hblk hsz
open Go.RowKit Go.Sort in
theorem Tryz.slices_Sort_string_none (p : Option Addr) (cap : Nat) (w : World) :
 Calls Tryz.prog 81 #[.slice p 0 cap] w fun e w' => e = .returned (.tuple #[]) ∧ w' = w := Any.slices_Sort_string_none Tryz.lays190 p cap w
def Tryz.lays194_ren : Go.Shelf.Ren := ⟨fun | 194 => 82 | n => n, fun | 31 => 22 | 9 => 9 | 3 => 3 | 4 => 4 | 0 => 0 | n => n, fun | n => n⟩
theorem Tryz.lays194 : Go.Proofs.Lays.n194 Tryz.prog Tryz.lays194_ren := {
 mixed := by kernel_rfl
 f194 := Tryz.func82.trans (congrArg some (by kernel_rfl))
 t0 := Tryz.underlying0
 a0 := Tryz.isAgg0
 z0 := Tryz.sizeOf0
 v0 := Tryz.zeroValue0
 t3 := Tryz.underlying3
 a3 := Tryz.isAgg3
 z3 := Tryz.sizeOf3
 v3 := Tryz.zeroValue3
 t4 := Tryz.underlying4
 a4 := Tryz.isAgg4
 z4 := Tryz.sizeOf4
 v4 := Tryz.zeroValue4
 t9 := Tryz.underlying9
 a9 := Tryz.isAgg9
 z9 := Tryz.sizeOf9
 v9 := Tryz.zeroValue9
 t31 := Tryz.underlying22
 a31 := Tryz.isAgg22
 z31 := Tryz.sizeOf22
 v31 := Tryz.zeroValue22 }
open Go.RowKit Go.Lib Go.Sort in
theorem Tryz.slices_Compact_string (blk off cap : Nat) (zs : List (List UInt8)) (w : World) (hH : Holds encStr w blk off zs.toArray) (hsz : zs.length ≤ 9223372036854775807) (hcap : zs.length ≤ cap) :
 Calls Tryz.prog 82 #[.slice (some ⟨blk, off, none⟩) zs.length cap] w fun e w' => e = .returned (.slice (some ⟨blk, off, none⟩) (Lib.compact zs).length cap) ∧ ∃ q, w' = putRow encStr (Sort.ahead w q) blk off (Lib.compact zs ++ List.replicate (zs.length - (Lib.compact zs).length) []).toArray := Any.slices_Compact_string Tryz.lays194 blk off cap zs w hH hsz hcap
open Go.RowKit Go.Lib Go.Sort in
theorem Tryz.slices_Compact_string_empty (a : Option Addr) (cap : Nat) (w : World) :
 Calls Tryz.prog 82 #[.slice a 0 cap] w fun e w' => e = .returned (.slice a 0 cap) ∧ w' = w := Any.slices_Compact_string_empty Tryz.lays194 a cap w
end Go.Proofs

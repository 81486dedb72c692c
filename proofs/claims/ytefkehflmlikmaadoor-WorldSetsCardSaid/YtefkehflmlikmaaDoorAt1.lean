/- Plain programs of the functions of the program and lemmas about what they compute. -/
import Derived.Test.YtefkehflmlikmaaDoorAmEv
import Derived.Test.YtefkehflmlikmaaDoorProg
import Derived.KernelRfl
import Derived.Shelf.Sort.Plain
import Derived.Shelf.Slices.CompactS
import Derived.Shelf.Slices.Cells
import Derived.Shelf.Slices.In.SortNone
set_option linter.unusedSimpArgs false
set_option linter.unusedVariables false
set_option linter.unusedSectionVars false
namespace Go.Proofs.YtefkehflmlikmaaDoor
open Go Am
set_option maxRecDepth 100000
def NT : Tab := [
 (3, ⟨1, 8, true, true, false, none, none, (some .i64), false, false, (some (.int .i64 0)), [], none⟩),
 (9, ⟨1, 16, true, true, false, none, none, none, true, false, (some (.string ⟨⟨[]⟩⟩)), [], none⟩),
 (26, ⟨1, 24, true, true, false, (some 9), none, none, false, false, (some (.slice none 0 0)), [], none⟩),
 (31, ⟨1, 24, true, true, false, (some 33), none, none, false, false, (some (.slice none 0 0)), [], none⟩),
 (33, ⟨3, 48, true, true, true, none, none, none, false, false, (some (.agg #[(.int .i64 0), (.string ⟨⟨[]⟩⟩), (.slice none 0 0)])), [(0, 3), (1, 9), (2, 31)], (some [(0, 1), (1, 1), (2, 1)])⟩)]
theorem Ntok : TOK Tryd.prog NT := tok_of (by kernel_rfl)
def NSG : SGlob := []
def Nsg0 : Sig := ⟨104, 4, [⟨false, true, 9, 1, (.v 0), []⟩], [(.own 0), (.agg [(.atm (.v 1)), (.atm (.v 2)), (.atm (.v 3))])], 1, [⟨false, true, 9, 1, (.v 0), []⟩], (.own 0), true, []⟩
def Nsg1 : Sig := ⟨81, 3, [], [(.agg [(.atm (.v 0)), (.atm (.v 1)), (.atm (.v 2))])], 1, [], (.atm (.v 0)), false, []⟩
def Nsigs : List Sig := [Nsg0, Nsg1]
def Nan0 : Ann := (.s none .z (.s none .z (.s none (.s none .z (.b (.l ⟨2, [(1, .junk), (3, .junk), (4, .junk), (7, .junk), (8, .junk), (14, .junk), (17, (.atm (.v 0)))], [(0, ⟨false, true, 9, 1, (.v 1), []⟩)], 2, []⟩ .z))) .z)))
def Nir0p0 : IR :=
 (.op (.bin .lss false) [(.v 6), (.v 5)]
 (.ite (.v 8)
  (.op (.row 3) [(.v 3), (.v 6)]
  (.call 0 1 false [0] [(.v 7), (.v 9), (.v 10), (.v 11)]
  (.op (.bin .add false) [(.v 6), (.c (.int .i64 1))]
  (.jump 0 [(.v 13), (.v 12)]))))
 (.ret [(.v 7)])))
def Nir0 : IR :=
 (.call 1 1 false [] [(.v 1), (.v 2), (.v 3)]
 (.ite (.v 4)
  (.op (.mk 1 1) [(.v 2)]
  (.op (.app 1 16) [(.v 0), (.v 5)]
  (.ret [(.v 6)])))
 (.op .lenL [(.v 3)]
 (.loop 2 [(.c (.int .i64 0)), (.v 0)] Nir0p0))))
theorem Nrd0 : readFn NT NSG Nsigs 3000 Nsg0 Tryd.f104 Nan0 = some Nir0 := by kernel_rfl
def Nan1 : Ann := .z
def Nir1 : IR :=
 (.op (.bin .eql false) [(.v 0), (.c (.int .i64 3))]
 (.ite (.v 3)
  (.op .lenL [(.v 2)]
  (.op (.bin .eql false) [(.v 4), (.c (.int .i64 0))]
  (.ret [(.v 5)])))
 (.ret [(.c (.bool false))])))
theorem Nrd1 : readFn NT NSG Nsigs 3000 Nsg1 Tryd.f81 Nan1 = some Nir1 := by kernel_rfl
def Ntbl : List TE := [.ir Nir0, .ir Nir1]
theorem Ntbl_ok {G : Glob} : TLok Tryd.prog G NT NSG Nsigs 0 Ntbl := ⟨⟨Nsg0, Tryd.f104, Nan0, 3000, rfl, Tryd.func104, Nrd0⟩,
 ⟨Nsg1, Tryd.f81, Nan1, 3000, rfl, Tryd.func81, Nrd1⟩, trivial⟩
def Ntb : Nat → TE := tbOf Ntbl
theorem Ntb_ok {G : Glob} : TabOK Tryd.prog G NT NSG Nsigs Ntb := tabOK_of Ntbl_ok
theorem Ngok {G : Glob} : GOK G NSG := ⟨(fun g cs h => by cases h), (fun g cs h => by cases h)⟩
end Go.Proofs.YtefkehflmlikmaaDoor

namespace Go.Proofs
open Go.Shelf
def Tryd.lays190_ren : Go.Shelf.Ren := ⟨fun | 190 => 105 | 125 => 115 | 258 => 114 | 128 => 128 | 129 => 129 | 302 => 119 | 303 => 120 | 304 => 121 | 305 => 122 | 306 => 123 | 307 => 124 | 308 => 125 | 309 => 126 | 310 => 127 | 333 => 133 | 329 => 134 | 330 => 135 | 334 => 136 | 335 => 137 | 336 => 138 | 344 => 140 | n => n, fun | 31 => 26 | 9 => 9 | 3 => 3 | 46 => 42 | 0 => 0 | 51 => 139 | 53 => 28 | 4 => 4 | 183 => 131 | 182 => 130 | 131 => 136 | 5 => 5 | 218 => 143 | 222 => 146 | 228 => 148 | 229 => 149 | n => n, fun | n => n⟩
theorem Tryd.lays190 : Go.Proofs.Lays.n190 Tryd.prog Tryd.lays190_ren := {
 mixed := by kernel_rfl
 f125 := Tryd.func115.trans (congrArg some (by kernel_rfl))
 f128 := Tryd.func128.trans (congrArg some (by kernel_rfl))
 f129 := Tryd.func129.trans (congrArg some (by kernel_rfl))
 f190 := Tryd.func105.trans (congrArg some (by kernel_rfl))
 f258 := Tryd.func114.trans (congrArg some (by kernel_rfl))
 f302 := Tryd.func119.trans (congrArg some (by kernel_rfl))
 f303 := Tryd.func120.trans (congrArg some (by kernel_rfl))
 f304 := Tryd.func121.trans (congrArg some (by kernel_rfl))
 f305 := Tryd.func122.trans (congrArg some (by kernel_rfl))
 f306 := Tryd.func123.trans (congrArg some (by kernel_rfl))
 f307 := Tryd.func124.trans (congrArg some (by kernel_rfl))
 f308 := Tryd.func125.trans (congrArg some (by kernel_rfl))
 f309 := Tryd.func126.trans (congrArg some (by kernel_rfl))
 f310 := Tryd.func127.trans (congrArg some (by kernel_rfl))
 f329 := Tryd.func134.trans (congrArg some (by kernel_rfl))
 f330 := Tryd.func135.trans (congrArg some (by kernel_rfl))
 f333 := Tryd.func133.trans (congrArg some (by kernel_rfl))
 f334 := Tryd.func136.trans (congrArg some (by kernel_rfl))
 f335 := Tryd.func137.trans (congrArg some (by kernel_rfl))
 f336 := Tryd.func138.trans (congrArg some (by kernel_rfl))
 f344 := Tryd.func140.trans (congrArg some (by kernel_rfl))
 t0 := Tryd.underlying0
 a0 := Tryd.isAgg0
 z0 := Tryd.sizeOf0
 v0 := Tryd.zeroValue0
 t3 := Tryd.underlying3
 a3 := Tryd.isAgg3
 z3 := Tryd.sizeOf3
 v3 := Tryd.zeroValue3
 t4 := Tryd.underlying4
 a4 := Tryd.isAgg4
 z4 := Tryd.sizeOf4
 v4 := Tryd.zeroValue4
 t5 := Tryd.underlying5
 a5 := Tryd.isAgg5
 z5 := Tryd.sizeOf5
 v5 := Tryd.zeroValue5
 t9 := Tryd.underlying9
 a9 := Tryd.isAgg9
 z9 := Tryd.sizeOf9
 v9 := Tryd.zeroValue9
 t31 := Tryd.underlying26
 a31 := Tryd.isAgg26
 z31 := Tryd.sizeOf26
 v31 := Tryd.zeroValue26
 t46 := Tryd.underlying42
 a46 := Tryd.isAgg42
 z46 := Tryd.sizeOf42
 v46 := Tryd.zeroValue42
 t51 := Tryd.underlying139
 a51 := Tryd.isAgg139
 z51 := Tryd.sizeOf139
 v51 := Tryd.zeroValue139
 t53 := Tryd.underlying28
 a53 := Tryd.isAgg28
 z53 := Tryd.sizeOf28
 v53 := Tryd.zeroValue28
 t131 := Tryd.underlying136
 a131 := Tryd.isAgg136
 z131 := Tryd.sizeOf136
 v131 := Tryd.zeroValue136
 t182 := Tryd.underlying130
 a182 := Tryd.isAgg130
 z182 := Tryd.sizeOf130
 v182 := Tryd.zeroValue130
 t183 := Tryd.underlying131
 a183 := Tryd.isAgg131
 z183 := Tryd.sizeOf131
 v183 := Tryd.zeroValue131
 t218 := Tryd.underlying143
 a218 := Tryd.isAgg143
 z218 := Tryd.sizeOf143
 v218 := Tryd.zeroValue143
 t222 := Tryd.underlying146
 a222 := Tryd.isAgg146
 z222 := Tryd.sizeOf146
 v222 := Tryd.zeroValue146
 t228 := Tryd.underlying148
 a228 := Tryd.isAgg148
 z228 := Tryd.sizeOf148
 v228 := Tryd.zeroValue148
 t229 := Tryd.underlying149
 a229 := Tryd.isAgg149
 z229 := Tryd.sizeOf149
 v229 := Tryd.zeroValue149 }
open Go.Sort Go.RowKit in
theorem Tryd.slices_Sort_string (blk off cap : Nat) (ss : List (List UInt8)) (w : World) (hH : Holds encStr w blk off ss.toArray) (hblk : blk < w.heap.size) (hsz : ss.length < 4611686018427387904) :
 Calls Tryd.prog 105 #[.slice (some ⟨blk, off, none⟩) ss.length cap] w fun e w' =>
  e = .returned (.tuple #[]) ∧ ∃ n os, w' = grow (putRow encStr (Sort.ahead w n) blk off (ss.mergeSort fun x y => decide (x ≤ y)).toArray) os := Any.slices_Sort_string Tryd.lays190 blk off cap ss w hH hblk hsz
open Go.RowKit Go.Sort in
theorem Tryd.slices_Sort_string_none (p : Option Addr) (cap : Nat) (w : World) :
 Calls Tryd.prog 105 #[.slice p 0 cap] w fun e w' => e = .returned (.tuple #[]) ∧ w' = w := Any.slices_Sort_string_none Tryd.lays190 p cap w
def Tryd.lays194_ren : Go.Shelf.Ren := ⟨fun | 194 => 106 | n => n, fun | 31 => 26 | 9 => 9 | 3 => 3 | 4 => 4 | 0 => 0 | n => n, fun | n => n⟩
theorem Tryd.lays194 : Go.Proofs.Lays.n194 Tryd.prog Tryd.lays194_ren := {
 mixed := by kernel_rfl
 f194 := Tryd.func106.trans (congrArg some (by kernel_rfl))
 t0 := Tryd.underlying0
 a0 := Tryd.isAgg0
 z0 := Tryd.sizeOf0
 v0 := Tryd.zeroValue0
 t3 := Tryd.underlying3
 a3 := Tryd.isAgg3
 z3 := Tryd.sizeOf3
 v3 := Tryd.zeroValue3
 t4 := Tryd.underlying4
 a4 := Tryd.isAgg4
 z4 := Tryd.sizeOf4
 v4 := Tryd.zeroValue4
 t9 := Tryd.underlying9
 a9 := Tryd.isAgg9
 z9 := Tryd.sizeOf9
 v9 := Tryd.zeroValue9
 t31 := Tryd.underlying26
 a31 := Tryd.isAgg26
 z31 := Tryd.sizeOf26
 v31 := Tryd.zeroValue26 }
open Go.RowKit Go.Lib Go.Sort in
theorem Tryd.slices_Compact_string (blk off cap : Nat) (zs : List (List UInt8)) (w : World) (hH : Holds encStr w blk off zs.toArray) (hsz : zs.length ≤ 9223372036854775807) (hcap : zs.length ≤ cap) :
 Calls Tryd.prog 106 #[.slice (some ⟨blk, off, none⟩) zs.length cap] w fun e w' => e = .returned (.slice (some ⟨blk, off, none⟩) (Lib.compact zs).length cap) ∧ ∃ q, w' = putRow encStr (Sort.ahead w q) blk off (Lib.compact zs ++ List.replicate (zs.length - (Lib.compact zs).length) []).toArray := Any.slices_Compact_string Tryd.lays194 blk off cap zs w hH hsz hcap
open Go.RowKit Go.Lib Go.Sort in
theorem Tryd.slices_Compact_string_empty (a : Option Addr) (cap : Nat) (w : World) :
 Calls Tryd.prog 106 #[.slice a 0 cap] w fun e w' => e = .returned (.slice a 0 cap) ∧ w' = w := Any.slices_Compact_string_empty Tryd.lays194 a cap w
end Go.Proofs

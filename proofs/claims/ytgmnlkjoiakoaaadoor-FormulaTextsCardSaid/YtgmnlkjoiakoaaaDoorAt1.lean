/- Plain programs of the functions of the program and lemmas about what they compute. -/
import Derived.Test.YtgmnlkjoiakoaaaDoorAmEv
import Derived.Test.YtgmnlkjoiakoaaaDoorProg
import Derived.KernelRfl
import Derived.Shelf.Sort.Plain
import Derived.Shelf.Slices.CompactS
import Derived.Shelf.Slices.Cells
import Derived.Shelf.Slices.In.SortNone
set_option linter.unusedSimpArgs false
set_option linter.unusedVariables false
set_option linter.unusedSectionVars false
namespace Go.Proofs.YtgmnlkjoiakoaaaDoor
open Go Am
set_option maxRecDepth 100000
def NT : Tab := [
  (3, ⟨1, 8, true, true, false, none, none, (some .i64), false, false, (some (.int .i64 0)), [], none⟩),
  (9, ⟨1, 16, true, true, false, none, none, none, true, false, (some (.string ⟨⟨[]⟩⟩)), [], none⟩),
  (22, ⟨1, 24, true, true, false, (some 24), none, none, false, false, (some (.slice none 0 0)), [], none⟩),
  (24, ⟨3, 48, true, true, true, none, none, none, false, false, (some (.agg #[(.int .i64 0), (.string ⟨⟨[]⟩⟩), (.slice none 0 0)])), [(0, 3), (1, 9), (2, 22)], (some [(0, 1), (1, 1), (2, 1)])⟩),
  (42, ⟨1, 24, true, true, false, (some 9), none, none, false, false, (some (.slice none 0 0)), [], none⟩)]
theorem Ntok : TOK Tryd.prog NT := tok_of (by kernel_rfl)
def NSG : SGlob := []
def Nsg0 : Sig := ⟨63, 4, [⟨false, true, 9, 1, (.v 0), []⟩], [(.own 0), (.agg [(.atm (.v 1)), (.atm (.v 2)), (.atm (.v 3))])], 1, [⟨false, true, 9, 1, (.v 0), []⟩], (.own 0), true, []⟩
def Nsg1 : Sig := ⟨62, 3, [], [(.agg [(.atm (.v 0)), (.atm (.v 1)), (.atm (.v 2))])], 1, [], (.atm (.v 0)), false, []⟩
def Nsigs : List Sig := [Nsg0, Nsg1]
/- 0:formula.names -/
def Nan0 : Ann := (.s none .z (.s none .z (.s none (.s none .z (.b (.l ⟨2, [(1, .junk), (3, .junk), (4, .junk), (7, .junk), (8, .junk), (14, .junk), (17, (.atm (.v 0)))], [(0, ⟨false, true, 9, 1, (.v 1), []⟩)], 2, []⟩ .z))) .z)))
def Nir0p0 : IR :=
 (.op (.bin .lss false) [(.v 6), (.v 5)]
 (.ite (.v 8)
  (.op (.row 3) [(.v 3), (.v 6)]
  (.call 0 1 false [0] [(.v 7), (.v 9), (.v 10), (.v 11)]
  (.op (.bin .add false) [(.v 6), (.c (.int .i64 1))]
  (.jump 0 [(.v 13), (.v 12)]))))
 (.ret [(.v 7)])))
def Nir0 : IR :=
 (.call 1 1 false [] [(.v 1), (.v 2), (.v 3)]
 (.ite (.v 4)
  (.op (.mk 1 1) [(.v 2)]
  (.op (.app 1 16) [(.v 0), (.v 5)]
  (.ret [(.v 6)])))
 (.op .lenL [(.v 3)]
 (.loop 2 [(.c (.int .i64 0)), (.v 0)] Nir0p0))))
theorem Nrd0 : readFn NT NSG Nsigs 3000 Nsg0 Tryd.f63 Nan0 = some Nir0 := by kernel_rfl
/- 1:formula.atom -/
def Nan1 : Ann := .z
def Nir1 : IR :=
 (.op (.bin .eql false) [(.v 0), (.c (.int .i64 3))]
 (.ite (.v 3)
  (.op .lenL [(.v 2)]
  (.op (.bin .eql false) [(.v 4), (.c (.int .i64 0))]
  (.ret [(.v 5)])))
 (.ret [(.c (.bool false))])))
theorem Nrd1 : readFn NT NSG Nsigs 3000 Nsg1 Tryd.f62 Nan1 = some Nir1 := by kernel_rfl
def Ntbl : List TE := [.ir Nir0, .ir Nir1]
theorem Ntbl_ok {G : Glob} : TLok Tryd.prog G NT NSG Nsigs 0 Ntbl := ⟨⟨Nsg0, Tryd.f63, Nan0, 3000, rfl, Tryd.func63, Nrd0⟩,
  ⟨Nsg1, Tryd.f62, Nan1, 3000, rfl, Tryd.func62, Nrd1⟩, trivial⟩
def Ntb : Nat → TE := tbOf Ntbl
theorem Ntb_ok {G : Glob} : TabOK Tryd.prog G NT NSG Nsigs Ntb := tabOK_of Ntbl_ok
theorem Ngok {G : Glob} : GOK G NSG := ⟨(fun g cs h => by cases h), (fun g cs h => by cases h)⟩
end Go.Proofs.YtgmnlkjoiakoaaaDoor

namespace Go.Proofs
open Go.Shelf
def Tryd.lays190_ren : Go.Shelf.Ren := ⟨fun | 190 => 64 | 125 => 88 | 258 => 87 | 128 => 106 | 129 => 107 | 302 => 97 | 303 => 98 | 304 => 99 | 305 => 100 | 306 => 101 | 307 => 102 | 308 => 103 | 309 => 104 | 310 => 105 | 333 => 112 | 329 => 113 | 330 => 114 | 334 => 115 | 335 => 116 | 336 => 117 | 344 => 120 | n => n, fun | 31 => 42 | 9 => 9 | 3 => 3 | 46 => 102 | 0 => 0 | 51 => 116 | 53 => 118 | 4 => 4 | 183 => 108 | 182 => 107 | 131 => 113 | 5 => 5 | 218 => 122 | 222 => 126 | 228 => 128 | 229 => 129 | n => n, fun | n => n⟩
theorem Tryd.lays190 : Go.Proofs.Lays.n190 Tryd.prog Tryd.lays190_ren := {
  mixed := by kernel_rfl
  f125 := Tryd.func88.trans (congrArg some (by kernel_rfl))
  f128 := Tryd.func106.trans (congrArg some (by kernel_rfl))
  f129 := Tryd.func107.trans (congrArg some (by kernel_rfl))
  f190 := Tryd.func64.trans (congrArg some (by kernel_rfl))
  f258 := Tryd.func87.trans (congrArg some (by kernel_rfl))
  f302 := Tryd.func97.trans (congrArg some (by kernel_rfl))
  f303 := Tryd.func98.trans (congrArg some (by kernel_rfl))
  f304 := Tryd.func99.trans (congrArg some (by kernel_rfl))
  f305 := Tryd.func100.trans (congrArg some (by kernel_rfl))
  f306 := Tryd.func101.trans (congrArg some (by kernel_rfl))
  f307 := Tryd.func102.trans (congrArg some (by kernel_rfl))
  f308 := Tryd.func103.trans (congrArg some (by kernel_rfl))
  f309 := Tryd.func104.trans (congrArg some (by kernel_rfl))
  f310 := Tryd.func105.trans (congrArg some (by kernel_rfl))
  f329 := Tryd.func113.trans (congrArg some (by kernel_rfl))
  f330 := Tryd.func114.trans (congrArg some (by kernel_rfl))
  f333 := Tryd.func112.trans (congrArg some (by kernel_rfl))
  f334 := Tryd.func115.trans (congrArg some (by kernel_rfl))
  f335 := Tryd.func116.trans (congrArg some (by kernel_rfl))
  f336 := Tryd.func117.trans (congrArg some (by kernel_rfl))
  f344 := Tryd.func120.trans (congrArg some (by kernel_rfl))
  t0 := Tryd.underlying0
  a0 := Tryd.isAgg0
  z0 := Tryd.sizeOf0
  v0 := Tryd.zeroValue0
  t3 := Tryd.underlying3
  a3 := Tryd.isAgg3
  z3 := Tryd.sizeOf3
  v3 := Tryd.zeroValue3
  t4 := Tryd.underlying4
  a4 := Tryd.isAgg4
  z4 := Tryd.sizeOf4
  v4 := Tryd.zeroValue4
  t5 := Tryd.underlying5
  a5 := Tryd.isAgg5
  z5 := Tryd.sizeOf5
  v5 := Tryd.zeroValue5
  t9 := Tryd.underlying9
  a9 := Tryd.isAgg9
  z9 := Tryd.sizeOf9
  v9 := Tryd.zeroValue9
  t31 := Tryd.underlying42
  a31 := Tryd.isAgg42
  z31 := Tryd.sizeOf42
  v31 := Tryd.zeroValue42
  t46 := Tryd.underlying102
  a46 := Tryd.isAgg102
  z46 := Tryd.sizeOf102
  v46 := Tryd.zeroValue102
  t51 := Tryd.underlying116
  a51 := Tryd.isAgg116
  z51 := Tryd.sizeOf116
  v51 := Tryd.zeroValue116
  t53 := Tryd.underlying118
  a53 := Tryd.isAgg118
  z53 := Tryd.sizeOf118
  v53 := Tryd.zeroValue118
  t131 := Tryd.underlying113
  a131 := Tryd.isAgg113
  z131 := Tryd.sizeOf113
  v131 := Tryd.zeroValue113
  t182 := Tryd.underlying107
  a182 := Tryd.isAgg107
  z182 := Tryd.sizeOf107
  v182 := Tryd.zeroValue107
  t183 := Tryd.underlying108
  a183 := Tryd.isAgg108
  z183 := Tryd.sizeOf108
  v183 := Tryd.zeroValue108
  t218 := Tryd.underlying122
  a218 := Tryd.isAgg122
  z218 := Tryd.sizeOf122
  v218 := Tryd.zeroValue122
  t222 := Tryd.underlying126
  a222 := Tryd.isAgg126
  z222 := Tryd.sizeOf126
  v222 := Tryd.zeroValue126
  t228 := Tryd.underlying128
  a228 := Tryd.isAgg128
  z228 := Tryd.sizeOf128
  v228 := Tryd.zeroValue128
  t229 := Tryd.underlying129
  a229 := Tryd.isAgg129
  z229 := Tryd.sizeOf129
  v229 := Tryd.zeroValue129 }
open Go.Sort Go.RowKit in
theorem Tryd.slices_Sort_string (blk off cap : Nat) (ss : List (List UInt8)) (w : World) (hH : Holds encStr w blk off ss.toArray) (hblk : blk < w.heap.size) (hsz : ss.length < 4611686018427387904) :
    Calls Tryd.prog 64 #[.slice (some ⟨blk, off, none⟩) ss.length cap] w fun e w' =>
      e = .returned (.tuple #[]) ∧ ∃ n os, w' = grow (putRow encStr (Sort.ahead w n) blk off (ss.mergeSort fun x y => decide (x ≤ y)).toArray) os := Any.slices_Sort_string Tryd.lays190 blk off cap ss w hH hblk hsz
open Go.RowKit Go.Sort in
theorem Tryd.slices_Sort_string_none (p : Option Addr) (cap : Nat) (w : World) :
    Calls Tryd.prog 64 #[.slice p 0 cap] w fun e w' => e = .returned (.tuple #[]) ∧ w' = w := Any.slices_Sort_string_none Tryd.lays190 p cap w
def Tryd.lays194_ren : Go.Shelf.Ren := ⟨fun | 194 => 65 | n => n, fun | 31 => 42 | 9 => 9 | 3 => 3 | 4 => 4 | 0 => 0 | n => n, fun | n => n⟩
theorem Tryd.lays194 : Go.Proofs.Lays.n194 Tryd.prog Tryd.lays194_ren := {
  mixed := by kernel_rfl
  f194 := Tryd.func65.trans (congrArg some (by kernel_rfl))
  t0 := Tryd.underlying0
  a0 := Tryd.isAgg0
  z0 := Tryd.sizeOf0
  v0 := Tryd.zeroValue0
  t3 := Tryd.underlying3
  a3 := Tryd.isAgg3
  z3 := Tryd.sizeOf3
  v3 := Tryd.zeroValue3
  t4 := Tryd.underlying4
  a4 := Tryd.isAgg4
  z4 := Tryd.sizeOf4
  v4 := Tryd.zeroValue4
  t9 := Tryd.underlying9
  a9 := Tryd.isAgg9
  z9 := Tryd.sizeOf9
  v9 := Tryd.zeroValue9
  t31 := Tryd.underlying42
  a31 := Tryd.isAgg42
  z31 := Tryd.sizeOf42
  v31 := Tryd.zeroValue42 }
open Go.RowKit Go.Lib Go.Sort in
theorem Tryd.slices_Compact_string (blk off cap : Nat) (zs : List (List UInt8)) (w : World) (hH : Holds encStr w blk off zs.toArray) (hsz : zs.length ≤ 9223372036854775807) (hcap : zs.length ≤ cap) :
    Calls Tryd.prog 65 #[.slice (some ⟨blk, off, none⟩) zs.length cap] w fun e w' => e = .returned (.slice (some ⟨blk, off, none⟩) (Lib.compact zs).length cap) ∧ ∃ q, w' = putRow encStr (Sort.ahead w q) blk off (Lib.compact zs ++ List.replicate (zs.length - (Lib.compact zs).length) []).toArray := Any.slices_Compact_string Tryd.lays194 blk off cap zs w hH hsz hcap
open Go.RowKit Go.Lib Go.Sort in
theorem Tryd.slices_Compact_string_empty (a : Option Addr) (cap : Nat) (w : World) :
    Calls Tryd.prog 65 #[.slice a 0 cap] w fun e w' => e = .returned (.slice a 0 cap) ∧ w' = w := Any.slices_Compact_string_empty Tryd.lays194 a cap w
end Go.Proofs

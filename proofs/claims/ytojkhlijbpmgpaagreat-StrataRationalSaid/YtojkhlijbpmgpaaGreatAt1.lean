/- What functions of the program compute: lemmas. -/
import Derived.Test.YtojkhlijbpmgpaaGreatAmEv
import Derived.Test.YtojkhlijbpmgpaaGreatProg
import Derived.KernelRfl
import Derived.Shelf.Sort.Plain
import Derived.Shelf.Slices.Clone
import Derived.Shelf.Slices.CompactI
import Derived.Shelf.Slices.CompactS
import Derived.Shelf.Slices.SearchI
import Derived.Shelf.Slices.Cells
import Derived.Shelf.Slices.In.SortNone
set_option linter.unusedSimpArgs false
set_option linter.unusedVariables false
set_option linter.unusedSectionVars false
namespace Go.Proofs.YtojkhlijbpmgpaaGreat
open Go Am
set_option maxRecDepth 100000
def NT : Tab := [
 (3,⟨1,8,true,true,false,none,none,(some .i64),false,false,(some (.int .i64 0)),[],none⟩),
 (9,⟨1,16,true,true,false,none,none,none,true,false,(some (.string ⟨⟨[]⟩⟩)),[],none⟩),
 (26,⟨1,24,true,true,false,(some 9),none,none,false,false,(some (.slice none 0 0)),[],none⟩),
 (37,⟨1,24,true,true,false,(some 39),none,none,false,false,(some (.slice none 0 0)),[],none⟩),
 (39,⟨3,48,true,true,true,none,none,none,false,false,(some (.agg #[(.int .i64 0),(.string ⟨⟨[]⟩⟩),(.slice none 0 0)])),[(0,3),(1,9),(2,37)],(some [(0,1),(1,1),(2,1)])⟩)]
theorem Ntok : TOK Tryz.prog NT := tok_of (by kernel_rfl)
def NSG : SGlob := []
def Nsg0 : Sig := ⟨158,4,[⟨false,true,9,1,.v 0,[]⟩],[.own 0,(.agg [.atm (.v 1),.atm (.v 2),.atm (.v 3)])],1,[⟨false,true,9,1,.v 0,[]⟩],.own 0,true,[]⟩
def Nsg1 : Sig := ⟨174,3,[],[(.agg [.atm (.v 0),.atm (.v 1),.atm (.v 2)])],1,[],.atm (.v 0),false,[]⟩
def Nsigs : List Sig := [Nsg0,Nsg1]
def Nan0 : Ann := (.s none .z (.s none .z (.s none (.s none .z (.b (.l ⟨2,[(1,.junk),(3,.junk),(4,.junk),(7,.junk),(8,.junk),(14,.junk),(17,(.atm (.v 0)))],[(0,⟨false,true,9,1,.v 1,[]⟩)],2,[]⟩ .z))) .z)))
def Nir0p0 : IR := (.op (.bin .lss false) [.v 6,.v 5] (.ite (.v 8) (.op (.row 3) [.v 3,.v 6] (.call 0 1 false [0] [.v 7,.v 9,.v 10,.v 11] (.op (.bin .add false) [.v 6,.c (.int .i64 1)] (.jump 0 [.v 13,.v 12])))) (.ret [.v 7])))
def Nir0 : IR := (.call 1 1 false [] [.v 1,.v 2,.v 3] (.ite (.v 4) (.op (.mk 1 1) [.v 2] (.op (.app 1 16) [.v 0,.v 5] (.ret [.v 6]))) (.op .lenL [.v 3] (.loop 2 [.c (.int .i64 0),.v 0] Nir0p0))))
theorem Nrd0 : readFn NT NSG Nsigs 3000 Nsg0 Tryz.f158 Nan0 = some Nir0 := by kernel_rfl
def Nan1 : Ann := .z
def Nir1 : IR := (.op (.bin .eql false) [.v 0,.c (.int .i64 3)] (.ite (.v 3) (.op .lenL [.v 2] (.op (.bin .eql false) [.v 4,.c (.int .i64 0)] (.ret [.v 5]))) (.ret [.c (.bool false)])))
theorem Nrd1 : readFn NT NSG Nsigs 3000 Nsg1 Tryz.f174 Nan1 = some Nir1 := by kernel_rfl
def Ntbl : List TE := [.ir Nir0,.ir Nir1]
theorem Ntbl_ok {G : Glob} : TLok Tryz.prog G NT NSG Nsigs 0 Ntbl := ⟨⟨Nsg0,Tryz.f158,Nan0,3000,rfl,Tryz.func158,Nrd0,.nil⟩,
 ⟨Nsg1,Tryz.f174,Nan1,3000,rfl,Tryz.func174,Nrd1,.nil⟩,trivial⟩
def Ntb : Nat → TE := tbOf Ntbl
theorem Ntb_ok {G : Glob} : TabOK Tryz.prog G NT NSG Nsigs Ntb := tabOK_of Ntbl_ok
theorem Ngok {G : Glob} : GOK G NSG := ⟨(fun g cs h => by cases h),(fun g cs h => by cases h)⟩
end Go.Proofs.YtojkhlijbpmgpaaGreat

namespace Go.Proofs
open Go.Shelf
def Tryz.lays190_ren : Go.Shelf.Ren := ⟨fun | 190 => 159 | 125 => 176 | 258 => 175 | 128 => 188 | 129 => 189 | 302 => 179 | 303 => 180 | 304 => 181 | 305 => 182 | 306 => 183 | 307 => 184 | 308 => 185 | 309 => 186 | 310 => 187 | 333 => 198 | 329 => 199 | 330 => 200 | 334 => 201 | 335 => 202 | 336 => 203 | 344 => 207 | n => n,fun | 31 => 26 | 9 => 9 | 3 => 3 | 46 => 94 | 0 => 0 | 51 => 190 | 53 => 30 | 4 => 4 | 183 => 183 | 182 => 182 | 131 => 159 | 5 => 5 | 218 => 197 | 222 => 200 | 228 => 204 | 229 => 205 | n => n,fun | n => n⟩
theorem Tryz.lays190 : Go.Proofs.Lays.n190 Tryz.prog Tryz.lays190_ren := {
 mixed := by kernel_rfl
 f125 := Tryz.func176.trans (congrArg some (by kernel_rfl))
 f128 := Tryz.func188.trans (congrArg some (by kernel_rfl))
 f129 := Tryz.func189.trans (congrArg some (by kernel_rfl))
 f190 := Tryz.func159.trans (congrArg some (by kernel_rfl))
 f258 := Tryz.func175.trans (congrArg some (by kernel_rfl))
 f302 := Tryz.func179.trans (congrArg some (by kernel_rfl))
 f303 := Tryz.func180.trans (congrArg some (by kernel_rfl))
 f304 := Tryz.func181.trans (congrArg some (by kernel_rfl))
 f305 := Tryz.func182.trans (congrArg some (by kernel_rfl))
 f306 := Tryz.func183.trans (congrArg some (by kernel_rfl))
 f307 := Tryz.func184.trans (congrArg some (by kernel_rfl))
 f308 := Tryz.func185.trans (congrArg some (by kernel_rfl))
 f309 := Tryz.func186.trans (congrArg some (by kernel_rfl))
 f310 := Tryz.func187.trans (congrArg some (by kernel_rfl))
 f329 := Tryz.func199.trans (congrArg some (by kernel_rfl))
 f330 := Tryz.func200.trans (congrArg some (by kernel_rfl))
 f333 := Tryz.func198.trans (congrArg some (by kernel_rfl))
 f334 := Tryz.func201.trans (congrArg some (by kernel_rfl))
 f335 := Tryz.func202.trans (congrArg some (by kernel_rfl))
 f336 := Tryz.func203.trans (congrArg some (by kernel_rfl))
 f344 := Tryz.func207.trans (congrArg some (by kernel_rfl))
 t0 := Tryz.underlying0
 a0 := Tryz.isAgg0
 z0 := Tryz.sizeOf0
 v0 := Tryz.zeroValue0
 t3 := Tryz.underlying3
 a3 := Tryz.isAgg3
 z3 := Tryz.sizeOf3
 v3 := Tryz.zeroValue3
 t4 := Tryz.underlying4
 a4 := Tryz.isAgg4
 z4 := Tryz.sizeOf4
 v4 := Tryz.zeroValue4
 t5 := Tryz.underlying5
 a5 := Tryz.isAgg5
 z5 := Tryz.sizeOf5
 v5 := Tryz.zeroValue5
 t9 := Tryz.underlying9
 a9 := Tryz.isAgg9
 z9 := Tryz.sizeOf9
 v9 := Tryz.zeroValue9
 t31 := Tryz.underlying26
 a31 := Tryz.isAgg26
 z31 := Tryz.sizeOf26
 v31 := Tryz.zeroValue26
 t46 := Tryz.underlying94
 a46 := Tryz.isAgg94
 z46 := Tryz.sizeOf94
 v46 := Tryz.zeroValue94
 t51 := Tryz.underlying190
 a51 := Tryz.isAgg190
 z51 := Tryz.sizeOf190
 v51 := Tryz.zeroValue190
 t53 := Tryz.underlying30
 a53 := Tryz.isAgg30
 z53 := Tryz.sizeOf30
 v53 := Tryz.zeroValue30
 t131 := Tryz.underlying159
 a131 := Tryz.isAgg159
 z131 := Tryz.sizeOf159
 v131 := Tryz.zeroValue159
 t182 := Tryz.underlying182
 a182 := Tryz.isAgg182
 z182 := Tryz.sizeOf182
 v182 := Tryz.zeroValue182
 t183 := Tryz.underlying183
 a183 := Tryz.isAgg183
 z183 := Tryz.sizeOf183
 v183 := Tryz.zeroValue183
 t218 := Tryz.underlying197
 a218 := Tryz.isAgg197
 z218 := Tryz.sizeOf197
 v218 := Tryz.zeroValue197
 t222 := Tryz.underlying200
 a222 := Tryz.isAgg200
 z222 := Tryz.sizeOf200
 v222 := Tryz.zeroValue200
 t228 := Tryz.underlying204
 a228 := Tryz.isAgg204
 z228 := Tryz.sizeOf204
 v228 := Tryz.zeroValue204
 t229 := Tryz.underlying205
 a229 := Tryz.isAgg205
 z229 := Tryz.sizeOf205
 v229 := Tryz.zeroValue205 }
open Go.Sort Go.RowKit in
theorem Tryz.slices_Sort_string (blk off cap : Nat) (ss : List (List UInt8)) (w : World) (hH : Holds encStr w blk off ss.toArray) (hblk : blk < w.heap.size) (hsz : ss.length < 4611686018427387904) :
 Calls Tryz.prog 159 #[.slice (some ⟨blk,off,none⟩) ss.length cap] w fun e w' =>
  e = .returned (.tuple #[]) ∧ ∃ n os,w' = grow (putRow encStr (Sort.ahead w n) blk off (ss.mergeSort fun x y => decide (x ≤ y)).toArray) os := Any.slices_Sort_string Tryz.lays190 blk off cap ss w hH hblk hsz
open Go.RowKit Go.Sort in
theorem Tryz.slices_Sort_string_none (p : Option Addr) (cap : Nat) (w : World) :
 Calls Tryz.prog 159 #[.slice p 0 cap] w fun e w' => e = .returned (.tuple #[]) ∧ w' = w := Any.slices_Sort_string_none Tryz.lays190 p cap w
def Tryz.lays194_ren : Go.Shelf.Ren := ⟨fun | 194 => 160 | n => n,fun | 31 => 26 | 9 => 9 | 3 => 3 | 4 => 4 | 0 => 0 | n => n,fun | n => n⟩
theorem Tryz.lays194 : Go.Proofs.Lays.n194 Tryz.prog Tryz.lays194_ren := {
 mixed := by kernel_rfl
 f194 := Tryz.func160.trans (congrArg some (by kernel_rfl))
 t0 := Tryz.underlying0
 a0 := Tryz.isAgg0
 z0 := Tryz.sizeOf0
 v0 := Tryz.zeroValue0
 t3 := Tryz.underlying3
 a3 := Tryz.isAgg3
 z3 := Tryz.sizeOf3
 v3 := Tryz.zeroValue3
 t4 := Tryz.underlying4
 a4 := Tryz.isAgg4
 z4 := Tryz.sizeOf4
 v4 := Tryz.zeroValue4
 t9 := Tryz.underlying9
 a9 := Tryz.isAgg9
 z9 := Tryz.sizeOf9
 v9 := Tryz.zeroValue9
 t31 := Tryz.underlying26
 a31 := Tryz.isAgg26
 z31 := Tryz.sizeOf26
 v31 := Tryz.zeroValue26 }
open Go.RowKit Go.Lib Go.Sort in
theorem Tryz.slices_Compact_string (blk off cap : Nat) (zs : List (List UInt8)) (w : World) (hH : Holds encStr w blk off zs.toArray) (hsz : zs.length ≤ 9223372036854775807) (hcap : zs.length ≤ cap) :
 Calls Tryz.prog 160 #[.slice (some ⟨blk,off,none⟩) zs.length cap] w fun e w' => e = .returned (.slice (some ⟨blk,off,none⟩) (Lib.compact zs).length cap) ∧ ∃ q,w' = putRow encStr (Sort.ahead w q) blk off (Lib.compact zs ++ List.replicate (zs.length - (Lib.compact zs).length) []).toArray := Any.slices_Compact_string Tryz.lays194 blk off cap zs w hH hsz hcap
open Go.RowKit Go.Lib Go.Sort in
theorem Tryz.slices_Compact_string_empty (a : Option Addr) (cap : Nat) (w : World) :
 Calls Tryz.prog 160 #[.slice a 0 cap] w fun e w' => e = .returned (.slice a 0 cap) ∧ w' = w := Any.slices_Compact_string_empty Tryz.lays194 a cap w
def Tryz.laysNm220_ren : Go.Shelf.Ren := ⟨fun | 20 => 124 | n => n,fun | 22 => 22 | 3 => 3 | 4 => 4 | 0 => 0 | n => n,fun | n => n⟩
theorem Tryz.laysNm220 : Go.Proofs.Lays2.n20 Tryz.prog Tryz.laysNm220_ren := {
 mixed := by kernel_rfl
 f20 := Tryz.func124.trans (congrArg some (by kernel_rfl))
 t0 := Tryz.underlying0
 a0 := Tryz.isAgg0
 z0 := Tryz.sizeOf0
 v0 := Tryz.zeroValue0
 t3 := Tryz.underlying3
 a3 := Tryz.isAgg3
 z3 := Tryz.sizeOf3
 v3 := Tryz.zeroValue3
 t4 := Tryz.underlying4
 a4 := Tryz.isAgg4
 z4 := Tryz.sizeOf4
 v4 := Tryz.zeroValue4
 t22 := Tryz.underlying22
 a22 := Tryz.isAgg22
 z22 := Tryz.sizeOf22
 v22 := Tryz.zeroValue22
 i3 := by kernel_rfl }
open Go.RowKit Go.Lib Go.Sort in
theorem Tryz.slices_Compact_int (blk off cap : Nat) (zs : List Int) (w : World) (hH : Holds (Value.int .i64) w blk off zs.toArray) (hsz : zs.length ≤ 9223372036854775807) (hcap : zs.length ≤ cap) :
 Calls Tryz.prog 124 #[.slice (some ⟨blk,off,none⟩) zs.length cap] w fun e w' => e = .returned (.slice (some ⟨blk,off,none⟩) (Lib.compact zs).length cap) ∧ ∃ q,w' = putRow (Value.int .i64) (Sort.ahead w q) blk off (Lib.compact zs ++ List.replicate (zs.length - (Lib.compact zs).length) 0).toArray := Any.slices_Compact_int Tryz.laysNm220 blk off cap zs w hH hsz hcap
open Go.RowKit Go.Lib Go.Sort in
theorem Tryz.slices_Compact_int_empty (a : Option Addr) (cap : Nat) (w : World) :
 Calls Tryz.prog 124 #[.slice a 0 cap] w fun e w' => e = .returned (.slice a 0 cap) ∧ w' = w := Any.slices_Compact_int_empty Tryz.laysNm220 a cap w
def Tryz.lays189_ren : Go.Shelf.Ren := ⟨fun | 189 => 164 | 125 => 176 | 257 => 178 | 128 => 188 | 129 => 189 | 294 => 190 | 295 => 191 | 296 => 192 | 297 => 193 | 298 => 194 | 299 => 195 | 216 => 166 | 300 => 196 | 301 => 197 | 328 => 204 | 329 => 199 | 330 => 200 | 331 => 205 | 332 => 206 | 215 => 145 | 343 => 208 | n => n,fun | 28 => 22 | 3 => 3 | 46 => 94 | 0 => 0 | 51 => 190 | 53 => 30 | 4 => 4 | 183 => 183 | 182 => 182 | 131 => 159 | 5 => 5 | 9 => 9 | 218 => 197 | 222 => 200 | 228 => 204 | 229 => 205 | n => n,fun | n => n⟩
theorem Tryz.lays189 : Go.Proofs.Lays.n189 Tryz.prog Tryz.lays189_ren := {
 mixed := by kernel_rfl
 f125 := Tryz.func176.trans (congrArg some (by kernel_rfl))
 f128 := Tryz.func188.trans (congrArg some (by kernel_rfl))
 f129 := Tryz.func189.trans (congrArg some (by kernel_rfl))
 f189 := Tryz.func164.trans (congrArg some (by kernel_rfl))
 f215 := Tryz.func145.trans (congrArg some (by kernel_rfl))
 f216 := Tryz.func166.trans (congrArg some (by kernel_rfl))
 f257 := Tryz.func178.trans (congrArg some (by kernel_rfl))
 f294 := Tryz.func190.trans (congrArg some (by kernel_rfl))
 f295 := Tryz.func191.trans (congrArg some (by kernel_rfl))
 f296 := Tryz.func192.trans (congrArg some (by kernel_rfl))
 f297 := Tryz.func193.trans (congrArg some (by kernel_rfl))
 f298 := Tryz.func194.trans (congrArg some (by kernel_rfl))
 f299 := Tryz.func195.trans (congrArg some (by kernel_rfl))
 f300 := Tryz.func196.trans (congrArg some (by kernel_rfl))
 f301 := Tryz.func197.trans (congrArg some (by kernel_rfl))
 f328 := Tryz.func204.trans (congrArg some (by kernel_rfl))
 f329 := Tryz.func199.trans (congrArg some (by kernel_rfl))
 f330 := Tryz.func200.trans (congrArg some (by kernel_rfl))
 f331 := Tryz.func205.trans (congrArg some (by kernel_rfl))
 f332 := Tryz.func206.trans (congrArg some (by kernel_rfl))
 f343 := Tryz.func208.trans (congrArg some (by kernel_rfl))
 t0 := Tryz.underlying0
 a0 := Tryz.isAgg0
 z0 := Tryz.sizeOf0
 v0 := Tryz.zeroValue0
 t3 := Tryz.underlying3
 a3 := Tryz.isAgg3
 z3 := Tryz.sizeOf3
 v3 := Tryz.zeroValue3
 t4 := Tryz.underlying4
 a4 := Tryz.isAgg4
 z4 := Tryz.sizeOf4
 v4 := Tryz.zeroValue4
 t5 := Tryz.underlying5
 a5 := Tryz.isAgg5
 z5 := Tryz.sizeOf5
 v5 := Tryz.zeroValue5
 t9 := Tryz.underlying9
 a9 := Tryz.isAgg9
 z9 := Tryz.sizeOf9
 v9 := Tryz.zeroValue9
 t28 := Tryz.underlying22
 a28 := Tryz.isAgg22
 z28 := Tryz.sizeOf22
 v28 := Tryz.zeroValue22
 t46 := Tryz.underlying94
 a46 := Tryz.isAgg94
 z46 := Tryz.sizeOf94
 v46 := Tryz.zeroValue94
 t51 := Tryz.underlying190
 a51 := Tryz.isAgg190
 z51 := Tryz.sizeOf190
 v51 := Tryz.zeroValue190
 t53 := Tryz.underlying30
 a53 := Tryz.isAgg30
 z53 := Tryz.sizeOf30
 v53 := Tryz.zeroValue30
 t131 := Tryz.underlying159
 a131 := Tryz.isAgg159
 z131 := Tryz.sizeOf159
 v131 := Tryz.zeroValue159
 t182 := Tryz.underlying182
 a182 := Tryz.isAgg182
 z182 := Tryz.sizeOf182
 v182 := Tryz.zeroValue182
 t183 := Tryz.underlying183
 a183 := Tryz.isAgg183
 z183 := Tryz.sizeOf183
 v183 := Tryz.zeroValue183
 t218 := Tryz.underlying197
 a218 := Tryz.isAgg197
 z218 := Tryz.sizeOf197
 v218 := Tryz.zeroValue197
 t222 := Tryz.underlying200
 a222 := Tryz.isAgg200
 z222 := Tryz.sizeOf200
 v222 := Tryz.zeroValue200
 t228 := Tryz.underlying204
 a228 := Tryz.isAgg204
 z228 := Tryz.sizeOf204
 v228 := Tryz.zeroValue204
 t229 := Tryz.underlying205
 a229 := Tryz.isAgg205
 z229 := Tryz.sizeOf205
 v229 := Tryz.zeroValue205 }
open Go.Sort Go.RowKit in
theorem Tryz.slices_Sort_int (blk off cap : Nat) (zs : List Int) (w : World) (hH : Holds (Value.int .i64) w blk off zs.toArray) (hblk : blk < w.heap.size) (hsz : zs.length < 4611686018427387904) :
 Calls Tryz.prog 164 #[.slice (some ⟨blk,off,none⟩) zs.length cap] w fun e w' =>
  e = .returned (.tuple #[]) ∧ ∃ n os,w' = grow (putRow (Value.int .i64) (Sort.ahead w n) blk off (zs.mergeSort fun x y => decide (x ≤ y)).toArray) os := Any.slices_Sort_int Tryz.lays189 blk off cap zs w hH hblk hsz
open Go.RowKit Go.Sort in
theorem Tryz.slices_Sort_int_none (p : Option Addr) (cap : Nat) (w : World) :
 Calls Tryz.prog 164 #[.slice p 0 cap] w fun e w' => e = .returned (.tuple #[]) ∧ w' = w := Any.slices_Sort_int_none Tryz.lays189 p cap w
def Tryz.laysNm216_ren : Go.Shelf.Ren := ⟨fun | 16 => 127 | n => n,fun | 24 => 26 | 9 => 9 | 4 => 4 | n => n,fun | n => n⟩
theorem Tryz.laysNm216 : Go.Proofs.Lays2.n16 Tryz.prog Tryz.laysNm216_ren := {
 mixed := by kernel_rfl
 f16 := Tryz.func127.trans (congrArg some (by kernel_rfl))
 t4 := Tryz.underlying4
 a4 := Tryz.isAgg4
 z4 := Tryz.sizeOf4
 v4 := Tryz.zeroValue4
 t9 := Tryz.underlying9
 a9 := Tryz.isAgg9
 z9 := Tryz.sizeOf9
 v9 := Tryz.zeroValue9
 t24 := Tryz.underlying26
 a24 := Tryz.isAgg26
 z24 := Tryz.sizeOf26
 v24 := Tryz.zeroValue26
 i9 := by kernel_rfl }
open Go.RowKit Go.Lib in
theorem Tryz.slices_Clone_string (b off n c : Nat) (zs : List ByteArray) (w : World) (hz : n ≤ zs.length) (hbig : n * 16 ≤ 140737488355328) (hc : ∀ j,j < zs.length → w.cell? ⟨b,off + j,none⟩ = some (.string (zs.getD j ByteArray.empty))) :
 Calls Tryz.prog 127 #[.slice (some ⟨b,off,none⟩) n c] w fun e w' => ∃ v',e = .returned v' ∧ w'.ownsRow w.heap.size 9 1 v' n ((zs.take n).map (Value.string)) ∧ v' ≠ .slice none 0 0 ∧ Below w.heap.size w w' := Any.slices_Clone_string Tryz.laysNm216 b off n c zs w hz hbig hc
open Go.RowKit Go.Lib in
theorem Tryz.slices_Clone_string_nil (n c : Nat) (w : World) :
 Calls Tryz.prog 127 #[.slice none n c] w fun e w' => e = .returned (.slice none 0 0) ∧ w' = w := Any.slices_Clone_string_nil Tryz.laysNm216 n c w
open Go.RowKit Go.Lib in
theorem Tryz.slices_Clone_string_zero (a : Addr) (c : Nat) (w : World) :
 Calls Tryz.prog 127 #[.slice (some a) 0 c] w fun e w' => ∃ v',e = .returned v' ∧ w'.ownsRow w.heap.size 9 1 v' 0 [] ∧ v' ≠ .slice none 0 0 ∧ Below w.heap.size w w' := Any.slices_Clone_string_zero Tryz.laysNm216 a c w
end Go.Proofs

/- What functions of the program compute: lemmas. -/
import Derived.Test.YtoalfckdmoahoaaGreatDoorAm3
import Derived.Test.YtoalfckdmoahoaaGreatDoorAm6
import Derived.Test.YtoalfckdmoahoaaGreatDoorSb1
import Derived.Test.YtoalfckdmoahoaaGreatDoorAm5
import Derived.Shelf.Sort.Plain
import Derived.Shelf.Slices.Reverse
import Derived.Shelf.Slices.Clone
import Derived.Shelf.Slices.CompactI
import Derived.Shelf.Slices.CompactS
import Derived.Shelf.Slices.SearchI
import Derived.Shelf.Slices.Cells
import Derived.Shelf.Slices.In.SortNone
import Derived.Test.YtoalfckdmoahoaaGreatDoorProg
import Derived.KernelRfl
import Derived.RangeFuncBox
import Derived.RangeFuncLeaves
import Derived.Shelf.Abstract
import Derived.WalkKit
import Derived.OwnWalkIn
import Derived.TacticsInMore
import Derived.LoopNIn
import Derived.LoopIn
import Derived.Maps.AppendAt
set_option linter.unusedSimpArgs false
set_option linter.unusedVariables false
set_option linter.unusedSectionVars false
namespace Go.Proofs
open Go.Shelf
def Tryz.laysNm220_ren:Go.Shelf.Ren:=⟨fun|20=>21|n=>n,fun|22=>22|3=>3|4=>4|0=>0|n=>n,fun|n=>n⟩
theorem Tryz.laysNm220:Go.Proofs.Lays2.n20 Tryz.prog Tryz.laysNm220_ren:={
 mixed:=by kernel_rfl
 f20:=Tryz.func21.trans (congrArg some (by kernel_rfl))
 t0:=Tryz.underlying0
 a0:=Tryz.isAgg0
 z0:=Tryz.sizeOf0
 v0:=Tryz.zeroValue0
 t3:=Tryz.underlying3
 a3:=Tryz.isAgg3
 z3:=Tryz.sizeOf3
 v3:=Tryz.zeroValue3
 t4:=Tryz.underlying4
 a4:=Tryz.isAgg4
 z4:=Tryz.sizeOf4
 v4:=Tryz.zeroValue4
 t22:=Tryz.underlying22
 a22:=Tryz.isAgg22
 z22:=Tryz.sizeOf22
 v22:=Tryz.zeroValue22
 i3:=by kernel_rfl }
open Go.RowKit Go.Lib Go.Sort in
theorem Tryz.slices_Compact_int (blk off cap:Nat) (zs:List Int) (w:World) (hH:Holds (Value.int .i64) w blk off zs.toArray) (hsz:zs.length≤9223372036854775807) (hcap:zs.length≤cap) :
 Calls Tryz.prog 21 #[.slice (some ⟨blk,off,none⟩) zs.length cap] w fun e w'=>e = .returned (.slice (some ⟨blk,off,none⟩) (Lib.compact zs).length cap)∧∃ q,w' = putRow (Value.int .i64) (Sort.ahead w q) blk off (Lib.compact zs++List.replicate (zs.length-(Lib.compact zs).length) 0).toArray:=Any.slices_Compact_int Tryz.laysNm220 blk off cap zs w hH hsz hcap
open Go.RowKit Go.Lib Go.Sort in
theorem Tryz.slices_Compact_int_empty (a:Option Addr) (cap:Nat) (w:World) :
 Calls Tryz.prog 21 #[.slice a 0 cap] w fun e w'=>e = .returned (.slice a 0 cap)∧w' = w:=Any.slices_Compact_int_empty Tryz.laysNm220 a cap w
def Tryz.lays189_ren:Go.Shelf.Ren:=⟨fun|189=>42|125=>68|257=>67|128=>128|129=>129|294=>120|295=>121|296=>122|297=>123|298=>124|299=>125|216=>44|300=>126|301=>127|328=>140|329=>141|330=>142|331=>143|332=>144|215=>69|343=>155|n=>n,fun|28=>22|3=>3|46=>28|0=>0|51=>152|53=>44|4=>4|183=>146|182=>145|131=>68|5=>5|9=>9|218=>161|222=>165|228=>173|229=>87|n=>n,fun|n=>n⟩
theorem Tryz.lays189:Go.Proofs.Lays.n189 Tryz.prog Tryz.lays189_ren:={
 mixed:=by kernel_rfl
 f125:=Tryz.func68.trans (congrArg some (by kernel_rfl))
 f128:=Tryz.func128.trans (congrArg some (by kernel_rfl))
 f129:=Tryz.func129.trans (congrArg some (by kernel_rfl))
 f189:=Tryz.func42.trans (congrArg some (by kernel_rfl))
 f215:=Tryz.func69.trans (congrArg some (by kernel_rfl))
 f216:=Tryz.func44.trans (congrArg some (by kernel_rfl))
 f257:=Tryz.func67.trans (congrArg some (by kernel_rfl))
 f294:=Tryz.func120.trans (congrArg some (by kernel_rfl))
 f295:=Tryz.func121.trans (congrArg some (by kernel_rfl))
 f296:=Tryz.func122.trans (congrArg some (by kernel_rfl))
 f297:=Tryz.func123.trans (congrArg some (by kernel_rfl))
 f298:=Tryz.func124.trans (congrArg some (by kernel_rfl))
 f299:=Tryz.func125.trans (congrArg some (by kernel_rfl))
 f300:=Tryz.func126.trans (congrArg some (by kernel_rfl))
 f301:=Tryz.func127.trans (congrArg some (by kernel_rfl))
 f328:=Tryz.func140.trans (congrArg some (by kernel_rfl))
 f329:=Tryz.func141.trans (congrArg some (by kernel_rfl))
 f330:=Tryz.func142.trans (congrArg some (by kernel_rfl))
 f331:=Tryz.func143.trans (congrArg some (by kernel_rfl))
 f332:=Tryz.func144.trans (congrArg some (by kernel_rfl))
 f343:=Tryz.func155.trans (congrArg some (by kernel_rfl))
 t0:=Tryz.underlying0
 a0:=Tryz.isAgg0
 z0:=Tryz.sizeOf0
 v0:=Tryz.zeroValue0
 t3:=Tryz.underlying3
 a3:=Tryz.isAgg3
 z3:=Tryz.sizeOf3
 v3:=Tryz.zeroValue3
 t4:=Tryz.underlying4
 a4:=Tryz.isAgg4
 z4:=Tryz.sizeOf4
 v4:=Tryz.zeroValue4
 t5:=Tryz.underlying5
 a5:=Tryz.isAgg5
 z5:=Tryz.sizeOf5
 v5:=Tryz.zeroValue5
 t9:=Tryz.underlying9
 a9:=Tryz.isAgg9
 z9:=Tryz.sizeOf9
 v9:=Tryz.zeroValue9
 t28:=Tryz.underlying22
 a28:=Tryz.isAgg22
 z28:=Tryz.sizeOf22
 v28:=Tryz.zeroValue22
 t46:=Tryz.underlying28
 a46:=Tryz.isAgg28
 z46:=Tryz.sizeOf28
 v46:=Tryz.zeroValue28
 t51:=Tryz.underlying152
 a51:=Tryz.isAgg152
 z51:=Tryz.sizeOf152
 v51:=Tryz.zeroValue152
 t53:=Tryz.underlying44
 a53:=Tryz.isAgg44
 z53:=Tryz.sizeOf44
 v53:=Tryz.zeroValue44
 t131:=Tryz.underlying68
 a131:=Tryz.isAgg68
 z131:=Tryz.sizeOf68
 v131:=Tryz.zeroValue68
 t182:=Tryz.underlying145
 a182:=Tryz.isAgg145
 z182:=Tryz.sizeOf145
 v182:=Tryz.zeroValue145
 t183:=Tryz.underlying146
 a183:=Tryz.isAgg146
 z183:=Tryz.sizeOf146
 v183:=Tryz.zeroValue146
 t218:=Tryz.underlying161
 a218:=Tryz.isAgg161
 z218:=Tryz.sizeOf161
 v218:=Tryz.zeroValue161
 t222:=Tryz.underlying165
 a222:=Tryz.isAgg165
 z222:=Tryz.sizeOf165
 v222:=Tryz.zeroValue165
 t228:=Tryz.underlying173
 a228:=Tryz.isAgg173
 z228:=Tryz.sizeOf173
 v228:=Tryz.zeroValue173
 t229:=Tryz.underlying87
 a229:=Tryz.isAgg87
 z229:=Tryz.sizeOf87
 v229:=Tryz.zeroValue87 }
open Go.Sort Go.RowKit in
theorem Tryz.slices_Sort_int (blk off cap:Nat) (zs:List Int) (w:World) (hH:Holds (Value.int .i64) w blk off zs.toArray) (hblk:blk<w.heap.size) (hsz:zs.length<4611686018427387904) :
 Calls Tryz.prog 42 #[.slice (some ⟨blk,off,none⟩) zs.length cap] w fun e w'=>
  e = .returned (.tuple #[])∧∃ n os,w' = grow (putRow (Value.int .i64) (Sort.ahead w n) blk off (zs.mergeSort fun x y=>decide (x≤y)).toArray) os:=Any.slices_Sort_int Tryz.lays189 blk off cap zs w hH hblk hsz
open Go.RowKit Go.Sort in
theorem Tryz.slices_Sort_int_none (p:Option Addr) (cap:Nat) (w:World) :
 Calls Tryz.prog 42 #[.slice p 0 cap] w fun e w'=>e = .returned (.tuple #[])∧w' = w:=Any.slices_Sort_int_none Tryz.lays189 p cap w
def Tryz.laysNm216_ren:Go.Shelf.Ren:=⟨fun|16=>24|n=>n,fun|24=>26|9=>9|4=>4|n=>n,fun|n=>n⟩
theorem Tryz.laysNm216:Go.Proofs.Lays2.n16 Tryz.prog Tryz.laysNm216_ren:={
 mixed:=by kernel_rfl
 f16:=Tryz.func24.trans (congrArg some (by kernel_rfl))
 t4:=Tryz.underlying4
 a4:=Tryz.isAgg4
 z4:=Tryz.sizeOf4
 v4:=Tryz.zeroValue4
 t9:=Tryz.underlying9
 a9:=Tryz.isAgg9
 z9:=Tryz.sizeOf9
 v9:=Tryz.zeroValue9
 t24:=Tryz.underlying26
 a24:=Tryz.isAgg26
 z24:=Tryz.sizeOf26
 v24:=Tryz.zeroValue26
 i9:=by kernel_rfl }
open Go.RowKit Go.Lib in
theorem Tryz.slices_Clone_string (b off n c:Nat) (zs:List ByteArray) (w:World) (hz:n≤zs.length) (hbig:n*16≤140737488355328) (hc:∀ j,j<zs.length→w.cell? ⟨b,off+j,none⟩ = some (.string (zs.getD j ByteArray.empty))) :
 Calls Tryz.prog 24 #[.slice (some ⟨b,off,none⟩) n c] w fun e w'=>∃ v',e = .returned v'∧w'.ownsRow w.heap.size 9 1 v' n ((zs.take n).map (Value.string))∧v' ≠ .slice none 0 0∧Below w.heap.size w w':=Any.slices_Clone_string Tryz.laysNm216 b off n c zs w hz hbig hc
open Go.RowKit Go.Lib in
theorem Tryz.slices_Clone_string_nil (n c:Nat) (w:World) :
 Calls Tryz.prog 24 #[.slice none n c] w fun e w'=>e = .returned (.slice none 0 0)∧w' = w:=Any.slices_Clone_string_nil Tryz.laysNm216 n c w
open Go.RowKit Go.Lib in
theorem Tryz.slices_Clone_string_zero (a:Addr) (c:Nat) (w:World) :
 Calls Tryz.prog 24 #[.slice (some a) 0 c] w fun e w'=>∃ v',e = .returned v'∧w'.ownsRow w.heap.size 9 1 v' 0 []∧v' ≠ .slice none 0 0∧Below w.heap.size w w':=Any.slices_Clone_string_zero Tryz.laysNm216 a c w
def Tryz.lays112_ren:Go.Shelf.Ren:=⟨fun|112=>132|n=>n,fun|28=>22|3=>3|4=>4|0=>0|n=>n,fun|n=>n⟩
theorem Tryz.lays112:Go.Proofs.Lays.n112 Tryz.prog Tryz.lays112_ren:={
 mixed:=by kernel_rfl
 f112:=Tryz.func132.trans (congrArg some (by kernel_rfl))
 t0:=Tryz.underlying0
 a0:=Tryz.isAgg0
 z0:=Tryz.sizeOf0
 v0:=Tryz.zeroValue0
 t3:=Tryz.underlying3
 a3:=Tryz.isAgg3
 z3:=Tryz.sizeOf3
 v3:=Tryz.zeroValue3
 t4:=Tryz.underlying4
 a4:=Tryz.isAgg4
 z4:=Tryz.sizeOf4
 v4:=Tryz.zeroValue4
 t28:=Tryz.underlying22
 a28:=Tryz.isAgg22
 z28:=Tryz.sizeOf22
 v28:=Tryz.zeroValue22 }
open Go.RowKit Go.Lib Go.Sort in
theorem Tryz.slices_Reverse_int (blk off cap:Nat) (zs:List Int) (w:World) (hH:Holds (Value.int .i64) w blk off zs.toArray) (hsz:zs.length≤9223372036854775807) :
 Calls Tryz.prog 132 #[.slice (some ⟨blk,off,none⟩) zs.length cap] w fun e w'=>e = .returned (.tuple #[])∧∃ n,w' = putRow (Value.int .i64) (Sort.ahead w n) blk off zs.reverse.toArray:=Any.slices_Reverse_int Tryz.lays112 blk off cap zs w hH hsz
open Go.RowKit Go.Lib Go.Sort in
theorem Tryz.slices_Reverse_int_empty (a:Option Addr) (cap:Nat) (w:World) :
 Calls Tryz.prog 132 #[.slice a 0 cap] w fun e w'=>e = .returned (.tuple #[])∧w' = w:=Any.slices_Reverse_int_empty Tryz.lays112 a cap w
def Tryz.lays190_ren:Go.Shelf.Ren:=⟨fun|190=>89|125=>68|258=>135|128=>128|129=>129|302=>146|303=>147|304=>148|305=>149|306=>150|307=>151|308=>152|309=>153|310=>154|333=>156|329=>141|330=>142|334=>157|335=>158|336=>159|344=>160|n=>n,fun|31=>26|9=>9|3=>3|46=>28|0=>0|51=>152|53=>44|4=>4|183=>146|182=>145|131=>68|5=>5|218=>161|222=>165|228=>173|229=>87|n=>n,fun|n=>n⟩
theorem Tryz.lays190:Go.Proofs.Lays.n190 Tryz.prog Tryz.lays190_ren:={
 mixed:=by kernel_rfl
 f125:=Tryz.func68.trans (congrArg some (by kernel_rfl))
 f128:=Tryz.func128.trans (congrArg some (by kernel_rfl))
 f129:=Tryz.func129.trans (congrArg some (by kernel_rfl))
 f190:=Tryz.func89.trans (congrArg some (by kernel_rfl))
 f258:=Tryz.func135.trans (congrArg some (by kernel_rfl))
 f302:=Tryz.func146.trans (congrArg some (by kernel_rfl))
 f303:=Tryz.func147.trans (congrArg some (by kernel_rfl))
 f304:=Tryz.func148.trans (congrArg some (by kernel_rfl))
 f305:=Tryz.func149.trans (congrArg some (by kernel_rfl))
 f306:=Tryz.func150.trans (congrArg some (by kernel_rfl))
 f307:=Tryz.func151.trans (congrArg some (by kernel_rfl))
 f308:=Tryz.func152.trans (congrArg some (by kernel_rfl))
 f309:=Tryz.func153.trans (congrArg some (by kernel_rfl))
 f310:=Tryz.func154.trans (congrArg some (by kernel_rfl))
 f329:=Tryz.func141.trans (congrArg some (by kernel_rfl))
 f330:=Tryz.func142.trans (congrArg some (by kernel_rfl))
 f333:=Tryz.func156.trans (congrArg some (by kernel_rfl))
 f334:=Tryz.func157.trans (congrArg some (by kernel_rfl))
 f335:=Tryz.func158.trans (congrArg some (by kernel_rfl))
 f336:=Tryz.func159.trans (congrArg some (by kernel_rfl))
 f344:=Tryz.func160.trans (congrArg some (by kernel_rfl))
 t0:=Tryz.underlying0
 a0:=Tryz.isAgg0
 z0:=Tryz.sizeOf0
 v0:=Tryz.zeroValue0
 t3:=Tryz.underlying3
 a3:=Tryz.isAgg3
 z3:=Tryz.sizeOf3
 v3:=Tryz.zeroValue3
 t4:=Tryz.underlying4
 a4:=Tryz.isAgg4
 z4:=Tryz.sizeOf4
 v4:=Tryz.zeroValue4
 t5:=Tryz.underlying5
 a5:=Tryz.isAgg5
 z5:=Tryz.sizeOf5
 v5:=Tryz.zeroValue5
 t9:=Tryz.underlying9
 a9:=Tryz.isAgg9
 z9:=Tryz.sizeOf9
 v9:=Tryz.zeroValue9
 t31:=Tryz.underlying26
 a31:=Tryz.isAgg26
 z31:=Tryz.sizeOf26
 v31:=Tryz.zeroValue26
 t46:=Tryz.underlying28
 a46:=Tryz.isAgg28
 z46:=Tryz.sizeOf28
 v46:=Tryz.zeroValue28
 t51:=Tryz.underlying152
 a51:=Tryz.isAgg152
 z51:=Tryz.sizeOf152
 v51:=Tryz.zeroValue152
 t53:=Tryz.underlying44
 a53:=Tryz.isAgg44
 z53:=Tryz.sizeOf44
 v53:=Tryz.zeroValue44
 t131:=Tryz.underlying68
 a131:=Tryz.isAgg68
 z131:=Tryz.sizeOf68
 v131:=Tryz.zeroValue68
 t182:=Tryz.underlying145
 a182:=Tryz.isAgg145
 z182:=Tryz.sizeOf145
 v182:=Tryz.zeroValue145
 t183:=Tryz.underlying146
 a183:=Tryz.isAgg146
 z183:=Tryz.sizeOf146
 v183:=Tryz.zeroValue146
 t218:=Tryz.underlying161
 a218:=Tryz.isAgg161
 z218:=Tryz.sizeOf161
 v218:=Tryz.zeroValue161
 t222:=Tryz.underlying165
 a222:=Tryz.isAgg165
 z222:=Tryz.sizeOf165
 v222:=Tryz.zeroValue165
 t228:=Tryz.underlying173
 a228:=Tryz.isAgg173
 z228:=Tryz.sizeOf173
 v228:=Tryz.zeroValue173
 t229:=Tryz.underlying87
 a229:=Tryz.isAgg87
 z229:=Tryz.sizeOf87
 v229:=Tryz.zeroValue87 }
open Go.Sort Go.RowKit in
theorem Tryz.slices_Sort_string (blk off cap:Nat) (ss:List (List UInt8)) (w:World) (hH:Holds encStr w blk off ss.toArray) (hblk:blk<w.heap.size) (hsz:ss.length<4611686018427387904) :
 Calls Tryz.prog 89 #[.slice (some ⟨blk,off,none⟩) ss.length cap] w fun e w'=>
  e = .returned (.tuple #[])∧∃ n os,w' = grow (putRow encStr (Sort.ahead w n) blk off (ss.mergeSort fun x y=>decide (x≤y)).toArray) os:=Any.slices_Sort_string Tryz.lays190 blk off cap ss w hH hblk hsz
open Go.RowKit Go.Sort in
theorem Tryz.slices_Sort_string_none (p:Option Addr) (cap:Nat) (w:World) :
 Calls Tryz.prog 89 #[.slice p 0 cap] w fun e w'=>e = .returned (.tuple #[])∧w' = w:=Any.slices_Sort_string_none Tryz.lays190 p cap w
def Tryz.lays194_ren:Go.Shelf.Ren:=⟨fun|194=>90|n=>n,fun|31=>26|9=>9|3=>3|4=>4|0=>0|n=>n,fun|n=>n⟩
theorem Tryz.lays194:Go.Proofs.Lays.n194 Tryz.prog Tryz.lays194_ren:={
 mixed:=by kernel_rfl
 f194:=Tryz.func90.trans (congrArg some (by kernel_rfl))
 t0:=Tryz.underlying0
 a0:=Tryz.isAgg0
 z0:=Tryz.sizeOf0
 v0:=Tryz.zeroValue0
 t3:=Tryz.underlying3
 a3:=Tryz.isAgg3
 z3:=Tryz.sizeOf3
 v3:=Tryz.zeroValue3
 t4:=Tryz.underlying4
 a4:=Tryz.isAgg4
 z4:=Tryz.sizeOf4
 v4:=Tryz.zeroValue4
 t9:=Tryz.underlying9
 a9:=Tryz.isAgg9
 z9:=Tryz.sizeOf9
 v9:=Tryz.zeroValue9
 t31:=Tryz.underlying26
 a31:=Tryz.isAgg26
 z31:=Tryz.sizeOf26
 v31:=Tryz.zeroValue26 }
open Go.RowKit Go.Lib Go.Sort in
theorem Tryz.slices_Compact_string (blk off cap:Nat) (zs:List (List UInt8)) (w:World) (hH:Holds encStr w blk off zs.toArray) (hsz:zs.length≤9223372036854775807) (hcap:zs.length≤cap) :
 Calls Tryz.prog 90 #[.slice (some ⟨blk,off,none⟩) zs.length cap] w fun e w'=>e = .returned (.slice (some ⟨blk,off,none⟩) (Lib.compact zs).length cap)∧∃ q,w' = putRow encStr (Sort.ahead w q) blk off (Lib.compact zs++List.replicate (zs.length-(Lib.compact zs).length) []).toArray:=Any.slices_Compact_string Tryz.lays194 blk off cap zs w hH hsz hcap
open Go.RowKit Go.Lib Go.Sort in
theorem Tryz.slices_Compact_string_empty (a:Option Addr) (cap:Nat) (w:World) :
 Calls Tryz.prog 90 #[.slice a 0 cap] w fun e w'=>e = .returned (.slice a 0 cap)∧w' = w:=Any.slices_Compact_string_empty Tryz.lays194 a cap w
end Go.Proofs

namespace Go.Proofs.YtoalfckdmoahoaaGreatDoor
open Go Go.Proofs Go.RowKit Go.Shelf Go.Sort
attribute [local go_sem] Oper.semAt_some
def upto {α:Type} (f:Nat→α) (k:Nat):List α:=(List.range k).map f
theorem qrq {α:Type} (f:Nat→α) (k:Nat):upto f (k+1)=upto f k++[f k]:=by simp[upto,List.range_succ]
theorem qpw {α:Type} (f:Nat→α) (k:Nat):(upto f k).length=k:=by simp[upto]
theorem qamb (zs:List Int):upto (fun j=>zs[j]?.getD 0) zs.length=zs:=by
 apply List.ext_getElem
 · simp[upto]
 · intro i h1 h2;simp[upto,h2]
theorem qsfb (zs:List Int) {k:Nat} (hk:k≤zs.length):upto (fun j=>zs[j]?.getD 0) k=zs.take k:=by
 apply List.ext_getElem
 · simp[upto,hk]
 · intro i h1 h2;have:i<zs.length:=by simp[upto] at h1;omega
   simp[upto,this]
set_option maxRecDepth 100000 in
set_option maxHeartbeats 2000000 in
theorem qxbb (F:Fence) (n:Nat) (h7:F.fn 43) (hro:F.round=none) (hn:1≤n) (l Bs n₀ b off len cap:Nat) (zs:List Int) (hreach:len*8≤140737488351232) (hb:b<n₀) (J Jx:List Int→World→Prop)
 (hY:∀ pre x W,J pre W→pre.length<len→YieldAt F (n-1) Tryz.prog l #[.int .i64 x] W fun e W'=>
  (e = .returned (.bool true)∧J (pre++[x]) W'∧Below n₀ W W')∨(e = .returned (.bool false)∧Jx (pre++[x]) W'))
 (W:World) (hBs:W.cell? ⟨Bs,0,none⟩ = some (.slice (some ⟨b,off,none⟩) len cap)) (hc:∀ j,j<len→W.cell? ⟨b,off+j,none⟩ = some (.int .i64 (zs[j]?.getD 0))) (h0:J [] W) :
 CallsIn F n Tryz.prog 43 #[.func (.yield l) #[] #[],.pointer (some ⟨Bs,0,none⟩)] W fun e W'=>(∃ v,e = .returned v)∧
  ((∃ ys,ys=upto (fun j=>zs[j]?.getD 0) len∧J ys W')∨(∃ pre,(∃ k,k≤len∧pre=upto (fun j=>zs[j]?.getD 0) k)∧Jx pre W')):=by
 refine callsIn_of_wp Tryz.func43 rfl h7 ?_ hro;simp only[Tryz.ntmps43,List.size_toArray,List.length_cons,List.length_nil,Nat.reduceAdd,Nat.reduceSub,Array.replicate_succ,Array.replicate_zero,List.push_toArray,List.append_toArray,List.nil_append,List.cons_append]
 gi_wp2
 gi_loopw [7] (fun i wr=>∃ k:Nat,k≤len∧i = .int .i64 k∧J (upto (fun j=>zs[j]?.getD 0) k) wr∧Below n₀ W wr)
  (fun i _=>len-(intOf i).toNat)
 case atStart=>exact ⟨0,Nat.zero_le _,rfl,h0,Below.refl _ _⟩
 case round=>
  obtain ⟨k,hk,rfl,hJs,hnx⟩:=hrel;have hcx:k<len→wr.cell? ⟨b,off+k,none⟩ = some (.int .i64 (zs[k]?.getD 0)):=fun h=>(hnx.cell (p:=⟨b,off+k,none⟩) hb).trans (hc k h)
  by_cases hlt:k<len
  · obtain ⟨fn,tmps,assign,body,hy,hR⟩:=hY _ (zs[k]?.getD 0) wr hJs (by rw[qpw];exact hlt)
    have hcx':=hcx hlt
    gi_wp2
    refine hR.mono ?_;rintro e W3 (⟨rfl,hJ3,hk3⟩|⟨rfl,hJx3⟩)
    · gi_wp2
      go_roundw
      case rel=>exact ⟨k+1,by omega,by simp,by rw[qrq];exact hJ3,hnx.trans hk3⟩
      case measure=>simp[intOf];omega
    · gi_wp2
      refine bodyPost_ret (results_none rfl _ _ _) rfl ?_;exact ⟨⟨_,rfl⟩,.inr ⟨_,⟨k+1,by omega,(qrq _ _).symm⟩,hJx3⟩⟩
  · obtain rfl:k=len:=by omega
    gi_wp2
    go_end0
    exact ⟨⟨_,rfl⟩,.inl ⟨_,rfl,hJs⟩⟩
def IntsAt (n₀:Nat) (W:World) (sv:Value) (zs:List Int):Prop:=
 ((∃ p cap,sv = .slice p 0 cap)∧zs=[])∨∃ b off cap,sv = .slice (some ⟨b,off,none⟩) zs.length cap∧b<n₀∧∀ j,j<zs.length→W.cell? ⟨b,off+j,none⟩ = some (.int .i64 (zs[j]?.getD 0))
theorem IntsAt.below {n₀:Nat} {A B:World} (h:Below n₀ A B) {sv:Value} {zs:List Int}:IntsAt n₀ A sv zs→IntsAt n₀ B sv zs
 | .inl e=>.inl e
 | .inr ⟨b,off,cap,e,hb,hc⟩=>.inr ⟨b,off,cap,e,hb,fun j hj=>(h.cell (p:=⟨b,off+j,none⟩) hb).trans (hc j hj)⟩
set_option maxRecDepth 100000 in
set_option maxHeartbeats 1000000 in
theorem qan (F:Fence) (n:Nat) (h7:F.fn 43) (hro:F.round=none) (l Bs:Nat) (p:Option Addr) (cap:Nat) (J:List Int→World→Prop) (W:World) (hBs:W.cell? ⟨Bs,0,none⟩ = some (.slice p 0 cap)) (h0:J [] W) :
 CallsIn F n Tryz.prog 43 #[.func (.yield l) #[] #[],.pointer (some ⟨Bs,0,none⟩)] W fun e W'=>(∃ v,e = .returned v)∧J [] W':=by
 refine callsIn_of_wp Tryz.func43 rfl h7 ?_ hro;simp only[Tryz.ntmps43,List.size_toArray,List.length_cons,List.length_nil,Nat.reduceAdd,Nat.reduceSub,Array.replicate_succ,Array.replicate_zero,List.push_toArray,List.append_toArray,List.nil_append,List.cons_append]
 gi_wp2
 gi_loopw [7] (fun i wr=>i = .int .i64 0∧J [] wr) (fun _ _=>0)
 case atStart=>exact ⟨rfl,h0⟩
 case round=>
  obtain ⟨rfl,hJs⟩:=hrel
  gi_wp2
  go_end0
  exact ⟨⟨_,rfl⟩,hJs⟩
set_option maxHeartbeats 1000000 in
theorem qglb (F:Fence) (n:Nat) (h5:F.fn 23) (hro:F.round=none) (a:Option Addr) (len cap:Nat) (w:World) :
 CallsIn F n Tryz.prog 23 #[.slice a len cap] w fun e w'=>e = .returned (.func (.func 43) #[] #[.pointer (some ⟨w.heap.size,0,none⟩)])∧w' = w.alloc (.cells #[.slice a len cap] 22):=by
 refine callsIn_of_wp Tryz.func23 rfl h5 ?_ hro;simp only[Tryz.ntmps23,List.size_toArray,List.length_cons,List.length_nil,Nat.reduceAdd,Nat.reduceSub,Array.replicate_succ,Array.replicate_zero,List.push_toArray,List.append_toArray,List.nil_append,List.cons_append]
 gi_wp2
 go_ret
 exact ⟨rfl,rfl⟩
theorem qut (F:Fence) (n:Nat) (h7:F.fn 43) (hro:F.round=none) (hn:1≤n) (Bs n₀:Nat) (sv:Value) (zs:List Int) (hreach:zs.length*8≤140737488351232) (w:World) (hBs:Bs<w.heap.size) (hn₀:n₀≤w.heap.size)
 (hc:w.cell? ⟨Bs,0,none⟩ = some sv) (hI:IntsAt n₀ w sv zs) :
 SeqStopsK F n Tryz.prog 43 #[.pointer (some ⟨Bs,0,none⟩)] (fun x:Int=>#[Value.int .i64 x]) (Below n₀) (fun ys=>ys=zs) (fun pre=>pre <+: zs) zs.length w:=fun l J Jx W hW _ _ hY h0=>by
 have hc':=(hW.cell (p:=⟨Bs,0,none⟩) hBs).trans hc;rcases hI.below (hW.mono hn₀) with ⟨⟨p,cap,rfl⟩,rfl⟩|⟨b,off,cap,rfl,hb,hcs⟩
 · exact (qan F n h7 hro l Bs p cap J W hc' h0).mono fun e W' ⟨he,hj⟩=>⟨he,.inl ⟨_,rfl,hj⟩⟩
 · refine (qxbb F n h7 hro hn l Bs n₀ b off zs.length cap zs hreach hb J Jx hY W hc' hcs h0).mono ?_;rintro e W' ⟨he,⟨ys,rfl,hj⟩|⟨pre,⟨k,hk,rfl⟩,hj⟩⟩
   · exact ⟨he,.inl ⟨_,qamb zs,hj⟩⟩
   · exact ⟨he,.inr ⟨_,by rw[qsfb zs hk];exact List.take_prefix _ _,hj⟩⟩
theorem qwwb:(Tryz.prog.info? 3).map (fun i=>(i.zero,i.size,i.bytes))=some (some (.int .i64 0),1,8):=by kernel_rfl
set_option maxRecDepth 100000 in
set_option maxHeartbeats 2000000 in
theorem qer (F:Fence) (n:Nat) (h3:F.fn 66) (h5:F.fn 43) (hro:F.round=none) (hn:3≤n) (Bv:Nat) (sv:Value) (xs:List Int) (hbytes:xs.length*8≤140737488351232) (w:World)
 (hBv:Bv<w.heap.size) (hcv:w.cell? ⟨Bv,0,none⟩ = some sv) (hL:IntsAt w.heap.size w sv xs) :
 CallsIn F n Tryz.prog 66 #[.slice none 0 0,.func (.func 43) #[] #[.pointer (some ⟨Bv,0,none⟩)]] w fun e W'=>∃ v,e = .returned v∧W'.ownsRow w.heap.size 3 1 v xs.length (xs.map (Value.int .i64))∧(v = .slice none 0 0↔xs=[])∧Below w.heap.size w W':=by
 have h1:1≤n:=by omega
 obtain ⟨i0,hi,hz0,hz1,hz2⟩:=info_parts qwwb;refine callsIn_of_wp_marks Tryz.func66 rfl h3 ?_ hro;simp only[Tryz.ntmps66,List.size_toArray,List.length_cons,List.length_nil,Nat.reduceAdd,Nat.reduceSub,Array.replicate_succ,Array.replicate_zero,List.push_toArray,List.append_toArray,List.nil_append,List.cons_append]
 gi_wp2
 have bO:=Boxed.new w 22 (.slice none 0 0);have hB0:Below w.heap.size w (w.alloc (.cells #[.slice none 0 0] 22)):=(Below.refl _ w).alloc (Nat.le_refl _) _
 refine wpIn_rangeFunc_ownG hro h1 (gf:=43) (lb:=#[.pointer (some ⟨Bv,0,none⟩)]) rfl h5 (enters_of Tryz.func43 (by kernel_rfl) rfl)
  (qut F (n-1) h5 hro (by omega) Bv w.heap.size sv xs hbytes _ (by simp;omega) (by simp) ((hB0.cell (p:=⟨Bv,0,none⟩) hBv).trans hcv) (hL.below hB0)) belowK_t (belowK_b (by simp)) (Below.refl _ _) (fun _=>rfl)
  (fun pre W=>(∃ v,Boxed W w.heap.size 22 v∧W.ownsRow w.heap.size 3 1 v pre.length (pre.map (Value.int .i64))∧(v = .slice none 0 0↔pre=[]))∧Below w.heap.size w W)
  (fun _ _ _=>False)
  (OwnFrom.and (Own.from (holdsRow_own w.heap.size w.heap.size 22 3 1 (fun pre=>pre.length) (fun pre=>pre.map (Value.int .i64)) (fun pre v=>v = .slice none 0 0↔pre=[])) _) (ownFrom_below (Nat.le_refl _) (by simp)))
  (fun _ _ _ _ _ hs _ _=>hs)
  ⟨⟨_,bO,World.ownsRow_nil _ _ _ _,by simp⟩,hB0⟩
  (fun x=>{ tmps:=#[.slice none 0 0,.func (.func 43) #[] #[.pointer (some ⟨Bv,0,none⟩)],.pointer (some ⟨w.heap.size,0,none⟩),undef,.slice none 0 0,.int .i64 x,.func (.func 43) #[] #[.pointer (some ⟨Bv,0,none⟩)],.int .i64 x,undef,undef,undef,undef,undef],defers:=[] }) ?assign ?body ?done ?stop
 case assign=>
  intro l x W K hK
  gi_wp2
  exact hK
 case body=>
  rintro l pre x W ⟨⟨v,hv,hrow,hnil⟩,hB⟩ hlt;have hc:=hv.cell
  gi_wp2_with (gi_at_builtin;refine wpListIn_append_own _ rfl _ _ 22 rfl w.heap.size 3 i0 (.int .i64 0) 1 8 Tryz.underlying22 hi hz0 hz1 hz2 rfl (by decide) _ _ _ rfl (hrow.alloc _) ⟨W.heap.size,0,none⟩ 1 1 [.int .i64 x] rfl rfl (cell_one_new _ _ _) (by simp[Value.oneCell']) (by unfold maxLen;omega) (by omega) (by have:=hB.size;simp;omega) ?_;intro v' w1 hown' hgrow _;obtain ⟨g',cap',rfl⟩:=ownsRow_succ hown';obtain ⟨hv1,hv2,hr2,hk2,hb2⟩:=hv.appended (by decide) hrow hB.size (Nat.le_refl _) hown' hgrow;have hc1:=hv1.cell;have hf1:=hv1.frozen)
  exact ⟨hk2.from _,hb2,⟨_,hv2,by simpa using hr2,by simp⟩,hB.trans hb2⟩
 case done=>
  rintro D ys W hD rfl ⟨⟨v,hv,hrow,hnil⟩,hB⟩ hK;have hc:=hv.cell
  gi_wp2
  refine ⟨by simp,.inl ⟨_,_,rfl,run_takeDeferred hK,?_⟩⟩
  exact ⟨_,results_tmp rfl _ _ _,v,rfl,ownsRow_putObj hrow _ hK rfl,hnil,hB.trans (belowK_b (w:=w) (Nat.le_refl _) W D _ _ (by simp at hD;omega) hK rfl rfl)⟩
 case stop=>
  rintro D c pre W _ _ h _;exact h.elim
end Go.Proofs.YtoalfckdmoahoaaGreatDoor

namespace Go.Proofs.YtoalfckdmoahoaaGreatDoor
open Go Am Go.Proofs Go.RowKit Go.Sort
attribute [local go_sem] Oper.semAt_some
set_option maxRecDepth 100000
variable {G:Glob}
set_option maxHeartbeats 1000000 in
theorem qobb (F:Fence) (n:Nat) (h8:F.fn 41) (h11:F.fn 66) (h5:F.fn 43) (hro:F.round=none) (hn:4≤n) (Bv:Nat) (sv:Value) (xs:List Int) (hbytes:xs.length*8≤140737488351232) (w:World)
 (hBv:Bv<w.heap.size) (hcv:w.cell? ⟨Bv,0,none⟩ = some sv) (hL:IntsAt w.heap.size w sv xs) :
 CallsIn F n Tryz.prog 41 #[.func (.func 43) #[] #[.pointer (some ⟨Bv,0,none⟩)]] w fun e W'=>∃ v,e = .returned v∧W'.ownsRow w.heap.size 3 1 v xs.length (xs.map (Value.int .i64))∧(v = .slice none 0 0↔xs=[])∧Below w.heap.size w W':=by
 have h1:1≤n:=by omega
 refine callsIn_of_wp Tryz.func41 rfl h8 ?_ hro;simp only[Tryz.ntmps41,List.size_toArray,List.length_cons,List.length_nil,Nat.reduceAdd,Nat.reduceSub,Array.replicate_succ,Array.replicate_zero,List.push_toArray,List.append_toArray,List.nil_append,List.cons_append]
 gi_wp2_with (gi_at_call 66;refine (qer F (n-1) h11 h5 hro (by omega) Bv sv xs hbytes _ hBv hcv hL).mono ?_;rintro e w' ⟨v,rfl,hrow,hnil,hb⟩)
 go_ret
 exact ⟨v,rfl,hrow,hnil,hb⟩
def boxB (xs:List Int):Blk:={ fz:=false,ap:=false,ty:=22,sz:=1,rows:=[[.d (numsD xs)]] }
def intB (fz:Bool) (xs:List Int):Blk:=rowB fz 3 (D.int .i64) xs
theorem qoub (b:Blk):updH (hOf []) 0 b=hOf [b]:=by
 funext x
 cases x with
 | zero=>rfl
 | succ x=>simp[updH,hOf]
theorem qkac (a b:Blk):updH (hOf [a]) 1 b=hOf [a,b]:=by
 funext x
 match x with
 | 0=>rfl
 | 1=>rfl
 | x+2=>simp[updH,hOf]
theorem qnx {w:World} {C:Com} {xs:List Int} {v:Value} (hcom:∀ r o,C r o→r<w.heap.size) (h:RepD w C (numsD xs) v):(∃ a len cap,v = .slice a len cap)∧IntsAt w.heap.size w v xs:=by
 unfold numsD at h;generalize hys:xs.map numR=ys at h;cases h with
 | nil=>
  have:xs=[]:=List.map_eq_nil_iff.1 hys;subst this;exact ⟨⟨_,_,_,rfl⟩,.inl ⟨⟨none,0,rfl⟩,rfl⟩⟩
 | nilA a=>
  have:xs=[]:=List.map_eq_nil_iff.1 hys;subst this;exact ⟨⟨_,_,_,rfl⟩,.inl ⟨⟨some a,0,rfl⟩,rfl⟩⟩
 | sl _ r o cap sz vs hcap hsz hC hcell hrec=>
  subst hys;refine ⟨⟨_,_,_,rfl⟩,?_⟩
  by_cases h0:xs=[]
  · subst h0;exact .inl ⟨⟨_,cap,rfl⟩,rfl⟩
  · have hpos : 0 < (xs.map numR).length := by
     cases xs with
     | nil=>exact absurd rfl h0
     | cons a l=>simp
    have hs1:sz=1:=by
     have:=hsz 0 hpos;simp[numR] at this;exact this.symm
    subst hs1;refine .inr ⟨r,o,cap,by simp,hcom r _ (hC 0 0 hpos (by omega)),fun j hj=>?_⟩
    have hj':j<(xs.map numR).length:=by simpa using hj
    have hc:=(hcell j 0 hj' (by omega)).1
    have hr:=hrec j 0 hj' (by simp[numR])
    simp only[List.getElem_map,numR,List.getElem_cons_zero] at hr;generalize vs j 0=u at hr hc;have:u = .int .i64 xs[j]:=by cases hr;rfl
    rw[this] at hc
    simpa [hj] using hc
theorem quv:Body Tryz.prog 23:=⟨Tryz.f23,Tryz.func23,by kernel_rfl,by kernel_rfl⟩
theorem qar:Body Tryz.prog 41:=⟨Tryz.f41,Tryz.func41,by kernel_rfl,by kernel_rfl⟩
theorem qlbb:Body Tryz.prog 42:=⟨Tryz.f42,Tryz.func42,by kernel_rfl,by kernel_rfl⟩
theorem qno:Body Tryz.prog 21:=⟨Tryz.f21,Tryz.func21,by kernel_rfl,by kernel_rfl⟩
theorem qqfb (xs:List Int):CC Tryz.prog G 23 [] [.d (numsD xs)] [boxB xs] (.clo (.func 43) [] [.ptr 0 1 0 0]):=by
 refine ⟨quv,fun w C ρ vs hR hG hv=>?_⟩
 obtain ⟨hlen,hv⟩:=hv
 obtain ⟨v,rfl⟩:∃ v,vs=[v]:=by
  match vs,hlen with
  | [v],_=>exact ⟨v,rfl⟩
 have hp:=hv 0 (by simp) (by simp)
 simp only[List.getElem_cons_zero] at hp;have hd:RepD w C (numsD xs) v:=by cases hp;assumption
 obtain ⟨⟨a,len,cap,rfl⟩,_⟩:=qnx (fun r o hc=>hR.com_lt hc) hd
 refine (callsIn_wide.1 (qglb Fence.wide 5 trivial rfl a len cap w)).mono ?_;rintro e w' ⟨rfl,rfl⟩;have hold:∀ blk0,hOf [] 0=some blk0→(boxB xs).sz=blk0.sz∧blk0.rows.length<(boxB xs).rows.length:=fun blk0 h=>by simp[hOf] at h
 have hf:Fits w C ρ (hOf []) (boxB xs) #[.slice a len cap]:=by
  refine ⟨by simp[boxB],fun i h=>?_,fun i j hi hj=>?_⟩
  · have hi:i=0:=by simp[boxB] at h;omega
    subst hi;rfl
  · have hi0:i=0:=by simp[boxB] at hi;omega
    subst hi0;have hj0:j=0:=by simp[boxB] at hj;omega
    subst hj0;exact ⟨_,by simp[boxB],rfl,.d _ _ hd⟩
 have k1:=qri hR hold hf rfl;have k2:=ext_new (cs:=#[.slice a len cap]) hR hold;rw[qoub] at k1 k2;refine ⟨_,C,_,rfl,k1,k2,.clo _ [] [.ptr 0 1 0 0] [] [.pointer (some ⟨w.heap.size,0,none⟩)] rfl rfl (fun i h=>by simp at h) fun i h h'=>?_⟩
 have hi0:i=0:=by simp at h;omega
 subst hi0;exact .ptr 0 1 0 0 _ (boxB xs) rfl (Nat.le_refl _) rfl fun _=>⟨w.heap.size,1,by rw[qm];rfl,rfl⟩
theorem qtbb (xs:List Int) (hx:xs.length<1000000000):CC Tryz.prog G 41 [boxB xs] [.clo (.func 43) [] [.ptr 0 1 0 0]] [boxB xs,intB false xs] (.own 1 xs.length 0 xs.length):=by
 refine ⟨qar,fun w C ρ vs hR hG hv=>?_⟩
 obtain ⟨hlen,hv⟩:=hv
 obtain ⟨v,rfl⟩:∃ v,vs=[v]:=by
  match vs,hlen with
  | [v],_=>exact ⟨v,rfl⟩
 have hp:=hv 0 (by simp) (by simp)
 simp only[List.getElem_cons_zero] at hp;have hb0:hOf [boxB xs] 0=some (boxB xs):=rfl
 obtain ⟨r0,hr0,rfl⟩:∃ r0,(∃ s,ρ 0=some (r0,s))∧v = .func (.func 43) #[] #[.pointer (some ⟨r0,0,none⟩)]:=by
  cases hp with
  | clo _ _ _ fv cv hf hc h1 h2=>
   have:fv=[]:=List.eq_nil_of_length_eq_zero hf.symm;subst this
   obtain ⟨p,rfl⟩:∃ p,cv=[p]:=by
    match cv,hc with
    | [p],_=>exact ⟨p,rfl⟩
   have hq:=h2 0 (by simp) (by simp)
   simp only[List.getElem_cons_zero] at hq;cases hq with
   | ptr _ _ _ _ _ blk hb hn h1 h=>
    obtain rfl:boxB xs=blk:=by simpa [hOf] using hb
    obtain ⟨r,s,h3,rfl⟩:=h rfl;exact ⟨r,⟨s,h3⟩,by simp⟩
 obtain ⟨s,hr0⟩:=hr0;have hbk:=hR.blk 0 _ hb0;unfold BlkOK at hbk;rw[hr0] at hbk;obtain ⟨⟨cs,lo,hi,m1,m2,m3,m4,m5,m6,m7⟩,n1,n2⟩:=hbk;obtain ⟨sv,v1,v2,v3⟩:=m7 0 0 (by simp[boxB]) (by simp[boxB])
 simp only[boxB,List.getElem_cons_zero,Nat.zero_mul,Nat.add_zero] at v1 v3;have hd:RepD w C (numsD xs) sv:=by cases v3;assumption
 obtain ⟨_,hI⟩:=qnx (fun r o hc=>hR.com_lt hc) hd
 have hcell:w.cell? ⟨r0,0,none⟩ = some sv:=by rw[qsb,m1];exact v1
 have hlt:r0<w.heap.size:=(Array.getElem?_eq_some_iff.1 m1).1;refine (callsIn_wide.1 (qobb Fence.wide 5 trivial trivial trivial rfl (by omega) r0 sv xs (by omega) w hlt hcell hI)).mono ?_
 rintro e w' ⟨v,rfl,hrow,hnil,hb⟩;have hid:hOf [boxB xs] 1=none:=rfl;rcases hrow.2 with ⟨rfl,hz⟩|⟨g,cap,cur,rfl,hbase,hgb,h1,h2,h3,h4⟩
 · have hx0:xs=[]:=List.eq_nil_of_length_eq_zero hz;obtain ⟨k1,k2⟩:=qbr (blk:=intB false xs) hR hb hid (by rw[hx0];rfl) rfl
   rw[qkac] at k1 k2;refine ⟨_,C,_,rfl,k1,k2,?_⟩;rw[hx0];exact .own 1 0 0 0 _ (intB false []) (by rw[← hx0];rfl) (Nat.le_refl _) rfl fun _=>.inr ⟨if_pos rfl,rfl,rfl,rfl⟩
 · have hsz:cur.size=cap:=by rw[h3,Nat.mul_one]
   have hcur:∀ j (hj:j<xs.length),cur[j]? = some (.int .i64 xs[j]):=fun j hj=>by
    have:(cur.toList.take (xs.length*1))[j]? = (xs.map (Value.int .i64))[j]?:=by rw[h4]
    rw[Nat.mul_one,List.getElem?_take] at this
    simpa [hj] using this
   have hf:Fits w' C ρ (hOf [boxB xs]) (intB false xs) cur:=by
    refine ⟨by simp[intB,rowB];omega,fun i h=>by simp[intB,rowB],fun i j hi hj=>?_⟩
    have hi':i<xs.length:=by simpa [intB,rowB] using hi
    have hj0:j=0:=by simp[intB,rowB] at hj;omega
    subst hj0;refine ⟨.int .i64 xs[i],by simpa [intB,rowB] using hcur i hi',rfl,?_⟩
    simp only[intB,rowB,List.getElem_map,List.getElem_cons_zero];exact .d _ _ (.int _ _)
   have k1:=qzy (blk:=intB false xs) hR hb hid hbase hgb hf rfl;have k2:=ext_add (cs:=cur) (blk:=intB false xs) hR hb hid hbase;rw[qkac] at k1 k2;refine ⟨_,C,_,rfl,k1,k2,?_⟩;exact .own 1 _ 0 _ _ (intB false xs) rfl (by simp[intB,rowB]) rfl fun _=>.inl ⟨g,cur.size,cap,by rw[qm],by simp,h1,by simp[intB,rowB];omega,by omega⟩
theorem qtu:EncOK (Value.int .i64) (D.int .i64):=⟨fun w C x=>.int _ x,fun x=>rfl,fun w C x v h=>by cases h;rfl⟩
theorem qopb (l:List Int) (hl:l.length<4611686018427387904):CC Tryz.prog G 42 [intB false l] [.own 0 l.length 0 l.length] [intB false (sortI l)] (.tup []):=
 qbv (enc:=Value.int .i64) (dE:=D.int .i64) (ty:=3) (g:=sortI) qtu qlbb qwh (fun blk cap l w h1 h2 h3=>Tryz.slices_Sort_int blk 0 cap l w h1 h2 h3) (fun p cap w=>Tryz.slices_Sort_int_none p cap w) l hl
theorem qdk (l:List Int):(Lib.compact l).length≤l.length:=by
 unfold Lib.compact Lib.compactUpTo;rw[List.length_map];refine Nat.le_trans (List.length_filter_le _ _) (by simp)
def tailI (l:List Int):List Int:=Lib.compact l++List.replicate (l.length-(Lib.compact l).length) 0
theorem qnv (l:List Int) (hl:l.length<4611686018427387904):CC Tryz.prog G 21 [intB false l] [.own 0 l.length 0 l.length] [intB true (tailI l)] (.d (numsD (Lib.compact l))):=by
 have h:=qux (G:=G) (enc:=Value.int .i64) (dE:=D.int .i64) (ty:=3) qtu qno (g:=tailI) (k:=fun l=>(Lib.compact l).length)
  (fun l=>by have:=qdk l;simp[tailI];omega) (fun l=>qdk l) (fun blk cap l w h1 h2 h3=>Tryz.slices_Compact_int blk 0 cap l w h1 h2 h3) (fun p cap w=>Tryz.slices_Compact_int_empty p cap w) l hl
 have ht:(tailI l).take (Lib.compact l).length=Lib.compact l:=by simp[tailI]
 simp only[ht] at h;exact h
end Go.Proofs.YtoalfckdmoahoaaGreatDoor

namespace Go.Proofs.YtoalfckdmoahoaaGreatDoor
open Go Am Go.Proofs Go.RowKit Go.Sort
set_option maxRecDepth 100000
variable {G:Glob}
def unI:List (List D)→Option (List Int)
 | []=>some []
 | [.int .i64 n]::r=>(unI r).map (n :: ·)
 | _=>none
def unNums:D→Option (List Int)
 | .sl xs=>unI xs
 | _=>none
theorem qcrb:∀ {xs:List (List D)} {l:List Int},unI xs=some l→xs=l.map numR
 | [],l,h=>by simp[unI] at h;subst h;rfl
 | r::xs,l,h=>by
  unfold unI at h
  split at h
  · rename_i h0;simp at h0
  · rename_i n r' h0;simp only[List.cons.injEq] at h0;obtain ⟨rfl,rfl⟩:=h0;obtain ⟨l',h1,rfl⟩:=Option.map_eq_some_iff.1 h;rw[qcrb h1];rfl
  · simp at h
theorem qvib {d:D} {l:List Int} (h:unNums d=some l):d=numsD l:=by
 unfold unNums at h
 split at h
 · rw[qcrb h];rfl
 · simp at h
theorem qxib:∀ l:List Int,unI (l.map numR)=some l
 | []=>rfl
 | n::l=>by simp only[List.map_cons,numR,unI];rw[qxib l];rfl
theorem qgbb (l:List Int):unNums (numsD l)=some l:=qxib l
def unSt:List (List D)→Option (List (List UInt8))
 | []=>some []
 | [.str n]::r=>(unSt r).map (n :: ·)
 | _=>none
def unStrs:D→Option (List (List UInt8))
 | .sl xs=>unSt xs
 | _=>none
theorem qyhb:∀ {xs:List (List D)} {l:List (List UInt8)},unSt xs=some l→xs=l.map strR
 | [],l,h=>by simp[unSt] at h;subst h;rfl
 | r::xs,l,h=>by
  unfold unSt at h
  split at h
  · rename_i h0;simp at h0
  · rename_i n r' h0;simp only[List.cons.injEq] at h0;obtain ⟨rfl,rfl⟩:=h0;obtain ⟨l',h1,rfl⟩:=Option.map_eq_some_iff.1 h;rw[qyhb h1];rfl
  · simp at h
theorem qxjb {d:D} {l:List (List UInt8)} (h:unStrs d=some l):d=strsD l:=by
 unfold unStrs at h
 split at h
 · rw[qyhb h];rfl
 · simp at h
theorem qnz:∀ l:List (List UInt8),unSt (l.map strR)=some l
 | []=>rfl
 | n::l=>by simp only[List.map_cons,strR,unSt];rw[qnz l];rfl
theorem qibb (l:List (List UInt8)):unStrs (strsD l)=some l:=qnz l
theorem qki (l:List Int):D.WF (numsD l):=.sl _ fun r hr c hc=>by
 simp only[List.mem_map] at hr;obtain ⟨s,_,rfl⟩:=hr;simp only[numR,List.mem_singleton] at hc;subst hc;exact .int _ s
theorem qnhb (l:List (List UInt8)):D.WF (strsD l):=.sl _ fun r hr c hc=>by
 simp only[List.mem_map] at hr;obtain ⟨s,_,rfl⟩:=hr;simp only[strR,List.mem_singleton] at hc;subst hc;exact .str s
def fun1 (k:List Int→Option (List D)):PF:=fun a=>match a with
 | [d]=>match unNums d with|some l=>k l|none=>none
 | _=>none
theorem qhc {k:List Int→Option (List D)} {a o:List D} (h:fun1 k a=some o):∃ l,a=[numsD l]∧k l=some o:=by
 unfold fun1 at h
 split at h
 · rename_i d
   split at h
   · rename_i l hl;exact ⟨l,by rw[qvib hl],h⟩
   · simp at h
 · simp at h
theorem qvg (k:List Int→Option (List D)) (l:List Int):fun1 k [numsD l]=k l:=by
 unfold fun1;simp only[qgbb]
def valuesE:PF:=fun1 fun l=>some [numsD l]
def collectE:PF:=fun1 fun l=>if l.length<1000000000 then some [numsD l,numsD l] else none
def sortE:PF:=fun1 fun l=>if l.length<1000000000 then some [numsD (sortI l)] else none
def compactE:PF:=fun1 fun l=>if l.length<1000000000 then some [numsD (Lib.compact l),numsD (tailI l)] else none
def cloneE:PF:=fun a=>match a with
 | [d]=>match unStrs d with|some l=>if l.length<1000000000 then some [strsD l] else none|none=>none
 | _=>none
theorem qvm {a o:List D} (h:cloneE a=some o):∃ l,a=[strsD l]∧l.length<1000000000∧o=[strsD l]:=by
 unfold cloneE at h
 split at h
 · rename_i d
   split at h
   · rename_i l hl
     split at h
     · rename_i hc;exact ⟨l,by rw[qxjb hl],hc,(Option.some.inj h).symm⟩
     · simp at h
   · simp at h
 · simp at h
theorem qmn {a o:List D} (h:valuesE a=some o):EWF o:=by
 obtain ⟨l,rfl,hk⟩:=qhc h;clear h;simp only[Option.some.injEq] at hk;subst hk;intro d hd;simp only[List.mem_singleton] at hd;subst hd;exact qki _
theorem qum {a o:List D} (h:collectE a=some o):EWF o:=by
 obtain ⟨l,rfl,hk⟩:=qhc h;clear h
 split at hk
 · simp only[Option.some.injEq] at hk;subst hk;intro d hd;simp only[List.mem_cons,List.not_mem_nil,or_false] at hd;rcases hd with rfl|rfl<;>exact qki _
 · simp at hk
theorem qjy {a o:List D} (h:sortE a=some o):EWF o:=by
 obtain ⟨l,rfl,hk⟩:=qhc h;clear h
 split at hk
 · simp only[Option.some.injEq] at hk;subst hk;intro d hd;simp only[List.mem_singleton] at hd;subst hd;exact qki _
 · simp at hk
theorem qcm {a o:List D} (h:compactE a=some o):EWF o:=by
 obtain ⟨l,rfl,hk⟩:=qhc h;clear h
 split at hk
 · simp only[Option.some.injEq] at hk;subst hk;intro d hd;simp only[List.mem_cons,List.not_mem_nil,or_false] at hd;rcases hd with rfl|rfl<;>exact qki _
 · simp at hk
theorem qsr {a o:List D} (h:cloneE a=some o):EWF o:=by
 obtain ⟨l,rfl,_,rfl⟩:=qvm h;intro d hd;simp only[List.mem_singleton] at hd;subst hd;exact qnhb _
theorem qdnb (xs:List Int):(xs.map numR).map (List.map AV.d)=xs.map fun x=>[AV.d (.int .i64 x)]:=by simp[numR,Function.comp_def]
theorem qgec (xs:List (List UInt8)):(xs.map strR).map (List.map AV.d)=xs.map fun x=>[AV.d (.str x)]:=by simp[strR,Function.comp_def]
theorem qzob:((fun x=>List.map AV.d x)∘numR)=fun x=>[AV.d (D.int .i64 x)]:=rfl
theorem qubc:((fun x=>List.map AV.d x)∘strR)=fun x=>[AV.d (D.str x)]:=rfl
theorem qjw:SigOK Tryz.prog G valuesE sg18:=by
 intro ins outs hwf hl hsl hr hno;have hw:=qmn hr;obtain ⟨l,rfl,h⟩:=qhc hr;simp only[Option.some.injEq] at h;subst h;exact ⟨hw,qqfb l,fun i hi=>by simp[sg18,inL] at hi⟩
theorem qms:SigOK Tryz.prog G collectE sg35:=by
 intro ins outs hwf hl hsl hr hno;have hw:=qum hr;obtain ⟨l,rfl,h⟩:=qhc hr
 split at h
 · rename_i hx;simp only[Option.some.injEq] at h;subst h;refine ⟨hw,?_,fun i hi=>by simp[sg35,inL] at hi⟩
   have:=qtbb (G:=G) l hx
   simpa [sg35,hIn,SB.inst,SB.rows,SA.val,numsD,D.rows,qdnb,qzob,intB,boxB,rowB,SV.instL,SV.inst,lnL,lnOf,getB,SB.len] using this
 · simp at h
theorem qtjb:SigOK Tryz.prog G sortE sg36:=by
 intro ins outs hwf hl hsl hr hno;have hw:=qjy hr;obtain ⟨l,rfl,h⟩:=qhc hr
 split at h
 · rename_i hx;simp only[Option.some.injEq] at h;subst h
   have hk:∀ i,lnL [numsD (sortI l)] sg36.Hout i=lnL [numsD l] sg36.Hin i:=fun i=>by
    have:=qwh l;cases i with
    | zero=>simpa [sg36,lnL,lnOf,getB,SB.len,SA.val,numsD,D.rows] using this
    | succ i=>simp[sg36,lnL,lnOf,getB]
   refine ⟨hw,?_,fun i _=>hk i⟩
   have:=qopb (G:=G) l (by omega)
   simpa [sg36,hIn,SB.inst,SB.rows,SA.val,numsD,D.rows,qdnb,qzob,intB,boxB,rowB,SV.instL,SV.inst,lnL,lnOf,getB,SB.len] using this
 · simp at h
theorem qnt:SigOK Tryz.prog G compactE sg20:=by
 intro ins outs hwf hl hsl hr hno;have hw:=qcm hr;obtain ⟨l,rfl,h⟩:=qhc hr
 split at h
 · rename_i hx;simp only[Option.some.injEq] at h;subst h;refine ⟨hw,?_,fun i hi=>by simp[sg20,inL] at hi⟩
   have:=qnv (G:=G) l (by omega)
   simpa [sg20,hIn,SB.inst,SB.rows,SA.val,numsD,D.rows,qdnb,qzob,intB,boxB,rowB,SV.instL,SV.inst,lnL,lnOf,getB,SB.len] using this
 · simp at h
theorem qnnb {w:World} {C:Com} {xs:List (List UInt8)} {v:Value} (h:RepD w C (strsD xs) v):(xs=[]∧v = .slice none 0 0)∨(xs=[]∧∃ a cap,v = .slice (some a) 0 cap)∨(xs≠[]∧∃ r o cap,v = .slice (some ⟨r,o,none⟩) xs.length cap∧∀ j (hj:j<xs.length),w.cell? ⟨r,o+j,none⟩ = some (.string ⟨⟨xs[j]⟩⟩)):=by
 unfold strsD at h;generalize hys:xs.map strR=ys at h;cases h with
 | nil=>exact .inl ⟨List.map_eq_nil_iff.1 hys,rfl⟩
 | nilA a=>exact .inr (.inl ⟨List.map_eq_nil_iff.1 hys,a,0,rfl⟩)
 | sl _ r o cap sz vs hcap hsz hC hcell hrec=>
  subst hys
  by_cases h0:xs=[]
  · subst h0;exact .inr (.inl ⟨rfl,_,cap,rfl⟩)
  · have hpos : 0 < (xs.map strR).length := by
     cases xs with
     | nil=>exact absurd rfl h0
     | cons a l=>simp
    have hs1:sz=1:=by
     have:=hsz 0 hpos;simp[strR] at this;exact this.symm
    subst hs1;refine .inr (.inr ⟨h0,r,o,cap,by simp,fun j hj=>?_⟩)
    have hj':j<(xs.map strR).length:=by simpa using hj
    have hc:=(hcell j 0 hj' (by omega)).1
    have hr:=hrec j 0 hj' (by simp[strR])
    simp only[List.getElem_map,strR,List.getElem_cons_zero] at hr;generalize vs j 0=u at hr hc;have:u = .string ⟨⟨xs[j]⟩⟩:=by cases hr;rfl
    rw[this] at hc
    simpa using hc
theorem qvcb:Body Tryz.prog 24:=⟨Tryz.f24,Tryz.func24,by kernel_rfl,by kernel_rfl⟩
def strB (xs:List (List UInt8)):Blk:=rowB false 9 D.str xs
theorem qaq {w w':World} {C:Com} {ρ:Rho} (hR:RelH w C ρ (hOf [])) {xs:List (List UInt8)} {v:Value} (hrow:w'.ownsRow w.heap.size 9 1 v xs.length (xs.map fun s=>Value.string ⟨⟨s⟩⟩)) (hb:Below w.heap.size w w') :
 ∃ C' ρ',RelH w' C' ρ' (hOf [strB xs])∧Ext w C ρ (hOf []) w' C' ρ' (hOf [strB xs])∧RepA w' C' ρ' (hOf [strB xs]) (.own 0 xs.length 0 xs.length) v:=by
 have hid:hOf [] 0=none:=rfl;rcases hrow.2 with ⟨rfl,hz⟩|⟨g,cap,cur,rfl,hbase,hgb,h1,h2,h3,h4⟩
 · have hx0:xs=[]:=List.eq_nil_of_length_eq_zero hz;obtain ⟨k1,k2⟩:=qbr (blk:=strB xs) hR hb hid (by rw[hx0];rfl) rfl
   rw[qoub] at k1 k2;refine ⟨C,_,k1,k2,?_⟩;rw[hx0];exact .own 0 0 0 0 _ (strB []) (by rw[← hx0];rfl) (Nat.le_refl _) rfl fun _=>.inr ⟨if_pos rfl,rfl,rfl,rfl⟩
 · have hsz:cur.size=cap:=by rw[h3,Nat.mul_one]
   have hcur:∀ j (hj:j<xs.length),cur[j]? = some (.string ⟨⟨xs[j]⟩⟩):=fun j hj=>by
    have:(cur.toList.take (xs.length*1))[j]? = (xs.map fun s=>Value.string ⟨⟨s⟩⟩)[j]?:=by rw[h4]
    rw[Nat.mul_one,List.getElem?_take] at this
    simpa [hj] using this
   have hf:Fits w' C ρ (hOf []) (strB xs) cur:=by
    refine ⟨by simp[strB,rowB];omega,fun i h=>by simp[strB,rowB],fun i j hi hj=>?_⟩
    have hi':i<xs.length:=by simpa [strB,rowB] using hi
    have hj0:j=0:=by simp[strB,rowB] at hj;omega
    subst hj0;refine ⟨.string ⟨⟨xs[i]⟩⟩,by simpa [strB,rowB] using hcur i hi',rfl,?_⟩
    simp only[strB,rowB,List.getElem_map,List.getElem_cons_zero];exact .d _ _ (.str _)
   have k1:=qzy (blk:=strB xs) hR hb hid hbase hgb hf rfl;have k2:=ext_add (cs:=cur) (blk:=strB xs) hR hb hid hbase;rw[qoub] at k1 k2;refine ⟨C,_,k1,k2,?_⟩;exact .own 0 _ 0 _ _ (strB xs) rfl (by simp[strB,rowB]) rfl fun _=>.inl ⟨g,cur.size,cap,by rw[qm],by simp,h1,by simp[strB,rowB];omega,by omega⟩
theorem qomb (xs:List (List UInt8)) (hx:xs.length<1000000000):CC Tryz.prog G 24 [] [.d (strsD xs)] [strB xs] (.own 0 xs.length 0 xs.length):=by
 refine ⟨qvcb,fun w C ρ vs hR hG hv=>?_⟩
 obtain ⟨hlen,hv⟩:=hv
 obtain ⟨v,rfl⟩:∃ v,vs=[v]:=by
  match vs,hlen with
  | [v],_=>exact ⟨v,rfl⟩
 have hp:=hv 0 (by simp) (by simp)
 simp only[List.getElem_cons_zero] at hp;have hd:RepD w C (strsD xs) v:=by cases hp;assumption
 rcases qnnb hd with ⟨rfl,rfl⟩|⟨rfl,a,cap,rfl⟩|⟨h0,r,o,cap,rfl,hc⟩
 · refine (Tryz.slices_Clone_string_nil 0 0 w).mono ?_;rintro e w' ⟨rfl,rfl⟩;obtain ⟨C',ρ',k1,k2,k3⟩:=qaq (w':=w') hR (xs:=[]) (v:=.slice none 0 0) (World.ownsRow_nil _ _ _ _) (Below.refl _ _);exact ⟨_,C',ρ',rfl,k1,k2,k3⟩
 · refine (Tryz.slices_Clone_string_zero a cap w).mono ?_;rintro e w' ⟨v',rfl,hrow,_,hb⟩;obtain ⟨C',ρ',k1,k2,k3⟩:=qaq hR (xs:=[]) hrow hb;exact ⟨_,C',ρ',rfl,k1,k2,k3⟩
 · refine (Tryz.slices_Clone_string r o xs.length cap (xs.map fun s=>⟨⟨s⟩⟩) w (by simp) (by omega) (fun j hj=>?_)).mono ?_
   · have hj':j<xs.length:=by simpa using hj
     rw[hc j hj'];simp[hj']
   rintro e w' ⟨v',rfl,hrow,_,hb⟩
   have hm:((xs.map fun s=>(⟨⟨s⟩⟩:ByteArray)).take xs.length).map Value.string=xs.map fun s=>Value.string ⟨⟨s⟩⟩:=by
    rw[List.take_of_length_le (by simp)];simp[Function.comp_def]
   rw[hm] at hrow;obtain ⟨C',ρ',k1,k2,k3⟩:=qaq hR hrow hb;exact ⟨_,C',ρ',rfl,k1,k2,k3⟩
theorem qrbb:SigOK Tryz.prog G cloneE sg21:=by
 intro ins outs hwf hl hsl hr hno;have hw:=qsr hr;obtain ⟨l,rfl,hx,rfl⟩:=qvm hr;refine ⟨hw,?_,fun i hi=>by simp[sg21,inL] at hi⟩
 have:=qomb (G:=G) l hx
 simpa [sg21,hIn,SB.inst,SB.rows,SA.val,strsD,D.rows,qgec,qubc,strB,rowB,SV.instL,SV.inst,lnL,lnOf,getB,SB.len] using this
end Go.Proofs.YtoalfckdmoahoaaGreatDoor

namespace Go.Proofs.YtoalfckdmoahoaaGreatDoor
open Go Am Go.Proofs Go.RowKit Go.Sort
set_option maxRecDepth 100000
variable {G:Glob}
theorem qakb:Body Tryz.prog 132:=⟨Tryz.f132,Tryz.func132,by kernel_rfl,by kernel_rfl⟩
theorem qmvb (l:List Int) (hl:l.length<4611686018427387904):CC Tryz.prog G 132 [intB false l] [.own 0 l.length 0 l.length] [intB false l.reverse] (.tup []):=
 qbv (enc:=Value.int .i64) (dE:=D.int .i64) (ty:=3) (g:=List.reverse) qtu qakb (fun l=>List.length_reverse) (fun blk cap l w h1 h2 h3=>(Tryz.slices_Reverse_int blk 0 cap l w h1 (by omega)).mono fun e w' ⟨he,n,hw⟩=>⟨he,n,#[],hw⟩) (fun p cap w=>Tryz.slices_Reverse_int_empty p cap w) l hl
def revE:PF:=fun1 fun l=>if l.length<1000000000 then some [numsD l.reverse] else none
theorem qkdb {a o:List D} (h:revE a=some o):EWF o:=by
 obtain ⟨l,rfl,hk⟩:=qhc h;clear h
 split at hk
 · simp only[Option.some.injEq] at hk;subst hk;intro d hd;simp only[List.mem_singleton] at hd;subst hd;exact qki _
 · simp at hk
theorem qrlb:SigOK Tryz.prog G revE sg79:=by
 intro ins outs hwf hl hsl hr hno;have hw:=qkdb hr;obtain ⟨l,rfl,h⟩:=qhc hr
 split at h
 · rename_i hx;simp only[Option.some.injEq] at h;subst h
   have hk:∀ i,lnL [numsD l.reverse] sg79.Hout i=lnL [numsD l] sg79.Hin i:=fun i=>by
    cases i with
    | zero=>simp[sg79,lnL,lnOf,getB,SB.len,SA.val,numsD,D.rows]
    | succ i=>simp[sg79,lnL,lnOf,getB]
   refine ⟨hw,?_,fun i _=>hk i⟩
   have:=qmvb (G:=G) l (by omega)
   simpa [sg79,hIn,SB.inst,SB.rows,SA.val,numsD,D.rows,qdnb,qzob,intB,boxB,rowB,SV.instL,SV.inst,lnL,lnOf,getB,SB.len] using this
 · simp at h
end Go.Proofs.YtoalfckdmoahoaaGreatDoor

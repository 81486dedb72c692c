/- Lemmas. -/
import Derived.Test.YtefjlhhicgepfaaGreatDoorAm3
import Derived.Test.YtefjlhhicgepfaaGreatDoorAm6
import Derived.Test.YtefjlhhicgepfaaGreatDoorSb1
import Derived.Shelf.SlicesE.Clone
import Derived.Shelf.Sort.Plain
import Derived.Shelf.Slices.Clone
import Derived.Shelf.Slices.CompactI
import Derived.Shelf.Slices.CompactS
import Derived.Shelf.Slices.SearchI
import Derived.Shelf.Slices.Cells
import Derived.Shelf.Slices.In.SortNone
import Derived.RangeFuncBox
import Derived.Shelf.Abstract
import Derived.OwnWalkIn
import Derived.TacticsInMore
import Derived.LoopNIn
import Derived.LoopIn
import Derived.Maps.AppendAt
import Derived.ChangeKeysEq
set_option linter.unusedSimpArgs false
set_option linter.unusedVariables false
set_option linter.unusedSectionVars false
open List (append_toArray cons_append getD_eq_getElem?_getD getElem?_eq_getElem getElem?_eq_none getElem_cons_zero getElem_map getElem_mem length_cons length_nil map map_cons map_eq_nil_iff mem_cons mem_map mem_singleton nil_append not_mem_nil push_toArray range replicate size_toArray)
open Nat (le_refl mul_one reduceAdd reduceSub zero_le)
open Array (replicate_succ replicate_zero)
namespace Go.Proofs
open Go.Shelf
def Tryz.laysNm220_ren:Go.Shelf.Ren:=⟨fun|20=>81|n=>n,fun|22=>22|3=>3|4=>4|0=>0|n=>n,fun|n=>n⟩
theorem Tryz.laysNm220:Go.Proofs.Lays2.n20 prog Tryz.laysNm220_ren:={
 mixed:=by kernel_rfl
 f20:=Tryz.func81.trans (congrArg some (by kernel_rfl))
 t0:=Tryz.underlying0
 a0:=Tryz.isAgg0
 z0:=Tryz.sizeOf0
 v0:=Tryz.zeroValue0
 t3:=Tryz.underlying3
 a3:=Tryz.isAgg3
 z3:=Tryz.sizeOf3
 v3:=Tryz.zeroValue3
 t4:=Tryz.underlying4
 a4:=Tryz.isAgg4
 z4:=Tryz.sizeOf4
 v4:=Tryz.zeroValue4
 t22:=Tryz.underlying22
 a22:=Tryz.isAgg22
 z22:=Tryz.sizeOf22
 v22:=Tryz.zeroValue22
 i3:=by kernel_rfl }
open Go.RowKit Go.Lib Go.Sort in
theorem Tryz.slices_Compact_int(blk off cap:Nat)(zs:List Int)(w:World)(hH:Holds (Value.int .i64) w blk off zs.toArray)(de:zs.length≤9223372036854775807)(fl:zs.length≤cap) :
 Calls prog 81 #[.slice (some ⟨blk,off,none⟩) zs.length cap] w fun e w'=>e = .returned (.slice (some ⟨blk,off,none⟩) (Lib.compact zs).length cap)∧∃ q,w' = putRow (Value.int .i64) (Sort.ahead w q) blk off (Lib.compact zs++replicate (zs.length-(Lib.compact zs).length) 0).toArray:=Any.slices_Compact_int Tryz.laysNm220 blk off cap zs w hH de fl
open Go.RowKit Go.Lib Go.Sort in
theorem Tryz.slices_Compact_int_empty(a:Option Addr)(cap:Nat)(w:World) :
 Calls prog 81 #[.slice a 0 cap] w fun e w'=>e = .returned (.slice a 0 cap)∧w' = w:=Any.slices_Compact_int_empty Tryz.laysNm220 a cap w
def Tryz.lays189_ren:Go.Shelf.Ren:=⟨fun|189=>108|125=>125|257=>127|128=>160|129=>161|294=>162|295=>163|296=>164|297=>165|298=>166|299=>167|216=>110|300=>168|301=>169|328=>178|329=>173|330=>174|331=>179|332=>180|215=>128|343=>182|n=>n,fun|28=>22|3=>3|46=>52|0=>0|51=>193|53=>54|4=>4|183=>186|182=>185|131=>146|5=>5|9=>9|218=>200|222=>204|228=>208|229=>209|n=>n,fun|n=>n⟩
theorem Tryz.lays189:Go.Proofs.Lays.n189 prog Tryz.lays189_ren:={
 mixed:=by kernel_rfl
 f125:=Tryz.func125.trans (congrArg some (by kernel_rfl))
 f128:=Tryz.func160.trans (congrArg some (by kernel_rfl))
 f129:=Tryz.func161.trans (congrArg some (by kernel_rfl))
 f189:=Tryz.func108.trans (congrArg some (by kernel_rfl))
 f215:=Tryz.func128.trans (congrArg some (by kernel_rfl))
 f216:=Tryz.func110.trans (congrArg some (by kernel_rfl))
 f257:=Tryz.func127.trans (congrArg some (by kernel_rfl))
 f294:=Tryz.func162.trans (congrArg some (by kernel_rfl))
 f295:=Tryz.func163.trans (congrArg some (by kernel_rfl))
 f296:=Tryz.func164.trans (congrArg some (by kernel_rfl))
 f297:=Tryz.func165.trans (congrArg some (by kernel_rfl))
 f298:=Tryz.func166.trans (congrArg some (by kernel_rfl))
 f299:=Tryz.func167.trans (congrArg some (by kernel_rfl))
 f300:=Tryz.func168.trans (congrArg some (by kernel_rfl))
 f301:=Tryz.func169.trans (congrArg some (by kernel_rfl))
 f328:=Tryz.func178.trans (congrArg some (by kernel_rfl))
 f329:=Tryz.func173.trans (congrArg some (by kernel_rfl))
 f330:=Tryz.func174.trans (congrArg some (by kernel_rfl))
 f331:=Tryz.func179.trans (congrArg some (by kernel_rfl))
 f332:=Tryz.func180.trans (congrArg some (by kernel_rfl))
 f343:=Tryz.func182.trans (congrArg some (by kernel_rfl))
 t0:=Tryz.underlying0
 a0:=Tryz.isAgg0
 z0:=Tryz.sizeOf0
 v0:=Tryz.zeroValue0
 t3:=Tryz.underlying3
 a3:=Tryz.isAgg3
 z3:=Tryz.sizeOf3
 v3:=Tryz.zeroValue3
 t4:=Tryz.underlying4
 a4:=Tryz.isAgg4
 z4:=Tryz.sizeOf4
 v4:=Tryz.zeroValue4
 t5:=Tryz.underlying5
 a5:=Tryz.isAgg5
 z5:=Tryz.sizeOf5
 v5:=Tryz.zeroValue5
 t9:=Tryz.underlying9
 a9:=Tryz.isAgg9
 z9:=Tryz.sizeOf9
 v9:=Tryz.zeroValue9
 t28:=Tryz.underlying22
 a28:=Tryz.isAgg22
 z28:=Tryz.sizeOf22
 v28:=Tryz.zeroValue22
 t46:=Tryz.underlying52
 a46:=Tryz.isAgg52
 z46:=Tryz.sizeOf52
 v46:=Tryz.zeroValue52
 t51:=Tryz.underlying193
 a51:=Tryz.isAgg193
 z51:=Tryz.sizeOf193
 v51:=Tryz.zeroValue193
 t53:=Tryz.underlying54
 a53:=Tryz.isAgg54
 z53:=Tryz.sizeOf54
 v53:=Tryz.zeroValue54
 t131:=Tryz.underlying146
 a131:=Tryz.isAgg146
 z131:=Tryz.sizeOf146
 v131:=Tryz.zeroValue146
 t182:=Tryz.underlying185
 a182:=Tryz.isAgg185
 z182:=Tryz.sizeOf185
 v182:=Tryz.zeroValue185
 t183:=Tryz.underlying186
 a183:=Tryz.isAgg186
 z183:=Tryz.sizeOf186
 v183:=Tryz.zeroValue186
 t218:=Tryz.underlying200
 a218:=Tryz.isAgg200
 z218:=Tryz.sizeOf200
 v218:=Tryz.zeroValue200
 t222:=Tryz.underlying204
 a222:=Tryz.isAgg204
 z222:=Tryz.sizeOf204
 v222:=Tryz.zeroValue204
 t228:=Tryz.underlying208
 a228:=Tryz.isAgg208
 z228:=Tryz.sizeOf208
 v228:=Tryz.zeroValue208
 t229:=Tryz.underlying209
 a229:=Tryz.isAgg209
 z229:=Tryz.sizeOf209
 v229:=Tryz.zeroValue209 }
open Go.Sort Go.RowKit in
theorem Tryz.slices_Sort_int(blk off cap:Nat)(zs:List Int)(w:World)(hH:Holds (Value.int .i64) w blk off zs.toArray)(lr:blk<w.heap.size)(de:zs.length<4611686018427387904) :
 Calls prog 108 #[.slice (some ⟨blk,off,none⟩) zs.length cap] w fun e w'=>
  e = .returned (.tuple #[])∧∃ n os,w' = grow (putRow (Value.int .i64) (Sort.ahead w n) blk off (zs.mergeSort fun x y=>decide (x≤y)).toArray) os:=Any.slices_Sort_int Tryz.lays189 blk off cap zs w hH lr de
open Go.RowKit Go.Sort in
theorem Tryz.slices_Sort_int_none(p:Option Addr)(cap:Nat)(w:World) :
 Calls prog 108 #[.slice p 0 cap] w fun e w'=>e = .returned (.tuple #[])∧w' = w:=Any.slices_Sort_int_none Tryz.lays189 p cap w
def Tryz.laysNm216_ren:Go.Shelf.Ren:=⟨fun|16=>84|n=>n,fun|24=>26|9=>9|4=>4|n=>n,fun|n=>n⟩
theorem Tryz.laysNm216:Go.Proofs.Lays2.n16 prog Tryz.laysNm216_ren:={
 mixed:=by kernel_rfl
 f16:=Tryz.func84.trans (congrArg some (by kernel_rfl))
 t4:=Tryz.underlying4
 a4:=Tryz.isAgg4
 z4:=Tryz.sizeOf4
 v4:=Tryz.zeroValue4
 t9:=Tryz.underlying9
 a9:=Tryz.isAgg9
 z9:=Tryz.sizeOf9
 v9:=Tryz.zeroValue9
 t24:=Tryz.underlying26
 a24:=Tryz.isAgg26
 z24:=Tryz.sizeOf26
 v24:=Tryz.zeroValue26
 i9:=by kernel_rfl }
open Go.RowKit Go.Lib in
theorem Tryz.slices_Clone_string(b off n c:Nat)(zs:List ByteArray)(w:World)(hz:n≤zs.length)(afv:n*16≤140737488355328)(hc:∀ j,j<zs.length→w.cell? ⟨b,off+j,none⟩ = some (.string (zs.getD j ByteArray.empty))) :
 Calls prog 84 #[.slice (some ⟨b,off,none⟩) n c] w fun e w'=>∃ v',e = .returned v'∧w'.ownsRow w.heap.size 9 1 v' n ((zs.take n).map (Value.string))∧v' ≠ .slice none 0 0∧Below w.heap.size w w':=Any.slices_Clone_string Tryz.laysNm216 b off n c zs w hz afv hc
open Go.RowKit Go.Lib in
theorem Tryz.slices_Clone_string_nil(n c:Nat)(w:World) :
 Calls prog 84 #[.slice none n c] w fun e w'=>e = .returned (.slice none 0 0)∧w' = w:=Any.slices_Clone_string_nil Tryz.laysNm216 n c w
open Go.RowKit Go.Lib in
theorem Tryz.slices_Clone_string_zero(a:Addr)(c:Nat)(w:World) :
 Calls prog 84 #[.slice (some a) 0 c] w fun e w'=>∃ v',e = .returned v'∧w'.ownsRow w.heap.size 9 1 v' 0 []∧v' ≠ .slice none 0 0∧Below w.heap.size w w':=Any.slices_Clone_string_zero Tryz.laysNm216 a c w
def Tryz.laysSlE041_f50_ren:Go.Shelf.Ren:=⟨fun|41=>50|n=>n,fun|22=>55|23=>54|4=>4|n=>n,fun|n=>n⟩
theorem Tryz.laysSlE041_f50:Go.Proofs.SlLaysE0.n41 prog Tryz.laysSlE041_f50_ren:={
 mixed:=by kernel_rfl
 f41:=⟨Tryz.f50.name,by decide,Tryz.func50.trans (congrArg some (by kernel_rfl))⟩
 t4:=Tryz.underlying4
 a4:=Tryz.isAgg4
 z4:=Tryz.sizeOf4
 v4:=Tryz.zeroValue4
 t22:=Tryz.underlying55
 a22:=Tryz.isAgg55
 z22:=Tryz.sizeOf55
 v22:=Tryz.zeroValue55 }
open Go.RowKit Go.Lib in
theorem Tryz.slices_Clone_f50(i0:TypeInfo)(z:Value)(size bytes:Nat)(hi:prog.info? 54=some i0)(hz0:i0.zero=some z)(hz1:i0.size=size)(hz2:i0.bytes=bytes)(hzs:z.cells.size=size)(de:0<size)(z23:∀ w,(Go.sizeOf 54).run prog w = .ok size w)(b off n c:Nat)(cq:List Value)(w:World)(hl:cq.length=n*size)(hn:n≤maxLen)(afv:n*bytes≤140737488355328)(hc:∀ j u,cq[j]? = some u→w.cell? ⟨b,off+j,none⟩ = some u)(h1:∀ u∈cq,u.oneCell' = true) :
 Calls prog 50 #[.slice (some ⟨b,off,none⟩) n c] w fun e w'=>∃ v',e = .returned v'∧w'.ownsRow w.heap.size 54 size v' n cq∧v' ≠ .slice none 0 0∧Below w.heap.size w w':=AnyE.slices_Clone Tryz.laysSlE041_f50 i0 z size bytes hi hz0 hz1 hz2 hzs de z23 b off n c cq w hl hn afv hc h1
open Go.RowKit Go.Lib in
theorem Tryz.slices_Clone_nil_f50(n c:Nat)(w:World) :
 Calls prog 50 #[.slice none n c] w fun e w'=>e = .returned (.slice none 0 0)∧w' = w:=AnyE.slices_Clone_nil Tryz.laysSlE041_f50 n c w
def Tryz.lays190_ren:Go.Shelf.Ren:=⟨fun|190=>103|125=>125|258=>124|128=>160|129=>161|302=>151|303=>152|304=>153|305=>154|306=>155|307=>156|308=>157|309=>158|310=>159|333=>172|329=>173|330=>174|334=>175|335=>176|336=>177|344=>181|n=>n,fun|31=>26|9=>9|3=>3|46=>52|0=>0|51=>193|53=>54|4=>4|183=>186|182=>185|131=>146|5=>5|218=>200|222=>204|228=>208|229=>209|n=>n,fun|n=>n⟩
theorem Tryz.lays190:Go.Proofs.Lays.n190 prog Tryz.lays190_ren:={
 mixed:=by kernel_rfl
 f125:=Tryz.func125.trans (congrArg some (by kernel_rfl))
 f128:=Tryz.func160.trans (congrArg some (by kernel_rfl))
 f129:=Tryz.func161.trans (congrArg some (by kernel_rfl))
 f190:=Tryz.func103.trans (congrArg some (by kernel_rfl))
 f258:=Tryz.func124.trans (congrArg some (by kernel_rfl))
 f302:=Tryz.func151.trans (congrArg some (by kernel_rfl))
 f303:=Tryz.func152.trans (congrArg some (by kernel_rfl))
 f304:=Tryz.func153.trans (congrArg some (by kernel_rfl))
 f305:=Tryz.func154.trans (congrArg some (by kernel_rfl))
 f306:=Tryz.func155.trans (congrArg some (by kernel_rfl))
 f307:=Tryz.func156.trans (congrArg some (by kernel_rfl))
 f308:=Tryz.func157.trans (congrArg some (by kernel_rfl))
 f309:=Tryz.func158.trans (congrArg some (by kernel_rfl))
 f310:=Tryz.func159.trans (congrArg some (by kernel_rfl))
 f329:=Tryz.func173.trans (congrArg some (by kernel_rfl))
 f330:=Tryz.func174.trans (congrArg some (by kernel_rfl))
 f333:=Tryz.func172.trans (congrArg some (by kernel_rfl))
 f334:=Tryz.func175.trans (congrArg some (by kernel_rfl))
 f335:=Tryz.func176.trans (congrArg some (by kernel_rfl))
 f336:=Tryz.func177.trans (congrArg some (by kernel_rfl))
 f344:=Tryz.func181.trans (congrArg some (by kernel_rfl))
 t0:=Tryz.underlying0
 a0:=Tryz.isAgg0
 z0:=Tryz.sizeOf0
 v0:=Tryz.zeroValue0
 t3:=Tryz.underlying3
 a3:=Tryz.isAgg3
 z3:=Tryz.sizeOf3
 v3:=Tryz.zeroValue3
 t4:=Tryz.underlying4
 a4:=Tryz.isAgg4
 z4:=Tryz.sizeOf4
 v4:=Tryz.zeroValue4
 t5:=Tryz.underlying5
 a5:=Tryz.isAgg5
 z5:=Tryz.sizeOf5
 v5:=Tryz.zeroValue5
 t9:=Tryz.underlying9
 a9:=Tryz.isAgg9
 z9:=Tryz.sizeOf9
 v9:=Tryz.zeroValue9
 t31:=Tryz.underlying26
 a31:=Tryz.isAgg26
 z31:=Tryz.sizeOf26
 v31:=Tryz.zeroValue26
 t46:=Tryz.underlying52
 a46:=Tryz.isAgg52
 z46:=Tryz.sizeOf52
 v46:=Tryz.zeroValue52
 t51:=Tryz.underlying193
 a51:=Tryz.isAgg193
 z51:=Tryz.sizeOf193
 v51:=Tryz.zeroValue193
 t53:=Tryz.underlying54
 a53:=Tryz.isAgg54
 z53:=Tryz.sizeOf54
 v53:=Tryz.zeroValue54
 t131:=Tryz.underlying146
 a131:=Tryz.isAgg146
 z131:=Tryz.sizeOf146
 v131:=Tryz.zeroValue146
 t182:=Tryz.underlying185
 a182:=Tryz.isAgg185
 z182:=Tryz.sizeOf185
 v182:=Tryz.zeroValue185
 t183:=Tryz.underlying186
 a183:=Tryz.isAgg186
 z183:=Tryz.sizeOf186
 v183:=Tryz.zeroValue186
 t218:=Tryz.underlying200
 a218:=Tryz.isAgg200
 z218:=Tryz.sizeOf200
 v218:=Tryz.zeroValue200
 t222:=Tryz.underlying204
 a222:=Tryz.isAgg204
 z222:=Tryz.sizeOf204
 v222:=Tryz.zeroValue204
 t228:=Tryz.underlying208
 a228:=Tryz.isAgg208
 z228:=Tryz.sizeOf208
 v228:=Tryz.zeroValue208
 t229:=Tryz.underlying209
 a229:=Tryz.isAgg209
 z229:=Tryz.sizeOf209
 v229:=Tryz.zeroValue209 }
open Go.Sort Go.RowKit in
theorem Tryz.slices_Sort_string(blk off cap:Nat)(ss:List (List UInt8))(w:World)(hH:Holds encStr w blk off ss.toArray)(lr:blk<w.heap.size)(de:ss.length<4611686018427387904) :
 Calls prog 103 #[.slice (some ⟨blk,off,none⟩) ss.length cap] w fun e w'=>
  e = .returned (.tuple #[])∧∃ n os,w' = grow (putRow encStr (Sort.ahead w n) blk off (ss.mergeSort fun x y=>decide (x≤y)).toArray) os:=Any.slices_Sort_string Tryz.lays190 blk off cap ss w hH lr de
open Go.RowKit Go.Sort in
theorem Tryz.slices_Sort_string_none(p:Option Addr)(cap:Nat)(w:World) :
 Calls prog 103 #[.slice p 0 cap] w fun e w'=>e = .returned (.tuple #[])∧w' = w:=Any.slices_Sort_string_none Tryz.lays190 p cap w
def Tryz.lays194_ren:Go.Shelf.Ren:=⟨fun|194=>104|n=>n,fun|31=>26|9=>9|3=>3|4=>4|0=>0|n=>n,fun|n=>n⟩
theorem Tryz.lays194:Go.Proofs.Lays.n194 prog Tryz.lays194_ren:={
 mixed:=by kernel_rfl
 f194:=Tryz.func104.trans (congrArg some (by kernel_rfl))
 t0:=Tryz.underlying0
 a0:=Tryz.isAgg0
 z0:=Tryz.sizeOf0
 v0:=Tryz.zeroValue0
 t3:=Tryz.underlying3
 a3:=Tryz.isAgg3
 z3:=Tryz.sizeOf3
 v3:=Tryz.zeroValue3
 t4:=Tryz.underlying4
 a4:=Tryz.isAgg4
 z4:=Tryz.sizeOf4
 v4:=Tryz.zeroValue4
 t9:=Tryz.underlying9
 a9:=Tryz.isAgg9
 z9:=Tryz.sizeOf9
 v9:=Tryz.zeroValue9
 t31:=Tryz.underlying26
 a31:=Tryz.isAgg26
 z31:=Tryz.sizeOf26
 v31:=Tryz.zeroValue26 }
open Go.RowKit Go.Lib Go.Sort in
theorem Tryz.slices_Compact_string(blk off cap:Nat)(zs:List (List UInt8))(w:World)(hH:Holds encStr w blk off zs.toArray)(de:zs.length≤9223372036854775807)(fl:zs.length≤cap) :
 Calls prog 104 #[.slice (some ⟨blk,off,none⟩) zs.length cap] w fun e w'=>e = .returned (.slice (some ⟨blk,off,none⟩) (Lib.compact zs).length cap)∧∃ q,w' = putRow encStr (Sort.ahead w q) blk off (Lib.compact zs++replicate (zs.length-(Lib.compact zs).length) []).toArray:=Any.slices_Compact_string Tryz.lays194 blk off cap zs w hH de fl
open Go.RowKit Go.Lib Go.Sort in
theorem Tryz.slices_Compact_string_empty(a:Option Addr)(cap:Nat)(w:World) :
 Calls prog 104 #[.slice a 0 cap] w fun e w'=>e = .returned (.slice a 0 cap)∧w' = w:=Any.slices_Compact_string_empty Tryz.lays194 a cap w
end Go.Proofs

namespace Go.Proofs.YtefjlhhicgepfaaGreatDoor
open Go.Proofs.Tryz (prog)
open Go Go.Proofs Go.RowKit Go.Shelf Go.Sort
attribute [local go_sem] Oper.semAt_some
def pu{α:Type}(f:Nat→α)(k:Nat):List α:=(range k).map f
theorem qgt{α:Type}(f:Nat→α)(k:Nat):pu f (k+1)=pu f k++[f k]:=by simp[pu,List.range_succ]
theorem qtw{α:Type}(f:Nat→α)(k:Nat):(pu f k).length=k:=by simp[pu]
theorem ayt(zs:List Int):pu (fun j=>zs[j]?.getD 0) zs.length=zs:=by
 apply List.ext_getElem
 · simp[pu]
 · intro i h1 h2;simp[pu,h2]
theorem aqa(zs:List Int){k:Nat}(hk:k≤zs.length):pu (fun j=>zs[j]?.getD 0) k=zs.take k:=by
 apply List.ext_getElem
 · simp[pu,hk]
 · intro i h1 h2;have:i<zs.length:=by simp[pu] at h1;omega
   simp[pu,this]
set_option maxRecDepth 100000 in
set_option maxHeartbeats 2000000 in
theorem as3(F:Fence)(n:Nat)(h7:F.fn 109)(mn:F.round=none)(hn:1≤n)(l Bs n₀ b off len cap:Nat)(zs:List Int)(zq:len*8≤140737488351232)(hb:b<n₀)(J Jx:List Int→World→Prop)
 (hY:∀ pre x W,J pre W→pre.length<len→YieldAt F (n-1) prog l #[.int .i64 x] W fun e W'=>
  (e = .returned (.bool true)∧J (pre++[x]) W'∧Below n₀ W W')∨(e = .returned (.bool false)∧Jx (pre++[x]) W'))
 (W:World) (hBs:W.cell? ⟨Bs,0,none⟩ = some (.slice (some ⟨b,off,none⟩) len cap)) (hc:∀ j,j<len→W.cell? ⟨b,off+j,none⟩ = some (.int .i64 (zs[j]?.getD 0))) (h0:J [] W) :
 CallsIn F n prog 109 #[.func (.yield l) #[] #[],.pointer (some ⟨Bs,0,none⟩)] W fun e W'=>(∃ v,e = .returned v)∧
  ((∃ ys,ys=pu (fun j=>zs[j]?.getD 0) len∧J ys W')∨(∃ pre,(∃ k,k≤len∧pre=pu (fun j=>zs[j]?.getD 0) k)∧Jx pre W')):=by
 refine callsIn_of_wp Tryz.func109 rfl h7 ?_ mn;simp only[Tryz.ntmps109,size_toArray,length_cons,length_nil,reduceAdd,reduceSub,replicate_succ,replicate_zero,push_toArray,append_toArray,nil_append,cons_append]
 gi_wp2
 gi_loopw [7] (fun i wr=>∃ k:Nat,k≤len∧i = .int .i64 k∧J (pu (fun j=>zs[j]?.getD 0) k) wr∧Below n₀ W wr)
  (fun i _=>len-(intOf i).toNat)
 case atStart=>exact ⟨0,zero_le _,rfl,h0,Below.refl _ _⟩
 case round=>
  obtain ⟨k,hk,rfl,hJs,oq⟩:=hrel;have hcx:k<len→wr.cell? ⟨b,off+k,none⟩ = some (.int .i64 (zs[k]?.getD 0)):=fun h=>(oq.cell (p:=⟨b,off+k,none⟩) hb).trans (hc k h)
  by_cases cf:k<len
  · obtain ⟨fn,tmps,assign,body,hy,hR⟩:=hY _ (zs[k]?.getD 0) wr hJs (by rw[qtw];exact cf)
    have a64:=hcx cf
    gi_wp2
    refine hR.mono ?_;rintro e W3 (⟨rfl,hJ3,hk3⟩|⟨rfl,hJx3⟩)
    · gi_wp2
      go_roundw
      case rel=>exact ⟨k+1,by omega,by simp,by rw[qgt];exact hJ3,oq.trans hk3⟩
      case measure=>simp[intOf];omega
    · gi_wp2
      refine bodyPost_ret (results_none rfl _ _ _) rfl ?_;exact ⟨⟨_,rfl⟩,.inr ⟨_,⟨k+1,by omega,(qgt _ _).symm⟩,hJx3⟩⟩
  · obtain rfl:k=len:=by omega
    gi_wp2
    go_end0
    exact ⟨⟨_,rfl⟩,.inl ⟨_,rfl,hJs⟩⟩
def po(n₀:Nat)(W:World)(sv:Value)(zs:List Int):Prop:=
 ((∃ p cap,sv = .slice p 0 cap)∧zs=[])∨∃ b off cap,sv = .slice (some ⟨b,off,none⟩) zs.length cap∧b<n₀∧∀ j,j<zs.length→W.cell? ⟨b,off+j,none⟩ = some (.int .i64 (zs[j]?.getD 0))
theorem po.below{n₀:Nat}{A B:World}(h:Below n₀ A B){sv:Value}{zs:List Int}:po n₀ A sv zs→po n₀ B sv zs
 | .inl e=>.inl e
 | .inr ⟨b,off,cap,e,hb,hc⟩=>.inr ⟨b,off,cap,e,hb,fun j hj=>(h.cell (p:=⟨b,off+j,none⟩) hb).trans (hc j hj)⟩
set_option maxRecDepth 100000 in
set_option maxHeartbeats 1000000 in
theorem qco(F:Fence)(n:Nat)(h7:F.fn 109)(mn:F.round=none)(l Bs:Nat)(p:Option Addr)(cap:Nat)(J:List Int→World→Prop)(W:World)(hBs:W.cell? ⟨Bs,0,none⟩ = some (.slice p 0 cap))(h0:J [] W) :
 CallsIn F n prog 109 #[.func (.yield l) #[] #[],.pointer (some ⟨Bs,0,none⟩)] W fun e W'=>(∃ v,e = .returned v)∧J [] W':=by
 refine callsIn_of_wp Tryz.func109 rfl h7 ?_ mn;simp only[Tryz.ntmps109,size_toArray,length_cons,length_nil,reduceAdd,reduceSub,replicate_succ,replicate_zero,push_toArray,append_toArray,nil_append,cons_append]
 gi_wp2
 gi_loopw [7] (fun i wr=>i = .int .i64 0∧J [] wr) (fun _ _=>0)
 case atStart=>exact ⟨rfl,h0⟩
 case round=>
  obtain ⟨rfl,hJs⟩:=hrel
  gi_wp2
  go_end0
  exact ⟨⟨_,rfl⟩,hJs⟩
set_option maxHeartbeats 1000000 in
theorem aup(F:Fence)(n:Nat)(h5:F.fn 83)(mn:F.round=none)(a:Option Addr)(len cap:Nat)(w:World) :
 CallsIn F n prog 83 #[.slice a len cap] w fun e w'=>e = .returned (.func (.func 109) #[] #[.pointer (some ⟨w.heap.size,0,none⟩)])∧w' = w.alloc (.cells #[.slice a len cap] 22):=by
 refine callsIn_of_wp Tryz.func83 rfl h5 ?_ mn;simp only[Tryz.ntmps83,size_toArray,length_cons,length_nil,reduceAdd,reduceSub,replicate_succ,replicate_zero,push_toArray,append_toArray,nil_append,cons_append]
 gi_wp2
 go_ret
 exact ⟨rfl,rfl⟩
theorem qxs(F:Fence)(n:Nat)(h7:F.fn 109)(mn:F.round=none)(hn:1≤n)(Bs n₀:Nat)(sv:Value)(zs:List Int)(zq:zs.length*8≤140737488351232)(w:World)(hBs:Bs<w.heap.size)(hn₀:n₀≤w.heap.size)
 (hc:w.cell? ⟨Bs,0,none⟩ = some sv) (hI:po n₀ w sv zs) :
 SeqStopsK F n prog 109 #[.pointer (some ⟨Bs,0,none⟩)] (fun x:Int=>#[Value.int .i64 x]) (Below n₀) (fun ys=>ys=zs) (fun pre=>pre <+: zs) zs.length w:=fun l J Jx W hW _ _ hY h0=>by
 have hc':=(hW.cell (p:=⟨Bs,0,none⟩) hBs).trans hc;rcases hI.below (hW.mono hn₀) with ⟨⟨p,cap,rfl⟩,rfl⟩|⟨b,off,cap,rfl,hb,kr⟩
 · exact (qco F n h7 mn l Bs p cap J W hc' h0).mono fun e W' ⟨he,hj⟩=>⟨he,.inl ⟨_,rfl,hj⟩⟩
 · refine (as3 F n h7 mn hn l Bs n₀ b off zs.length cap zs zq hb J Jx hY W hc' kr h0).mono ?_;rintro e W' ⟨he,⟨ys,rfl,hj⟩|⟨pre,⟨k,hk,rfl⟩,hj⟩⟩
   · exact ⟨he,.inl ⟨_,ayt zs,hj⟩⟩
   · exact ⟨he,.inr ⟨_,by rw[aqa zs hk];exact List.take_prefix _ _,hj⟩⟩
theorem ate:(prog.info? 3).map (fun i=>(i.zero,i.size,i.bytes))=some (some (.int .i64 0),1,8):=by kernel_rfl
set_option maxRecDepth 100000 in
set_option maxHeartbeats 2000000 in
theorem qdt(F:Fence)(n:Nat)(h3:F.fn 126)(h5:F.fn 109)(mn:F.round=none)(hn:3≤n)(Bv:Nat)(sv:Value)(xs:List Int)(z6:xs.length*8≤140737488351232)(w:World)
 (hBv:Bv<w.heap.size) (hcv:w.cell? ⟨Bv,0,none⟩ = some sv) (hL:po w.heap.size w sv xs) :
 CallsIn F n prog 126 #[.slice none 0 0,.func (.func 109) #[] #[.pointer (some ⟨Bv,0,none⟩)]] w fun e W'=>∃ v,e = .returned v∧W'.ownsRow w.heap.size 3 1 v xs.length (xs.map (Value.int .i64))∧(v = .slice none 0 0↔xs=[])∧Below w.heap.size w W':=by
 have h1:1≤n:=by omega
 obtain ⟨i0,hi,hz0,hz1,hz2⟩:=info_parts ate;refine callsIn_of_wp_marks Tryz.func126 rfl h3 ?_ mn;simp only[Tryz.ntmps126,size_toArray,length_cons,length_nil,reduceAdd,reduceSub,replicate_succ,replicate_zero,push_toArray,append_toArray,nil_append,cons_append]
 gi_wp2
 have bO:=Boxed.new w 22 (.slice none 0 0);have hB0:Below w.heap.size w (w.alloc (.cells #[.slice none 0 0] 22)):=(Below.refl _ w).alloc (le_refl _) _
 refine wpIn_rangeFunc_ownG mn h1 (gf:=109) (lb:=#[.pointer (some ⟨Bv,0,none⟩)]) rfl h5 (enters_of Tryz.func109 (by kernel_rfl) rfl)
  (qxs F (n-1) h5 mn (by omega) Bv w.heap.size sv xs z6 _ (by simp;omega) (by simp) ((hB0.cell (p:=⟨Bv,0,none⟩) hBv).trans hcv) (hL.below hB0)) belowK_t (belowK_b (by simp)) (Below.refl _ _) (fun _=>rfl)
  (fun pre W=>(∃ v,Boxed W w.heap.size 22 v∧W.ownsRow w.heap.size 3 1 v pre.length (pre.map (Value.int .i64))∧(v = .slice none 0 0↔pre=[]))∧Below w.heap.size w W)
  (fun _ _ _=>False)
  (OwnFrom.and (Own.from (holdsRow_own w.heap.size w.heap.size 22 3 1 (fun pre=>pre.length) (fun pre=>pre.map (Value.int .i64)) (fun pre v=>v = .slice none 0 0↔pre=[])) _) (ownFrom_below (le_refl _) (by simp)))
  (fun _ _ _ _ _ hs _ _=>hs)
  ⟨⟨_,bO,World.ownsRow_nil _ _ _ _,by simp⟩,hB0⟩
  (fun x=>{ tmps:=#[.slice none 0 0,.func (.func 109) #[] #[.pointer (some ⟨Bv,0,none⟩)],.pointer (some ⟨w.heap.size,0,none⟩),undef,.slice none 0 0,.int .i64 x,.func (.func 109) #[] #[.pointer (some ⟨Bv,0,none⟩)],.int .i64 x,undef,undef,undef,undef,undef],defers:=[] }) ?assign ?body ?done ?stop
 case assign=>
  intro l x W K hK
  gi_wp2
  exact hK
 case body=>
  rintro l pre x W ⟨⟨v,hv,ak,ob⟩,hB⟩ cf;have hc:=hv.cell
  gi_wp2_with (gi_at_builtin;refine wpListIn_append_own _ rfl _ _ 22 rfl w.heap.size 3 i0 (.int .i64 0) 1 8 Tryz.underlying22 hi hz0 hz1 hz2 rfl (by decide) _ _ _ rfl (ak.alloc _) ⟨W.heap.size,0,none⟩ 1 1 [.int .i64 x] rfl rfl (cell_one_new _ _ _) (by simp[Value.oneCell']) (by unfold maxLen;omega) (by omega) (by have:=hB.size;simp;omega) ?_;intro v' w1 aav acl _;obtain ⟨g',cap',rfl⟩:=ownsRow_succ aav;obtain ⟨zj,hv2,um,hk2,o9⟩:=hv.appended (by decide) ak hB.size (le_refl _) aav acl;have zm:=zj.cell;have hf1:=zj.frozen)
  exact ⟨hk2.from _,o9,⟨_,hv2,by simpa using um,by simp⟩,hB.trans o9⟩
 case done=>
  rintro D ys W hD rfl ⟨⟨v,hv,ak,ob⟩,hB⟩ hK;have hc:=hv.cell
  gi_wp2
  refine ⟨by simp,.inl ⟨_,_,rfl,run_takeDeferred hK,?_⟩⟩
  exact ⟨_,results_tmp rfl _ _ _,v,rfl,ownsRow_putObj ak _ hK rfl,ob,hB.trans (belowK_b (w:=w) (le_refl _) W D _ _ (by simp at hD;omega) hK rfl rfl)⟩
 case stop=>
  rintro D c pre W _ _ h _;exact h.elim
end Go.Proofs.YtefjlhhicgepfaaGreatDoor

namespace Go.Proofs.YtefjlhhicgepfaaGreatDoor
open Go.Proofs.Tryz (prog)
open Go Am Go.Proofs Go.RowKit Go.Sort
attribute [local go_sem] Oper.semAt_some
set_option maxRecDepth 100000
variable {G:bl}
set_option maxHeartbeats 1000000 in
theorem a6u(F:Fence)(n:Nat)(h8:F.fn 107)(h11:F.fn 126)(h5:F.fn 109)(mn:F.round=none)(hn:4≤n)(Bv:Nat)(sv:Value)(xs:List Int)(z6:xs.length*8≤140737488351232)(w:World)
 (hBv:Bv<w.heap.size) (hcv:w.cell? ⟨Bv,0,none⟩ = some sv) (hL:po w.heap.size w sv xs) :
 CallsIn F n prog 107 #[.func (.func 109) #[] #[.pointer (some ⟨Bv,0,none⟩)]] w fun e W'=>∃ v,e = .returned v∧W'.ownsRow w.heap.size 3 1 v xs.length (xs.map (Value.int .i64))∧(v = .slice none 0 0↔xs=[])∧Below w.heap.size w W':=by
 have h1:1≤n:=by omega
 refine callsIn_of_wp Tryz.func107 rfl h8 ?_ mn;simp only[Tryz.ntmps107,size_toArray,length_cons,length_nil,reduceAdd,reduceSub,replicate_succ,replicate_zero,push_toArray,append_toArray,nil_append,cons_append]
 gi_wp2_with (gi_at_call 126;refine (qdt F (n-1) h11 h5 mn (by omega) Bv sv xs z6 _ hBv hcv hL).mono ?_;rintro e w' ⟨v,rfl,ak,ob,hb⟩)
 go_ret
 exact ⟨v,rfl,ak,ob,hb⟩
def iq(xs:List Int):Blk:={ fz:=false,ap:=false,ty:=22,sz:=1,rows:=[[.d (ab xs)]] }
def ks(fz:Bool)(xs:List Int):Blk:=bu fz 3 (D.int .i64) xs
theorem acm(b:Blk):co (hOf []) 0 b=hOf [b]:=by
 funext x
 cases x with
 | zero=>rfl
 | succ x=>simp[co,hOf]
theorem ak1(a b:Blk):co (hOf [a]) 1 b=hOf [a,b]:=by
 funext x
 match x with
 | 0=>rfl
 | 1=>rfl
 | x+2=>simp[co,hOf]
theorem alj{w:World}{C:Com}{xs:List Int}{v:Value}(ady:∀ r o,C r o→r<w.heap.size)(h:eb w C (ab xs) v):(∃ a len cap,v = .slice a len cap)∧po w.heap.size w v xs:=by
 unfold ab at h;generalize xu:xs.map ie=ys at h;cases h with
 | nil=>
  have:xs=[]:=List.map_eq_nil_iff.1 xu;subst this;exact ⟨⟨_,_,_,rfl⟩,.inl ⟨⟨none,0,rfl⟩,rfl⟩⟩
 | nilA a=>
  have:xs=[]:=List.map_eq_nil_iff.1 xu;subst this;exact ⟨⟨_,_,_,rfl⟩,.inl ⟨⟨some a,0,rfl⟩,rfl⟩⟩
 | sl _ r o cap sz vs fl de hC bp hrec=>
  subst xu;refine ⟨⟨_,_,_,rfl⟩,?_⟩
  by_cases h0:xs=[]
  · subst h0;exact .inl ⟨⟨_,cap,rfl⟩,rfl⟩
  · have mp : 0 < (xs.map ie).length := by
     cases xs with
     | nil=>exact absurd rfl h0
     | cons a l=>simp
    have hs1:sz=1:=by
     have:=de 0 mp;simp[ie] at this;exact this.symm
    subst hs1;refine .inr ⟨r,o,cap,by simp,ady r _ (hC 0 0 mp (by omega)),fun j hj=>?_⟩
    have gb:j<(xs.map ie).length:=by simpa using hj
    have hc:=(bp j 0 gb (by omega)).1
    have hr:=hrec j 0 gb (by simp[ie])
    simp only[getElem_map,ie,getElem_cons_zero] at hr;generalize vs j 0=u at hr hc;have:u = .int .i64 xs[j]:=by cases hr;rfl
    rw[this] at hc
    simpa [hj] using hc
theorem qkx:th prog 83:=⟨Tryz.f83,Tryz.func83,by kernel_rfl,by kernel_rfl⟩
theorem qqs:th prog 107:=⟨Tryz.f107,Tryz.func107,by kernel_rfl,by kernel_rfl⟩
theorem a16:th prog 108:=⟨Tryz.f108,Tryz.func108,by kernel_rfl,by kernel_rfl⟩
theorem qcq:th prog 81:=⟨Tryz.f81,Tryz.func81,by kernel_rfl,by kernel_rfl⟩
theorem a6d(xs:List Int):CC prog G 83 [] [.d (ab xs)] [iq xs] (.clo (.func 109) [] [.ptr 0 1 0 0]):=by
 refine ⟨qkx,fun w C ρ vs hR hG hv=>?_⟩
 obtain ⟨an,hv⟩:=hv
 obtain ⟨v,rfl⟩:∃ v,vs=[v]:=by
  match vs,an with
  | [v],_=>exact ⟨v,rfl⟩
 have hp:=hv 0 (by simp) (by simp)
 simp only[getElem_cons_zero] at hp;have hd:eb w C (ab xs) v:=by cases hp;assumption
 obtain ⟨⟨a,len,cap,rfl⟩,_⟩:=alj (fun r o hc=>hR.com_lt hc) hd
 refine (callsIn_wide.1 (aup Fence.wide 5 trivial rfl a len cap w)).mono ?_;rintro e w' ⟨rfl,rfl⟩;have hold:∀ bj,hOf [] 0=some bj→(iq xs).sz=bj.sz∧bj.rows.length<(iq xs).rows.length:=fun bj h=>by simp[hOf] at h
 have hf:lj w C ρ (hOf []) (iq xs) #[.slice a len cap]:=by
  refine ⟨by simp[iq],fun i h=>?_,fun i j hi hj=>?_⟩
  · have hi:i=0:=by simp[iq] at h;omega
    subst hi;rfl
  · have hi0:i=0:=by simp[iq] at hi;omega
    subst hi0;have hj0:j=0:=by simp[iq] at hj;omega
    subst hj0;exact ⟨_,by simp[iq],rfl,.d _ _ hd⟩
 have k1:=qjj hR hold hf rfl;have k2:=n7 (cs:=#[.slice a len cap]) hR hold;rw[acm] at k1 k2;refine ⟨_,C,_,rfl,k1,k2,.clo _ [] [.ptr 0 1 0 0] [] [.pointer (some ⟨w.heap.size,0,none⟩)] rfl rfl (fun i h=>by simp at h) fun i h h'=>?_⟩
 have hi0:i=0:=by simp at h;omega
 subst hi0;exact .ptr 0 1 0 0 _ (iq xs) rfl (le_refl _) rfl fun _=>⟨w.heap.size,1,by rw[qq];rfl,rfl⟩
theorem a0b(xs:List Int)(hx:xs.length<1000000000):CC prog G 107 [iq xs] [.clo (.func 109) [] [.ptr 0 1 0 0]] [iq xs,ks false xs] (.own 1 xs.length 0 xs.length):=by
 refine ⟨qqs,fun w C ρ vs hR hG hv=>?_⟩
 obtain ⟨an,hv⟩:=hv
 obtain ⟨v,rfl⟩:∃ v,vs=[v]:=by
  match vs,an with
  | [v],_=>exact ⟨v,rfl⟩
 have hp:=hv 0 (by simp) (by simp)
 simp only[getElem_cons_zero] at hp;have pm:hOf [iq xs] 0=some (iq xs):=rfl
 obtain ⟨r0,fp,rfl⟩:∃ r0,(∃ s,ρ 0=some (r0,s))∧v = .func (.func 109) #[] #[.pointer (some ⟨r0,0,none⟩)]:=by
  cases hp with
  | clo _ _ _ fv cv hf hc h1 h2=>
   have:fv=[]:=List.eq_nil_of_length_eq_zero hf.symm;subst this
   obtain ⟨p,rfl⟩:∃ p,cv=[p]:=by
    match cv,hc with
    | [p],_=>exact ⟨p,rfl⟩
   have hq:=h2 0 (by simp) (by simp)
   simp only[getElem_cons_zero] at hq;cases hq with
   | ptr _ _ _ _ _ blk hb hn h1 h=>
    obtain rfl:iq xs=blk:=by simpa [hOf] using hb
    obtain ⟨r,s,h3,rfl⟩:=h rfl;exact ⟨r,⟨s,h3⟩,by simp⟩
 obtain ⟨s,fp⟩:=fp;have vd:=hR.blk 0 _ pm;unfold cw at vd;rw[fp] at vd;obtain ⟨⟨cs,lo,hi,m1,m2,m3,m4,m5,m6,m7⟩,n1,n2⟩:=vd;obtain ⟨sv,v1,v2,v3⟩:=m7 0 0 (by simp[iq]) (by simp[iq])
 simp only[iq,getElem_cons_zero,Nat.zero_mul,Nat.add_zero] at v1 v3;have hd:eb w C (ab xs) sv:=by cases v3;assumption
 obtain ⟨_,hI⟩:=alj (fun r o hc=>hR.com_lt hc) hd
 have bp:w.cell? ⟨r0,0,none⟩ = some sv:=by rw[qrb,m1];exact v1
 have cf:r0<w.heap.size:=(Array.getElem?_eq_some_iff.1 m1).1;refine (callsIn_wide.1 (a6u Fence.wide 5 trivial trivial trivial rfl (by omega) r0 sv xs (by omega) w cf bp hI)).mono ?_
 rintro e w' ⟨v,rfl,ak,ob,hb⟩;have iz:hOf [iq xs] 1=none:=rfl;rcases ak.2 with ⟨rfl,hz⟩|⟨g,cap,cur,rfl,sr,hgb,h1,h2,h3,h4⟩
 · have hx0:xs=[]:=List.eq_nil_of_length_eq_zero hz;obtain ⟨k1,k2⟩:=qun (blk:=ks false xs) hR hb iz (by rw[hx0];rfl) rfl
   rw[ak1] at k1 k2;refine ⟨_,C,_,rfl,k1,k2,?_⟩;rw[hx0];exact .own 1 0 0 0 _ (ks false []) (by rw[← hx0];rfl) (le_refl _) rfl fun _=>.inr ⟨if_pos rfl,rfl,rfl,rfl⟩
 · have de:cur.size=cap:=by rw[h3,mul_one]
   have ac6:∀ j (hj:j<xs.length),cur[j]? = some (.int .i64 xs[j]):=fun j hj=>by
    have:(cur.toList.take (xs.length*1))[j]? = (xs.map (Value.int .i64))[j]?:=by rw[h4]
    rw[mul_one,List.getElem?_take] at this
    simpa [hj] using this
   have hf:lj w' C ρ (hOf [iq xs]) (ks false xs) cur:=by
    refine ⟨by simp[ks,bu];omega,fun i h=>by simp[ks,bu],fun i j hi hj=>?_⟩
    have bn:i<xs.length:=by simpa [ks,bu] using hi
    have hj0:j=0:=by simp[ks,bu] at hj;omega
    subst hj0;refine ⟨.int .i64 xs[i],by simpa [ks,bu] using ac6 i bn,rfl,?_⟩
    simp only[ks,bu,getElem_map,getElem_cons_zero];exact .d _ _ (.int _ _)
   have k1:=qhr (blk:=ks false xs) hR hb iz sr hgb hf rfl;have k2:=tv (cs:=cur) (blk:=ks false xs) hR hb iz sr;rw[ak1] at k1 k2;refine ⟨_,C,_,rfl,k1,k2,?_⟩;exact .own 1 _ 0 _ _ (ks false xs) rfl (by simp[ks,bu]) rfl fun _=>.inl ⟨g,cur.size,cap,by rw[qq],by simp,h1,by simp[ks,bu];omega,by omega⟩
theorem aky:vv (Value.int .i64) (D.int .i64):=⟨fun w C x=>.int _ x,fun x=>rfl,fun w C x v h=>by cases h;rfl⟩
theorem att(l:List Int)(hl:l.length<4611686018427387904):CC prog G 108 [ks false l] [.own 0 l.length 0 l.length] [ks false (ii l)] (.tup []):=
 aha (enc:=Value.int .i64) (dE:=D.int .i64) (ty:=3) (g:=ii) aky a16 qqn (fun blk cap l w h1 h2 h3=>Tryz.slices_Sort_int blk 0 cap l w h1 h2 h3) (fun p cap w=>Tryz.slices_Sort_int_none p cap w) l hl
theorem qrk(l:List Int):(Lib.compact l).length≤l.length:=by
 unfold Lib.compact Lib.compactUpTo;rw[List.length_map];refine Nat.le_trans (List.length_filter_le _ _) (by simp)
def pz(l:List Int):List Int:=Lib.compact l++replicate (l.length-(Lib.compact l).length) 0
theorem qcw(l:List Int)(hl:l.length<4611686018427387904):CC prog G 81 [ks false l] [.own 0 l.length 0 l.length] [ks true (pz l)] (.d (ab (Lib.compact l))):=by
 have h:=ajp (G:=G) (enc:=Value.int .i64) (dE:=D.int .i64) (ty:=3) aky qcq (g:=pz) (k:=fun l=>(Lib.compact l).length)
  (fun l=>by have:=qrk l;simp[pz];omega) (fun l=>qrk l) (fun blk cap l w h1 h2 h3=>Tryz.slices_Compact_int blk 0 cap l w h1 h2 h3) (fun p cap w=>Tryz.slices_Compact_int_empty p cap w) l hl
 have ht:(pz l).take (Lib.compact l).length=Lib.compact l:=by simp[pz]
 simp only[ht] at h;exact h
end Go.Proofs.YtefjlhhicgepfaaGreatDoor

namespace Go.Proofs.YtefjlhhicgepfaaGreatDoor
open Go.Proofs.Tryz (prog)
open Go Am Go.Proofs Go.RowKit Go.Sort
set_option maxRecDepth 100000
variable {G:bl}
def unI:List (List D)→Option (List Int)
 | []=>some []
 | [.int .i64 n]::r=>(unI r).map (n :: ·)
 | _=>none
def wn:D→Option (List Int)
 | .sl xs=>unI xs
 | _=>none
theorem ajx:∀ {xs:List (List D)} {l:List Int},unI xs=some l→xs=l.map ie
 | [],l,h=>by simp[unI] at h;subst h;rfl
 | r::xs,l,h=>by
  unfold unI at h
  split at h
  · rename_i h0;simp at h0
  · rename_i n r' h0;simp only[List.cons.injEq] at h0;obtain ⟨rfl,rfl⟩:=h0;obtain ⟨l',h1,rfl⟩:=Option.map_eq_some_iff.1 h;rw[ajx h1];rfl
  · simp at h
theorem a3k{d:D}{l:List Int}(h:wn d=some l):d=ab l:=by
 unfold wn at h
 split at h
 · rw[ajx h];rfl
 · simp at h
theorem amh:∀ l:List Int,unI (l.map ie)=some l
 | []=>rfl
 | n::l=>by simp only[map_cons,ie,unI];rw[amh l];rfl
theorem apo(l:List Int):wn (ab l)=some l:=amh l
def aaa:List (List D)→Option (List (List UInt8))
 | []=>some []
 | [.str n]::r=>(aaa r).map (n :: ·)
 | _=>none
def xr:D→Option (List (List UInt8))
 | .sl xs=>aaa xs
 | _=>none
theorem aoz:∀ {xs:List (List D)} {l:List (List UInt8)},aaa xs=some l→xs=l.map ij
 | [],l,h=>by simp[aaa] at h;subst h;rfl
 | r::xs,l,h=>by
  unfold aaa at h
  split at h
  · rename_i h0;simp at h0
  · rename_i n r' h0;simp only[List.cons.injEq] at h0;obtain ⟨rfl,rfl⟩:=h0;obtain ⟨l',h1,rfl⟩:=Option.map_eq_some_iff.1 h;rw[aoz h1];rfl
  · simp at h
theorem aq3{d:D}{l:List (List UInt8)}(h:xr d=some l):d=af l:=by
 unfold xr at h
 split at h
 · rw[aoz h];rfl
 · simp at h
theorem qpa:∀ l:List (List UInt8),aaa (l.map ij)=some l
 | []=>rfl
 | n::l=>by simp only[map_cons,ij,aaa];rw[qpa l];rfl
theorem a0s(l:List (List UInt8)):xr (af l)=some l:=qpa l
theorem qpl(l:List Int):D.WF (ab l):=.sl _ fun r hr c hc=>by
 simp only[mem_map] at hr;obtain ⟨s,_,rfl⟩:=hr;simp only[ie,mem_singleton] at hc;subst hc;exact .int _ s
theorem axi(l:List (List UInt8)):D.WF (af l):=.sl _ fun r hr c hc=>by
 simp only[mem_map] at hr;obtain ⟨s,_,rfl⟩:=hr;simp only[ij,mem_singleton] at hc;subst hc;exact .str s
def zh(k:List Int→Option (List D)):PF:=fun a=>match a with
 | [d]=>match wn d with|some l=>k l|none=>none
 | _=>none
theorem qzd{k:List Int→Option (List D)}{a o:List D}(h:zh k a=some o):∃ l,a=[ab l]∧k l=some o:=by
 unfold zh at h
 split at h
 · rename_i d
   split at h
   · rename_i l hl;exact ⟨l,by rw[a3k hl],h⟩
   · simp at h
 · simp at h
theorem qnl(k:List Int→Option (List D))(l:List Int):zh k [ab l]=k l:=by
 unfold zh;simp only[apo]
def rm:PF:=zh fun l=>some [ab l]
def nq:PF:=zh fun l=>if l.length<1000000000 then some [ab l,ab l] else none
def yq:PF:=zh fun l=>if l.length<1000000000 then some [ab (ii l)] else none
def ng:PF:=zh fun l=>if l.length<1000000000 then some [ab (Lib.compact l),ab (pz l)] else none
def pq:PF:=fun a=>match a with
 | [d]=>match xr d with|some l=>if l.length<1000000000 then some [af l] else none|none=>none
 | _=>none
theorem qpn{a o:List D}(h:pq a=some o):∃ l,a=[af l]∧l.length<1000000000∧o=[af l]:=by
 unfold pq at h
 split at h
 · rename_i d
   split at h
   · rename_i l hl
     split at h
     · rename_i hc;exact ⟨l,by rw[aq3 hl],hc,(Option.some.inj h).symm⟩
     · simp at h
   · simp at h
 · simp at h
theorem qcp{a o:List D}(h:rm a=some o):EWF o:=by
 obtain ⟨l,rfl,hk⟩:=qzd h;clear h;simp only[Option.some.injEq] at hk;subst hk;intro d hd;simp only[mem_singleton] at hd;subst hd;exact qpl _
theorem qkn{a o:List D}(h:nq a=some o):EWF o:=by
 obtain ⟨l,rfl,hk⟩:=qzd h;clear h
 split at hk
 · simp only[Option.some.injEq] at hk;subst hk;intro d hd;simp only[mem_cons,not_mem_nil,or_false] at hd;rcases hd with rfl|rfl<;>exact qpl _
 · simp at hk
theorem qzy{a o:List D}(h:yq a=some o):EWF o:=by
 obtain ⟨l,rfl,hk⟩:=qzd h;clear h
 split at hk
 · simp only[Option.some.injEq] at hk;subst hk;intro d hd;simp only[mem_singleton] at hd;subst hd;exact qpl _
 · simp at hk
theorem qsm{a o:List D}(h:ng a=some o):EWF o:=by
 obtain ⟨l,rfl,hk⟩:=qzd h;clear h
 split at hk
 · simp only[Option.some.injEq] at hk;subst hk;intro d hd;simp only[mem_cons,not_mem_nil,or_false] at hd;rcases hd with rfl|rfl<;>exact qpl _
 · simp at hk
theorem qdu{a o:List D}(h:pq a=some o):EWF o:=by
 obtain ⟨l,rfl,_,rfl⟩:=qpn h;intro d hd;simp only[mem_singleton] at hd;subst hd;exact axi _
theorem ae4(xs:List Int):(xs.map ie).map (map AV.d)=xs.map fun x=>[AV.d (.int .i64 x)]:=by simp[ie,Function.comp_def]
theorem aij(xs:List (List UInt8)):(xs.map ij).map (map AV.d)=xs.map fun x=>[AV.d (.str x)]:=by simp[ij,Function.comp_def]
theorem afm:((fun x=>map AV.d x)∘ie)=fun x=>[AV.d (D.int .i64 x)]:=rfl
theorem aja:((fun x=>map AV.d x)∘ij)=fun x=>[AV.d (D.str x)]:=rfl
theorem qxx:jh prog G rm sg64:=by
 intro ins outs jb hl m9 hr i6;have hw:=qcp hr;obtain ⟨l,rfl,h⟩:=qzd hr;simp only[Option.some.injEq] at h;subst h;exact ⟨hw,a6d l,fun i hi=>by simp[sg64,inL] at hi⟩
theorem qhu:jh prog G nq sg88:=by
 intro ins outs jb hl m9 hr i6;have hw:=qkn hr;obtain ⟨l,rfl,h⟩:=qzd hr
 split at h
 · rename_i hx;simp only[Option.some.injEq] at h;subst h;refine ⟨hw,?_,fun i hi=>by simp[sg88,inL] at hi⟩
   have:=a0b (G:=G) l hx
   simpa [sg88,hIn,SB.inst,SB.rows,SA.val,ab,D.rows,ae4,afm,ks,iq,bu,SV.instL,SV.inst,lnL,ae,am,SB.len] using this
 · simp at h
theorem asa:jh prog G yq sg89:=by
 intro ins outs jb hl m9 hr i6;have hw:=qzy hr;obtain ⟨l,rfl,h⟩:=qzd hr
 split at h
 · rename_i hx;simp only[Option.some.injEq] at h;subst h
   have hk:∀ i,lnL [ab (ii l)] sg89.Hout i=lnL [ab l] sg89.Hin i:=fun i=>by
    have:=qqn l;cases i with
    | zero=>simpa [sg89,lnL,ae,am,SB.len,SA.val,ab,D.rows] using this
    | succ i=>simp[sg89,lnL,ae,am]
   refine ⟨hw,?_,fun i _=>hk i⟩
   have:=att (G:=G) l (by omega)
   simpa [sg89,hIn,SB.inst,SB.rows,SA.val,ab,D.rows,ae4,afm,ks,iq,bu,SV.instL,SV.inst,lnL,ae,am,SB.len] using this
 · simp at h
theorem qss:jh prog G ng sg66:=by
 intro ins outs jb hl m9 hr i6;have hw:=qsm hr;obtain ⟨l,rfl,h⟩:=qzd hr
 split at h
 · rename_i hx;simp only[Option.some.injEq] at h;subst h;refine ⟨hw,?_,fun i hi=>by simp[sg66,inL] at hi⟩
   have:=qcw (G:=G) l (by omega)
   simpa [sg66,hIn,SB.inst,SB.rows,SA.val,ab,D.rows,ae4,afm,ks,iq,bu,SV.instL,SV.inst,lnL,ae,am,SB.len] using this
 · simp at h
theorem a1s{w:World}{C:Com}{xs:List (List UInt8)}{v:Value}(h:eb w C (af xs) v):(xs=[]∧v = .slice none 0 0)∨(xs=[]∧∃ a cap,v = .slice (some a) 0 cap)∨(xs≠[]∧∃ r o cap,v = .slice (some ⟨r,o,none⟩) xs.length cap∧∀ j (hj:j<xs.length),w.cell? ⟨r,o+j,none⟩ = some (.string ⟨⟨xs[j]⟩⟩)):=by
 unfold af at h;generalize xu:xs.map ij=ys at h;cases h with
 | nil=>exact .inl ⟨List.map_eq_nil_iff.1 xu,rfl⟩
 | nilA a=>exact .inr (.inl ⟨List.map_eq_nil_iff.1 xu,a,0,rfl⟩)
 | sl _ r o cap sz vs fl de hC bp hrec=>
  subst xu
  by_cases h0:xs=[]
  · subst h0;exact .inr (.inl ⟨rfl,_,cap,rfl⟩)
  · have mp : 0 < (xs.map ij).length := by
     cases xs with
     | nil=>exact absurd rfl h0
     | cons a l=>simp
    have hs1:sz=1:=by
     have:=de 0 mp;simp[ij] at this;exact this.symm
    subst hs1;refine .inr (.inr ⟨h0,r,o,cap,by simp,fun j hj=>?_⟩)
    have gb:j<(xs.map ij).length:=by simpa using hj
    have hc:=(bp j 0 gb (by omega)).1
    have hr:=hrec j 0 gb (by simp[ij])
    simp only[getElem_map,ij,getElem_cons_zero] at hr;generalize vs j 0=u at hr hc;have:u = .string ⟨⟨xs[j]⟩⟩:=by cases hr;rfl
    rw[this] at hc
    simpa using hc
theorem a35:th prog 84:=⟨Tryz.f84,Tryz.func84,by kernel_rfl,by kernel_rfl⟩
def mi(xs:List (List UInt8)):Blk:=bu false 9 D.str xs
theorem qop{w w':World}{C:Com}{ρ:Rho}(hR:bh w C ρ (hOf [])){xs:List (List UInt8)}{v:Value}(ak:w'.ownsRow w.heap.size 9 1 v xs.length (xs.map fun s=>Value.string ⟨⟨s⟩⟩))(hb:Below w.heap.size w w') :
 ∃ C' ρ',bh w' C' ρ' (hOf [mi xs])∧Ext w C ρ (hOf []) w' C' ρ' (hOf [mi xs])∧ao w' C' ρ' (hOf [mi xs]) (.own 0 xs.length 0 xs.length) v:=by
 have iz:hOf [] 0=none:=rfl;rcases ak.2 with ⟨rfl,hz⟩|⟨g,cap,cur,rfl,sr,hgb,h1,h2,h3,h4⟩
 · have hx0:xs=[]:=List.eq_nil_of_length_eq_zero hz;obtain ⟨k1,k2⟩:=qun (blk:=mi xs) hR hb iz (by rw[hx0];rfl) rfl
   rw[acm] at k1 k2;refine ⟨C,_,k1,k2,?_⟩;rw[hx0];exact .own 0 0 0 0 _ (mi []) (by rw[← hx0];rfl) (le_refl _) rfl fun _=>.inr ⟨if_pos rfl,rfl,rfl,rfl⟩
 · have de:cur.size=cap:=by rw[h3,mul_one]
   have ac6:∀ j (hj:j<xs.length),cur[j]? = some (.string ⟨⟨xs[j]⟩⟩):=fun j hj=>by
    have:(cur.toList.take (xs.length*1))[j]? = (xs.map fun s=>Value.string ⟨⟨s⟩⟩)[j]?:=by rw[h4]
    rw[mul_one,List.getElem?_take] at this
    simpa [hj] using this
   have hf:lj w' C ρ (hOf []) (mi xs) cur:=by
    refine ⟨by simp[mi,bu];omega,fun i h=>by simp[mi,bu],fun i j hi hj=>?_⟩
    have bn:i<xs.length:=by simpa [mi,bu] using hi
    have hj0:j=0:=by simp[mi,bu] at hj;omega
    subst hj0;refine ⟨.string ⟨⟨xs[i]⟩⟩,by simpa [mi,bu] using ac6 i bn,rfl,?_⟩
    simp only[mi,bu,getElem_map,getElem_cons_zero];exact .d _ _ (.str _)
   have k1:=qhr (blk:=mi xs) hR hb iz sr hgb hf rfl;have k2:=tv (cs:=cur) (blk:=mi xs) hR hb iz sr;rw[acm] at k1 k2;refine ⟨C,_,k1,k2,?_⟩;exact .own 0 _ 0 _ _ (mi xs) rfl (by simp[mi,bu]) rfl fun _=>.inl ⟨g,cur.size,cap,by rw[qq],by simp,h1,by simp[mi,bu];omega,by omega⟩
theorem apk(xs:List (List UInt8))(hx:xs.length<1000000000):CC prog G 84 [] [.d (af xs)] [mi xs] (.own 0 xs.length 0 xs.length):=by
 refine ⟨a35,fun w C ρ vs hR hG hv=>?_⟩
 obtain ⟨an,hv⟩:=hv
 obtain ⟨v,rfl⟩:∃ v,vs=[v]:=by
  match vs,an with
  | [v],_=>exact ⟨v,rfl⟩
 have hp:=hv 0 (by simp) (by simp)
 simp only[getElem_cons_zero] at hp;have hd:eb w C (af xs) v:=by cases hp;assumption
 rcases a1s hd with ⟨rfl,rfl⟩|⟨rfl,a,cap,rfl⟩|⟨h0,r,o,cap,rfl,hc⟩
 · refine (Tryz.slices_Clone_string_nil 0 0 w).mono ?_;rintro e w' ⟨rfl,rfl⟩;obtain ⟨C',ρ',k1,k2,k3⟩:=qop (w':=w') hR (xs:=[]) (v:=.slice none 0 0) (World.ownsRow_nil _ _ _ _) (Below.refl _ _);exact ⟨_,C',ρ',rfl,k1,k2,k3⟩
 · refine (Tryz.slices_Clone_string_zero a cap w).mono ?_;rintro e w' ⟨v',rfl,ak,_,hb⟩;obtain ⟨C',ρ',k1,k2,k3⟩:=qop hR (xs:=[]) ak hb;exact ⟨_,C',ρ',rfl,k1,k2,k3⟩
 · refine (Tryz.slices_Clone_string r o xs.length cap (xs.map fun s=>⟨⟨s⟩⟩) w (by simp) (by omega) (fun j hj=>?_)).mono ?_
   · have gb:j<xs.length:=by simpa using hj
     rw[hc j gb];simp[gb]
   rintro e w' ⟨v',rfl,ak,_,hb⟩
   have hm:((xs.map fun s=>(⟨⟨s⟩⟩:ByteArray)).take xs.length).map Value.string=xs.map fun s=>Value.string ⟨⟨s⟩⟩:=by
    rw[List.take_of_length_le (by simp)];simp[Function.comp_def]
   rw[hm] at ak;obtain ⟨C',ρ',k1,k2,k3⟩:=qop hR ak hb;exact ⟨_,C',ρ',rfl,k1,k2,k3⟩
theorem ay2:jh prog G pq sg67:=by
 intro ins outs jb hl m9 hr i6;have hw:=qdu hr;obtain ⟨l,rfl,hx,rfl⟩:=qpn hr;refine ⟨hw,?_,fun i hi=>by simp[sg67,inL] at hi⟩
 have:=apk (G:=G) l hx
 simpa [sg67,hIn,SB.inst,SB.rows,SA.val,af,D.rows,aij,aja,mi,bu,SV.instL,SV.inst,lnL,ae,am,SB.len] using this
end Go.Proofs.YtefjlhhicgepfaaGreatDoor

namespace Go.Proofs.YtefjlhhicgepfaaGreatDoor
open Go.Proofs.Tryz (prog)
open Go Am
set_option maxRecDepth 100000
def RT:Tab:=[
 (3,⟨1,8,true,true,false,none,none,(some .i64),false,false,(some (.int .i64 0)),[],none⟩),
 (9,⟨1,16,true,true,false,none,none,none,true,false,(some (.string ⟨⟨[]⟩⟩)),[],none⟩),
 (31,⟨1,24,true,true,false,(some 39),none,none,false,false,(some (.slice none 0 0)),[],none⟩),
 (39,⟨3,48,true,true,true,none,none,none,false,false,(some (.agg #[(.int .i64 0),(.string ⟨⟨[]⟩⟩),(.slice none 0 0)])),[(0,3),(1,9),(2,31)],(some [(0,1),(1,1),(2,1)])⟩)]
theorem a27:TOK prog RT:=agz (by kernel_rfl)
def RSG:ef:=[]
def aca:Sig:=⟨25,1,[⟨false,true,39,3,.v 0,[]⟩],[.own 0],1,[⟨false,true,39,3,.v 0,[]⟩],(.tup []),false,[]⟩
def acw:List Sig:=[aca]
def amn:Ann:=(.s none .z (.b (.l ⟨3,[(2,(.atm (.v 0))),(3,(.atm (.v 1))),(4,.junk),(5,.junk),(6,.junk)],[(0,⟨false,true,39,3,.v 2,[]⟩)],1,[]⟩ .z)))
def xq:IR:=(.op (pb .lss) [.v 3,.v 4] (.ite (.v 6) (.op .chk [.v 5,.v 4] (.op (.get 0 3) [.v 5,.v 4] (.op .chk [.v 5,.v 3] (.op (.get 0 3) [.v 5,.v 3] (.op .chk [.v 5,.v 3] (.op (.set 0 3) [.v 5,.v 3,.v 7,.v 8,.v 9] (.op .chk [.v 13,.v 4] (.op (.set 0 3) [.v 13,.v 4,.v 10,.v 11,.v 12] (.op (pb .add) [.v 3,ik 1] (.op (pb .sub) [.v 4,ik 1] (.jump 0 [.v 15,.v 16,.v 14]))))))))))) (.ret [.v 5])))
def adm:IR:=(.op .lenL [.v 0] (.op (pb .sub) [.v 1,ik 1] (.loop 3 [ik 0,.v 2,.v 0] xq)))
theorem awu:ai RT RSG acw 3000 aca Tryz.f25 amn=some adm:=by kernel_rfl
def am4:List TE:=[.ir adm]
theorem auj{G:bl}:aah prog G RT RSG acw 0 am4:=⟨⟨aca,Tryz.f25,amn,3000,rfl,Tryz.func25,awu,.nil⟩,trivial⟩
def Rtb:Nat→TE:=abw am4
theorem a4u{G:bl}:uu prog G RT RSG acw Rtb:=qqp auj
theorem arm{G:bl}:GOK G RSG:=⟨(fun g cs h=>by cases h),(fun g cs h=>by cases h)⟩
open Go Am Go.Proofs
variable {G:bl}
def swp(l:List (List D))(i:Nat):List (List D):=(range l.length).map fun k=>if k<i∨l.length≤k+i then l.getD (l.length-1-k) [] else l.getD k []
theorem qqg(l:List (List D))(i:Nat):(swp l i).length=l.length:=by simp[swp]
theorem qhk(l:List (List D))(i k:Nat)(hk:k<l.length):(swp l i)[k]? = some (if k<i∨l.length≤k+i then l.getD (l.length-1-k) [] else l.getD k []):=by
 simp[swp,List.getElem?_map,List.getElem?_range hk]
theorem aqf(l:List (List D)):swp l 0=l:=by
 refine List.ext_getElem? fun k=>?_
 by_cases hk:k<l.length
 · rw[qhk l 0 k hk,if_neg (by omega),getD_eq_getElem?_getD,getElem?_eq_getElem hk];rfl
 · rw[getElem?_eq_none (by rw[qqg];omega),getElem?_eq_none (by omega)]
theorem azp(l:List (List D))(i:Nat)(h:l.length≤2*i+1)(h2:2*i≤l.length+1):swp l i=l.reverse:=by
 refine List.ext_getElem? fun k=>?_
 by_cases hk:k<l.length
 · rw[qhk l i k hk,List.getElem?_reverse hk,getElem?_eq_getElem (by omega)]
   by_cases h3:k<i∨l.length≤k+i
   · rw[if_pos h3,getD_eq_getElem?_getD,getElem?_eq_getElem (by omega)];rfl
   · rw[if_neg h3,getD_eq_getElem?_getD,getElem?_eq_getElem hk];have:l.length-1-k=k:=by omega
     simp only[this];rfl
 · rw[getElem?_eq_none (by rw[qqg];omega),getElem?_eq_none (by simp;omega)]
theorem a19(l:List (List D))(i:Nat)(h:2*i+1<l.length):((swp l i).set i (l.getD (l.length-1-i) [])).set (l.length-1-i) (l.getD i [])=swp l (i+1):=by
 refine List.ext_getElem? fun k=>?_
 by_cases hk:k<l.length
 · rw[qhk l (i+1) k hk,List.getElem?_set,List.getElem?_set,List.length_set,qqg]
   by_cases h1:l.length-1-i=k
   · rw[if_pos h1,if_pos (by omega),if_pos (by omega)]
     have:l.length-1-k=i:=by omega
     rw[this]
   · rw[if_neg h1]
     by_cases h2:i=k
     · subst h2;rw[if_pos rfl,if_pos hk,if_pos (by omega)]
     · rw[if_neg h2,qhk l i k hk]
       by_cases h3:k<i∨l.length≤k+i
       · rw[if_pos h3,if_pos (by omega)]
       · rw[if_neg h3,if_neg (by omega)]
 · rw[getElem?_eq_none (by simp[qqg];omega),getElem?_eq_none (by rw[qqg];omega)]
theorem ai5{r:List D}(h:r.length=3):∃ a b c,r=[a,b,c]:=by
 match r,h with
 | [a,b,c],_=>exact ⟨a,b,c,rfl⟩
theorem av1(l:List (List D))(h3:∀ r∈l,r.length=3)(hl:l.length<1000000000):run Rtb 0 [.sl l]=some [.sl l.reverse]:=by
 refine qh (x:=adm) rfl ?_
 have key:=quj (run:=run Rtb) (body:=xq) (e:=[.sl l,.int .i64 l.length,.int .i64 (l.length-1)]) (J:=[]) (ι:=Nat) (fun i=>l.length-i) (fun i=>2*i≤l.length+1)
  (fun i=>[.int .i64 i,.int .i64 (l.length-1-i),.sl (swp l i)]) (fun _=>[.sl l.reverse])
  (by
   intro i L hi hL
   by_cases hc:2*i+1<l.length
   · have hci:((i:Int)<(l.length:Int)-1-i):=by omega
     obtain ⟨a1,b1,c1,e1⟩:=ai5 (h3 (l.getD i []) (by rw[getD_eq_getElem?_getD,getElem?_eq_getElem (by omega)];exact getElem_mem _))
     obtain ⟨a2,b2,c2,e2⟩:=ai5 (h3 (l.getD (l.length-1-i) []) (by rw[getD_eq_getElem?_getD,getElem?_eq_getElem (by omega)];exact getElem_mem _))
     have g1:=qhk l i i (by omega)
     rw[if_neg (by omega),e1] at g1
     have g2:=qhk l i (l.length-1-i) (by omega)
     rw[if_neg (by omega),e2] at g2
     have hs:=a19 l i hc;rw[e1,e2] at hs;have hj:((l.length:Int)-1-i).toNat=l.length-1-i:=by omega
     have g3:((swp l i).set i [a2,b2,c2])[l.length-1-i]? = some [a2,b2,c2]:=by
      rw[List.getElem?_set,if_neg (by omega),g2]
     have yr:IntKind.i64.wrap ((i:Int)+1)=((i+1:Nat):Int):=by rw[wr (by omega) (by omega)];omega
     have tq:IntKind.i64.wrap ((l.length:Int)-1-i-1)=(l.length:Int)-1-((i+1:Nat):Int):=by rw[wr (by omega) (by omega)];omega
     have q1:PO.eval (.bin .lss false) [.int .i64 i,.int .i64 (l.length-1-i)]=some [.bool true]:=by simp[PO.eval,ac,one1,hci]
     have q2:∀ x:List (List D),x.length=l.length→PO.eval .chk [.sl x,.int .i64 (l.length-1-i)]=some []:=fun x hx=>by
      simp only[PO.eval,hx];rw[if_pos (by omega)]
     have q3:∀ x:List (List D),x.length=l.length→PO.eval .chk [.sl x,.int .i64 i]=some []:=fun x hx=>by
      simp only[PO.eval,hx];rw[if_pos (by omega)]
     have q4:PO.eval (.get 0 3) [.sl (swp l i),.int .i64 (l.length-1-i)]=some [a2,b2,c2]:=by
      simp only[PO.eval,hj];rw[if_pos (by omega),g2];rfl
     have q5:PO.eval (.get 0 3) [.sl (swp l i),.int .i64 i]=some [a1,b1,c1]:=by
      simp only[PO.eval,Int.toNat_natCast];rw[if_pos (by omega),g1];rfl
     have q6:PO.eval (.set 0 3) [.sl (swp l i),.int .i64 i,a2,b2,c2]=some [.sl ((swp l i).set i [a2,b2,c2])]:=by
      simp only[PO.eval,Int.toNat_natCast];rw[if_pos (by omega),g1];rfl
     have q7:PO.eval (.set 0 3) [.sl ((swp l i).set i [a2,b2,c2]),.int .i64 (l.length-1-i),a1,b1,c1]=some [.sl (swp l (i+1))]:=by
      simp only[PO.eval,hj];rw[if_pos (by omega),g3,← hs];rfl
     have q8:PO.eval (.bin .add false) [.int .i64 i,.int .i64 1]=some [.int .i64 ((i+1:Nat):Int)]:=by
      rw[← yr];rfl
     have q9:PO.eval (.bin .sub false) [.int .i64 (l.length-1-i),.int .i64 1]=some [.int .i64 ((l.length:Int)-1-((i+1:Nat):Int))]:=by
      rw[← tq];rfl
     have hL':=hL (i+1) (by omega) (by omega)
     simp[xq,den,SA.val,q1,q2 _ (qqg l i),q2 ((swp l i).set i [a2,b2,c2]) (by simp[qqg]),q3 _ (qqg l i),q4,q5,q6,q7,q8,q9]
     simpa using hL'
   · have q1 : PO.eval (.bin .lss false) [.int .i64 i,.int .i64 (l.length - 1 - i)] = some [.bool false] := by
      have hci:¬ ((i:Int)<(l.length:Int)-1-i):=by omega
      simp[PO.eval,ac,one1,hci]
     simp[xq,den,SA.val,q1,azp l i (by omega) hi])
 have hk:=key 0 (by omega)
 have hw:IntKind.i64.wrap ((l.length:Int)-1)=(l.length:Int)-1:=wr (by omega) (by omega)
 have q1:PO.eval (.bin .sub false) [.int .i64 l.length,.int .i64 1]=some [.int .i64 ((l.length:Int)-1)]:=by rw[← hw];rfl
 have q0:PO.eval .lenL [.sl l]=some [.int .i64 l.length]:=rfl;rw[aqf] at hk;have h0:((0:Nat):Int)=0:=rfl;rw[h0,Int.sub_zero] at hk;simp[adm,den,SA.val,q0,q1]
 simpa [eo,SA.val] using hk
def ur:PF:=fun a=>match a with
 | [.sl l]=>if l.all (fun r=>r.length == 3)=true∧l.length<1000000000 then some [.sl l.reverse] else none
 | _=>none
theorem qvo{a o:List D}(h:ur a=some o):∃ l,a=[.sl l]∧(∀ r∈l,r.length=3)∧l.length<1000000000∧o=[.sl l.reverse]:=by
 unfold ur at h
 split at h
 · rename_i l
   split at h
   · rename_i hc;cases h;exact ⟨l,rfl,fun r hr=>by simpa using List.all_eq_true.1 hc.1 r hr,hc.2,rfl⟩
   · simp at h
 · simp at h
theorem qpu{a o:List D}(ha:EWF a)(h:ur a=some o):EWF o:=by
 obtain ⟨l,rfl,h3,hl,rfl⟩:=qvo h;intro d hd;simp only[mem_singleton] at hd;subst hd;have:=ha (.sl l) (by simp)
 cases this with
 | sl _ hh=>exact .sl _ fun r hr=>hh r (List.mem_reverse.1 hr)
theorem az8:jh prog G ur sg22:=by
 intro ins outs jb hl m9 hr i6;have hw:=qpu jb hr;obtain ⟨l,rfl,h3,cf,rfl⟩:=qvo hr;have ly:=qtm (P:=prog) (G:=G) a27 arm (by kernel_rfl) a4u (i:=0) (sg:=aca) rfl (ins:=[.sl l]) (outs:=[.sl l.reverse]) jb rfl (fun k hk=>by simp[aca] at hk;subst hk;exact ⟨_,rfl⟩) (av1 l h3 cf) rfl
 refine ⟨hw,ly,fun i hi=>?_⟩
 cases i with
 | zero=>simp[sg22,lnL,ae,am,SB.len,SA.val,D.rows]
 | succ i=>simp[sg22,lnL,ae,am]
end Go.Proofs.YtefjlhhicgepfaaGreatDoor

namespace Go.Proofs.YtefjlhhicgepfaaGreatDoor
open Go.Proofs.Tryz (prog)
open Go Am Go.Proofs Go.RowKit
attribute [local go_sem] Oper.semAt_some
set_option maxRecDepth 100000 in
set_option maxHeartbeats 2000000 in
theorem qfv(F:Fence)(n:Nat)(h7:F.fn 77)(mn:F.round=none)(hn:1≤n)(l Bs b off len cap:Nat)(vs:Nat→Nat→Value)(zq:len≤140737488355328)(J:Nat→World→Prop)(Jx:World→Prop)
 (fl:∀ k W,J k W→W.cell? ⟨Bs,0,none⟩ = some (.slice (some ⟨b,off,none⟩) len cap)∧∀ j c,j<len→c<3→W.cell? ⟨b,off+j*3+c,none⟩ = some (vs j c))
 (hY:∀ k,k<len→∀ W,J k W→YieldAt F (n-1) prog l #[.int .i64 ((len:Int)-1-k),.agg #[vs (len-1-k) 0,vs (len-1-k) 1,vs (len-1-k) 2]] W fun e W'=>(e = .returned (.bool true)∧J (k+1) W')∨(e = .returned (.bool false)∧Jx W'))
 (W:World) (h0:J 0 W) :
 CallsIn F n prog 77 #[.func (.yield l) #[] #[],.pointer (some ⟨Bs,0,none⟩)] W fun e W'=>(∃ v,e = .returned v)∧(J len W'∨Jx W'):=by
 obtain ⟨hBs,_⟩:=fl 0 W h0;refine callsIn_of_wp Tryz.func77 rfl h7 ?_ mn;simp only[Tryz.ntmps77,size_toArray,length_cons,length_nil,reduceAdd,reduceSub,replicate_succ,replicate_zero,push_toArray,append_toArray,nil_append,cons_append]
 gi_wp2
 gi_loopw [3] (fun i wr=>∃ k:Nat,k≤len∧i = .int .i64 ((len:Int)-1-k)∧J k wr) (fun i _=>(intOf i+1).toNat)
 case atStart=>exact ⟨0,zero_le _,by simp,h0⟩
 case round=>
  obtain ⟨k,hk,rfl,hJs⟩:=hrel;obtain ⟨hB,hC⟩:=fl k wr hJs
  by_cases cf:k<len
  · have e0:(0:Int)≤(len:Int)-1-k:=by omega
    have e1:(((len:Int)-1-k)).toNat=len-1-k:=by omega
    have e2:(len:Int)-1-k<len:=by omega
    have c0:wr.cell? ⟨b,off+(len-1-k)*3,none⟩ = some (vs (len-1-k) 0):=hC (len-1-k) 0 (by omega) (by omega)
    have c1:=hC (len-1-k) 1 (by omega) (by omega)
    have c2:=hC (len-1-k) 2 (by omega) (by omega)
    obtain ⟨fn,tmps,assign,body,hy,hR⟩:=hY k cf wr hJs
    gi_wp2
    refine hR.mono ?_;rintro e W3 (⟨rfl,hJ3⟩|⟨rfl,hJx3⟩)
    · gi_wp2
      go_roundw
      case rel=>exact ⟨k+1,by omega,by simp;omega,hJ3⟩
      case measure=>simp[intOf];omega
    · gi_wp2
      refine bodyPost_ret (results_none rfl _ _ _) rfl ?_;exact ⟨⟨_,rfl⟩,.inr hJx3⟩
  · obtain rfl:k=len:=by omega
    have e0:¬ (0:Int)≤(k:Int)-1-k:=by omega
    gi_wp2
    go_end0
    exact ⟨⟨_,rfl⟩,.inl hJs⟩
set_option maxRecDepth 100000 in
set_option maxHeartbeats 1000000 in
theorem qhl(F:Fence)(n:Nat)(h7:F.fn 77)(mn:F.round=none)(l Bs:Nat)(p:Option Addr)(cap:Nat)(W:World)(hB:W.cell? ⟨Bs,0,none⟩ = some (.slice p 0 cap)) :
 CallsIn F n prog 77 #[.func (.yield l) #[] #[],.pointer (some ⟨Bs,0,none⟩)] W fun e W'=>(∃ v,e = .returned v)∧W' = W:=by
 refine callsIn_of_wp Tryz.func77 rfl h7 ?_ mn;simp only[Tryz.ntmps77,size_toArray,length_cons,length_nil,reduceAdd,reduceSub,replicate_succ,replicate_zero,push_toArray,append_toArray,nil_append,cons_append]
 gi_wp2
 gi_loopw [3] (fun i wr=>i = .int .i64 (-1)∧wr=W) (fun _ _=>0)
 case atStart=>exact ⟨rfl,rfl⟩
 case round=>
  obtain ⟨rfl,rfl⟩:=hrel
  gi_wp2
  go_end0
  exact ⟨⟨_,rfl⟩,rfl⟩
theorem qtt{H:ba}{b0:Nat}{blk:Blk}{dj:List (List D)}(hb:H b0=some blk)(hr:blk.rows=[[.d (.sl dj)]])(hf:blk.fz=true)(h3:∀ r∈dj,r.length=3)(hl:dj.length≤140737488355328) :
 adh prog 77 [.ptr b0 1 0 0] H (kj dj) (fun _=>False):=by
 refine ⟨fun args w=>enters_of Tryz.func77 (by kernel_rfl) rfl args w,fun w C ρ lb hR yn=>?_⟩
 obtain ⟨an,hv⟩:=yn
 obtain ⟨v,rfl⟩:∃ v,lb=[v]:=by
  match lb,an with
  | [v],_=>exact ⟨v,rfl⟩
 have hp:=hv 0 (by simp) (by simp)
 simp only[getElem_cons_zero] at hp
 obtain ⟨r0,s0,fp,rfl⟩:∃ r0 s0,ρ b0=some (r0,s0)∧v = .pointer (some ⟨r0,0,none⟩):=by
  cases hp with
  | ptr _ _ _ _ _ blk' et hn h1 h=>
   rw[hb] at et;cases et;obtain ⟨r,s,h3,rfl⟩:=h (by rw[hr];rfl)
   exact ⟨r,s,h3,by simp⟩
 have vd:=hR.blk b0 blk hb;unfold cw at vd;rw[fp] at vd;obtain ⟨⟨cs,lo,hi,m1,m2,m3,m4,m5,m6,m7⟩,n1,n2⟩:=vd;obtain ⟨sv,v1,v2,v3⟩:=m7 0 0 (by rw[hr];simp) (by simp[hr])
 simp only[hr,getElem_cons_zero,Nat.zero_mul,Nat.add_zero] at v1 v3;have de:blk.sz=1:=by have:=m6 0 (by rw[hr];simp);simpa [hr] using this.symm
 have bp:w.cell? ⟨r0,0,none⟩ = some sv:=by rw[qrb,m1];exact v1
 have ady:C r0 0:=n2 hf 0 (by rw[hr,de];simp)
 have hd:eb w C (.sl dj) sv:=by cases v3;assumption
 by_cases h0:dj=[]
 · subst h0
   obtain ⟨p,cap,rfl⟩:∃ p cap,sv = .slice p 0 cap:=by
    cases hd with
    | nil=>exact ⟨none,0,rfl⟩
    | nilA a=>exact ⟨some a,0,rfl⟩
    | sl _ r o cap sz vs fl de hC bp hrec=>exact ⟨_,cap,rfl⟩
   refine ⟨[],fun W=>W.cell? ⟨r0,0,none⟩ = some (.slice p 0 cap),rfl,fun k h=>by simp[kj] at h,fun l J Jx W hcp hgr hY hJ0=>?_,fun w' C' ρ' H' hR' he _=>(he.cell _ _ ady).trans bp⟩
   refine (qhl (Fe none) 4 trivial rfl l r0 p cap W (hcp 0 W hJ0)).mono ?_;rintro e W' ⟨he,rfl⟩;exact ⟨he,.inl hJ0⟩
 · have mp:0<dj.length:=List.length_pos_iff.2 h0;cases hd with
   | nil=>exact absurd rfl h0
   | nilA a=>exact absurd rfl h0
   | sl _ r1 o1 cap sz vs fl hsz3 hC su hrec=>
    have hs3:sz=3:=by rw[← hsz3 0 mp];exact h3 _ (getElem_mem mp)
    subst hs3
    refine ⟨(range dj.length).map fun (k:Nat)=>#[.int .i64 ((dj.length:Int)-1-k),.agg #[vs (dj.length-1-k) 0,vs (dj.length-1-k) 1,vs (dj.length-1-k) 2]],
     fun W=>W.cell? ⟨r0,0,none⟩ = some (.slice (some ⟨r1,o1,none⟩) dj.length cap)∧∀ j c,j<dj.length→c<3→W.cell? ⟨r1,o1+j*3+c,none⟩ = some (vs j c),by simp[kj],fun k h h'=>?_,fun l J Jx W hcp hgr hY hJ0=>?_,fun w' C' ρ' H' hR' he _=>⟨(he.cell _ _ ady).trans bp,fun j c hj hc=>(he.cell _ _ (hC j c hj hc)).trans (su j c hj hc).1⟩⟩
    · have hk:k<dj.length:=by simpa [kj] using h
      have hj:dj.length-1-k<dj.length:=by omega
      have vp:=h3 _ (getElem_mem hj);have hg:dj.getD (dj.length-1-k) []=dj[dj.length-1-k]:=by simp[hj]
      refine ⟨by simp[kj],fun i h1 h2=>?_⟩
      simp only[kj,getElem_map,List.getElem_range,hg] at h1 ⊢
      match i,h1 with
      | 0,_=>exact .d _ _ (.int _ _)
      | 1,_=>
       refine .agg _ _ (by simp[vp]) (fun v hv=>?_) fun c hc hc'=>?_
       · simp only[mem_cons,not_mem_nil,or_false] at hv;rcases hv with rfl|rfl|rfl
         · exact (su _ 0 hj (by omega)).2
         · exact (su _ 1 hj (by omega)).2
         · exact (su _ 2 hj (by omega)).2
       · have hc3:c<3:=by simpa using hc'
         simp only[getElem_map];refine .d _ _ ?_;have:=hrec _ c hj (by omega)
         obtain rfl|rfl|rfl:c=0∨c=1∨c=2:=by omega
         · exact this
         · exact this
         · exact this
    · have := qfv (Fe none) 4 trivial rfl (by omega) l r0 r1 o1 dj.length cap vs hl J Jx hcp (fun k hk W hj => by
       have:=hY k (by simpa using hk) W hj
       simpa using this) W hJ0
      simpa using this
theorem a05:aad prog 77 3:=fun H b0 blk dj hb hr hf h3 hl=>qtt hb hr hf h3 hl
theorem a6r{a:Ann}(h:a.backs=[(77,3)]):wc prog a:=fun p hp=>by
 rw[h] at hp;simp only[mem_singleton] at hp;subst hp;exact a05
end Go.Proofs.YtefjlhhicgepfaaGreatDoor

namespace Go.Proofs.YtefjlhhicgepfaaGreatDoor
open Go.Proofs.Tryz (prog)
open Go Am Go.Proofs Go.RowKit Go.Sort
set_option maxRecDepth 100000
variable {G:bl}
def unB:List (List D)→Option (List (BitVec 64))
 | []=>some []
 | [.int .u64 n]::r=>if 0≤n∧n<18446744073709551616 then (unB r).map (BitVec.ofNat 64 n.toNat :: ·) else none
 | _=>none
theorem akv:∀ {xs:List (List D)} {l:List (BitVec 64)},unB xs=some l→xs=l.map fun x=>[bvD x]
 | [],l,h=>by simp[unB] at h;subst h;rfl
 | r::xs,l,h=>by
  unfold unB at h
  split at h
  · rename_i h0;simp at h0
  · rename_i n r' h0;simp only[List.cons.injEq] at h0;obtain ⟨rfl,rfl⟩:=h0
    split at h
    · rename_i hn;obtain ⟨l',h1,rfl⟩:=Option.map_eq_some_iff.1 h;rw[akv h1];have h2:(BitVec.ofNat 64 n.toNat).toNat=n.toNat:=by rw[BitVec.toNat_ofNat];exact Nat.mod_eq_of_lt (by omega)
      simp only[map_cons,bvD,h2];rw[Int.toNat_of_nonneg hn.1]
    · cases h
  · simp at h
theorem ag8:∀ l:List (BitVec 64),unB (l.map fun x=>[bvD x])=some l
 | []=>rfl
 | x::l=>by
  have h1:(0:Int)≤(x.toNat:Int)∧(x.toNat:Int)<18446744073709551616:=by have:=x.isLt;omega
  simp only[map_cons,bvD,unB,h1,and_self,if_true];have:=ag8 l;simp only[bvD] at this;rw[this];simp
def me:PF:=fun a=>match a with
 | [.sl xs]=>match unB xs with|some l=>if l.length<1000000000 then some [dq l] else none|none=>none
 | _=>none
theorem qxk{a o:List D}(h:me a=some o):∃ l,a=[dq l]∧l.length<1000000000∧o=[dq l]:=by
 unfold me at h
 split at h
 · rename_i xs
   split at h
   · rename_i l hl
     split at h
     · rename_i hc;exact ⟨l,by rw[akv hl];rfl,hc,(Option.some.inj h).symm⟩
     · simp at h
   · simp at h
 · simp at h
theorem qwx(l:List (BitVec 64))(h:l.length<1000000000):me [dq l]=some [dq l]:=by
 simp only[me,dq,ag8,h,if_true]
theorem qhp{a o:List D}(h:me a=some o):EWF o:=by
 obtain ⟨l,rfl,_,rfl⟩:=qxk h;intro d hd;simp only[mem_singleton] at hd;subst hd;refine .sl _ fun r hr c hc=>?_
 obtain ⟨x,_,rfl⟩:=List.mem_map.1 hr;simp only[mem_singleton] at hc;subst hc;exact .int _ _
theorem ay5{w:World}{C:Com}{xs:List (BitVec 64)}{v:Value}(h:eb w C (dq xs) v) :
 (xs=[]∧v = .slice none 0 0)∨(∃ r o cap,v = .slice (some ⟨r,o,none⟩) xs.length cap∧∀ j (hj:j<xs.length),w.cell? ⟨r,o+j,none⟩ = some (.int .u64 (xs[j].toNat:Int)))∨∃ a cap,xs=[]∧v = .slice (some a) 0 cap:=by
 unfold dq at h;generalize hX:(xs.map fun x=>[bvD x])=X at h
 cases h with
 | nil=>exact .inl ⟨by simpa using hX,rfl⟩
 | nilA a=>exact .inr (.inr ⟨a,0,by simpa using hX,rfl⟩)
 | sl _ r o cap sz vs fl de hC bp hrec=>
  subst hX
  by_cases h0:xs=[]
  · subst h0;exact .inr (.inr ⟨_,_,rfl,rfl⟩)
  · have mp : 0 < (xs.map fun x => [bvD x]).length := by
     cases xs with
     | nil=>exact absurd rfl h0
     | cons a l=>simp
    have hs1:sz=1:=by
     have:=de 0 mp;simp at this;exact this.symm
    subst hs1;refine .inr (.inl ⟨r,o,cap,by simp,fun j hj=>?_⟩)
    have gb:j<(xs.map fun x=>[bvD x]).length:=by simpa using hj
    have hc:=(bp j 0 gb (by omega)).1
    have hr:=hrec j 0 gb (by simp)
    simp only[getElem_map,getElem_cons_zero] at hr;generalize vs j 0=u at hr hc;have:u = .int .u64 (xs[j].toNat:Int):=by unfold bvD at hr;cases hr;rfl
    rw[this] at hc
    simpa using hc
def bvB(xs:List (BitVec 64)):Blk:=bu false 54 bvD xs
theorem qmw{w w':World}{C:Com}{ρ:Rho}(hR:bh w C ρ (hOf [])){xs:List (BitVec 64)}{v:Value}(ak:w'.ownsRow w.heap.size 54 1 v xs.length (xs.map fun x=>Value.int .u64 (x.toNat:Int)))(hb:Below w.heap.size w w') :
 ∃ C' ρ',bh w' C' ρ' (hOf [bvB xs])∧Ext w C ρ (hOf []) w' C' ρ' (hOf [bvB xs])∧ao w' C' ρ' (hOf [bvB xs]) (.own 0 xs.length 0 xs.length) v:=by
 have iz:hOf [] 0=none:=rfl;rcases ak.2 with ⟨rfl,hz⟩|⟨g,cap,cur,rfl,sr,hgb,h1,h2,h3,h4⟩
 · have hx0:xs=[]:=List.eq_nil_of_length_eq_zero hz;obtain ⟨k1,k2⟩:=qun (blk:=bvB xs) hR hb iz (by rw[hx0];rfl) rfl
   rw[acm] at k1 k2;refine ⟨C,_,k1,k2,?_⟩;rw[hx0];exact .own 0 0 0 0 _ (bvB []) (by rw[← hx0];rfl) (le_refl _) rfl fun _=>.inr ⟨if_pos rfl,rfl,rfl,rfl⟩
 · have de:cur.size=cap:=by rw[h3,mul_one]
   have ac6:∀ j (hj:j<xs.length),cur[j]? = some (.int .u64 (xs[j].toNat:Int)):=fun j hj=>by
    have:(cur.toList.take (xs.length*1))[j]? = (xs.map fun x=>Value.int .u64 (x.toNat:Int))[j]?:=by rw[h4]
    rw[mul_one,List.getElem?_take] at this
    simpa [hj] using this
   have hf:lj w' C ρ (hOf []) (bvB xs) cur:=by
    refine ⟨by simp[bvB,bu];omega,fun i h=>by simp[bvB,bu],fun i j hi hj=>?_⟩
    have bn:i<xs.length:=by simpa [bvB,bu] using hi
    have hj0:j=0:=by simp[bvB,bu] at hj;omega
    subst hj0;refine ⟨.int .u64 (xs[i].toNat:Int),by simpa [bvB,bu] using ac6 i bn,rfl,?_⟩
    simp only[bvB,bu,getElem_map,getElem_cons_zero];exact .d _ _ (.int _ _)
   have k1:=qhr (blk:=bvB xs) hR hb iz sr hgb hf rfl;have k2:=tv (cs:=cur) (blk:=bvB xs) hR hb iz sr;rw[acm] at k1 k2;refine ⟨C,_,k1,k2,?_⟩;exact .own 0 _ 0 _ _ (bvB xs) rfl (by simp[bvB,bu]) rfl fun _=>.inl ⟨g,cur.size,cap,by rw[qq],by simp,h1,by simp[bvB,bu];omega,by omega⟩
open Go.Shelf in
set_option maxHeartbeats 2000000 in
theorem qww{P:Program}{ρ:Go.Shelf.Ren}(L:SlLaysE0.n41 P ρ)(i0:TypeInfo)(z:Value)(size bytes:Nat)(hi:P.info? (ρ.t 23)=some i0)(hz0:i0.zero=some z)(hz1:i0.size=size)(hz2:i0.bytes=bytes)(hzs:z.cells.size=size)(de:0<size)
 (z23:∀ w,(Go.sizeOf (ρ.t 23)).run P w = .ok size w) (a:Addr) (c:Nat) (w:World) :
 Calls P (ρ.f 41) #[.slice (some a) 0 c] w fun e w'=>∃ v',e = .returned v'∧w'.ownsRow w.heap.size (ρ.t 23) size v' 0 []∧v' ≠ .slice none 0 0∧Below w.heap.size w w':=by
 have mixed:=L.mixed;have t4:=L.t4;have a4:=L.a4;have z4:=L.z4;have v4:=L.v4;have t22:=L.t22;have a22:=L.a22;have z22:=L.z22;have v22:=L.v22;have q22:∀ (w:World) (a:Option Addr) (n c n' c':Nat),(binOp .eql (ρ.t 22) (.slice a n c) (.slice none n' c')).run P w = .ok (.bool a.isNone) w:=fun w a n c n' c'=>Lib.run_eql_slice_nil w _ _ a n c n' c' L.t22
 have u22:∀ w,Sem.run P (underlying (ρ.t 22)) w = .ok (TypeDesc.slice (ρ.t 23)) w:=run_underlying t22;obtain ⟨_,_,FG⟩:=L.f41
 go_enter FG,SlBodyN.n41_ntmps ρ
 go_wp2_with (at_builtin;refine wpList_append_own _ rfl _ _ (ρ.t 22) rfl w.heap.size (ρ.t 23) i0 z size bytes t22 hi hz0 hz1 hz2 hzs de _ _ _ rfl (World.ownsRow_made w #[] 0 (le_refl _) (zero_le _) (by simp)) a 0 c [] rfl ?qc1 ?qc2 ?qc3 ?qc4 ?qc5 ?qc6 ?_)
 case qc1=>simp
 case qc2=>intro j u hj;simp at hj
 case qc3=>intro u hu;cases hu
 case qc4=>unfold maxLen;omega
 case qc5=>omega
 case qc6=>simp
 intro v' w1 yg acl ob
 go_wp2
 go_ret
 refine ⟨v',rfl,by simpa using yg,?_,?_⟩
 · exact ob
 · exact ((Below.refl _ w).alloc (le_refl _) _).grown acl (by simp) (by intro k hk;simp[Value.ownBlock] at hk;omega)
theorem qxw:th prog 50:=⟨Tryz.f50,Tryz.func50,by kernel_rfl,by kernel_rfl⟩
theorem qry(xs:List (BitVec 64))(hx:xs.length<1000000000)(r o cap:Nat)(w:World)(hc:∀ j (hj:j<xs.length),w.cell? ⟨r,o+j,none⟩ = some (.int .u64 (xs[j].toNat:Int))) :
 Calls prog 50 #[.slice (some ⟨r,o,none⟩) xs.length cap] w fun e w'=>∃ v',e = .returned v'∧w'.ownsRow w.heap.size 54 1 v' xs.length (xs.map fun x=>Value.int .u64 (x.toNat:Int))∧Below w.heap.size w w':=by
 have hi:(prog.info? 54).map (fun i=>(i.zero,i.size,i.bytes))=some (some (.int .u64 0),1,8):=by kernel_rfl
 cases h:prog.info? 54 with
 | none=>rw[h] at hi;cases hi
 | some i0=>
  rw[h] at hi;simp only[Option.map_some,Option.some.injEq,Prod.mk.injEq] at hi;have kr:prog.cellsOf 54=1:=by kernel_rfl
  refine (Tryz.slices_Clone_f50 i0 (.int .u64 0) 1 8 h hi.1 hi.2.1 hi.2.2 rfl (by omega) (fun w=>by rw[run_sizeOf w h,kr]) r o xs.length cap (xs.map fun x=>Value.int .u64 (x.toNat:Int)) w (by simp) (by simp[maxLen];omega) (by omega) (fun j u hu=>?_) (fun u hu=>?_)).mono ?_
  · obtain ⟨hj,rfl⟩:=List.getElem?_eq_some_iff.1 hu;rw[getElem_map];exact hc j (by simpa using hj)
  · obtain ⟨x,_,rfl⟩:=List.mem_map.1 hu;rfl
  · rintro e w' ⟨v',rfl,ak,_,hb⟩;exact ⟨v',rfl,ak,hb⟩
theorem qzu(a:Addr)(cap:Nat)(w:World) :
 Calls prog 50 #[.slice (some a) 0 cap] w fun e w'=>∃ v',e = .returned v'∧w'.ownsRow w.heap.size 54 1 v' 0 []∧Below w.heap.size w w':=by
 have hi:(prog.info? 54).map (fun i=>(i.zero,i.size,i.bytes))=some (some (.int .u64 0),1,8):=by kernel_rfl
 cases h:prog.info? 54 with
 | none=>rw[h] at hi;cases hi
 | some i0=>
  rw[h] at hi;simp only[Option.map_some,Option.some.injEq,Prod.mk.injEq] at hi;have kr:prog.cellsOf 54=1:=by kernel_rfl
  refine (qww Tryz.laysSlE041_f50 i0 (.int .u64 0) 1 8 h hi.1 hi.2.1 hi.2.2 rfl (by omega) (fun w=>(show (Go.sizeOf 54).run prog w = .ok 1 w from by rw[run_sizeOf w h,kr])) a cap w).mono ?_
  rintro e w' ⟨v',rfl,ak,_,hb⟩;exact ⟨v',rfl,ak,hb⟩
theorem atf(xs:List (BitVec 64))(hx:xs.length<1000000000):CC prog G 50 [] [.d (dq xs)] [bvB xs] (.own 0 xs.length 0 xs.length):=by
 refine ⟨qxw,fun w C ρ vs hR hG hv=>?_⟩
 obtain ⟨an,hv⟩:=hv
 obtain ⟨v,rfl⟩:∃ v,vs=[v]:=by
  match vs,an with
  | [v],_=>exact ⟨v,rfl⟩
 have hp:=hv 0 (by simp) (by simp)
 simp only[getElem_cons_zero] at hp;have hd:eb w C (dq xs) v:=by cases hp;assumption
 rcases ay5 hd with ⟨rfl,rfl⟩|⟨r,o,cap,rfl,hc⟩|⟨a,cap,rfl,rfl⟩
 · refine (Tryz.slices_Clone_nil_f50 0 0 w).mono ?_;rintro e w' ⟨rfl,rfl⟩;obtain ⟨C',ρ',k1,k2,k3⟩:=qmw (w':=w') hR (xs:=[]) (v:=.slice none 0 0) (World.ownsRow_nil _ _ _ _) (Below.refl _ _);exact ⟨_,C',ρ',rfl,k1,k2,k3⟩
 · refine (qry xs hx r o cap w hc).mono ?_;rintro e w' ⟨v',rfl,ak,hb⟩;obtain ⟨C',ρ',k1,k2,k3⟩:=qmw hR ak hb;exact ⟨_,C',ρ',rfl,k1,k2,k3⟩
 · refine (qzu a cap w).mono ?_;rintro e w' ⟨v',rfl,ak,hb⟩;obtain ⟨C',ρ',k1,k2,k3⟩:=qmw hR (xs:=[]) ak hb;exact ⟨_,C',ρ',rfl,k1,k2,k3⟩
theorem qoy:jh prog G me sg41:=by
 intro ins outs jb hl m9 hr i6;have hw:=qhp hr;obtain ⟨l,rfl,hx,rfl⟩:=qxk hr;refine ⟨hw,?_,fun i hi=>by simp[sg41,inL] at hi⟩
 have:=atf (G:=G) l hx
 simpa [sg41,hIn,SB.inst,SB.rows,SA.val,dq,D.rows,aij,aja,bvB,bu,SV.instL,SV.inst,lnL,ae,am,SB.len,Function.comp_def] using this
end Go.Proofs.YtefjlhhicgepfaaGreatDoor

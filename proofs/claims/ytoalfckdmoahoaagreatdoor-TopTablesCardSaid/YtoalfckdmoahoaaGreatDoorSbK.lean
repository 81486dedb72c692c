/- What functions of the program compute: lemmas. -/
import Derived.Test.YtoalfckdmoahoaaGreatDoorAmEv
import Derived.Test.YtoalfckdmoahoaaGreatDoorSb1
import Derived.Test.YtoalfckdmoahoaaGreatDoorProg
import Derived.KernelRfl
set_option linter.unusedSimpArgs false
set_option linter.unusedVariables false
set_option linter.unusedSectionVars false
namespace Go.Proofs.YtoalfckdmoahoaaGreatDoor
open Go Am
set_option maxRecDepth 100000
def KT:Tab:=[
 (3,⟨1,8,true,true,false,none,none,(some .i64),false,false,(some (.int .i64 0)),[],none,none⟩),
 (4,⟨1,1,true,true,false,none,none,none,false,true,(some (.bool false)),[],none,none⟩),
 (22,⟨1,24,true,true,false,(some 3),none,none,false,false,(some (.slice none 0 0)),[],none,none⟩),
 (28,⟨1,8,true,true,false,none,none,(some .u64),false,false,(some (.int .u64 0)),[],none,none⟩),
 (33,⟨1,8,true,true,false,none,none,(some .i64),false,false,(some (.int .i64 0)),[],none,none⟩),
 (36,⟨1,24,true,true,false,(some 22),none,none,false,false,(some (.slice none 0 0)),[],none,none⟩),
 (38,⟨2,32,true,true,true,none,none,none,false,false,(some (.agg #[(.int .i64 0),(.slice none 0 0)])),[(0,3),(1,36)],(some [(0,1),(1,1)]),none⟩),
 (44,⟨1,8,true,true,false,none,none,(some .u64),false,false,(some (.int .u64 0)),[],none,none⟩),
 (56,⟨1,8,true,true,false,none,none,none,false,false,(some .nilFunc),[],none,none⟩),
 (85,⟨1,24,true,true,false,(some 116),none,none,false,false,(some (.slice none 0 0)),[],none,none⟩),
 (93,⟨1,8,true,true,false,none,none,none,false,false,(some .nilFunc),[],none,none⟩),
 (112,⟨2,32,true,true,true,none,none,none,false,false,(some (.agg #[(.int .i64 0),(.slice none 0 0)])),[(0,3),(1,36)],(some [(0,1),(1,1)]),none⟩),
 (114,⟨1,8,true,true,false,none,none,none,false,false,(some .nilFunc),[],none,none⟩),
 (116,⟨2,16,true,true,true,none,none,none,false,false,(some (.agg #[(.bool false),.nilFunc])),[(0,4),(1,114)],(some [(0,1),(1,1)]),none⟩),
 (152,⟨1,4,true,true,false,none,none,(some .u32),false,false,(some (.int .u32 0)),[],none,none⟩)]
theorem Ktok:TOK Tryz.prog KT:=qtdb (by kernel_rfl)
def KSG:SGlob:=[]
def Ksg0:Sig:=⟨34,3,[],[(.agg [(.atm (.v 0)),(.atm (.v 1))]),(.atm (.v 2))],1,[],(.atm (.v 0)),false,[]⟩
def Ksg1:Sig:=⟨36,1,[],[(.atm (.v 0))],1,[],(.atm (.v 0)),false,[]⟩
def Ksg2:Sig:=⟨98,5,[],[(.agg [(.atm (.v 0)),(.atm (.v 1))]),(.atm (.v 2)),(.atm (.v 3)),(.atm (.v 4))],1,[],(.atm (.v 0)),false,[]⟩
def Ksg3:Sig:=⟨100,5,[],[(.agg [(.atm (.v 0)),(.atm (.v 1))]),(.atm (.v 2)),(.atm (.v 3)),(.atm (.v 4))],1,[],(.atm (.v 0)),false,[]⟩
def Ksg4:Sig:=⟨101,5,[],[(.agg [(.atm (.v 0)),(.atm (.v 1))]),(.atm (.v 2)),(.atm (.v 3)),(.atm (.v 4))],1,[],(.atm (.v 0)),false,[]⟩
def Ksg5:Sig:=⟨102,5,[],[(.agg [(.atm (.v 0)),(.atm (.v 1))]),(.atm (.v 2)),(.atm (.v 3)),(.atm (.v 4))],1,[],(.atm (.v 0)),false,[]⟩
def Ksg6:Sig:=⟨103,5,[],[(.agg [(.atm (.v 0)),(.atm (.v 1))]),(.atm (.v 2)),(.atm (.v 3)),(.atm (.v 4))],1,[],(.atm (.v 0)),false,[]⟩
def Ksg7:Sig:=⟨104,5,[],[(.agg [(.atm (.v 0)),(.atm (.v 1))]),(.atm (.v 2)),(.atm (.v 3)),(.atm (.v 4))],1,[],(.atm (.v 0)),false,[]⟩
def Ksg8:Sig:=⟨105,5,[],[(.agg [(.atm (.v 0)),(.atm (.v 1))]),(.atm (.v 2)),(.atm (.v 3)),(.atm (.v 4))],1,[],(.atm (.v 0)),false,[]⟩
def Ksg9:Sig:=⟨106,5,[],[(.agg [(.atm (.v 0)),(.atm (.v 1))]),(.atm (.v 2)),(.atm (.v 3)),(.atm (.v 4))],1,[],(.atm (.v 0)),false,[]⟩
def Ksg10:Sig:=⟨107,5,[],[(.agg [(.atm (.v 0)),(.atm (.v 1))]),(.atm (.v 2)),(.atm (.v 3)),(.atm (.v 4))],1,[],(.atm (.v 0)),false,[]⟩
def Ksg11:Sig:=⟨108,5,[],[(.agg [(.atm (.v 0)),(.atm (.v 1))]),(.atm (.v 2)),(.atm (.v 3)),(.atm (.v 4))],1,[],(.atm (.v 0)),false,[]⟩
def Ksg12:Sig:=⟨109,5,[],[(.agg [(.atm (.v 0)),(.atm (.v 1))]),(.atm (.v 2)),(.atm (.v 3)),(.atm (.v 4))],1,[],(.atm (.v 0)),false,[]⟩
def Ksg13:Sig:=⟨110,5,[],[(.agg [(.atm (.v 0)),(.atm (.v 1))]),(.atm (.v 2)),(.atm (.v 3)),(.atm (.v 4))],1,[],(.atm (.v 0)),false,[]⟩
def Ksg14:Sig:=⟨111,5,[],[(.agg [(.atm (.v 0)),(.atm (.v 1))]),(.atm (.v 2)),(.atm (.v 3)),(.atm (.v 4))],1,[],(.atm (.v 0)),false,[]⟩
def Ksg15:Sig:=⟨112,5,[],[(.agg [(.atm (.v 0)),(.atm (.v 1))]),(.atm (.v 2)),(.atm (.v 3)),(.atm (.v 4))],1,[],(.atm (.v 0)),false,[]⟩
def Ksg16:Sig:=⟨113,5,[],[(.agg [(.atm (.v 0)),(.atm (.v 1))]),(.atm (.v 2)),(.atm (.v 3)),(.atm (.v 4))],1,[],(.atm (.v 0)),false,[]⟩
def Ksg17:Sig:=⟨114,5,[],[(.agg [(.atm (.v 0)),(.atm (.v 1))]),(.atm (.v 2)),(.atm (.v 3)),(.atm (.v 4))],1,[],(.atm (.v 0)),false,[]⟩
def Ksg18:Sig:=⟨115,5,[],[(.agg [(.atm (.v 0)),(.atm (.v 1))]),(.atm (.v 2)),(.atm (.v 3)),(.atm (.v 4))],1,[],(.atm (.v 0)),false,[]⟩
def Ksg19:Sig:=⟨117,5,[],[(.agg [(.atm (.v 0)),(.atm (.v 1))]),(.atm (.v 2)),(.atm (.v 3)),(.atm (.v 4))],1,[],(.atm (.v 0)),false,[]⟩
def Ksg20:Sig:=⟨59,2,[],[(.agg [(.atm (.v 0)),(.atm (.v 1))])],1,[],(.atm (.v 0)),false,[]⟩
def Ksg21:Sig:=⟨61,0,[],[],1,[],(.atm (.v 0)),true,[]⟩
def Ksg22:Sig:=⟨62,0,[],[],1,[],(.atm (.v 0)),true,[]⟩
def Ksg23:Sig:=⟨63,0,[],[],1,[],(.atm (.v 0)),true,[]⟩
def Ksg24:Sig:=⟨99,2,[],[(.atm (.v 0)),(.atm (.v 1))],1,[],(.atm (.v 0)),false,[]⟩
def Ksg25:Sig:=⟨116,1,[],[(.atm (.v 0))],1,[],(.atm (.v 0)),false,[]⟩
def Ksg26:Sig:=⟨93,2,[],[(.agg [(.atm (.v 0)),(.atm (.v 1))])],1,[],(.atm (.v 0)),false,[]⟩
def Ksg27:Sig:=⟨95,2,[⟨false,false,3,1,(.c (.sl [])),[[(.atm (.v 1))]]⟩,⟨false,false,93,1,(.c (.sl [])),[[(.clo 94 [] [(.ptr 0 0 0)])]]⟩],[(.atm (.v 0)),(.clo 96 [] [(.ptr 0 0 0),(.ptr 1 0 0)])],2,[⟨false,false,3,1,(.c (.sl [])),[[(.atm (.v 1))]]⟩,⟨false,false,93,1,(.c (.sl [])),[[(.clo 94 [] [(.ptr 0 0 0)])]]⟩],(.atm (.v 0)),false,[]⟩
def Ksg28:Sig:=⟨75,1,[],[(.atm (.v 0))],1,[],(.atm (.v 0)),false,[]⟩
def Ksg29:Sig:=⟨136,2,[⟨false,false,3,1,(.c (.sl [])),[[(.atm (.v 1))]]⟩,⟨false,false,93,1,(.c (.sl [])),[[(.clo 94 [] [(.ptr 0 0 0)])]]⟩],[(.atm (.v 0)),(.clo 96 [] [(.ptr 0 0 0),(.ptr 1 0 0)])],2,[⟨false,false,3,1,(.c (.sl [])),[[(.atm (.v 1))]]⟩,⟨false,false,93,1,(.c (.sl [])),[[(.clo 94 [] [(.ptr 0 0 0)])]]⟩],(.atm (.v 0)),false,[]⟩
def Ksg30:Sig:=⟨96,2,[⟨false,false,3,1,(.c (.sl [])),[[(.atm (.v 1))]]⟩,⟨false,false,93,1,(.c (.sl [])),[[(.clo 94 [] [(.ptr 0 0 0)])]]⟩],[(.atm (.v 0)),(.ptr 0 0 0),(.ptr 1 0 0)],2,[⟨false,false,3,1,(.c (.sl [])),[[(.atm (.v 1))]]⟩,⟨false,false,93,1,(.c (.sl [])),[[(.clo 94 [] [(.ptr 0 0 0)])]]⟩],(.atm (.v 0)),false,[]⟩
def Ksg31:Sig:=⟨97,2,[⟨false,false,3,1,(.c (.sl [])),[[(.atm (.v 1))]]⟩],[(.atm (.v 0)),(.clo 94 [] [(.ptr 0 0 0)])],2,[⟨false,false,3,1,(.c (.sl [])),[[(.atm (.v 1))]]⟩],(.atm (.v 0)),false,[]⟩
def Ksg32:Sig:=⟨137,2,[⟨false,false,3,1,(.c (.sl [])),[[(.atm (.v 1))]]⟩],[(.atm (.v 0)),(.clo 94 [] [(.ptr 0 0 0)])],2,[⟨false,false,3,1,(.c (.sl [])),[[(.atm (.v 1))]]⟩],(.atm (.v 0)),false,[]⟩
def Ksg33:Sig:=⟨94,2,[⟨false,false,3,1,(.c (.sl [])),[[(.atm (.v 1))]]⟩],[(.atm (.v 0)),(.ptr 0 0 0)],2,[⟨false,false,3,1,(.c (.sl [])),[[(.atm (.v 1))]]⟩],(.atm (.v 0)),false,[]⟩
def Ksigs:List Sig:=[Ksg0,Ksg1,Ksg2,Ksg3,Ksg4,Ksg5,Ksg6,Ksg7,Ksg8,Ksg9,Ksg10,Ksg11,Ksg12,Ksg13,Ksg14,Ksg15,Ksg16,Ksg17,Ksg18,Ksg19,Ksg20,Ksg21,Ksg22,Ksg23,Ksg24,Ksg25,Ksg26,Ksg27,Ksg28,Ksg29,Ksg30,Ksg31,Ksg32,Ksg33]
def Kan0:Ann:=.z
def Kir0:IR:=
 (.call 20 1 false [] [(.v 0),(.v 1)]
 (.op (.bin .neq false) [(.v 3),(.c (.int .i64 0))]
 (.ite (.v 4)
  (.ret [(.v 3)])
 (.call 1 1 false [] [(.v 2)]
 (.op .lenL [(.v 5)]
 (.op (.bin .eql false) [(.v 6),(.c (.int .i64 0))]
 (.ite (.v 7)
  (.ret [(.c (.int .i64 4))])
 (.ret [(.c (.int .i64 0))]))))))))
theorem Krd0:readFn KT KSG Ksigs 3000 Ksg0 Tryz.f34 Kan0=some Kir0:=by kernel_rfl
def Kan1:Ann:=.z
def Kir1:IR:=
 (.op (.bin .eql false) [(.v 0),(.c (.int .i64 1))]
 (.ite (.v 1)
  (.call 21 1 false [] []
  (.ret [(.v 2)]))
 (.op (.bin .eql false) [(.v 0),(.c (.int .i64 2))]
 (.ite (.v 2)
  (.call 22 1 false [] []
  (.ret [(.v 3)]))
 (.op (.bin .eql false) [(.v 0),(.c (.int .i64 3))]
 (.ite (.v 3)
  (.call 23 1 false [] []
  (.ret [(.v 4)]))
 (.ret [(.c (.sl []))])))))))
theorem Krd1:readFn KT KSG Ksigs 3000 Ksg1 Tryz.f36 Kan1=some Kir1:=by kernel_rfl
def Kan2:Ann:=.z
def Kir2:IR:=
 (.op (.row 1) [(.v 1),(.v 2)]
 (.op (.row 1) [(.v 5),(.v 3)]
 (.call 24 1 false [] [(.v 6),(.v 3)]
 (.ret [(.v 7)]))))
theorem Krd2:readFn KT KSG Ksigs 3000 Ksg2 Tryz.f98 Kan2=some Kir2:=by kernel_rfl
def Kan3:Ann:=.z
def Kir3:IR:=
 (.op (.bin .and false) [(.v 2),(.v 3)]
 (.op (.bin .eql false) [(.v 5),(.c (.int .i64 0))]
 (.ite (.v 6)
  (.ret [(.c (.bool true))])
 (.op (.row 1) [(.v 1),(.v 2)]
 (.op (.row 1) [(.v 7),(.v 3)]
 (.op (.bin .and false) [(.v 2),(.v 3)]
 (.op (.bin .eql false) [(.v 8),(.v 9)]
 (.ret [(.v 10)]))))))))
theorem Krd3:readFn KT KSG Ksigs 3000 Ksg3 Tryz.f100 Kan3=some Kir3:=by kernel_rfl
def Kan4:Ann:=.z
def Kir4:IR:=
 (.op (.bin .eql false) [(.v 3),(.c (.int .i64 0))]
 (.ite (.v 5)
  (.ret [(.c (.bool true))])
 (.op (.row 1) [(.v 1),(.v 2)]
 (.op (.row 1) [(.v 6),(.v 3)]
 (.op (.bin .neq false) [(.v 7),(.c (.int .i64 0))]
 (.ret [(.v 8)]))))))
theorem Krd4:readFn KT KSG Ksigs 3000 Ksg4 Tryz.f101 Kan4=some Kir4:=by kernel_rfl
def Kan5:Ann:=.z
def Kir5:IR:=
 (.op (.row 1) [(.v 1),(.v 2)]
 (.op (.row 1) [(.v 5),(.v 3)]
 (.op (.bin .and false) [(.v 6),(.v 4)]
 (.op (.row 1) [(.v 1),(.v 2)]
 (.op (.bin .and false) [(.v 3),(.v 4)]
 (.op (.row 1) [(.v 8),(.v 9)]
 (.call 24 1 false [] [(.v 7),(.v 10)]
 (.ret [(.v 11)]))))))))
theorem Krd5:readFn KT KSG Ksigs 3000 Ksg5 Tryz.f102 Kan5=some Kir5:=by kernel_rfl
def Kan6:Ann:=.z
def Kir6:IR:=
 (.op (.row 1) [(.v 1),(.v 2)]
 (.op (.row 1) [(.v 5),(.v 3)]
 (.op (.bin .and false) [(.v 6),(.v 4)]
 (.op (.bin .eql false) [(.v 7),(.c (.int .i64 0))]
 (.ite (.v 8)
  (.ret [(.c (.bool true))])
 (.op (.row 1) [(.v 1),(.v 2)]
 (.op (.bin .and false) [(.v 3),(.v 4)]
 (.op (.row 1) [(.v 9),(.v 10)]
 (.op (.row 1) [(.v 1),(.v 2)]
 (.op (.row 1) [(.v 12),(.v 3)]
 (.op (.bin .and false) [(.v 13),(.v 4)]
 (.call 24 1 false [] [(.v 11),(.v 14)]
 (.ret [(.v 15)])))))))))))))
theorem Krd6:readFn KT KSG Ksigs 3000 Ksg6 Tryz.f103 Kan6=some Kir6:=by kernel_rfl
def Kan7:Ann:=.z
def Kir7:IR:=
 (.op (.row 1) [(.v 1),(.v 2)]
 (.op (.row 1) [(.v 5),(.v 3)]
 (.call 24 1 false [] [(.v 2),(.v 6)]
 (.ret [(.v 7)]))))
theorem Krd7:readFn KT KSG Ksigs 3000 Ksg7 Tryz.f104 Kan7=some Kir7:=by kernel_rfl
def Kan8:Ann:=.z
def Kir8:IR:=
 (.call 24 1 false [] [(.v 2),(.v 3)]
 (.ite (.v 5)
  (.ret [(.c (.bool true))])
 (.op (.row 1) [(.v 1),(.v 2)]
 (.op (.row 1) [(.v 6),(.v 3)]
 (.op (.bin .eql false) [(.v 7),(.v 2)]
 (.ret [(.v 8)]))))))
theorem Krd8:readFn KT KSG Ksigs 3000 Ksg8 Tryz.f105 Kan8=some Kir8:=by kernel_rfl
def Kan9:Ann:=.z
def Kir9:IR:=
 (.op (.bin .eql false) [(.v 3),(.v 0)]
 (.ite (.v 5)
  (.ret [(.c (.bool true))])
 (.op (.row 1) [(.v 1),(.v 2)]
 (.op (.row 1) [(.v 6),(.v 3)]
 (.call 24 1 false [] [(.v 7),(.v 3)]
 (.ite (.v 8)
  (.op (.un .not) [(.c (.bool true))]
  (.ret [(.c (.bool false))]))
 (.op (.un .not) [(.c (.bool false))]
 (.ret [(.c (.bool true))]))))))))
theorem Krd9:readFn KT KSG Ksigs 3000 Ksg9 Tryz.f106 Kan9=some Kir9:=by kernel_rfl
def Kan10:Ann:=.z
def Kir10:IR:=
 (.op (.row 1) [(.v 1),(.v 2)]
 (.op (.row 1) [(.v 5),(.v 3)]
 (.op (.bin .and false) [(.v 6),(.v 3)]
 (.call 24 1 false [] [(.v 7),(.v 2)]
 (.ret [(.v 8)])))))
theorem qtbc:readFn KT KSG Ksigs 3000 Ksg10 Tryz.f107 Kan10=some Kir10:=by kernel_rfl
def Kan11:Ann:=.z
def Kir11:IR:=
 (.op (.row 1) [(.v 1),(.v 2)]
 (.op (.bin .and false) [(.v 3),(.v 4)]
 (.op (.row 1) [(.v 5),(.v 6)]
 (.op (.row 1) [(.v 1),(.v 2)]
 (.op (.row 1) [(.v 8),(.v 3)]
 (.op (.row 1) [(.v 1),(.v 2)]
 (.op (.row 1) [(.v 10),(.v 4)]
 (.op (.bin .or false) [(.v 9),(.v 11)]
 (.call 24 1 false [] [(.v 7),(.v 12)]
 (.ret [(.v 13)]))))))))))
theorem qaec:readFn KT KSG Ksigs 3000 Ksg11 Tryz.f108 Kan11=some Kir11:=by kernel_rfl
def Kan12:Ann:=.z
def Kir12:IR:=
 (.op (.row 1) [(.v 1),(.v 2)]
 (.op (.bin .and false) [(.v 3),(.v 4)]
 (.op (.row 1) [(.v 5),(.v 6)]
 (.call 24 1 false [] [(.v 7),(.v 3)]
 (.ite (.v 8)
  (.ret [(.c (.bool true))])
 (.op (.row 1) [(.v 1),(.v 2)]
 (.op (.row 1) [(.v 9),(.v 3)]
 (.op (.row 1) [(.v 1),(.v 2)]
 (.op (.bin .and false) [(.v 3),(.v 4)]
 (.op (.row 1) [(.v 11),(.v 12)]
 (.call 24 1 false [] [(.v 10),(.v 13)]
 (.ret [(.v 14)]))))))))))))
theorem qqdc:readFn KT KSG Ksigs 3000 Ksg12 Tryz.f109 Kan12=some Kir12:=by kernel_rfl
def Kan13:Ann:=.z
def Kir13:IR:=
 (.op (.row 1) [(.v 1),(.v 2)]
 (.op (.row 1) [(.v 5),(.v 3)]
 (.call 24 1 false [] [(.v 6),(.v 3)]
 (.ret [(.v 7)]))))
theorem qbcc:readFn KT KSG Ksigs 3000 Ksg13 Tryz.f110 Kan13=some Kir13:=by kernel_rfl
def Kan14:Ann:=.z
def Kir14:IR:=
 (.call 24 1 false [] [(.v 2),(.v 3)]
 (.op (.un .not) [(.v 5)]
 (.ite (.v 6)
  (.ret [(.c (.bool true))])
 (.op (.row 1) [(.v 1),(.v 2)]
 (.op (.row 1) [(.v 7),(.v 3)]
 (.op (.bin .eql false) [(.v 8),(.v 2)]
 (.ret [(.v 9)])))))))
theorem qecc:readFn KT KSG Ksigs 3000 Ksg14 Tryz.f111 Kan14=some Kir14:=by kernel_rfl
def Kan15:Ann:=.z
def Kir15:IR:=
 (.op (.bin .eql false) [(.v 2),(.c (.int .i64 0))]
 (.ite (.v 5)
  (.ret [(.c (.bool true))])
 (.op (.bin .eql false) [(.v 3),(.c (.int .i64 0))]
 (.ite (.v 6)
  (.ret [(.c (.bool true))])
 (.op (.row 1) [(.v 1),(.v 2)]
 (.op (.row 1) [(.v 7),(.v 3)]
 (.op (.bin .neq false) [(.v 8),(.c (.int .i64 0))]
 (.ret [(.v 9)]))))))))
theorem qscc:readFn KT KSG Ksigs 3000 Ksg15 Tryz.f112 Kan15=some Kir15:=by kernel_rfl
def Kan16:Ann:=.z
def Kir16:IR:=
 (.op (.row 1) [(.v 1),(.v 2)]
 (.op (.row 1) [(.v 5),(.v 3)]
 (.op (.bin .and false) [(.v 6),(.v 4)]
 (.op (.row 1) [(.v 1),(.v 2)]
 (.op (.bin .and false) [(.v 3),(.v 4)]
 (.op (.row 1) [(.v 8),(.v 9)]
 (.call 24 1 false [] [(.v 7),(.v 10)]
 (.ret [(.v 11)]))))))))
theorem qhdc:readFn KT KSG Ksigs 3000 Ksg16 Tryz.f113 Kan16=some Kir16:=by kernel_rfl
def Kan17:Ann:=.z
def Kir17:IR:=
 (.op (.row 1) [(.v 1),(.v 2)]
 (.op (.row 1) [(.v 5),(.v 3)]
 (.call 24 1 false [] [(.v 6),(.v 4)]
 (.op (.un .not) [(.v 7)]
 (.ite (.v 8)
  (.ret [(.c (.bool true))])
 (.op (.row 1) [(.v 1),(.v 2)]
 (.op (.row 1) [(.v 9),(.v 4)]
 (.call 24 1 false [] [(.v 10),(.v 3)]
 (.op (.un .not) [(.v 11)]
 (.ite (.v 12)
  (.ret [(.c (.bool true))])
 (.op (.row 1) [(.v 1),(.v 2)]
 (.op (.row 1) [(.v 13),(.v 3)]
 (.op (.row 1) [(.v 1),(.v 2)]
 (.op (.row 1) [(.v 15),(.v 4)]
 (.op (.bin .eql false) [(.v 14),(.v 16)]
 (.ret [(.v 17)]))))))))))))))))
theorem qfec:readFn KT KSG Ksigs 3000 Ksg17 Tryz.f114 Kan17=some Kir17:=by kernel_rfl
def Kan18:Ann:=.z
def Kir18:IR:=
 (.op (.conv .u64) [(.v 2)]
 (.call 25 1 false [] [(.v 5)]
 (.op (.bin .neq false) [(.v 6),(.c (.int .i64 1))]
 (.ite (.v 7)
  (.ret [(.c (.bool true))])
 (.op (.row 1) [(.v 1),(.v 2)]
 (.op (.row 1) [(.v 8),(.v 3)]
 (.op (.row 1) [(.v 1),(.v 2)]
 (.op (.row 1) [(.v 10),(.v 4)]
 (.op (.bin .and false) [(.v 9),(.v 11)]
 (.op (.row 1) [(.v 1),(.v 2)]
 (.op (.bin .or false) [(.v 3),(.v 4)]
 (.op (.row 1) [(.v 13),(.v 14)]
 (.call 24 1 false [] [(.v 12),(.v 15)]
 (.ret [(.v 16)]))))))))))))))
theorem qydc:readFn KT KSG Ksigs 3000 Ksg18 Tryz.f115 Kan18=some Kir18:=by kernel_rfl
def Kan19:Ann:=.z
def Kir19:IR:=
 (.op (.bin .or false) [(.v 2),(.v 4)]
 (.op (.row 1) [(.v 1),(.v 5)]
 (.op (.row 1) [(.v 6),(.v 3)]
 (.op (.row 1) [(.v 1),(.v 2)]
 (.op (.row 1) [(.v 8),(.v 3)]
 (.op (.row 1) [(.v 1),(.v 4)]
 (.op (.row 1) [(.v 10),(.v 3)]
 (.op (.bin .or false) [(.v 9),(.v 11)]
 (.op (.bin .eql false) [(.v 7),(.v 12)]
 (.ret [(.v 13)]))))))))))
theorem qacc:readFn KT KSG Ksigs 3000 Ksg19 Tryz.f117 Kan19=some Kir19:=by kernel_rfl
def Kan20:Ann:=(.s none .z (.s none (.s (some ⟨1,[(0,.junk),(2,.junk),(12,(.atm (.v 0)))],[],1,[]⟩) .z .z) (.s none .z (.s none .z (.s none (.s (some ⟨2,[(1,.junk),(3,.junk),(4,.junk),(12,.junk),(13,.junk),(14,.junk),(15,.junk),(16,.junk),(27,(.atm (.v 0)))],[(1,⟨false,false,3,1,(.c (.sl [])),[[(.atm (.v 1))]]⟩)],3,[]⟩) .z .z) .z)))))
def Kir20p0:IR:=
 (.ite (.v 5)
  (.ret [(.c (.int .i64 1))])
 (.ret [(.c (.int .i64 0))]))
def Kir20p1:IR:=
 (.ite (.v 2)
  (.ret [(.c (.int .i64 1))])
 (.call 26 1 false [] [(.v 0),(.v 1)]
 (.op (.bin .shl false) [(.c (.int .i64 1)),(.v 3)]
 (.letj 2
  (.op .lenL [(.v 1)]
  (.op (.bin .neq false) [(.v 5),(.v 4)]
  (.ite (.v 6)
   (.jump 0 [(.c (.bool true)),(.v 4)])
  (.call 27 2 false [] [(.v 1),(.v 4)]
  (.jump 0 [(.v 7),(.v 8)])))))
 Kir20p0))))
def Kir20:IR:=
 (.letj 1
  (.op (.bin .neq false) [(.v 0),(.c (.int .i64 1))]
  (.ite (.v 2)
   (.op (.bin .neq false) [(.v 0),(.c (.int .i64 2))]
   (.jump 0 [(.v 3)]))
  (.jump 0 [(.c (.bool false))])))
 Kir20p1)
theorem qadc:readFn KT KSG Ksigs 3000 Ksg20 Tryz.f59 Kan20=some Kir20:=by kernel_rfl
def Kan21:Ann:=.z
def Kir21:IR:=
 (.op (.mk 2 5) [(.c (.bool true)),(.c (fnD 98)),(.c (.bool true)),(.c (fnD 100)),(.c (.bool true)),(.c (fnD 101)),(.c (.bool false)),(.c (fnD 102)),(.c (.bool false)),(.c (fnD 103))]
 (.ret [(.v 0)]))
theorem qwbc:readFn KT KSG Ksigs 3000 Ksg21 Tryz.f61 Kan21=some Kir21:=by kernel_rfl
def Kan22:Ann:=.z
def Kir22:IR:=
 (.op (.mk 2 6) [(.c (.bool true)),(.c (fnD 104)),(.c (.bool true)),(.c (fnD 105)),(.c (.bool true)),(.c (fnD 106)),(.c (.bool true)),(.c (fnD 107)),(.c (.bool false)),(.c (fnD 108)),(.c (.bool false)),(.c (fnD 109))]
 (.ret [(.v 0)]))
theorem qedc:readFn KT KSG Ksigs 3000 Ksg22 Tryz.f62 Kan22=some Kir22:=by kernel_rfl
def Kan23:Ann:=.z
def Kir23:IR:=
 (.op (.mk 2 7) [(.c (.bool true)),(.c (fnD 110)),(.c (.bool true)),(.c (fnD 111)),(.c (.bool true)),(.c (fnD 112)),(.c (.bool false)),(.c (fnD 113)),(.c (.bool false)),(.c (fnD 114)),(.c (.bool false)),(.c (fnD 115)),(.c (.bool false)),(.c (fnD 117))]
 (.ret [(.v 0)]))
theorem qycc:readFn KT KSG Ksigs 3000 Ksg23 Tryz.f63 Kan23=some Kir23:=by kernel_rfl
def Kan24:Ann:=.z
def Kir24:IR:=
 (.op (.bin .andNot false) [(.v 0),(.v 1)]
 (.op (.bin .eql false) [(.v 2),(.c (.int .i64 0))]
 (.ret [(.v 3)])))
theorem qodc:readFn KT KSG Ksigs 3000 Ksg24 Tryz.f99 Kan24=some Kir24:=by kernel_rfl
def Kan25:Ann:=.z
def Kir25:IR:=
 (.call 28 1 false [] [(.v 0)]
 (.ret [(.v 1)]))
theorem qmcc:readFn KT KSG Ksigs 3000 Ksg25 Tryz.f116 Kan25=some Kir25:=by kernel_rfl
def Kan26:Ann:=.z
def Kir26:IR:=
 (.op (.bin .shl false) [(.c (.int .i64 1)),(.v 0)]
 (.ret [(.v 2)]))
theorem qpdc:readFn KT KSG Ksigs 3000 Ksg26 Tryz.f93 Kan26=some Kir26:=by kernel_rfl
def Kan27:Ann:=.z
def Kir27:IR:=
 (.call 29 2 false [] [(.v 0),(.v 1)]
 (.op (.bin .geq false) [(.v 2),(.c (.int .i64 0))]
 (.ret [(.v 4),(.v 3)])))
theorem qndc:readFn KT KSG Ksigs 3000 Ksg27 Tryz.f95 Kan27=some Kir27:=by kernel_rfl
def Kan28:Ann:=.z
def Kir28:IR:=
 (.op (.bin .shr false) [(.v 0),(.c (.int .u64 1))]
 (.op (.bin .and false) [(.v 1),(.c (.int .u64 6148914691236517205))]
 (.op (.bin .and false) [(.v 0),(.c (.int .u64 6148914691236517205))]
 (.op (.bin .add false) [(.v 2),(.v 3)]
 (.op (.bin .shr false) [(.v 4),(.c (.int .u64 2))]
 (.op (.bin .and false) [(.v 5),(.c (.int .u64 3689348814741910323))]
 (.op (.bin .and false) [(.v 4),(.c (.int .u64 3689348814741910323))]
 (.op (.bin .add false) [(.v 6),(.v 7)]
 (.op (.bin .shr false) [(.v 8),(.c (.int .u64 4))]
 (.op (.bin .add false) [(.v 9),(.v 8)]
 (.op (.bin .and false) [(.v 10),(.c (.int .u64 1085102592571150095))]
 (.op (.bin .shr false) [(.v 11),(.c (.int .u64 8))]
 (.op (.bin .add false) [(.v 11),(.v 12)]
 (.op (.bin .shr false) [(.v 13),(.c (.int .u64 16))]
 (.op (.bin .add false) [(.v 13),(.v 14)]
 (.op (.bin .shr false) [(.v 15),(.c (.int .u64 32))]
 (.op (.bin .add false) [(.v 15),(.v 16)]
 (.op (.conv .i64) [(.v 17)]
 (.op (.bin .and false) [(.v 18),(.c (.int .i64 127))]
 (.ret [(.v 19)]))))))))))))))))))))
theorem qjcc:readFn KT KSG Ksigs 3000 Ksg28 Tryz.f75 Kan28=some Kir28:=by kernel_rfl
def Kan29:Ann:=(.s none .z (.s none (.s none .z (.b (.l ⟨2,[(4,.junk),(6,.junk),(8,(.atm (.v 0)))],[(0,⟨false,false,3,1,(.c (.sl [])),[[(.atm (.v 1))]]⟩)],2,[]⟩ .z))) .z))
def Kir29p0:IR:=
 (.op (.bin .lss false) [(.v 3),(.v 2)]
 (.ite (.v 5)
  (.op (.row 1) [(.v 0),(.v 3)]
  (.call 30 2 false [] [(.v 6),(.v 4)]
  (.ite (.v 7)
   (.ret [(.v 3),(.v 8)])
  (.op (.bin .add false) [(.v 3),(.c (.int .i64 1))]
  (.jump 0 [(.v 9),(.v 8)])))))
 (.ret [(.c (.int .i64 (-1))),(.v 4)])))
def Kir29:IR:=
 (.op .lenL [(.v 0)]
 (.loop 2 [(.c (.int .i64 0)),(.v 1)] Kir29p0))
theorem qwdc:readFn KT KSG Ksigs 3000 Ksg29 Tryz.f136 Kan29=some Kir29:=by kernel_rfl
def Kan30:Ann:=.z
def Kir30:IR:=
 (.op .lenL [(.v 0)]
 (.op (.bin .neq false) [(.v 2),(.v 1)]
 (.ite (.v 3)
  (.ret [(.c (.bool true)),(.v 1)])
 (.call 31 2 false [] [(.v 0),(.v 1)]
 (.ret [(.v 4),(.v 5)])))))
theorem qvbc:readFn KT KSG Ksigs 3000 Ksg30 Tryz.f96 Kan30=some Kir30:=by kernel_rfl
def Kan31:Ann:=.z
def Kir31:IR:=
 (.call 32 2 false [] [(.v 0),(.v 1)]
 (.op (.bin .geq false) [(.v 2),(.c (.int .i64 0))]
 (.ret [(.v 4),(.v 3)])))
theorem qudc:readFn KT KSG Ksigs 3000 Ksg31 Tryz.f97 Kan31=some Kir31:=by kernel_rfl
def Kan32:Ann:=(.s none .z (.s none (.s none .z (.b (.l ⟨2,[(4,.junk),(6,.junk),(8,(.atm (.v 0)))],[(0,⟨false,false,3,1,(.c (.sl [])),[[(.atm (.v 1))]]⟩)],1,[]⟩ .z))) .z))
def Kir32p0:IR:=
 (.op (.bin .lss false) [(.v 3),(.v 2)]
 (.ite (.v 5)
  (.op (.row 1) [(.v 0),(.v 3)]
  (.call 33 2 false [] [(.v 6),(.v 4)]
  (.ite (.v 7)
   (.ret [(.v 3),(.v 8)])
  (.op (.bin .add false) [(.v 3),(.c (.int .i64 1))]
  (.jump 0 [(.v 9),(.v 8)])))))
 (.ret [(.c (.int .i64 (-1))),(.v 4)])))
def Kir32:IR:=
 (.op .lenL [(.v 0)]
 (.loop 2 [(.c (.int .i64 0)),(.v 1)] Kir32p0))
theorem qddc:readFn KT KSG Ksigs 3000 Ksg32 Tryz.f137 Kan32=some Kir32:=by kernel_rfl
def Kan33:Ann:=.z
def Kir33:IR:=
 (.op (.bin .lss false) [(.v 0),(.c (.int .i64 0))]
 (.ite (.v 2)
  (.ret [(.c (.bool true)),(.v 1)])
 (.op (.bin .geq false) [(.v 0),(.v 1)]
 (.ret [(.v 3),(.v 1)]))))
theorem qhcc:readFn KT KSG Ksigs 3000 Ksg33 Tryz.f94 Kan33=some Kir33:=by kernel_rfl
def Ktbl:List TE:=[.ir Kir0,.ir Kir1,.ir Kir2,.ir Kir3,.ir Kir4,.ir Kir5,.ir Kir6,.ir Kir7,.ir Kir8,.ir Kir9,.ir Kir10,.ir Kir11,.ir Kir12,.ir Kir13,.ir Kir14,.ir Kir15,.ir Kir16,.ir Kir17,.ir Kir18,.ir Kir19,.ir Kir20,.ir Kir21,.ir Kir22,.ir Kir23,.ir Kir24,.ir Kir25,.ir Kir26,.ir Kir27,.ir Kir28,.ir Kir29,.ir Kir30,.ir Kir31,.ir Kir32,.ir Kir33]
theorem qwub {G:Glob}:TLok Tryz.prog G KT KSG Ksigs 0 Ktbl:=⟨⟨Ksg0,Tryz.f34,Kan0,3000,rfl,Tryz.func34,Krd0,.nil⟩,
 ⟨Ksg1,Tryz.f36,Kan1,3000,rfl,Tryz.func36,Krd1,.nil⟩,
 ⟨Ksg2,Tryz.f98,Kan2,3000,rfl,Tryz.func98,Krd2,.nil⟩,
 ⟨Ksg3,Tryz.f100,Kan3,3000,rfl,Tryz.func100,Krd3,.nil⟩,
 ⟨Ksg4,Tryz.f101,Kan4,3000,rfl,Tryz.func101,Krd4,.nil⟩,
 ⟨Ksg5,Tryz.f102,Kan5,3000,rfl,Tryz.func102,Krd5,.nil⟩,
 ⟨Ksg6,Tryz.f103,Kan6,3000,rfl,Tryz.func103,Krd6,.nil⟩,
 ⟨Ksg7,Tryz.f104,Kan7,3000,rfl,Tryz.func104,Krd7,.nil⟩,
 ⟨Ksg8,Tryz.f105,Kan8,3000,rfl,Tryz.func105,Krd8,.nil⟩,
 ⟨Ksg9,Tryz.f106,Kan9,3000,rfl,Tryz.func106,Krd9,.nil⟩,
 ⟨Ksg10,Tryz.f107,Kan10,3000,rfl,Tryz.func107,qtbc,.nil⟩,
 ⟨Ksg11,Tryz.f108,Kan11,3000,rfl,Tryz.func108,qaec,.nil⟩,
 ⟨Ksg12,Tryz.f109,Kan12,3000,rfl,Tryz.func109,qqdc,.nil⟩,
 ⟨Ksg13,Tryz.f110,Kan13,3000,rfl,Tryz.func110,qbcc,.nil⟩,
 ⟨Ksg14,Tryz.f111,Kan14,3000,rfl,Tryz.func111,qecc,.nil⟩,
 ⟨Ksg15,Tryz.f112,Kan15,3000,rfl,Tryz.func112,qscc,.nil⟩,
 ⟨Ksg16,Tryz.f113,Kan16,3000,rfl,Tryz.func113,qhdc,.nil⟩,
 ⟨Ksg17,Tryz.f114,Kan17,3000,rfl,Tryz.func114,qfec,.nil⟩,
 ⟨Ksg18,Tryz.f115,Kan18,3000,rfl,Tryz.func115,qydc,.nil⟩,
 ⟨Ksg19,Tryz.f117,Kan19,3000,rfl,Tryz.func117,qacc,.nil⟩,
 ⟨Ksg20,Tryz.f59,Kan20,3000,rfl,Tryz.func59,qadc,.nil⟩,
 ⟨Ksg21,Tryz.f61,Kan21,3000,rfl,Tryz.func61,qwbc,.nil⟩,
 ⟨Ksg22,Tryz.f62,Kan22,3000,rfl,Tryz.func62,qedc,.nil⟩,
 ⟨Ksg23,Tryz.f63,Kan23,3000,rfl,Tryz.func63,qycc,.nil⟩,
 ⟨Ksg24,Tryz.f99,Kan24,3000,rfl,Tryz.func99,qodc,.nil⟩,
 ⟨Ksg25,Tryz.f116,Kan25,3000,rfl,Tryz.func116,qmcc,.nil⟩,
 ⟨Ksg26,Tryz.f93,Kan26,3000,rfl,Tryz.func93,qpdc,.nil⟩,
 ⟨Ksg27,Tryz.f95,Kan27,3000,rfl,Tryz.func95,qndc,.nil⟩,
 ⟨Ksg28,Tryz.f75,Kan28,3000,rfl,Tryz.func75,qjcc,.nil⟩,
 ⟨Ksg29,Tryz.f136,Kan29,3000,rfl,Tryz.func136,qwdc,.nil⟩,
 ⟨Ksg30,Tryz.f96,Kan30,3000,rfl,Tryz.func96,qvbc,.nil⟩,
 ⟨Ksg31,Tryz.f97,Kan31,3000,rfl,Tryz.func97,qudc,.nil⟩,
 ⟨Ksg32,Tryz.f137,Kan32,3000,rfl,Tryz.func137,qddc,.nil⟩,
 ⟨Ksg33,Tryz.f94,Kan33,3000,rfl,Tryz.func94,qhcc,.nil⟩,trivial⟩
def Ktb:Nat→TE:=tbOf Ktbl
theorem qhjb {G:Glob}:TabOK Tryz.prog G KT KSG Ksigs Ktb:=qtp qwub
theorem Kgok {G:Glob}:GOK G KSG:=⟨(fun g cs h=>by cases h),(fun g cs h=>by cases h)⟩
end Go.Proofs.YtoalfckdmoahoaaGreatDoor

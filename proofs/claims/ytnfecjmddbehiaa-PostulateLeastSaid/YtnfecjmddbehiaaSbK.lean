/- What functions of the program compute: lemmas. -/
import Derived.Test.YtnfecjmddbehiaaAmEv
import Derived.Test.YtnfecjmddbehiaaSb1
import Derived.Test.YtnfecjmddbehiaaProg
import Derived.KernelRfl
set_option linter.unusedSimpArgs false
set_option linter.unusedVariables false
set_option linter.unusedSectionVars false
namespace Go.Proofs.Ytnfecjmddbehiaa
open Go Am
set_option maxRecDepth 100000
def KT : Tab := [
 (3,⟨1,8,true,true,false,none,none,(some .i64),false,false,(some (.int .i64 0)),[],none,none⟩),
 (4,⟨1,1,true,true,false,none,none,none,false,true,(some (.bool false)),[],none,none⟩),
 (22,⟨1,24,true,true,false,(some 3),none,none,false,false,(some (.slice none 0 0)),[],none,none⟩),
 (26,⟨1,24,true,true,false,(some 22),none,none,false,false,(some (.slice none 0 0)),[],none,none⟩),
 (28,⟨2,32,true,true,true,none,none,none,false,false,(some (.agg #[(.int .i64 0),(.slice none 0 0)])),[(0,3),(1,26)],(some [(0,1),(1,1)]),none⟩),
 (29,⟨1,8,true,true,false,none,none,(some .i64),false,false,(some (.int .i64 0)),[],none,none⟩),
 (45,⟨1,8,true,true,false,none,none,none,false,false,(some .nilFunc),[],none,none⟩),
 (54,⟨1,8,true,true,false,none,none,(some .u64),false,false,(some (.int .u64 0)),[],none,none⟩),
 (55,⟨1,8,true,true,false,none,none,(some .u64),false,false,(some (.int .u64 0)),[],none,none⟩),
 (74,⟨1,24,true,true,false,(some 95),none,none,false,false,(some (.slice none 0 0)),[],none,none⟩),
 (82,⟨1,8,true,true,false,none,none,none,false,false,(some .nilFunc),[],none,none⟩),
 (91,⟨2,32,true,true,true,none,none,none,false,false,(some (.agg #[(.int .i64 0),(.slice none 0 0)])),[(0,3),(1,26)],(some [(0,1),(1,1)]),none⟩),
 (93,⟨1,8,true,true,false,none,none,none,false,false,(some .nilFunc),[],none,none⟩),
 (95,⟨2,16,true,true,true,none,none,none,false,false,(some (.agg #[(.bool false),.nilFunc])),[(0,4),(1,93)],(some [(0,1),(1,1)]),none⟩),
 (113,⟨1,4,true,true,false,none,none,(some .u32),false,false,(some (.int .u32 0)),[],none,none⟩)]
theorem Ktok : TOK Try.prog KT := tok_of (by kernel_rfl)
def KSG : SGlob := []
def Ksg0 : Sig := ⟨32,3,[],[(.agg [(.atm (.v 0)),(.atm (.v 1))]),(.atm (.v 2))],1,[],(.atm (.v 0)),false,[]⟩
def Ksg1 : Sig := ⟨34,1,[],[(.atm (.v 0))],1,[],(.atm (.v 0)),false,[]⟩
def Ksg2 : Sig := ⟨69,5,[],[(.agg [(.atm (.v 0)),(.atm (.v 1))]),(.atm (.v 2)),(.atm (.v 3)),(.atm (.v 4))],1,[],(.atm (.v 0)),false,[]⟩
def Ksg3 : Sig := ⟨71,5,[],[(.agg [(.atm (.v 0)),(.atm (.v 1))]),(.atm (.v 2)),(.atm (.v 3)),(.atm (.v 4))],1,[],(.atm (.v 0)),false,[]⟩
def Ksg4 : Sig := ⟨72,5,[],[(.agg [(.atm (.v 0)),(.atm (.v 1))]),(.atm (.v 2)),(.atm (.v 3)),(.atm (.v 4))],1,[],(.atm (.v 0)),false,[]⟩
def Ksg5 : Sig := ⟨73,5,[],[(.agg [(.atm (.v 0)),(.atm (.v 1))]),(.atm (.v 2)),(.atm (.v 3)),(.atm (.v 4))],1,[],(.atm (.v 0)),false,[]⟩
def Ksg6 : Sig := ⟨74,5,[],[(.agg [(.atm (.v 0)),(.atm (.v 1))]),(.atm (.v 2)),(.atm (.v 3)),(.atm (.v 4))],1,[],(.atm (.v 0)),false,[]⟩
def Ksg7 : Sig := ⟨75,5,[],[(.agg [(.atm (.v 0)),(.atm (.v 1))]),(.atm (.v 2)),(.atm (.v 3)),(.atm (.v 4))],1,[],(.atm (.v 0)),false,[]⟩
def Ksg8 : Sig := ⟨76,5,[],[(.agg [(.atm (.v 0)),(.atm (.v 1))]),(.atm (.v 2)),(.atm (.v 3)),(.atm (.v 4))],1,[],(.atm (.v 0)),false,[]⟩
def Ksg9 : Sig := ⟨77,5,[],[(.agg [(.atm (.v 0)),(.atm (.v 1))]),(.atm (.v 2)),(.atm (.v 3)),(.atm (.v 4))],1,[],(.atm (.v 0)),false,[]⟩
def Ksg10 : Sig := ⟨78,5,[],[(.agg [(.atm (.v 0)),(.atm (.v 1))]),(.atm (.v 2)),(.atm (.v 3)),(.atm (.v 4))],1,[],(.atm (.v 0)),false,[]⟩
def Ksg11 : Sig := ⟨79,5,[],[(.agg [(.atm (.v 0)),(.atm (.v 1))]),(.atm (.v 2)),(.atm (.v 3)),(.atm (.v 4))],1,[],(.atm (.v 0)),false,[]⟩
def Ksg12 : Sig := ⟨80,5,[],[(.agg [(.atm (.v 0)),(.atm (.v 1))]),(.atm (.v 2)),(.atm (.v 3)),(.atm (.v 4))],1,[],(.atm (.v 0)),false,[]⟩
def Ksg13 : Sig := ⟨81,5,[],[(.agg [(.atm (.v 0)),(.atm (.v 1))]),(.atm (.v 2)),(.atm (.v 3)),(.atm (.v 4))],1,[],(.atm (.v 0)),false,[]⟩
def Ksg14 : Sig := ⟨82,5,[],[(.agg [(.atm (.v 0)),(.atm (.v 1))]),(.atm (.v 2)),(.atm (.v 3)),(.atm (.v 4))],1,[],(.atm (.v 0)),false,[]⟩
def Ksg15 : Sig := ⟨83,5,[],[(.agg [(.atm (.v 0)),(.atm (.v 1))]),(.atm (.v 2)),(.atm (.v 3)),(.atm (.v 4))],1,[],(.atm (.v 0)),false,[]⟩
def Ksg16 : Sig := ⟨84,5,[],[(.agg [(.atm (.v 0)),(.atm (.v 1))]),(.atm (.v 2)),(.atm (.v 3)),(.atm (.v 4))],1,[],(.atm (.v 0)),false,[]⟩
def Ksg17 : Sig := ⟨85,5,[],[(.agg [(.atm (.v 0)),(.atm (.v 1))]),(.atm (.v 2)),(.atm (.v 3)),(.atm (.v 4))],1,[],(.atm (.v 0)),false,[]⟩
def Ksg18 : Sig := ⟨86,5,[],[(.agg [(.atm (.v 0)),(.atm (.v 1))]),(.atm (.v 2)),(.atm (.v 3)),(.atm (.v 4))],1,[],(.atm (.v 0)),false,[]⟩
def Ksg19 : Sig := ⟨88,5,[],[(.agg [(.atm (.v 0)),(.atm (.v 1))]),(.atm (.v 2)),(.atm (.v 3)),(.atm (.v 4))],1,[],(.atm (.v 0)),false,[]⟩
def Ksg20 : Sig := ⟨49,2,[],[(.agg [(.atm (.v 0)),(.atm (.v 1))])],1,[],(.atm (.v 0)),false,[]⟩
def Ksg21 : Sig := ⟨51,0,[],[],1,[],(.atm (.v 0)),true,[]⟩
def Ksg22 : Sig := ⟨52,0,[],[],1,[],(.atm (.v 0)),true,[]⟩
def Ksg23 : Sig := ⟨53,0,[],[],1,[],(.atm (.v 0)),true,[]⟩
def Ksg24 : Sig := ⟨70,2,[],[(.atm (.v 0)),(.atm (.v 1))],1,[],(.atm (.v 0)),false,[]⟩
def Ksg25 : Sig := ⟨87,1,[],[(.atm (.v 0))],1,[],(.atm (.v 0)),false,[]⟩
def Ksg26 : Sig := ⟨64,2,[],[(.agg [(.atm (.v 0)),(.atm (.v 1))])],1,[],(.atm (.v 0)),false,[]⟩
def Ksg27 : Sig := ⟨66,2,[⟨false,false,3,1,(.c (.sl [])),[[(.atm (.v 1))]]⟩,⟨false,false,82,1,(.c (.sl [])),[[(.clo 65 [] [(.ptr 0 0 0)])]]⟩],[(.atm (.v 0)),(.clo 67 [] [(.ptr 0 0 0),(.ptr 1 0 0)])],2,[⟨false,false,3,1,(.c (.sl [])),[[(.atm (.v 1))]]⟩,⟨false,false,82,1,(.c (.sl [])),[[(.clo 65 [] [(.ptr 0 0 0)])]]⟩],(.atm (.v 0)),false,[]⟩
def Ksg28 : Sig := ⟨96,1,[],[(.atm (.v 0))],1,[],(.atm (.v 0)),false,[]⟩
def Ksg29 : Sig := ⟨93,2,[⟨false,false,3,1,(.c (.sl [])),[[(.atm (.v 1))]]⟩,⟨false,false,82,1,(.c (.sl [])),[[(.clo 65 [] [(.ptr 0 0 0)])]]⟩],[(.atm (.v 0)),(.clo 67 [] [(.ptr 0 0 0),(.ptr 1 0 0)])],2,[⟨false,false,3,1,(.c (.sl [])),[[(.atm (.v 1))]]⟩,⟨false,false,82,1,(.c (.sl [])),[[(.clo 65 [] [(.ptr 0 0 0)])]]⟩],(.atm (.v 0)),false,[]⟩
def Ksg30 : Sig := ⟨67,2,[⟨false,false,3,1,(.c (.sl [])),[[(.atm (.v 1))]]⟩,⟨false,false,82,1,(.c (.sl [])),[[(.clo 65 [] [(.ptr 0 0 0)])]]⟩],[(.atm (.v 0)),(.ptr 0 0 0),(.ptr 1 0 0)],2,[⟨false,false,3,1,(.c (.sl [])),[[(.atm (.v 1))]]⟩,⟨false,false,82,1,(.c (.sl [])),[[(.clo 65 [] [(.ptr 0 0 0)])]]⟩],(.atm (.v 0)),false,[]⟩
def Ksg31 : Sig := ⟨68,2,[⟨false,false,3,1,(.c (.sl [])),[[(.atm (.v 1))]]⟩],[(.atm (.v 0)),(.clo 65 [] [(.ptr 0 0 0)])],2,[⟨false,false,3,1,(.c (.sl [])),[[(.atm (.v 1))]]⟩],(.atm (.v 0)),false,[]⟩
def Ksg32 : Sig := ⟨94,2,[⟨false,false,3,1,(.c (.sl [])),[[(.atm (.v 1))]]⟩],[(.atm (.v 0)),(.clo 65 [] [(.ptr 0 0 0)])],2,[⟨false,false,3,1,(.c (.sl [])),[[(.atm (.v 1))]]⟩],(.atm (.v 0)),false,[]⟩
def Ksg33 : Sig := ⟨65,2,[⟨false,false,3,1,(.c (.sl [])),[[(.atm (.v 1))]]⟩],[(.atm (.v 0)),(.ptr 0 0 0)],2,[⟨false,false,3,1,(.c (.sl [])),[[(.atm (.v 1))]]⟩],(.atm (.v 0)),false,[]⟩
def Ksigs : List Sig := [Ksg0,Ksg1,Ksg2,Ksg3,Ksg4,Ksg5,Ksg6,Ksg7,Ksg8,Ksg9,Ksg10,Ksg11,Ksg12,Ksg13,Ksg14,Ksg15,Ksg16,Ksg17,Ksg18,Ksg19,Ksg20,Ksg21,Ksg22,Ksg23,Ksg24,Ksg25,Ksg26,Ksg27,Ksg28,Ksg29,Ksg30,Ksg31,Ksg32,Ksg33]
def Kan0 : Ann := .z
def Kir0 : IR :=
 (.call 20 1 false [] [(.v 0),(.v 1)]
 (.op (.bin .neq false) [(.v 3),(.c (.int .i64 0))]
 (.ite (.v 4)
  (.ret [(.v 3)])
 (.call 1 1 false [] [(.v 2)]
 (.op .lenL [(.v 5)]
 (.op (.bin .eql false) [(.v 6),(.c (.int .i64 0))]
 (.ite (.v 7)
  (.ret [(.c (.int .i64 4))])
 (.ret [(.c (.int .i64 0))]))))))))
theorem Krd0 : readFn KT KSG Ksigs 3000 Ksg0 Try.f32 Kan0 = some Kir0 := by kernel_rfl
def Kan1 : Ann := .z
def Kir1 : IR :=
 (.op (.bin .eql false) [(.v 0),(.c (.int .i64 1))]
 (.ite (.v 1)
  (.call 21 1 false [] []
  (.ret [(.v 2)]))
 (.op (.bin .eql false) [(.v 0),(.c (.int .i64 2))]
 (.ite (.v 2)
  (.call 22 1 false [] []
  (.ret [(.v 3)]))
 (.op (.bin .eql false) [(.v 0),(.c (.int .i64 3))]
 (.ite (.v 3)
  (.call 23 1 false [] []
  (.ret [(.v 4)]))
 (.ret [(.c (.sl []))])))))))
theorem Krd1 : readFn KT KSG Ksigs 3000 Ksg1 Try.f34 Kan1 = some Kir1 := by kernel_rfl
def Kan2 : Ann := .z
def Kir2 : IR :=
 (.op (.row 1) [(.v 1),(.v 2)]
 (.op (.row 1) [(.v 5),(.v 3)]
 (.call 24 1 false [] [(.v 6),(.v 3)]
 (.ret [(.v 7)]))))
theorem Krd2 : readFn KT KSG Ksigs 3000 Ksg2 Try.f69 Kan2 = some Kir2 := by kernel_rfl
def Kan3 : Ann := .z
def Kir3 : IR :=
 (.op (.bin .and false) [(.v 2),(.v 3)]
 (.op (.bin .eql false) [(.v 5),(.c (.int .i64 0))]
 (.ite (.v 6)
  (.ret [(.c (.bool true))])
 (.op (.row 1) [(.v 1),(.v 2)]
 (.op (.row 1) [(.v 7),(.v 3)]
 (.op (.bin .and false) [(.v 2),(.v 3)]
 (.op (.bin .eql false) [(.v 8),(.v 9)]
 (.ret [(.v 10)]))))))))
theorem Krd3 : readFn KT KSG Ksigs 3000 Ksg3 Try.f71 Kan3 = some Kir3 := by kernel_rfl
def Kan4 : Ann := .z
def Kir4 : IR :=
 (.op (.bin .eql false) [(.v 3),(.c (.int .i64 0))]
 (.ite (.v 5)
  (.ret [(.c (.bool true))])
 (.op (.row 1) [(.v 1),(.v 2)]
 (.op (.row 1) [(.v 6),(.v 3)]
 (.op (.bin .neq false) [(.v 7),(.c (.int .i64 0))]
 (.ret [(.v 8)]))))))
theorem Krd4 : readFn KT KSG Ksigs 3000 Ksg4 Try.f72 Kan4 = some Kir4 := by kernel_rfl
def Kan5 : Ann := .z
def Kir5 : IR :=
 (.op (.row 1) [(.v 1),(.v 2)]
 (.op (.row 1) [(.v 5),(.v 3)]
 (.op (.bin .and false) [(.v 6),(.v 4)]
 (.op (.row 1) [(.v 1),(.v 2)]
 (.op (.bin .and false) [(.v 3),(.v 4)]
 (.op (.row 1) [(.v 8),(.v 9)]
 (.call 24 1 false [] [(.v 7),(.v 10)]
 (.ret [(.v 11)]))))))))
theorem Krd5 : readFn KT KSG Ksigs 3000 Ksg5 Try.f73 Kan5 = some Kir5 := by kernel_rfl
def Kan6 : Ann := .z
def Kir6 : IR :=
 (.op (.row 1) [(.v 1),(.v 2)]
 (.op (.row 1) [(.v 5),(.v 3)]
 (.op (.bin .and false) [(.v 6),(.v 4)]
 (.op (.bin .eql false) [(.v 7),(.c (.int .i64 0))]
 (.ite (.v 8)
  (.ret [(.c (.bool true))])
 (.op (.row 1) [(.v 1),(.v 2)]
 (.op (.bin .and false) [(.v 3),(.v 4)]
 (.op (.row 1) [(.v 9),(.v 10)]
 (.op (.row 1) [(.v 1),(.v 2)]
 (.op (.row 1) [(.v 12),(.v 3)]
 (.op (.bin .and false) [(.v 13),(.v 4)]
 (.call 24 1 false [] [(.v 11),(.v 14)]
 (.ret [(.v 15)])))))))))))))
theorem Krd6 : readFn KT KSG Ksigs 3000 Ksg6 Try.f74 Kan6 = some Kir6 := by kernel_rfl
def Kan7 : Ann := .z
def Kir7 : IR :=
 (.op (.row 1) [(.v 1),(.v 2)]
 (.op (.row 1) [(.v 5),(.v 3)]
 (.call 24 1 false [] [(.v 2),(.v 6)]
 (.ret [(.v 7)]))))
theorem Krd7 : readFn KT KSG Ksigs 3000 Ksg7 Try.f75 Kan7 = some Kir7 := by kernel_rfl
def Kan8 : Ann := .z
def Kir8 : IR :=
 (.call 24 1 false [] [(.v 2),(.v 3)]
 (.ite (.v 5)
  (.ret [(.c (.bool true))])
 (.op (.row 1) [(.v 1),(.v 2)]
 (.op (.row 1) [(.v 6),(.v 3)]
 (.op (.bin .eql false) [(.v 7),(.v 2)]
 (.ret [(.v 8)]))))))
theorem Krd8 : readFn KT KSG Ksigs 3000 Ksg8 Try.f76 Kan8 = some Kir8 := by kernel_rfl
def Kan9 : Ann := .z
def Kir9 : IR :=
 (.op (.bin .eql false) [(.v 3),(.v 0)]
 (.ite (.v 5)
  (.ret [(.c (.bool true))])
 (.op (.row 1) [(.v 1),(.v 2)]
 (.op (.row 1) [(.v 6),(.v 3)]
 (.call 24 1 false [] [(.v 7),(.v 3)]
 (.ite (.v 8)
  (.op (.un .not) [(.c (.bool true))]
  (.ret [(.c (.bool false))]))
 (.op (.un .not) [(.c (.bool false))]
 (.ret [(.c (.bool true))]))))))))
theorem Krd9 : readFn KT KSG Ksigs 3000 Ksg9 Try.f77 Kan9 = some Kir9 := by kernel_rfl
def Kan10 : Ann := .z
def Kir10 : IR :=
 (.op (.row 1) [(.v 1),(.v 2)]
 (.op (.row 1) [(.v 5),(.v 3)]
 (.op (.bin .and false) [(.v 6),(.v 3)]
 (.call 24 1 false [] [(.v 7),(.v 2)]
 (.ret [(.v 8)])))))
theorem Krd10 : readFn KT KSG Ksigs 3000 Ksg10 Try.f78 Kan10 = some Kir10 := by kernel_rfl
def Kan11 : Ann := .z
def Kir11 : IR :=
 (.op (.row 1) [(.v 1),(.v 2)]
 (.op (.bin .and false) [(.v 3),(.v 4)]
 (.op (.row 1) [(.v 5),(.v 6)]
 (.op (.row 1) [(.v 1),(.v 2)]
 (.op (.row 1) [(.v 8),(.v 3)]
 (.op (.row 1) [(.v 1),(.v 2)]
 (.op (.row 1) [(.v 10),(.v 4)]
 (.op (.bin .or false) [(.v 9),(.v 11)]
 (.call 24 1 false [] [(.v 7),(.v 12)]
 (.ret [(.v 13)]))))))))))
theorem Krd11 : readFn KT KSG Ksigs 3000 Ksg11 Try.f79 Kan11 = some Kir11 := by kernel_rfl
def Kan12 : Ann := .z
def Kir12 : IR :=
 (.op (.row 1) [(.v 1),(.v 2)]
 (.op (.bin .and false) [(.v 3),(.v 4)]
 (.op (.row 1) [(.v 5),(.v 6)]
 (.call 24 1 false [] [(.v 7),(.v 3)]
 (.ite (.v 8)
  (.ret [(.c (.bool true))])
 (.op (.row 1) [(.v 1),(.v 2)]
 (.op (.row 1) [(.v 9),(.v 3)]
 (.op (.row 1) [(.v 1),(.v 2)]
 (.op (.bin .and false) [(.v 3),(.v 4)]
 (.op (.row 1) [(.v 11),(.v 12)]
 (.call 24 1 false [] [(.v 10),(.v 13)]
 (.ret [(.v 14)]))))))))))))
theorem Krd12 : readFn KT KSG Ksigs 3000 Ksg12 Try.f80 Kan12 = some Kir12 := by kernel_rfl
def Kan13 : Ann := .z
def Kir13 : IR :=
 (.op (.row 1) [(.v 1),(.v 2)]
 (.op (.row 1) [(.v 5),(.v 3)]
 (.call 24 1 false [] [(.v 6),(.v 3)]
 (.ret [(.v 7)]))))
theorem Krd13 : readFn KT KSG Ksigs 3000 Ksg13 Try.f81 Kan13 = some Kir13 := by kernel_rfl
def Kan14 : Ann := .z
def Kir14 : IR :=
 (.call 24 1 false [] [(.v 2),(.v 3)]
 (.op (.un .not) [(.v 5)]
 (.ite (.v 6)
  (.ret [(.c (.bool true))])
 (.op (.row 1) [(.v 1),(.v 2)]
 (.op (.row 1) [(.v 7),(.v 3)]
 (.op (.bin .eql false) [(.v 8),(.v 2)]
 (.ret [(.v 9)])))))))
theorem Krd14 : readFn KT KSG Ksigs 3000 Ksg14 Try.f82 Kan14 = some Kir14 := by kernel_rfl
def Kan15 : Ann := .z
def Kir15 : IR :=
 (.op (.bin .eql false) [(.v 2),(.c (.int .i64 0))]
 (.ite (.v 5)
  (.ret [(.c (.bool true))])
 (.op (.bin .eql false) [(.v 3),(.c (.int .i64 0))]
 (.ite (.v 6)
  (.ret [(.c (.bool true))])
 (.op (.row 1) [(.v 1),(.v 2)]
 (.op (.row 1) [(.v 7),(.v 3)]
 (.op (.bin .neq false) [(.v 8),(.c (.int .i64 0))]
 (.ret [(.v 9)]))))))))
theorem Krd15 : readFn KT KSG Ksigs 3000 Ksg15 Try.f83 Kan15 = some Kir15 := by kernel_rfl
def Kan16 : Ann := .z
def Kir16 : IR :=
 (.op (.row 1) [(.v 1),(.v 2)]
 (.op (.row 1) [(.v 5),(.v 3)]
 (.op (.bin .and false) [(.v 6),(.v 4)]
 (.op (.row 1) [(.v 1),(.v 2)]
 (.op (.bin .and false) [(.v 3),(.v 4)]
 (.op (.row 1) [(.v 8),(.v 9)]
 (.call 24 1 false [] [(.v 7),(.v 10)]
 (.ret [(.v 11)]))))))))
theorem Krd16 : readFn KT KSG Ksigs 3000 Ksg16 Try.f84 Kan16 = some Kir16 := by kernel_rfl
def Kan17 : Ann := .z
def Kir17 : IR :=
 (.op (.row 1) [(.v 1),(.v 2)]
 (.op (.row 1) [(.v 5),(.v 3)]
 (.call 24 1 false [] [(.v 6),(.v 4)]
 (.op (.un .not) [(.v 7)]
 (.ite (.v 8)
  (.ret [(.c (.bool true))])
 (.op (.row 1) [(.v 1),(.v 2)]
 (.op (.row 1) [(.v 9),(.v 4)]
 (.call 24 1 false [] [(.v 10),(.v 3)]
 (.op (.un .not) [(.v 11)]
 (.ite (.v 12)
  (.ret [(.c (.bool true))])
 (.op (.row 1) [(.v 1),(.v 2)]
 (.op (.row 1) [(.v 13),(.v 3)]
 (.op (.row 1) [(.v 1),(.v 2)]
 (.op (.row 1) [(.v 15),(.v 4)]
 (.op (.bin .eql false) [(.v 14),(.v 16)]
 (.ret [(.v 17)]))))))))))))))))
theorem Krd17 : readFn KT KSG Ksigs 3000 Ksg17 Try.f85 Kan17 = some Kir17 := by kernel_rfl
def Kan18 : Ann := .z
def Kir18 : IR :=
 (.op (.conv .u64) [(.v 2)]
 (.call 25 1 false [] [(.v 5)]
 (.op (.bin .neq false) [(.v 6),(.c (.int .i64 1))]
 (.ite (.v 7)
  (.ret [(.c (.bool true))])
 (.op (.row 1) [(.v 1),(.v 2)]
 (.op (.row 1) [(.v 8),(.v 3)]
 (.op (.row 1) [(.v 1),(.v 2)]
 (.op (.row 1) [(.v 10),(.v 4)]
 (.op (.bin .and false) [(.v 9),(.v 11)]
 (.op (.row 1) [(.v 1),(.v 2)]
 (.op (.bin .or false) [(.v 3),(.v 4)]
 (.op (.row 1) [(.v 13),(.v 14)]
 (.call 24 1 false [] [(.v 12),(.v 15)]
 (.ret [(.v 16)]))))))))))))))
theorem Krd18 : readFn KT KSG Ksigs 3000 Ksg18 Try.f86 Kan18 = some Kir18 := by kernel_rfl
def Kan19 : Ann := .z
def Kir19 : IR :=
 (.op (.bin .or false) [(.v 2),(.v 4)]
 (.op (.row 1) [(.v 1),(.v 5)]
 (.op (.row 1) [(.v 6),(.v 3)]
 (.op (.row 1) [(.v 1),(.v 2)]
 (.op (.row 1) [(.v 8),(.v 3)]
 (.op (.row 1) [(.v 1),(.v 4)]
 (.op (.row 1) [(.v 10),(.v 3)]
 (.op (.bin .or false) [(.v 9),(.v 11)]
 (.op (.bin .eql false) [(.v 7),(.v 12)]
 (.ret [(.v 13)]))))))))))
theorem Krd19 : readFn KT KSG Ksigs 3000 Ksg19 Try.f88 Kan19 = some Kir19 := by kernel_rfl
def Kan20 : Ann := (.s none .z (.s none (.s (some ⟨1,[(0,.junk),(2,.junk),(12,(.atm (.v 0)))],[],1,[]⟩) .z .z) (.s none .z (.s none .z (.s none (.s (some ⟨2,[(1,.junk),(3,.junk),(4,.junk),(12,.junk),(13,.junk),(14,.junk),(15,.junk),(16,.junk),(27,(.atm (.v 0)))],[(1,⟨false,false,3,1,(.c (.sl [])),[[(.atm (.v 1))]]⟩)],3,[]⟩) .z .z) .z)))))
def Kir20p0 : IR :=
 (.ite (.v 5)
  (.ret [(.c (.int .i64 1))])
 (.ret [(.c (.int .i64 0))]))
def Kir20p1 : IR :=
 (.ite (.v 2)
  (.ret [(.c (.int .i64 1))])
 (.call 26 1 false [] [(.v 0),(.v 1)]
 (.op (.bin .shl false) [(.c (.int .i64 1)),(.v 3)]
 (.letj 2
  (.op .lenL [(.v 1)]
  (.op (.bin .neq false) [(.v 5),(.v 4)]
  (.ite (.v 6)
   (.jump 0 [(.c (.bool true)),(.v 4)])
  (.call 27 2 false [] [(.v 1),(.v 4)]
  (.jump 0 [(.v 7),(.v 8)])))))
 Kir20p0))))
def Kir20 : IR :=
 (.letj 1
  (.op (.bin .neq false) [(.v 0),(.c (.int .i64 1))]
  (.ite (.v 2)
   (.op (.bin .neq false) [(.v 0),(.c (.int .i64 2))]
   (.jump 0 [(.v 3)]))
  (.jump 0 [(.c (.bool false))])))
 Kir20p1)
theorem Krd20 : readFn KT KSG Ksigs 3000 Ksg20 Try.f49 Kan20 = some Kir20 := by kernel_rfl
def Kan21 : Ann := .z
def Kir21 : IR :=
 (.op (.mk 2 5) [(.c (.bool true)),(.c (fnD 69)),(.c (.bool true)),(.c (fnD 71)),(.c (.bool true)),(.c (fnD 72)),(.c (.bool false)),(.c (fnD 73)),(.c (.bool false)),(.c (fnD 74))]
 (.ret [(.v 0)]))
theorem Krd21 : readFn KT KSG Ksigs 3000 Ksg21 Try.f51 Kan21 = some Kir21 := by kernel_rfl
def Kan22 : Ann := .z
def Kir22 : IR :=
 (.op (.mk 2 6) [(.c (.bool true)),(.c (fnD 75)),(.c (.bool true)),(.c (fnD 76)),(.c (.bool true)),(.c (fnD 77)),(.c (.bool true)),(.c (fnD 78)),(.c (.bool false)),(.c (fnD 79)),(.c (.bool false)),(.c (fnD 80))]
 (.ret [(.v 0)]))
theorem Krd22 : readFn KT KSG Ksigs 3000 Ksg22 Try.f52 Kan22 = some Kir22 := by kernel_rfl
def Kan23 : Ann := .z
def Kir23 : IR :=
 (.op (.mk 2 7) [(.c (.bool true)),(.c (fnD 81)),(.c (.bool true)),(.c (fnD 82)),(.c (.bool true)),(.c (fnD 83)),(.c (.bool false)),(.c (fnD 84)),(.c (.bool false)),(.c (fnD 85)),(.c (.bool false)),(.c (fnD 86)),(.c (.bool false)),(.c (fnD 88))]
 (.ret [(.v 0)]))
theorem Krd23 : readFn KT KSG Ksigs 3000 Ksg23 Try.f53 Kan23 = some Kir23 := by kernel_rfl
def Kan24 : Ann := .z
def Kir24 : IR :=
 (.op (.bin .andNot false) [(.v 0),(.v 1)]
 (.op (.bin .eql false) [(.v 2),(.c (.int .i64 0))]
 (.ret [(.v 3)])))
theorem Krd24 : readFn KT KSG Ksigs 3000 Ksg24 Try.f70 Kan24 = some Kir24 := by kernel_rfl
def Kan25 : Ann := .z
def Kir25 : IR :=
 (.call 28 1 false [] [(.v 0)]
 (.ret [(.v 1)]))
theorem Krd25 : readFn KT KSG Ksigs 3000 Ksg25 Try.f87 Kan25 = some Kir25 := by kernel_rfl
def Kan26 : Ann := .z
def Kir26 : IR :=
 (.op (.bin .shl false) [(.c (.int .i64 1)),(.v 0)]
 (.ret [(.v 2)]))
theorem Krd26 : readFn KT KSG Ksigs 3000 Ksg26 Try.f64 Kan26 = some Kir26 := by kernel_rfl
def Kan27 : Ann := .z
def Kir27 : IR :=
 (.call 29 2 false [] [(.v 0),(.v 1)]
 (.op (.bin .geq false) [(.v 2),(.c (.int .i64 0))]
 (.ret [(.v 4),(.v 3)])))
theorem Krd27 : readFn KT KSG Ksigs 3000 Ksg27 Try.f66 Kan27 = some Kir27 := by kernel_rfl
def Kan28 : Ann := .z
def Kir28 : IR :=
 (.op (.bin .shr false) [(.v 0),(.c (.int .u64 1))]
 (.op (.bin .and false) [(.v 1),(.c (.int .u64 6148914691236517205))]
 (.op (.bin .and false) [(.v 0),(.c (.int .u64 6148914691236517205))]
 (.op (.bin .add false) [(.v 2),(.v 3)]
 (.op (.bin .shr false) [(.v 4),(.c (.int .u64 2))]
 (.op (.bin .and false) [(.v 5),(.c (.int .u64 3689348814741910323))]
 (.op (.bin .and false) [(.v 4),(.c (.int .u64 3689348814741910323))]
 (.op (.bin .add false) [(.v 6),(.v 7)]
 (.op (.bin .shr false) [(.v 8),(.c (.int .u64 4))]
 (.op (.bin .add false) [(.v 9),(.v 8)]
 (.op (.bin .and false) [(.v 10),(.c (.int .u64 1085102592571150095))]
 (.op (.bin .shr false) [(.v 11),(.c (.int .u64 8))]
 (.op (.bin .add false) [(.v 11),(.v 12)]
 (.op (.bin .shr false) [(.v 13),(.c (.int .u64 16))]
 (.op (.bin .add false) [(.v 13),(.v 14)]
 (.op (.bin .shr false) [(.v 15),(.c (.int .u64 32))]
 (.op (.bin .add false) [(.v 15),(.v 16)]
 (.op (.conv .i64) [(.v 17)]
 (.op (.bin .and false) [(.v 18),(.c (.int .i64 127))]
 (.ret [(.v 19)]))))))))))))))))))))
theorem Krd28 : readFn KT KSG Ksigs 3000 Ksg28 Try.f96 Kan28 = some Kir28 := by kernel_rfl
def Kan29 : Ann := (.s none .z (.s none (.s none .z (.b (.l ⟨2,[(4,.junk),(6,.junk),(8,(.atm (.v 0)))],[(0,⟨false,false,3,1,(.c (.sl [])),[[(.atm (.v 1))]]⟩)],2,[]⟩ .z))) .z))
def Kir29p0 : IR :=
 (.op (.bin .lss false) [(.v 3),(.v 2)]
 (.ite (.v 5)
  (.op (.row 1) [(.v 0),(.v 3)]
  (.call 30 2 false [] [(.v 6),(.v 4)]
  (.ite (.v 7)
   (.ret [(.v 3),(.v 8)])
  (.op (.bin .add false) [(.v 3),(.c (.int .i64 1))]
  (.jump 0 [(.v 9),(.v 8)])))))
 (.ret [(.c (.int .i64 (-1))),(.v 4)])))
def Kir29 : IR :=
 (.op .lenL [(.v 0)]
 (.loop 2 [(.c (.int .i64 0)),(.v 1)] Kir29p0))
theorem Krd29 : readFn KT KSG Ksigs 3000 Ksg29 Try.f93 Kan29 = some Kir29 := by kernel_rfl
def Kan30 : Ann := .z
def Kir30 : IR :=
 (.op .lenL [(.v 0)]
 (.op (.bin .neq false) [(.v 2),(.v 1)]
 (.ite (.v 3)
  (.ret [(.c (.bool true)),(.v 1)])
 (.call 31 2 false [] [(.v 0),(.v 1)]
 (.ret [(.v 4),(.v 5)])))))
theorem Krd30 : readFn KT KSG Ksigs 3000 Ksg30 Try.f67 Kan30 = some Kir30 := by kernel_rfl
def Kan31 : Ann := .z
def Kir31 : IR :=
 (.call 32 2 false [] [(.v 0),(.v 1)]
 (.op (.bin .geq false) [(.v 2),(.c (.int .i64 0))]
 (.ret [(.v 4),(.v 3)])))
theorem Krd31 : readFn KT KSG Ksigs 3000 Ksg31 Try.f68 Kan31 = some Kir31 := by kernel_rfl
def Kan32 : Ann := (.s none .z (.s none (.s none .z (.b (.l ⟨2,[(4,.junk),(6,.junk),(8,(.atm (.v 0)))],[(0,⟨false,false,3,1,(.c (.sl [])),[[(.atm (.v 1))]]⟩)],1,[]⟩ .z))) .z))
def Kir32p0 : IR :=
 (.op (.bin .lss false) [(.v 3),(.v 2)]
 (.ite (.v 5)
  (.op (.row 1) [(.v 0),(.v 3)]
  (.call 33 2 false [] [(.v 6),(.v 4)]
  (.ite (.v 7)
   (.ret [(.v 3),(.v 8)])
  (.op (.bin .add false) [(.v 3),(.c (.int .i64 1))]
  (.jump 0 [(.v 9),(.v 8)])))))
 (.ret [(.c (.int .i64 (-1))),(.v 4)])))
def Kir32 : IR :=
 (.op .lenL [(.v 0)]
 (.loop 2 [(.c (.int .i64 0)),(.v 1)] Kir32p0))
theorem Krd32 : readFn KT KSG Ksigs 3000 Ksg32 Try.f94 Kan32 = some Kir32 := by kernel_rfl
def Kan33 : Ann := .z
def Kir33 : IR :=
 (.op (.bin .lss false) [(.v 0),(.c (.int .i64 0))]
 (.ite (.v 2)
  (.ret [(.c (.bool true)),(.v 1)])
 (.op (.bin .geq false) [(.v 0),(.v 1)]
 (.ret [(.v 3),(.v 1)]))))
theorem Krd33 : readFn KT KSG Ksigs 3000 Ksg33 Try.f65 Kan33 = some Kir33 := by kernel_rfl
def Ktbl : List TE := [.ir Kir0,.ir Kir1,.ir Kir2,.ir Kir3,.ir Kir4,.ir Kir5,.ir Kir6,.ir Kir7,.ir Kir8,.ir Kir9,.ir Kir10,.ir Kir11,.ir Kir12,.ir Kir13,.ir Kir14,.ir Kir15,.ir Kir16,.ir Kir17,.ir Kir18,.ir Kir19,.ir Kir20,.ir Kir21,.ir Kir22,.ir Kir23,.ir Kir24,.ir Kir25,.ir Kir26,.ir Kir27,.ir Kir28,.ir Kir29,.ir Kir30,.ir Kir31,.ir Kir32,.ir Kir33]
theorem Ktbl_ok {G : Glob} : TLok Try.prog G KT KSG Ksigs 0 Ktbl := ⟨⟨Ksg0,Try.f32,Kan0,3000,rfl,Try.func32,Krd0,.nil⟩,
 ⟨Ksg1,Try.f34,Kan1,3000,rfl,Try.func34,Krd1,.nil⟩,
 ⟨Ksg2,Try.f69,Kan2,3000,rfl,Try.func69,Krd2,.nil⟩,
 ⟨Ksg3,Try.f71,Kan3,3000,rfl,Try.func71,Krd3,.nil⟩,
 ⟨Ksg4,Try.f72,Kan4,3000,rfl,Try.func72,Krd4,.nil⟩,
 ⟨Ksg5,Try.f73,Kan5,3000,rfl,Try.func73,Krd5,.nil⟩,
 ⟨Ksg6,Try.f74,Kan6,3000,rfl,Try.func74,Krd6,.nil⟩,
 ⟨Ksg7,Try.f75,Kan7,3000,rfl,Try.func75,Krd7,.nil⟩,
 ⟨Ksg8,Try.f76,Kan8,3000,rfl,Try.func76,Krd8,.nil⟩,
 ⟨Ksg9,Try.f77,Kan9,3000,rfl,Try.func77,Krd9,.nil⟩,
 ⟨Ksg10,Try.f78,Kan10,3000,rfl,Try.func78,Krd10,.nil⟩,
 ⟨Ksg11,Try.f79,Kan11,3000,rfl,Try.func79,Krd11,.nil⟩,
 ⟨Ksg12,Try.f80,Kan12,3000,rfl,Try.func80,Krd12,.nil⟩,
 ⟨Ksg13,Try.f81,Kan13,3000,rfl,Try.func81,Krd13,.nil⟩,
 ⟨Ksg14,Try.f82,Kan14,3000,rfl,Try.func82,Krd14,.nil⟩,
 ⟨Ksg15,Try.f83,Kan15,3000,rfl,Try.func83,Krd15,.nil⟩,
 ⟨Ksg16,Try.f84,Kan16,3000,rfl,Try.func84,Krd16,.nil⟩,
 ⟨Ksg17,Try.f85,Kan17,3000,rfl,Try.func85,Krd17,.nil⟩,
 ⟨Ksg18,Try.f86,Kan18,3000,rfl,Try.func86,Krd18,.nil⟩,
 ⟨Ksg19,Try.f88,Kan19,3000,rfl,Try.func88,Krd19,.nil⟩,
 ⟨Ksg20,Try.f49,Kan20,3000,rfl,Try.func49,Krd20,.nil⟩,
 ⟨Ksg21,Try.f51,Kan21,3000,rfl,Try.func51,Krd21,.nil⟩,
 ⟨Ksg22,Try.f52,Kan22,3000,rfl,Try.func52,Krd22,.nil⟩,
 ⟨Ksg23,Try.f53,Kan23,3000,rfl,Try.func53,Krd23,.nil⟩,
 ⟨Ksg24,Try.f70,Kan24,3000,rfl,Try.func70,Krd24,.nil⟩,
 ⟨Ksg25,Try.f87,Kan25,3000,rfl,Try.func87,Krd25,.nil⟩,
 ⟨Ksg26,Try.f64,Kan26,3000,rfl,Try.func64,Krd26,.nil⟩,
 ⟨Ksg27,Try.f66,Kan27,3000,rfl,Try.func66,Krd27,.nil⟩,
 ⟨Ksg28,Try.f96,Kan28,3000,rfl,Try.func96,Krd28,.nil⟩,
 ⟨Ksg29,Try.f93,Kan29,3000,rfl,Try.func93,Krd29,.nil⟩,
 ⟨Ksg30,Try.f67,Kan30,3000,rfl,Try.func67,Krd30,.nil⟩,
 ⟨Ksg31,Try.f68,Kan31,3000,rfl,Try.func68,Krd31,.nil⟩,
 ⟨Ksg32,Try.f94,Kan32,3000,rfl,Try.func94,Krd32,.nil⟩,
 ⟨Ksg33,Try.f65,Kan33,3000,rfl,Try.func65,Krd33,.nil⟩,trivial⟩
def Ktb : Nat → TE := tbOf Ktbl
theorem Ktb_ok {G : Glob} : TabOK Try.prog G KT KSG Ksigs Ktb := tabOK_of Ktbl_ok
theorem Kgok {G : Glob} : GOK G KSG := ⟨(fun g cs h => by cases h),(fun g cs h => by cases h)⟩
end Go.Proofs.Ytnfecjmddbehiaa

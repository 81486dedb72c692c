/- Lemmas. -/
import Derived.Test.YtefjlhhicgepfaaGreatDoorAmEv
import Derived.Test.YtefjlhhicgepfaaGreatDoorProg
set_option linter.unusedSimpArgs false
set_option linter.unusedVariables false
set_option linter.unusedSectionVars false
namespace Go.Proofs.YtefjlhhicgepfaaGreatDoor
open Go.Proofs.Tryz (prog)
open Go Am
set_option maxRecDepth 100000
def NT:Tab:=[
 (3,⟨1,8,true,true,false,none,none,(some .i64),false,false,(some (.int .i64 0)),[],none⟩),
 (9,⟨1,16,true,true,false,none,none,none,true,false,(some (.string ⟨⟨[]⟩⟩)),[],none⟩),
 (26,⟨1,24,true,true,false,(some 9),none,none,false,false,(some (.slice none 0 0)),[],none⟩),
 (31,⟨1,24,true,true,false,(some 39),none,none,false,false,(some (.slice none 0 0)),[],none⟩),
 (39,⟨3,48,true,true,true,none,none,none,false,false,(some (.agg #[(.int .i64 0),(.string ⟨⟨[]⟩⟩),(.slice none 0 0)])),[(0,3),(1,9),(2,31)],(some [(0,1),(1,1),(2,1)])⟩)]
theorem aq4:TOK prog NT:=agz (by kernel_rfl)
def NSG:ef:=[]
def abk:Sig:=⟨102,4,[⟨false,true,9,1,.v 0,[]⟩],[.own 0,(.agg [.atm (.v 1),.atm (.v 2),.atm (.v 3)])],1,[⟨false,true,9,1,.v 0,[]⟩],.own 0,true,[]⟩
def afk:Sig:=⟨123,3,[],[(.agg [.atm (.v 0),.atm (.v 1),.atm (.v 2)])],1,[],.atm (.v 0),false,[]⟩
def aar:List Sig:=[abk,afk]
def anu:Ann:=(.s none .z (.s none .z (.s none (.s none .z (.b (.l ⟨2,(jk [1,3,4,7,8,14]++[(17,(.atm (.v 0)))]),[(0,⟨false,true,9,1,.v 1,[]⟩)],2,[]⟩ .z))) .z)))
def xc:IR:=(.op (pb .lss) [.v 6,.v 5] (.ite (.v 8) (.op (.row 3) [.v 3,.v 6] (.call 0 1 false [0] [.v 7,.v 9,.v 10,.v 11] (.op (pb .add) [.v 6,ik 1] (.jump 0 [.v 13,.v 12])))) (.ret [.v 7])))
def acu:IR:=(.call 1 1 false [] [.v 1,.v 2,.v 3] (.ite (.v 4) (.op (.mk 1 1) [.v 2] (.op (.app 1 16) [.v 0,.v 5] (.ret [.v 6]))) (.op .lenL [.v 3] (.loop 2 [ik 0,.v 0] xc))))
theorem azm:ai NT NSG aar 3000 abk Tryz.f102 anu=some acu:=by kernel_rfl
def ahl:Ann:=.z
def ade:IR:=(.op (pb .eql) [.v 0,ik 3] (.ite (.v 3) (.op .lenL [.v 2] (.op (pb .eql) [.v 4,ik 0] (.ret [.v 5]))) (.ret [bk false])))
theorem au0:ai NT NSG aar 3000 afk Tryz.f123 ahl=some ade:=by kernel_rfl
def aje:List TE:=[.ir acu,.ir ade]
theorem a4c{G:bl}:aah prog G NT NSG aar 0 aje:=⟨⟨abk,Tryz.f102,anu,3000,rfl,Tryz.func102,azm,.nil⟩,
 ⟨afk,Tryz.f123,ahl,3000,rfl,Tryz.func123,au0,.nil⟩,trivial⟩
def Ntb:Nat→TE:=abw aje
theorem aso{G:bl}:uu prog G NT NSG aar Ntb:=qqp a4c
theorem azl{G:bl}:GOK G NSG:=⟨(fun g cs h=>by cases h),(fun g cs h=>by cases h)⟩
end Go.Proofs.YtefjlhhicgepfaaGreatDoor

/- What functions of the program compute: lemmas. -/
import Derived.Test.YtoalfckdmoahoaaGreatDoorAmEv
import Derived.Test.YtoalfckdmoahoaaGreatDoorProg
import Derived.KernelRfl
set_option linter.unusedSimpArgs false
set_option linter.unusedVariables false
set_option linter.unusedSectionVars false
namespace Go.Proofs.YtoalfckdmoahoaaGreatDoor
open Go Am
set_option maxRecDepth 100000
def NT:Tab:=[
 (3,⟨1,8,true,true,false,none,none,(some .i64),false,false,(some (.int .i64 0)),[],none,none⟩),
 (9,⟨1,16,true,true,false,none,none,none,true,false,(some (.string ⟨⟨[]⟩⟩)),[],none,none⟩),
 (26,⟨1,24,true,true,false,(some 9),none,none,false,false,(some (.slice none 0 0)),[],none,none⟩),
 (39,⟨1,24,true,true,false,(some 41),none,none,false,false,(some (.slice none 0 0)),[],none,none⟩),
 (41,⟨3,48,true,true,true,none,none,none,false,false,(some (.agg #[(.int .i64 0),(.string ⟨⟨[]⟩⟩),(.slice none 0 0)])),[(0,3),(1,9),(2,39)],(some [(0,1),(1,1),(2,1)]),none⟩)]
theorem Ntok:TOK Tryz.prog NT:=qtdb (by kernel_rfl)
def NSG:SGlob:=[]
def Nsg0:Sig:=⟨88,4,[⟨false,true,9,1,.v 0,[]⟩],[.own 0,(.agg [.atm (.v 1),.atm (.v 2),.atm (.v 3)])],1,[⟨false,true,9,1,.v 0,[]⟩],.own 0,true,[]⟩
def Nsg1:Sig:=⟨134,3,[],[(.agg [.atm (.v 0),.atm (.v 1),.atm (.v 2)])],1,[],.atm (.v 0),false,[]⟩
def Nsigs:List Sig:=[Nsg0,Nsg1]
def Nan0:Ann:=(.s none .z (.s none .z (.s none (.s none .z (.b (.l ⟨2,[(1,.junk),(3,.junk),(4,.junk),(7,.junk),(8,.junk),(14,.junk),(17,(.atm (.v 0)))],[(0,⟨false,true,9,1,.v 1,[]⟩)],2,[]⟩ .z))) .z)))
def Nir0p0:IR:=(.op (.bin .lss false) [.v 6,.v 5] (.ite (.v 8) (.op (.row 3) [.v 3,.v 6] (.call 0 1 false [0] [.v 7,.v 9,.v 10,.v 11] (.op (.bin .add false) [.v 6,.c (.int .i64 1)] (.jump 0 [.v 13,.v 12])))) (.ret [.v 7])))
def Nir0:IR:=(.call 1 1 false [] [.v 1,.v 2,.v 3] (.ite (.v 4) (.op (.mk 1 1) [.v 2] (.op (.app 1 16) [.v 0,.v 5] (.ret [.v 6]))) (.op .lenL [.v 3] (.loop 2 [.c (.int .i64 0),.v 0] Nir0p0))))
theorem Nrd0:readFn NT NSG Nsigs 3000 Nsg0 Tryz.f88 Nan0=some Nir0:=by kernel_rfl
def Nan1:Ann:=.z
def Nir1:IR:=(.op (.bin .eql false) [.v 0,.c (.int .i64 3)] (.ite (.v 3) (.op .lenL [.v 2] (.op (.bin .eql false) [.v 4,.c (.int .i64 0)] (.ret [.v 5]))) (.ret [.c (.bool false)])))
theorem Nrd1:readFn NT NSG Nsigs 3000 Nsg1 Tryz.f134 Nan1=some Nir1:=by kernel_rfl
def Ntbl:List TE:=[.ir Nir0,.ir Nir1]
theorem qrwb {G:Glob}:TLok Tryz.prog G NT NSG Nsigs 0 Ntbl:=⟨⟨Nsg0,Tryz.f88,Nan0,3000,rfl,Tryz.func88,Nrd0,.nil⟩,
 ⟨Nsg1,Tryz.f134,Nan1,3000,rfl,Tryz.func134,Nrd1,.nil⟩,trivial⟩
def Ntb:Nat→TE:=tbOf Ntbl
theorem qizb {G:Glob}:TabOK Tryz.prog G NT NSG Nsigs Ntb:=qtp qrwb
theorem Ngok {G:Glob}:GOK G NSG:=⟨(fun g cs h=>by cases h),(fun g cs h=>by cases h)⟩
end Go.Proofs.YtoalfckdmoahoaaGreatDoor

/- What functions of the program compute: lemmas. -/
import Derived.Test.YtnfecjmddbehiaaGreatSe8
import Derived.Test.YtnfecjmddbehiaaGreatProg
import Derived.KernelRfl
set_option linter.unusedSimpArgs false
set_option linter.unusedVariables false
set_option linter.unusedSectionVars false
namespace Go.Proofs.YtnfecjmddbehiaaGreat
open Go Am
set_option maxRecDepth 100000
abbrev fnD (f:Nat):D:=.raw (.func (.func f) #[] #[])
def T:Tab:=[
 (3,⟨1,8,true,true,false,none,none,(some .i64),false,false,(some (.int .i64 0)),[],none,none⟩),
 (4,⟨1,1,true,true,false,none,none,none,false,true,(some (.bool false)),[],none,none⟩),
 (5,⟨1,1,true,true,false,none,none,(some .u8),false,false,(some (.int .u8 0)),[],none,none⟩),
 (9,⟨1,16,true,true,false,none,none,none,true,false,(some (.string ⟨⟨[]⟩⟩)),[],none,none⟩),
 (22,⟨1,24,true,true,false,(some 3),none,none,false,false,(some (.slice none 0 0)),[],none,none⟩),
 (23,⟨1,8,true,true,false,none,none,none,false,false,(some (.pointer none)),[],none,none⟩),
 (26,⟨1,24,true,true,false,(some 60),none,none,false,false,(some (.slice none 0 0)),[],none,none⟩),
 (28,⟨1,24,true,true,false,(some 22),none,none,false,false,(some (.slice none 0 0)),[],none,none⟩),
 (30,⟨2,32,true,true,true,none,none,none,false,false,(some (.agg #[(.int .i64 0),(.slice none 0 0)])),[(0,3),(1,28)],(some [(0,1),(1,1)]),none⟩),
 (31,⟨1,8,true,true,false,none,none,(some .i64),false,false,(some (.int .i64 0)),[],none,none⟩),
 (35,⟨4,32,true,true,true,none,none,none,false,false,(some (.agg #[(.int .i64 0),(.int .i64 0),(.int .i64 0),(.int .i64 0)])),[(0,3),(1,3),(2,3),(3,3)],(some [(0,1),(1,1),(2,1),(3,1)]),(some 4)⟩),
 (40,⟨1,24,true,true,false,(some 9),none,none,false,false,(some (.slice none 0 0)),[],none,none⟩),
 (46,⟨1,8,true,true,false,none,none,none,false,false,(some .nilFunc),[],none,none⟩),
 (48,⟨1,24,true,true,false,(some 30),none,none,false,false,(some (.slice none 0 0)),[],none,none⟩),
 (51,⟨1,8,true,true,false,none,none,none,false,false,(some .nilFunc),[],none,none⟩),
 (52,⟨1,24,true,true,false,(some 40),none,none,false,false,(some (.slice none 0 0)),[],none,none⟩),
 (56,⟨2,32,true,true,true,none,none,none,false,false,(some (.agg #[(.slice none 0 0),(.int .i64 0)])),[(0,22),(1,3)],(some [(0,1),(1,1)]),none⟩),
 (58,⟨1,8,true,true,false,none,none,(some .u64),false,false,(some (.int .u64 0)),[],none,none⟩),
 (60,⟨2,48,true,true,true,none,none,none,false,false,(some (.agg #[(.slice none 0 0),(.slice none 0 0)])),[(0,40),(1,22)],(some [(0,1),(1,1)]),none⟩),
 (63,⟨1,8,true,true,false,none,none,(some .u64),false,false,(some (.int .u64 0)),[],none,none⟩),
 (70,⟨1,24,true,true,false,(some 99),none,none,false,false,(some (.slice none 0 0)),[],none,none⟩),
 (77,⟨1,24,true,true,false,(some 5),none,none,false,false,(some (.slice none 0 0)),[],none,none⟩),
 (88,⟨1,8,true,true,false,none,none,none,false,false,(some .nilFunc),[],none,none⟩),
 (92,⟨1,24,true,true,false,(some 63),none,none,false,false,(some (.slice none 0 0)),[],none,none⟩),
 (97,⟨1,8,true,true,false,none,none,none,false,false,(some .nilFunc),[],none,none⟩),
 (99,⟨2,16,true,true,true,none,none,none,false,false,(some (.agg #[(.bool false),.nilFunc])),[(0,4),(1,97)],(some [(0,1),(1,1)]),none⟩),
 (105,⟨1,8,true,true,false,none,none,none,false,false,(some .nilFunc),[],none,none⟩),
 (117,⟨1,24,true,true,false,(some 4),none,none,false,false,(some (.slice none 0 0)),[],none,none⟩)]
theorem tok:TOK Tryz.prog T:=qknb (by kernel_rfl)
def SG:SGlob:=[]
def sg0:Sig:=⟨4,5,[],[(.agg [.atm (.v 0),.atm (.v 1)]),.atm (.v 2),.atm (.v 3),.atm (.v 4)],1,[],.atm (.v 0),false,[]⟩
def sg1:Sig:=⟨16,2,[],[(.agg [.atm (.v 0),.atm (.v 1)])],1,[],.atm (.v 0),false,[]⟩
def sg2:Sig:=⟨14,0,[],[],1,[],.atm (.v 0),false,[]⟩
def sg3:Sig:=⟨5,1,[],[.atm (.v 0)],2,[⟨false,false,56,2,.c (.sl []),[[.atm (.v 0),.atm (.v 1)]]⟩],.ptr 0 0 0,false,[]⟩
def sg4:Sig:=⟨6,4,[⟨false,false,56,2,.c (.sl []),[[.atm (.v 2),.atm (.v 3)]]⟩],[.ptr 0 0 0,.atm (.v 0),.atm (.v 1)],3,[⟨false,false,56,2,.c (.sl []),[[.atm (.v 1),.atm (.v 2)]]⟩],.atm (.v 0),false,[]⟩
def sg5:Sig:=⟨7,4,[⟨false,false,56,2,.c (.sl []),[[.atm (.v 2),.atm (.v 3)]]⟩],[.ptr 0 0 0,.atm (.v 0),.atm (.v 1)],3,[⟨false,false,56,2,.c (.sl []),[[.atm (.v 1),.atm (.v 2)]]⟩],.atm (.v 0),true,[]⟩
def sg6:Sig:=⟨17,2,[],[.atm (.v 0),.atm (.v 1)],3,[],(.tup [(.agg [.atm (.v 0),.atm (.v 1)]),.atm (.v 2)]),true,[]⟩
def sg7:Sig:=⟨13,5,[⟨false,false,56,2,.c (.sl []),[[.atm (.v 3),.atm (.v 4)]]⟩],[.ptr 0 0 0,(.agg [.atm (.v 0),.atm (.v 1)]),.atm (.v 2)],4,[⟨false,false,56,2,.c (.sl []),[[.atm (.v 2),.atm (.v 3)]]⟩],(.agg [.atm (.v 0),.atm (.v 1)]),true,[]⟩
def sg8:Sig:=⟨9,3,[],[(.agg [.atm (.v 0),.atm (.v 1)]),.atm (.v 2)],6,[],(.tup [(.agg [.atm (.v 0),.atm (.v 1),.atm (.v 2),.atm (.v 3)]),.atm (.v 4),.atm (.v 5)]),false,[]⟩
def sg9:Sig:=⟨18,3,[],[(.agg [.atm (.v 0),.atm (.v 1)]),.atm (.v 2)],6,[],(.tup [(.agg [.atm (.v 0),.atm (.v 1),.atm (.v 2),.atm (.v 3)]),.atm (.v 4),.atm (.v 5)]),false,[]⟩
def sg10:Sig:=⟨19,3,[],[(.agg [.atm (.v 0),.atm (.v 1)]),.atm (.v 2)],2,[],(.tup [.atm (.v 0),.atm (.v 1)]),true,[]⟩
def sg11:Sig:=⟨20,3,[],[(.agg [.atm (.v 0),.atm (.v 1)]),.atm (.v 2)],2,[],(.tup [.atm (.v 0),.atm (.v 1)]),true,[]⟩
def sg12:Sig:=⟨21,2,[],[.atm (.v 0),.atm (.v 1)],1,[],.atm (.v 0),false,[]⟩
def sg13:Sig:=⟨11,1,[],[.atm (.v 0)],1,[],.atm (.v 0),true,[]⟩
def sg14:Sig:=⟨10,4,[],[(.agg [.atm (.v 0),.atm (.v 1)]),.atm (.v 2),.atm (.v 3)],2,[],(.tup [.atm (.v 0),.atm (.v 1)]),true,[]⟩
def sg15:Sig:=⟨22,4,[],[(.agg [.atm (.v 0),.atm (.v 1)]),.atm (.v 2),.atm (.v 3)],2,[],(.tup [.atm (.v 0),.atm (.v 1)]),true,[]⟩
def sg16:Sig:=⟨12,2,[],[.atm (.v 0),.atm (.v 1)],1,[],.atm (.v 0),false,[]⟩
def sg17:Sig:=⟨23,2,[],[(.agg [.atm (.v 0),.atm (.v 1)])],1,[],.atm (.v 0),false,[]⟩
def sg18:Sig:=⟨24,2,[],[(.agg [.atm (.v 0),.atm (.v 1)])],1,[],.atm (.v 0),false,[]⟩
def sg19:Sig:=⟨25,3,[⟨false,false,56,2,.c (.sl []),[[.atm (.v 1),.atm (.v 2)]]⟩],[.ptr 0 0 0,.atm (.v 0)],3,[⟨false,false,56,2,.c (.sl []),[[.atm (.v 1),.atm (.v 2)]]⟩],.atm (.v 0),false,[]⟩
def sg20:Sig:=⟨26,4,[⟨false,false,56,2,.c (.sl []),[[.atm (.v 2),.atm (.v 3)]]⟩],[.ptr 0 0 0,.atm (.v 0),.atm (.v 1)],4,[⟨false,false,56,2,.c (.sl []),[[.atm (.v 2),.atm (.v 3)]]⟩],(.agg [.atm (.v 0),.atm (.v 1)]),true,[]⟩
def sg21:Sig:=⟨40,1,[],[.atm (.v 0)],2,[],(.tup [.atm (.v 0),.atm (.v 1)]),false,[]⟩
def sg22:Sig:=⟨41,2,[],[(.agg [.atm (.v 0),.atm (.v 1)])],2,[],(.tup [.atm (.v 0),.atm (.v 1)]),false,[]⟩
def sg23:Sig:=⟨42,2,[],[(.agg [.atm (.v 0),.atm (.v 1)])],1,[],.atm (.v 0),false,[]⟩
def sg24:Sig:=⟨43,2,[],[.atm (.v 0),.atm (.v 1)],1,[],.atm (.v 0),false,[]⟩
def sg25:Sig:=⟨44,2,[],[(.agg [.atm (.v 0),.atm (.v 1)])],1,[],.atm (.v 0),false,[]⟩
def sg26:Sig:=⟨45,3,[],[(.agg [.atm (.v 0),.atm (.v 1)]),.atm (.v 2)],1,[],.atm (.v 0),false,[]⟩
def sg27:Sig:=⟨46,3,[],[(.agg [.atm (.v 0),.atm (.v 1)]),.atm (.v 2)],1,[],.atm (.v 0),false,[]⟩
def sg28:Sig:=⟨47,3,[],[(.agg [.atm (.v 0),.atm (.v 1)]),.atm (.v 2)],5,[],(.tup [(.agg [.atm (.v 0),.atm (.v 1),.atm (.v 2),.atm (.v 3)]),.atm (.v 4)]),true,[]⟩
def sg29:Sig:=⟨33,1,[],[.atm (.v 0)],1,[],.atm (.v 0),false,[]⟩
def sg30:Sig:=⟨34,2,[],[(.agg [.atm (.v 0),.atm (.v 1)])],1,[],.atm (.v 0),false,[]⟩
def sg31:Sig:=⟨35,2,[],[.atm (.v 0),.atm (.v 1)],3,[],(.tup [(.agg [.atm (.v 0),.atm (.v 1)]),.atm (.v 2)]),true,[]⟩
def sg32:Sig:=⟨8,2,[],[.atm (.v 0),.atm (.v 1)],3,[],(.tup [(.agg [.atm (.v 0),.atm (.v 1)]),.atm (.v 2)]),true,[]⟩
def sg33:Sig:=⟨36,2,[],[.atm (.v 0),.atm (.v 1),(.atm (.c (fnD 37)))],1,[],.atm (.v 0),false,[]⟩
def sg34:Sig:=⟨48,1,[],[.atm (.v 0)],1,[],.atm (.v 0),false,[]⟩
def sg35:Sig:=⟨49,5,[],[(.agg [.atm (.v 0),.atm (.v 1)]),.atm (.v 2),.atm (.v 3),.atm (.v 4)],2,[],(.agg [.atm (.v 0),.atm (.v 1)]),true,[]⟩
def sg36:Sig:=⟨15,4,[],[(.agg [.atm (.v 0),.atm (.v 1)]),(.agg [.atm (.v 2),.atm (.v 3)])],1,[],.atm (.v 0),false,[]⟩
def sg37:Sig:=⟨39,4,[],[(.agg [.atm (.v 0),.atm (.v 1)]),(.agg [.atm (.v 2),.atm (.v 3)])],1,[],.atm (.v 0),false,[]⟩
def sg38:Sig:=⟨51,2,[⟨false,false,3,1,.c (.sl []),[[.atm (.v 1)]]⟩,⟨false,false,88,1,.c (.sl []),[[(.clo 50 [] [.ptr 0 0 0])]]⟩],[.atm (.v 0),(.clo 52 [] [.ptr 0 0 0,.ptr 1 0 0])],2,[⟨false,false,3,1,.c (.sl []),[[.atm (.v 1)]]⟩,⟨false,false,88,1,.c (.sl []),[[(.clo 50 [] [.ptr 0 0 0])]]⟩],.atm (.v 0),false,[]⟩
def sg39:Sig:=⟨55,2,[⟨false,false,56,2,.c (.sl []),[[.atm (.v 0),.atm (.v 1)]]⟩],[.ptr 0 0 0],3,[⟨false,false,56,2,.c (.sl []),[[.atm (.v 1),.atm (.v 2)]]⟩],.atm (.v 0),false,[]⟩
def sg40:Sig:=⟨54,2,[],[.atm (.v 0),.atm (.v 1)],1,[],.atm (.v 0),false,[]⟩
def sg41:Sig:=⟨56,2,[],[.atm (.v 0),.atm (.v 1)],3,[],(.tup [(.agg [.atm (.v 0),.atm (.v 1)]),.atm (.v 2)]),true,[]⟩
def sg42:Sig:=⟨71,2,[],[.atm (.v 0),.atm (.v 1)],1,[],.atm (.v 0),false,[]⟩
def sg43:Sig:=⟨72,1,[],[.atm (.v 0)],1,[],.atm (.v 0),false,[]⟩
def sg44:Sig:=⟨73,2,[],[(.agg [.atm (.v 0),.atm (.v 1)])],1,[],.atm (.v 0),false,[]⟩
def sg45:Sig:=⟨74,4,[],[(.agg [.atm (.v 0),.atm (.v 1)]),.atm (.v 2),.atm (.v 3)],1,[],.atm (.v 0),false,[]⟩
def sg46:Sig:=⟨75,7,[],[(.agg [.atm (.v 0),.atm (.v 1)]),.atm (.v 2),.atm (.v 3),.atm (.v 4),.atm (.v 5),.atm (.v 6)],1,[],.atm (.v 0),false,[]⟩
def sg47:Sig:=⟨65,1,[],[.atm (.v 0)],1,[],.atm (.v 0),false,[]⟩
def sg48:Sig:=⟨68,1,[],[.atm (.v 0)],1,[⟨false,false,22,1,.c (.sl []),[[.atm (.v 0)]]⟩],(.clo 103 [] [.ptr 0 0 0]),false,[]⟩
def sg49:Sig:=⟨67,1,[⟨false,false,22,1,.c (.sl []),[[.atm (.v 0)]]⟩],[(.clo 103 [] [.ptr 0 0 0])],2,[⟨false,false,22,1,.c (.sl []),[[.atm (.v 1)]]⟩,⟨false,true,3,1,.v 0,[]⟩],.own 1,true,[]⟩
def sg50:Sig:=⟨66,1,[⟨false,true,3,1,.v 0,[]⟩],[.own 0],2,[⟨true,true,3,1,.v 1,[]⟩],.atm (.v 0),true,[]⟩
def sg51:Sig:=⟨69,1,[],[.atm (.v 0)],1,[⟨false,true,9,1,.v 0,[]⟩],.own 0,true,[]⟩
def sg52:Sig:=⟨70,2,[],[.atm (.v 0),.atm (.v 1)],2,[],(.tup [.atm (.v 0),.atm (.v 1)]),false,[]⟩
def sg53:Sig:=⟨27,2,[],[.atm (.v 0),.atm (.v 1)],1,[],.atm (.v 0),false,[]⟩
def sg54:Sig:=⟨28,3,[],[(.agg [.atm (.v 0),.atm (.v 1)]),.atm (.v 2)],1,[],.atm (.v 0),false,[]⟩
def sg55:Sig:=⟨37,2,[],[.atm (.v 0),.atm (.v 1)],1,[],.atm (.v 0),false,[]⟩
def sg56:Sig:=⟨76,1,[],[.atm (.v 0)],1,[],.atm (.v 0),false,[]⟩
def sg57:Sig:=⟨77,2,[⟨false,false,3,1,.c (.sl []),[[.atm (.v 1)]]⟩,⟨false,false,88,1,.c (.sl []),[[(.clo 50 [] [.ptr 0 0 0])]]⟩],[.atm (.v 0),(.clo 52 [] [.ptr 0 0 0,.ptr 1 0 0])],2,[⟨false,false,3,1,.c (.sl []),[[.atm (.v 1)]]⟩,⟨false,false,88,1,.c (.sl []),[[(.clo 50 [] [.ptr 0 0 0])]]⟩],.atm (.v 0),false,[]⟩
def sg58:Sig:=⟨106,1,[],[.atm (.v 0)],1,[],.atm (.v 0),false,[]⟩
def sg59:Sig:=⟨107,5,[],[.atm (.v 0),.atm (.v 1),.atm (.v 2),.atm (.v 3),.atm (.v 4)],1,[],.atm (.v 0),false,[]⟩
def sg60:Sig:=⟨108,5,[],[.atm (.v 0),.atm (.v 1),.atm (.v 2),.atm (.v 3),.atm (.v 4)],1,[],.atm (.v 0),false,[]⟩
def sg61:Sig:=⟨109,5,[],[.atm (.v 0),.atm (.v 1),.atm (.v 2),.atm (.v 3),.atm (.v 4)],1,[],.atm (.v 0),false,[]⟩
def sg62:Sig:=⟨101,1,[⟨false,false,22,1,.c (.sl []),[[.atm (.v 0)]]⟩],[(.clo 103 [] [.ptr 0 0 0])],2,[⟨false,false,22,1,.c (.sl []),[[.atm (.v 1)]]⟩,⟨false,true,3,1,.v 0,[]⟩],.own 1,true,[]⟩
def sg63:Sig:=⟨102,1,[⟨false,true,3,1,.v 0,[]⟩],[.own 0],1,[⟨false,true,3,1,.v 0,[]⟩],(.tup []),false,[0]⟩
def sg64:Sig:=⟨104,2,[],[.atm (.v 0),.atm (.v 1)],1,[],.atm (.v 0),false,[]⟩
def sg65:Sig:=⟨105,1,[],[.atm (.v 0)],1,[],.atm (.v 0),false,[]⟩
def sg66:Sig:=⟨32,1,[],[.atm (.v 0)],1,[],.atm (.v 0),true,[]⟩
def sg67:Sig:=⟨57,2,[],[(.agg [.atm (.v 0),.atm (.v 1)])],1,[],.atm (.v 0),false,[]⟩
def sg68:Sig:=⟨58,2,[],[.atm (.v 0),.atm (.v 1)],1,[],.atm (.v 0),false,[]⟩
def sg69:Sig:=⟨59,2,[],[(.agg [.atm (.v 0),.atm (.v 1)])],1,[],.atm (.v 0),false,[]⟩
def sg70:Sig:=⟨29,3,[],[(.agg [.atm (.v 0),.atm (.v 1)]),.atm (.v 2)],1,[],.atm (.v 0),false,[]⟩
def sg71:Sig:=⟨38,2,[],[.atm (.v 0),.atm (.v 1)],1,[],.atm (.v 0),false,[]⟩
def sg72:Sig:=⟨52,2,[⟨false,false,3,1,.c (.sl []),[[.atm (.v 1)]]⟩,⟨false,false,88,1,.c (.sl []),[[(.clo 50 [] [.ptr 0 0 0])]]⟩],[.atm (.v 0),.ptr 0 0 0,.ptr 1 0 0],2,[⟨false,false,3,1,.c (.sl []),[[.atm (.v 1)]]⟩,⟨false,false,88,1,.c (.sl []),[[(.clo 50 [] [.ptr 0 0 0])]]⟩],.atm (.v 0),false,[]⟩
def sg73:Sig:=⟨117,2,[],[.atm (.v 0),.atm (.v 1)],1,[],.atm (.v 0),false,[]⟩
def sg74:Sig:=⟨118,1,[],[.atm (.v 0)],1,[],.atm (.v 0),false,[]⟩
def sg75:Sig:=⟨116,1,[],[.atm (.v 0)],1,[],.atm (.v 0),false,[]⟩
def sg76:Sig:=⟨62,0,[],[],1,[],.atm (.v 0),true,[]⟩
def sg77:Sig:=⟨63,0,[],[],1,[],.atm (.v 0),true,[]⟩
def sg78:Sig:=⟨64,0,[],[],1,[],.atm (.v 0),true,[]⟩
def sg79:Sig:=⟨79,2,[],[.atm (.v 0),.atm (.v 1)],1,[],.atm (.v 0),false,[]⟩
def sg80:Sig:=⟨60,2,[],[(.agg [.atm (.v 0),.atm (.v 1)])],1,[],.atm (.v 0),true,[]⟩
def sg81:Sig:=⟨53,2,[⟨false,false,3,1,.c (.sl []),[[.atm (.v 1)]]⟩],[.atm (.v 0),(.clo 50 [] [.ptr 0 0 0])],2,[⟨false,false,3,1,.c (.sl []),[[.atm (.v 1)]]⟩],.atm (.v 0),false,[]⟩
def sg82:Sig:=⟨110,2,[],[.atm (.v 0),.atm (.v 1)],1,[],.atm (.v 0),false,[]⟩
def sg83:Sig:=⟨80,1,[],[.atm (.v 0)],1,[],.atm (.v 0),false,[]⟩
def sg84:Sig:=⟨78,2,[⟨false,false,3,1,.c (.sl []),[[.atm (.v 1)]]⟩],[.atm (.v 0),(.clo 50 [] [.ptr 0 0 0])],2,[⟨false,false,3,1,.c (.sl []),[[.atm (.v 1)]]⟩],.atm (.v 0),false,[]⟩
def sg85:Sig:=⟨50,2,[⟨false,false,3,1,.c (.sl []),[[.atm (.v 1)]]⟩],[.atm (.v 0),.ptr 0 0 0],2,[⟨false,false,3,1,.c (.sl []),[[.atm (.v 1)]]⟩],.atm (.v 0),false,[]⟩
def sigs:List Sig:=[sg0,sg1,sg2,sg3,sg4,sg5,sg6,sg7,sg8,sg9,sg10,sg11,sg12,sg13,sg14,sg15,sg16,sg17,sg18,sg19,sg20,sg21,sg22,sg23,sg24,sg25,sg26,sg27,sg28,sg29,sg30,sg31,sg32,sg33,sg34,sg35,sg36,sg37,sg38,sg39,sg40,sg41,sg42,sg43,sg44,sg45,sg46,sg47,sg48,sg49,sg50,sg51,sg52,sg53,sg54,sg55,sg56,sg57,sg58,sg59,sg60,sg61,sg62,sg63,sg64,sg65,sg66,sg67,sg68,sg69,sg70,sg71,sg72,sg73,sg74,sg75,sg76,sg77,sg78,sg79,sg80,sg81,sg82,sg83,sg84,sg85]
def an0:Ann:=(.s none .z (.s none (.s (some ⟨1,[(0,.junk),(8,.junk),(41,(.atm (.v 0)))],[],1,[]⟩) .z .z) (.s none .z (.s none .z (.s none .z (.s none (.s none .z (.b (.l ⟨1,[(2,.junk),(4,.junk),(9,.junk),(12,.junk),(13,.junk),(41,.junk),(43,.junk),(44,.junk),(45,.junk),(46,.junk),(47,.junk),(48,.junk),(49,.junk),(50,.junk),(51,.junk),(52,.junk),(53,.junk),(54,.junk),(55,.junk),(56,.junk),(57,.junk),(58,.junk),(59,.junk),(60,.junk),(61,.junk),(62,.junk),(63,.junk),(64,.junk),(65,.junk),(68,(.atm (.v 0)))],[],12,[]⟩ (.s none .z (.s none .z (.s none (.b (.s none .z (.s none (.s none .z (.b (.l ⟨1,[(69,.junk),(70,.junk),(71,.junk),(72,.junk),(73,.junk),(76,(.atm (.v 0)))],[],14,[]⟩ (.s none .z (.s none .z (.s none (.b (.s none .z (.s none .z (.s none .z (.s none .z (.s none .z (.s none (.s (some ⟨1,[(18,.junk),(19,.junk),(20,.junk),(21,.junk),(22,.junk),(23,.junk),(24,.junk),(25,.junk),(26,.junk),(27,.junk),(77,.junk),(78,.junk),(79,.junk),(80,.junk),(81,.junk),(82,.junk),(83,.junk),(84,.junk),(85,.junk),(86,.junk),(87,.junk),(88,.junk),(89,.junk),(90,.junk),(91,.junk),(92,.junk),(93,.junk),(94,.junk),(95,.junk),(96,.junk),(97,.junk),(98,.junk),(99,.junk),(100,.junk),(101,.junk),(102,.junk),(103,.junk),(104,.junk),(105,.junk),(129,(.atm (.v 0)))],[],16,[]⟩) .z .z) (.s none .z (.b (.l ⟨1,[(129,.junk),(130,.junk),(131,.junk),(132,.junk),(135,(.atm (.v 0)))],[],17,[]⟩ (.s none .z (.s none .z (.s none (.b (.s none .z (.s none .z (.s none .z (.s (some ⟨1,[(29,.junk),(30,.junk),(31,.junk),(32,.junk),(33,.junk),(136,.junk),(137,.junk),(138,.junk),(139,.junk),(140,.junk),(141,.junk),(142,.junk),(143,.junk),(144,.junk),(145,.junk),(146,.junk),(147,.junk),(148,.junk),(149,.junk),(150,.junk),(151,.junk),(152,.junk),(161,(.atm (.v 0)))],[],17,[]⟩) .z .z))))) .z))))))))))))) .z)))))) .z))) .z)))))) .z))))))
def ir0p0:IR:=(.ite (.v 66) (.ret [.c (.bool false)]) (.op (.bin .add false) [.v 59,.c (.int .i64 1)] (.jump 2 [.v 67])))
def ir0p1:IR:=(.op (.bin .lss false) [.v 59,.v 58] (.ite (.v 60) (.op .chk [.v 57,.v 59] (.op (.get 0 1) [.v 57,.v 59] (.call 14 2 false [] [.v 32,.v 33,.v 38,.v 61] (.call 15 2 false [] [.v 32,.v 33,.v 38,.v 61] (.letj 1 (.op (.bin .neq false) [.v 63,.v 65] (.ite (.v 66) (.jump 3 [.c (.bool true)]) (.call 16 1 false [] [.v 62,.v 64] (.ite (.v 67) (.op (.un .not) [.c (.bool true)] (.jump 3 [.c (.bool false)])) (.op (.un .not) [.c (.bool false)] (.jump 3 [.c (.bool true)])))))) ir0p0))))) (.op (.bin .add false) [.v 36,.c (.int .i64 1)] (.jump 1 [.v 61]))))
def ir0p2:IR:=(.ite (.v 55) (.ret [.c (.bool false)]) (.call 13 1 false [] [.v 8] (.op (.mk 1 2) [.v 2,.v 56] (.op .lenL [.v 57] (.loop 1 [.c (.int .i64 0)] ir0p1)))))
def ir0p3:IR:=(.op (.bin .lss false) [.v 36,.v 35] (.ite (.v 37) (.op .chk [.v 34,.v 36] (.op (.get 0 1) [.v 34,.v 36] (.call 8 6 false [] [.v 32,.v 33,.v 38] (.call 9 6 false [] [.v 32,.v 33,.v 38] (.call 10 2 false [] [.v 32,.v 33,.v 38] (.call 11 2 false [] [.v 32,.v 33,.v 38] (.letj 1 (.op (.bin .neq false) [.v 44,.v 50] (.ite (.v 55) (.jump 2 [.c (.bool true)]) (.op (.bin .neq false) [.v 52,.v 54] (.ite (.v 56) (.jump 2 [.c (.bool true)]) (.op (.eqs true 4) [.v 39,.v 40,.v 41,.v 42,.v 45,.v 46,.v 47,.v 48] (.ite (.v 57) (.jump 2 [.c (.bool true)]) (.op (.bin .neq true) [.v 43,.v 49] (.ite (.v 58) (.jump 2 [.c (.bool true)]) (.call 12 1 false [] [.v 51,.v 53] (.ite (.v 59) (.op (.un .not) [.c (.bool true)] (.jump 2 [.c (.bool false)])) (.op (.un .not) [.c (.bool false)] (.jump 2 [.c (.bool true)])))))))))))) ir0p2))))))) (.call 17 1 false [] [.v 32,.v 33] (.call 18 1 false [] [.v 32,.v 33] (.op (.bin .neq false) [.v 38,.v 39] (.ite (.v 40) (.ret [.c (.bool false)]) (.op (.bin .add false) [.v 30,.c (.int .i64 1)] (.jump 0 [.v 41]))))))))
def ir0p4:IR:=(.op (.bin .lss false) [.v 30,.v 29] (.ite (.v 31) (.op .chk [.v 28,.v 30] (.op (.get 0 2) [.v 28,.v 30] (.op (.mk 1 2) [.v 4,.v 11] (.op .lenL [.v 34] (.loop 1 [.c (.int .i64 0)] ir0p3))))) (.call 2 1 false [] [] (.ret [.v 32]))))
def ir0p5:IR:=(.ite (.v 5) (.call 2 1 false [] [] (.ret [.v 6])) (.call 3 2 false [] [.v 3] (.call 4 3 false [] [.c (.int .i64 1),.c (.int .i64 2),.v 6,.v 7] (.call 4 3 false [] [.c (.int .i64 1),.c (.int .i64 3),.v 9,.v 10] (.call 5 3 false [] [.v 8,.v 11,.v 12,.v 13] (.call 6 3 false [] [.v 14,.v 11] (.call 7 4 false [] [.v 17,.v 18,.c (.int .i64 1),.v 15,.v 16] (.call 7 4 false [] [.v 17,.v 18,.c (.int .i64 3),.v 22,.v 23] (.op (.mk 2 4) [.v 0,.v 1,.v 17,.v 18,.v 20,.v 21,.v 24,.v 25] (.op .lenL [.v 28] (.loop 1 [.c (.int .i64 0)] ir0p4)))))))))))
def ir0:IR:=(.letj 1 (.call 1 1 false [] [.v 0,.v 1] (.op (.un .not) [.v 5] (.ite (.v 6) (.jump 0 [.c (.bool true)]) (.op .lenL [.v 2] (.op (.bin .gtr false) [.v 7,.c (.int .i64 10)] (.jump 0 [.v 8])))))) ir0p5)
theorem rd0:readFn T SG sigs 3000 sg0 Tryz.f4 an0=some ir0:=by kernel_rfl
def an1:Ann:=(.s none .z (.s none .z (.s none (.s none .z (.b (.l ⟨2,[(0,.junk),(2,.junk),(3,(.atm (.v 0))),(4,(.atm (.v 1))),(5,.junk),(6,.junk),(7,.junk)],[],1,[]⟩ .z))) .z)))
def ir1p0:IR:=(.op .lenL [.v 1] (.op (.bin .lss false) [.v 4,.v 5] (.ite (.v 6) (.op (.row 1) [.v 1,.v 4] (.op .lenL [.v 7] (.op (.bin .add false) [.v 3,.v 8] (.op (.bin .add false) [.v 4,.c (.int .i64 1)] (.jump 0 [.v 9,.v 10]))))) (.op (.bin .leq false) [.v 3,.c (.int .i64 400)] (.ret [.v 7])))))
def ir1:IR:=(.op .lenL [.v 1] (.loop 2 [.v 2,.c (.int .i64 0)] ir1p0))
theorem rd1:readFn T SG sigs 3000 sg1 Tryz.f16 an1=some ir1:=by kernel_rfl
def an2:Ann:=(.s none .z (.s none .z (.s none (.s none .z (.b (.l ⟨3,[(0,.junk),(3,(.atm (.v 0))),(10,.junk),(11,.junk)],[(2,⟨false,true,22,1,.v 1,[]⟩),(3,⟨false,true,22,1,.v 2,[]⟩)],4,[⟨some (0,0,1),0,22,1⟩,⟨some (1,0,1),0,22,1⟩]⟩ .z))) .z)))
def ir2p0:IR:=(.op (.bin .lss false) [.v 0,.c (.int .i64 4)] (.ite (.v 3) (.op (.mk 1 4) [.c (.int .i64 0),.c (.int .i64 1),.c (.int .i64 2),.c (.int .i64 3)] (.op (.mk 1 1) [.v 4] (.op (.app 1 24) [.v 1,.v 5] (.op (.bin .and false) [.v 0,.c (.int .i64 1)] (.op (.bin .and false) [.v 0,.c (.int .i64 2)] (.op (.mk 1 4) [.c (.int .i64 0),.v 7,.v 8,.v 0] (.op (.mk 1 1) [.v 9] (.op (.app 1 24) [.v 2,.v 10] (.op (.bin .add false) [.v 0,.c (.int .i64 1)] (.jump 0 [.v 12,.v 6,.v 11])))))))))) (.call 8 6 true [] [.c (.int .i64 1),.v 1,.c (.int .i64 1)] (.call 8 6 true [] [.c (.int .i64 1),.v 2,.c (.int .i64 1)] (.op (.bin .eql false) [.v 9,.c (.int .i64 0)] (.ite (.v 16) (.op (.bin .eql false) [.v 15,.c (.int .i64 0)] (.ite (.v 17) (.ite (.v 8) (.ite (.v 14) (.op (.eqs false 4) [.v 4,.v 5,.v 6,.v 7,.c (.int .i64 2),.c (.int .i64 1),.c (.int .i64 3),.c (.int .i64 0)] (.ite (.v 18) (.op (.eqs false 4) [.v 10,.v 11,.v 12,.v 13,.c (.int .i64 3),.c (.int .i64 0),.c (.int .i64 1),.c (.int .i64 0)] (.ret [.v 19])) (.ret [.c (.bool false)]))) (.ret [.c (.bool false)])) (.ret [.c (.bool false)])) (.ret [.c (.bool false)]))) (.ret [.c (.bool false)])))))))
def ir2:IR:=(.loop 3 [.c (.int .i64 0),.c (.sl []),.c (.sl [])] ir2p0)
theorem rd2:readFn T SG sigs 3000 sg2 Tryz.f14 an2=some ir2:=by kernel_rfl
def an3:Ann:=.z
def ir3:IR:=(.op .lenL [.v 0] (.op .min [.v 1,.c (.int .i64 2000)] (.op (.subL 1) [.v 0,.c (.int .i64 0),.v 2] (.ret [.v 3,.c (.int .i64 0)]))))
theorem rd3:readFn T SG sigs 3000 sg3 Tryz.f5 an3=some ir3:=by kernel_rfl
def an4:Ann:=.z
def ir4:IR:=(.op (.bin .sub false) [.v 1,.v 0] (.op (.bin .add false) [.v 4,.c (.int .i64 1)] (.call 19 3 false [] [.v 5,.v 2,.v 3] (.op (.bin .add false) [.v 0,.v 6] (.ret [.v 9,.v 7,.v 8])))))
theorem rd4:readFn T SG sigs 3000 sg4 Tryz.f6 an4=some ir4:=by kernel_rfl
def an5:Ann:=(.s none .z (.s none .z (.s none (.s none .z (.c (.s none (.s none .z (.b (.l ⟨4,[(2,.junk),(6,.junk),(8,(.atm (.v 0))),(10,.junk),(11,.junk)],[(0,⟨false,false,56,2,.c (.sl []),[[.atm (.v 1),.atm (.v 2)]]⟩),(1,⟨false,true,60,2,.v 3,[]⟩)],2,[⟨none,7,60,2⟩]⟩ .z))) .z) .z)) (.s none (.s none .z (.b (.l ⟨4,[(2,.junk),(6,.junk),(9,(.atm (.v 0))),(10,.junk),(11,.junk)],[(0,⟨false,false,56,2,.c (.sl []),[[.atm (.v 1),.atm (.v 2)]]⟩),(1,⟨false,true,60,2,.v 3,[]⟩)],2,[⟨none,7,60,2⟩]⟩ .z))) .z))))
def ir5p0:IR:=(.op (.conv .u64) [.v 0] (.op (.bin .shl false) [.c (.int .i64 1),.v 9] (.op (.bin .lss false) [.v 5,.v 10] (.ite (.v 11) (.op (.conv .u64) [.v 5] (.op (.bin .shl false) [.c (.int .i64 1),.v 12] (.call 20 4 false [] [.v 0,.v 13,.v 6,.v 7] (.op (.mk 2 1) [.v 14,.v 15] (.op (.app 2 48) [.v 8,.v 18] (.op (.bin .add false) [.v 5,.c (.int .i64 1)] (.jump 0 [.v 20,.v 16,.v 17,.v 19]))))))) (.ret [.v 8,.v 6,.v 7])))))
def ir5p1:IR:=(.op (.conv .u64) [.v 0] (.op (.bin .shl false) [.c (.int .u64 1),.v 9] (.op (.bin .shl false) [.c (.int .i64 1),.v 10] (.op (.bin .lss false) [.v 5,.v 11] (.ite (.v 12) (.call 20 4 false [] [.v 0,.v 5,.v 6,.v 7] (.op (.mk 2 1) [.v 13,.v 14] (.op (.app 2 48) [.v 8,.v 17] (.op (.bin .add false) [.v 5,.c (.int .i64 1)] (.jump 0 [.v 19,.v 15,.v 16,.v 18]))))) (.ret [.v 8,.v 6,.v 7]))))))
def ir5:IR:=(.op (.bin .eql false) [.v 1,.c (.int .i64 3)] (.ite (.v 4) (.loop 4 [.c (.int .i64 0),.v 2,.v 3,.c (.sl [])] ir5p0) (.loop 4 [.c (.int .i64 0),.v 2,.v 3,.c (.sl [])] ir5p1)))
theorem rd5:readFn T SG sigs 3000 sg5 Tryz.f7 an5=some ir5:=by kernel_rfl
def an6:Ann:=(.s none .z (.s none .z (.s none .z (.s none .z (.s none .z (.s none .z (.s (some ⟨1,[(5,.junk),(6,.junk),(7,.junk),(11,(.atm (.v 0))),(19,.junk),(20,.junk),(21,.junk),(22,.junk),(23,.junk),(24,.junk),(25,.junk),(27,.junk),(28,.junk),(29,.junk),(31,.junk),(32,.junk),(33,.junk),(34,.junk),(35,.junk),(36,.junk),(37,.junk),(38,.junk),(39,.junk),(40,.junk),(41,.junk),(42,.junk)],[],2,[]⟩) .z (.s none (.s none .z (.b (.l ⟨1,[(12,(.atm (.v 0)))],[],2,[]⟩ (.s none .z (.s none (.b (.s (some ⟨1,[(46,.junk),(47,.junk),(48,.junk),(49,.junk),(70,(.atm (.v 0)))],[],2,[]⟩) .z .z)) .z))))) (.s none (.s (some ⟨1,[(11,.junk),(12,.junk),(46,.junk),(47,.junk),(48,.junk),(49,.junk),(79,(.atm (.v 0)))],[],2,[]⟩) .z .z) (.s none (.s none .z (.b (.l ⟨1,[(13,(.atm (.v 0))),(79,.junk)],[],2,[]⟩ (.s none .z (.s none (.b (.s none .z (.s (some ⟨1,[(14,(.atm (.v 0))),(81,.junk),(82,.junk),(83,.junk),(84,.junk),(87,.junk)],[],2,[]⟩) .z (.s (some ⟨1,[(14,.junk),(104,(.atm (.v 0)))],[],2,[]⟩) .z .z)))) .z))))) (.s none (.s none .z (.b (.l ⟨2,[(13,.junk),(15,(.atm (.v 0))),(81,.junk),(82,.junk),(83,.junk),(84,.junk)],[(2,⟨false,true,22,1,.v 1,[]⟩)],3,[⟨some (1,0,1),0,22,1⟩]⟩ (.s none .z (.s none (.b (.s none .z (.s none (.s none .z (.b (.l ⟨2,[(17,(.atm (.v 0))),(106,.junk),(107,.junk),(108,.junk),(111,.junk),(112,.junk)],[(3,⟨false,true,3,1,.v 1,[]⟩)],4,[]⟩ (.s none .z (.s (some ⟨1,[(113,.junk),(114,.junk),(115,.junk)],[(3,⟨false,true,3,1,.v 0,[]⟩)],4,[]⟩) (.b (.s none .z (.b (.s none .z (.c .z (.s none .z (.c .z (.s none .z (.b (.l ⟨2,[(18,(.atm (.v 0))),(113,.junk),(114,.junk),(115,.junk),(118,.junk),(144,.junk),(145,.junk),(157,.junk),(158,.junk)],[(3,⟨false,true,3,1,.v 1,[]⟩)],4,[]⟩ (.s none .z (.s (some ⟨1,[(119,.junk),(120,.junk),(121,.junk)],[(3,⟨false,true,3,1,.v 0,[]⟩)],4,[]⟩) .z .z)))))))))))) .z))))) .z))) .z))))) .z)))))))))))
def ir6p0:IR:=(.ite (.v 16) (.ret [.c (.int .i64 0),.c (.sl []),.c (.int .i64 1)]) (.op (.bin .add false) [.v 13,.c (.int .i64 1)] (.jump 0 [.v 17])))
def ir6p1:IR:=(.ite (.v 21) (.ret [.c (.int .i64 0),.c (.sl []),.c (.int .i64 7)]) (.op (.bin .add false) [.v 17,.c (.int .i64 1)] (.jump 1 [.v 22])))
def ir6p2:IR:=(.letj 1 (.op (.bin .neq false) [.v 20,.c (.int .i64 0)] (.ite (.v 21) (.op (.row 2) [.v 0,.v 17] (.call 25 1 false [] [.v 22,.v 23] (.op (.conv .u64) [.v 20] (.op (.bin .neq false) [.v 24,.v 25] (.jump 2 [.v 26]))))) (.jump 2 [.c (.bool false)]))) ir6p1)
def ir6p3:IR:=(.op (.bin .add false) [.v 24,.c (.int .i64 1)] (.jump 3 [.v 28,.v 27]))
def ir6p4:IR:=(.op (.bin .add false) [.v 29,.c (.int .i64 1)] (.jump 5 [.v 33,.v 32]))
def ir6p5:IR:=(.op (.bin .lss false) [.v 29,.v 10] (.ite (.v 31) (.letj 1 (.op (.conv .u64) [.v 29] (.op (.bin .shr false) [.v 20,.v 32] (.op (.bin .and false) [.v 33,.c (.int .i64 1)] (.op (.bin .eql false) [.v 34,.c (.int .i64 1)] (.ite (.v 35) (.op .chk [.v 30,.v 24] (.op (.get 0 1) [.v 30,.v 24] (.op (.row 2) [.v 0,.v 29] (.op (.conv .u64) [.v 24] (.call 26 1 false [] [.v 37,.v 38,.v 39] (.op (.conv .i64) [.v 40] (.op (.bin .or false) [.v 36,.v 41] (.op .chk [.v 30,.v 24] (.op (.set 0 1) [.v 30,.v 24,.v 42] (.jump 6 [.v 43])))))))))) (.jump 6 [.v 30])))))) ir6p4) (.jump 4 [.v 30])))
def ir6p6:IR:=(.op (.bin .lss false) [.v 24,.v 11] (.ite (.v 26) (.letj 1 (.op (.bin .eql false) [.v 1,.c (.int .i64 1)] (.ite (.v 27) (.op (.row 2) [.v 0,.v 20] (.op (.conv .u64) [.v 24] (.call 26 1 false [] [.v 28,.v 29,.v 30] (.op (.conv .i64) [.v 31] (.op .chk [.v 25,.v 24] (.op (.set 0 1) [.v 25,.v 24,.v 32] (.jump 4 [.v 33]))))))) (.op (.bin .eql false) [.v 1,.c (.int .i64 2)] (.ite (.v 28) (.op (.row 2) [.v 0,.v 20] (.op (.bin .sub false) [.v 11,.c (.int .i64 1)] (.op (.bin .sub false) [.v 31,.v 24] (.op (.conv .u64) [.v 32] (.call 26 1 false [] [.v 29,.v 30,.v 33] (.op (.conv .i64) [.v 34] (.op (.bin .or false) [.v 20,.v 35] (.op .chk [.v 25,.v 24] (.op (.set 0 1) [.v 25,.v 24,.v 36] (.jump 4 [.v 37])))))))))) (.loop 2 [.c (.int .i64 0),.v 25] ir6p5))))) ir6p3) (.op (.mk 1 1) [.v 25] (.op (.app 1 24) [.v 21,.v 27] (.op (.bin .add false) [.v 20,.c (.int .i64 1)] (.jump 2 [.v 29,.v 28]))))))
def ir6p7:IR:=(.op (.bin .lss false) [.v 20,.v 11] (.ite (.v 22) (.op (.mkL 8 [(.int .i64 0)]) [.v 11] (.loop 2 [.c (.int .i64 0),.v 23] ir6p6)) (.ret [.v 9,.v 21,.c (.int .i64 0)])))
def ir6p8:IR:=(.op .lenL [.v 0] (.op (.bin .lss false) [.v 17,.v 18] (.ite (.v 19) (.letj 1 (.op (.bin .eql false) [.v 1,.c (.int .i64 3)] (.ite (.v 20) (.op (.conv .u64) [.v 17] (.op (.bin .shl false) [.c (.int .i64 1),.v 21] (.jump 2 [.v 22]))) (.jump 2 [.v 17]))) ir6p2) (.loop 2 [.c (.int .i64 0),.c (.sl [])] ir6p7))))
def ir6p9:IR:=(.ite (.v 16) (.ret [.c (.int .i64 0),.c (.sl []),.c (.int .i64 1)]) (.loop 1 [.c (.int .i64 0)] ir6p8))
def ir6p10:IR:=(.op .lenL [.v 0] (.op (.bin .lss false) [.v 13,.v 14] (.ite (.v 15) (.letj 1 (.op (.row 2) [.v 0,.v 13] (.call 23 1 false [] [.v 16,.v 17] (.op (.bin .neq false) [.v 18,.c (.int .i64 0)] (.ite (.v 19) (.jump 1 [.c (.bool true)]) (.op (.row 2) [.v 0,.v 13] (.op (.row 2) [.v 0,.c (.int .i64 0)] (.call 24 1 false [] [.v 20,.v 22] (.op (.un .not) [.v 24] (.jump 1 [.v 25]))))))))) ir6p0) (.letj 1 (.op (.bin .eql false) [.v 11,.c (.int .i64 0)] (.ite (.v 16) (.jump 1 [.c (.bool true)]) (.op .lenL [.v 0] (.op (.bin .neq false) [.v 17,.v 12] (.jump 1 [.v 18]))))) ir6p9))))
def ir6p11:IR:=(.loop 1 [.c (.int .i64 0)] ir6p10)
def ir6:IR:=(.call 21 2 false [] [.v 1] (.op (.bin .eql false) [.v 2,.c (.int .i64 0)] (.ite (.v 4) (.ret [.c (.int .i64 0),.c (.sl []),.c (.int .i64 4)]) (.op .lenL [.v 0] (.op (.bin .eql false) [.v 5,.c (.int .i64 0)] (.ite (.v 6) (.ret [.c (.int .i64 0),.c (.sl []),.c (.int .i64 1)]) (.op (.row 2) [.v 0,.c (.int .i64 0)] (.op .lenL [.v 7] (.call 22 2 false [] [.v 9,.c (.sl [])] (.letj 1 (.op (.bin .eql false) [.v 1,.c (.int .i64 3)] (.ite (.v 12) (.jump 0 [.v 10]) (.jump 0 [.v 11]))) ir6p11))))))))))
theorem rd6:readFn T SG sigs 3000 sg6 Tryz.f17 an6=some ir6:=by kernel_rfl
def an9:Ann:=.z
def ir9:IR:=(.call 27 1 false [] [.v 0,.v 1,.v 2] (.op (.bin .neq false) [.v 3,.c (.int .i64 0)] (.ite (.v 4) (.ret [.c (.int .i64 0),.c (.int .i64 0),.c (.int .i64 0),.c (.int .i64 0),.c (.bool false),.v 3]) (.call 28 5 false [] [.v 0,.v 1,.v 2] (.op (.bin .gtr false) [.v 5,.c (.int .i64 0)] (.ret [.v 5,.v 6,.v 7,.v 8,.v 10,.c (.int .i64 0)]))))))
theorem rd9:readFn T SG sigs 3000 sg9 Tryz.f18 an9=some ir9:=by kernel_rfl
def an11:Ann:=.z
def ir11:IR:=(.call 27 1 false [] [.v 0,.v 1,.v 2] (.op (.bin .neq false) [.v 3,.c (.int .i64 0)] (.ite (.v 4) (.ret [.c (.sl []),.v 3]) (.call 28 5 false [] [.v 0,.v 1,.v 2] (.ret [.v 9,.c (.int .i64 0)])))))
theorem rd11:readFn T SG sigs 3000 sg11 Tryz.f20 an11=some ir11:=by kernel_rfl
def an12:Ann:=(.s none .z (.s none .z (.s none (.s none .z (.b (.l ⟨1,[(4,.junk),(6,.junk),(7,.junk),(8,.junk),(9,.junk),(10,.junk),(11,.junk),(13,(.atm (.v 0)))],[],0,[]⟩ .z))) .z)))
def ir12p0:IR:=(.op (.bin .lss false) [.v 6,.v 5] (.ite (.v 7) (.op (.row 1) [.v 0,.v 6] (.op (.row 1) [.v 1,.v 6] (.op (.bin .neq false) [.v 8,.v 9] (.ite (.v 10) (.ret [.c (.bool false)]) (.op (.bin .add false) [.v 6,.c (.int .i64 1)] (.jump 0 [.v 11])))))) (.ret [.c (.bool true)])))
def ir12:IR:=(.op .lenL [.v 0] (.op .lenL [.v 1] (.op (.bin .neq false) [.v 2,.v 3] (.ite (.v 4) (.ret [.c (.bool false)]) (.op .lenL [.v 0] (.loop 1 [.c (.int .i64 0)] ir12p0))))))
theorem rd12:readFn T SG sigs 3000 sg12 Tryz.f21 an12=some ir12:=by kernel_rfl
def an13:Ann:=(.s none .z (.s none .z (.s none (.s none .z (.b (.l ⟨2,[(2,.junk),(4,(.atm (.v 0)))],[(0,⟨false,true,9,1,.v 1,[]⟩)],1,[⟨none,3,9,1⟩]⟩ .z))) .z)))
def ir13p0:IR:=(.op (.bin .lss false) [.v 1,.v 0] (.ite (.v 3) (.op (.bin .add false) [.c (.int .i64 97),.v 1] (.op (.conv .u8) [.v 4] (.op (.mk 1 1) [.v 5] (.op .toS [.v 6] (.op (.mk 1 1) [.v 7] (.op (.app 1 16) [.v 2,.v 8] (.op (.bin .add false) [.v 1,.c (.int .i64 1)] (.jump 0 [.v 10,.v 9])))))))) (.ret [.v 2])))
def ir13:IR:=(.loop 2 [.c (.int .i64 0),.c (.sl [])] ir13p0)
theorem rd13:readFn T SG sigs 3000 sg13 Tryz.f11 an13=some ir13:=by kernel_rfl
def an14:Ann:=(.s none .z (.s none (.b (.s none .z (.c .z (.s (some ⟨1,[(0,.junk),(6,.junk),(7,.junk),(21,.junk),(22,.junk),(23,.junk),(24,.junk),(25,(.atm (.v 0)))],[],1,[]⟩) .z (.c .z (.s (some ⟨1,[(25,.junk),(32,(.atm (.v 0)))],[],1,[]⟩) .z .z)))))) (.s none .z (.s none .z (.s none (.s none .z (.b (.l ⟨2,[(32,.junk),(43,.junk),(44,.junk),(45,.junk),(46,.junk),(47,.junk),(50,(.atm (.v 0)))],[(1,⟨false,true,60,2,.v 1,[]⟩)],2,[⟨none,9,60,2⟩]⟩ (.s none .z (.s none .z (.s none (.b (.s none .z (.s none .z (.s none .z (.s none (.s none .z (.b (.l ⟨3,[(13,(.atm (.v 0))),(14,(.atm (.v 1))),(51,.junk),(52,.junk),(53,.junk),(54,.junk),(55,.junk),(56,.junk),(57,.junk)],[(2,⟨false,true,3,1,.v 2,[]⟩)],3,[]⟩ (.s none .z (.s none (.b (.s none .z (.s (some ⟨1,[(15,(.atm (.v 0))),(58,.junk),(59,.junk),(62,.junk),(63,.junk),(64,.junk),(65,.junk)],[],3,[]⟩) .z (.s none .z (.s none (.s none .z (.b (.l ⟨2,[(74,.junk),(75,.junk),(76,.junk),(77,.junk),(78,.junk),(79,.junk),(81,(.atm (.v 0)))],[(2,⟨false,true,3,1,.v 1,[]⟩)],3,[]⟩ (.s none .z (.s none .z (.s (some ⟨1,[(82,.junk)],[(2,⟨false,true,3,1,.v 0,[]⟩)],3,[]⟩) .z .z)))))) .z))))) .z))))) .z))))) .z)))))) (.s none .z (.s none (.s (some ⟨1,[(1,.junk),(2,.junk),(3,.junk),(8,.junk),(19,.junk),(20,.junk),(48,.junk),(49,.junk),(50,.junk),(51,.junk),(111,.junk),(112,.junk),(113,.junk),(114,.junk),(115,.junk),(116,.junk),(126,(.atm (.v 0)))],[],3,[]⟩) .z .z) .z)))))))
def ir14p0:IR:=(.op (.bin .add false) [.v 26,.c (.int .i64 1)] (.jump 2 [.v 30,.v 29]))
def ir14p1:IR:=(.op (.bin .lss false) [.v 26,.v 25] (.ite (.v 28) (.letj 1 (.op (.bin .shr false) [.v 23,.v 26] (.op (.bin .and false) [.v 29,.c (.int .i64 1)] (.op (.bin .eql false) [.v 30,.c (.int .i64 1)] (.ite (.v 31) (.op .chk [.v 27,.v 26] (.op (.set 0 1) [.v 27,.v 26,.v 18] (.jump 3 [.v 32]))) (.jump 3 [.v 27]))))) ir14p0) (.op (.bin .andNot false) [.v 17,.v 23] (.op (.bin .add false) [.v 18,.c (.int .i64 1)] (.jump 1 [.v 29,.v 30,.v 27])))))
def ir14p2:IR:=(.op (.bin .and false) [.v 22,.v 17] (.op (.bin .eql false) [.v 23,.c (.int .i64 0)] (.ite (.v 24) (.ret [.c (.sl []),.c (.int .i64 9)]) (.op .lenL [.v 19] (.loop 2 [.c (.int .i64 0),.v 19] ir14p1)))))
def ir14p3:IR:=(.op (.bin .neq false) [.v 17,.c (.int .i64 0)] (.ite (.v 20) (.op (.row 1) [.v 14,.v 17] (.letj 1 (.op (.bin .eql false) [.v 2,.c (.int .i64 2)] (.ite (.v 22) (.op (.bin .andNot false) [.v 9,.v 17] (.op (.row 1) [.v 14,.v 23] (.jump 2 [.v 24]))) (.jump 2 [.v 21]))) ir14p2)) (.call 31 3 false [] [.v 3,.v 19] (.op (.bin .neq false) [.v 23,.c (.int .i64 0)] (.ite (.v 24) (.ret [.c (.sl []),.v 23]) (.op (.mk 2 1) [.v 21,.v 22] (.op (.app 2 48) [.v 12,.v 25] (.op (.bin .add false) [.v 11,.c (.int .i64 1)] (.jump 0 [.v 27,.v 26])))))))))
def ir14p4:IR:=(.ite (.v 17) (.ret [.c (.sl []),.c (.int .i64 9)]) (.ret [.v 12,.c (.int .i64 0)]))
def ir14p5:IR:=(.op (.bin .lss false) [.v 11,.v 10] (.ite (.v 13) (.op (.row 1) [.v 1,.v 11] (.call 30 1 false [] [.v 0,.v 1] (.op (.mkL 8 [(.int .i64 0)]) [.v 15] (.loop 3 [.v 9,.c (.int .i64 0),.v 16] ir14p3)))) (.call 32 3 false [] [.v 12,.v 2] (.letj 1 (.op (.bin .neq false) [.v 16,.c (.int .i64 0)] (.ite (.v 17) (.jump 1 [.c (.bool true)]) (.call 33 1 false [] [.v 15,.v 1] (.ite (.v 18) (.op (.un .not) [.c (.bool true)] (.jump 1 [.c (.bool false)])) (.op (.un .not) [.c (.bool false)] (.jump 1 [.c (.bool true)])))))) ir14p4))))
def ir14p6:IR:=(.ite (.v 7) (.ret [.c (.sl []),.c (.int .i64 1)]) (.op .lenL [.v 1] (.op (.bin .sub false) [.v 8,.c (.int .i64 1)] (.op .lenL [.v 1] (.loop 2 [.c (.int .i64 0),.c (.sl [])] ir14p5)))))
def ir14p7:IR:=(.ite (.v 6) (.ret [.c (.sl []),.c (.int .i64 4)]) (.letj 1 (.call 29 1 false [] [.v 3] (.op (.un .not) [.v 7] (.ite (.v 8) (.jump 0 [.c (.bool true)]) (.op .lenL [.v 3] (.op (.bin .neq false) [.v 9,.v 0] (.jump 0 [.v 10])))))) ir14p6))
def ir14:IR:=(.call 17 1 false [] [.v 0,.v 1] (.op (.bin .neq false) [.v 4,.c (.int .i64 0)] (.ite (.v 5) (.ret [.c (.sl []),.c (.int .i64 1)]) (.letj 1 (.op (.bin .neq false) [.v 2,.c (.int .i64 1)] (.ite (.v 6) (.op (.bin .neq false) [.v 2,.c (.int .i64 2)] (.jump 0 [.v 7])) (.jump 0 [.c (.bool false)]))) ir14p7))))
theorem rd14:readFn T SG sigs 3000 sg14 Tryz.f10 an14=some ir14:=by kernel_rfl
def an15:Ann:=(.s none .z (.s none .z (.s none (.s (some ⟨1,[(0,.junk),(6,.junk),(7,.junk),(8,.junk),(13,.junk),(14,.junk),(15,.junk),(16,.junk),(23,(.atm (.v 0)))],[],1,[]⟩) .z .z) (.s none (.s (some ⟨1,[(23,.junk),(33,(.atm (.v 0)))],[],1,[]⟩) .z .z) (.s none .z (.s none (.s none .z (.b (.l ⟨2,[(10,(.atm (.v 0))),(33,.junk)],[(1,⟨false,true,60,2,.v 1,[]⟩)],2,[⟨none,9,60,2⟩]⟩ .z))) (.s none (.s none .z (.s (some ⟨1,[(1,.junk),(2,.junk),(3,.junk),(10,.junk),(11,.junk),(12,.junk),(34,.junk),(35,.junk),(36,.junk),(37,.junk),(38,.junk),(49,.junk),(50,.junk),(51,.junk),(52,.junk),(53,.junk),(54,.junk),(62,(.atm (.v 0)))],[],3,[]⟩) .z .z)) .z)))))))
def ir15p0:IR:=(.ite (.v 15) (.ret [.c (.sl []),.c (.int .i64 9)]) (.ret [.v 9,.c (.int .i64 0)]))
def ir15p1:IR:=(.op .lenL [.v 1] (.op (.bin .lss false) [.v 8,.v 10] (.ite (.v 11) (.call 35 2 false [] [.v 0,.v 1,.v 2,.v 8,.v 3] (.op (.mk 2 1) [.v 12,.v 13] (.op (.app 2 48) [.v 9,.v 14] (.op (.bin .add false) [.v 8,.c (.int .i64 1)] (.jump 0 [.v 16,.v 15]))))) (.call 6 3 false [] [.v 9,.v 2] (.letj 1 (.op (.bin .neq false) [.v 14,.c (.int .i64 0)] (.ite (.v 15) (.jump 1 [.c (.bool true)]) (.call 36 1 false [] [.v 12,.v 13,.v 0,.v 1] (.ite (.v 16) (.op (.un .not) [.c (.bool true)] (.jump 1 [.c (.bool false)])) (.op (.un .not) [.c (.bool false)] (.jump 1 [.c (.bool true)])))))) ir15p0)))))
def ir15p2:IR:=(.ite (.v 7) (.ret [.c (.sl []),.c (.int .i64 1)]) (.loop 2 [.c (.int .i64 0),.c (.sl [])] ir15p1))
def ir15p3:IR:=(.ite (.v 6) (.ret [.c (.sl []),.c (.int .i64 4)]) (.letj 1 (.call 34 1 false [] [.v 3] (.op (.un .not) [.v 7] (.ite (.v 8) (.jump 0 [.c (.bool true)]) (.op .lenL [.v 3] (.op (.bin .neq false) [.v 9,.v 0] (.jump 0 [.v 10])))))) ir15p2))
def ir15:IR:=(.call 18 1 false [] [.v 0,.v 1] (.op (.bin .neq false) [.v 4,.c (.int .i64 0)] (.ite (.v 5) (.ret [.c (.sl []),.v 4]) (.letj 1 (.op (.bin .neq false) [.v 2,.c (.int .i64 1)] (.ite (.v 6) (.op (.bin .neq false) [.v 2,.c (.int .i64 2)] (.jump 0 [.v 7])) (.jump 0 [.c (.bool false)]))) ir15p3))))
theorem rd15:readFn T SG sigs 3000 sg15 Tryz.f22 an15=some ir15:=by kernel_rfl
def an16:Ann:=(.s none .z (.s none .z (.s none (.s none .z (.b (.l ⟨1,[(4,.junk),(5,(.atm (.v 0))),(6,.junk),(7,.junk),(8,.junk),(9,.junk),(10,.junk)],[],0,[]⟩ .z))) .z)))
def ir16p0:IR:=(.op .lenL [.v 0] (.op (.bin .lss false) [.v 5,.v 6] (.ite (.v 7) (.op (.row 2) [.v 0,.v 5] (.op (.row 2) [.v 1,.v 5] (.call 37 1 false [] [.v 8,.v 9,.v 10,.v 11] (.op (.un .not) [.v 12] (.ite (.v 13) (.ret [.c (.bool false)]) (.op (.bin .add false) [.v 5,.c (.int .i64 1)] (.jump 0 [.v 14]))))))) (.ret [.c (.bool true)]))))
def ir16:IR:=(.op .lenL [.v 0] (.op .lenL [.v 1] (.op (.bin .neq false) [.v 2,.v 3] (.ite (.v 4) (.ret [.c (.bool false)]) (.loop 1 [.c (.int .i64 0)] ir16p0)))))
theorem rd16:readFn T SG sigs 3000 sg16 Tryz.f12 an16=some ir16:=by kernel_rfl
def an17:Ann:=(.s none .z (.s none (.s (some ⟨1,[(0,.junk),(2,.junk),(12,(.atm (.v 0)))],[],1,[]⟩) .z .z) (.s none .z (.s none .z (.s none (.s (some ⟨2,[(1,.junk),(3,.junk),(4,.junk),(12,.junk),(13,.junk),(14,.junk),(15,.junk),(16,.junk),(27,(.atm (.v 0)))],[(1,⟨false,false,3,1,.c (.sl []),[[.atm (.v 1)]]⟩)],3,[]⟩) .z .z) .z)))))
def ir17p0:IR:=(.ite (.v 5) (.ret [.c (.int .i64 1)]) (.ret [.c (.int .i64 0)]))
def ir17p1:IR:=(.ite (.v 2) (.ret [.c (.int .i64 1)]) (.call 30 1 false [] [.v 0,.v 1] (.op (.bin .shl false) [.c (.int .i64 1),.v 3] (.letj 2 (.op .lenL [.v 1] (.op (.bin .neq false) [.v 5,.v 4] (.ite (.v 6) (.jump 0 [.c (.bool true),.v 4]) (.call 38 2 false [] [.v 1,.v 4] (.jump 0 [.v 7,.v 8]))))) ir17p0))))
def ir17:IR:=(.letj 1 (.op (.bin .neq false) [.v 0,.c (.int .i64 1)] (.ite (.v 2) (.op (.bin .neq false) [.v 0,.c (.int .i64 2)] (.jump 0 [.v 3])) (.jump 0 [.c (.bool false)]))) ir17p1)
theorem rd17:readFn T SG sigs 3000 sg17 Tryz.f23 an17=some ir17:=by kernel_rfl
def an18:Ann:=(.s none .z (.s none .z (.s none (.s (some ⟨1,[(0,.junk),(2,.junk),(3,.junk),(7,.junk),(8,.junk),(9,.junk),(10,.junk),(11,.junk),(20,(.atm (.v 0)))],[],1,[]⟩) .z .z) (.s none (.s none .z (.b (.l ⟨1,[(5,(.atm (.v 0))),(20,.junk)],[],1,[]⟩ (.s none .z (.s none (.b (.s none .z (.s none .z (.b (.l ⟨1,[(6,(.atm (.v 0))),(21,.junk),(22,.junk),(23,.junk),(26,.junk),(27,.junk),(28,.junk),(29,.junk),(30,.junk),(31,.junk),(32,.junk),(33,.junk)],[],1,[]⟩ (.s none .z (.s none (.b (.s (some ⟨1,[(34,.junk),(35,.junk),(36,.junk),(59,(.atm (.v 0)))],[],1,[]⟩) .z .z)) .z))))))) .z))))) .z))))
def ir18p0:IR:=(.ite (.v 12) (.ret [.c (.int .i64 1)]) (.op (.bin .add false) [.v 10,.c (.int .i64 1)] (.jump 1 [.v 13])))
def ir18p1:IR:=(.op (.bin .lss false) [.v 10,.v 3] (.ite (.v 11) (.letj 1 (.op (.row 1) [.v 1,.v 5] (.op (.row 1) [.v 12,.v 10] (.op (.bin .lss false) [.v 13,.c (.int .i64 0)] (.ite (.v 14) (.jump 2 [.c (.bool true)]) (.op (.row 1) [.v 1,.v 5] (.op (.row 1) [.v 15,.v 10] (.op (.bin .geq false) [.v 16,.v 3] (.jump 2 [.v 17])))))))) ir18p0) (.op (.bin .add false) [.v 5,.c (.int .i64 1)] (.jump 0 [.v 12]))))
def ir18p2:IR:=(.op (.bin .lss false) [.v 5,.v 3] (.ite (.v 6) (.op (.row 1) [.v 1,.v 5] (.op .lenL [.v 7] (.op (.bin .neq false) [.v 8,.v 3] (.ite (.v 9) (.ret [.c (.int .i64 1)]) (.loop 1 [.c (.int .i64 0)] ir18p1))))) (.ret [.c (.int .i64 0)])))
def ir18p3:IR:=(.ite (.v 4) (.ret [.c (.int .i64 1)]) (.loop 1 [.c (.int .i64 0)] ir18p2))
def ir18:IR:=(.call 22 2 false [] [.v 0,.v 1] (.letj 1 (.op (.bin .eql false) [.v 3,.c (.int .i64 0)] (.ite (.v 4) (.jump 0 [.c (.bool true)]) (.op .lenL [.v 1] (.op (.bin .neq false) [.v 5,.v 3] (.jump 0 [.v 6]))))) ir18p3))
theorem rd18:readFn T SG sigs 3000 sg18 Tryz.f24 an18=some ir18:=by kernel_rfl
def an19:Ann:=.z
def ir19:IR:=(.call 39 3 false [] [.v 1,.v 2] (.call 40 1 false [] [.v 3,.v 0] (.ret [.v 6,.v 4,.v 5])))
theorem rd19:readFn T SG sigs 3000 sg19 Tryz.f25 an19=some ir19:=by kernel_rfl
def an20:Ann:=(.s none .z (.s none .z (.s none (.s none .z (.b (.l ⟨4,[(8,(.atm (.v 0))),(11,.junk),(12,.junk),(13,.junk),(14,.junk)],[(0,⟨false,false,56,2,.c (.sl []),[[.atm (.v 1),.atm (.v 2)]]⟩),(2,⟨false,true,3,1,.v 3,[]⟩)],3,[]⟩ (.s none .z (.s (some ⟨3,[(15,.junk),(16,.junk),(17,.junk),(18,.junk)],[(0,⟨false,false,56,2,.c (.sl []),[[.atm (.v 0),.atm (.v 1)]]⟩),(2,⟨false,true,3,1,.v 2,[]⟩)],3,[]⟩) .z .z))))) .z)))
def ir20p0:IR:=(.op (.bin .add false) [.v 7,.c (.int .i64 1)] (.jump 0 [.v 16,.v 13,.v 14,.v 15]))
def ir20p1:IR:=(.op .lenL [.v 10] (.op (.bin .lss false) [.v 7,.v 11] (.ite (.v 12) (.letj 3 (.call 19 3 false [] [.c (.int .i64 4),.v 8,.v 9] (.op (.bin .add false) [.c (.int .i64 1),.v 13] (.op .chk [.v 10,.v 7] (.op (.set 0 1) [.v 10,.v 7,.v 16] (.op (.conv .u64) [.v 7] (.op (.bin .shr false) [.v 1,.v 18] (.op (.bin .and false) [.v 19,.c (.int .i64 1)] (.op (.bin .eql false) [.v 20,.c (.int .i64 1)] (.ite (.v 21) (.op .chk [.v 17,.v 7] (.op (.set 0 1) [.v 17,.v 7,.c (.int .i64 0)] (.jump 1 [.v 14,.v 15,.v 22]))) (.jump 1 [.v 14,.v 15,.v 17])))))))))) ir20p0) (.call 13 1 false [] [.v 0] (.call 41 3 false [] [.v 13,.v 10] (.ret [.v 14,.v 15,.v 8,.v 9]))))))
def ir20:IR:=(.op (.conv .u64) [.v 0] (.op (.bin .shl false) [.c (.int .i64 1),.v 4] (.op (.mkL 8 [(.int .i64 0)]) [.v 5] (.loop 4 [.c (.int .i64 0),.v 2,.v 3,.v 6] ir20p1))))
theorem rd20:readFn T SG sigs 3000 sg20 Tryz.f26 an20=some ir20:=by kernel_rfl
def an21:Ann:=.z
def ir21:IR:=(.op (.bin .eql false) [.v 0,.c (.int .i64 1)] (.ite (.v 1) (.ret [.c (.int .i64 5),.c (.int .i64 3)]) (.op (.bin .eql false) [.v 0,.c (.int .i64 2)] (.ite (.v 2) (.ret [.c (.int .i64 6),.c (.int .i64 4)]) (.op (.bin .eql false) [.v 0,.c (.int .i64 3)] (.ite (.v 3) (.ret [.c (.int .i64 7),.c (.int .i64 3)]) (.ret [.c (.int .i64 0),.c (.int .i64 0)])))))))
theorem rd21:readFn T SG sigs 3000 sg21 Tryz.f40 an21=some ir21:=by kernel_rfl
def an22:Ann:=.z
def ir22:IR:=(.op (.bin .eql false) [.v 0,.c (.int .i64 1)] (.ite (.v 2) (.ret [.c (.int .i64 2),.c (.int .i64 4)]) (.op (.bin .eql false) [.v 0,.c (.int .i64 2)] (.ite (.v 3) (.ret [.c (.int .i64 4),.c (.int .i64 16)]) (.ret [.c (.int .i64 0),.c (.int .i64 0)])))))
theorem rd22:readFn T SG sigs 3000 sg22 Tryz.f41 an22=some ir22:=by kernel_rfl
def an23:Ann:=(.s none .z (.s none (.s (some ⟨1,[(0,.junk),(2,.junk),(20,(.atm (.v 0)))],[],1,[]⟩) .z .z) (.s none .z (.s none (.s none .z (.b (.l ⟨2,[(3,(.atm (.v 0))),(4,(.atm (.v 1))),(20,.junk)],[],1,[]⟩ (.s none .z (.s none (.b (.s none (.s (some ⟨1,[(21,.junk),(22,.junk),(23,.junk),(24,.junk),(25,.junk),(44,(.atm (.v 0)))],[],1,[]⟩) .z .z) .z)) .z))))) (.s none (.s none .z (.b (.l ⟨1,[(4,.junk),(5,(.atm (.v 0))),(21,.junk),(22,.junk),(23,.junk),(24,.junk),(25,.junk)],[],1,[]⟩ .z))) .z)))))
def ir23p0:IR:=(.ite (.v 7) (.ret [.c (.int .i64 8)]) (.op (.row 1) [.v 1,.v 4] (.op .max [.v 3,.v 8] (.op (.bin .add false) [.v 4,.c (.int .i64 1)] (.jump 0 [.v 9,.v 10])))))
def ir23p1:IR:=(.op (.bin .lss false) [.v 7,.v 3] (.ite (.v 8) (.call 42 1 false [] [.v 1,.v 7] (.op (.un .not) [.v 9] (.ite (.v 10) (.ret [.c (.int .i64 8)]) (.op (.bin .add false) [.v 7,.c (.int .i64 1)] (.jump 1 [.v 11]))))) (.ret [.c (.int .i64 0)])))
def ir23p2:IR:=(.op .lenL [.v 1] (.op (.bin .lss false) [.v 4,.v 5] (.ite (.v 6) (.letj 1 (.op (.row 1) [.v 1,.v 4] (.op (.bin .lss false) [.v 7,.c (.int .i64 0)] (.ite (.v 8) (.jump 1 [.c (.bool true)]) (.op (.row 1) [.v 1,.v 4] (.op .lenL [.v 1] (.op (.bin .geq false) [.v 9,.v 10] (.jump 1 [.v 11]))))))) ir23p0) (.loop 1 [.c (.int .i64 0)] ir23p1))))
def ir23p3:IR:=(.ite (.v 2) (.ret [.c (.int .i64 1)]) (.loop 2 [.c (.int .i64 0),.c (.int .i64 0)] ir23p2))
def ir23:IR:=(.letj 1 (.call 34 1 false [] [.v 0] (.op (.un .not) [.v 2] (.ite (.v 3) (.jump 0 [.c (.bool true)]) (.op .lenL [.v 1] (.op .lenL [.v 0] (.op (.conv .u64) [.v 5] (.op (.bin .shl false) [.c (.int .i64 1),.v 6] (.op (.bin .neq false) [.v 4,.v 7] (.jump 0 [.v 8]))))))))) ir23p3)
theorem rd23:readFn T SG sigs 3000 sg23 Tryz.f42 an23=some ir23:=by kernel_rfl
def an24:Ann:=(.s none .z (.s none .z (.s none (.s none .z (.b (.l ⟨1,[(4,.junk),(5,(.atm (.v 0))),(6,.junk),(7,.junk),(8,.junk),(9,.junk),(10,.junk)],[],0,[]⟩ .z))) .z)))
def ir24p0:IR:=(.op .lenL [.v 0] (.op (.bin .lss false) [.v 5,.v 6] (.ite (.v 7) (.op (.row 1) [.v 0,.v 5] (.op (.row 1) [.v 1,.v 5] (.op (.bin .neq false) [.v 8,.v 9] (.ite (.v 10) (.ret [.c (.bool false)]) (.op (.bin .add false) [.v 5,.c (.int .i64 1)] (.jump 0 [.v 11])))))) (.ret [.c (.bool true)]))))
def ir24:IR:=(.op .lenL [.v 0] (.op .lenL [.v 1] (.op (.bin .neq false) [.v 2,.v 3] (.ite (.v 4) (.ret [.c (.bool false)]) (.loop 1 [.c (.int .i64 0)] ir24p0)))))
theorem rd24:readFn T SG sigs 3000 sg24 Tryz.f43 an24=some ir24:=by kernel_rfl
def an25:Ann:=.z
def ir25:IR:=(.call 43 1 false [] [.v 0] (.call 26 1 false [] [.v 0,.v 1,.v 2] (.ret [.v 3])))
theorem rd25:readFn T SG sigs 3000 sg25 Tryz.f44 an25=some ir25:=by kernel_rfl
def an26:Ann:=(.s none .z (.s none .z (.s none (.s none .z (.b (.l ⟨1,[(0,.junk),(4,.junk),(5,(.atm (.v 0))),(7,.junk),(8,.junk),(9,.junk)],[],1,[]⟩ .z))) .z)))
def ir26p0:IR:=(.call 44 1 false [] [.v 0,.v 1] (.op (.bin .leq false) [.v 5,.v 6] (.ite (.v 7) (.call 45 1 false [] [.v 0,.v 1,.v 5,.v 5] (.op (.bin .and false) [.v 8,.v 2] (.op (.bin .neq false) [.v 9,.c (.int .u64 0)] (.ite (.v 10) (.ret [.v 9]) (.op (.bin .add false) [.v 5,.c (.int .i64 1)] (.jump 0 [.v 11])))))) (.ret [.c (.int .u64 0)]))))
def ir26:IR:=(.call 23 1 false [] [.v 0,.v 1] (.op (.bin .neq false) [.v 3,.c (.int .i64 0)] (.ite (.v 4) (.ret [.c (.int .u64 0)]) (.loop 1 [.c (.int .i64 0)] ir26p0))))
theorem rd26:readFn T SG sigs 3000 sg26 Tryz.f45 an26=some ir26:=by kernel_rfl
def an27:Ann:=.z
def ir27:IR:=(.call 18 1 false [] [.v 0,.v 1] (.op (.bin .neq false) [.v 3,.c (.int .i64 0)] (.ite (.v 4) (.ret [.v 3]) (.call 21 2 false [] [.v 2] (.op (.bin .eql false) [.v 5,.c (.int .i64 0)] (.ite (.v 7) (.ret [.c (.int .i64 4)]) (.ret [.c (.int .i64 0)])))))))
theorem rd27:readFn T SG sigs 3000 sg27 Tryz.f46 an27=some ir27:=by kernel_rfl
def an28:Ann:=(.s none .z (.s none .z (.s none .z (.s none .z (.s none (.s none .z (.b (.l ⟨6,[(0,.junk),(5,.junk),(10,(.atm (.v 0))),(14,.junk),(15,.junk),(16,.junk),(17,.junk),(18,.junk),(19,.junk),(20,.junk)],[(2,⟨false,false,35,4,.c (.sl []),[[.atm (.v 1),.atm (.v 2),.atm (.v 3),.atm (.v 4)]]⟩),(3,⟨false,true,3,1,.v 5,[]⟩)],4,[]⟩ (.s none .z (.s none (.b (.s none .z (.b (.l ⟨6,[(11,(.atm (.v 0))),(21,.junk),(22,.junk),(23,.junk)],[(2,⟨false,false,35,4,.c (.sl []),[[.atm (.v 1),.atm (.v 2),.atm (.v 3),.atm (.v 4)]]⟩),(3,⟨false,true,3,1,.v 5,[]⟩)],4,[]⟩ (.s none .z (.s none (.b (.s none .z (.b (.l ⟨6,[(12,(.atm (.v 0))),(26,.junk),(27,.junk),(28,.junk),(29,.junk),(30,.junk)],[(2,⟨false,false,35,4,.c (.sl []),[[.atm (.v 1),.atm (.v 2),.atm (.v 3),.atm (.v 4)]]⟩),(3,⟨false,true,3,1,.v 5,[]⟩)],4,[]⟩ (.s none .z (.s none (.b (.s none .z (.b (.l ⟨6,[(13,(.atm (.v 0))),(33,.junk),(34,.junk),(35,.junk),(36,.junk),(37,.junk)],[(2,⟨false,false,35,4,.c (.sl []),[[.atm (.v 1),.atm (.v 2),.atm (.v 3),.atm (.v 4)]]⟩),(3,⟨false,true,3,1,.v 5,[]⟩)],4,[]⟩ (.s none .z (.s (some ⟨5,[(40,.junk),(41,.junk),(42,.junk),(43,.junk),(44,.junk)],[(2,⟨false,false,35,4,.c (.sl []),[[.atm (.v 0),.atm (.v 1),.atm (.v 2),.atm (.v 3)]]⟩),(3,⟨false,true,3,1,.v 4,[]⟩)],4,[]⟩) (.b (.s none (.s (some ⟨1,[(40,.junk),(41,.junk),(42,.junk),(43,.junk),(44,.junk),(62,(.atm (.v 0)))],[],4,[]⟩) .z .z) (.s (some ⟨4,[(62,.junk)],[(2,⟨false,false,35,4,.c (.sl []),[[.atm (.v 0),.atm (.v 1),.atm (.v 2),.atm (.v 3)]]⟩)],4,[]⟩) .z .z))) .z)))))) .z)))))) .z)))))) .z))))) .z)))))
def ir28p0:IR:=(.op (.bin .add false) [.v 29,.c (.int .i64 1)] (.jump 3 [.v 42,.v 37,.v 38,.v 39,.v 40,.v 41]))
def ir28p1:IR:=(.op (.bin .sub false) [.v 6,.c (.int .i64 1)] (.op .chk [.v 34,.v 42] (.op (.get 0 1) [.v 34,.v 42] (.op (.bin .add false) [.v 43,.c (.int .i64 1)] (.op .chk [.v 34,.v 42] (.op (.set 0 1) [.v 34,.v 42,.v 44] (.jump 4 [.v 38,.v 39,.v 40,.v 41,.v 45])))))))
def ir28p2:IR:=(.ite (.v 37) (.jump 4 [.v 30,.v 31,.v 32,.v 33,.v 34]) (.letj 4 (.op (.bin .eql false) [.v 30,.c (.int .i64 0)] (.ite (.v 38) (.jump 5 [.v 6,.v 13,.v 21,.v 29]) (.jump 5 [.v 30,.v 31,.v 32,.v 33]))) ir28p1))
def ir28p3:IR:=(.op .lenL [.v 1] (.op (.bin .lss false) [.v 29,.v 35] (.ite (.v 36) (.letj 5 (.letj 1 (.op (.bin .leq false) [.v 6,.v 4] (.ite (.v 37) (.op (.bin .gtr false) [.v 29,.c (.int .i64 0)] (.ite (.v 38) (.jump 5 [.c (.bool true)]) (.call 46 1 false [] [.v 0,.v 1,.v 2,.v 6,.v 13,.v 21,.v 29] (.jump 5 [.v 39])))) (.call 46 1 false [] [.v 0,.v 1,.v 2,.v 6,.v 13,.v 21,.v 29] (.jump 5 [.v 38])))) ir28p2) ir28p0) (.op (.bin .add false) [.v 21,.c (.int .i64 1)] (.jump 2 [.v 37,.v 30,.v 31,.v 32,.v 33,.v 34])))))
def ir28p4:IR:=(.op .lenL [.v 1] (.op (.bin .lss false) [.v 21,.v 27] (.ite (.v 28) (.loop 6 [.c (.int .i64 0),.v 22,.v 23,.v 24,.v 25,.v 26] ir28p3) (.op (.bin .add false) [.v 13,.c (.int .i64 1)] (.jump 1 [.v 29,.v 22,.v 23,.v 24,.v 25,.v 26])))))
def ir28p5:IR:=(.op .lenL [.v 1] (.op (.bin .lss false) [.v 13,.v 19] (.ite (.v 20) (.loop 6 [.c (.int .i64 0),.v 14,.v 15,.v 16,.v 17,.v 18] ir28p4) (.op (.bin .add false) [.v 6,.c (.int .i64 1)] (.jump 0 [.v 21,.v 14,.v 15,.v 16,.v 17,.v 18])))))
def ir28p6:IR:=(.op (.bin .leq false) [.v 6,.v 3] (.ite (.v 12) (.loop 6 [.c (.int .i64 0),.v 7,.v 8,.v 9,.v 10,.v 11] ir28p5) (.ret [.v 7,.v 8,.v 9,.v 10,.v 11])))
def ir28:IR:=(.call 21 2 false [] [.v 2] (.op (.mkL 8 [(.int .i64 0)]) [.v 3] (.loop 6 [.c (.int .i64 1),.c (.int .i64 0),.c (.int .i64 0),.c (.int .i64 0),.c (.int .i64 0),.v 5] ir28p6)))
theorem rd28:readFn T SG sigs 3000 sg28 Tryz.f47 an28=some ir28:=by kernel_rfl
def an29:Ann:=(.s none .z (.s none .z (.s none (.s none .z (.b (.l ⟨1,[(2,.junk),(5,.junk),(6,.junk),(7,.junk),(10,(.atm (.v 0)))],[],0,[]⟩ (.s none .z (.s none .z (.s none (.b (.s none .z (.s (some ⟨1,[(3,.junk),(4,.junk),(11,.junk),(12,.junk),(13,.junk),(14,.junk),(30,(.atm (.v 0)))],[],0,[]⟩) .z .z))) .z)))))) .z)))
def ir29p0:IR:=(.ite (.v 7) (.ret [.c (.bool false)]) (.op (.bin .add false) [.v 4,.c (.int .i64 1)] (.jump 0 [.v 8])))
def ir29p1:IR:=(.op (.bin .lss false) [.v 4,.v 3] (.ite (.v 5) (.op (.row 1) [.v 0,.v 4] (.letj 1 (.call 47 1 false [] [.v 6] (.op (.un .not) [.v 7] (.ite (.v 8) (.jump 1 [.c (.bool true)]) (.op (.bin .gtr false) [.v 4,.c (.int .i64 0)] (.ite (.v 9) (.op (.bin .sub false) [.v 4,.c (.int .i64 1)] (.op (.row 1) [.v 0,.v 10] (.op (.bin .geq false) [.v 11,.v 6] (.jump 1 [.v 12])))) (.jump 1 [.c (.bool false)])))))) ir29p0)) (.ret [.c (.bool true)])))
def ir29:IR:=(.op .lenL [.v 0] (.op (.bin .gtr false) [.v 1,.c (.int .i64 6)] (.ite (.v 2) (.ret [.c (.bool false)]) (.op .lenL [.v 0] (.loop 1 [.c (.int .i64 0)] ir29p1)))))
theorem rd29:readFn T SG sigs 3000 sg29 Tryz.f33 an29=some ir29:=by kernel_rfl
def an30:Ann:=.z
def ir30:IR:=(.op (.bin .shl false) [.c (.int .i64 1),.v 0] (.ret [.v 2]))
theorem rd30:readFn T SG sigs 3000 sg30 Tryz.f34 an30=some ir30:=by kernel_rfl
def an31:Ann:=(.s none .z (.s none (.s (some ⟨1,[(5,.junk),(22,(.atm (.v 0)))],[],1,[]⟩) .z .z) (.s none .z (.s none .z (.s none (.s none .z (.b (.l ⟨2,[(0,.junk),(1,.junk),(22,.junk),(24,.junk),(25,.junk),(27,.junk),(28,.junk),(29,.junk),(30,.junk),(33,(.atm (.v 0)))],[(5,⟨false,true,3,1,.v 1,[]⟩)],6,[⟨some (4,0,1),0,3,1⟩]⟩ .z))) .z)))))
def ir31p0:IR:=(.op (.bin .lss false) [.v 10,.v 9] (.ite (.v 12) (.op (.row 1) [.v 1,.v 10] (.call 52 2 false [] [.v 6,.v 13] (.op (.mk 1 1) [.v 14] (.op (.app 1 8) [.v 11,.v 16] (.op (.bin .add false) [.v 10,.c (.int .i64 1)] (.jump 0 [.v 18,.v 17])))))) (.ret [.v 8,.v 11,.c (.int .i64 0)])))
def ir31p1:IR:=(.ite (.v 2) (.ret [.c (.sl []),.c (.sl []),.c (.int .i64 1)]) (.call 48 1 false [] [.v 1] (.call 49 2 false [0] [.v 3] (.call 50 2 false [1] [.v 4] (.call 51 1 false [0] [.v 0] (.op .lenL [.v 1] (.loop 2 [.c (.int .i64 0),.c (.sl [])] ir31p0)))))))
def ir31:IR:=(.letj 1 (.call 29 1 false [] [.v 0] (.op (.un .not) [.v 2] (.ite (.v 3) (.jump 0 [.c (.bool true)]) (.op .lenL [.v 1] (.op .lenL [.v 0] (.op (.bin .shl false) [.c (.int .i64 1),.v 5] (.op (.bin .neq false) [.v 4,.v 6] (.jump 0 [.v 7])))))))) ir31p1)
theorem rd31:readFn T SG sigs 3000 sg31 Tryz.f35 an31=some ir31:=by kernel_rfl
def an32:Ann:=(.s none .z (.s none .z (.s none .z (.s none .z (.s none .z (.s none (.s none .z (.b (.l ⟨2,[(5,.junk),(6,.junk),(15,.junk),(16,.junk),(17,.junk),(18,.junk),(19,.junk),(22,.junk),(23,.junk),(24,.junk),(25,.junk),(26,.junk),(27,.junk),(28,.junk),(29,.junk),(30,.junk),(31,.junk),(32,.junk),(33,.junk),(35,(.atm (.v 0)))],[(2,⟨false,true,22,1,.v 1,[]⟩)],3,[⟨some (1,0,1),0,22,1⟩]⟩ (.s none .z (.s none .z (.s none (.b (.s none .z (.s none .z (.s none (.s none .z (.b (.l ⟨2,[(36,.junk),(37,.junk),(38,.junk),(39,.junk),(40,.junk),(42,(.atm (.v 0)))],[(3,⟨false,true,3,1,.v 1,[]⟩)],4,[]⟩ (.s none .z (.s none .z (.s (some ⟨1,[(43,.junk)],[(3,⟨false,true,3,1,.v 0,[]⟩)],4,[]⟩) (.b (.s none .z (.s none .z (.b (.s none .z (.c .z (.s none .z (.c .z (.s none .z (.b (.l ⟨2,[(43,.junk),(44,.junk),(45,.junk),(48,(.atm (.v 0))),(69,.junk),(70,.junk),(81,.junk),(82,.junk)],[(3,⟨false,true,3,1,.v 1,[]⟩)],4,[]⟩ (.s none .z (.s none .z (.s (some ⟨3,[(49,.junk)],[(3,⟨false,true,3,1,.v 0,[]⟩),(4,⟨false,false,60,2,.c (.sl []),[[.atm (.v 1),.atm (.v 2)]]⟩)],5,[]⟩) .z .z)))))))))))))) .z)))))) .z)))) .z)))))) .z))))))
def ir32p0:IR:=(.op (.bin .add false) [.v 16,.c (.int .i64 1)] (.jump 1 [.v 20,.v 19]))
def ir32p1:IR:=(.op (.bin .add false) [.v 22,.c (.int .i64 1)] (.jump 3 [.v 28,.v 25]))
def ir32p2:IR:=(.op (.bin .lss false) [.v 22,.v 21] (.ite (.v 24) (.letj 3 (.op (.row 2) [.v 0,.v 22] (.op (.bin .shr false) [.v 11,.v 22] (.op (.bin .and false) [.v 27,.c (.int .i64 1)] (.op (.bin .eql false) [.v 28,.c (.int .i64 1)] (.ite (.v 29) (.op .chk [.v 23,.v 16] (.op (.get 0 1) [.v 23,.v 16] (.call 54 1 false [] [.v 25,.v 26,.v 16] (.op (.bin .or false) [.v 30,.v 31] (.op .chk [.v 23,.v 16] (.op (.set 0 1) [.v 23,.v 16,.v 32] (.jump 4 [.v 33,.v 25,.v 26]))))))) (.jump 4 [.v 23,.v 25,.v 26])))))) ir32p1) (.jump 2 [.v 23])))
def ir32p3:IR:=(.op (.bin .lss false) [.v 16,.v 15] (.ite (.v 18) (.letj 1 (.op (.bin .eql false) [.v 1,.c (.int .i64 1)] (.ite (.v 19) (.op (.row 2) [.v 0,.v 11] (.call 54 1 false [] [.v 20,.v 21,.v 16] (.op .chk [.v 17,.v 16] (.op (.set 0 1) [.v 17,.v 16,.v 22] (.jump 2 [.v 23]))))) (.op (.bin .eql false) [.v 1,.c (.int .i64 2)] (.ite (.v 20) (.op (.row 2) [.v 0,.v 11] (.op (.bin .sub false) [.v 10,.c (.int .i64 1)] (.op (.bin .sub false) [.v 23,.v 16] (.call 54 1 false [] [.v 21,.v 22,.v 24] (.op (.bin .or false) [.v 11,.v 25] (.op .chk [.v 17,.v 16] (.op (.set 0 1) [.v 17,.v 16,.v 26] (.jump 2 [.v 27])))))))) (.op .lenL [.v 0] (.loop 2 [.c (.int .i64 0),.v 17] ir32p2)))))) ir32p0) (.op (.mk 1 1) [.v 17] (.op (.app 1 24) [.v 12,.v 19] (.op (.bin .add false) [.v 11,.c (.int .i64 1)] (.jump 0 [.v 21,.v 20]))))))
def ir32p4:IR:=(.op (.bin .lss false) [.v 11,.v 10] (.ite (.v 13) (.op (.mkL 8 [(.int .i64 0)]) [.v 10] (.op .lenL [.v 14] (.loop 2 [.c (.int .i64 0),.v 14] ir32p3))) (.ret [.v 6,.v 12,.c (.int .i64 0)])))
def ir32:IR:=(.call 53 1 false [] [.v 0,.v 1] (.op (.bin .neq false) [.v 2,.c (.int .i64 0)] (.ite (.v 3) (.ret [.c (.int .i64 0),.c (.sl []),.v 2]) (.op (.row 2) [.v 0,.c (.int .i64 0)] (.op .lenL [.v 4] (.op (.row 2) [.v 0,.c (.int .i64 0)] (.op .lenL [.v 8] (.op (.bin .shl false) [.c (.int .i64 1),.v 9] (.loop 2 [.c (.int .i64 0),.c (.sl [])] ir32p4)))))))))
theorem rd32:readFn T SG sigs 3000 sg32 Tryz.f8 an32=some ir32:=by kernel_rfl
def an33:Ann:=(.s none .z (.s none .z (.s none (.s none .z (.b (.l ⟨1,[(0,.junk),(6,.junk),(10,.junk),(11,.junk),(12,.junk),(13,.junk),(14,.junk),(17,(.atm (.v 0)))],[],0,[]⟩ .z))) .z)))
def ir33p0:IR:=(.op (.bin .lss false) [.v 6,.v 5] (.ite (.v 7) (.op (.row 1) [.v 0,.v 6] (.op (.row 1) [.v 1,.v 6] (.call 55 1 false [] [.v 8,.v 9] (.op (.un .not) [.v 10] (.ite (.v 11) (.ret [.c (.bool false)]) (.op (.bin .add false) [.v 6,.c (.int .i64 1)] (.jump 0 [.v 12]))))))) (.ret [.c (.bool true)])))
def ir33:IR:=(.op .lenL [.v 0] (.op .lenL [.v 1] (.op (.bin .neq false) [.v 2,.v 3] (.ite (.v 4) (.ret [.c (.bool false)]) (.op .lenL [.v 0] (.loop 1 [.c (.int .i64 0)] ir33p0))))))
theorem rd33:readFn T SG sigs 3000 sg33 Tryz.f36 an33=some ir33:=by kernel_rfl
def an34:Ann:=(.s none .z (.s none (.s none .z (.b (.l ⟨1,[(2,.junk),(3,(.atm (.v 0)))],[],0,[]⟩ (.s none .z (.s none (.b (.s (some ⟨1,[(4,.junk),(5,.junk),(6,.junk),(7,.junk),(31,(.atm (.v 0)))],[],0,[]⟩) .z .z)) .z))))) .z))
def ir34p0:IR:=(.ite (.v 4) (.ret [.c (.bool false)]) (.op (.bin .add false) [.v 1,.c (.int .i64 1)] (.jump 0 [.v 5])))
def ir34p1:IR:=(.op .lenL [.v 0] (.op (.bin .lss false) [.v 1,.v 2] (.ite (.v 3) (.letj 1 (.op (.row 1) [.v 0,.v 1] (.call 56 1 false [] [.v 4] (.op (.un .not) [.v 5] (.ite (.v 6) (.jump 1 [.c (.bool true)]) (.op (.bin .gtr false) [.v 1,.c (.int .i64 0)] (.ite (.v 7) (.op (.row 1) [.v 0,.v 1] (.op (.bin .sub false) [.v 1,.c (.int .i64 1)] (.op (.row 1) [.v 0,.v 9] (.op (.bin .leq false) [.v 8,.v 10] (.jump 1 [.v 11]))))) (.jump 1 [.c (.bool false)]))))))) ir34p0) (.op .lenL [.v 0] (.op (.bin .leq false) [.v 4,.c (.int .i64 6)] (.ret [.v 5]))))))
def ir34:IR:=(.loop 1 [.c (.int .i64 0)] ir34p1)
theorem rd34:readFn T SG sigs 3000 sg34 Tryz.f48 an34=some ir34:=by kernel_rfl
def an35:Ann:=(.s none .z (.s none .z (.s none .z (.s none (.s none .z (.b (.l ⟨2,[(0,.junk),(12,(.atm (.v 0))),(18,.junk),(19,.junk),(20,.junk),(21,.junk),(22,.junk),(23,.junk),(24,.junk)],[(2,⟨false,true,3,1,.v 1,[]⟩)],3,[]⟩ (.s none .z (.s none (.b (.s none .z (.b (.l ⟨2,[(13,(.atm (.v 0))),(25,.junk),(26,.junk),(27,.junk)],[(2,⟨false,true,3,1,.v 1,[]⟩)],3,[]⟩ (.s none .z (.s (some ⟨1,[(30,.junk),(31,.junk),(32,.junk)],[(2,⟨false,true,3,1,.v 0,[]⟩)],3,[]⟩) (.b (.s none .z (.s none .z (.s (some ⟨1,[(15,(.atm (.v 0))),(30,.junk),(31,.junk),(32,.junk),(35,.junk),(36,.junk),(37,.junk),(38,.junk),(39,.junk),(40,.junk),(41,.junk),(42,.junk),(43,.junk),(44,.junk),(45,.junk),(46,.junk),(47,.junk),(48,.junk),(49,.junk)],[],3,[]⟩) .z (.s (some ⟨1,[(14,.junk),(15,.junk),(76,(.atm (.v 0)))],[],3,[]⟩) .z .z))))) .z)))))) .z))))) .z))))
def ir35p0:IR:=(.op (.bin .add false) [.v 11,.c (.int .i64 1)] (.jump 1 [.v 15,.v 14]))
def ir35p1:IR:=(.ite (.v 22) (.op .chk [.v 12,.v 8] (.op (.get 0 1) [.v 12,.v 8] (.op (.bin .add false) [.v 23,.c (.int .i64 1)] (.op .chk [.v 12,.v 8] (.op (.set 0 1) [.v 12,.v 8,.v 24] (.jump 2 [.v 25])))))) (.jump 2 [.v 12]))
def ir35p2:IR:=(.letj 1 (.op (.bin .and false) [.v 21,.v 18] (.op (.conv .u64) [.v 11] (.op (.bin .shl false) [.c (.int .i64 1),.v 23] (.op (.bin .eql false) [.v 22,.v 24] (.ite (.v 25) (.op (.bin .neq false) [.v 8,.v 11] (.jump 3 [.v 26])) (.jump 3 [.c (.bool false)])))))) ir35p1)
def ir35p3:IR:=(.op (.bin .lss false) [.v 11,.v 5] (.ite (.v 13) (.letj 1 (.op (.conv .u64) [.v 8] (.op (.bin .shl false) [.c (.int .i64 1),.v 14] (.op (.conv .u64) [.v 11] (.op (.bin .shl false) [.c (.int .i64 1),.v 16] (.op (.bin .or false) [.v 15,.v 17] (.op (.row 1) [.v 1,.v 3] (.op (.row 1) [.v 19,.v 18] (.letj 1 (.op (.bin .eql false) [.v 2,.c (.int .i64 2)] (.ite (.v 21) (.op (.row 1) [.v 1,.v 3] (.op (.bin .sub false) [.v 6,.c (.int .i64 1)] (.op (.bin .sub false) [.v 23,.v 18] (.op (.row 1) [.v 22,.v 24] (.op (.bin .and false) [.v 25,.v 18] (.jump 3 [.v 26])))))) (.jump 3 [.v 20]))) ir35p2)))))))) ir35p0) (.op (.bin .add false) [.v 8,.c (.int .i64 1)] (.jump 0 [.v 14,.v 12]))))
def ir35p4:IR:=(.op (.bin .lss false) [.v 8,.v 5] (.ite (.v 10) (.loop 2 [.c (.int .i64 0),.v 9] ir35p3) (.call 41 3 false [] [.v 4,.v 9] (.ret [.v 11,.v 12]))))
def ir35:IR:=(.call 22 2 false [] [.v 0,.v 1] (.op (.mkL 8 [(.int .i64 0)]) [.v 5] (.loop 2 [.c (.int .i64 0),.v 7] ir35p4)))
theorem rd35:readFn T SG sigs 3000 sg35 Tryz.f49 an35=some ir35:=by kernel_rfl
def an36:Ann:=(.s none .z (.s none (.s (some ⟨1,[(0,.junk),(1,.junk),(4,.junk),(20,(.atm (.v 0)))],[],2,[]⟩) .z .z) (.s none (.s none .z (.b (.l ⟨1,[(5,(.atm (.v 0))),(20,.junk)],[],2,[]⟩ (.s none .z (.s none (.b (.s none .z (.s none .z (.b (.l ⟨1,[(6,(.atm (.v 0))),(21,.junk),(22,.junk),(23,.junk),(24,.junk),(25,.junk),(28,.junk),(29,.junk),(30,.junk),(31,.junk),(32,.junk),(33,.junk),(34,.junk),(35,.junk),(36,.junk),(37,.junk),(38,.junk),(39,.junk),(40,.junk)],[],2,[]⟩ .z))))) .z))))) .z)))
def ir36p0:IR:=(.op (.row 1) [.v 1,.v 5] (.op .lenL [.v 14] (.op (.bin .lss false) [.v 13,.v 15] (.ite (.v 16) (.op (.row 1) [.v 1,.v 5] (.op (.row 1) [.v 17,.v 13] (.op (.row 1) [.v 3,.v 5] (.op (.row 1) [.v 19,.v 13] (.op (.bin .neq false) [.v 18,.v 20] (.ite (.v 21) (.ret [.c (.bool false)]) (.op (.bin .add false) [.v 13,.c (.int .i64 1)] (.jump 1 [.v 22])))))))) (.op (.bin .add false) [.v 5,.c (.int .i64 1)] (.jump 0 [.v 17]))))))
def ir36p1:IR:=(.op .lenL [.v 1] (.op (.bin .lss false) [.v 5,.v 6] (.ite (.v 7) (.op (.row 1) [.v 1,.v 5] (.op .lenL [.v 8] (.op (.row 1) [.v 3,.v 5] (.op .lenL [.v 10] (.op (.bin .neq false) [.v 9,.v 11] (.ite (.v 12) (.ret [.c (.bool false)]) (.loop 1 [.c (.int .i64 0)] ir36p0))))))) (.ret [.c (.bool true)]))))
def ir36p2:IR:=(.ite (.v 4) (.ret [.c (.bool false)]) (.loop 1 [.c (.int .i64 0)] ir36p1))
def ir36:IR:=(.letj 1 (.op (.bin .neq false) [.v 0,.v 2] (.ite (.v 4) (.jump 0 [.c (.bool true)]) (.op .lenL [.v 1] (.op .lenL [.v 3] (.op (.bin .neq false) [.v 5,.v 6] (.jump 0 [.v 7])))))) ir36p2)
theorem rd36:readFn T SG sigs 3000 sg36 Tryz.f15 an36=some ir36:=by kernel_rfl
def an37:Ann:=.z
def ir37:IR:=(.call 24 1 false [] [.v 0,.v 2] (.ite (.v 4) (.call 12 1 false [] [.v 1,.v 3] (.ret [.v 5])) (.ret [.c (.bool false)])))
theorem rd37:readFn T SG sigs 3000 sg37 Tryz.f39 an37=some ir37:=by kernel_rfl
def an38:Ann:=.z
def ir38:IR:=(.call 57 2 false [] [.v 0,.v 1] (.op (.bin .geq false) [.v 2,.c (.int .i64 0)] (.ret [.v 4,.v 3])))
theorem rd38:readFn T SG sigs 3000 sg38 Tryz.f51 an38=some ir38:=by kernel_rfl
def an39:Ann:=.z
def ir39:IR:=(.op .lenL [.v 0] (.op (.bin .geq false) [.v 1,.v 2] (.ite (.v 3) (.ret [.c (.int .i64 0),.v 0,.v 1]) (.op (.bin .add false) [.v 1,.c (.int .i64 1)] (.op (.bin .sub false) [.v 4,.c (.int .i64 1)] (.op (.row 1) [.v 0,.v 5] (.ret [.v 6,.v 0,.v 4])))))))
theorem rd39:readFn T SG sigs 3000 sg39 Tryz.f55 an39=some ir39:=by kernel_rfl
def an40:Ann:=(.s none .z (.s none .z (.s none .z (.s (some ⟨1,[(0,(.atm (.v 0))),(1,.junk),(4,.junk),(5,.junk),(6,.junk),(7,.junk),(8,.junk),(9,.junk)],[],0,[]⟩) .z .z))))
def ir40p0:IR:=(.ret [.v 4])
def ir40:IR:=(.op (.bin .lss false) [.v 1,.c (.int .i64 1)] (.ite (.v 2) (.ret [.c (.int .i64 0)]) (.op (.bin .rem false) [.v 0,.v 1] (.letj 1 (.op (.bin .lss false) [.v 3,.c (.int .i64 0)] (.ite (.v 4) (.op (.bin .add false) [.v 3,.v 1] (.jump 0 [.v 5])) (.jump 0 [.v 3]))) ir40p0))))
theorem rd40:readFn T SG sigs 3000 sg40 Tryz.f54 an40=some ir40:=by kernel_rfl
def an41:Ann:=(.s none .z (.s none (.s (some ⟨1,[(5,.junk),(21,(.atm (.v 0)))],[],1,[]⟩) .z .z) (.s none .z (.s none (.s none .z (.b (.l ⟨2,[(0,.junk),(7,(.atm (.v 0))),(21,.junk),(24,.junk),(25,.junk),(26,.junk),(27,.junk),(28,.junk),(29,.junk)],[(6,⟨false,true,3,1,.v 1,[]⟩)],9,[]⟩ (.s none .z (.s none (.b (.s none .z (.s none (.s none .z (.b (.l ⟨2,[(9,(.atm (.v 0))),(30,.junk),(31,.junk),(32,.junk),(33,.junk)],[(9,⟨false,true,3,1,.v 1,[]⟩)],10,[⟨none,8,3,1⟩]⟩ (.s none .z (.s (some ⟨1,[(36,.junk),(37,.junk),(38,.junk),(39,.junk)],[(9,⟨false,true,3,1,.v 0,[]⟩)],10,[]⟩) (.b (.s (some ⟨1,[(36,.junk),(37,.junk),(38,.junk),(39,.junk),(59,(.atm (.v 0)))],[],10,[]⟩) .z .z)) .z))))) .z))) .z))))) .z))))
def ir41p0:IR:=(.op (.bin .add false) [.v 10,.c (.int .i64 1)] (.jump 1 [.v 15,.v 14]))
def ir41p1:IR:=(.ite (.v 14) (.op (.row 1) [.v 1,.v 10] (.op (.mk 1 1) [.v 15] (.op (.app 1 8) [.v 11,.v 16] (.jump 2 [.v 17])))) (.jump 2 [.v 11]))
def ir41p2:IR:=(.op .lenL [.v 1] (.op (.bin .lss false) [.v 10,.v 12] (.ite (.v 13) (.letj 1 (.letj 1 (.op (.row 1) [.v 1,.v 10] (.op (.row 1) [.v 1,.v 6] (.op (.bin .lss false) [.v 14,.v 15] (.ite (.v 16) (.op (.row 1) [.v 1,.v 10] (.call 42 1 true [] [.v 11,.v 17] (.op (.un .not) [.v 18] (.jump 3 [.v 19])))) (.jump 3 [.c (.bool false)]))))) ir41p1) ir41p0) (.op .lenL [.v 11] (.op .chk [.v 7,.v 6] (.op (.set 0 1) [.v 7,.v 6,.v 14] (.op (.bin .add false) [.v 6,.c (.int .i64 1)] (.jump 0 [.v 16,.v 15]))))))))
def ir41p3:IR:=(.op .lenL [.v 1] (.op (.bin .lss false) [.v 6,.v 8] (.ite (.v 9) (.loop 2 [.c (.int .i64 0),.c (.sl [])] ir41p2) (.ret [.v 3,.v 7,.c (.int .i64 0)]))))
def ir41p4:IR:=(.ite (.v 2) (.ret [.c (.sl []),.c (.sl []),.c (.int .i64 1)]) (.op (.app 1 16) [.c (.sl []),.v 0] (.op .lenL [.v 1] (.op (.mkL 8 [(.int .i64 0)]) [.v 4] (.loop 2 [.c (.int .i64 0),.v 5] ir41p3)))))
def ir41:IR:=(.letj 1 (.call 34 1 false [] [.v 0] (.op (.un .not) [.v 2] (.ite (.v 3) (.jump 0 [.c (.bool true)]) (.op .lenL [.v 1] (.op .lenL [.v 0] (.op (.conv .u64) [.v 5] (.op (.bin .shl false) [.c (.int .i64 1),.v 6] (.op (.bin .neq false) [.v 4,.v 7] (.jump 0 [.v 8]))))))))) ir41p4)
theorem rd41:readFn T SG sigs 3000 sg41 Tryz.f56 an41=some ir41:=by kernel_rfl
def an42:Ann:=(.s none .z (.s none (.s none .z (.b (.l ⟨1,[(4,.junk),(6,.junk),(8,(.atm (.v 0)))],[],0,[]⟩ .z))) .z))
def ir42p0:IR:=(.op (.bin .lss false) [.v 3,.v 2] (.ite (.v 4) (.op (.row 1) [.v 0,.v 3] (.op (.bin .eql false) [.v 5,.v 1] (.ite (.v 6) (.ret [.c (.bool true)]) (.op (.bin .add false) [.v 3,.c (.int .i64 1)] (.jump 0 [.v 7]))))) (.ret [.c (.bool false)])))
def ir42:IR:=(.op .lenL [.v 0] (.loop 1 [.c (.int .i64 0)] ir42p0))
theorem rd42:readFn T SG sigs 3000 sg42 Tryz.f71 an42=some ir42:=by kernel_rfl
def an43:Ann:=(.s none .z (.s none .z (.s none .z (.s none (.s none .z (.b (.l ⟨2,[(2,.junk),(3,(.atm (.v 0))),(4,(.atm (.v 1))),(5,.junk),(6,.junk),(7,.junk)],[],0,[]⟩ .z))) .z))))
def ir43p0:IR:=(.call 58 1 false [] [.v 0] (.op (.bin .lss false) [.v 4,.v 5] (.ite (.v 6) (.op (.conv .u64) [.v 4] (.op (.bin .shl false) [.c (.int .u64 1),.v 7] (.op (.bin .or false) [.v 3,.v 8] (.op (.bin .add false) [.v 4,.c (.int .i64 1)] (.jump 0 [.v 9,.v 10]))))) (.ret [.v 3]))))
def ir43:IR:=(.call 34 1 false [] [.v 0] (.op (.un .not) [.v 1] (.ite (.v 2) (.ret [.c (.int .u64 0)]) (.loop 2 [.c (.int .u64 0),.c (.int .i64 0)] ir43p0))))
theorem rd43:readFn T SG sigs 3000 sg43 Tryz.f72 an43=some ir43:=by kernel_rfl
def an44:Ann:=(.s none .z (.s none .z (.s none (.s none .z (.b (.l ⟨2,[(0,.junk),(2,.junk),(3,(.atm (.v 0))),(4,(.atm (.v 1)))],[],1,[]⟩ .z))) .z)))
def ir44p0:IR:=(.op .lenL [.v 1] (.op (.bin .lss false) [.v 3,.v 4] (.ite (.v 5) (.op (.row 1) [.v 1,.v 3] (.op .max [.v 2,.v 6] (.op (.bin .add false) [.v 3,.c (.int .i64 1)] (.jump 0 [.v 7,.v 8])))) (.ret [.v 2]))))
def ir44:IR:=(.loop 2 [.c (.int .i64 0),.c (.int .i64 0)] ir44p0)
theorem rd44:readFn T SG sigs 3000 sg44 Tryz.f73 an44=some ir44:=by kernel_rfl
def an45:Ann:=(.s none .z (.s none .z (.s none (.s none .z (.b (.l ⟨2,[(0,.junk),(6,.junk),(7,(.atm (.v 0))),(8,(.atm (.v 1)))],[],1,[]⟩ (.s none .z (.s (some ⟨1,[(7,(.atm (.v 0))),(9,.junk),(10,.junk),(11,.junk),(12,.junk),(13,.junk)],[],1,[]⟩) (.b (.s (some ⟨1,[(9,.junk),(10,.junk),(11,.junk),(12,.junk),(13,.junk),(31,(.atm (.v 0)))],[],1,[]⟩) .z .z)) .z))))) .z)))
def ir45p0:IR:=(.op (.bin .add false) [.v 5,.c (.int .i64 1)] (.jump 0 [.v 8,.v 9]))
def ir45p1:IR:=(.ite (.v 8) (.op (.conv .u64) [.v 5] (.op (.bin .shl false) [.c (.int .u64 1),.v 9] (.op (.bin .or false) [.v 4,.v 10] (.jump 1 [.v 11])))) (.jump 1 [.v 4]))
def ir45p2:IR:=(.op .lenL [.v 1] (.op (.bin .lss false) [.v 5,.v 6] (.ite (.v 7) (.letj 1 (.letj 1 (.op (.row 1) [.v 1,.v 5] (.op (.bin .geq false) [.v 8,.v 2] (.ite (.v 9) (.op (.row 1) [.v 1,.v 5] (.op (.bin .leq false) [.v 10,.v 3] (.jump 2 [.v 11]))) (.jump 2 [.c (.bool false)])))) ir45p1) ir45p0) (.ret [.v 4]))))
def ir45:IR:=(.loop 2 [.c (.int .u64 0),.c (.int .i64 0)] ir45p2)
theorem rd45:readFn T SG sigs 3000 sg45 Tryz.f74 an45=some ir45:=by kernel_rfl
def an46:Ann:=.z
def ir46:IR:=(.op (.bin .eql false) [.v 2,.c (.int .i64 1)] (.ite (.v 7) (.call 59 1 false [] [.v 1,.v 3,.v 4,.v 5,.v 6] (.ret [.v 8])) (.op (.bin .eql false) [.v 2,.c (.int .i64 2)] (.ite (.v 8) (.call 60 1 false [] [.v 1,.v 3,.v 4,.v 5,.v 6] (.ret [.v 9])) (.call 61 1 false [] [.v 1,.v 3,.v 4,.v 5,.v 6] (.ret [.v 9]))))))
theorem rd46:readFn T SG sigs 3000 sg46 Tryz.f75 an46=some ir46:=by kernel_rfl
def an47:Ann:=(.s none .z (.s none (.s (some ⟨1,[(2,.junk),(12,(.atm (.v 0)))],[],0,[]⟩) .z .z) (.s none (.s none .z (.b (.l ⟨1,[(12,.junk),(13,.junk),(15,(.atm (.v 0)))],[],0,[]⟩ (.s none .z (.s none .z (.s (some ⟨0,[(16,.junk)],[],0,[]⟩) (.b (.s none .z (.s none .z (.b (.s (some ⟨1,[(16,.junk),(17,.junk),(18,.junk),(19,.junk),(20,.junk),(21,(.atm (.v 0)))],[],0,[]⟩) .z (.c .z (.s (some ⟨1,[(3,.junk),(4,.junk),(21,.junk),(28,(.atm (.v 0)))],[],0,[]⟩) .z .z))))))) .z)))))) .z)))
def ir47p0:IR:=(.op (.bin .add false) [.v 3,.c (.int .i64 1)] (.jump 0 [.v 5]))
def ir47p1:IR:=(.ite (.v 7) (.jump 1 []) (.ret [.c (.bool false)]))
def ir47p2:IR:=(.ite (.v 6) (.jump 1 []) (.letj 1 (.op (.bin .gtr false) [.v 3,.c (.int .i64 0)] (.ite (.v 7) (.op (.bin .geq false) [.v 5,.c (.int .u8 48)] (.ite (.v 8) (.op (.bin .leq false) [.v 5,.c (.int .u8 57)] (.ite (.v 9) (.jump 2 [.c (.bool true)]) (.op (.bin .eql false) [.v 5,.c (.int .u8 95)] (.jump 2 [.v 10])))) (.op (.bin .eql false) [.v 5,.c (.int .u8 95)] (.jump 2 [.v 9])))) (.jump 2 [.c (.bool false)]))) ir47p1))
def ir47p3:IR:=(.op (.bin .lss false) [.v 3,.v 2] (.ite (.v 4) (.letj 0 (.op .idxS [.v 0,.v 3] (.letj 1 (.op (.bin .geq false) [.v 5,.c (.int .u8 97)] (.ite (.v 6) (.op (.bin .leq false) [.v 5,.c (.int .u8 122)] (.jump 2 [.v 7])) (.jump 2 [.c (.bool false)]))) ir47p2)) ir47p0) (.ret [.c (.bool true)])))
def ir47p4:IR:=(.ite (.v 1) (.ret [.c (.bool false)]) (.op .lenS [.v 0] (.loop 1 [.c (.int .i64 0)] ir47p3)))
def ir47:IR:=(.letj 1 (.op .lenS [.v 0] (.op (.bin .eql false) [.v 1,.c (.int .i64 0)] (.ite (.v 2) (.jump 0 [.c (.bool true)]) (.op .lenS [.v 0] (.op (.bin .gtr false) [.v 3,.c (.int .i64 12)] (.jump 0 [.v 4])))))) ir47p4)
theorem rd47:readFn T SG sigs 3000 sg47 Tryz.f65 an47=some ir47:=by kernel_rfl
def an49:Ann:=.z
def ir49:IR:=(.call 62 2 false [0] [.v 0] (.call 63 1 false [0] [.v 1] (.ret [.v 3,.v 2])))
theorem rd49:readFn T SG sigs 3000 sg49 Tryz.f67 an49=some ir49:=by kernel_rfl
def an52:Ann:=(.s none .z (.s none .z (.s none .z (.s none (.b (.l ⟨2,[(4,.junk),(5,.junk),(7,(.atm (.v 0))),(8,(.atm (.v 1))),(10,.junk),(11,.junk),(12,.junk)],[],0,[]⟩ .z)) .z))))
def ir52p0:IR:=(.op (.bin .lss false) [.v 3,.v 4] (.ite (.v 5) (.op (.bin .add false) [.v 3,.v 4] (.op (.conv .u64) [.v 6] (.op (.bin .shr false) [.v 7,.c (.int .u64 1)] (.op (.conv .i64) [.v 8] (.op (.row 1) [.v 0,.v 9] (.call 64 1 false [] [.v 10,.v 1] (.ite (.v 11) (.op (.bin .add false) [.v 9,.c (.int .i64 1)] (.jump 0 [.v 12,.v 4])) (.jump 0 [.v 3,.v 9])))))))) (.op (.bin .lss false) [.v 3,.v 2] (.ite (.v 6) (.op (.row 1) [.v 0,.v 3] (.op (.bin .eql false) [.v 7,.v 1] (.ite (.v 8) (.ret [.v 3,.c (.bool true)]) (.op (.row 1) [.v 0,.v 3] (.call 65 1 false [] [.v 9] (.ite (.v 10) (.call 65 1 false [] [.v 1] (.ret [.v 3,.v 11])) (.ret [.v 3,.c (.bool false)]))))))) (.ret [.v 3,.c (.bool false)])))))
def ir52:IR:=(.op .lenL [.v 0] (.loop 2 [.c (.int .i64 0),.v 2] ir52p0))
theorem rd52:readFn T SG sigs 3000 sg52 Tryz.f70 an52=some ir52:=by kernel_rfl
def an53:Ann:=(.s none .z (.s none .z (.s none .z (.s none (.s none .z (.b (.l ⟨1,[(4,.junk),(11,.junk),(12,.junk),(13,.junk),(14,.junk),(15,.junk),(16,.junk),(17,.junk),(20,(.atm (.v 0)))],[],0,[]⟩ (.s none .z (.s none .z (.s none (.b (.s none .z (.s (some ⟨1,[(6,.junk),(21,.junk),(22,.junk),(23,.junk),(48,(.atm (.v 0)))],[],1,[]⟩) .z .z))) .z)))))) (.s none .z (.s (some ⟨1,[(7,(.atm (.v 0))),(18,.junk),(19,.junk),(20,.junk),(21,.junk),(50,.junk),(51,.junk),(52,.junk),(53,.junk),(54,.junk)],[],0,[]⟩) .z (.s none .z (.s none (.s none .z (.b (.l ⟨1,[(0,.junk),(7,.junk),(59,.junk),(60,.junk),(61,.junk),(62,.junk),(65,(.atm (.v 0)))],[],0,[]⟩ (.s none .z (.s none .z (.s none (.b (.s none .z (.s none .z (.s (some ⟨1,[(8,.junk),(10,(.atm (.v 0))),(66,.junk),(67,.junk),(68,.junk),(69,.junk),(70,.junk),(71,.junk)],[],1,[]⟩) .z (.s (some ⟨1,[(9,.junk),(10,.junk),(84,(.atm (.v 0)))],[],1,[]⟩) .z .z))))) .z)))))) .z))))))))
def ir53p0:IR:=(.ite (.v 12) (.ret [.c (.int .i64 1)]) (.op (.bin .add false) [.v 8,.c (.int .i64 1)] (.jump 0 [.v 13])))
def ir53p1:IR:=(.ite (.v 23) (.ret [.c (.int .i64 7)]) (.op (.bin .add false) [.v 17,.c (.int .i64 1)] (.jump 1 [.v 24])))
def ir53p2:IR:=(.letj 1 (.op (.bin .neq false) [.v 22,.c (.int .u64 0)] (.ite (.v 23) (.call 69 1 false [] [.v 19,.v 20] (.op (.bin .neq false) [.v 24,.v 22] (.jump 2 [.v 25]))) (.jump 2 [.c (.bool false)]))) ir53p1)
def ir53p3:IR:=(.op (.bin .lss false) [.v 17,.v 16] (.ite (.v 18) (.op (.row 2) [.v 0,.v 17] (.op (.conv .u64) [.v 17] (.letj 1 (.op (.bin .eql false) [.v 1,.c (.int .i64 3)] (.ite (.v 22) (.op (.conv .u64) [.v 17] (.op (.bin .shl false) [.c (.int .u64 1),.v 23] (.jump 2 [.v 24]))) (.jump 2 [.v 21]))) ir53p2))) (.ret [.c (.int .i64 0)])))
def ir53p4:IR:=(.op .lenL [.v 0] (.op (.bin .neq false) [.v 14,.v 13] (.ite (.v 15) (.ret [.c (.int .i64 1)]) (.op .lenL [.v 0] (.loop 1 [.c (.int .i64 0)] ir53p3)))))
def ir53p5:IR:=(.op (.bin .lss false) [.v 8,.v 7] (.ite (.v 9) (.op (.row 2) [.v 0,.v 8] (.letj 1 (.call 67 1 false [] [.v 10,.v 11] (.op (.bin .neq false) [.v 12,.c (.int .i64 0)] (.ite (.v 13) (.jump 1 [.c (.bool true)]) (.op .lenL [.v 10] (.op (.bin .lss false) [.v 14,.c (.int .i64 1)] (.ite (.v 15) (.jump 1 [.c (.bool true)]) (.op .lenL [.v 10] (.op (.bin .gtr false) [.v 16,.c (.int .i64 2)] (.ite (.v 17) (.jump 1 [.c (.bool true)]) (.op (.row 2) [.v 0,.c (.int .i64 0)] (.call 68 1 false [] [.v 10,.v 18] (.op (.un .not) [.v 20] (.jump 1 [.v 21]))))))))))))) ir53p0)) (.op (.row 2) [.v 0,.c (.int .i64 0)] (.op .lenL [.v 11] (.letj 1 (.op (.bin .neq false) [.v 1,.c (.int .i64 3)] (.ite (.v 13) (.op (.bin .shl false) [.c (.int .i64 1),.v 12] (.jump 1 [.v 14])) (.jump 1 [.v 12]))) ir53p4)))))
def ir53:IR:=(.call 66 1 false [] [.v 1] (.op .lenL [.v 2] (.op (.bin .eql false) [.v 3,.c (.int .i64 0)] (.ite (.v 4) (.ret [.c (.int .i64 4)]) (.op .lenL [.v 0] (.op (.bin .eql false) [.v 5,.c (.int .i64 0)] (.ite (.v 6) (.ret [.c (.int .i64 1)]) (.op .lenL [.v 0] (.loop 1 [.c (.int .i64 0)] ir53p5)))))))))
theorem rd53:readFn T SG sigs 3000 sg53 Tryz.f27 an53=some ir53:=by kernel_rfl
def an54:Ann:=.z
def ir54:IR:=(.op (.conv .u64) [.v 2] (.call 70 1 false [] [.v 0,.v 1,.v 3] (.op (.conv .i64) [.v 4] (.ret [.v 5]))))
theorem rd54:readFn T SG sigs 3000 sg54 Tryz.f28 an54=some ir54:=by kernel_rfl
def an55:Ann:=.z
def ir55:IR:=(.call 71 1 false [] [.v 0,.v 1] (.ret [.v 2]))
theorem rd55:readFn T SG sigs 3000 sg55 Tryz.f37 an55=some ir55:=by kernel_rfl
def an56:Ann:=(.s none .z (.s none (.s (some ⟨1,[(2,.junk),(21,(.atm (.v 0)))],[],0,[]⟩) .z .z) (.s none (.s none .z (.b (.l ⟨1,[(3,(.atm (.v 0))),(21,.junk)],[],0,[]⟩ (.s none .z (.s none (.b (.s (some ⟨1,[(22,.junk),(23,.junk),(24,.junk),(25,.junk),(55,(.atm (.v 0)))],[],0,[]⟩) .z .z)) .z))))) .z)))
def ir56p0:IR:=(.ite (.v 5) (.ret [.c (.bool false)]) (.op (.bin .add false) [.v 2,.c (.int .i64 1)] (.jump 0 [.v 6])))
def ir56p1:IR:=(.op .lenS [.v 0] (.op (.bin .lss false) [.v 2,.v 3] (.ite (.v 4) (.letj 1 (.op .idxS [.v 0,.v 2] (.op (.bin .lss false) [.v 5,.c (.int .u8 97)] (.ite (.v 6) (.op .idxS [.v 0,.v 2] (.op (.bin .lss false) [.v 7,.c (.int .u8 48)] (.ite (.v 8) (.op .idxS [.v 0,.v 2] (.op (.bin .neq false) [.v 9,.c (.int .u8 95)] (.jump 1 [.v 10]))) (.op .idxS [.v 0,.v 2] (.op (.bin .gtr false) [.v 9,.c (.int .u8 57)] (.ite (.v 10) (.op .idxS [.v 0,.v 2] (.op (.bin .neq false) [.v 11,.c (.int .u8 95)] (.jump 1 [.v 12]))) (.jump 1 [.c (.bool false)]))))))) (.op .idxS [.v 0,.v 2] (.op (.bin .gtr false) [.v 7,.c (.int .u8 122)] (.ite (.v 8) (.op .idxS [.v 0,.v 2] (.op (.bin .lss false) [.v 9,.c (.int .u8 48)] (.ite (.v 10) (.op .idxS [.v 0,.v 2] (.op (.bin .neq false) [.v 11,.c (.int .u8 95)] (.jump 1 [.v 12]))) (.op .idxS [.v 0,.v 2] (.op (.bin .gtr false) [.v 11,.c (.int .u8 57)] (.ite (.v 12) (.op .idxS [.v 0,.v 2] (.op (.bin .neq false) [.v 13,.c (.int .u8 95)] (.jump 1 [.v 14]))) (.jump 1 [.c (.bool false)]))))))) (.jump 1 [.c (.bool false)]))))))) ir56p0) (.ret [.c (.bool true)]))))
def ir56p2:IR:=(.ite (.v 1) (.ret [.c (.bool false)]) (.loop 1 [.c (.int .i64 0)] ir56p1))
def ir56:IR:=(.letj 1 (.op .lenS [.v 0] (.op (.bin .lss false) [.v 1,.c (.int .i64 1)] (.ite (.v 2) (.jump 0 [.c (.bool true)]) (.op .lenS [.v 0] (.op (.bin .gtr false) [.v 3,.c (.int .i64 12)] (.ite (.v 4) (.jump 0 [.c (.bool true)]) (.op .idxS [.v 0,.c (.int .i64 0)] (.op (.bin .lss false) [.v 5,.c (.int .u8 97)] (.ite (.v 6) (.jump 0 [.c (.bool true)]) (.op .idxS [.v 0,.c (.int .i64 0)] (.op (.bin .gtr false) [.v 7,.c (.int .u8 122)] (.jump 0 [.v 8])))))))))))) ir56p2)
theorem rd56:readFn T SG sigs 3000 sg56 Tryz.f76 an56=some ir56:=by kernel_rfl
def an57:Ann:=(.s none .z (.s none (.s none .z (.b (.l ⟨2,[(4,.junk),(6,.junk),(8,(.atm (.v 0)))],[(0,⟨false,false,3,1,.c (.sl []),[[.atm (.v 1)]]⟩)],2,[]⟩ .z))) .z))
def ir57p0:IR:=(.op (.bin .lss false) [.v 3,.v 2] (.ite (.v 5) (.op (.row 1) [.v 0,.v 3] (.call 72 2 false [] [.v 6,.v 4] (.ite (.v 7) (.ret [.v 3,.v 8]) (.op (.bin .add false) [.v 3,.c (.int .i64 1)] (.jump 0 [.v 9,.v 8]))))) (.ret [.c (.int .i64 (-1)),.v 4])))
def ir57:IR:=(.op .lenL [.v 0] (.loop 2 [.c (.int .i64 0),.v 1] ir57p0))
theorem rd57:readFn T SG sigs 3000 sg57 Tryz.f77 an57=some ir57:=by kernel_rfl
def an58:Ann:=.z
def ir58:IR:=(.op .lenL [.v 0] (.op (.conv .u64) [.v 1] (.op (.bin .shl false) [.c (.int .i64 1),.v 2] (.ret [.v 3]))))
theorem rd58:readFn T SG sigs 3000 sg58 Tryz.f106 an58=some ir58:=by kernel_rfl
def an59:Ann:=.z
def ir59:IR:=(.op (.row 1) [.v 0,.v 2] (.op (.row 1) [.v 5,.v 3] (.op (.bin .eql false) [.v 1,.c (.int .i64 1)] (.ite (.v 7) (.call 73 1 false [] [.v 6,.v 3] (.ret [.v 8])) (.op (.bin .eql false) [.v 1,.c (.int .i64 2)] (.ite (.v 8) (.op (.bin .and false) [.v 2,.v 3] (.op (.bin .eql false) [.v 9,.c (.int .i64 0)] (.ite (.v 10) (.ret [.c (.bool true)]) (.op (.bin .and false) [.v 2,.v 3] (.op (.bin .eql false) [.v 6,.v 11] (.ret [.v 12])))))) (.op (.bin .eql false) [.v 1,.c (.int .i64 3)] (.ite (.v 9) (.op (.bin .eql false) [.v 3,.c (.int .i64 0)] (.ite (.v 10) (.ret [.c (.bool true)]) (.op (.bin .neq false) [.v 6,.c (.int .i64 0)] (.ret [.v 11])))) (.op (.bin .eql false) [.v 1,.c (.int .i64 4)] (.ite (.v 10) (.op (.bin .and false) [.v 6,.v 4] (.op (.row 1) [.v 0,.v 2] (.op (.bin .and false) [.v 3,.v 4] (.op (.row 1) [.v 12,.v 13] (.call 73 1 false [] [.v 11,.v 14] (.ret [.v 15])))))) (.op (.bin .and false) [.v 6,.v 4] (.op (.bin .eql false) [.v 11,.c (.int .i64 0)] (.ite (.v 12) (.ret [.c (.bool true)]) (.op (.row 1) [.v 0,.v 2] (.op (.bin .and false) [.v 3,.v 4] (.op (.row 1) [.v 13,.v 14] (.op (.bin .and false) [.v 6,.v 4] (.call 73 1 false [] [.v 15,.v 16] (.ret [.v 17])))))))))))))))))))
theorem rd59:readFn T SG sigs 3000 sg59 Tryz.f107 an59=some ir59:=by kernel_rfl
def an60:Ann:=.z
def ir60:IR:=(.op (.row 1) [.v 0,.v 2] (.op (.row 1) [.v 5,.v 3] (.op (.bin .eql false) [.v 1,.c (.int .i64 1)] (.ite (.v 7) (.call 73 1 false [] [.v 2,.v 6] (.ret [.v 8])) (.op (.bin .eql false) [.v 1,.c (.int .i64 2)] (.ite (.v 8) (.call 73 1 false [] [.v 2,.v 3] (.ite (.v 9) (.ret [.c (.bool true)]) (.op (.bin .eql false) [.v 6,.v 2] (.ret [.v 10])))) (.op (.bin .eql false) [.v 1,.c (.int .i64 3)] (.ite (.v 9) (.op .lenL [.v 0] (.op (.bin .sub false) [.v 10,.c (.int .i64 1)] (.op (.bin .eql false) [.v 3,.v 11] (.ite (.v 12) (.ret [.c (.bool true)]) (.call 73 1 false [] [.v 6,.v 3] (.ite (.v 13) (.op (.un .not) [.c (.bool true)] (.ret [.c (.bool false)])) (.op (.un .not) [.c (.bool false)] (.ret [.c (.bool true)])))))))) (.op (.bin .eql false) [.v 1,.c (.int .i64 4)] (.ite (.v 10) (.op (.bin .and false) [.v 6,.v 3] (.call 73 1 false [] [.v 11,.v 2] (.ret [.v 12]))) (.op (.bin .eql false) [.v 1,.c (.int .i64 5)] (.ite (.v 11) (.op (.row 1) [.v 0,.v 2] (.op (.bin .and false) [.v 3,.v 4] (.op (.row 1) [.v 12,.v 13] (.op (.row 1) [.v 0,.v 2] (.op (.row 1) [.v 15,.v 4] (.op (.bin .or false) [.v 6,.v 16] (.call 73 1 false [] [.v 14,.v 17] (.ret [.v 18])))))))) (.op (.row 1) [.v 0,.v 2] (.op (.bin .and false) [.v 3,.v 4] (.op (.row 1) [.v 12,.v 13] (.call 73 1 false [] [.v 14,.v 3] (.ite (.v 15) (.ret [.c (.bool true)]) (.op (.row 1) [.v 0,.v 2] (.op (.bin .and false) [.v 3,.v 4] (.op (.row 1) [.v 16,.v 17] (.call 73 1 false [] [.v 6,.v 18] (.ret [.v 19]))))))))))))))))))))))
theorem rd60:readFn T SG sigs 3000 sg60 Tryz.f108 an60=some ir60:=by kernel_rfl
def an61:Ann:=.z
def ir61:IR:=(.op (.row 1) [.v 0,.v 2] (.op (.row 1) [.v 5,.v 3] (.op (.bin .eql false) [.v 1,.c (.int .i64 1)] (.ite (.v 7) (.call 73 1 false [] [.v 6,.v 3] (.ret [.v 8])) (.op (.bin .eql false) [.v 1,.c (.int .i64 2)] (.ite (.v 8) (.call 73 1 false [] [.v 2,.v 3] (.op (.un .not) [.v 9] (.ite (.v 10) (.ret [.c (.bool true)]) (.op (.bin .eql false) [.v 6,.v 2] (.ret [.v 11]))))) (.op (.bin .eql false) [.v 1,.c (.int .i64 3)] (.ite (.v 9) (.op (.bin .eql false) [.v 2,.c (.int .i64 0)] (.ite (.v 10) (.ret [.c (.bool true)]) (.op (.bin .eql false) [.v 3,.c (.int .i64 0)] (.ite (.v 11) (.ret [.c (.bool true)]) (.op (.bin .neq false) [.v 6,.c (.int .i64 0)] (.ret [.v 12])))))) (.op (.bin .eql false) [.v 1,.c (.int .i64 4)] (.ite (.v 10) (.op (.bin .and false) [.v 6,.v 4] (.op (.row 1) [.v 0,.v 2] (.op (.bin .and false) [.v 3,.v 4] (.op (.row 1) [.v 12,.v 13] (.call 73 1 false [] [.v 11,.v 14] (.ret [.v 15])))))) (.op (.bin .eql false) [.v 1,.c (.int .i64 5)] (.ite (.v 11) (.call 73 1 false [] [.v 6,.v 4] (.op (.un .not) [.v 12] (.ite (.v 13) (.ret [.c (.bool true)]) (.op (.row 1) [.v 0,.v 2] (.op (.row 1) [.v 14,.v 4] (.call 73 1 false [] [.v 15,.v 3] (.ite (.v 16) (.op (.un .not) [.c (.bool true)] (.op (.row 1) [.v 0,.v 2] (.op (.row 1) [.v 18,.v 4] (.op (.bin .eql false) [.v 6,.v 19] (.ret [.v 20]))))) (.op (.un .not) [.c (.bool false)] (.ret [.c (.bool true)]))))))))) (.op (.bin .eql false) [.v 1,.c (.int .i64 6)] (.ite (.v 12) (.call 74 1 false [] [.v 2] (.op (.un .not) [.v 13] (.ite (.v 14) (.ret [.c (.bool true)]) (.op (.row 1) [.v 0,.v 2] (.op (.row 1) [.v 15,.v 4] (.op (.bin .and false) [.v 6,.v 16] (.op (.row 1) [.v 0,.v 2] (.op (.bin .or false) [.v 3,.v 4] (.op (.row 1) [.v 18,.v 19] (.call 73 1 false [] [.v 17,.v 20] (.ret [.v 21]))))))))))) (.op (.bin .or false) [.v 2,.v 4] (.op (.row 1) [.v 0,.v 13] (.op (.row 1) [.v 14,.v 3] (.op (.row 1) [.v 0,.v 4] (.op (.row 1) [.v 16,.v 3] (.op (.bin .or false) [.v 6,.v 17] (.op (.bin .eql false) [.v 15,.v 18] (.ret [.v 19]))))))))))))))))))))))
theorem rd61:readFn T SG sigs 3000 sg61 Tryz.f109 an61=some ir61:=by kernel_rfl
def an64:Ann:=.z
def ir64:IR:=(.call 75 1 false [] [.v 0] (.ite (.v 2) (.call 75 1 false [] [.v 1] (.ite (.v 3) (.op (.un .not) [.c (.bool true)] (.op (.bin .lss false) [.v 0,.v 1] (.ret [.v 5]))) (.op (.un .not) [.c (.bool false)] (.ret [.c (.bool true)])))) (.op (.bin .lss false) [.v 0,.v 1] (.ret [.v 3]))))
theorem rd64:readFn T SG sigs 3000 sg64 Tryz.f104 an64=some ir64:=by kernel_rfl
def an65:Ann:=.z
def ir65:IR:=(.op (.bin .neq false) [.v 0,.v 0] (.ret [.v 1]))
theorem rd65:readFn T SG sigs 3000 sg65 Tryz.f105 an65=some ir65:=by kernel_rfl
def an66:Ann:=.z
def ir66:IR:=(.op (.bin .eql false) [.v 0,.c (.int .i64 1)] (.ite (.v 1) (.call 76 1 false [] [] (.ret [.v 2])) (.op (.bin .eql false) [.v 0,.c (.int .i64 2)] (.ite (.v 2) (.call 77 1 false [] [] (.ret [.v 3])) (.op (.bin .eql false) [.v 0,.c (.int .i64 3)] (.ite (.v 3) (.call 78 1 false [] [] (.ret [.v 4])) (.ret [.c (.sl [])])))))))
theorem rd66:readFn T SG sigs 3000 sg66 Tryz.f32 an66=some ir66:=by kernel_rfl
def an67:Ann:=(.s none .z (.s none (.s (some ⟨1,[(0,.junk),(2,.junk),(20,(.atm (.v 0)))],[],1,[]⟩) .z .z) (.s none .z (.s none .z (.s none (.s none .z (.b (.l ⟨3,[(1,.junk),(4,(.atm (.v 0))),(20,.junk),(21,.junk),(22,.junk),(23,.junk),(24,.junk),(25,.junk),(28,(.atm (.v 1)))],[(1,⟨false,true,4,1,.v 2,[]⟩)],2,[]⟩ (.s none .z (.s none .z (.s none (.b (.s none .z (.s none (.s (some ⟨1,[(29,.junk),(30,.junk),(31,.junk),(39,(.atm (.v 0)))],[],2,[]⟩) .z .z) .z))) .z)))))) .z)))))
def ir67p0:IR:=(.ite (.v 11) (.ret [.c (.int .i64 8)]) (.op .max [.v 6,.v 10] (.op .chk [.v 8,.v 10] (.op (.set 0 1) [.v 8,.v 10,.c (.bool true)] (.op (.bin .add false) [.v 7,.c (.int .i64 1)] (.jump 0 [.v 12,.v 14,.v 13]))))))
def ir67p1:IR:=(.op (.bin .lss false) [.v 7,.v 5] (.ite (.v 9) (.op (.row 1) [.v 1,.v 7] (.letj 1 (.op (.bin .lss false) [.v 10,.c (.int .i64 0)] (.ite (.v 11) (.jump 1 [.c (.bool true)]) (.op .lenL [.v 8] (.op (.bin .geq false) [.v 10,.v 12] (.jump 1 [.v 13]))))) ir67p0)) (.op (.subL 1) [.v 8,.c (.int .i64 0),.v 6] (.call 79 1 false [] [.v 10,.c (.bool false)] (.ite (.v 11) (.ret [.c (.int .i64 8)]) (.ret [.c (.int .i64 0)]))))))
def ir67p2:IR:=(.ite (.v 2) (.ret [.c (.int .i64 1)]) (.op .lenL [.v 1] (.op (.mkL 1 [(.bool false)]) [.v 3] (.op .lenL [.v 1] (.loop 3 [.c (.int .i64 0),.c (.int .i64 0),.v 4] ir67p1)))))
def ir67:IR:=(.letj 1 (.call 29 1 false [] [.v 0] (.op (.un .not) [.v 2] (.ite (.v 3) (.jump 0 [.c (.bool true)]) (.op .lenL [.v 1] (.op .lenL [.v 0] (.op (.bin .shl false) [.c (.int .i64 1),.v 5] (.op (.bin .neq false) [.v 4,.v 6] (.jump 0 [.v 7])))))))) ir67p2)
theorem rd67:readFn T SG sigs 3000 sg67 Tryz.f57 an67=some ir67:=by kernel_rfl
def an68:Ann:=(.s none .z (.s none .z (.s none (.s none .z (.b (.l ⟨1,[(4,.junk),(6,.junk),(7,.junk),(8,.junk),(9,.junk),(10,.junk),(11,.junk),(13,(.atm (.v 0)))],[],0,[]⟩ .z))) .z)))
def ir68p0:IR:=(.op (.bin .lss false) [.v 6,.v 5] (.ite (.v 7) (.op (.row 1) [.v 0,.v 6] (.op (.row 1) [.v 1,.v 6] (.op (.bin .neq false) [.v 8,.v 9] (.ite (.v 10) (.ret [.c (.bool false)]) (.op (.bin .add false) [.v 6,.c (.int .i64 1)] (.jump 0 [.v 11])))))) (.ret [.c (.bool true)])))
def ir68:IR:=(.op .lenL [.v 0] (.op .lenL [.v 1] (.op (.bin .neq false) [.v 2,.v 3] (.ite (.v 4) (.ret [.c (.bool false)]) (.op .lenL [.v 0] (.loop 1 [.c (.int .i64 0)] ir68p0))))))
theorem rd68:readFn T SG sigs 3000 sg68 Tryz.f58 an68=some ir68:=by kernel_rfl
def an69:Ann:=.z
def ir69:IR:=(.call 70 1 false [] [.v 0,.v 1,.c (.int .u64 18446744073709551615)] (.ret [.v 2]))
theorem rd69:readFn T SG sigs 3000 sg69 Tryz.f59 an69=some ir69:=by kernel_rfl
def an70:Ann:=(.s none .z (.s none (.s none .z (.b (.l ⟨1,[(0,.junk),(2,.junk),(4,.junk),(7,.junk),(10,(.atm (.v 0)))],[],1,[]⟩ .z))) .z))
def ir70p0:IR:=(.op (.bin .lss false) [.v 5,.v 4] (.ite (.v 6) (.op (.row 1) [.v 3,.v 5] (.op (.bin .and false) [.v 7,.v 2] (.op (.bin .neq false) [.v 8,.c (.int .u64 0)] (.ite (.v 9) (.op (.bin .and false) [.v 7,.v 2] (.ret [.v 10])) (.op (.bin .add false) [.v 5,.c (.int .i64 1)] (.jump 0 [.v 10])))))) (.ret [.c (.int .u64 0)])))
def ir70:IR:=(.call 80 1 false [] [.v 0,.v 1] (.op .lenL [.v 3] (.loop 1 [.c (.int .i64 0)] ir70p0)))
theorem rd70:readFn T SG sigs 3000 sg70 Tryz.f29 an70=some ir70:=by kernel_rfl
def an71:Ann:=(.s none .z (.s none .z (.s none (.s none .z (.b (.l ⟨1,[(4,.junk),(6,.junk),(7,.junk),(8,.junk),(9,.junk),(10,.junk),(11,.junk),(13,(.atm (.v 0)))],[],0,[]⟩ .z))) .z)))
def ir71p0:IR:=(.op (.bin .lss false) [.v 6,.v 5] (.ite (.v 7) (.op (.row 1) [.v 0,.v 6] (.op (.row 1) [.v 1,.v 6] (.op (.bin .neq false) [.v 8,.v 9] (.ite (.v 10) (.ret [.c (.bool false)]) (.op (.bin .add false) [.v 6,.c (.int .i64 1)] (.jump 0 [.v 11])))))) (.ret [.c (.bool true)])))
def ir71:IR:=(.op .lenL [.v 0] (.op .lenL [.v 1] (.op (.bin .neq false) [.v 2,.v 3] (.ite (.v 4) (.ret [.c (.bool false)]) (.op .lenL [.v 0] (.loop 1 [.c (.int .i64 0)] ir71p0))))))
theorem rd71:readFn T SG sigs 3000 sg71 Tryz.f38 an71=some ir71:=by kernel_rfl
def an72:Ann:=.z
def ir72:IR:=(.op .lenL [.v 0] (.op (.bin .neq false) [.v 2,.v 1] (.ite (.v 3) (.ret [.c (.bool true),.v 1]) (.call 81 2 false [] [.v 0,.v 1] (.ret [.v 4,.v 5])))))
theorem rd72:readFn T SG sigs 3000 sg72 Tryz.f52 an72=some ir72:=by kernel_rfl
def an73:Ann:=.z
def ir73:IR:=(.op (.bin .andNot false) [.v 0,.v 1] (.op (.bin .eql false) [.v 2,.c (.int .i64 0)] (.ret [.v 3])))
theorem rd73:readFn T SG sigs 3000 sg73 Tryz.f117 an73=some ir73:=by kernel_rfl
def an74:Ann:=.z
def ir74:IR:=(.op (.bin .eql false) [.v 0,.c (.int .i64 1)] (.ite (.v 1) (.ret [.c (.bool true)]) (.op (.bin .eql false) [.v 0,.c (.int .i64 2)] (.ite (.v 2) (.ret [.c (.bool true)]) (.op (.bin .eql false) [.v 0,.c (.int .i64 4)] (.ite (.v 3) (.ret [.c (.bool true)]) (.op (.bin .eql false) [.v 0,.c (.int .i64 8)] (.ret [.v 4]))))))))
theorem rd74:readFn T SG sigs 3000 sg74 Tryz.f118 an74=some ir74:=by kernel_rfl
def an75:Ann:=.z
def ir75:IR:=(.op (.bin .neq false) [.v 0,.v 0] (.ret [.v 1]))
theorem rd75:readFn T SG sigs 3000 sg75 Tryz.f116 an75=some ir75:=by kernel_rfl
def an76:Ann:=.z
def ir76:IR:=(.op (.mk 2 5) [.c (.bool true),.c (fnD 81),.c (.bool true),.c (fnD 83),.c (.bool true),.c (fnD 84),.c (.bool false),.c (fnD 85),.c (.bool false),.c (fnD 86)] (.ret [.v 0]))
theorem rd76:readFn T SG sigs 3000 sg76 Tryz.f62 an76=some ir76:=by kernel_rfl
def an77:Ann:=.z
def ir77:IR:=(.op (.mk 2 6) [.c (.bool true),.c (fnD 87),.c (.bool true),.c (fnD 88),.c (.bool true),.c (fnD 89),.c (.bool true),.c (fnD 90),.c (.bool false),.c (fnD 91),.c (.bool false),.c (fnD 92)] (.ret [.v 0]))
theorem rd77:readFn T SG sigs 3000 sg77 Tryz.f63 an77=some ir77:=by kernel_rfl
def an78:Ann:=.z
def ir78:IR:=(.op (.mk 2 7) [.c (.bool true),.c (fnD 93),.c (.bool true),.c (fnD 94),.c (.bool true),.c (fnD 95),.c (.bool false),.c (fnD 96),.c (.bool false),.c (fnD 97),.c (.bool false),.c (fnD 98),.c (.bool false),.c (fnD 100)] (.ret [.v 0]))
theorem rd78:readFn T SG sigs 3000 sg78 Tryz.f64 an78=some ir78:=by kernel_rfl
def an79:Ann:=.z
def ir79:IR:=(.call 82 1 false [] [.v 0,.v 1] (.op (.bin .geq false) [.v 2,.c (.int .i64 0)] (.ret [.v 3])))
theorem rd79:readFn T SG sigs 3000 sg79 Tryz.f79 an79=some ir79:=by kernel_rfl
def an80:Ann:=(.s none .z (.s none .z (.s none .z (.s none (.s none .z (.b (.l ⟨2,[(0,.junk),(1,.junk),(2,.junk),(6,.junk),(7,.junk),(8,.junk),(9,.junk),(10,.junk),(11,.junk),(12,.junk),(13,.junk),(14,.junk),(17,(.atm (.v 0)))],[(1,⟨false,true,63,1,.v 1,[]⟩)],2,[]⟩ .z))) .z))))
def ir80p0:IR:=(.op (.bin .lss false) [.v 8,.v 7] (.ite (.v 10) (.op (.row 1) [.v 1,.v 8] (.op .chk [.v 9,.v 11] (.op (.get 0 1) [.v 9,.v 11] (.op (.conv .u64) [.v 8] (.op (.bin .shl false) [.c (.int .u64 1),.v 13] (.op (.bin .or false) [.v 12,.v 14] (.op .chk [.v 9,.v 11] (.op (.set 0 1) [.v 9,.v 11,.v 15] (.op (.bin .add false) [.v 8,.c (.int .i64 1)] (.jump 0 [.v 17,.v 16])))))))))) (.ret [.v 9])))
def ir80:IR:=(.call 67 1 false [] [.v 0,.v 1] (.op (.bin .neq false) [.v 2,.c (.int .i64 0)] (.ite (.v 3) (.ret [.c (.sl [])]) (.call 83 1 false [] [.v 1] (.op (.bin .add false) [.v 4,.c (.int .i64 1)] (.op (.mkL 8 [(.int .u64 0)]) [.v 5] (.op .lenL [.v 1] (.loop 2 [.c (.int .i64 0),.v 6] ir80p0))))))))
theorem rd80:readFn T SG sigs 3000 sg80 Tryz.f60 an80=some ir80:=by kernel_rfl
def an81:Ann:=.z
def ir81:IR:=(.call 84 2 false [] [.v 0,.v 1] (.op (.bin .geq false) [.v 2,.c (.int .i64 0)] (.ret [.v 4,.v 3])))
theorem rd81:readFn T SG sigs 3000 sg81 Tryz.f53 an81=some ir81:=by kernel_rfl
def an82:Ann:=(.s none .z (.s none (.s none .z (.b (.l ⟨1,[(4,.junk),(6,.junk),(8,(.atm (.v 0)))],[],0,[]⟩ .z))) .z))
def ir82p0:IR:=(.op (.bin .lss false) [.v 3,.v 2] (.ite (.v 4) (.op (.row 1) [.v 0,.v 3] (.op (.bin .eql true) [.v 1,.v 5] (.ite (.v 6) (.ret [.v 3]) (.op (.bin .add false) [.v 3,.c (.int .i64 1)] (.jump 0 [.v 7]))))) (.ret [.c (.int .i64 (-1))])))
def ir82:IR:=(.op .lenL [.v 0] (.loop 1 [.c (.int .i64 0)] ir82p0))
theorem rd82:readFn T SG sigs 3000 sg82 Tryz.f110 an82=some ir82:=by kernel_rfl
def an83:Ann:=(.s none .z (.s none .z (.s none .z (.s none (.s none .z (.b (.l ⟨2,[(2,.junk),(3,(.atm (.v 0))),(4,(.atm (.v 1))),(5,.junk),(6,.junk),(7,.junk),(9,.junk),(10,.junk),(11,.junk)],[],0,[]⟩ .z))) .z))))
def ir83p0:IR:=(.op .lenL [.v 0] (.op (.bin .lss false) [.v 5,.v 6] (.ite (.v 7) (.op (.row 1) [.v 0,.v 5] (.op .max [.v 4,.v 8] (.op (.bin .add false) [.v 5,.c (.int .i64 1)] (.jump 0 [.v 9,.v 10])))) (.ret [.v 4]))))
def ir83:IR:=(.op .lenL [.v 0] (.op (.bin .lss false) [.v 1,.c (.int .i64 1)] (.ite (.v 2) .fail (.op (.row 1) [.v 0,.c (.int .i64 0)] (.loop 2 [.v 3,.c (.int .i64 1)] ir83p0)))))
theorem rd83:readFn T SG sigs 3000 sg83 Tryz.f80 an83=some ir83:=by kernel_rfl
def an84:Ann:=(.s none .z (.s none (.s none .z (.b (.l ⟨2,[(4,.junk),(6,.junk),(8,(.atm (.v 0)))],[(0,⟨false,false,3,1,.c (.sl []),[[.atm (.v 1)]]⟩)],1,[]⟩ .z))) .z))
def ir84p0:IR:=(.op (.bin .lss false) [.v 3,.v 2] (.ite (.v 5) (.op (.row 1) [.v 0,.v 3] (.call 85 2 false [] [.v 6,.v 4] (.ite (.v 7) (.ret [.v 3,.v 8]) (.op (.bin .add false) [.v 3,.c (.int .i64 1)] (.jump 0 [.v 9,.v 8]))))) (.ret [.c (.int .i64 (-1)),.v 4])))
def ir84:IR:=(.op .lenL [.v 0] (.loop 2 [.c (.int .i64 0),.v 1] ir84p0))
theorem rd84:readFn T SG sigs 3000 sg84 Tryz.f78 an84=some ir84:=by kernel_rfl
def an85:Ann:=.z
def ir85:IR:=(.op (.bin .lss false) [.v 0,.c (.int .i64 0)] (.ite (.v 2) (.ret [.c (.bool true),.v 1]) (.op (.bin .geq false) [.v 0,.v 1] (.ret [.v 3,.v 1]))))
theorem rd85:readFn T SG sigs 3000 sg85 Tryz.f50 an85=some ir85:=by kernel_rfl
end Go.Proofs.YtnfecjmddbehiaaGreat

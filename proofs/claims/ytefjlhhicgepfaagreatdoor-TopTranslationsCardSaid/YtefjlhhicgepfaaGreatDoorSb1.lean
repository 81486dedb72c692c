/- Lemmas. -/
import Derived.Test.YtefjlhhicgepfaaGreatDoorSe8
import Derived.Test.YtefjlhhicgepfaaGreatDoorProg
set_option linter.unusedSimpArgs false
set_option linter.unusedVariables false
set_option linter.unusedSectionVars false
namespace Go.Proofs.YtefjlhhicgepfaaGreatDoor
open Go.Proofs.Tryz
open Go Am
set_option maxRecDepth 100000
abbrev fnD(f:Nat):D:=.raw (.func (.func f) #[] #[])
def T:Tab:=[
 (3,⟨1,8,true,true,false,none,none,(some .i64),false,false,(some (.int .i64 0)),[],none⟩),
 (4,⟨1,1,true,true,false,none,none,none,false,true,(some (.bool false)),[],none⟩),
 (5,⟨1,1,true,true,false,none,none,(some .u8),false,false,(some (.int .u8 0)),[],none⟩),
 (9,⟨1,16,true,true,false,none,none,none,true,false,(some (.string ⟨⟨[]⟩⟩)),[],none⟩),
 (22,⟨1,24,true,true,false,(some 3),none,none,false,false,(some (.slice none 0 0)),[],none⟩),
 (23,⟨1,8,true,true,false,none,none,none,false,false,(some (.pointer none)),[],none⟩),
 (26,⟨1,24,true,true,false,(some 9),none,none,false,false,(some (.slice none 0 0)),[],none⟩),
 (29,⟨2,48,true,true,true,none,none,none,false,false,(some (.agg #[(.slice none 0 0),(.slice none 0 0)])),[(0,26),(1,22)],(some [(0,1),(1,1)])⟩),
 (31,⟨1,24,true,true,false,(some 39),none,none,false,false,(some (.slice none 0 0)),[],none⟩),
 (32,⟨1,8,true,true,false,none,none,(some .i64),false,false,(some (.int .i64 0)),[],none⟩),
 (35,⟨1,24,true,true,false,(some 45),none,none,false,false,(some (.slice none 0 0)),[],none⟩),
 (39,⟨3,48,true,true,true,none,none,none,false,false,(some (.agg #[(.int .i64 0),(.string ⟨⟨[]⟩⟩),(.slice none 0 0)])),[(0,3),(1,9),(2,31)],(some [(0,1),(1,1),(2,1)])⟩),
 (45,⟨6,96,true,true,true,none,none,none,false,false,(some (.agg #[(.int .i64 0),(.string ⟨⟨[]⟩⟩),(.slice none 0 0),(.int .i64 0),(.string ⟨⟨[]⟩⟩),(.slice none 0 0)])),[(0,39),(3,39)],(some [(0,3),(3,3)])⟩),
 (51,⟨1,24,true,true,false,(some 29),none,none,false,false,(some (.slice none 0 0)),[],none⟩),
 (52,⟨1,8,true,true,false,none,none,(some .u64),false,false,(some (.int .u64 0)),[],none⟩),
 (54,⟨1,8,true,true,false,none,none,(some .u64),false,false,(some (.int .u64 0)),[],none⟩),
 (55,⟨1,24,true,true,false,(some 54),none,none,false,false,(some (.slice none 0 0)),[],none⟩),
 (57,⟨1,24,true,true,false,(some 22),none,none,false,false,(some (.slice none 0 0)),[],none⟩),
 (59,⟨2,32,true,true,true,none,none,none,false,false,(some (.agg #[(.int .i64 0),(.slice none 0 0)])),[(0,3),(1,57)],(some [(0,1),(1,1)])⟩),
 (64,⟨1,8,true,true,false,none,none,none,false,false,(some .nilFunc),[],none⟩),
 (66,⟨2,32,true,true,true,none,none,none,false,false,(some (.agg #[(.slice none 0 0),(.int .i64 0)])),[(0,22),(1,3)],(some [(0,1),(1,1)])⟩),
 (68,⟨1,24,true,true,false,(some 5),none,none,false,false,(some (.slice none 0 0)),[],none⟩),
 (77,⟨1,8,true,true,false,none,none,none,false,false,(some (.pointer none)),[],none⟩),
 (79,⟨2,32,true,true,true,none,none,none,false,false,(some (.agg #[(.pointer none),(.slice none 0 0)])),[(0,77),(1,68)],(some [(0,1),(1,1)])⟩),
 (83,⟨1,8,true,true,false,none,none,none,false,false,(some (.pointer none)),[],none⟩),
 (85,⟨4,40,true,true,true,none,none,none,false,false,(some (.agg #[(.string ⟨⟨[]⟩⟩),(.int .i64 0),(.int .i64 0),(.bool false)])),[(0,9),(1,3),(2,3),(3,4)],(some [(0,1),(1,1),(2,1),(3,1)])⟩),
 (86,⟨1,8,true,true,false,none,none,none,false,false,(some .nilFunc),[],none⟩),
 (97,⟨1,24,true,true,false,(some 103),none,none,false,false,(some (.slice none 0 0)),[],none⟩),
 (103,⟨2,16,true,true,true,none,none,none,false,false,(some (.agg #[(.int .u64 0),(.int .u64 0)])),[(0,54),(1,54)],(some [(0,1),(1,1)])⟩),
 (105,⟨1,8,true,true,false,none,none,none,false,false,(some .nilFunc),[],none⟩),
 (110,⟨1,8,true,true,false,none,none,none,false,false,(some .nilFunc),[],none⟩),
 (118,⟨1,24,true,true,false,(some 4),none,none,false,false,(some (.slice none 0 0)),[],none⟩),
 (124,⟨1,8,true,true,false,none,none,none,false,false,(some .nilFunc),[],none⟩),
 (134,⟨3,40,true,true,true,none,none,none,false,false,(some (.agg #[(.string ⟨⟨[]⟩⟩),(.string ⟨⟨[]⟩⟩),(.int .i64 0)])),[(0,9),(1,9),(2,3)],(some [(0,1),(1,1),(2,1)])⟩),
 (143,⟨1,8,true,true,false,none,none,none,false,false,(some .nilFunc),[],none⟩),
 (152,⟨1,24,true,true,false,(some 183),none,none,false,false,(some (.slice none 0 0)),[],none⟩),
 (154,⟨1,8,true,true,false,none,none,none,false,false,(some .nilFunc),[],none⟩),
 (181,⟨1,8,true,true,false,none,none,none,false,false,(some .nilFunc),[],none⟩),
 (183,⟨2,16,true,true,true,none,none,none,false,false,(some (.agg #[(.bool false),.nilFunc])),[(0,4),(1,181)],(some [(0,1),(1,1)])⟩)]
theorem tok:TOK prog T:=agz (by kernel_rfl)
def SG:ef:=[]
def sg0:Sig:=⟨3,1,[],[.atm (.v 0)],1,[],.atm (.v 0),false,[]⟩
def sg1:Sig:=⟨4,1,[],[.atm (.v 0)],2,[⟨false,false,66,2,.c (.sl []),[[.atm (.v 0),.atm (.v 1)]]⟩],.ptr 0 0 0,false,[]⟩
def sg2:Sig:=⟨5,4,[⟨false,false,66,2,.c (.sl []),[[.atm (.v 2),.atm (.v 3)]]⟩],[.ptr 0 0 0,.atm (.v 0),.atm (.v 1)],3,[⟨false,false,66,2,.c (.sl []),[[.atm (.v 1),.atm (.v 2)]]⟩],.atm (.v 0),false,[]⟩
def sg3:Sig:=⟨6,1,[],[.atm (.v 0)],1,[],.atm (.v 0),true,[]⟩
def sg4:Sig:=⟨7,3,[⟨false,false,66,2,.c (.sl []),[[.atm (.v 1),.atm (.v 2)]]⟩],[.ptr 0 0 0,.atm (.v 0)],4,[⟨false,false,66,2,.c (.sl []),[[.atm (.v 2),.atm (.v 3)]]⟩],(.agg [.atm (.v 0),.atm (.v 1)]),true,[]⟩
def sg5:Sig:=⟨8,2,[],[(.agg [.atm (.v 0),.atm (.v 1)])],2,[],(.tup [.atm (.v 0),.atm (.v 1)]),true,[]⟩
def sg6:Sig:=⟨9,2,[],[(.agg [.atm (.v 0),.atm (.v 1)])],2,[⟨false,true,45,6,.v 0,[]⟩],(.tup [.own 0,.atm (.v 1)]),true,[]⟩
def sg7:Sig:=⟨10,3,[],[(.agg [.atm (.v 0),.atm (.v 1),.atm (.v 2)])],2,[],(.tup [.atm (.v 0),.atm (.v 1)]),false,[]⟩
def sg8:Sig:=⟨11,1,[],[.atm (.v 0)],5,[],(.tup [(.agg [.atm (.v 0),.atm (.v 1),.atm (.v 2)]),.atm (.v 3),.atm (.v 4)]),true,[]⟩
def sg9:Sig:=⟨12,2,[],[.atm (.v 0),.atm (.v 1)],3,[],(.tup [(.agg [.atm (.v 0),.atm (.v 1)]),.atm (.v 2)]),true,[]⟩
def sg10:Sig:=⟨13,2,[],[.atm (.v 0),.atm (.v 1)],3,[],(.tup [(.agg [.atm (.v 0),.atm (.v 1)]),.atm (.v 2)]),true,[]⟩
def sg11:Sig:=⟨14,4,[],[(.agg [.atm (.v 0),.atm (.v 1)]),(.agg [.atm (.v 2),.atm (.v 3)])],1,[],.atm (.v 0),false,[]⟩
def sg12:Sig:=⟨15,0,[],[],1,[],.atm (.v 0),false,[]⟩
def sg13:Sig:=⟨16,2,[],[.atm (.v 0),.atm (.v 1)],3,[],(.tup [(.agg [.atm (.v 0),.atm (.v 1)]),.atm (.v 2)]),true,[]⟩
def sg14:Sig:=⟨17,2,[],[(.agg [.atm (.v 0),.atm (.v 1)])],1,[],.atm (.v 0),false,[]⟩
def sg15:Sig:=⟨18,2,[],[.atm (.v 0),.atm (.v 1)],3,[],(.tup [(.agg [.atm (.v 0),.atm (.v 1)]),.atm (.v 2)]),true,[]⟩
def sg16:Sig:=⟨19,4,[],[(.agg [.atm (.v 0),.atm (.v 1)]),.atm (.v 2),.atm (.v 3)],2,[],(.tup [.atm (.v 0),.atm (.v 1)]),true,[]⟩
def sg17:Sig:=⟨20,3,[⟨false,false,66,2,.c (.sl []),[[.atm (.v 1),.atm (.v 2)]]⟩],[.ptr 0 0 0,.atm (.v 0)],3,[⟨false,false,66,2,.c (.sl []),[[.atm (.v 1),.atm (.v 2)]]⟩],.atm (.v 0),false,[]⟩
def sg18:Sig:=⟨21,2,[],[.atm (.v 0),.atm (.v 1)],3,[],(.tup [(.agg [.atm (.v 0),.atm (.v 1)]),.atm (.v 2)]),true,[]⟩
def sg19:Sig:=⟨22,2,[],[(.agg [.atm (.v 0),.atm (.v 1)])],1,[],.atm (.v 0),false,[]⟩
def sg20:Sig:=⟨23,2,[],[(.agg [.atm (.v 0),.atm (.v 1)])],1,[],.atm (.v 0),true,[]⟩
def sg21:Sig:=⟨24,2,[],[.atm (.v 0),.atm (.v 1)],4,[],(.tup [(.agg [.atm (.v 0),.atm (.v 1),.atm (.v 2)]),.atm (.v 3)]),true,[]⟩
def sg22:Sig:=⟨25,1,[⟨false,true,39,3,.v 0,[]⟩],[.own 0],1,[⟨false,true,39,3,.v 0,[]⟩],(.tup []),false,[0]⟩
def sg23:Sig:=⟨31,4,[⟨false,false,85,4,.c (.sl []),[[.atm (.v 0),.atm (.v 1),.atm (.v 2),.atm (.v 3)]]⟩],[.ptr 0 0 0],7,[⟨false,false,85,4,.c (.sl []),[[.atm (.v 3),.atm (.v 4),.atm (.v 5),.atm (.v 6)]]⟩],(.agg [.atm (.v 0),.atm (.v 1),.atm (.v 2)]),true,[]⟩
def sg24:Sig:=⟨32,5,[⟨false,false,85,4,.c (.sl []),[[.atm (.v 1),.atm (.v 2),.atm (.v 3),.atm (.v 4)]]⟩],[.ptr 0 0 0,.atm (.v 0)],5,[⟨false,false,85,4,.c (.sl []),[[.atm (.v 1),.atm (.v 2),.atm (.v 3),.atm (.v 4)]]⟩],.atm (.v 0),false,[]⟩
def sg25:Sig:=⟨33,4,[⟨false,false,85,4,.c (.sl []),[[.atm (.v 0),.atm (.v 1),.atm (.v 2),.atm (.v 3)]]⟩],[.ptr 0 0 0],7,[⟨false,false,85,4,.c (.sl []),[[.atm (.v 3),.atm (.v 4),.atm (.v 5),.atm (.v 6)]]⟩],(.agg [.atm (.v 0),.atm (.v 1),.atm (.v 2)]),true,[]⟩
def sg26:Sig:=⟨34,3,[],[(.agg [.atm (.v 0),.atm (.v 1),.atm (.v 2)])],1,[],.atm (.v 0),false,[]⟩
def sg27:Sig:=⟨35,3,[],[(.agg [.atm (.v 0),.atm (.v 1),.atm (.v 2)])],1,[],.atm (.v 0),false,[]⟩
def sg28:Sig:=⟨36,1,[],[.atm (.v 0)],1,[],.atm (.v 0),false,[]⟩
def sg29:Sig:=⟨37,1,[],[.atm (.v 0)],1,[⟨false,false,31,1,.c (.sl []),[[.atm (.v 0)]]⟩],(.clo 77 [] [.ptr 0 0 0]),false,[]⟩
def sg30:Sig:=⟨38,4,[],[.atm (.v 0),(.agg [.atm (.v 1),.atm (.v 2),.atm (.v 3)])],2,[],(.tup [.atm (.v 0),.atm (.v 1)]),false,[]⟩
def sg31:Sig:=⟨39,2,[],[.atm (.v 0),.atm (.v 1)],1,[],.atm (.v 0),false,[]⟩
def sg32:Sig:=⟨40,2,[],[.atm (.v 0),.atm (.v 1)],1,[],.atm (.v 0),false,[]⟩
def sg33:Sig:=⟨41,2,[],[.atm (.v 0),.atm (.v 1)],3,[],(.tup [(.agg [.atm (.v 0),.atm (.v 1)]),.atm (.v 2)]),true,[]⟩
def sg34:Sig:=⟨42,2,[],[.atm (.v 0),.atm (.v 1)],2,[],(.tup [.atm (.v 0),.atm (.v 1)]),true,[]⟩
def sg35:Sig:=⟨43,1,[],[.atm (.v 0)],2,[],(.tup [.atm (.v 0),.atm (.v 1)]),true,[]⟩
def sg36:Sig:=⟨44,2,[],[.atm (.v 0),.atm (.v 1)],1,[],.atm (.v 0),false,[]⟩
def sg37:Sig:=⟨45,2,[],[.atm (.v 0),.atm (.v 1)],1,[],.atm (.v 0),false,[]⟩
def sg38:Sig:=⟨46,5,[],[(.agg [.atm (.v 0),.atm (.v 1)]),(.agg [.atm (.v 2),.atm (.v 3),.atm (.v 4)])],2,[],(.tup [.atm (.v 0),.atm (.v 1)]),false,[]⟩
def sg39:Sig:=⟨47,6,[],[(.agg [.atm (.v 0),.atm (.v 1)]),(.agg [.atm (.v 2),.atm (.v 3),.atm (.v 4)]),.atm (.v 5)],3,[],(.tup [(.agg [.atm (.v 0),.atm (.v 1)]),.atm (.v 2)]),true,[]⟩
def sg40:Sig:=⟨48,2,[],[.atm (.v 0),.atm (.v 1)],1,[],.atm (.v 0),false,[]⟩
def sg41:Sig:=⟨50,1,[],[.atm (.v 0)],1,[⟨false,true,54,1,.v 0,[]⟩],.own 0,true,[]⟩
def sg42:Sig:=⟨49,2,[],[.atm (.v 0),(.clo 51 [] [(.ep [.v 1])])],1,[],.atm (.v 0),false,[]⟩
def sg43:Sig:=⟨52,3,[],[(.agg [.atm (.v 0),.atm (.v 1)]),.atm (.v 2)],1,[],.atm (.v 0),false,[]⟩
def sg44:Sig:=⟨53,2,[],[.atm (.v 0),.atm (.v 1)],1,[],.atm (.v 0),false,[]⟩
def sg45:Sig:=⟨54,3,[],[(.agg [.atm (.v 0),.atm (.v 1)]),.atm (.v 2)],1,[],.atm (.v 0),false,[]⟩
def sg46:Sig:=⟨55,2,[],[(.agg [.atm (.v 0),.atm (.v 1)])],1,[],.atm (.v 0),false,[]⟩
def sg47:Sig:=⟨56,2,[],[(.agg [.atm (.v 0),.atm (.v 1)])],1,[],.atm (.v 0),false,[]⟩
def sg48:Sig:=⟨57,2,[],[.atm (.v 0),.atm (.v 1),(.atm (.c (fnD 58)))],1,[],.atm (.v 0),false,[]⟩
def sg49:Sig:=⟨60,2,[⟨false,false,66,2,.c (.sl []),[[.atm (.v 0),.atm (.v 1)]]⟩],[.ptr 0 0 0],3,[⟨false,false,66,2,.c (.sl []),[[.atm (.v 1),.atm (.v 2)]]⟩],.atm (.v 0),false,[]⟩
def sg50:Sig:=⟨59,2,[],[.atm (.v 0),.atm (.v 1)],1,[],.atm (.v 0),false,[]⟩
def sg51:Sig:=⟨61,1,[],[.atm (.v 0)],1,[],.atm (.v 0),false,[]⟩
def sg52:Sig:=⟨62,2,[],[.atm (.v 0),.atm (.v 1)],1,[],.atm (.v 0),false,[]⟩
def sg53:Sig:=⟨63,2,[],[.atm (.v 0),.atm (.v 1)],1,[],.atm (.v 0),false,[]⟩
def sg54:Sig:=⟨64,1,[],[.atm (.v 0)],1,[],.atm (.v 0),false,[]⟩
def sg55:Sig:=⟨26,1,[],[.atm (.v 0)],1,[],.atm (.v 0),false,[]⟩
def sg56:Sig:=⟨65,2,[],[.atm (.v 0),.atm (.v 1)],3,[],(.agg [.atm (.v 0),.atm (.v 1),.atm (.v 2)]),true,[]⟩
def sg57:Sig:=⟨74,4,[⟨false,false,85,4,.c (.sl []),[[.atm (.v 0),.atm (.v 1),.atm (.v 2),.atm (.v 3)]]⟩],[.ptr 0 0 0],7,[⟨false,false,85,4,.c (.sl []),[[.atm (.v 3),.atm (.v 4),.atm (.v 5),.atm (.v 6)]]⟩],(.agg [.atm (.v 0),.atm (.v 1),.atm (.v 2)]),true,[]⟩
def sg58:Sig:=⟨75,4,[⟨false,false,85,4,.c (.sl []),[[.atm (.v 0),.atm (.v 1),.atm (.v 2),.atm (.v 3)]]⟩],[.ptr 0 0 0],7,[⟨false,false,85,4,.c (.sl []),[[.atm (.v 3),.atm (.v 4),.atm (.v 5),.atm (.v 6)]]⟩],(.agg [.atm (.v 0),.atm (.v 1),.atm (.v 2)]),false,[]⟩
def sg59:Sig:=⟨76,1,[],[.atm (.v 0)],1,[],.atm (.v 0),false,[]⟩
def sg60:Sig:=⟨27,3,[],[(.agg [.atm (.v 0),.atm (.v 1),.atm (.v 2)])],1,[],.atm (.v 0),false,[]⟩
def sg61:Sig:=⟨78,3,[],[(.agg [.atm (.v 0),.atm (.v 1),.atm (.v 2)])],1,[],.atm (.v 0),true,[]⟩
def sg62:Sig:=⟨79,2,[],[.atm (.v 0),.atm (.v 1)],1,[],.atm (.v 0),false,[]⟩
def sg63:Sig:=⟨80,4,[],[.atm (.v 0),(.agg [.atm (.v 1),.atm (.v 2),.atm (.v 3)])],1,[],.atm (.v 0),false,[]⟩
def sg64:Sig:=⟨83,1,[],[.atm (.v 0)],1,[⟨false,false,22,1,.c (.sl []),[[.atm (.v 0)]]⟩],(.clo 109 [] [.ptr 0 0 0]),false,[]⟩
def sg65:Sig:=⟨82,1,[⟨false,false,22,1,.c (.sl []),[[.atm (.v 0)]]⟩],[(.clo 109 [] [.ptr 0 0 0])],2,[⟨false,false,22,1,.c (.sl []),[[.atm (.v 1)]]⟩,⟨false,true,3,1,.v 0,[]⟩],.own 1,true,[]⟩
def sg66:Sig:=⟨81,1,[⟨false,true,3,1,.v 0,[]⟩],[.own 0],2,[⟨true,true,3,1,.v 1,[]⟩],.atm (.v 0),true,[]⟩
def sg67:Sig:=⟨84,1,[],[.atm (.v 0)],1,[⟨false,true,9,1,.v 0,[]⟩],.own 0,true,[]⟩
def sg68:Sig:=⟨85,2,[],[.atm (.v 0),.atm (.v 1)],2,[],(.tup [.atm (.v 0),.atm (.v 1)]),false,[]⟩
def sg69:Sig:=⟨86,2,[],[.atm (.v 0),.atm (.v 1)],1,[],.atm (.v 0),false,[]⟩
def sg70:Sig:=⟨87,5,[],[(.agg [.atm (.v 0),.atm (.v 1)]),(.agg [.atm (.v 2),.atm (.v 3),.atm (.v 4)])],3,[],(.tup [.atm (.v 0),.atm (.v 1),.atm (.v 2)]),false,[]⟩
def sg71:Sig:=⟨88,3,[],[(.agg [.atm (.v 0),.atm (.v 1)]),.atm (.v 2)],1,[],.atm (.v 0),false,[]⟩
def sg72:Sig:=⟨89,4,[],[(.agg [.atm (.v 0),.atm (.v 1)]),.atm (.v 2),.atm (.v 3)],3,[],(.tup [(.agg [.atm (.v 0),.atm (.v 1)]),.atm (.v 2)]),true,[]⟩
def sg73:Sig:=⟨51,2,[],[.atm (.v 0),(.ep [.v 1])],1,[],.atm (.v 0),false,[]⟩
def sg74:Sig:=⟨90,1,[],[.atm (.v 0)],1,[],.atm (.v 0),true,[]⟩
def sg75:Sig:=⟨92,2,[⟨false,false,3,1,.c (.sl []),[[.atm (.v 1)]]⟩,⟨false,false,154,1,.c (.sl []),[[(.clo 91 [] [.ptr 0 0 0])]]⟩],[.atm (.v 0),(.clo 93 [] [.ptr 0 0 0,.ptr 1 0 0])],2,[⟨false,false,3,1,.c (.sl []),[[.atm (.v 1)]]⟩,⟨false,false,154,1,.c (.sl []),[[(.clo 91 [] [.ptr 0 0 0])]]⟩],.atm (.v 0),false,[]⟩
def sg76:Sig:=⟨58,2,[],[.atm (.v 0),.atm (.v 1)],1,[],.atm (.v 0),false,[]⟩
def sg77:Sig:=⟨95,1,[],[.atm (.v 0)],1,[],.atm (.v 0),false,[]⟩
def sg78:Sig:=⟨96,2,[],[.atm (.v 0),.atm (.v 1)],1,[],.atm (.v 0),false,[]⟩
def sg79:Sig:=⟨66,1,[],[.atm (.v 0)],1,[],.atm (.v 0),false,[]⟩
def sg80:Sig:=⟨97,1,[],[.atm (.v 0)],2,[],(.tup [.atm (.v 0),.atm (.v 1)]),false,[]⟩
def sg81:Sig:=⟨98,7,[],[.atm (.v 0),(.agg [.atm (.v 1),.atm (.v 2),.atm (.v 3)]),(.agg [.atm (.v 4),.atm (.v 5),.atm (.v 6)])],3,[],(.agg [.atm (.v 0),.atm (.v 1),.atm (.v 2)]),true,[]⟩
def sg82:Sig:=⟨100,4,[⟨false,false,85,4,.c (.sl []),[[.atm (.v 0),.atm (.v 1),.atm (.v 2),.atm (.v 3)]]⟩],[.ptr 0 0 0],7,[⟨false,false,85,4,.c (.sl []),[[.atm (.v 3),.atm (.v 4),.atm (.v 5),.atm (.v 6)]]⟩],(.agg [.atm (.v 0),.atm (.v 1),.atm (.v 2)]),true,[]⟩
def sg83:Sig:=⟨101,1,[],[.atm (.v 0)],1,[],.atm (.v 0),false,[]⟩
def sg84:Sig:=⟨67,3,[],[(.agg [.atm (.v 0),.atm (.v 1),.atm (.v 2)]),(.atm (.c (fnD 68)))],1,[],.atm (.v 0),false,[]⟩
def sg85:Sig:=⟨67,3,[],[(.agg [.atm (.v 0),.atm (.v 1),.atm (.v 2)]),(.atm (.c (fnD 69)))],1,[],.atm (.v 0),false,[]⟩
def sg86:Sig:=⟨105,2,[],[.atm (.v 0),.atm (.v 1)],1,[],.atm (.v 0),false,[]⟩
def sg87:Sig:=⟨106,1,[],[.atm (.v 0)],1,[],.atm (.v 0),false,[]⟩
def sg88:Sig:=⟨107,1,[⟨false,false,22,1,.c (.sl []),[[.atm (.v 0)]]⟩],[(.clo 109 [] [.ptr 0 0 0])],2,[⟨false,false,22,1,.c (.sl []),[[.atm (.v 1)]]⟩,⟨false,true,3,1,.v 0,[]⟩],.own 1,true,[]⟩
def sg89:Sig:=⟨108,1,[⟨false,true,3,1,.v 0,[]⟩],[.own 0],1,[⟨false,true,3,1,.v 0,[]⟩],(.tup []),false,[0]⟩
def sg90:Sig:=⟨110,2,[],[.atm (.v 0),.atm (.v 1)],1,[],.atm (.v 0),false,[]⟩
def sg91:Sig:=⟨111,1,[],[.atm (.v 0)],1,[],.atm (.v 0),false,[]⟩
def sg92:Sig:=⟨112,2,[],[.atm (.v 0),.atm (.v 1)],1,[],.atm (.v 0),false,[]⟩
def sg93:Sig:=⟨113,1,[],[.atm (.v 0)],1,[],.atm (.v 0),false,[]⟩
def sg94:Sig:=⟨114,6,[],[(.agg [.atm (.v 0),.atm (.v 1)]),.atm (.v 2),.atm (.v 3),.atm (.v 4),.atm (.v 5)],1,[],.atm (.v 0),false,[]⟩
def sg95:Sig:=⟨115,0,[],[],1,[],.atm (.v 0),true,[]⟩
def sg96:Sig:=⟨116,0,[],[],1,[],.atm (.v 0),true,[]⟩
def sg97:Sig:=⟨117,0,[],[],1,[],.atm (.v 0),true,[]⟩
def sg98:Sig:=⟨118,2,[⟨false,false,3,1,.c (.sl []),[[.atm (.v 1)]]⟩,⟨false,false,154,1,.c (.sl []),[[(.clo 91 [] [.ptr 0 0 0])]]⟩],[.atm (.v 0),(.clo 93 [] [.ptr 0 0 0,.ptr 1 0 0])],2,[⟨false,false,3,1,.c (.sl []),[[.atm (.v 1)]]⟩,⟨false,false,154,1,.c (.sl []),[[(.clo 91 [] [.ptr 0 0 0])]]⟩],.atm (.v 0),false,[]⟩
def sg99:Sig:=⟨121,6,[⟨false,false,85,4,.c (.sl []),[[.atm (.v 2),.atm (.v 3),.atm (.v 4),.atm (.v 5)]]⟩],[.ptr 0 0 0,.atm (.v 0),.atm (.v 1),(.clo 122 [.ptr 0 0 0] [])],7,[⟨false,false,85,4,.c (.sl []),[[.atm (.v 3),.atm (.v 4),.atm (.v 5),.atm (.v 6)]]⟩],(.agg [.atm (.v 0),.atm (.v 1),.atm (.v 2)]),true,[]⟩
def sg100:Sig:=⟨68,3,[],[(.agg [.atm (.v 0),.atm (.v 1),.atm (.v 2)])],1,[],.atm (.v 0),false,[]⟩
def sg101:Sig:=⟨69,3,[],[(.agg [.atm (.v 0),.atm (.v 1),.atm (.v 2)])],1,[],.atm (.v 0),false,[]⟩
def sg102:Sig:=⟨128,1,[],[.atm (.v 0)],1,[],.atm (.v 0),false,[]⟩
def sg103:Sig:=⟨129,2,[],[.atm (.v 0),.atm (.v 1)],1,[],.atm (.v 0),false,[]⟩
def sg104:Sig:=⟨93,2,[⟨false,false,3,1,.c (.sl []),[[.atm (.v 1)]]⟩,⟨false,false,154,1,.c (.sl []),[[(.clo 91 [] [.ptr 0 0 0])]]⟩],[.atm (.v 0),.ptr 0 0 0,.ptr 1 0 0],2,[⟨false,false,3,1,.c (.sl []),[[.atm (.v 1)]]⟩,⟨false,false,154,1,.c (.sl []),[[(.clo 91 [] [.ptr 0 0 0])]]⟩],.atm (.v 0),false,[]⟩
def sg105:Sig:=⟨122,4,[⟨false,false,85,4,.c (.sl []),[[.atm (.v 0),.atm (.v 1),.atm (.v 2),.atm (.v 3)]]⟩],[.ptr 0 0 0],7,[⟨false,false,85,4,.c (.sl []),[[.atm (.v 3),.atm (.v 4),.atm (.v 5),.atm (.v 6)]]⟩],(.agg [.atm (.v 0),.atm (.v 1),.atm (.v 2)]),true,[]⟩
def sg106:Sig:=⟨94,2,[⟨false,false,3,1,.c (.sl []),[[.atm (.v 1)]]⟩],[.atm (.v 0),(.clo 91 [] [.ptr 0 0 0])],2,[⟨false,false,3,1,.c (.sl []),[[.atm (.v 1)]]⟩],.atm (.v 0),false,[]⟩
def sg107:Sig:=⟨121,6,[⟨false,false,85,4,.c (.sl []),[[.atm (.v 2),.atm (.v 3),.atm (.v 4),.atm (.v 5)]]⟩],[.ptr 0 0 0,.atm (.v 0),.atm (.v 1),(.clo 150 [.ptr 0 0 0] [])],7,[⟨false,false,85,4,.c (.sl []),[[.atm (.v 3),.atm (.v 4),.atm (.v 5),.atm (.v 6)]]⟩],(.agg [.atm (.v 0),.atm (.v 1),.atm (.v 2)]),true,[]⟩
def sg108:Sig:=⟨119,2,[⟨false,false,3,1,.c (.sl []),[[.atm (.v 1)]]⟩],[.atm (.v 0),(.clo 91 [] [.ptr 0 0 0])],2,[⟨false,false,3,1,.c (.sl []),[[.atm (.v 1)]]⟩],.atm (.v 0),false,[]⟩
def sg109:Sig:=⟨150,4,[⟨false,false,85,4,.c (.sl []),[[.atm (.v 0),.atm (.v 1),.atm (.v 2),.atm (.v 3)]]⟩],[.ptr 0 0 0],7,[⟨false,false,85,4,.c (.sl []),[[.atm (.v 3),.atm (.v 4),.atm (.v 5),.atm (.v 6)]]⟩],(.agg [.atm (.v 0),.atm (.v 1),.atm (.v 2)]),true,[]⟩
def sg110:Sig:=⟨91,2,[⟨false,false,3,1,.c (.sl []),[[.atm (.v 1)]]⟩],[.atm (.v 0),.ptr 0 0 0],2,[⟨false,false,3,1,.c (.sl []),[[.atm (.v 1)]]⟩],.atm (.v 0),false,[]⟩
def sigs:List Sig:=[sg0,sg1,sg2,sg3,sg4,sg5,sg6,sg7,sg8,sg9,sg10,sg11,sg12,sg13,sg14,sg15,sg16,sg17,sg18,sg19,sg20,sg21,sg22,sg23,sg24,sg25,sg26,sg27,sg28,sg29,sg30,sg31,sg32,sg33,sg34,sg35,sg36,sg37,sg38,sg39,sg40,sg41,sg42,sg43,sg44,sg45,sg46,sg47,sg48,sg49,sg50,sg51,sg52,sg53,sg54,sg55,sg56,sg57,sg58,sg59,sg60,sg61,sg62,sg63,sg64,sg65,sg66,sg67,sg68,sg69,sg70,sg71,sg72,sg73,sg74,sg75,sg76,sg77,sg78,sg79,sg80,sg81,sg82,sg83,sg84,sg85,sg86,sg87,sg88,sg89,sg90,sg91,sg92,sg93,sg94,sg95,sg96,sg97,sg98,sg99,sg100,sg101,sg102,sg103,sg104,sg105,sg106,sg107,sg108,sg109,sg110]
def an0:Ann:=(.s none .z (.s none .z (.s none .z (.s none .z (.s none .z (.s none .z (.s none .z (.s none (.s (some ⟨1,(jk [0,2,3,8,10,43,44,45,46,47,48,49,50,51,52,53,54,55,56,57,58,59,60,61]++[(67,(.atm (.v 0)))]),[],3,[]⟩) .z .z) (.s none .z (.s none (.s none .z (.b (.l ⟨2,[(7,.junk),(67,.junk),(70,(.atm (.v 0)))],[(3,⟨false,true,39,3,.v 1,[]⟩)],4,[⟨none,11,39,3⟩]⟩ (.s none .z (.s none .z (.s none (.b (.s none .z (.s none .z (.s none .z (.s none (.s (some ⟨1,(jk [13,14,15,17,18,71,72,73,74,75,76,77,78,79,80,81,82,83,84]++[(90,(.atm (.v 0)))]),[],6,[]⟩) .z .z) .z))))) .z)))))) (.s none (.s none .z (.b (.l ⟨2,(jk [68,69,70,71,96]++[(98,(.atm (.v 0)))]),[(2,⟨false,true,45,6,.v 1,[]⟩)],4,[]⟩ (.s none .z (.s none .z (.s none (.b (.s none .z (.s none .z (.s none .z (.s none .z (.s none .z (.s none (.s (some ⟨1,(jk [20,21,22,23,25,26,28,29,99,100,101,102,103,104,105,106,107,108,109,110,111,112,113,114,115,116,117,118,119,120,121,122,123,124,125,126,127,128,129,130]++[(144,(.atm (.v 0)))]),[],6,[]⟩) .z .z) .z))))))) .z)))))) (.s none .z (.s none .z (.s none (.s (some ⟨1,(jk [9,11,30,31,32,33,97,98,99,152,153,154,155,156,157,158,159,160,161,162,163]++[(181,(.atm (.v 0)))]),[],6,[]⟩) .z .z) (.s none .z (.s none .z (.s none (.s none .z (.b (.l ⟨2,[(35,(.atm (.v 0))),(181,.junk),(182,.junk),(183,.junk)],[(6,⟨false,true,29,2,.v 1,[]⟩)],7,[⟨none,34,29,2⟩]⟩ (.s none .z (.s none (.b (.s none .z (.s none .z (.s (some ⟨2,(jk [37,185,186,187,188,189,190,193,194,195,196,197,198,199,200,201,202]),[(8,⟨false,false,29,2,.c (.sl []),[[.atm (.v 0),.atm (.v 1)]]⟩)],9,[]⟩) .z .z)))) .z))))) .z)))))))))))))))))
def ir0p0:IR:=(.ite (.v 30) (.ret [bk false]) (.op (.mk 3 1) [.v 25,.v 26,.v 27] (.op (.app 3 48) [.v 18,.v 31] (.op (pb .add) [.v 17,ik 1] (.jump 0 [.v 33,.v 32])))))
def ir0p1:IR:=(.ite (.v 44) (.ret [bk false]) (.op .chk [.v 22,.v 21] (.op (.set 0 6) [.v 22,.v 21,.v 34,.v 35,.v 36,.v 39,.v 40,.v 41] (.op (pb .add) [.v 21,ik 1] (.jump 1 [.v 46,.v 45])))))
def ir0p2:IR:=(.op (.mk 2 1) [.v 44,.v 45] (.op (.app 2 48) [.v 33,.v 46] (.op (pb .add) [.v 32,ik 1] (.jump 2 [.v 48,.v 47]))))
def ir0p3:IR:=(.op (.conv .u64) [.v 3] (.op (pb .shl) [.c (.int .u64 1),.v 34] (.op (pb .shl) [ik 1,.v 35] (.op (pb .lss) [.v 32,.v 36] (.ite (.v 37) (.op (.conv .u64) [.v 32] (.op (.mk 1 1) [.v 38] (.call 13 3 false [] [.v 6,.v 39] (.op (pb .neq) [.v 42,ik 0] (.ite (.v 43) (.ret [bk false]) (.letj 2 (.op (.conv .u64) [.v 32] (.call 14 1 false [] [.v 7,.v 8] (.op (pb .eql) [.v 44,.v 45] (.ite (.v 46) (.jump 3 [.v 7,.v 8]) (.jump 3 [.v 40,.v 41]))))) ir0p2)))))) (.call 15 3 false [] [.v 33,ik 1] (.call 16 2 false [] [.v 38,.v 39,ik 1,.v 6] (.call 14 1 false [] [.v 7,.v 8] (.op (.conv .i64) [.v 43] (.op (pb .eql) [.v 40,ik 0] (.ite (.v 45) (.op (pb .eql) [.v 42,ik 0] (.ite (.v 46) (.op .lenL [.v 41] (.op (pb .lss) [.v 44,.v 47] (.ite (.v 48) (.op (.row 2) [.v 41,.v 44] (.call 11 1 false [] [.v 49,.v 50,.v 7,.v 8] (.ite (.v 51) (.call 12 1 false [] [] (.ret [.v 52])) (.ret [bk false])))) (.ret [bk false])))) (.ret [bk false]))) (.ret [bk false]))))))))))))
def ir0p4:IR:=(.ite (.v 30) (.ret [bk false]) (.op (pb .gtr) [.v 3,ik 2] (.ite (.v 31) (.call 12 1 false [] [] (.ret [.v 32])) (.loop 2 [ik 0,nl] ir0p3))))
def ir0p5:IR:=(.op (pb .lss) [.v 21,.v 20] (.ite (.v 23) (.op .chk [.v 22,.v 21] (.op (.get 0 3) [.v 22,.v 21] (.call 7 2 false [] [.v 24,.v 25,.v 26] (.op .chk [.v 22,.v 21] (.op (.get 3 3) [.v 22,.v 21] (.call 7 2 false [] [.v 29,.v 30,.v 31] (.call 8 5 false [] [.v 27] (.call 8 5 false [] [.v 32] (.letj 1 (.op (pb .neq) [.v 28,ik 0] (.ite (.v 44) (.jump 2 [bk true]) (.op (pb .neq) [.v 33,ik 0] (.ite (.v 45) (.jump 2 [bk true]) (.op (pb .neq) [.v 38,ik 0] (.ite (.v 46) (.jump 2 [bk true]) (.op (pb .neq) [.v 43,ik 0] (.jump 2 [.v 47])))))))) ir0p1))))))))) (.call 9 3 false [] [.v 6,.v 18] (.call 10 3 false [] [.v 6,.v 22] (.letj 1 (.op (pb .neq) [.v 26,ik 0] (.ite (.v 30) (.jump 2 [bk true]) (.op (pb .neq) [.v 29,ik 0] (.ite (.v 31) (.jump 2 [bk true]) (.call 11 1 false [] [.v 24,.v 25,.v 7,.v 8] (.op (.un .not) [.v 32] (.ite (.v 33) (.jump 2 [bk true]) (.call 11 1 false [] [.v 27,.v 28,.v 7,.v 8] (.op (.un .not) [.v 34] (.jump 2 [.v 35])))))))))) ir0p4)))))
def ir0p6:IR:=(.op (pb .lss) [.v 17,.v 16] (.ite (.v 19) (.op (.row 3) [.v 11,.v 17] (.call 7 2 false [] [.v 20,.v 21,.v 22] (.call 8 5 false [] [.v 23] (.letj 1 (.op (pb .neq) [.v 24,ik 0] (.ite (.v 30) (.jump 1 [bk true]) (.op (pb .neq) [.v 29,ik 0] (.jump 1 [.v 31])))) ir0p0)))) (.op .lenL [.v 13] (.loop 2 [ik 0,.v 13] ir0p5))))
def ir0p7:IR:=(.ite (.v 15) (.ret [bk false]) (.op .lenL [.v 11] (.loop 2 [ik 0,nl] ir0p6)))
def ir0:IR:=(.call 1 2 false [] [.v 0] (.call 2 3 false [] [ik 1,ik 3,.v 1,.v 2] (.call 3 1 false [] [.v 3] (.call 4 4 false [] [.v 3,.v 4,.v 5] (.call 5 2 false [] [.v 7,.v 8] (.call 6 2 false [0] [.v 7,.v 8] (.letj 1 (.op (pb .neq) [.v 12,ik 0] (.ite (.v 15) (.jump 0 [bk true]) (.op (pb .neq) [.v 14,ik 0] (.jump 0 [.v 16])))) ir0p7)))))))
theorem rd0:ai T SG sigs 3000 sg0 f3 an0=some ir0:=by kernel_rfl
def an1:Ann:=.z
def ir1:IR:=(.op .lenL [.v 0] (.op .min [.v 1,ik 2000] (.op (.subL 1) [.v 0,ik 0,.v 2] (.ret [.v 3,ik 0]))))
theorem rd1:ai T SG sigs 3000 sg1 f4 an1=some ir1:=by kernel_rfl
def an2:Ann:=.z
def ir2:IR:=(.op (pb .sub) [.v 1,.v 0] (.op (pb .add) [.v 4,ik 1] (.call 17 3 false [] [.v 5,.v 2,.v 3] (.op (pb .add) [.v 0,.v 6] (.ret [.v 9,.v 7,.v 8])))))
theorem rd2:ai T SG sigs 3000 sg2 f5 an2=some ir2:=by kernel_rfl
def an3:Ann:=(.s none .z (.s none .z (.s none (.s none .z (.b (.l ⟨2,[(2,.junk),(4,(.atm (.v 0)))],[(0,⟨false,true,9,1,.v 1,[]⟩)],1,[⟨none,3,9,1⟩]⟩ .z))) .z)))
def ir3p0:IR:=(.op (pb .lss) [.v 1,.v 0] (.ite (.v 3) (.op (pb .add) [ik 97,.v 1] (.op (.conv .u8) [.v 4] (.op (.mk 1 1) [.v 5] (.op .toS [.v 6] (.op (.mk 1 1) [.v 7] (.op (.app 1 16) [.v 2,.v 8] (.op (pb .add) [.v 1,ik 1] (.jump 0 [.v 10,.v 9])))))))) (.ret [.v 2])))
def ir3:IR:=(.loop 2 [ik 0,nl] ir3p0)
theorem rd3:ai T SG sigs 3000 sg3 f6 an3=some ir3:=by kernel_rfl
def an4:Ann:=(.s none .z (.s none .z (.s none .z (.s none (.s none .z (.b (.l ⟨4,(jk [10,11,12,13,14,15]++[(7,(.atm (.v 0)))]),[(0,⟨false,false,66,2,.c (.sl []),[[.atm (.v 1),.atm (.v 2)]]⟩),(2,⟨false,true,3,1,.v 3,[]⟩)],3,[]⟩ .z))) .z))))
def ir4p0:IR:=(.op .lenL [.v 12] (.op (pb .lss) [.v 9,.v 13] (.ite (.v 14) (.call 17 3 false [] [.v 6,.v 10,.v 11] (.op .chk [.v 12,.v 9] (.op (.set 0 1) [.v 12,.v 9,.v 15] (.op (pb .add) [.v 9,ik 1] (.jump 0 [.v 19,.v 16,.v 17,.v 18]))))) (.call 3 1 false [] [.v 0] (.call 18 3 false [] [.v 15,.v 12] (.ret [.v 16,.v 17,.v 10,.v 11]))))))
def ir4:IR:=(.op (.conv .u64) [.v 0] (.op (pb .shl) [ik 1,.v 3] (.op (.mkL 8 [(.int .i64 0)]) [.v 4] (.call 2 3 false [] [ik 1,ik 6,.v 1,.v 2] (.loop 4 [ik 0,.v 7,.v 8,.v 5] ir4p0)))))
theorem rd4:ai T SG sigs 3000 sg4 f7 an4=some ir4:=by kernel_rfl
def an5:Ann:=(.s none .z (.s none .z (.s none .z (.s none .z (.s none .z (.s none (.s none .z (.b (.l ⟨3,(jk [0,2,3,4,7,12,13,14,15,17,18,19,20,21,22]++[(5,(.atm (.v 0))),(25,(.atm (.v 1)))]),[(1,⟨false,true,39,3,.v 2,[]⟩)],2,[⟨none,6,39,3⟩]⟩ .z))) .z))))))
def ir5p0:IR:=(.op (pb .lss) [.v 10,.v 8] (.ite (.v 12) (.op (.row 1) [.v 7,.v 10] (.op (pb .or) [.v 9,.v 13] (.call 21 4 false [] [.v 0,.v 14] (.op (pb .neq) [.v 18,ik 0] (.ite (.v 19) (.ret [nl,.v 18]) (.op (.mk 3 1) [.v 15,.v 16,.v 17] (.op (.app 3 48) [.v 11,.v 20] (.op (pb .add) [.v 10,ik 1] (.jump 0 [.v 14,.v 22,.v 21]))))))))) (.call 22 1 false [0] [.v 11] (.ret [.v 13,ik 0]))))
def ir5:IR:=(.call 19 1 false [] [.v 0,.v 1] (.op (pb .neq) [.v 2,ik 0] (.ite (.v 3) (.ret [nl,.v 2]) (.call 20 1 false [] [.v 0,.v 1] (.op .lenL [.v 4] (.op (pb .sub) [.v 5,ik 1] (.op (.subL 1) [.v 4,ik 0,.v 6] (.op .lenL [.v 7] (.loop 3 [.c (.int .u64 0),ik 0,nl] ir5p0)))))))))
theorem rd5:ai T SG sigs 3000 sg5 f8 an5=some ir5:=by kernel_rfl
def an8:Ann:=(.s none .z (.s none .z (.s none .z (.s none .z (.s (some ⟨4,(jk [0,3,4,7,8,9,11,12,13,14,15]),[(1,⟨false,false,85,4,.c (.sl []),[[.atm (.v 0),.atm (.v 1),.atm (.v 2),.atm (.v 3)]]⟩)],3,[]⟩) .z (.s none .z (.s none (.s (some ⟨1,(jk [5,21,22,23,24,25]++[(44,(.atm (.v 0)))]),[],3,[]⟩) .z .z) .z)))))))
def ir8p0:IR:=(.ite (.v 15) (.ret [ik 0,.c (.str []),nl,ik 0,ik 2]) (.ret [.v 3,.v 4,.v 5,ik 0,ik 0]))
def ir8p1:IR:=(.op (pb .geq) [.v 12,ik 0] (.ite (.v 14) (.ret [ik 0,.c (.str []),nl,.v 12,ik 3]) (.letj 1 (.ite (.v 13) (.jump 0 [bk true]) (.call 26 1 false [] [.v 3,.v 4,.v 5] (.op (pb .gtr) [.v 15,ik 600] (.ite (.v 16) (.jump 0 [bk true]) (.call 27 1 false [] [.v 3,.v 4,.v 5] (.op (pb .gtr) [.v 17,ik 20] (.jump 0 [.v 18]))))))) ir8p0)))
def ir8:IR:=(.op .lenS [.v 0] (.op (pb .gtr) [.v 1,ik 4096] (.ite (.v 2) (.ret [ik 0,.c (.str []),nl,ik 0,ik 2]) (.call 23 7 false [] [.v 0,ik 0,ik (-1),bk false] (.letj 4 (.call 24 5 false [] [.c (.str []),.v 6,.v 7,.v 8,.v 9] (.op (.un .not) [.v 10] (.ite (.v 15) (.call 25 7 false [] [.v 11,.v 12,.v 13,.v 14] (.jump 0 [.v 19,.v 20,.v 21,.v 22])) (.jump 0 [.v 11,.v 12,.v 13,.v 14])))) ir8p1)))))
theorem rd8:ai T SG sigs 3000 sg8 f11 an8=some ir8:=by kernel_rfl
def an9:Ann:=(.g [(77,3)] (.s none .z (.s none .z (.s none .z (.s none .z (.s none (.s none .z (.b (.l ⟨1,[],[(4,⟨false,true,3,1,.v 0,[]⟩)],7,[]⟩ (.s none .z (.b (.s none .z (.s none .z (.s none .z (.b (.l ⟨2,(jk [26,27,28,29,30,31,32,33,34,35,40]++[(42,(.atm (.v 0)))]),[(4,⟨false,true,3,1,.v 1,[]⟩)],8,[]⟩ (.s none .z (.s none .z (.s (some ⟨2,[(11,(.atm (.v 0))),(43,.junk)],[(4,⟨false,true,3,1,.v 1,[]⟩)],8,[]⟩) .z .z))))))))))))) .z))))))
def ir9p0:IR:=(.op (pb .add) [.v 23,ik 1] (.jump 1 [.v 28,.v 27]))
def ir9p1:IR:=(.op (pb .lss) [.v 23,.v 22] (.ite (.v 25) (.letj 2 (.call 32 1 false [] [.v 19,.v 23] (.op (.un .not) [.v 26] (.ite (.v 27) (.op .lenL [.v 1] (.op (pb .sub) [.v 28,.v 14] (.op .chk [.v 24,.v 23] (.op (.set 0 1) [.v 24,.v 23,.v 29] (.jump 2 [.v 23,.v 30]))))) (.jump 2 [.v 23,.v 24])))) ir9p0) (.op (pb .sub) [.v 14,ik 1] (.jump 0 [.v 24,.v 26]))))
def ir9p2:IR:=(.op (pb .geq) [.v 14,ik 0] (.ite (.v 15) (.op (.row 3) [.v 9,.v 14] (.call 30 2 false [] [.v 0,.v 16,.v 17,.v 18] (.op (pb .neq) [.v 20,ik 0] (.ite (.v 21) (.call 31 1 false [] [.v 0,.v 1] (.ret [nl,nl,.v 22])) (.op .lenL [.v 13] (.loop 2 [ik 0,.v 13] ir9p1)))))) (.call 33 3 false [] [.v 0,.v 13] (.ret [.v 16,.v 17,.v 18]))))
def ir9:IR:=(.call 28 1 false [] [.v 0] (.op (.un .not) [.v 2] (.ite (.v 3) (.ret [nl,nl,ik 1]) (.op .lenL [.v 1] (.op (pb .gtr) [.v 4,ik 64] (.ite (.v 5) (.ret [nl,nl,ik 2]) (.op .lenL [.v 0] (.op (pb .shl) [ik 1,.v 6] (.op (.mkL 8 [(.int .i64 0)]) [.v 7] (.call 29 1 false [] [.v 1] (.op .lenL [.v 9] (.op (.subL 3) [.v 9,ik 0,.v 10] (.op (.room 1 0) [.v 9] (.op (pb .sub) [.v 10,ik 1] (.loop 2 [.v 8,.v 12] ir9p2)))))))))))))))
theorem rd9:ai T SG sigs 3000 sg9 f12 an9=some ir9:=by kernel_rfl
def an10:Ann:=(.s none .z (.s none .z (.s none .z (.s none .z (.s none .z (.s none .z (.s none (.s none .z (.b (.l ⟨2,(jk [1,5,7,13,14,15,16,17,18,19,20,23,24,25,26,27,28,29,32,33,34,35,36]++[(38,(.atm (.v 0)))]),[(1,⟨false,true,3,1,.v 1,[]⟩)],2,[]⟩ (.s none .z (.s none .z (.s none (.b (.s none .z (.s none .z (.b (.l ⟨2,[(39,.junk),(40,.junk),(43,(.atm (.v 0)))],[(1,⟨false,true,3,1,.v 1,[]⟩)],2,[]⟩ (.s none .z (.s none .z (.s (some ⟨3,[(44,.junk)],[(1,⟨false,true,3,1,.v 0,[]⟩),(2,⟨false,false,103,2,.c (.sl []),[[.atm (.v 1),.atm (.v 2)]]⟩)],3,[]⟩) .z .z)))))))) .z)))))) .z)))))))
def ir10p0:IR:=(.op (pb .add) [.v 16,ik 1] (.jump 1 [.v 22,.v 19]))
def ir10p1:IR:=(.op (pb .lss) [.v 16,.v 15] (.ite (.v 18) (.letj 3 (.op (.row 2) [.v 2,.v 16] (.call 32 1 false [] [.v 20,.v 12] (.ite (.v 21) (.op .chk [.v 17,.v 12] (.op (.get 0 1) [.v 17,.v 12] (.op (.row 1) [.v 5,.v 16] (.op (pb .add) [.v 23,ik 1] (.op .max [.v 22,.v 24] (.op .chk [.v 17,.v 12] (.op (.set 0 1) [.v 17,.v 12,.v 25] (.jump 2 [.v 26,.v 19,.v 20])))))))) (.jump 2 [.v 17,.v 19,.v 20])))) ir10p0) (.op (pb .add) [.v 12,ik 1] (.jump 0 [.v 19,.v 17]))))
def ir10p2:IR:=(.op (pb .lss) [.v 12,.v 11] (.ite (.v 14) (.op .lenL [.v 2] (.loop 2 [ik 0,.v 13] ir10p1)) (.call 33 3 false [] [.v 0,.v 13] (.ret [.v 15,.v 16,.v 17]))))
def ir10:IR:=(.call 34 2 false [] [.v 0,.v 1] (.op (pb .neq) [.v 3,ik 0] (.ite (.v 4) (.ret [nl,nl,.v 3]) (.call 35 2 false [] [.v 2] (.op (pb .neq) [.v 6,ik 0] (.ite (.v 7) (.ret [nl,nl,.v 6]) (.op .lenL [.v 0] (.op (pb .shl) [ik 1,.v 8] (.op (.mkL 8 [(.int .i64 0)]) [.v 9] (.op .lenL [.v 10] (.loop 2 [ik 0,.v 10] ir10p2)))))))))))
theorem rd10:ai T SG sigs 3000 sg10 f13 an10=some ir10:=by kernel_rfl
def an11:Ann:=.z
def ir11:IR:=(.call 36 1 false [] [.v 0,.v 2] (.ite (.v 4) (.call 37 1 false [] [.v 1,.v 3] (.ret [.v 5])) (.ret [bk false])))
theorem rd11:ai T SG sigs 3000 sg11 f14 an11=some ir11:=by kernel_rfl
def an12:Ann:=.z
def ir12:IR:=(.call 3 1 false [] [ik 2] (.op (.mk 1 4) [ik 2,ik 1,ik 2,ik 0] (.call 33 3 false [] [.v 0,.v 1] (.op (.row 1) [.v 0,ik 1] (.op (.mk 3 1) [ik 3,.v 5,nl] (.call 38 2 true [] [.v 2,.v 3,ik 4,.c (.str []),.v 6] (.call 39 3 false [] [.v 2,.v 3,ik 4,.c (.str []),.v 6,ik 2] (.op (pb .eql) [.v 4,ik 0] (.ite (.v 12) (.op (pb .eql) [.v 8,ik 0] (.ite (.v 13) (.op (pb .eql) [.v 11,ik 0] (.ite (.v 14) (.op (pb .eql) [.v 7,.c (.int .u64 2)] (.ite (.v 15) (.op (.mk 1 4) [ik 1,ik 0,ik 3,ik 2] (.call 40 1 true [] [.v 10,.v 16] (.ret [.v 17]))) (.ret [bk false]))) (.ret [bk false]))) (.ret [bk false]))) (.ret [bk false]))))))))))
theorem rd12:ai T SG sigs 3000 sg12 f15 an12=some ir12:=by kernel_rfl
def an13:Ann:=(.s none .z (.s none .z (.s none .z (.s none (.s none .z (.b (.l ⟨2,(jk [5,8,9,10,12,13,14,15,16]++[(18,(.atm (.v 0)))]),[(1,⟨false,true,3,1,.v 1,[]⟩)],2,[]⟩ (.s none .z (.s none .z (.s none (.b (.s none .z (.f [7] .z))) .z)))))) .z))))
def ir13p0:IR:=(.op (pb .lss) [.v 8,.v 7] (.ite (.v 10) (.call 41 1 false [0] [.v 1] (.op (.mk 1 1) [.c (.int .u64 18446744073709551615)] (.op (.app 1 8) [.v 11,.v 12] (.call 42 1 true [] [.v 13,.v 8] (.op .chk [.v 9,.v 8] (.op (.set 0 1) [.v 9,.v 8,.v 14] (.op (pb .add) [.v 8,ik 1] (.jump 0 [.v 16,.v 15])))))))) (.call 33 3 false [] [.v 0,.v 9] (.ret [.v 11,.v 12,.v 13]))))
def ir13:IR:=(.call 28 1 false [] [.v 0] (.op (.un .not) [.v 2] (.ite (.v 3) (.ret [nl,nl,ik 1]) (.op .lenL [.v 0] (.op (pb .shl) [ik 1,.v 4] (.op (.mkL 8 [(.int .i64 0)]) [.v 5] (.op .lenL [.v 6] (.loop 2 [ik 0,.v 6] ir13p0))))))))
theorem rd13:ai T SG sigs 3000 sg13 f16 an13=some ir13:=by kernel_rfl
def an14:Ann:=.z
def ir14:IR:=(.call 43 1 false [] [.v 0,.v 1,.c (.int .u64 18446744073709551615)] (.ret [.v 2]))
theorem rd14:ai T SG sigs 3000 sg14 f17 an14=some ir14:=by kernel_rfl
def an15:Ann:=(.s none .z (.s none .z (.s none .z (.s none .z (.s none .z (.s none (.s none .z (.b (.l ⟨2,(jk [5,6,15,16,17,18,19,22,23,24,25,26,27,28,29,30,31,32,33]++[(35,(.atm (.v 0)))]),[(2,⟨false,true,22,1,.v 1,[]⟩)],3,[⟨some (1,0,1),0,22,1⟩]⟩ (.s none .z (.s none .z (.s none (.b (.s none .z (.s none .z (.s none (.s none .z (.b (.l ⟨2,(jk [36,37,38,39,40]++[(42,(.atm (.v 0)))]),[(3,⟨false,true,3,1,.v 1,[]⟩)],4,[]⟩ (.s none .z (.s none .z (.s (some ⟨1,[(43,.junk)],[(3,⟨false,true,3,1,.v 0,[]⟩)],4,[]⟩) (.b (.s none .z (.s none .z (.b (.s none .z (.c .z (.s none .z (.c .z (.s none .z (.b (.l ⟨2,(jk [43,44,45,69,70,81,82]++[(48,(.atm (.v 0)))]),[(3,⟨false,true,3,1,.v 1,[]⟩)],4,[]⟩ (.s none .z (.s none .z (.s (some ⟨3,[(49,.junk)],[(3,⟨false,true,3,1,.v 0,[]⟩),(4,⟨false,false,29,2,.c (.sl []),[[.atm (.v 1),.atm (.v 2)]]⟩)],5,[]⟩) .z .z)))))))))))))) .z)))))) .z)))) .z)))))) .z))))))
def ir15p0:IR:=(.op (pb .add) [.v 16,ik 1] (.jump 1 [.v 20,.v 19]))
def ir15p1:IR:=(.op (pb .add) [.v 22,ik 1] (.jump 3 [.v 28,.v 25]))
def ir15p2:IR:=(.op (pb .lss) [.v 22,.v 21] (.ite (.v 24) (.letj 3 (.op (.row 2) [.v 0,.v 22] (.op (pb .shr) [.v 11,.v 22] (.op (pb .and) [.v 27,ik 1] (.op (pb .eql) [.v 28,ik 1] (.ite (.v 29) (.op .chk [.v 23,.v 16] (.op (.get 0 1) [.v 23,.v 16] (.call 45 1 false [] [.v 25,.v 26,.v 16] (.op (pb .or) [.v 30,.v 31] (.op .chk [.v 23,.v 16] (.op (.set 0 1) [.v 23,.v 16,.v 32] (.jump 4 [.v 33,.v 25,.v 26]))))))) (.jump 4 [.v 23,.v 25,.v 26])))))) ir15p1) (.jump 2 [.v 23])))
def ir15p3:IR:=(.op (pb .lss) [.v 16,.v 15] (.ite (.v 18) (.letj 1 (.op (pb .eql) [.v 1,ik 1] (.ite (.v 19) (.op (.row 2) [.v 0,.v 11] (.call 45 1 false [] [.v 20,.v 21,.v 16] (.op .chk [.v 17,.v 16] (.op (.set 0 1) [.v 17,.v 16,.v 22] (.jump 2 [.v 23]))))) (.op (pb .eql) [.v 1,ik 2] (.ite (.v 20) (.op (.row 2) [.v 0,.v 11] (.op (pb .sub) [.v 10,ik 1] (.op (pb .sub) [.v 23,.v 16] (.call 45 1 false [] [.v 21,.v 22,.v 24] (.op (pb .or) [.v 11,.v 25] (.op .chk [.v 17,.v 16] (.op (.set 0 1) [.v 17,.v 16,.v 26] (.jump 2 [.v 27])))))))) (.op .lenL [.v 0] (.loop 2 [ik 0,.v 17] ir15p2)))))) ir15p0) (.op (.mk 1 1) [.v 17] (.op (.app 1 24) [.v 12,.v 19] (.op (pb .add) [.v 11,ik 1] (.jump 0 [.v 21,.v 20]))))))
def ir15p4:IR:=(.op (pb .lss) [.v 11,.v 10] (.ite (.v 13) (.op (.mkL 8 [(.int .i64 0)]) [.v 10] (.op .lenL [.v 14] (.loop 2 [ik 0,.v 14] ir15p3))) (.ret [.v 6,.v 12,ik 0])))
def ir15:IR:=(.call 44 1 false [] [.v 0,.v 1] (.op (pb .neq) [.v 2,ik 0] (.ite (.v 3) (.ret [ik 0,nl,.v 2]) (.op (.row 2) [.v 0,ik 0] (.op .lenL [.v 4] (.op (.row 2) [.v 0,ik 0] (.op .lenL [.v 8] (.op (pb .shl) [ik 1,.v 9] (.loop 2 [ik 0,nl] ir15p4)))))))))
theorem rd15:ai T SG sigs 3000 sg15 f18 an15=some ir15:=by kernel_rfl
def an16:Ann:=(.s none .z (.s none (.b (.s none .z (.c .z (.s (some ⟨1,(jk [0,6,7,21,22,23,24]++[(25,(.atm (.v 0)))]),[],1,[]⟩) .z (.c .z (.s (some ⟨1,[(25,.junk),(32,(.atm (.v 0)))],[],1,[]⟩) .z .z)))))) (.s none .z (.s none .z (.s none (.s none .z (.b (.l ⟨2,(jk [32,43,44,45,46,47]++[(50,(.atm (.v 0)))]),[(1,⟨false,true,29,2,.v 1,[]⟩)],2,[⟨none,9,29,2⟩]⟩ (.s none .z (.s none .z (.s none (.b (.s none .z (.s none .z (.s none .z (.s none (.s none .z (.b (.l ⟨3,(jk [51,52,53,54,55,56,57]++[(13,(.atm (.v 0))),(14,(.atm (.v 1)))]),[(2,⟨false,true,3,1,.v 2,[]⟩)],3,[]⟩ (.s none .z (.s none (.b (.s none .z (.s (some ⟨1,(jk [58,59,62,63,64,65]++[(15,(.atm (.v 0)))]),[],3,[]⟩) .z (.s none .z (.s none (.s none .z (.b (.l ⟨2,(jk [74,75,76,77,78,79]++[(81,(.atm (.v 0)))]),[(2,⟨false,true,3,1,.v 1,[]⟩)],3,[]⟩ (.s none .z (.s none .z (.s (some ⟨1,[(82,.junk)],[(2,⟨false,true,3,1,.v 0,[]⟩)],3,[]⟩) .z .z)))))) .z))))) .z))))) .z))))) .z)))))) (.s none .z (.s none (.s (some ⟨1,(jk [1,2,3,8,19,20,48,49,50,51,111,112,113,114,115,116]++[(126,(.atm (.v 0)))]),[],3,[]⟩) .z .z) .z)))))))
def ir16p0:IR:=(.op (pb .add) [.v 26,ik 1] (.jump 2 [.v 30,.v 29]))
def ir16p1:IR:=(.op (pb .lss) [.v 26,.v 25] (.ite (.v 28) (.letj 1 (.op (pb .shr) [.v 23,.v 26] (.op (pb .and) [.v 29,ik 1] (.op (pb .eql) [.v 30,ik 1] (.ite (.v 31) (.op .chk [.v 27,.v 26] (.op (.set 0 1) [.v 27,.v 26,.v 18] (.jump 3 [.v 32]))) (.jump 3 [.v 27]))))) ir16p0) (.op (pb .andNot) [.v 17,.v 23] (.op (pb .add) [.v 18,ik 1] (.jump 1 [.v 29,.v 30,.v 27])))))
def ir16p2:IR:=(.op (pb .and) [.v 22,.v 17] (.op (pb .eql) [.v 23,ik 0] (.ite (.v 24) (.ret [nl,ik 9]) (.op .lenL [.v 19] (.loop 2 [ik 0,.v 19] ir16p1)))))
def ir16p3:IR:=(.op (pb .neq) [.v 17,ik 0] (.ite (.v 20) (.op (.row 1) [.v 14,.v 17] (.letj 1 (.op (pb .eql) [.v 2,ik 2] (.ite (.v 22) (.op (pb .andNot) [.v 9,.v 17] (.op (.row 1) [.v 14,.v 23] (.jump 2 [.v 24]))) (.jump 2 [.v 21]))) ir16p2)) (.call 33 3 false [] [.v 3,.v 19] (.op (pb .neq) [.v 23,ik 0] (.ite (.v 24) (.ret [nl,.v 23]) (.op (.mk 2 1) [.v 21,.v 22] (.op (.app 2 48) [.v 12,.v 25] (.op (pb .add) [.v 11,ik 1] (.jump 0 [.v 27,.v 26])))))))))
def ir16p4:IR:=(.ite (.v 17) (.ret [nl,ik 9]) (.ret [.v 12,ik 0]))
def ir16p5:IR:=(.op (pb .lss) [.v 11,.v 10] (.ite (.v 13) (.op (.row 1) [.v 1,.v 11] (.call 47 1 false [] [.v 0,.v 1] (.op (.mkL 8 [(.int .i64 0)]) [.v 15] (.loop 3 [.v 9,ik 0,.v 16] ir16p3)))) (.call 15 3 false [] [.v 12,.v 2] (.letj 1 (.op (pb .neq) [.v 16,ik 0] (.ite (.v 17) (.jump 1 [bk true]) (.call 48 1 false [] [.v 15,.v 1] (.op (.un .not) [.v 18] (.jump 1 [.v 19]))))) ir16p4))))
def ir16p6:IR:=(.ite (.v 7) (.ret [nl,ik 1]) (.op .lenL [.v 1] (.op (pb .sub) [.v 8,ik 1] (.op .lenL [.v 1] (.loop 2 [ik 0,nl] ir16p5)))))
def ir16p7:IR:=(.ite (.v 6) (.ret [nl,ik 4]) (.letj 1 (.call 28 1 false [] [.v 3] (.op (.un .not) [.v 7] (.ite (.v 8) (.jump 0 [bk true]) (.op .lenL [.v 3] (.op (pb .neq) [.v 9,.v 0] (.jump 0 [.v 10])))))) ir16p6))
def ir16:IR:=(.call 46 1 false [] [.v 0,.v 1] (.op (pb .neq) [.v 4,ik 0] (.ite (.v 5) (.ret [nl,ik 1]) (.letj 1 (.op (pb .neq) [.v 2,ik 1] (.ite (.v 6) (.op (pb .neq) [.v 2,ik 2] (.jump 0 [.v 7])) (.jump 0 [bk false]))) ir16p7))))
theorem rd16:ai T SG sigs 3000 sg16 f19 an16=some ir16:=by kernel_rfl
def an17:Ann:=.z
def ir17:IR:=(.call 49 3 false [] [.v 1,.v 2] (.call 50 1 false [] [.v 3,.v 0] (.ret [.v 6,.v 4,.v 5])))
theorem rd17:ai T SG sigs 3000 sg17 f20 an17=some ir17:=by kernel_rfl
def an18:Ann:=(.s none .z (.s none (.s (some ⟨1,[(5,.junk),(21,(.atm (.v 0)))],[],1,[]⟩) .z .z) (.s none .z (.s none (.s none .z (.b (.l ⟨2,(jk [0,21,24,25,26,27,28,29]++[(7,(.atm (.v 0)))]),[(6,⟨false,true,3,1,.v 1,[]⟩)],9,[]⟩ (.s none .z (.s none (.b (.s none .z (.s none (.s none .z (.b (.l ⟨2,(jk [30,31,32,33]++[(9,(.atm (.v 0)))]),[(9,⟨false,true,3,1,.v 1,[]⟩)],10,[⟨none,8,3,1⟩]⟩ (.s none .z (.s (some ⟨1,(jk [36,37,38,39]),[(9,⟨false,true,3,1,.v 0,[]⟩)],10,[]⟩) (.b (.s (some ⟨1,(jk [36,37,38,39]++[(59,(.atm (.v 0)))]),[],10,[]⟩) .z .z)) .z))))) .z))) .z))))) .z))))
def ir18p0:IR:=(.op (pb .add) [.v 10,ik 1] (.jump 1 [.v 15,.v 14]))
def ir18p1:IR:=(.ite (.v 14) (.op (.row 1) [.v 1,.v 10] (.op (.mk 1 1) [.v 15] (.op (.app 1 8) [.v 11,.v 16] (.jump 2 [.v 17])))) (.jump 2 [.v 11]))
def ir18p2:IR:=(.op .lenL [.v 1] (.op (pb .lss) [.v 10,.v 12] (.ite (.v 13) (.letj 1 (.letj 1 (.op (.row 1) [.v 1,.v 10] (.op (.row 1) [.v 1,.v 6] (.op (pb .lss) [.v 14,.v 15] (.ite (.v 16) (.op (.row 1) [.v 1,.v 10] (.call 52 1 true [] [.v 11,.v 17] (.op (.un .not) [.v 18] (.jump 3 [.v 19])))) (.jump 3 [bk false]))))) ir18p1) ir18p0) (.op .lenL [.v 11] (.op .chk [.v 7,.v 6] (.op (.set 0 1) [.v 7,.v 6,.v 14] (.op (pb .add) [.v 6,ik 1] (.jump 0 [.v 16,.v 15]))))))))
def ir18p3:IR:=(.op .lenL [.v 1] (.op (pb .lss) [.v 6,.v 8] (.ite (.v 9) (.loop 2 [ik 0,nl] ir18p2) (.ret [.v 3,.v 7,ik 0]))))
def ir18p4:IR:=(.ite (.v 2) (.ret [nl,nl,ik 1]) (.op (.app 1 16) [nl,.v 0] (.op .lenL [.v 1] (.op (.mkL 8 [(.int .i64 0)]) [.v 4] (.loop 2 [ik 0,.v 5] ir18p3)))))
def ir18:IR:=(.letj 1 (.call 51 1 false [] [.v 0] (.op (.un .not) [.v 2] (.ite (.v 3) (.jump 0 [bk true]) (.op .lenL [.v 1] (.op .lenL [.v 0] (.op (.conv .u64) [.v 5] (.op (pb .shl) [ik 1,.v 6] (.op (pb .neq) [.v 4,.v 7] (.jump 0 [.v 8]))))))))) ir18p4)
theorem rd18:ai T SG sigs 3000 sg18 f21 an18=some ir18:=by kernel_rfl
def an19:Ann:=(.s none .z (.s none (.s (some ⟨1,[(0,.junk),(2,.junk),(20,(.atm (.v 0)))],[],1,[]⟩) .z .z) (.s none .z (.s none .z (.s none (.s none .z (.b (.l ⟨3,(jk [1,20,21,22,23,24,25]++[(4,(.atm (.v 0))),(28,(.atm (.v 1)))]),[(1,⟨false,true,4,1,.v 2,[]⟩)],2,[]⟩ (.s none .z (.s none .z (.s none (.b (.s none .z (.s none (.s (some ⟨1,[(29,.junk),(30,.junk),(31,.junk),(39,(.atm (.v 0)))],[],2,[]⟩) .z .z) .z))) .z)))))) .z)))))
def ir19p0:IR:=(.ite (.v 11) (.ret [ik 8]) (.op .max [.v 6,.v 10] (.op .chk [.v 8,.v 10] (.op (.set 0 1) [.v 8,.v 10,bk true] (.op (pb .add) [.v 7,ik 1] (.jump 0 [.v 12,.v 14,.v 13]))))))
def ir19p1:IR:=(.op (pb .lss) [.v 7,.v 5] (.ite (.v 9) (.op (.row 1) [.v 1,.v 7] (.letj 1 (.op (pb .lss) [.v 10,ik 0] (.ite (.v 11) (.jump 1 [bk true]) (.op .lenL [.v 8] (.op (pb .geq) [.v 10,.v 12] (.jump 1 [.v 13]))))) ir19p0)) (.op (.subL 1) [.v 8,ik 0,.v 6] (.call 53 1 false [] [.v 10,bk false] (.ite (.v 11) (.ret [ik 8]) (.ret [ik 0]))))))
def ir19p2:IR:=(.ite (.v 2) (.ret [ik 1]) (.op .lenL [.v 1] (.op (.mkL 1 [(.bool false)]) [.v 3] (.op .lenL [.v 1] (.loop 3 [ik 0,ik 0,.v 4] ir19p1)))))
def ir19:IR:=(.letj 1 (.call 28 1 false [] [.v 0] (.op (.un .not) [.v 2] (.ite (.v 3) (.jump 0 [bk true]) (.op .lenL [.v 1] (.op .lenL [.v 0] (.op (pb .shl) [ik 1,.v 5] (.op (pb .neq) [.v 4,.v 6] (.jump 0 [.v 7])))))))) ir19p2)
theorem rd19:ai T SG sigs 3000 sg19 f22 an19=some ir19:=by kernel_rfl
def an20:Ann:=(.s none .z (.s none .z (.s none .z (.s none (.s none .z (.b (.l ⟨2,(jk [0,1,2,6,7,8,9,10,11,12,13,14]++[(17,(.atm (.v 0)))]),[(1,⟨false,true,54,1,.v 1,[]⟩)],2,[]⟩ .z))) .z))))
def ir20p0:IR:=(.op (pb .lss) [.v 8,.v 7] (.ite (.v 10) (.op (.row 1) [.v 1,.v 8] (.op .chk [.v 9,.v 11] (.op (.get 0 1) [.v 9,.v 11] (.op (.conv .u64) [.v 8] (.op (pb .shl) [.c (.int .u64 1),.v 13] (.op (pb .or) [.v 12,.v 14] (.op .chk [.v 9,.v 11] (.op (.set 0 1) [.v 9,.v 11,.v 15] (.op (pb .add) [.v 8,ik 1] (.jump 0 [.v 17,.v 16])))))))))) (.ret [.v 9])))
def ir20:IR:=(.call 19 1 false [] [.v 0,.v 1] (.op (pb .neq) [.v 2,ik 0] (.ite (.v 3) (.ret [nl]) (.call 54 1 false [] [.v 1] (.op (pb .add) [.v 4,ik 1] (.op (.mkL 8 [(.int .u64 0)]) [.v 5] (.op .lenL [.v 1] (.loop 2 [ik 0,.v 6] ir20p0))))))))
theorem rd20:ai T SG sigs 3000 sg20 f23 an20=some ir20:=by kernel_rfl
def an21:Ann:=.z
def ir21:IR:=(.call 28 1 false [] [.v 0] (.op (.un .not) [.v 2] (.ite (.v 3) (.ret [ik 0,.c (.str []),nl,ik 1]) (.call 55 1 false [] [.v 0] (.op (pb .and) [.v 1,.v 4] (.call 56 3 false [] [.v 0,.v 5] (.ret [.v 6,.v 7,.v 8,ik 0])))))))
theorem rd21:ai T SG sigs 3000 sg21 f24 an21=some ir21:=by kernel_rfl
def an23:Ann:=.z
def ir23:IR:=(.call 57 7 false [] [.v 0,.v 1,.v 2,.v 3] (.call 24 5 false [] [.c (.str [60,45,62]),.v 7,.v 8,.v 9,.v 10] (.op (.un .not) [.v 11] (.ite (.v 16) (.ret [.v 4,.v 5,.v 6,.v 12,.v 13,.v 14,.v 15]) (.call 57 7 false [] [.v 12,.v 13,.v 14,.v 15] (.op (.mk 3 2) [.v 4,.v 5,.v 6,.v 17,.v 18,.v 19] (.ret [ik 8,.c (.str []),.v 24,.v 20,.v 21,.v 22,.v 23])))))))
theorem rd23:ai T SG sigs 3000 sg23 f31 an23=some ir23:=by kernel_rfl
def an24:Ann:=(.s none .z (.s none .z (.s none (.s (some ⟨1,(jk [1,4,6,7]++[(18,(.atm (.v 0)))]),[],2,[]⟩) .z .z) .z)))
def ir24p0:IR:=(.ite (.v 12) (.ret [bk false,.v 8,.v 9,.v 10,.v 11]) (.op .lenS [.v 6] (.op (pb .add) [.v 9,.v 13] (.ret [bk true,.v 8,.v 14,.v 10,.v 11]))))
def ir24:IR:=(.call 58 7 false [] [.v 1,.v 2,.v 3,.v 4] (.letj 1 (.op (pb .geq) [.v 10,ik 0] (.ite (.v 12) (.jump 0 [bk true]) (.op (pb .neq) [.v 5,.v 0] (.jump 0 [.v 13])))) ir24p0))
theorem rd24:ai T SG sigs 3000 sg24 f32 an24=some ir24:=by kernel_rfl
def an25:Ann:=(.s none .z (.s (some ⟨4,[(0,.junk)],[(0,⟨false,false,85,4,.c (.sl []),[[.atm (.v 0),.atm (.v 1),.atm (.v 2),.atm (.v 3)]]⟩)],2,[]⟩) .z .z))
def ir25p0:IR:=(.ret [ik 0,.c (.str []),nl,.v 4,.v 5,.v 6,.v 7])
def ir25:IR:=(.letj 4 (.op (pb .lss) [.v 2,ik 0] (.ite (.v 4) (.call 58 7 false [] [.v 0,.v 1,.v 2,.v 3] (.jump 0 [.v 8,.v 9,.v 7,.v 11])) (.jump 0 [.v 0,.v 1,.v 2,.v 3]))) ir25p0)
theorem rd25:ai T SG sigs 3000 sg25 f33 an25=some ir25:=by kernel_rfl
def an26:Ann:=(.s none .z (.s none .z (.s none (.s none .z (.b (.l ⟨2,(jk [0,1,2,6]++[(3,(.atm (.v 0))),(9,(.atm (.v 1)))]),[],1,[]⟩ .z))) .z)))
def ir26p0:IR:=(.op (pb .lss) [.v 5,.v 3] (.ite (.v 6) (.op (.row 3) [.v 2,.v 5] (.call 26 1 false [] [.v 7,.v 8,.v 9] (.op (pb .add) [.v 4,.v 10] (.op (pb .add) [.v 5,ik 1] (.jump 0 [.v 11,.v 12]))))) (.ret [.v 4])))
def ir26:IR:=(.op .lenL [.v 2] (.loop 2 [ik 1,ik 0] ir26p0))
theorem rd26:ai T SG sigs 3000 sg26 f34 an26=some ir26:=by kernel_rfl
def an27:Ann:=(.s none .z (.s none .z (.s none (.s none .z (.b (.l ⟨2,(jk [0,1,2,6]++[(3,(.atm (.v 0))),(9,(.atm (.v 1)))]),[],1,[]⟩ .z))) .z)))
def ir27p0:IR:=(.op (pb .lss) [.v 5,.v 3] (.ite (.v 6) (.op (.row 3) [.v 2,.v 5] (.call 27 1 false [] [.v 7,.v 8,.v 9] (.op (pb .add) [ik 1,.v 10] (.op .max [.v 4,.v 11] (.op (pb .add) [.v 5,ik 1] (.jump 0 [.v 12,.v 13])))))) (.ret [.v 4])))
def ir27:IR:=(.op .lenL [.v 2] (.loop 2 [ik 0,ik 0] ir27p0))
theorem rd27:ai T SG sigs 3000 sg27 f35 an27=some ir27:=by kernel_rfl
def an28:Ann:=(.s none .z (.s none .z (.s none (.s none .z (.b (.l ⟨1,(jk [2,5,6,7]++[(10,(.atm (.v 0)))]),[],0,[]⟩ (.s none .z (.s none .z (.s none (.b (.s none .z (.s (some ⟨1,(jk [3,4,11,12,13,14]++[(30,(.atm (.v 0)))]),[],0,[]⟩) .z .z))) .z)))))) .z)))
def ir28p0:IR:=(.ite (.v 7) (.ret [bk false]) (.op (pb .add) [.v 4,ik 1] (.jump 0 [.v 8])))
def ir28p1:IR:=(.op (pb .lss) [.v 4,.v 3] (.ite (.v 5) (.op (.row 1) [.v 0,.v 4] (.letj 1 (.call 59 1 false [] [.v 6] (.op (.un .not) [.v 7] (.ite (.v 8) (.jump 1 [bk true]) (.op (pb .gtr) [.v 4,ik 0] (.ite (.v 9) (.op (pb .sub) [.v 4,ik 1] (.op (.row 1) [.v 0,.v 10] (.op (pb .geq) [.v 11,.v 6] (.jump 1 [.v 12])))) (.jump 1 [bk false])))))) ir28p0)) (.ret [bk true])))
def ir28:IR:=(.op .lenL [.v 0] (.op (pb .gtr) [.v 1,ik 6] (.ite (.v 2) (.ret [bk false]) (.op .lenL [.v 0] (.loop 1 [ik 0] ir28p1)))))
theorem rd28:ai T SG sigs 3000 sg28 f36 an28=some ir28:=by kernel_rfl
def an29:Ann:=.z
def ir29:IR:=(.ret [.v 0])
theorem rd29:ai T SG sigs 3000 sg29 f37 an29=some ir29:=by kernel_rfl
def an30:Ann:=(.s none .z (.s none .z (.s none .z (.s none (.s none .z (.b (.l ⟨1,(jk [1,4,5,6,9,10,11,12,13,14,15,17]++[(20,(.atm (.v 0)))]),[],1,[]⟩ .z))) .z))))
def ir30p0:IR:=(.op (pb .lss) [.v 10,.v 9] (.ite (.v 11) (.op (.row 1) [.v 8,.v 10] (.call 62 1 false [] [.v 0,.v 12] (.op (.un .not) [.v 13] (.ite (.v 14) (.ret [.c (.int .u64 0),ik 6]) (.op (pb .add) [.v 10,ik 1] (.jump 0 [.v 15])))))) (.call 63 1 false [] [.v 0,.v 1,.v 2,.v 3] (.call 55 1 false [] [.v 0] (.op (pb .and) [.v 12,.v 13] (.ret [.v 14,ik 0]))))))
def ir30:IR:=(.call 28 1 false [] [.v 0] (.op (.un .not) [.v 4] (.ite (.v 5) (.ret [.c (.int .u64 0),ik 1]) (.call 60 1 false [] [.v 1,.v 2,.v 3] (.op (pb .neq) [.v 6,ik 0] (.ite (.v 7) (.ret [.c (.int .u64 0),.v 6]) (.call 61 1 false [] [.v 1,.v 2,.v 3] (.op .lenL [.v 8] (.loop 1 [ik 0] ir30p0)))))))))
theorem rd30:ai T SG sigs 3000 sg30 f38 an30=some ir30:=by kernel_rfl
def an31:Ann:=(.s none .z (.s none (.s none .z (.b (.l ⟨1,[(1,.junk),(4,.junk),(11,(.atm (.v 0)))],[],0,[]⟩ .z))) .z))
def ir31p0:IR:=(.op (pb .lss) [.v 3,.v 2] (.ite (.v 4) (.op (.row 3) [.v 1,.v 3] (.call 30 2 false [] [.v 0,.v 5,.v 6,.v 7] (.op (pb .neq) [.v 9,ik 0] (.ite (.v 10) (.ret [.v 9]) (.op (pb .add) [.v 3,ik 1] (.jump 0 [.v 11])))))) (.ret [ik 0])))
def ir31:IR:=(.op .lenL [.v 1] (.loop 1 [ik 0] ir31p0))
theorem rd31:ai T SG sigs 3000 sg31 f39 an31=some ir31:=by kernel_rfl
def an32:Ann:=.z
def ir32:IR:=(.op (.conv .u64) [.v 1] (.op (pb .shr) [.v 0,.v 2] (.op (pb .and) [.v 3,.c (.int .u64 1)] (.op (pb .eql) [.v 4,.c (.int .u64 1)] (.ret [.v 5])))))
theorem rd32:ai T SG sigs 3000 sg32 f40 an32=some ir32:=by kernel_rfl
def an33:Ann:=(.s none .z (.s none (.s (some ⟨1,[(5,.junk),(22,(.atm (.v 0)))],[],1,[]⟩) .z .z) (.s none .z (.s none .z (.s none (.s none .z (.b (.l ⟨2,(jk [0,1,22,24,25,27,28,29,30]++[(33,(.atm (.v 0)))]),[(5,⟨false,true,3,1,.v 1,[]⟩)],6,[⟨some (4,0,1),0,3,1⟩]⟩ .z))) .z)))))
def ir33p0:IR:=(.op (pb .lss) [.v 10,.v 9] (.ite (.v 12) (.op (.row 1) [.v 1,.v 10] (.call 68 2 false [] [.v 6,.v 13] (.op (.mk 1 1) [.v 14] (.op (.app 1 8) [.v 11,.v 16] (.op (pb .add) [.v 10,ik 1] (.jump 0 [.v 18,.v 17])))))) (.ret [.v 8,.v 11,ik 0])))
def ir33p1:IR:=(.ite (.v 2) (.ret [nl,nl,ik 1]) (.call 64 1 false [] [.v 1] (.call 65 2 false [0] [.v 3] (.call 66 2 false [1] [.v 4] (.call 67 1 false [0] [.v 0] (.op .lenL [.v 1] (.loop 2 [ik 0,nl] ir33p0)))))))
def ir33:IR:=(.letj 1 (.call 28 1 false [] [.v 0] (.op (.un .not) [.v 2] (.ite (.v 3) (.jump 0 [bk true]) (.op .lenL [.v 1] (.op .lenL [.v 0] (.op (pb .shl) [ik 1,.v 5] (.op (pb .neq) [.v 4,.v 6] (.jump 0 [.v 7])))))))) ir33p1)
theorem rd33:ai T SG sigs 3000 sg33 f41 an33=some ir33:=by kernel_rfl
def an34:Ann:=(.s none .z (.s none .z (.s none .z (.s none .z (.s none (.s none .z (.b (.l ⟨2,(jk [1,4,5,14,15,16,17,18,19]++[(22,(.atm (.v 0)))]),[(0,⟨false,true,103,2,.v 1,[]⟩)],1,[⟨none,6,103,2⟩]⟩ .z))) .z)))))
def ir34p0:IR:=(.op (pb .lss) [.v 7,.v 6] (.ite (.v 9) (.op (.row 6) [.v 1,.v 7] (.op (.mk 3 2) [.v 10,.v 11,.v 12,.v 13,.v 14,.v 15] (.call 31 1 true [] [.v 0,.v 16] (.op (pb .neq) [.v 17,ik 0] (.ite (.v 18) (.ret [nl,.v 17]) (.call 30 2 false [] [.v 0,.v 10,.v 11,.v 12] (.call 30 2 false [] [.v 0,.v 13,.v 14,.v 15] (.op (pb .and) [.v 19,.v 21] (.op (pb .andNot) [.v 19,.v 21] (.op (.mk 2 1) [.v 23,.v 24] (.op (.app 2 16) [.v 8,.v 25] (.op (pb .add) [.v 7,ik 1] (.jump 0 [.v 27,.v 26]))))))))))))) (.ret [.v 8,ik 0])))
def ir34:IR:=(.call 28 1 false [] [.v 0] (.op (.un .not) [.v 2] (.ite (.v 3) (.ret [nl,ik 1]) (.op .lenL [.v 1] (.op (pb .gtr) [.v 4,ik 64] (.ite (.v 5) (.ret [nl,ik 2]) (.op .lenL [.v 1] (.loop 2 [ik 0,nl] ir34p0))))))))
theorem rd34:ai T SG sigs 3000 sg34 f42 an34=some ir34:=by kernel_rfl
def an35:Ann:=(.s none .z (.s none .z (.s none (.s none .z (.b (.l ⟨2,(jk [2,3,13,14,15,16]++[(18,(.atm (.v 0)))]),[(0,⟨false,true,3,1,.v 1,[]⟩)],1,[]⟩ .z))) (.s none (.s none .z (.b (.l ⟨2,[(6,(.atm (.v 0))),(17,.junk),(18,.junk),(19,.junk)],[(0,⟨false,true,3,1,.v 1,[]⟩)],1,[]⟩ (.s none .z (.s none (.b (.s none .z (.s none (.s none .z (.b (.l ⟨2,[(7,(.atm (.v 0))),(25,.junk),(26,.junk),(31,(.atm (.v 1)))],[],1,[]⟩ (.s none .z (.s none .z (.s (some ⟨3,[(7,(.atm (.v 0))),(32,.junk)],[(1,⟨false,false,103,2,.c (.sl []),[[.atm (.v 1),.atm (.v 2)]]⟩)],2,[]⟩) .z .z)))))) (.s none .z (.s none (.s none .z (.b (.l ⟨3,(jk [29,30,31,32]++[(10,(.atm (.v 0))),(48,(.atm (.v 1)))]),[(0,⟨false,true,3,1,.v 2,[]⟩)],1,[]⟩ (.s none .z (.s none .z (.s (some ⟨4,[(10,(.atm (.v 0))),(49,.junk)],[(0,⟨false,true,3,1,.v 1,[]⟩),(1,⟨false,false,103,2,.c (.sl []),[[.atm (.v 2),.atm (.v 3)]]⟩)],2,[]⟩) (.b (.s none .z (.s (some ⟨1,(jk [12,49,50,51,52]++[(64,(.atm (.v 0)))]),[],2,[]⟩) .z .z))) .z)))))) .z))))) .z))))) .z))))
def ir35p0:IR:=(.op (pb .add) [.v 12,ik 1] (.jump 2 [.v 14,.v 17]))
def ir35p1:IR:=(.op (pb .add) [.v 16,ik 1] (.jump 3 [.v 19,.v 23,.v 20]))
def ir35p2:IR:=(.ite (.v 21) (.op .chk [.v 17,.v 16] (.op (.set 0 1) [.v 17,.v 16,.v 7] (.jump 4 [bk true,.v 22,.v 19,.v 20]))) (.jump 4 [.v 15,.v 17,.v 19,.v 20]))
def ir35p3:IR:=(.op (pb .lss) [.v 16,.v 14] (.ite (.v 18) (.letj 4 (.op (.row 2) [.v 0,.v 16] (.letj 1 (.op .chk [.v 17,.v 16] (.op (.get 0 1) [.v 17,.v 16] (.op (pb .lss) [.v 21,ik 0] (.ite (.v 22) (.op (pb .andNot) [.v 19,.v 11] (.op (pb .neq) [.v 23,.c (.int .u64 0)] (.jump 5 [.v 24]))) (.jump 5 [bk false]))))) ir35p2)) ir35p1) (.op (.un .not) [.v 15] (.ite (.v 19) (.ret [nl,ik 9]) (.op (pb .add) [.v 7,ik 1] (.jump 1 [.v 20,.v 17]))))))
def ir35p4:IR:=(.op (pb .lss) [.v 12,.v 10] (.ite (.v 13) (.letj 3 (.op (.row 2) [.v 0,.v 12] (.op .chk [.v 8,.v 12] (.op (.get 0 1) [.v 8,.v 12] (.op (pb .lss) [.v 16,ik 0] (.ite (.v 17) (.op (pb .or) [.v 11,.v 15] (.jump 3 [.v 18,.v 14,.v 15])) (.jump 3 [.v 11,.v 14,.v 15])))))) ir35p0) (.op .lenL [.v 0] (.loop 3 [bk false,ik 0,.v 8] ir35p3))))
def ir35p5:IR:=(.call 69 1 true [] [.v 8,ik (-1)] (.ite (.v 9) (.op .lenL [.v 0] (.loop 2 [.c (.int .u64 0),ik 0] ir35p4)) (.ret [.v 8,ik 0])))
def ir35p6:IR:=(.op (pb .lss) [.v 4,.v 3] (.ite (.v 6) (.op .chk [.v 5,.v 4] (.op (.set 0 1) [.v 5,.v 4,ik (-1)] (.op (pb .add) [.v 4,ik 1] (.jump 0 [.v 8,.v 7])))) (.loop 2 [ik 0,.v 5] ir35p5)))
def ir35:IR:=(.op .lenL [.v 0] (.op (.mkL 8 [(.int .i64 0)]) [.v 1] (.op .lenL [.v 2] (.loop 2 [ik 0,.v 2] ir35p6))))
theorem rd35:ai T SG sigs 3000 sg35 f43 an35=some ir35:=by kernel_rfl
def an36:Ann:=(.s none .z (.s none .z (.s none (.s none .z (.b (.l ⟨1,(jk [4,6,7,8,9,10,11]++[(13,(.atm (.v 0)))]),[],0,[]⟩ .z))) .z)))
def ir36p0:IR:=(.op (pb .lss) [.v 6,.v 5] (.ite (.v 7) (.op (.row 1) [.v 0,.v 6] (.op (.row 1) [.v 1,.v 6] (.op (pb .neq) [.v 8,.v 9] (.ite (.v 10) (.ret [bk false]) (.op (pb .add) [.v 6,ik 1] (.jump 0 [.v 11])))))) (.ret [bk true])))
def ir36:IR:=(.op .lenL [.v 0] (.op .lenL [.v 1] (.op (pb .neq) [.v 2,.v 3] (.ite (.v 4) (.ret [bk false]) (.op .lenL [.v 0] (.loop 1 [ik 0] ir36p0))))))
theorem rd36:ai T SG sigs 3000 sg36 f44 an36=some ir36:=by kernel_rfl
def an37:Ann:=(.s none .z (.s none .z (.s none (.s none .z (.b (.l ⟨1,(jk [4,6,7,8,9,10,11]++[(13,(.atm (.v 0)))]),[],0,[]⟩ .z))) .z)))
def ir37p0:IR:=(.op (pb .lss) [.v 6,.v 5] (.ite (.v 7) (.op (.row 1) [.v 0,.v 6] (.op (.row 1) [.v 1,.v 6] (.op (pb .neq) [.v 8,.v 9] (.ite (.v 10) (.ret [bk false]) (.op (pb .add) [.v 6,ik 1] (.jump 0 [.v 11])))))) (.ret [bk true])))
def ir37:IR:=(.op .lenL [.v 0] (.op .lenL [.v 1] (.op (pb .neq) [.v 2,.v 3] (.ite (.v 4) (.ret [bk false]) (.op .lenL [.v 0] (.loop 1 [ik 0] ir37p0))))))
theorem rd37:ai T SG sigs 3000 sg37 f45 an37=some ir37:=by kernel_rfl
def an38:Ann:=.z
def ir38:IR:=(.call 70 3 false [] [.v 0,.v 1,.v 2,.v 3,.v 4] (.op (pb .neq) [.v 7,ik 0] (.ite (.v 8) (.ret [.c (.int .u64 0),.v 7]) (.call 43 1 false [] [.v 0,.v 1,.v 5] (.ret [.v 9,ik 0])))))
theorem rd38:ai T SG sigs 3000 sg38 f46 an38=some ir38:=by kernel_rfl
def an39:Ann:=.z
def ir39:IR:=(.call 71 1 false [] [.v 0,.v 1,.v 5] (.op (pb .neq) [.v 6,ik 0] (.ite (.v 7) (.ret [nl,nl,.v 6]) (.call 30 2 false [] [.v 0,.v 2,.v 3,.v 4] (.op (pb .neq) [.v 9,ik 0] (.ite (.v 10) (.ret [nl,nl,.v 9]) (.op (pb .eql) [.v 8,.c (.int .u64 0)] (.ite (.v 11) (.ret [nl,nl,ik 9]) (.call 72 3 false [] [.v 0,.v 1,.v 8,.v 5] (.ret [.v 12,.v 13,.v 14]))))))))))
theorem rd39:ai T SG sigs 3000 sg39 f47 an39=some ir39:=by kernel_rfl
def an40:Ann:=(.s none .z (.s none .z (.s none (.s none .z (.b (.l ⟨1,(jk [4,6,7,8,9,10,11]++[(13,(.atm (.v 0)))]),[],0,[]⟩ .z))) .z)))
def ir40p0:IR:=(.op (pb .lss) [.v 6,.v 5] (.ite (.v 7) (.op (.row 1) [.v 0,.v 6] (.op (.row 1) [.v 1,.v 6] (.op (pb .neq) [.v 8,.v 9] (.ite (.v 10) (.ret [bk false]) (.op (pb .add) [.v 6,ik 1] (.jump 0 [.v 11])))))) (.ret [bk true])))
def ir40:IR:=(.op .lenL [.v 0] (.op .lenL [.v 1] (.op (pb .neq) [.v 2,.v 3] (.ite (.v 4) (.ret [bk false]) (.op .lenL [.v 0] (.loop 1 [ik 0] ir40p0))))))
theorem rd40:ai T SG sigs 3000 sg40 f48 an40=some ir40:=by kernel_rfl
def an42:Ann:=(.s none .z (.s none (.s none .z (.b (.l ⟨1,[(4,.junk),(6,.junk),(8,(.atm (.v 0)))],[],0,[]⟩ .z))) .z))
def ir42p0:IR:=(.op (pb .lss) [.v 3,.v 2] (.ite (.v 4) (.op (.row 1) [.v 0,.v 3] (.call 73 1 false [] [.v 5,.v 1] (.ite (.v 6) (.ret [.v 3]) (.op (pb .add) [.v 3,ik 1] (.jump 0 [.v 7]))))) (.ret [ik (-1)])))
def ir42:IR:=(.op .lenL [.v 0] (.loop 1 [ik 0] ir42p0))
theorem rd42:ai T SG sigs 3000 sg42 f49 an42=some ir42:=by kernel_rfl
def an43:Ann:=(.s none .z (.s none (.s none .z (.b (.l ⟨1,(jk [0,2,4,7]++[(10,(.atm (.v 0)))]),[],1,[]⟩ .z))) .z))
def ir43p0:IR:=(.op (pb .lss) [.v 5,.v 4] (.ite (.v 6) (.op (.row 1) [.v 3,.v 5] (.op (pb .and) [.v 7,.v 2] (.op (pb .neq) [.v 8,.c (.int .u64 0)] (.ite (.v 9) (.op (pb .and) [.v 7,.v 2] (.ret [.v 10])) (.op (pb .add) [.v 5,ik 1] (.jump 0 [.v 10])))))) (.ret [.c (.int .u64 0)])))
def ir43:IR:=(.call 20 1 false [] [.v 0,.v 1] (.op .lenL [.v 3] (.loop 1 [ik 0] ir43p0)))
theorem rd43:ai T SG sigs 3000 sg43 f52 an43=some ir43:=by kernel_rfl
def an44:Ann:=(.s none .z (.s none .z (.s none .z (.s none (.s none .z (.b (.l ⟨1,(jk [4,11,12,13,14,15,16,17]++[(20,(.atm (.v 0)))]),[],0,[]⟩ (.s none .z (.s none .z (.s none (.b (.s none .z (.s (some ⟨1,(jk [6,21,22,23]++[(48,(.atm (.v 0)))]),[],1,[]⟩) .z .z))) .z)))))) (.s none .z (.s (some ⟨1,(jk [18,19,20,21,50,51,52,53,54]++[(7,(.atm (.v 0)))]),[],0,[]⟩) .z (.s none .z (.s none (.s none .z (.b (.l ⟨1,(jk [0,7,59,60,61,62]++[(65,(.atm (.v 0)))]),[],0,[]⟩ (.s none .z (.s none .z (.s none (.b (.s none .z (.s none .z (.s (some ⟨1,(jk [8,66,67,68,69,70,71]++[(10,(.atm (.v 0)))]),[],1,[]⟩) .z (.s (some ⟨1,[(9,.junk),(10,.junk),(84,(.atm (.v 0)))],[],1,[]⟩) .z .z))))) .z)))))) .z))))))))
def ir44p0:IR:=(.ite (.v 12) (.ret [ik 1]) (.op (pb .add) [.v 8,ik 1] (.jump 0 [.v 13])))
def ir44p1:IR:=(.ite (.v 23) (.ret [ik 7]) (.op (pb .add) [.v 17,ik 1] (.jump 1 [.v 24])))
def ir44p2:IR:=(.letj 1 (.op (pb .neq) [.v 22,.c (.int .u64 0)] (.ite (.v 23) (.call 14 1 false [] [.v 19,.v 20] (.op (pb .neq) [.v 24,.v 22] (.jump 2 [.v 25]))) (.jump 2 [bk false]))) ir44p1)
def ir44p3:IR:=(.op (pb .lss) [.v 17,.v 16] (.ite (.v 18) (.op (.row 2) [.v 0,.v 17] (.op (.conv .u64) [.v 17] (.letj 1 (.op (pb .eql) [.v 1,ik 3] (.ite (.v 22) (.op (.conv .u64) [.v 17] (.op (pb .shl) [.c (.int .u64 1),.v 23] (.jump 2 [.v 24]))) (.jump 2 [.v 21]))) ir44p2))) (.ret [ik 0])))
def ir44p4:IR:=(.op .lenL [.v 0] (.op (pb .neq) [.v 14,.v 13] (.ite (.v 15) (.ret [ik 1]) (.op .lenL [.v 0] (.loop 1 [ik 0] ir44p3)))))
def ir44p5:IR:=(.op (pb .lss) [.v 8,.v 7] (.ite (.v 9) (.op (.row 2) [.v 0,.v 8] (.letj 1 (.call 19 1 false [] [.v 10,.v 11] (.op (pb .neq) [.v 12,ik 0] (.ite (.v 13) (.jump 1 [bk true]) (.op .lenL [.v 10] (.op (pb .lss) [.v 14,ik 1] (.ite (.v 15) (.jump 1 [bk true]) (.op .lenL [.v 10] (.op (pb .gtr) [.v 16,ik 2] (.ite (.v 17) (.jump 1 [bk true]) (.op (.row 2) [.v 0,ik 0] (.call 36 1 false [] [.v 10,.v 18] (.op (.un .not) [.v 20] (.jump 1 [.v 21]))))))))))))) ir44p0)) (.op (.row 2) [.v 0,ik 0] (.op .lenL [.v 11] (.letj 1 (.op (pb .neq) [.v 1,ik 3] (.ite (.v 13) (.op (pb .shl) [ik 1,.v 12] (.jump 1 [.v 14])) (.jump 1 [.v 12]))) ir44p4)))))
def ir44:IR:=(.call 74 1 false [] [.v 1] (.op .lenL [.v 2] (.op (pb .eql) [.v 3,ik 0] (.ite (.v 4) (.ret [ik 4]) (.op .lenL [.v 0] (.op (pb .eql) [.v 5,ik 0] (.ite (.v 6) (.ret [ik 1]) (.op .lenL [.v 0] (.loop 1 [ik 0] ir44p5)))))))))
theorem rd44:ai T SG sigs 3000 sg44 f53 an44=some ir44:=by kernel_rfl
def an45:Ann:=.z
def ir45:IR:=(.op (.conv .u64) [.v 2] (.call 43 1 false [] [.v 0,.v 1,.v 3] (.op (.conv .i64) [.v 4] (.ret [.v 5]))))
theorem rd45:ai T SG sigs 3000 sg45 f54 an45=some ir45:=by kernel_rfl
def an46:Ann:=(.s none .z (.s none (.s (some ⟨1,[(0,.junk),(2,.junk),(12,(.atm (.v 0)))],[],1,[]⟩) .z .z) (.s none .z (.s none .z (.s none (.s (some ⟨2,(jk [1,3,4,12,13,14,15,16]++[(27,(.atm (.v 0)))]),[(1,⟨false,false,3,1,.c (.sl []),[[.atm (.v 1)]]⟩)],3,[]⟩) .z .z) .z)))))
def ir46p0:IR:=(.ite (.v 5) (.ret [ik 1]) (.ret [ik 0]))
def ir46p1:IR:=(.ite (.v 2) (.ret [ik 1]) (.call 47 1 false [] [.v 0,.v 1] (.op (pb .shl) [ik 1,.v 3] (.letj 2 (.op .lenL [.v 1] (.op (pb .neq) [.v 5,.v 4] (.ite (.v 6) (.jump 0 [bk true,.v 4]) (.call 75 2 false [] [.v 1,.v 4] (.jump 0 [.v 7,.v 8]))))) ir46p0))))
def ir46:IR:=(.letj 1 (.op (pb .neq) [.v 0,ik 1] (.ite (.v 2) (.op (pb .neq) [.v 0,ik 2] (.jump 0 [.v 3])) (.jump 0 [bk false]))) ir46p1)
theorem rd46:ai T SG sigs 3000 sg46 f55 an46=some ir46:=by kernel_rfl
def an47:Ann:=.z
def ir47:IR:=(.op (pb .shl) [ik 1,.v 0] (.ret [.v 2]))
theorem rd47:ai T SG sigs 3000 sg47 f56 an47=some ir47:=by kernel_rfl
def an48:Ann:=(.s none .z (.s none .z (.s none (.s none .z (.b (.l ⟨1,(jk [0,6,10,11,12,13,14]++[(17,(.atm (.v 0)))]),[],0,[]⟩ .z))) .z)))
def ir48p0:IR:=(.op (pb .lss) [.v 6,.v 5] (.ite (.v 7) (.op (.row 1) [.v 0,.v 6] (.op (.row 1) [.v 1,.v 6] (.call 76 1 false [] [.v 8,.v 9] (.op (.un .not) [.v 10] (.ite (.v 11) (.ret [bk false]) (.op (pb .add) [.v 6,ik 1] (.jump 0 [.v 12]))))))) (.ret [bk true])))
def ir48:IR:=(.op .lenL [.v 0] (.op .lenL [.v 1] (.op (pb .neq) [.v 2,.v 3] (.ite (.v 4) (.ret [bk false]) (.op .lenL [.v 0] (.loop 1 [ik 0] ir48p0))))))
theorem rd48:ai T SG sigs 3000 sg48 f57 an48=some ir48:=by kernel_rfl
def an49:Ann:=.z
def ir49:IR:=(.op .lenL [.v 0] (.op (pb .geq) [.v 1,.v 2] (.ite (.v 3) (.ret [ik 0,.v 0,.v 1]) (.op (pb .add) [.v 1,ik 1] (.op (pb .sub) [.v 4,ik 1] (.op (.row 1) [.v 0,.v 5] (.ret [.v 6,.v 0,.v 4])))))))
theorem rd49:ai T SG sigs 3000 sg49 f60 an49=some ir49:=by kernel_rfl
def an50:Ann:=(.s none .z (.s none .z (.s none .z (.s (some ⟨1,(jk [1,4,5,6,7,8,9]++[(0,(.atm (.v 0)))]),[],0,[]⟩) .z .z))))
def ir50p0:IR:=(.ret [.v 4])
def ir50:IR:=(.op (pb .lss) [.v 1,ik 1] (.ite (.v 2) (.ret [ik 0]) (.op (pb .rem) [.v 0,.v 1] (.letj 1 (.op (pb .lss) [.v 3,ik 0] (.ite (.v 4) (.op (pb .add) [.v 3,.v 1] (.jump 0 [.v 5])) (.jump 0 [.v 3]))) ir50p0))))
theorem rd50:ai T SG sigs 3000 sg50 f59 an50=some ir50:=by kernel_rfl
def an51:Ann:=(.s none .z (.s none (.s none .z (.b (.l ⟨1,[(2,.junk),(3,(.atm (.v 0)))],[],0,[]⟩ (.s none .z (.s none (.b (.s (some ⟨1,(jk [4,5,6,7]++[(31,(.atm (.v 0)))]),[],0,[]⟩) .z .z)) .z))))) .z))
def ir51p0:IR:=(.ite (.v 4) (.ret [bk false]) (.op (pb .add) [.v 1,ik 1] (.jump 0 [.v 5])))
def ir51p1:IR:=(.op .lenL [.v 0] (.op (pb .lss) [.v 1,.v 2] (.ite (.v 3) (.letj 1 (.op (.row 1) [.v 0,.v 1] (.call 77 1 false [] [.v 4] (.op (.un .not) [.v 5] (.ite (.v 6) (.jump 1 [bk true]) (.op (pb .gtr) [.v 1,ik 0] (.ite (.v 7) (.op (.row 1) [.v 0,.v 1] (.op (pb .sub) [.v 1,ik 1] (.op (.row 1) [.v 0,.v 9] (.op (pb .leq) [.v 8,.v 10] (.jump 1 [.v 11]))))) (.jump 1 [bk false]))))))) ir51p0) (.op .lenL [.v 0] (.op (pb .leq) [.v 4,ik 6] (.ret [.v 5]))))))
def ir51:IR:=(.loop 1 [ik 0] ir51p1)
theorem rd51:ai T SG sigs 3000 sg51 f61 an51=some ir51:=by kernel_rfl
def an52:Ann:=(.s none .z (.s none (.s none .z (.b (.l ⟨1,[(4,.junk),(6,.junk),(8,(.atm (.v 0)))],[],0,[]⟩ .z))) .z))
def ir52p0:IR:=(.op (pb .lss) [.v 3,.v 2] (.ite (.v 4) (.op (.row 1) [.v 0,.v 3] (.op (pb .eql) [.v 5,.v 1] (.ite (.v 6) (.ret [bk true]) (.op (pb .add) [.v 3,ik 1] (.jump 0 [.v 7]))))) (.ret [bk false])))
def ir52:IR:=(.op .lenL [.v 0] (.loop 1 [ik 0] ir52p0))
theorem rd52:ai T SG sigs 3000 sg52 f62 an52=some ir52:=by kernel_rfl
def an53:Ann:=.z
def ir53:IR:=(.call 78 1 false [] [.v 0,.v 1] (.op (pb .geq) [.v 2,ik 0] (.ret [.v 3])))
theorem rd53:ai T SG sigs 3000 sg53 f63 an53=some ir53:=by kernel_rfl
def an54:Ann:=(.s none .z (.s none .z (.s none .z (.s none (.s none .z (.b (.l ⟨2,(jk [2,5,6,7,9,10,11]++[(3,(.atm (.v 0))),(4,(.atm (.v 1)))]),[],0,[]⟩ .z))) .z))))
def ir54p0:IR:=(.op .lenL [.v 0] (.op (pb .lss) [.v 5,.v 6] (.ite (.v 7) (.op (.row 1) [.v 0,.v 5] (.op .max [.v 4,.v 8] (.op (pb .add) [.v 5,ik 1] (.jump 0 [.v 9,.v 10])))) (.ret [.v 4]))))
def ir54:IR:=(.op .lenL [.v 0] (.op (pb .lss) [.v 1,ik 1] (.ite (.v 2) .fail (.op (.row 1) [.v 0,ik 0] (.loop 2 [.v 3,ik 1] ir54p0)))))
theorem rd54:ai T SG sigs 3000 sg54 f64 an54=some ir54:=by kernel_rfl
def an55:Ann:=.z
def ir55:IR:=(.call 28 1 false [] [.v 0] (.op (.un .not) [.v 1] (.ite (.v 2) (.ret [.c (.int .u64 0)]) (.op .lenL [.v 0] (.call 79 1 false [] [.v 3] (.ret [.v 4]))))))
theorem rd55:ai T SG sigs 3000 sg55 f26 an55=some ir55:=by kernel_rfl
def an56:Ann:=(.s none .z (.s none .z (.s none .z (.s none .z (.s none .z (.s none .z (.s none .z (.s none .z (.s none .z (.s none (.b (.s (some ⟨1,(jk [0,1,5,12,13,14,15,16,17,19,20,21,23,24,25,26,27,28,29,30,31,32,36,37,38,39,40,41,42,43,44,45,46,47,48]++[(49,(.atm (.v 0)))]),[],4,[]⟩) .z (.c .z (.s none .z (.c .z (.s (some ⟨1,(jk [49,58,59,60,61]++[(67,(.atm (.v 0)))]),[],4,[]⟩) .z .z)))))) .z))))))))))
def ir56p0:IR:=(.ite (.v 18) (.ret [ik 4,.c (.str []),.v 13]) (.op (pb .eql) [.v 8,.c (.int .u64 0)] (.ite (.v 19) (.call 56 3 false [] [.v 7,.v 9] (.call 81 3 false [] [ik 5,ik 4,.c (.str []),.v 13,.v 20,.v 21,.v 22] (.ret [.v 23,.v 24,.v 25]))) (.op (pb .eql) [.v 9,.v 15] (.ite (.v 20) (.call 56 3 false [] [.v 7,.v 8] (.call 81 3 false [] [ik 6,ik 4,.c (.str []),.v 13,.v 21,.v 22,.v 23] (.ret [.v 24,.v 25,.v 26]))) (.op (pb .eql) [.v 9,.c (.int .u64 0)] (.ite (.v 21) (.call 56 3 false [] [.v 7,.v 8] (.call 81 3 false [] [ik 5,ik 3,.v 11,nl,.v 22,.v 23,.v 24] (.ret [.v 25,.v 26,.v 27]))) (.call 56 3 false [] [.v 7,.v 8] (.call 81 3 false [] [ik 5,ik 3,.v 11,nl,.v 22,.v 23,.v 24] (.call 56 3 false [] [.v 7,.v 9] (.call 81 3 false [] [ik 5,ik 4,.c (.str []),.v 13,.v 28,.v 29,.v 30] (.call 81 3 false [] [ik 6,.v 25,.v 26,.v 27,.v 31,.v 32,.v 33] (.ret [.v 34,.v 35,.v 36])))))))))))))
def ir56p1:IR:=(.ite (.v 16) (.ret [ik 3,.v 11,nl]) (.op (pb .eql) [.v 8,.v 15] (.ite (.v 17) (.call 56 3 false [] [.v 7,.v 9] (.call 81 3 false [] [ik 6,ik 3,.v 11,nl,.v 18,.v 19,.v 20] (.ret [.v 21,.v 22,.v 23]))) (.letj 1 (.op (pb .eql) [.v 8,.c (.int .u64 0)] (.ite (.v 18) (.op (pb .eql) [.v 9,.v 15] (.jump 0 [.v 19])) (.jump 0 [bk false]))) ir56p0))))
def ir56:IR:=(.op .lenL [.v 0] (.call 79 1 false [] [.v 2] (.op (pb .eql) [.v 1,.c (.int .u64 0)] (.ite (.v 4) (.ret [ik 2,.c (.str []),nl]) (.op (pb .eql) [.v 1,.v 3] (.ite (.v 5) (.ret [ik 1,.c (.str []),nl]) (.op .lenL [.v 0] (.op (.subL 1) [.v 0,ik 1,.v 6] (.call 80 2 false [] [.v 1] (.op (pb .eql) [.v 8,.v 9] (.ite (.v 10) (.call 56 3 false [] [.v 7,.v 8] (.ret [.v 11,.v 12,.v 13])) (.op (.row 1) [.v 0,ik 0] (.op (.row 1) [.v 0,ik 0] (.op (.mk 3 1) [ik 3,.v 12,nl] (.op .lenL [.v 7] (.call 79 1 false [] [.v 14] (.letj 1 (.op (pb .eql) [.v 8,.v 15] (.ite (.v 16) (.op (pb .eql) [.v 9,.c (.int .u64 0)] (.jump 0 [.v 17])) (.jump 0 [bk false]))) ir56p1)))))))))))))))))
theorem rd56:ai T SG sigs 3000 sg56 f65 an56=some ir56:=by kernel_rfl
def an57:Ann:=.z
def ir57:IR:=(.call 82 7 false [] [.v 0,.v 1,.v 2,.v 3] (.call 24 5 false [] [.c (.str [45,62]),.v 7,.v 8,.v 9,.v 10] (.op (.un .not) [.v 11] (.ite (.v 16) (.ret [.v 4,.v 5,.v 6,.v 12,.v 13,.v 14,.v 15]) (.call 57 7 false [] [.v 12,.v 13,.v 14,.v 15] (.op (.mk 3 2) [.v 4,.v 5,.v 6,.v 17,.v 18,.v 19] (.ret [ik 7,.c (.str []),.v 24,.v 20,.v 21,.v 22,.v 23])))))))
theorem rd57:ai T SG sigs 3000 sg57 f74 an57=some ir57:=by kernel_rfl
def an58:Ann:=(.s none .z (.s none (.b (.l ⟨4,[],[(0,⟨false,false,85,4,.c (.sl []),[[.atm (.v 0),.atm (.v 1),.atm (.v 2),.atm (.v 3)]]⟩)],2,[]⟩ (.s none (.s (some ⟨1,[(29,(.atm (.v 0)))],[],2,[]⟩) .z .z) .z))) (.s none .z (.s none .z (.s none .z (.s none (.b (.l ⟨1,(jk [29,37,38,39,40,41,42,43,44,45,46,47]++[(4,(.atm (.v 0)))]),[],2,[]⟩ (.s none (.s (some ⟨1,[(63,(.atm (.v 0)))],[],2,[]⟩) .z .z) .z))) (.s none (.s none .z (.b (.s (some ⟨1,(jk [63,66,67,68]++[(69,(.atm (.v 0)))]),[],2,[]⟩) .z .z))) (.s none (.s none .z (.b (.l ⟨1,(jk [4,5,69,83,84,85,92,93,94]++[(103,(.atm (.v 0)))]),[],3,[]⟩ (.s none .z (.s none .z (.s none (.b (.s none .z (.s (some ⟨1,[(104,.junk),(105,.junk),(106,.junk),(119,(.atm (.v 0)))],[],3,[]⟩) .z .z))) .z)))))) .z))))))))
def ir58p0:IR:=(.ite (.v 23) (.ret [.v 22,.v 22,.v 5,.v 4,.v 5,.v 6,.v 7]) (.op (pb .add) [.v 20,ik 1] (.jump 2 [.v 24])))
def ir58p1:IR:=(.op (pb .lss) [.v 20,.v 19] (.ite (.v 21) (.op .chk [.v 18,.v 20] (.op (.get 0 1) [.v 18,.v 20] (.letj 1 (.op .lenS [.v 10] (.op .lenS [.v 22] (.op (pb .geq) [.v 23,.v 24] (.ite (.v 25) (.op .lenS [.v 22] (.op .subS [.v 10,ik 0,.v 26] (.op (pb .eql) [.v 27,.v 22] (.jump 3 [.v 28])))) (.jump 3 [bk false]))))) ir58p0))) (.ret [.c (.str [63]),.c (.str []),.v 5,.v 4,.v 5,.v 6,.v 7])))
def ir58p2:IR:=(.ite (.v 15) (.ret [.v 14,.v 14,.v 5,.v 4,.v 5,.v 6,.v 7]) (.call 59 1 false [] [.v 14] (.ite (.v 16) (.ret [.c (.str [110,97,109,101]),.v 14,.v 5,.v 4,.v 5,.v 6,.v 7]) (.op (pb .gtr) [.v 12,ik 0] (.ite (.v 17) (.ret [.c (.str [63]),.v 14,.v 5,.v 4,.v 5,.v 6,.v 7]) (.op (.mk 1 7) [.c (.str [60,45,62]),.c (.str [45,62]),.c (.str [126]),.c (.str [38]),.c (.str [124]),.c (.str [40]),.c (.str [41])] (.op .lenL [.v 18] (.loop 1 [ik 0] ir58p1))))))))
def ir58p3:IR:=(.ite (.v 13) (.op (pb .add) [.v 12,ik 1] (.jump 1 [.v 14])) (.op .subS [.v 10,ik 0,.v 12] (.letj 1 (.op (pb .eql) [.v 14,.c (.str [48])] (.ite (.v 15) (.jump 2 [bk true]) (.op (pb .eql) [.v 14,.c (.str [49])] (.jump 2 [.v 16])))) ir58p2)))
def ir58p4:IR:=(.letj 1 (.op .lenS [.v 10] (.op (pb .lss) [.v 12,.v 13] (.ite (.v 14) (.op .idxS [.v 10,.v 12] (.call 83 1 false [] [.v 15] (.jump 2 [.v 16]))) (.jump 2 [bk false])))) ir58p3)
def ir58p5:IR:=(.ite (.v 8) (.op (pb .add) [.v 5,ik 1] (.jump 0 [.v 4,.v 9,.v 6,.v 7])) (.op .lenS [.v 4] (.op .subS [.v 4,.v 5,.v 9] (.op (pb .eql) [.v 10,.c (.str [])] (.ite (.v 11) (.op .lenS [.v 4] (.ret [.c (.str []),.c (.str []),.v 12,.v 4,.v 5,.v 6,.v 7])) (.loop 1 [ik 0] ir58p4))))))
def ir58p6:IR:=(.letj 1 (.op .lenS [.v 4] (.op (pb .lss) [.v 5,.v 8] (.ite (.v 9) (.op .idxS [.v 4,.v 5] (.op (pb .eql) [.v 10,.c (.int .u8 32)] (.jump 1 [.v 11]))) (.jump 1 [bk false])))) ir58p5)
def ir58:IR:=(.loop 4 [.v 0,.v 1,.v 2,.v 3] ir58p6)
theorem rd58:ai T SG sigs 3000 sg58 f75 an58=some ir58:=by kernel_rfl
def an59:Ann:=(.s none .z (.s none (.s (some ⟨1,[(2,.junk),(12,(.atm (.v 0)))],[],0,[]⟩) .z .z) (.s none (.s none .z (.b (.l ⟨1,[(12,.junk),(13,.junk),(15,(.atm (.v 0)))],[],0,[]⟩ (.s none .z (.s none .z (.s (some ⟨0,[(16,.junk)],[],0,[]⟩) (.b (.s none .z (.s none .z (.b (.s (some ⟨1,(jk [16,17,18,19,20]++[(21,(.atm (.v 0)))]),[],0,[]⟩) .z (.c .z (.s (some ⟨1,[(3,.junk),(4,.junk),(21,.junk),(28,(.atm (.v 0)))],[],0,[]⟩) .z .z))))))) .z)))))) .z)))
def ir59p0:IR:=(.op (pb .add) [.v 3,ik 1] (.jump 0 [.v 5]))
def ir59p1:IR:=(.ite (.v 7) (.jump 1 []) (.ret [bk false]))
def ir59p2:IR:=(.ite (.v 6) (.jump 1 []) (.letj 1 (.op (pb .gtr) [.v 3,ik 0] (.ite (.v 7) (.op (pb .geq) [.v 5,.c (.int .u8 48)] (.ite (.v 8) (.op (pb .leq) [.v 5,.c (.int .u8 57)] (.ite (.v 9) (.jump 2 [bk true]) (.op (pb .eql) [.v 5,.c (.int .u8 95)] (.jump 2 [.v 10])))) (.op (pb .eql) [.v 5,.c (.int .u8 95)] (.jump 2 [.v 9])))) (.jump 2 [bk false]))) ir59p1))
def ir59p3:IR:=(.op (pb .lss) [.v 3,.v 2] (.ite (.v 4) (.letj 0 (.op .idxS [.v 0,.v 3] (.letj 1 (.op (pb .geq) [.v 5,.c (.int .u8 97)] (.ite (.v 6) (.op (pb .leq) [.v 5,.c (.int .u8 122)] (.jump 2 [.v 7])) (.jump 2 [bk false]))) ir59p2)) ir59p0) (.ret [bk true])))
def ir59p4:IR:=(.ite (.v 1) (.ret [bk false]) (.op .lenS [.v 0] (.loop 1 [ik 0] ir59p3)))
def ir59:IR:=(.letj 1 (.op .lenS [.v 0] (.op (pb .eql) [.v 1,ik 0] (.ite (.v 2) (.jump 0 [bk true]) (.op .lenS [.v 0] (.op (pb .gtr) [.v 3,ik 12] (.jump 0 [.v 4])))))) ir59p4)
theorem rd59:ai T SG sigs 3000 sg59 f76 an59=some ir59:=by kernel_rfl
def an60:Ann:=(.s none .z (.s none (.b (.s (some ⟨1,[(0,.junk),(2,.junk),(3,(.atm (.v 0)))],[],1,[]⟩) .z .z)) .z))
def ir60p0:IR:=(.ite (.v 3) (.ret [ik 2]) (.call 84 1 false [] [.v 0,.v 1,.v 2] (.op (.un .not) [.v 4] (.ite (.v 5) (.ret [ik 4]) (.call 85 1 false [] [.v 0,.v 1,.v 2] (.op (.un .not) [.v 6] (.ite (.v 7) (.ret [ik 3]) (.ret [ik 0]))))))))
def ir60:IR:=(.letj 1 (.call 26 1 false [] [.v 0,.v 1,.v 2] (.op (pb .gtr) [.v 3,ik 600] (.ite (.v 4) (.jump 0 [bk true]) (.call 27 1 false [] [.v 0,.v 1,.v 2] (.op (pb .gtr) [.v 5,ik 20] (.jump 0 [.v 6])))))) ir60p0)
theorem rd60:ai T SG sigs 3000 sg60 f27 an60=some ir60:=by kernel_rfl
def an62:Ann:=.z
def ir62:IR:=(.call 86 1 false [] [.v 0,.v 1] (.op (pb .geq) [.v 2,ik 0] (.ret [.v 3])))
theorem rd62:ai T SG sigs 3000 sg62 f79 an62=some ir62:=by kernel_rfl
def an63:Ann:=(.s none .z (.s none (.s none .z (.b (.s none .z (.c .z (.s none .z (.c .z (.s none .z (.c .z (.s none .z (.c .z (.s none .z (.c .z (.s none .z (.c (.s none .z (.s none (.s none .z (.b (.l ⟨2,(jk [1,3,4,11,12,13,14,15,16,22,23,31,32,47,48,63,64,65]++[(5,(.atm (.v 0))),(68,(.atm (.v 1)))]),[],1,[]⟩ .z))) .z)) .z)))))))))))))) (.s none .z (.s none (.s none .z (.b (.l ⟨2,(jk [1,3,4,11,12,13,14,15,16,22,23,31,32,47,48,63,64,79]++[(8,(.atm (.v 0))),(82,(.atm (.v 1)))]),[],1,[]⟩ .z))) .z))))
def ir63p0:IR:=(.op (pb .lss) [.v 12,.v 10] (.ite (.v 13) (.op (.row 3) [.v 3,.v 12] (.call 63 1 false [] [.v 0,.v 14,.v 15,.v 16] (.op (pb .and) [.v 11,.v 17] (.op (pb .add) [.v 12,ik 1] (.jump 0 [.v 18,.v 19]))))) (.ret [.v 11])))
def ir63p1:IR:=(.op (pb .lss) [.v 12,.v 10] (.ite (.v 13) (.op (.row 3) [.v 3,.v 12] (.call 63 1 false [] [.v 0,.v 14,.v 15,.v 16] (.op (pb .or) [.v 11,.v 17] (.op (pb .add) [.v 12,ik 1] (.jump 0 [.v 18,.v 19]))))) (.ret [.v 11])))
def ir63:IR:=(.op (pb .eql) [.v 1,ik 1] (.ite (.v 4) (.ret [.c (.int .u64 18446744073709551615)]) (.op (pb .eql) [.v 1,ik 3] (.ite (.v 5) (.call 86 1 false [] [.v 0,.v 2] (.call 87 1 false [] [.v 6] (.ret [.v 7]))) (.op (pb .eql) [.v 1,ik 4] (.ite (.v 6) (.op (.row 3) [.v 3,ik 0] (.call 63 1 false [] [.v 0,.v 7,.v 8,.v 9] (.op (.un .xor) [.v 10] (.ret [.v 11])))) (.op (pb .eql) [.v 1,ik 7] (.ite (.v 7) (.op (.row 3) [.v 3,ik 0] (.call 63 1 false [] [.v 0,.v 8,.v 9,.v 10] (.op (.un .xor) [.v 11] (.op (.row 3) [.v 3,ik 1] (.call 63 1 false [] [.v 0,.v 13,.v 14,.v 15] (.op (pb .or) [.v 12,.v 16] (.ret [.v 17]))))))) (.op (pb .eql) [.v 1,ik 8] (.ite (.v 8) (.op (.row 3) [.v 3,ik 0] (.call 63 1 false [] [.v 0,.v 9,.v 10,.v 11] (.op (.row 3) [.v 3,ik 1] (.call 63 1 false [] [.v 0,.v 13,.v 14,.v 15] (.op (pb .xor) [.v 12,.v 16] (.op (.un .xor) [.v 17] (.ret [.v 18]))))))) (.op (pb .eql) [.v 1,ik 5] (.ite (.v 9) (.op .lenL [.v 3] (.loop 2 [.c (.int .u64 18446744073709551615),ik 0] ir63p0)) (.op .lenL [.v 3] (.loop 2 [.c (.int .u64 0),ik 0] ir63p1))))))))))))))
theorem rd63:ai T SG sigs 3000 sg63 f80 an63=some ir63:=by kernel_rfl
def an65:Ann:=.z
def ir65:IR:=(.call 88 2 false [0] [.v 0] (.call 89 1 false [0] [.v 1] (.ret [.v 3,.v 2])))
theorem rd65:ai T SG sigs 3000 sg65 f82 an65=some ir65:=by kernel_rfl
def an68:Ann:=(.s none .z (.s none .z (.s none .z (.s none (.b (.l ⟨2,(jk [4,5,10,11,12]++[(7,(.atm (.v 0))),(8,(.atm (.v 1)))]),[],0,[]⟩ .z)) .z))))
def ir68p0:IR:=(.op (pb .lss) [.v 3,.v 4] (.ite (.v 5) (.op (pb .add) [.v 3,.v 4] (.op (.conv .u64) [.v 6] (.op (pb .shr) [.v 7,.c (.int .u64 1)] (.op (.conv .i64) [.v 8] (.op (.row 1) [.v 0,.v 9] (.call 90 1 false [] [.v 10,.v 1] (.ite (.v 11) (.op (pb .add) [.v 9,ik 1] (.jump 0 [.v 12,.v 4])) (.jump 0 [.v 3,.v 9])))))))) (.op (pb .lss) [.v 3,.v 2] (.ite (.v 6) (.op (.row 1) [.v 0,.v 3] (.op (pb .eql) [.v 7,.v 1] (.ite (.v 8) (.ret [.v 3,bk true]) (.op (.row 1) [.v 0,.v 3] (.call 91 1 false [] [.v 9] (.ite (.v 10) (.call 91 1 false [] [.v 1] (.ret [.v 3,.v 11])) (.ret [.v 3,bk false]))))))) (.ret [.v 3,bk false])))))
def ir68:IR:=(.op .lenL [.v 0] (.loop 2 [ik 0,.v 2] ir68p0))
theorem rd68:ai T SG sigs 3000 sg68 f85 an68=some ir68:=by kernel_rfl
def an69:Ann:=.z
def ir69:IR:=(.call 92 1 false [] [.v 0,.v 1] (.op (pb .geq) [.v 2,ik 0] (.ret [.v 3])))
theorem rd69:ai T SG sigs 3000 sg69 f86 an69=some ir69:=by kernel_rfl
def an70:Ann:=.z
def ir70:IR:=(.call 19 1 false [] [.v 0,.v 1] (.op (pb .neq) [.v 5,ik 0] (.ite (.v 6) (.ret [.c (.int .u64 0),.c (.int .u64 0),.v 5]) (.call 30 2 false [] [.v 0,.v 2,.v 3,.v 4] (.call 55 1 false [] [.v 0] (.ret [.v 7,.v 9,.v 8]))))))
theorem rd70:ai T SG sigs 3000 sg70 f87 an70=some ir70:=by kernel_rfl
def an71:Ann:=.z
def ir71:IR:=(.call 19 1 false [] [.v 0,.v 1] (.op (pb .neq) [.v 3,ik 0] (.ite (.v 4) (.ret [.v 3]) (.call 93 1 false [] [.v 2] (.op (.un .not) [.v 5] (.ite (.v 6) (.ret [ik 4]) (.ret [ik 0])))))))
theorem rd71:ai T SG sigs 3000 sg71 f88 an71=some ir71:=by kernel_rfl
def an72:Ann:=(.s none .z (.s none .z (.s none .z (.s none (.s none .z (.b (.l ⟨2,(jk [0,7,11,12,13,14,15,16,17,18]++[(20,(.atm (.v 0)))]),[(2,⟨false,true,3,1,.v 1,[]⟩)],3,[]⟩ .z))) .z))))
def ir72p0:IR:=(.op (pb .lss) [.v 8,.v 7] (.ite (.v 10) (.call 94 1 false [] [.v 0,.v 1,.v 8,.v 2,.v 4,.v 3] (.op .chk [.v 9,.v 8] (.op (.set 0 1) [.v 9,.v 8,.v 11] (.op (pb .add) [.v 8,ik 1] (.jump 0 [.v 13,.v 12]))))) (.call 33 3 false [] [.v 0,.v 9] (.ret [.v 11,.v 12,.v 13]))))
def ir72:IR:=(.call 43 1 false [] [.v 0,.v 1,.v 2] (.op .lenL [.v 1] (.op (.mkL 8 [(.int .i64 0)]) [.v 5] (.op .lenL [.v 6] (.loop 2 [ik 0,.v 6] ir72p0)))))
theorem rd72:ai T SG sigs 3000 sg72 f89 an72=some ir72:=by kernel_rfl
def an73:Ann:=.z
def ir73:IR:=(.op (.conv .u64) [.v 1] (.op (pb .shr) [.v 0,.v 2] (.op (pb .and) [.v 3,.c (.int .u64 1)] (.op (pb .eql) [.v 4,.c (.int .u64 1)] (.ret [.v 5])))))
theorem rd73:ai T SG sigs 3000 sg73 f51 an73=some ir73:=by kernel_rfl
def an74:Ann:=.z
def ir74:IR:=(.op (pb .eql) [.v 0,ik 1] (.ite (.v 1) (.call 95 1 false [] [] (.ret [.v 2])) (.op (pb .eql) [.v 0,ik 2] (.ite (.v 2) (.call 96 1 false [] [] (.ret [.v 3])) (.op (pb .eql) [.v 0,ik 3] (.ite (.v 3) (.call 97 1 false [] [] (.ret [.v 4])) (.ret [nl])))))))
theorem rd74:ai T SG sigs 3000 sg74 f90 an74=some ir74:=by kernel_rfl
def an75:Ann:=.z
def ir75:IR:=(.call 98 2 false [] [.v 0,.v 1] (.op (pb .geq) [.v 2,ik 0] (.ret [.v 4,.v 3])))
theorem rd75:ai T SG sigs 3000 sg75 f92 an75=some ir75:=by kernel_rfl
def an76:Ann:=.z
def ir76:IR:=(.call 37 1 false [] [.v 0,.v 1] (.ret [.v 2]))
theorem rd76:ai T SG sigs 3000 sg76 f58 an76=some ir76:=by kernel_rfl
def an77:Ann:=(.s none .z (.s none (.s (some ⟨1,[(2,.junk),(21,(.atm (.v 0)))],[],0,[]⟩) .z .z) (.s none (.s none .z (.b (.l ⟨1,[(3,(.atm (.v 0))),(21,.junk)],[],0,[]⟩ (.s none .z (.s none (.b (.s (some ⟨1,(jk [22,23,24,25]++[(55,(.atm (.v 0)))]),[],0,[]⟩) .z .z)) .z))))) .z)))
def ir77p0:IR:=(.ite (.v 5) (.ret [bk false]) (.op (pb .add) [.v 2,ik 1] (.jump 0 [.v 6])))
def ir77p1:IR:=(.op .lenS [.v 0] (.op (pb .lss) [.v 2,.v 3] (.ite (.v 4) (.letj 1 (.op .idxS [.v 0,.v 2] (.op (pb .lss) [.v 5,.c (.int .u8 97)] (.ite (.v 6) (.op .idxS [.v 0,.v 2] (.op (pb .lss) [.v 7,.c (.int .u8 48)] (.ite (.v 8) (.op .idxS [.v 0,.v 2] (.op (pb .neq) [.v 9,.c (.int .u8 95)] (.jump 1 [.v 10]))) (.op .idxS [.v 0,.v 2] (.op (pb .gtr) [.v 9,.c (.int .u8 57)] (.ite (.v 10) (.op .idxS [.v 0,.v 2] (.op (pb .neq) [.v 11,.c (.int .u8 95)] (.jump 1 [.v 12]))) (.jump 1 [bk false]))))))) (.op .idxS [.v 0,.v 2] (.op (pb .gtr) [.v 7,.c (.int .u8 122)] (.ite (.v 8) (.op .idxS [.v 0,.v 2] (.op (pb .lss) [.v 9,.c (.int .u8 48)] (.ite (.v 10) (.op .idxS [.v 0,.v 2] (.op (pb .neq) [.v 11,.c (.int .u8 95)] (.jump 1 [.v 12]))) (.op .idxS [.v 0,.v 2] (.op (pb .gtr) [.v 11,.c (.int .u8 57)] (.ite (.v 12) (.op .idxS [.v 0,.v 2] (.op (pb .neq) [.v 13,.c (.int .u8 95)] (.jump 1 [.v 14]))) (.jump 1 [bk false]))))))) (.jump 1 [bk false]))))))) ir77p0) (.ret [bk true]))))
def ir77p2:IR:=(.ite (.v 1) (.ret [bk false]) (.loop 1 [ik 0] ir77p1))
def ir77:IR:=(.letj 1 (.op .lenS [.v 0] (.op (pb .lss) [.v 1,ik 1] (.ite (.v 2) (.jump 0 [bk true]) (.op .lenS [.v 0] (.op (pb .gtr) [.v 3,ik 12] (.ite (.v 4) (.jump 0 [bk true]) (.op .idxS [.v 0,ik 0] (.op (pb .lss) [.v 5,.c (.int .u8 97)] (.ite (.v 6) (.jump 0 [bk true]) (.op .idxS [.v 0,ik 0] (.op (pb .gtr) [.v 7,.c (.int .u8 122)] (.jump 0 [.v 8])))))))))))) ir77p2)
theorem rd77:ai T SG sigs 3000 sg77 f95 an77=some ir77:=by kernel_rfl
def an78:Ann:=(.s none .z (.s none (.s none .z (.b (.l ⟨1,[(4,.junk),(6,.junk),(8,(.atm (.v 0)))],[],0,[]⟩ .z))) .z))
def ir78p0:IR:=(.op (pb .lss) [.v 3,.v 2] (.ite (.v 4) (.op (.row 1) [.v 0,.v 3] (.op (.bin .eql true) [.v 1,.v 5] (.ite (.v 6) (.ret [.v 3]) (.op (pb .add) [.v 3,ik 1] (.jump 0 [.v 7]))))) (.ret [ik (-1)])))
def ir78:IR:=(.op .lenL [.v 0] (.loop 1 [ik 0] ir78p0))
theorem rd78:ai T SG sigs 3000 sg78 f96 an78=some ir78:=by kernel_rfl
def an79:Ann:=.z
def ir79:IR:=(.op (pb .shl) [.c (.int .u64 1),.v 0] (.op (pb .sub) [.c (.int .u64 64),.v 1] (.op (pb .shr) [.c (.int .u64 18446744073709551615),.v 2] (.ret [.v 3]))))
theorem rd79:ai T SG sigs 3000 sg79 f66 an79=some ir79:=by kernel_rfl
def an80:Ann:=(.s none .z (.s none (.s none .z (.b (.l ⟨3,[(2,(.atm (.v 0))),(3,(.atm (.v 1))),(5,(.atm (.v 2)))],[],0,[]⟩ .z))) .z))
def ir80p0:IR:=(.op (pb .lss) [.v 3,ik 32] (.ite (.v 4) (.op (pb .mul) [ik 2,.v 3] (.op (pb .shr) [.v 0,.v 5] (.op (pb .and) [.v 6,.c (.int .u64 1)] (.op (pb .shl) [.v 7,.v 3] (.op (pb .or) [.v 2,.v 8] (.op (pb .mul) [ik 2,.v 3] (.op (pb .add) [.v 10,ik 1] (.op (pb .shr) [.v 0,.v 11] (.op (pb .and) [.v 12,.c (.int .u64 1)] (.op (pb .shl) [.v 13,.v 3] (.op (pb .or) [.v 1,.v 14] (.op (pb .add) [.v 3,ik 1] (.jump 0 [.v 15,.v 9,.v 16]))))))))))))) (.ret [.v 1,.v 2])))
def ir80:IR:=(.loop 3 [.c (.int .u64 0),.c (.int .u64 0),ik 0] ir80p0)
theorem rd80:ai T SG sigs 3000 sg80 f97 an80=some ir80:=by kernel_rfl
def an81:Ann:=.z
def ir81:IR:=(.op (.mk 3 2) [.v 1,.v 2,.v 3,.v 4,.v 5,.v 6] (.ret [.v 0,.c (.str []),.v 7]))
theorem rd81:ai T SG sigs 3000 sg81 f98 an81=some ir81:=by kernel_rfl
def an82:Ann:=.z
def ir82:IR:=(.call 99 7 false [] [ik 6,.c (.str [124]),.v 0,.v 1,.v 2,.v 3] (.ret [.v 4,.v 5,.v 6,.v 7,.v 8,.v 9,.v 10]))
theorem rd82:ai T SG sigs 3000 sg82 f100 an82=some ir82:=by kernel_rfl
def an83:Ann:=.z
def ir83:IR:=(.op (pb .geq) [.v 0,.c (.int .u8 97)] (.ite (.v 1) (.op (pb .leq) [.v 0,.c (.int .u8 122)] (.ite (.v 2) (.ret [bk true]) (.op (pb .geq) [.v 0,.c (.int .u8 65)] (.ite (.v 3) (.op (pb .leq) [.v 0,.c (.int .u8 90)] (.ite (.v 4) (.ret [bk true]) (.op (pb .geq) [.v 0,.c (.int .u8 48)] (.ite (.v 5) (.op (pb .leq) [.v 0,.c (.int .u8 57)] (.ite (.v 6) (.ret [bk true]) (.op (pb .eql) [.v 0,.c (.int .u8 95)] (.ret [.v 7])))) (.op (pb .eql) [.v 0,.c (.int .u8 95)] (.ret [.v 6])))))) (.op (pb .geq) [.v 0,.c (.int .u8 48)] (.ite (.v 4) (.op (pb .leq) [.v 0,.c (.int .u8 57)] (.ite (.v 5) (.ret [bk true]) (.op (pb .eql) [.v 0,.c (.int .u8 95)] (.ret [.v 6])))) (.op (pb .eql) [.v 0,.c (.int .u8 95)] (.ret [.v 5])))))))) (.op (pb .geq) [.v 0,.c (.int .u8 65)] (.ite (.v 2) (.op (pb .leq) [.v 0,.c (.int .u8 90)] (.ite (.v 3) (.ret [bk true]) (.op (pb .geq) [.v 0,.c (.int .u8 48)] (.ite (.v 4) (.op (pb .leq) [.v 0,.c (.int .u8 57)] (.ite (.v 5) (.ret [bk true]) (.op (pb .eql) [.v 0,.c (.int .u8 95)] (.ret [.v 6])))) (.op (pb .eql) [.v 0,.c (.int .u8 95)] (.ret [.v 5])))))) (.op (pb .geq) [.v 0,.c (.int .u8 48)] (.ite (.v 3) (.op (pb .leq) [.v 0,.c (.int .u8 57)] (.ite (.v 4) (.ret [bk true]) (.op (pb .eql) [.v 0,.c (.int .u8 95)] (.ret [.v 5])))) (.op (pb .eql) [.v 0,.c (.int .u8 95)] (.ret [.v 4]))))))))
theorem rd83:ai T SG sigs 3000 sg83 f101 an83=some ir83:=by kernel_rfl
def an84:Ann:=(.s none .z (.s none .z (.s none (.s none .z (.b (.l ⟨1,(jk [0,2,4,7,8,9,10,11]++[(14,(.atm (.v 0)))]),[],1,[]⟩ .z))) .z)))
def ir84p0:IR:=(.op (pb .lss) [.v 6,.v 5] (.ite (.v 7) (.op (.row 3) [.v 2,.v 6] (.call 84 1 false [] [.v 8,.v 9,.v 10] (.op (.un .not) [.v 11] (.ite (.v 12) (.ret [bk false]) (.op (pb .add) [.v 6,ik 1] (.jump 0 [.v 13])))))) (.ret [bk true])))
def ir84:IR:=(.call 100 1 false [] [.v 0,.v 1,.v 2] (.op (.un .not) [.v 3] (.ite (.v 4) (.ret [bk false]) (.op .lenL [.v 2] (.loop 1 [ik 0] ir84p0)))))
theorem rd84:ai T SG sigs 3000 sg84 f67 an84=some ir84:=by kernel_rfl
def an85:Ann:=(.s none .z (.s none .z (.s none (.s none .z (.b (.l ⟨1,(jk [0,2,4,7,8,9,10,11]++[(14,(.atm (.v 0)))]),[],1,[]⟩ .z))) .z)))
def ir85p0:IR:=(.op (pb .lss) [.v 6,.v 5] (.ite (.v 7) (.op (.row 3) [.v 2,.v 6] (.call 85 1 false [] [.v 8,.v 9,.v 10] (.op (.un .not) [.v 11] (.ite (.v 12) (.ret [bk false]) (.op (pb .add) [.v 6,ik 1] (.jump 0 [.v 13])))))) (.ret [bk true])))
def ir85:IR:=(.call 101 1 false [] [.v 0,.v 1,.v 2] (.op (.un .not) [.v 3] (.ite (.v 4) (.ret [bk false]) (.op .lenL [.v 2] (.loop 1 [ik 0] ir85p0)))))
theorem rd85:ai T SG sigs 3000 sg85 f67 an85=some ir85:=by kernel_rfl
def an86:Ann:=(.s none .z (.s none (.s none .z (.b (.l ⟨1,[(4,.junk),(6,.junk),(8,(.atm (.v 0)))],[],0,[]⟩ .z))) .z))
def ir86p0:IR:=(.op (pb .lss) [.v 3,.v 2] (.ite (.v 4) (.op (.row 1) [.v 0,.v 3] (.op (pb .eql) [.v 1,.v 5] (.ite (.v 6) (.ret [.v 3]) (.op (pb .add) [.v 3,ik 1] (.jump 0 [.v 7]))))) (.ret [ik (-1)])))
def ir86:IR:=(.op .lenL [.v 0] (.loop 1 [ik 0] ir86p0))
theorem rd86:ai T SG sigs 3000 sg86 f105 an86=some ir86:=by kernel_rfl
def an87:Ann:=(.s none .z (.s none .z (.s none (.s none .z (.b (.l ⟨2,[(2,.junk),(3,(.atm (.v 0))),(5,(.atm (.v 1)))],[],0,[]⟩ .z))) .z)))
def ir87p0:IR:=(.op (pb .lss) [.v 2,ik 64] (.ite (.v 3) (.op (pb .shr) [.v 2,.v 0] (.op (pb .and) [.v 4,ik 1] (.op (.conv .u64) [.v 5] (.op (pb .shl) [.v 6,.v 2] (.op (pb .or) [.v 1,.v 7] (.op (pb .add) [.v 2,ik 1] (.jump 0 [.v 8,.v 9]))))))) (.ret [.v 1])))
def ir87:IR:=(.loop 2 [.c (.int .u64 0),ik 0] ir87p0)
theorem rd87:ai T SG sigs 3000 sg87 f106 an87=some ir87:=by kernel_rfl
def an90:Ann:=.z
def ir90:IR:=(.call 102 1 false [] [.v 0] (.ite (.v 2) (.call 102 1 false [] [.v 1] (.op (.un .not) [.v 3] (.ite (.v 4) (.ret [bk true]) (.op (pb .lss) [.v 0,.v 1] (.ret [.v 5]))))) (.op (pb .lss) [.v 0,.v 1] (.ret [.v 3]))))
theorem rd90:ai T SG sigs 3000 sg90 f110 an90=some ir90:=by kernel_rfl
def an91:Ann:=.z
def ir91:IR:=(.op (pb .neq) [.v 0,.v 0] (.ret [.v 1]))
theorem rd91:ai T SG sigs 3000 sg91 f111 an91=some ir91:=by kernel_rfl
def an92:Ann:=(.s none .z (.s none (.s none .z (.b (.l ⟨1,[(4,.junk),(6,.junk),(8,(.atm (.v 0)))],[],0,[]⟩ .z))) .z))
def ir92p0:IR:=(.op (pb .lss) [.v 3,.v 2] (.ite (.v 4) (.op (.row 1) [.v 0,.v 3] (.op (pb .eql) [.v 1,.v 5] (.ite (.v 6) (.ret [.v 3]) (.op (pb .add) [.v 3,ik 1] (.jump 0 [.v 7]))))) (.ret [ik (-1)])))
def ir92:IR:=(.op .lenL [.v 0] (.loop 1 [ik 0] ir92p0))
theorem rd92:ai T SG sigs 3000 sg92 f112 an92=some ir92:=by kernel_rfl
def an93:Ann:=.z
def ir93:IR:=(.op (pb .geq) [.v 0,ik 1] (.ite (.v 1) (.op (pb .leq) [.v 0,ik 3] (.ret [.v 2])) (.ret [bk false])))
theorem rd93:ai T SG sigs 3000 sg93 f113 an93=some ir93:=by kernel_rfl
def an94:Ann:=(.s none .z (.s none .z (.s none (.b (.s (some ⟨1,(jk [0,10,12,13,14,15,16,17,18]++[(19,(.atm (.v 0)))]),[],1,[]⟩) .z (.c .z (.s none .z (.c .z (.s none .z (.c .z (.s (some ⟨1,(jk [1,2,3,4,5,19,34,35,36,38,39,40,41]++[(42,(.atm (.v 0)))]),[],1,[]⟩) .z .z)))))))) .z)))
def ir94p0:IR:=(.ite (.v 12) (.op (pb .add) [.v 8,ik 1] (.ret [.v 13])) (.ret [.v 8]))
def ir94p1:IR:=(.ite (.v 9) (.op .lenL [.v 1] (.op (pb .add) [.v 10,ik 1] (.op (pb .mul) [ik 3,.v 11] (.op (pb .sub) [.v 8,.v 12] (.ret [.v 13]))))) (.op (pb .eql) [.v 5,ik 2] (.ite (.v 10) (.ret [.v 8]) (.call 103 1 false [] [.v 4,.v 2] (.ite (.v 11) (.ret [ik 0]) (.letj 1 (.op (pb .eql) [.v 5,ik 3] (.ite (.v 12) (.call 103 1 false [] [.v 3,.v 2] (.op (.un .not) [.v 13] (.jump 0 [.v 14]))) (.jump 0 [bk false]))) ir94p0))))))
def ir94:IR:=(.op (.row 1) [.v 1,.v 2] (.op (pb .add) [.v 6,ik 1] (.op (pb .mul) [ik 3,.v 7] (.letj 1 (.op (pb .eql) [.v 5,ik 2] (.ite (.v 9) (.call 103 1 false [] [.v 3,.v 2] (.jump 0 [.v 10])) (.jump 0 [bk false]))) ir94p1))))
theorem rd94:ai T SG sigs 3000 sg94 f114 an94=some ir94:=by kernel_rfl
def an95:Ann:=.z
def ir95:IR:=(.op (.mk 2 5) [bk true,.c (fnD 130),bk true,.c (fnD 132),bk true,.c (fnD 133),bk false,.c (fnD 134),bk false,.c (fnD 135)] (.ret [.v 0]))
theorem rd95:ai T SG sigs 3000 sg95 f115 an95=some ir95:=by kernel_rfl
def an96:Ann:=.z
def ir96:IR:=(.op (.mk 2 6) [bk true,.c (fnD 136),bk true,.c (fnD 137),bk true,.c (fnD 138),bk true,.c (fnD 139),bk false,.c (fnD 140),bk false,.c (fnD 141)] (.ret [.v 0]))
theorem rd96:ai T SG sigs 3000 sg96 f116 an96=some ir96:=by kernel_rfl
def an97:Ann:=.z
def ir97:IR:=(.op (.mk 2 7) [bk true,.c (fnD 142),bk true,.c (fnD 143),bk true,.c (fnD 144),bk false,.c (fnD 145),bk false,.c (fnD 146),bk false,.c (fnD 147),bk false,.c (fnD 149)] (.ret [.v 0]))
theorem rd97:ai T SG sigs 3000 sg97 f117 an97=some ir97:=by kernel_rfl
def an98:Ann:=(.s none .z (.s none (.s none .z (.b (.l ⟨2,[(4,.junk),(6,.junk),(8,(.atm (.v 0)))],[(0,⟨false,false,3,1,.c (.sl []),[[.atm (.v 1)]]⟩)],2,[]⟩ .z))) .z))
def ir98p0:IR:=(.op (pb .lss) [.v 3,.v 2] (.ite (.v 5) (.op (.row 1) [.v 0,.v 3] (.call 104 2 false [] [.v 6,.v 4] (.ite (.v 7) (.ret [.v 3,.v 8]) (.op (pb .add) [.v 3,ik 1] (.jump 0 [.v 9,.v 8]))))) (.ret [ik (-1),.v 4])))
def ir98:IR:=(.op .lenL [.v 0] (.loop 2 [ik 0,.v 1] ir98p0))
theorem rd98:ai T SG sigs 3000 sg98 f118 an98=some ir98:=by kernel_rfl
def an99:Ann:=(.s none .z (.s none .z (.s none .z (.s none .z (.s none (.b (.l ⟨5,(jk [1,9,11,12,13,14,15,16,17,19,20,21,22]),[(0,⟨false,false,85,4,.c (.sl []),[[.atm (.v 0),.atm (.v 1),.atm (.v 2),.atm (.v 3)]]⟩),(3,⟨false,true,39,3,.v 4,[]⟩)],5,[]⟩ .z)) (.s (some ⟨4,(jk [0,2,3,23,24,25]),[(0,⟨false,false,85,4,.c (.sl []),[[.atm (.v 0),.atm (.v 1),.atm (.v 2),.atm (.v 3)]]⟩)],5,[]⟩) .z .z))))))
def ir99p0:IR:=(.ret [.v 0,.c (.str []),.v 26,.v 32,.v 33,.v 34,.v 35])
def ir99p1:IR:=(.call 24 5 false [] [.v 1,.v 22,.v 23,.v 24,.v 25] (.ite (.v 27) (.call 105 7 false [] [.v 28,.v 29,.v 30,.v 31] (.op (.mk 3 1) [.v 32,.v 33,.v 34] (.op (.app 3 48) [.v 26,.v 39] (.jump 0 [.v 35,.v 36,.v 37,.v 38,.v 40])))) (.letj 4 (.ite (.v 31) (.jump 1 [.v 28,.v 29,.v 30,bk true]) (.op .lenL [.v 26] (.op (pb .gtr) [.v 32,ik 6] (.jump 1 [.v 28,.v 29,.v 30,.v 33])))) ir99p0)))
def ir99:IR:=(.call 105 7 false [] [.v 2,.v 3,.v 4,.v 5] (.call 58 7 false [] [.v 9,.v 10,.v 11,.v 12] (.op (pb .neq) [.v 13,.v 1] (.ite (.v 20) (.ret [.v 6,.v 7,.v 8,.v 16,.v 17,.v 18,.v 19]) (.op (.mk 3 1) [.v 6,.v 7,.v 8] (.loop 5 [.v 16,.v 17,.v 18,.v 19,.v 21] ir99p1))))))
theorem rd99:ai T SG sigs 3000 sg99 f121 an99=some ir99:=by kernel_rfl
def an100:Ann:=(.s none .z (.s none .z (.s none (.s none .z (.b (.s (some ⟨1,(jk [0,1,2,4,5,6,7]++[(9,(.atm (.v 0)))]),[],1,[]⟩) .z (.c .z (.s none .z (.c .z (.s (some ⟨1,[(9,.junk),(15,.junk),(16,.junk),(19,(.atm (.v 0)))],[],1,[]⟩) .z (.c .z (.s (some ⟨1,[(8,.junk),(19,.junk),(28,(.atm (.v 0)))],[],1,[]⟩) .z .z))))))))) .z)))
def ir100p0:IR:=(.ite (.v 7) (.op (pb .eql) [.v 3,ik 2] (.ret [.v 8])) (.ret [bk false]))
def ir100p1:IR:=(.ite (.v 6) (.op (pb .geq) [.v 3,ik 2] (.ite (.v 7) (.op (pb .leq) [.v 3,ik 6] (.ret [.v 8])) (.ret [bk false]))) (.letj 1 (.op (pb .eql) [.v 0,ik 7] (.ite (.v 7) (.jump 0 [bk true]) (.op (pb .eql) [.v 0,ik 8] (.jump 0 [.v 8])))) ir100p0))
def ir100p2:IR:=(.ite (.v 4) (.op (pb .eql) [.v 3,ik 0] (.ret [.v 5])) (.op (pb .eql) [.v 0,ik 4] (.ite (.v 5) (.op (pb .eql) [.v 3,ik 1] (.ret [.v 6])) (.letj 1 (.op (pb .eql) [.v 0,ik 5] (.ite (.v 6) (.jump 0 [bk true]) (.op (pb .eql) [.v 0,ik 6] (.jump 0 [.v 7])))) ir100p1))))
def ir100:IR:=(.op .lenL [.v 2] (.letj 1 (.op (pb .eql) [.v 0,ik 1] (.ite (.v 4) (.jump 0 [bk true]) (.op (pb .eql) [.v 0,ik 2] (.ite (.v 5) (.jump 0 [bk true]) (.op (pb .eql) [.v 0,ik 3] (.jump 0 [.v 6])))))) ir100p2))
theorem rd100:ai T SG sigs 3000 sg100 f68 an100=some ir100:=by kernel_rfl
def an101:Ann:=.z
def ir101:IR:=(.op (pb .eql) [.v 0,ik 3] (.ite (.v 3) (.call 59 1 false [] [.v 1] (.ret [.v 4])) (.op (pb .eql) [.v 1,.c (.str [])] (.ret [.v 4]))))
theorem rd101:ai T SG sigs 3000 sg101 f69 an101=some ir101:=by kernel_rfl
def an102:Ann:=.z
def ir102:IR:=(.op (pb .neq) [.v 0,.v 0] (.ret [.v 1]))
theorem rd102:ai T SG sigs 3000 sg102 f128 an102=some ir102:=by kernel_rfl
def an103:Ann:=.z
def ir103:IR:=(.op (.conv .u64) [.v 1] (.op (pb .shr) [.v 0,.v 2] (.op (pb .and) [.v 3,.c (.int .u64 1)] (.op (pb .eql) [.v 4,.c (.int .u64 1)] (.ret [.v 5])))))
theorem rd103:ai T SG sigs 3000 sg103 f129 an103=some ir103:=by kernel_rfl
def an104:Ann:=.z
def ir104:IR:=(.op .lenL [.v 0] (.op (pb .neq) [.v 2,.v 1] (.ite (.v 3) (.ret [bk true,.v 1]) (.call 106 2 false [] [.v 0,.v 1] (.ret [.v 4,.v 5])))))
theorem rd104:ai T SG sigs 3000 sg104 f93 an104=some ir104:=by kernel_rfl
def an105:Ann:=.z
def ir105:IR:=(.call 107 7 false [] [ik 5,.c (.str [38]),.v 0,.v 1,.v 2,.v 3] (.ret [.v 4,.v 5,.v 6,.v 7,.v 8,.v 9,.v 10]))
theorem rd105:ai T SG sigs 3000 sg105 f122 an105=some ir105:=by kernel_rfl
def an106:Ann:=.z
def ir106:IR:=(.call 108 2 false [] [.v 0,.v 1] (.op (pb .geq) [.v 2,ik 0] (.ret [.v 4,.v 3])))
theorem rd106:ai T SG sigs 3000 sg106 f94 an106=some ir106:=by kernel_rfl
def an107:Ann:=(.s none .z (.s none .z (.s none .z (.s none .z (.s none (.b (.l ⟨5,(jk [1,9,11,12,13,14,15,16,17,19,20,21,22]),[(0,⟨false,false,85,4,.c (.sl []),[[.atm (.v 0),.atm (.v 1),.atm (.v 2),.atm (.v 3)]]⟩),(3,⟨false,true,39,3,.v 4,[]⟩)],5,[]⟩ .z)) (.s (some ⟨4,(jk [0,2,3,23,24,25]),[(0,⟨false,false,85,4,.c (.sl []),[[.atm (.v 0),.atm (.v 1),.atm (.v 2),.atm (.v 3)]]⟩)],5,[]⟩) .z .z))))))
def ir107p0:IR:=(.ret [.v 0,.c (.str []),.v 26,.v 32,.v 33,.v 34,.v 35])
def ir107p1:IR:=(.call 24 5 false [] [.v 1,.v 22,.v 23,.v 24,.v 25] (.ite (.v 27) (.call 109 7 false [] [.v 28,.v 29,.v 30,.v 31] (.op (.mk 3 1) [.v 32,.v 33,.v 34] (.op (.app 3 48) [.v 26,.v 39] (.jump 0 [.v 35,.v 36,.v 37,.v 38,.v 40])))) (.letj 4 (.ite (.v 31) (.jump 1 [.v 28,.v 29,.v 30,bk true]) (.op .lenL [.v 26] (.op (pb .gtr) [.v 32,ik 6] (.jump 1 [.v 28,.v 29,.v 30,.v 33])))) ir107p0)))
def ir107:IR:=(.call 109 7 false [] [.v 2,.v 3,.v 4,.v 5] (.call 58 7 false [] [.v 9,.v 10,.v 11,.v 12] (.op (pb .neq) [.v 13,.v 1] (.ite (.v 20) (.ret [.v 6,.v 7,.v 8,.v 16,.v 17,.v 18,.v 19]) (.op (.mk 3 1) [.v 6,.v 7,.v 8] (.loop 5 [.v 16,.v 17,.v 18,.v 19,.v 21] ir107p1))))))
theorem rd107:ai T SG sigs 3000 sg107 f121 an107=some ir107:=by kernel_rfl
def an108:Ann:=(.s none .z (.s none (.s none .z (.b (.l ⟨2,[(4,.junk),(6,.junk),(8,(.atm (.v 0)))],[(0,⟨false,false,3,1,.c (.sl []),[[.atm (.v 1)]]⟩)],1,[]⟩ .z))) .z))
def ir108p0:IR:=(.op (pb .lss) [.v 3,.v 2] (.ite (.v 5) (.op (.row 1) [.v 0,.v 3] (.call 110 2 false [] [.v 6,.v 4] (.ite (.v 7) (.ret [.v 3,.v 8]) (.op (pb .add) [.v 3,ik 1] (.jump 0 [.v 9,.v 8]))))) (.ret [ik (-1),.v 4])))
def ir108:IR:=(.op .lenL [.v 0] (.loop 2 [ik 0,.v 1] ir108p0))
theorem rd108:ai T SG sigs 3000 sg108 f119 an108=some ir108:=by kernel_rfl
def an109:Ann:=.z
def ir109:IR:=(.call 58 7 false [] [.v 0,.v 1,.v 2,.v 3] (.op (pb .geq) [.v 9,ik 0] (.ite (.v 11) (.ret [ik 0,.c (.str []),nl,.v 7,.v 8,.v 9,.v 10]) (.call 24 5 false [] [.c (.str [110,97,109,101]),.v 7,.v 8,.v 9,.v 10] (.ite (.v 12) (.ret [ik 3,.v 5,nl,.v 13,.v 14,.v 15,.v 16]) (.call 24 5 false [] [.c (.str [48]),.v 13,.v 14,.v 15,.v 16] (.ite (.v 17) (.ret [ik 2,.c (.str []),nl,.v 18,.v 19,.v 20,.v 21]) (.call 24 5 false [] [.c (.str [49]),.v 18,.v 19,.v 20,.v 21] (.ite (.v 22) (.ret [ik 1,.c (.str []),nl,.v 23,.v 24,.v 25,.v 26]) (.call 24 5 false [] [.c (.str [126]),.v 23,.v 24,.v 25,.v 26] (.ite (.v 27) (.call 109 7 false [] [.v 28,.v 29,.v 30,.v 31] (.op (.mk 3 1) [.v 32,.v 33,.v 34] (.ret [ik 4,.c (.str []),.v 39,.v 35,.v 36,.v 37,.v 38]))) (.call 24 5 false [] [.c (.str [40]),.v 28,.v 29,.v 30,.v 31] (.ite (.v 32) (.call 23 7 false [] [.v 33,.v 34,.v 35,.v 36] (.call 24 5 false [] [.c (.str [41]),.v 40,.v 41,.v 42,.v 43] (.op (.un .not) [.v 44] (.ite (.v 49) (.call 25 7 false [] [.v 45,.v 46,.v 47,.v 48] (.ret [.v 50,.v 51,.v 52,.v 53,.v 54,.v 55,.v 56])) (.ret [.v 37,.v 38,.v 39,.v 45,.v 46,.v 47,.v 48]))))) (.call 25 7 false [] [.v 33,.v 34,.v 35,.v 36] (.ret [.v 37,.v 38,.v 39,.v 40,.v 41,.v 42,.v 43])))))))))))))))
theorem rd109:ai T SG sigs 3000 sg109 f150 an109=some ir109:=by kernel_rfl
def an110:Ann:=.z
def ir110:IR:=(.op (pb .lss) [.v 0,ik 0] (.ite (.v 2) (.ret [bk true,.v 1]) (.op (pb .geq) [.v 0,.v 1] (.ret [.v 3,.v 1]))))
theorem rd110:ai T SG sigs 3000 sg110 f91 an110=some ir110:=by kernel_rfl
end Go.Proofs.YtefjlhhicgepfaaGreatDoor

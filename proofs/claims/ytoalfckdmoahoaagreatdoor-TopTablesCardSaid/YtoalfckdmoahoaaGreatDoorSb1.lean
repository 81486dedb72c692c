/- What functions of the program compute: lemmas. -/
import Derived.Test.YtoalfckdmoahoaaGreatDoorSe8
import Derived.Test.YtoalfckdmoahoaaGreatDoorProg
import Derived.KernelRfl
set_option linter.unusedSimpArgs false
set_option linter.unusedVariables false
set_option linter.unusedSectionVars false
namespace Go.Proofs.YtoalfckdmoahoaaGreatDoor
open Go Am
set_option maxRecDepth 100000
abbrev fnD (f:Nat):D:=.raw (.func (.func f) #[] #[])
def T:Tab:=[
 (3,⟨1,8,true,true,false,none,none,(some .i64),false,false,(some (.int .i64 0)),[],none,none⟩),
 (4,⟨1,1,true,true,false,none,none,none,false,true,(some (.bool false)),[],none,none⟩),
 (5,⟨1,1,true,true,false,none,none,(some .u8),false,false,(some (.int .u8 0)),[],none,none⟩),
 (9,⟨1,16,true,true,false,none,none,none,true,false,(some (.string ⟨⟨[]⟩⟩)),[],none,none⟩),
 (22,⟨1,24,true,true,false,(some 3),none,none,false,false,(some (.slice none 0 0)),[],none,none⟩),
 (23,⟨1,8,true,true,false,none,none,none,false,false,(some (.pointer none)),[],none,none⟩),
 (26,⟨1,24,true,true,false,(some 9),none,none,false,false,(some (.slice none 0 0)),[],none,none⟩),
 (28,⟨1,8,true,true,false,none,none,(some .u64),false,false,(some (.int .u64 0)),[],none,none⟩),
 (29,⟨1,24,true,true,false,(some 32),none,none,false,false,(some (.slice none 0 0)),[],none,none⟩),
 (32,⟨2,48,true,true,true,none,none,none,false,false,(some (.agg #[(.slice none 0 0),(.slice none 0 0)])),[(0,26),(1,22)],(some [(0,1),(1,1)]),none⟩),
 (33,⟨1,8,true,true,false,none,none,(some .i64),false,false,(some (.int .i64 0)),[],none,none⟩),
 (36,⟨1,24,true,true,false,(some 22),none,none,false,false,(some (.slice none 0 0)),[],none,none⟩),
 (38,⟨2,32,true,true,true,none,none,none,false,false,(some (.agg #[(.int .i64 0),(.slice none 0 0)])),[(0,3),(1,36)],(some [(0,1),(1,1)]),none⟩),
 (39,⟨1,24,true,true,false,(some 41),none,none,false,false,(some (.slice none 0 0)),[],none,none⟩),
 (41,⟨3,48,true,true,true,none,none,none,false,false,(some (.agg #[(.int .i64 0),(.string ⟨⟨[]⟩⟩),(.slice none 0 0)])),[(0,3),(1,9),(2,39)],(some [(0,1),(1,1),(2,1)]),none⟩),
 (44,⟨1,8,true,true,false,none,none,(some .u64),false,false,(some (.int .u64 0)),[],none,none⟩),
 (51,⟨4,32,true,true,true,none,none,none,false,false,(some (.agg #[(.int .i64 0),(.int .i64 0),(.int .i64 0),(.int .i64 0)])),[(0,3),(1,3),(2,3),(3,3)],(some [(0,1),(1,1),(2,1),(3,1)]),(some 4)⟩),
 (58,⟨2,32,true,true,true,none,none,none,false,false,(some (.agg #[(.slice none 0 0),(.int .i64 0)])),[(0,22),(1,3)],(some [(0,1),(1,1)]),none⟩),
 (59,⟨1,24,true,true,false,(some 5),none,none,false,false,(some (.slice none 0 0)),[],none,none⟩),
 (65,⟨1,8,true,true,false,none,none,none,false,false,(some .nilFunc),[],none,none⟩),
 (79,⟨1,24,true,true,false,(some 44),none,none,false,false,(some (.slice none 0 0)),[],none,none⟩),
 (85,⟨1,24,true,true,false,(some 116),none,none,false,false,(some (.slice none 0 0)),[],none,none⟩),
 (98,⟨1,8,true,true,false,none,none,none,false,false,(some .nilFunc),[],none,none⟩),
 (114,⟨1,8,true,true,false,none,none,none,false,false,(some .nilFunc),[],none,none⟩),
 (116,⟨2,16,true,true,true,none,none,none,false,false,(some (.agg #[(.bool false),.nilFunc])),[(0,4),(1,114)],(some [(0,1),(1,1)]),none⟩),
 (127,⟨1,24,true,true,false,(some 4),none,none,false,false,(some (.slice none 0 0)),[],none,none⟩),
 (136,⟨1,8,true,true,false,none,none,none,false,false,(some .nilFunc),[],none,none⟩),
 (154,⟨64,64,true,true,true,none,(some (64,5)),none,false,false,(some (.agg #[(.int .u8 0),(.int .u8 0),(.int .u8 0),(.int .u8 0),(.int .u8 0),(.int .u8 0),(.int .u8 0),(.int .u8 0),(.int .u8 0),(.int .u8 0),(.int .u8 0),(.int .u8 0),(.int .u8 0),(.int .u8 0),(.int .u8 0),(.int .u8 0),(.int .u8 0),(.int .u8 0),(.int .u8 0),(.int .u8 0),(.int .u8 0),(.int .u8 0),(.int .u8 0),(.int .u8 0),(.int .u8 0),(.int .u8 0),(.int .u8 0),(.int .u8 0),(.int .u8 0),(.int .u8 0),(.int .u8 0),(.int .u8 0),(.int .u8 0),(.int .u8 0),(.int .u8 0),(.int .u8 0),(.int .u8 0),(.int .u8 0),(.int .u8 0),(.int .u8 0),(.int .u8 0),(.int .u8 0),(.int .u8 0),(.int .u8 0),(.int .u8 0),(.int .u8 0),(.int .u8 0),(.int .u8 0),(.int .u8 0),(.int .u8 0),(.int .u8 0),(.int .u8 0),(.int .u8 0),(.int .u8 0),(.int .u8 0),(.int .u8 0),(.int .u8 0),(.int .u8 0),(.int .u8 0),(.int .u8 0),(.int .u8 0),(.int .u8 0),(.int .u8 0),(.int .u8 0)])),[],none,none⟩)]
theorem tok:TOK Tryz.prog T:=qtdb (by kernel_rfl)
def SG:SGlob:=[]
def sg0:Sig:=⟨3,1,[],[.atm (.v 0)],1,[],.atm (.v 0),false,[]⟩
def sg1:Sig:=⟨4,1,[],[.atm (.v 0)],2,[⟨false,false,58,2,.c (.sl []),[[.atm (.v 0),.atm (.v 1)]]⟩],.ptr 0 0 0,false,[]⟩
def sg2:Sig:=⟨5,4,[⟨false,false,58,2,.c (.sl []),[[.atm (.v 2),.atm (.v 3)]]⟩],[.ptr 0 0 0,.atm (.v 0),.atm (.v 1)],3,[⟨false,false,58,2,.c (.sl []),[[.atm (.v 1),.atm (.v 2)]]⟩],.atm (.v 0),false,[]⟩
def sg3:Sig:=⟨6,1,[],[.atm (.v 0)],1,[],.atm (.v 0),true,[]⟩
def sg4:Sig:=⟨7,3,[⟨false,false,58,2,.c (.sl []),[[.atm (.v 1),.atm (.v 2)]]⟩],[.ptr 0 0 0,.atm (.v 0)],3,[⟨false,false,58,2,.c (.sl []),[[.atm (.v 1),.atm (.v 2)]]⟩],.atm (.v 0),false,[]⟩
def sg5:Sig:=⟨8,2,[],[.atm (.v 0),.atm (.v 1)],3,[],(.tup [(.agg [.atm (.v 0),.atm (.v 1)]),.atm (.v 2)]),true,[]⟩
def sg6:Sig:=⟨9,2,[],[.atm (.v 0),.atm (.v 1)],4,[],(.tup [(.agg [.atm (.v 0),.atm (.v 1),.atm (.v 2)]),.atm (.v 3)]),true,[]⟩
def sg7:Sig:=⟨10,5,[],[(.agg [.atm (.v 0),.atm (.v 1)]),(.agg [.atm (.v 2),.atm (.v 3),.atm (.v 4)])],2,[],(.tup [.atm (.v 0),.atm (.v 1)]),false,[]⟩
def sg8:Sig:=⟨11,5,[],[(.agg [.atm (.v 0),.atm (.v 1)]),(.agg [.atm (.v 2),.atm (.v 3),.atm (.v 4)])],2,[],(.tup [.atm (.v 0),.atm (.v 1)]),false,[]⟩
def sg9:Sig:=⟨12,6,[],[.atm (.v 0),.atm (.v 1),(.agg [.atm (.v 2),.atm (.v 3),.atm (.v 4)]),.atm (.v 5)],2,[],(.tup [.atm (.v 0),.atm (.v 1)]),false,[]⟩
def sg10:Sig:=⟨13,6,[],[.atm (.v 0),.atm (.v 1),(.agg [.atm (.v 2),.atm (.v 3),.atm (.v 4)]),.atm (.v 5)],2,[],(.tup [.atm (.v 0),.atm (.v 1)]),false,[]⟩
def sg11:Sig:=⟨14,3,[],[(.agg [.atm (.v 0),.atm (.v 1)]),.atm (.v 2)],1,[],.atm (.v 0),false,[]⟩
def sg12:Sig:=⟨15,3,[],[(.agg [.atm (.v 0),.atm (.v 1)]),.atm (.v 2)],6,[],(.tup [(.agg [.atm (.v 0),.atm (.v 1),.atm (.v 2),.atm (.v 3)]),.atm (.v 4),.atm (.v 5)]),false,[]⟩
def sg13:Sig:=⟨16,2,[],[(.agg [.atm (.v 0),.atm (.v 1)])],1,[],.atm (.v 0),false,[]⟩
def sg14:Sig:=⟨17,0,[],[],1,[],.atm (.v 0),false,[]⟩
def sg15:Sig:=⟨19,2,[⟨false,false,58,2,.c (.sl []),[[.atm (.v 0),.atm (.v 1)]]⟩],[.ptr 0 0 0],3,[⟨false,false,58,2,.c (.sl []),[[.atm (.v 1),.atm (.v 2)]]⟩],.atm (.v 0),false,[]⟩
def sg16:Sig:=⟨18,2,[],[.atm (.v 0),.atm (.v 1)],1,[],.atm (.v 0),false,[]⟩
def sg17:Sig:=⟨20,1,[],[.atm (.v 0)],1,[],.atm (.v 0),false,[]⟩
def sg18:Sig:=⟨23,1,[],[.atm (.v 0)],1,[⟨false,false,22,1,.c (.sl []),[[.atm (.v 0)]]⟩],(.clo 43 [] [.ptr 0 0 0]),false,[]⟩
def sg19:Sig:=⟨22,1,[⟨false,false,22,1,.c (.sl []),[[.atm (.v 0)]]⟩],[(.clo 43 [] [.ptr 0 0 0])],2,[⟨false,false,22,1,.c (.sl []),[[.atm (.v 1)]]⟩,⟨false,true,3,1,.v 0,[]⟩],.own 1,true,[]⟩
def sg20:Sig:=⟨21,1,[⟨false,true,3,1,.v 0,[]⟩],[.own 0],2,[⟨true,true,3,1,.v 1,[]⟩],.atm (.v 0),true,[]⟩
def sg21:Sig:=⟨24,1,[],[.atm (.v 0)],1,[⟨false,true,9,1,.v 0,[]⟩],.own 0,true,[]⟩
def sg22:Sig:=⟨25,2,[],[.atm (.v 0),.atm (.v 1)],2,[],(.tup [.atm (.v 0),.atm (.v 1)]),false,[]⟩
def sg23:Sig:=⟨26,2,[],[.atm (.v 0),.atm (.v 1)],4,[],(.tup [(.agg [.atm (.v 0),.atm (.v 1),.atm (.v 2)]),.atm (.v 3)]),true,[]⟩
def sg24:Sig:=⟨27,5,[],[(.agg [.atm (.v 0),.atm (.v 1)]),(.agg [.atm (.v 2),.atm (.v 3),.atm (.v 4)])],3,[],(.tup [.atm (.v 0),.atm (.v 1),.atm (.v 2)]),false,[]⟩
def sg25:Sig:=⟨28,2,[],[(.agg [.atm (.v 0),.atm (.v 1)])],1,[],.atm (.v 0),false,[]⟩
def sg26:Sig:=⟨29,5,[],[.atm (.v 0),(.agg [.atm (.v 1),.atm (.v 2),.atm (.v 3)]),.atm (.v 4)],2,[],(.tup [.atm (.v 0),.atm (.v 1)]),false,[]⟩
def sg27:Sig:=⟨30,4,[],[.atm (.v 0),.atm (.v 1),.atm (.v 2),.atm (.v 3)],1,[],.atm (.v 0),false,[]⟩
def sg28:Sig:=⟨31,3,[],[.atm (.v 0),.atm (.v 1),.atm (.v 2)],3,[],(.tup [(.agg [.atm (.v 0),.atm (.v 1)]),.atm (.v 2)]),true,[]⟩
def sg29:Sig:=⟨32,4,[],[.atm (.v 0),(.agg [.atm (.v 1),.atm (.v 2),.atm (.v 3)])],2,[],(.tup [.atm (.v 0),.atm (.v 1)]),false,[]⟩
def sg30:Sig:=⟨33,2,[],[(.agg [.atm (.v 0),.atm (.v 1)])],1,[],.atm (.v 0),true,[]⟩
def sg31:Sig:=⟨37,2,[],[(.agg [.atm (.v 0),.atm (.v 1)])],2,[],(.tup [.atm (.v 0),.atm (.v 1)]),false,[]⟩
def sg32:Sig:=⟨38,6,[],[(.agg [.atm (.v 0),.atm (.v 1)]),(.agg [.atm (.v 2),.atm (.v 3),.atm (.v 4)]),.atm (.v 5)],3,[],(.tup [(.agg [.atm (.v 0),.atm (.v 1)]),.atm (.v 2)]),true,[]⟩
def sg33:Sig:=⟨39,2,[],[.atm (.v 0),.atm (.v 1)],1,[],.atm (.v 0),false,[]⟩
def sg34:Sig:=⟨40,1,[],[.atm (.v 0)],1,[],.atm (.v 0),false,[]⟩
def sg35:Sig:=⟨41,1,[⟨false,false,22,1,.c (.sl []),[[.atm (.v 0)]]⟩],[(.clo 43 [] [.ptr 0 0 0])],2,[⟨false,false,22,1,.c (.sl []),[[.atm (.v 1)]]⟩,⟨false,true,3,1,.v 0,[]⟩],.own 1,true,[]⟩
def sg36:Sig:=⟨42,1,[⟨false,true,3,1,.v 0,[]⟩],[.own 0],1,[⟨false,true,3,1,.v 0,[]⟩],(.tup []),false,[0]⟩
def sg37:Sig:=⟨44,2,[],[.atm (.v 0),.atm (.v 1)],1,[],.atm (.v 0),false,[]⟩
def sg38:Sig:=⟨45,1,[],[.atm (.v 0)],1,[],.atm (.v 0),false,[]⟩
def sg39:Sig:=⟨47,1,[],[.atm (.v 0)],1,[],.atm (.v 0),false,[]⟩
def sg40:Sig:=⟨46,2,[],[.atm (.v 0),.atm (.v 1)],3,[],(.agg [.atm (.v 0),.atm (.v 1),.atm (.v 2)]),true,[]⟩
def sg41:Sig:=⟨48,2,[],[(.agg [.atm (.v 0),.atm (.v 1)])],1,[],.atm (.v 0),false,[]⟩
def sg42:Sig:=⟨49,1,[],[.atm (.v 0)],2,[],(.tup [.atm (.v 0),.atm (.v 1)]),false,[]⟩
def sg43:Sig:=⟨50,2,[],[.atm (.v 0),.atm (.v 1)],1,[],.atm (.v 0),true,[]⟩
def sg44:Sig:=⟨51,4,[],[.atm (.v 0),.atm (.v 1),.atm (.v 2),.atm (.v 3)],1,[],.atm (.v 0),false,[]⟩
def sg45:Sig:=⟨52,3,[],[.atm (.v 0),.atm (.v 1),.atm (.v 2)],2,[],(.tup [.atm (.v 0),.atm (.v 1)]),true,[]⟩
def sg46:Sig:=⟨53,3,[],[.atm (.v 0),.atm (.v 1),.atm (.v 2)],3,[],(.tup [(.agg [.atm (.v 0),.atm (.v 1)]),.atm (.v 2)]),true,[]⟩
def sg47:Sig:=⟨54,3,[],[(.agg [.atm (.v 0),.atm (.v 1),.atm (.v 2)])],1,[],.atm (.v 0),false,[]⟩
def sg48:Sig:=⟨55,3,[],[(.agg [.atm (.v 0),.atm (.v 1),.atm (.v 2)])],1,[],.atm (.v 0),true,[]⟩
def sg49:Sig:=⟨56,2,[],[.atm (.v 0),.atm (.v 1)],1,[],.atm (.v 0),false,[]⟩
def sg50:Sig:=⟨57,4,[],[.atm (.v 0),(.agg [.atm (.v 1),.atm (.v 2),.atm (.v 3)])],1,[],.atm (.v 0),false,[]⟩
def sg51:Sig:=⟨58,1,[],[.atm (.v 0)],1,[],.atm (.v 0),false,[]⟩
def sg52:Sig:=⟨64,3,[],[(.agg [.atm (.v 0),.atm (.v 1)]),.atm (.v 2)],1,[],.atm (.v 0),false,[]⟩
def sg53:Sig:=⟨65,4,[],[(.agg [.atm (.v 0),.atm (.v 1)]),.atm (.v 2),.atm (.v 3)],3,[],(.tup [(.agg [.atm (.v 0),.atm (.v 1)]),.atm (.v 2)]),true,[]⟩
def sg54:Sig:=⟨69,1,[],[.atm (.v 0)],1,[],.atm (.v 0),false,[]⟩
def sg55:Sig:=⟨70,1,[],[.atm (.v 0)],1,[],.atm (.v 0),false,[]⟩
def sg56:Sig:=⟨71,1,[],[.atm (.v 0)],2,[],(.tup [.atm (.v 0),.atm (.v 1)]),false,[]⟩
def sg57:Sig:=⟨72,7,[],[.atm (.v 0),(.agg [.atm (.v 1),.atm (.v 2),.atm (.v 3)]),(.agg [.atm (.v 4),.atm (.v 5),.atm (.v 6)])],3,[],(.agg [.atm (.v 0),.atm (.v 1),.atm (.v 2)]),true,[]⟩
def sg58:Sig:=⟨73,2,[],[.atm (.v 0),.atm (.v 1)],1,[],.atm (.v 0),false,[]⟩
def sg59:Sig:=⟨78,1,[],[.atm (.v 0)],1,[],.atm (.v 0),false,[]⟩
def sg60:Sig:=⟨79,2,[],[.atm (.v 0),.atm (.v 1)],1,[],.atm (.v 0),false,[]⟩
def sg61:Sig:=⟨74,2,[],[.atm (.v 0),.atm (.v 1)],1,[],.atm (.v 0),false,[]⟩
def sg62:Sig:=⟨76,2,[],[.atm (.v 0),.atm (.v 1)],1,[],.atm (.v 0),false,[]⟩
def sg63:Sig:=⟨77,2,[],[.atm (.v 0),.atm (.v 1)],1,[],.atm (.v 0),false,[]⟩
def sg64:Sig:=⟨80,2,[],[.atm (.v 0),.atm (.v 1)],1,[],.atm (.v 0),false,[]⟩
def sg65:Sig:=⟨82,4,[],[.atm (.v 0),.atm (.v 1),.atm (.v 2),.atm (.v 3)],1,[⟨false,true,3,1,.v 0,[]⟩],.own 0,true,[]⟩
def sg66:Sig:=⟨81,2,[⟨false,true,3,1,.v 1,[]⟩],[.own 0,.atm (.v 0)],2,[⟨false,true,3,1,.v 1,[]⟩],.atm (.v 0),false,[]⟩
def sg67:Sig:=⟨83,3,[],[(.agg [.atm (.v 0),.atm (.v 1),.atm (.v 2)])],1,[],.atm (.v 0),false,[]⟩
def sg68:Sig:=⟨84,3,[],[(.agg [.atm (.v 0),.atm (.v 1),.atm (.v 2)])],1,[],.atm (.v 0),false,[]⟩
def sg69:Sig:=⟨85,3,[],[(.agg [.atm (.v 0),.atm (.v 1),.atm (.v 2)]),(.atm (.c (fnD 86)))],1,[],.atm (.v 0),false,[]⟩
def sg70:Sig:=⟨85,3,[],[(.agg [.atm (.v 0),.atm (.v 1),.atm (.v 2)]),(.atm (.c (fnD 87)))],1,[],.atm (.v 0),false,[]⟩
def sg71:Sig:=⟨91,2,[],[.atm (.v 0),.atm (.v 1)],1,[],.atm (.v 0),false,[]⟩
def sg72:Sig:=⟨92,1,[],[.atm (.v 0)],1,[],.atm (.v 0),false,[]⟩
def sg73:Sig:=⟨118,1,[],[.atm (.v 0)],1,[],.atm (.v 0),false,[]⟩
def sg74:Sig:=⟨119,6,[],[(.agg [.atm (.v 0),.atm (.v 1)]),.atm (.v 2),.atm (.v 3),.atm (.v 4),.atm (.v 5)],1,[],.atm (.v 0),false,[]⟩
def sg75:Sig:=⟨130,2,[],[.atm (.v 0),.atm (.v 1)],1,[],.atm (.v 0),false,[]⟩
def sg76:Sig:=⟨75,1,[],[.atm (.v 0)],1,[],.atm (.v 0),false,[]⟩
def sg77:Sig:=⟨131,2,[],[.atm (.v 0),.atm (.v 1)],1,[],.atm (.v 0),false,[]⟩
def sg78:Sig:=⟨133,4,[],[.atm (.v 0),.atm (.v 1),.atm (.v 2),.atm (.v 3)],1,[],.atm (.v 0),false,[]⟩
def sg79:Sig:=⟨132,1,[⟨false,true,3,1,.v 0,[]⟩],[.own 0],1,[⟨false,true,3,1,.v 0,[]⟩],(.tup []),false,[0]⟩
def sg80:Sig:=⟨86,3,[],[(.agg [.atm (.v 0),.atm (.v 1),.atm (.v 2)])],1,[],.atm (.v 0),false,[]⟩
def sg81:Sig:=⟨87,3,[],[(.agg [.atm (.v 0),.atm (.v 1),.atm (.v 2)])],1,[],.atm (.v 0),false,[]⟩
def sg82:Sig:=⟨139,2,[],[.atm (.v 0),.atm (.v 1)],1,[],.atm (.v 0),false,[]⟩
def sg83:Sig:=⟨145,2,[],[.atm (.v 0),.atm (.v 1)],1,[],.atm (.v 0),false,[]⟩
def sigs:List Sig:=[sg0,sg1,sg2,sg3,sg4,sg5,sg6,sg7,sg8,sg9,sg10,sg11,sg12,sg13,sg14,sg15,sg16,sg17,sg18,sg19,sg20,sg21,sg22,sg23,sg24,sg25,sg26,sg27,sg28,sg29,sg30,sg31,sg32,sg33,sg34,sg35,sg36,sg37,sg38,sg39,sg40,sg41,sg42,sg43,sg44,sg45,sg46,sg47,sg48,sg49,sg50,sg51,sg52,sg53,sg54,sg55,sg56,sg57,sg58,sg59,sg60,sg61,sg62,sg63,sg64,sg65,sg66,sg67,sg68,sg69,sg70,sg71,sg72,sg73,sg74,sg75,sg76,sg77,sg78,sg79,sg80,sg81,sg82,sg83]
def an1:Ann:=.z
def ir1:IR:=(.op .lenL [.v 0] (.op .min [.v 1,.c (.int .i64 2000)] (.op (.subL 1) [.v 0,.c (.int .i64 0),.v 2] (.ret [.v 3,.c (.int .i64 0)]))))
theorem rd1:readFn T SG sigs 3000 sg1 Tryz.f4 an1=some ir1:=by kernel_rfl
def an2:Ann:=.z
def ir2:IR:=(.op (.bin .sub false) [.v 1,.v 0] (.op (.bin .add false) [.v 4,.c (.int .i64 1)] (.call 4 3 false [] [.v 5,.v 2,.v 3] (.op (.bin .add false) [.v 0,.v 6] (.ret [.v 9,.v 7,.v 8])))))
theorem rd2:readFn T SG sigs 3000 sg2 Tryz.f5 an2=some ir2:=by kernel_rfl
def an3:Ann:=(.s none .z (.s none .z (.s none (.s none .z (.b (.l ⟨2,[(2,.junk),(4,(.atm (.v 0)))],[(0,⟨false,true,9,1,.v 1,[]⟩)],1,[⟨none,3,9,1⟩]⟩ .z))) .z)))
def ir3p0:IR:=(.op (.bin .lss false) [.v 1,.v 0] (.ite (.v 3) (.op (.bin .add false) [.c (.int .i64 97),.v 1] (.op (.conv .u8) [.v 4] (.op (.mk 1 1) [.v 5] (.op .toS [.v 6] (.op (.mk 1 1) [.v 7] (.op (.app 1 16) [.v 2,.v 8] (.op (.bin .add false) [.v 1,.c (.int .i64 1)] (.jump 0 [.v 10,.v 9])))))))) (.ret [.v 2])))
def ir3:IR:=(.loop 2 [.c (.int .i64 0),.c (.sl [])] ir3p0)
theorem rd3:readFn T SG sigs 3000 sg3 Tryz.f6 an3=some ir3:=by kernel_rfl
def an4:Ann:=.z
def ir4:IR:=(.call 15 3 false [] [.v 1,.v 2] (.call 16 1 false [] [.v 3,.v 0] (.ret [.v 6,.v 4,.v 5])))
theorem rd4:readFn T SG sigs 3000 sg4 Tryz.f7 an4=some ir4:=by kernel_rfl
def an5:Ann:=(.s none .z (.s none (.s (some ⟨1,[(5,.junk),(22,(.atm (.v 0)))],[],1,[]⟩) .z .z) (.s none .z (.s none .z (.s none (.s none .z (.b (.l ⟨2,[(0,.junk),(1,.junk),(22,.junk),(24,.junk),(25,.junk),(27,.junk),(28,.junk),(29,.junk),(30,.junk),(33,(.atm (.v 0)))],[(5,⟨false,true,3,1,.v 1,[]⟩)],6,[⟨some (4,0,1),0,3,1⟩]⟩ .z))) .z)))))
def ir5p0:IR:=(.op (.bin .lss false) [.v 10,.v 9] (.ite (.v 12) (.op (.row 1) [.v 1,.v 10] (.call 22 2 false [] [.v 6,.v 13] (.op (.mk 1 1) [.v 14] (.op (.app 1 8) [.v 11,.v 16] (.op (.bin .add false) [.v 10,.c (.int .i64 1)] (.jump 0 [.v 18,.v 17])))))) (.ret [.v 8,.v 11,.c (.int .i64 0)])))
def ir5p1:IR:=(.ite (.v 2) (.ret [.c (.sl []),.c (.sl []),.c (.int .i64 1)]) (.call 18 1 false [] [.v 1] (.call 19 2 false [0] [.v 3] (.call 20 2 false [1] [.v 4] (.call 21 1 false [0] [.v 0] (.op .lenL [.v 1] (.loop 2 [.c (.int .i64 0),.c (.sl [])] ir5p0)))))))
def ir5:IR:=(.letj 1 (.call 17 1 false [] [.v 0] (.op (.un .not) [.v 2] (.ite (.v 3) (.jump 0 [.c (.bool true)]) (.op .lenL [.v 1] (.op .lenL [.v 0] (.op (.bin .shl false) [.c (.int .i64 1),.v 5] (.op (.bin .neq false) [.v 4,.v 6] (.jump 0 [.v 7])))))))) ir5p1)
theorem rd5:readFn T SG sigs 3000 sg5 Tryz.f8 an5=some ir5:=by kernel_rfl
def an6:Ann:=.z
def ir6:IR:=(.call 3 1 false [] [.v 0] (.call 23 4 false [] [.v 2,.v 1] (.op (.bin .eql false) [.v 6,.c (.int .i64 0)] (.ret [.v 3,.v 4,.v 5,.v 7]))))
theorem rd6:readFn T SG sigs 3000 sg6 Tryz.f9 an6=some ir6:=by kernel_rfl
def an7:Ann:=.z
def ir7:IR:=(.call 24 3 false [] [.v 0,.v 1,.v 2,.v 3,.v 4] (.op (.bin .neq false) [.v 7,.c (.int .i64 0)] (.ite (.v 8) (.ret [.c (.int .u64 0),.v 7]) (.call 11 1 false [] [.v 0,.v 1,.v 5] (.ret [.v 9,.c (.int .i64 0)])))))
theorem rd7:readFn T SG sigs 3000 sg7 Tryz.f10 an7=some ir7:=by kernel_rfl
def an8:Ann:=.z
def ir8:IR:=(.call 24 3 false [] [.v 0,.v 1,.v 2,.v 3,.v 4] (.op (.bin .neq false) [.v 7,.c (.int .i64 0)] (.ite (.v 8) (.ret [.c (.int .u64 0),.v 7]) (.call 25 1 false [] [.v 0,.v 1] (.op (.bin .andNot false) [.v 6,.v 5] (.call 11 1 false [] [.v 0,.v 1,.v 10] (.op (.bin .or false) [.v 9,.v 11] (.ret [.v 12,.c (.int .i64 0)]))))))))
theorem rd8:readFn T SG sigs 3000 sg8 Tryz.f11 an8=some ir8:=by kernel_rfl
def an9:Ann:=.z
def ir9:IR:=(.call 26 2 false [] [.v 0,.v 2,.v 3,.v 4,.v 5] (.op (.bin .neq false) [.v 7,.c (.int .i64 0)] (.ite (.v 8) (.ret [.c (.int .u64 0),.v 7]) (.call 27 1 false [] [.v 0,.v 1,.v 6,.v 5] (.ret [.v 9,.c (.int .i64 0)])))))
theorem rd9:readFn T SG sigs 3000 sg9 Tryz.f12 an9=some ir9:=by kernel_rfl
def an10:Ann:=.z
def ir10:IR:=(.call 28 3 false [] [.v 0,.v 1,.v 5] (.op (.bin .neq false) [.v 8,.c (.int .i64 0)] (.ite (.v 9) (.ret [.c (.int .u64 0),.v 8]) (.call 29 2 false [] [.v 0,.v 2,.v 3,.v 4] (.op (.bin .neq false) [.v 11,.c (.int .i64 0)] (.ite (.v 12) (.ret [.c (.int .u64 0),.v 11]) (.call 11 1 false [] [.v 6,.v 7,.v 10] (.ret [.v 13,.c (.int .i64 0)]))))))))
theorem rd10:readFn T SG sigs 3000 sg10 Tryz.f13 an10=some ir10:=by kernel_rfl
def an11:Ann:=(.s none .z (.s none (.s none .z (.b (.l ⟨1,[(0,.junk),(2,.junk),(4,.junk),(7,.junk),(10,(.atm (.v 0)))],[],1,[]⟩ .z))) .z))
def ir11p0:IR:=(.op (.bin .lss false) [.v 5,.v 4] (.ite (.v 6) (.op (.row 1) [.v 3,.v 5] (.op (.bin .and false) [.v 7,.v 2] (.op (.bin .neq false) [.v 8,.c (.int .u64 0)] (.ite (.v 9) (.op (.bin .and false) [.v 7,.v 2] (.ret [.v 10])) (.op (.bin .add false) [.v 5,.c (.int .i64 1)] (.jump 0 [.v 10])))))) (.ret [.c (.int .u64 0)])))
def ir11:IR:=(.call 30 1 false [] [.v 0,.v 1] (.op .lenL [.v 3] (.loop 1 [.c (.int .i64 0)] ir11p0)))
theorem rd11:readFn T SG sigs 3000 sg11 Tryz.f14 an11=some ir11:=by kernel_rfl
def an13:Ann:=(.s none .z (.s none .z (.s none (.s (some ⟨1,[(0,.junk),(2,.junk),(3,.junk),(7,.junk),(8,.junk),(9,.junk),(10,.junk),(11,.junk),(20,(.atm (.v 0)))],[],1,[]⟩) .z .z) (.s none (.s none .z (.b (.l ⟨1,[(5,(.atm (.v 0))),(20,.junk)],[],1,[]⟩ (.s none .z (.s none (.b (.s none .z (.s none .z (.b (.l ⟨1,[(6,(.atm (.v 0))),(21,.junk),(22,.junk),(23,.junk),(26,.junk),(27,.junk),(28,.junk),(29,.junk),(30,.junk),(31,.junk),(32,.junk),(33,.junk)],[],1,[]⟩ (.s none .z (.s none (.b (.s (some ⟨1,[(34,.junk),(35,.junk),(36,.junk),(59,(.atm (.v 0)))],[],1,[]⟩) .z .z)) .z))))))) .z))))) .z))))
def ir13p0:IR:=(.ite (.v 12) (.ret [.c (.int .i64 1)]) (.op (.bin .add false) [.v 10,.c (.int .i64 1)] (.jump 1 [.v 13])))
def ir13p1:IR:=(.op (.bin .lss false) [.v 10,.v 3] (.ite (.v 11) (.letj 1 (.op (.row 1) [.v 1,.v 5] (.op (.row 1) [.v 12,.v 10] (.op (.bin .lss false) [.v 13,.c (.int .i64 0)] (.ite (.v 14) (.jump 2 [.c (.bool true)]) (.op (.row 1) [.v 1,.v 5] (.op (.row 1) [.v 15,.v 10] (.op (.bin .geq false) [.v 16,.v 3] (.jump 2 [.v 17])))))))) ir13p0) (.op (.bin .add false) [.v 5,.c (.int .i64 1)] (.jump 0 [.v 12]))))
def ir13p2:IR:=(.op (.bin .lss false) [.v 5,.v 3] (.ite (.v 6) (.op (.row 1) [.v 1,.v 5] (.op .lenL [.v 7] (.op (.bin .neq false) [.v 8,.v 3] (.ite (.v 9) (.ret [.c (.int .i64 1)]) (.loop 1 [.c (.int .i64 0)] ir13p1))))) (.ret [.c (.int .i64 0)])))
def ir13p3:IR:=(.ite (.v 4) (.ret [.c (.int .i64 1)]) (.loop 1 [.c (.int .i64 0)] ir13p2))
def ir13:IR:=(.call 31 2 false [] [.v 0,.v 1] (.letj 1 (.op (.bin .eql false) [.v 3,.c (.int .i64 0)] (.ite (.v 4) (.jump 0 [.c (.bool true)]) (.op .lenL [.v 1] (.op (.bin .neq false) [.v 5,.v 3] (.jump 0 [.v 6]))))) ir13p3))
theorem rd13:readFn T SG sigs 3000 sg13 Tryz.f16 an13=some ir13:=by kernel_rfl
def an14:Ann:=.z
def ir14:IR:=(.call 3 1 false [] [.c (.int .i64 2)] (.op (.mk 1 4) [.c (.int .i64 2),.c (.int .i64 1),.c (.int .i64 2),.c (.int .i64 0)] (.call 5 3 false [] [.v 0,.v 1] (.op (.row 1) [.v 0,.c (.int .i64 1)] (.op (.mk 3 1) [.c (.int .i64 3),.v 5,.c (.sl [])] (.call 7 2 true [] [.v 2,.v 3,.c (.int .i64 4),.c (.str []),.v 6] (.call 32 3 false [] [.v 2,.v 3,.c (.int .i64 4),.c (.str []),.v 6,.c (.int .i64 2)] (.op (.bin .eql false) [.v 4,.c (.int .i64 0)] (.ite (.v 12) (.op (.bin .eql false) [.v 8,.c (.int .i64 0)] (.ite (.v 13) (.op (.bin .eql false) [.v 11,.c (.int .i64 0)] (.ite (.v 14) (.op (.bin .eql false) [.v 7,.c (.int .u64 2)] (.ite (.v 15) (.op (.mk 1 4) [.c (.int .i64 1),.c (.int .i64 0),.c (.int .i64 3),.c (.int .i64 2)] (.call 33 1 true [] [.v 10,.v 16] (.ret [.v 17]))) (.ret [.c (.bool false)]))) (.ret [.c (.bool false)]))) (.ret [.c (.bool false)]))) (.ret [.c (.bool false)]))))))))))
theorem rd14:readFn T SG sigs 3000 sg14 Tryz.f17 an14=some ir14:=by kernel_rfl
def an15:Ann:=.z
def ir15:IR:=(.op .lenL [.v 0] (.op (.bin .geq false) [.v 1,.v 2] (.ite (.v 3) (.ret [.c (.int .i64 0),.v 0,.v 1]) (.op (.bin .add false) [.v 1,.c (.int .i64 1)] (.op (.bin .sub false) [.v 4,.c (.int .i64 1)] (.op (.row 1) [.v 0,.v 5] (.ret [.v 6,.v 0,.v 4])))))))
theorem rd15:readFn T SG sigs 3000 sg15 Tryz.f19 an15=some ir15:=by kernel_rfl
def an16:Ann:=(.s none .z (.s none .z (.s none .z (.s (some ⟨1,[(0,(.atm (.v 0))),(1,.junk),(4,.junk),(5,.junk),(6,.junk),(7,.junk),(8,.junk),(9,.junk)],[],0,[]⟩) .z .z))))
def ir16p0:IR:=(.ret [.v 4])
def ir16:IR:=(.op (.bin .lss false) [.v 1,.c (.int .i64 1)] (.ite (.v 2) (.ret [.c (.int .i64 0)]) (.op (.bin .rem false) [.v 0,.v 1] (.letj 1 (.op (.bin .lss false) [.v 3,.c (.int .i64 0)] (.ite (.v 4) (.op (.bin .add false) [.v 3,.v 1] (.jump 0 [.v 5])) (.jump 0 [.v 3]))) ir16p0))))
theorem rd16:readFn T SG sigs 3000 sg16 Tryz.f18 an16=some ir16:=by kernel_rfl
def an17:Ann:=(.s none .z (.s none .z (.s none (.s none .z (.b (.l ⟨1,[(2,.junk),(5,.junk),(6,.junk),(7,.junk),(10,(.atm (.v 0)))],[],0,[]⟩ (.s none .z (.s none .z (.s none (.b (.s none .z (.s (some ⟨1,[(3,.junk),(4,.junk),(11,.junk),(12,.junk),(13,.junk),(14,.junk),(30,(.atm (.v 0)))],[],0,[]⟩) .z .z))) .z)))))) .z)))
def ir17p0:IR:=(.ite (.v 7) (.ret [.c (.bool false)]) (.op (.bin .add false) [.v 4,.c (.int .i64 1)] (.jump 0 [.v 8])))
def ir17p1:IR:=(.op (.bin .lss false) [.v 4,.v 3] (.ite (.v 5) (.op (.row 1) [.v 0,.v 4] (.letj 1 (.call 34 1 false [] [.v 6] (.op (.un .not) [.v 7] (.ite (.v 8) (.jump 1 [.c (.bool true)]) (.op (.bin .gtr false) [.v 4,.c (.int .i64 0)] (.ite (.v 9) (.op (.bin .sub false) [.v 4,.c (.int .i64 1)] (.op (.row 1) [.v 0,.v 10] (.op (.bin .geq false) [.v 11,.v 6] (.jump 1 [.v 12])))) (.jump 1 [.c (.bool false)])))))) ir17p0)) (.ret [.c (.bool true)])))
def ir17:IR:=(.op .lenL [.v 0] (.op (.bin .gtr false) [.v 1,.c (.int .i64 6)] (.ite (.v 2) (.ret [.c (.bool false)]) (.op .lenL [.v 0] (.loop 1 [.c (.int .i64 0)] ir17p1)))))
theorem rd17:readFn T SG sigs 3000 sg17 Tryz.f20 an17=some ir17:=by kernel_rfl
def an19:Ann:=.z
def ir19:IR:=(.call 35 2 false [0] [.v 0] (.call 36 1 false [0] [.v 1] (.ret [.v 3,.v 2])))
theorem rd19:readFn T SG sigs 3000 sg19 Tryz.f22 an19=some ir19:=by kernel_rfl
def an22:Ann:=(.s none .z (.s none .z (.s none .z (.s none (.b (.l ⟨2,[(4,.junk),(5,.junk),(7,(.atm (.v 0))),(8,(.atm (.v 1))),(10,.junk),(11,.junk),(12,.junk)],[],0,[]⟩ .z)) .z))))
def ir22p0:IR:=(.op (.bin .lss false) [.v 3,.v 4] (.ite (.v 5) (.op (.bin .add false) [.v 3,.v 4] (.op (.conv .u64) [.v 6] (.op (.bin .shr false) [.v 7,.c (.int .u64 1)] (.op (.conv .i64) [.v 8] (.op (.row 1) [.v 0,.v 9] (.call 37 1 false [] [.v 10,.v 1] (.ite (.v 11) (.op (.bin .add false) [.v 9,.c (.int .i64 1)] (.jump 0 [.v 12,.v 4])) (.jump 0 [.v 3,.v 9])))))))) (.op (.bin .lss false) [.v 3,.v 2] (.ite (.v 6) (.op (.row 1) [.v 0,.v 3] (.op (.bin .eql false) [.v 7,.v 1] (.ite (.v 8) (.ret [.v 3,.c (.bool true)]) (.op (.row 1) [.v 0,.v 3] (.call 38 1 false [] [.v 9] (.ite (.v 10) (.call 38 1 false [] [.v 1] (.ret [.v 3,.v 11])) (.ret [.v 3,.c (.bool false)]))))))) (.ret [.v 3,.c (.bool false)])))))
def ir22:IR:=(.op .lenL [.v 0] (.loop 2 [.c (.int .i64 0),.v 2] ir22p0))
theorem rd22:readFn T SG sigs 3000 sg22 Tryz.f25 an22=some ir22:=by kernel_rfl
def an23:Ann:=.z
def ir23:IR:=(.call 17 1 false [] [.v 0] (.op (.un .not) [.v 2] (.ite (.v 3) (.ret [.c (.int .i64 0),.c (.str []),.c (.sl []),.c (.int .i64 1)]) (.call 39 1 false [] [.v 0] (.op (.bin .and false) [.v 1,.v 4] (.call 40 3 false [] [.v 0,.v 5] (.ret [.v 6,.v 7,.v 8,.c (.int .i64 0)])))))))
theorem rd23:readFn T SG sigs 3000 sg23 Tryz.f26 an23=some ir23:=by kernel_rfl
def an24:Ann:=.z
def ir24:IR:=(.call 41 1 false [] [.v 0,.v 1] (.op (.bin .neq false) [.v 5,.c (.int .i64 0)] (.ite (.v 6) (.ret [.c (.int .u64 0),.c (.int .u64 0),.v 5]) (.call 29 2 false [] [.v 0,.v 2,.v 3,.v 4] (.call 39 1 false [] [.v 0] (.ret [.v 7,.v 9,.v 8]))))))
theorem rd24:readFn T SG sigs 3000 sg24 Tryz.f27 an24=some ir24:=by kernel_rfl
def an25:Ann:=.z
def ir25:IR:=(.call 11 1 false [] [.v 0,.v 1,.c (.int .u64 18446744073709551615)] (.ret [.v 2]))
theorem rd25:readFn T SG sigs 3000 sg25 Tryz.f28 an25=some ir25:=by kernel_rfl
def an26:Ann:=.z
def ir26:IR:=(.call 17 1 false [] [.v 0] (.op (.un .not) [.v 5] (.ite (.v 6) (.ret [.c (.int .u64 0),.c (.int .i64 1)]) (.call 42 2 false [] [.v 4] (.op (.un .not) [.v 8] (.ite (.v 9) (.ret [.c (.int .u64 0),.c (.int .i64 4)]) (.call 29 2 false [] [.v 0,.v 1,.v 2,.v 3] (.ret [.v 10,.v 11]))))))))
theorem rd26:readFn T SG sigs 3000 sg26 Tryz.f29 an26=some ir26:=by kernel_rfl
def an27:Ann:=(.s none .z (.s none .z (.s none .z (.s none (.s none .z (.b (.l ⟨2,[(1,.junk),(3,.junk),(8,.junk),(10,.junk),(11,(.atm (.v 0))),(14,.junk),(15,.junk),(16,.junk),(17,.junk),(18,.junk),(19,.junk),(20,.junk),(23,(.atm (.v 1)))],[],0,[]⟩ .z))) .z))))
def ir27p0:IR:=(.op (.bin .lss false) [.v 9,.v 7] (.ite (.v 10) (.op (.row 1) [.v 6,.v 9] (.call 44 1 false [] [.v 0,.v 11,.v 2,.v 4] (.op (.bin .or false) [.v 8,.v 12] (.op (.bin .add false) [.v 9,.c (.int .i64 1)] (.jump 0 [.v 13,.v 14]))))) (.ret [.v 8])))
def ir27:IR:=(.call 42 2 false [] [.v 3] (.call 43 1 false [] [.v 0,.v 1] (.op .lenL [.v 6] (.loop 2 [.c (.int .u64 0),.c (.int .i64 0)] ir27p0))))
theorem rd27:readFn T SG sigs 3000 sg27 Tryz.f30 an27=some ir27:=by kernel_rfl
def an28:Ann:=.z
def ir28:IR:=(.call 45 2 false [] [.v 0,.v 1,.v 2] (.op (.bin .neq false) [.v 4,.c (.int .i64 0)] (.ite (.v 5) (.ret [.c (.sl []),.c (.sl []),.v 4]) (.call 46 3 false [] [.v 0,.v 3,.v 2] (.ret [.v 6,.v 7,.v 8])))))
theorem rd28:readFn T SG sigs 3000 sg28 Tryz.f31 an28=some ir28:=by kernel_rfl
def an29:Ann:=(.s none .z (.s none .z (.s none .z (.s none (.s none .z (.b (.l ⟨1,[(1,.junk),(4,.junk),(5,.junk),(6,.junk),(9,.junk),(10,.junk),(11,.junk),(12,.junk),(13,.junk),(14,.junk),(15,.junk),(17,.junk),(20,(.atm (.v 0)))],[],1,[]⟩ .z))) .z))))
def ir29p0:IR:=(.op (.bin .lss false) [.v 10,.v 9] (.ite (.v 11) (.op (.row 1) [.v 8,.v 10] (.call 49 1 false [] [.v 0,.v 12] (.op (.un .not) [.v 13] (.ite (.v 14) (.ret [.c (.int .u64 0),.c (.int .i64 6)]) (.op (.bin .add false) [.v 10,.c (.int .i64 1)] (.jump 0 [.v 15])))))) (.call 50 1 false [] [.v 0,.v 1,.v 2,.v 3] (.call 39 1 false [] [.v 0] (.op (.bin .and false) [.v 12,.v 13] (.ret [.v 14,.c (.int .i64 0)]))))))
def ir29:IR:=(.call 17 1 false [] [.v 0] (.op (.un .not) [.v 4] (.ite (.v 5) (.ret [.c (.int .u64 0),.c (.int .i64 1)]) (.call 47 1 false [] [.v 1,.v 2,.v 3] (.op (.bin .neq false) [.v 6,.c (.int .i64 0)] (.ite (.v 7) (.ret [.c (.int .u64 0),.v 6]) (.call 48 1 false [] [.v 1,.v 2,.v 3] (.op .lenL [.v 8] (.loop 1 [.c (.int .i64 0)] ir29p0)))))))))
theorem rd29:readFn T SG sigs 3000 sg29 Tryz.f32 an29=some ir29:=by kernel_rfl
def an30:Ann:=(.s none .z (.s none .z (.s none .z (.s none (.s none .z (.b (.l ⟨2,[(0,.junk),(1,.junk),(2,.junk),(6,.junk),(7,.junk),(8,.junk),(9,.junk),(10,.junk),(11,.junk),(12,.junk),(13,.junk),(14,.junk),(17,(.atm (.v 0)))],[(1,⟨false,true,44,1,.v 1,[]⟩)],2,[]⟩ .z))) .z))))
def ir30p0:IR:=(.op (.bin .lss false) [.v 8,.v 7] (.ite (.v 10) (.op (.row 1) [.v 1,.v 8] (.op .chk [.v 9,.v 11] (.op (.get 0 1) [.v 9,.v 11] (.op (.conv .u64) [.v 8] (.op (.bin .shl false) [.c (.int .u64 1),.v 13] (.op (.bin .or false) [.v 12,.v 14] (.op .chk [.v 9,.v 11] (.op (.set 0 1) [.v 9,.v 11,.v 15] (.op (.bin .add false) [.v 8,.c (.int .i64 1)] (.jump 0 [.v 17,.v 16])))))))))) (.ret [.v 9])))
def ir30:IR:=(.call 41 1 false [] [.v 0,.v 1] (.op (.bin .neq false) [.v 2,.c (.int .i64 0)] (.ite (.v 3) (.ret [.c (.sl [])]) (.call 51 1 false [] [.v 1] (.op (.bin .add false) [.v 4,.c (.int .i64 1)] (.op (.mkL 8 [(.int .u64 0)]) [.v 5] (.op .lenL [.v 1] (.loop 2 [.c (.int .i64 0),.v 6] ir30p0))))))))
theorem rd30:readFn T SG sigs 3000 sg30 Tryz.f33 an30=some ir30:=by kernel_rfl
def an31:Ann:=.z
def ir31:IR:=(.op (.bin .eql false) [.v 0,.c (.int .i64 1)] (.ite (.v 2) (.ret [.c (.int .i64 2),.c (.int .i64 4)]) (.op (.bin .eql false) [.v 0,.c (.int .i64 2)] (.ite (.v 3) (.ret [.c (.int .i64 4),.c (.int .i64 16)]) (.ret [.c (.int .i64 0),.c (.int .i64 0)])))))
theorem rd31:readFn T SG sigs 3000 sg31 Tryz.f37 an31=some ir31:=by kernel_rfl
def an32:Ann:=.z
def ir32:IR:=(.call 52 1 false [] [.v 0,.v 1,.v 5] (.op (.bin .neq false) [.v 6,.c (.int .i64 0)] (.ite (.v 7) (.ret [.c (.sl []),.c (.sl []),.v 6]) (.call 29 2 false [] [.v 0,.v 2,.v 3,.v 4] (.op (.bin .neq false) [.v 9,.c (.int .i64 0)] (.ite (.v 10) (.ret [.c (.sl []),.c (.sl []),.v 9]) (.op (.bin .eql false) [.v 8,.c (.int .u64 0)] (.ite (.v 11) (.ret [.c (.sl []),.c (.sl []),.c (.int .i64 9)]) (.call 53 3 false [] [.v 0,.v 1,.v 8,.v 5] (.ret [.v 12,.v 13,.v 14]))))))))))
theorem rd32:readFn T SG sigs 3000 sg32 Tryz.f38 an32=some ir32:=by kernel_rfl
def an33:Ann:=(.s none .z (.s none .z (.s none (.s none .z (.b (.l ⟨1,[(4,.junk),(6,.junk),(7,.junk),(8,.junk),(9,.junk),(10,.junk),(11,.junk),(13,(.atm (.v 0)))],[],0,[]⟩ .z))) .z)))
def ir33p0:IR:=(.op (.bin .lss false) [.v 6,.v 5] (.ite (.v 7) (.op (.row 1) [.v 0,.v 6] (.op (.row 1) [.v 1,.v 6] (.op (.bin .neq false) [.v 8,.v 9] (.ite (.v 10) (.ret [.c (.bool false)]) (.op (.bin .add false) [.v 6,.c (.int .i64 1)] (.jump 0 [.v 11])))))) (.ret [.c (.bool true)])))
def ir33:IR:=(.op .lenL [.v 0] (.op .lenL [.v 1] (.op (.bin .neq false) [.v 2,.v 3] (.ite (.v 4) (.ret [.c (.bool false)]) (.op .lenL [.v 0] (.loop 1 [.c (.int .i64 0)] ir33p0))))))
theorem rd33:readFn T SG sigs 3000 sg33 Tryz.f39 an33=some ir33:=by kernel_rfl
def an34:Ann:=(.s none .z (.s none (.s (some ⟨1,[(2,.junk),(12,(.atm (.v 0)))],[],0,[]⟩) .z .z) (.s none (.s none .z (.b (.l ⟨1,[(12,.junk),(13,.junk),(15,(.atm (.v 0)))],[],0,[]⟩ (.s none .z (.s none .z (.s (some ⟨0,[(16,.junk)],[],0,[]⟩) (.b (.s none .z (.s none .z (.b (.s (some ⟨1,[(16,.junk),(17,.junk),(18,.junk),(19,.junk),(20,.junk),(21,(.atm (.v 0)))],[],0,[]⟩) .z (.c .z (.s (some ⟨1,[(3,.junk),(4,.junk),(21,.junk),(28,(.atm (.v 0)))],[],0,[]⟩) .z .z))))))) .z)))))) .z)))
def ir34p0:IR:=(.op (.bin .add false) [.v 3,.c (.int .i64 1)] (.jump 0 [.v 5]))
def ir34p1:IR:=(.ite (.v 7) (.jump 1 []) (.ret [.c (.bool false)]))
def ir34p2:IR:=(.ite (.v 6) (.jump 1 []) (.letj 1 (.op (.bin .gtr false) [.v 3,.c (.int .i64 0)] (.ite (.v 7) (.op (.bin .geq false) [.v 5,.c (.int .u8 48)] (.ite (.v 8) (.op (.bin .leq false) [.v 5,.c (.int .u8 57)] (.ite (.v 9) (.jump 2 [.c (.bool true)]) (.op (.bin .eql false) [.v 5,.c (.int .u8 95)] (.jump 2 [.v 10])))) (.op (.bin .eql false) [.v 5,.c (.int .u8 95)] (.jump 2 [.v 9])))) (.jump 2 [.c (.bool false)]))) ir34p1))
def ir34p3:IR:=(.op (.bin .lss false) [.v 3,.v 2] (.ite (.v 4) (.letj 0 (.op .idxS [.v 0,.v 3] (.letj 1 (.op (.bin .geq false) [.v 5,.c (.int .u8 97)] (.ite (.v 6) (.op (.bin .leq false) [.v 5,.c (.int .u8 122)] (.jump 2 [.v 7])) (.jump 2 [.c (.bool false)]))) ir34p2)) ir34p0) (.ret [.c (.bool true)])))
def ir34p4:IR:=(.ite (.v 1) (.ret [.c (.bool false)]) (.op .lenS [.v 0] (.loop 1 [.c (.int .i64 0)] ir34p3)))
def ir34:IR:=(.letj 1 (.op .lenS [.v 0] (.op (.bin .eql false) [.v 1,.c (.int .i64 0)] (.ite (.v 2) (.jump 0 [.c (.bool true)]) (.op .lenS [.v 0] (.op (.bin .gtr false) [.v 3,.c (.int .i64 12)] (.jump 0 [.v 4])))))) ir34p4)
theorem rd34:readFn T SG sigs 3000 sg34 Tryz.f40 an34=some ir34:=by kernel_rfl
def an37:Ann:=.z
def ir37:IR:=(.call 54 1 false [] [.v 0] (.ite (.v 2) (.call 54 1 false [] [.v 1] (.ite (.v 3) (.op (.un .not) [.c (.bool true)] (.op (.bin .lss false) [.v 0,.v 1] (.ret [.v 5]))) (.op (.un .not) [.c (.bool false)] (.ret [.c (.bool true)])))) (.op (.bin .lss false) [.v 0,.v 1] (.ret [.v 3]))))
theorem rd37:readFn T SG sigs 3000 sg37 Tryz.f44 an37=some ir37:=by kernel_rfl
def an38:Ann:=.z
def ir38:IR:=(.op (.bin .neq false) [.v 0,.v 0] (.ret [.v 1]))
theorem rd38:readFn T SG sigs 3000 sg38 Tryz.f45 an38=some ir38:=by kernel_rfl
def an39:Ann:=.z
def ir39:IR:=(.call 17 1 false [] [.v 0] (.op (.un .not) [.v 1] (.ite (.v 2) (.ret [.c (.int .u64 0)]) (.op .lenL [.v 0] (.call 55 1 false [] [.v 3] (.ret [.v 4]))))))
theorem rd39:readFn T SG sigs 3000 sg39 Tryz.f47 an39=some ir39:=by kernel_rfl
def an40:Ann:=(.s none .z (.s none .z (.s none .z (.s none .z (.s none .z (.s none .z (.s none .z (.s none .z (.s none .z (.s none (.b (.s (some ⟨1,[(0,.junk),(1,.junk),(5,.junk),(12,.junk),(13,.junk),(14,.junk),(15,.junk),(16,.junk),(17,.junk),(19,.junk),(20,.junk),(21,.junk),(23,.junk),(24,.junk),(25,.junk),(26,.junk),(27,.junk),(28,.junk),(29,.junk),(30,.junk),(31,.junk),(32,.junk),(36,.junk),(37,.junk),(38,.junk),(39,.junk),(40,.junk),(41,.junk),(42,.junk),(43,.junk),(44,.junk),(45,.junk),(46,.junk),(47,.junk),(48,.junk),(49,(.atm (.v 0)))],[],4,[]⟩) .z (.c .z (.s none .z (.c .z (.s (some ⟨1,[(49,.junk),(58,.junk),(59,.junk),(60,.junk),(61,.junk),(67,(.atm (.v 0)))],[],4,[]⟩) .z .z)))))) .z))))))))))
def ir40p0:IR:=(.ite (.v 18) (.ret [.c (.int .i64 4),.c (.str []),.v 13]) (.op (.bin .eql false) [.v 8,.c (.int .u64 0)] (.ite (.v 19) (.call 40 3 false [] [.v 7,.v 9] (.call 57 3 false [] [.c (.int .i64 5),.c (.int .i64 4),.c (.str []),.v 13,.v 20,.v 21,.v 22] (.ret [.v 23,.v 24,.v 25]))) (.op (.bin .eql false) [.v 9,.v 15] (.ite (.v 20) (.call 40 3 false [] [.v 7,.v 8] (.call 57 3 false [] [.c (.int .i64 6),.c (.int .i64 4),.c (.str []),.v 13,.v 21,.v 22,.v 23] (.ret [.v 24,.v 25,.v 26]))) (.op (.bin .eql false) [.v 9,.c (.int .u64 0)] (.ite (.v 21) (.call 40 3 false [] [.v 7,.v 8] (.call 57 3 false [] [.c (.int .i64 5),.c (.int .i64 3),.v 11,.c (.sl []),.v 22,.v 23,.v 24] (.ret [.v 25,.v 26,.v 27]))) (.call 40 3 false [] [.v 7,.v 8] (.call 57 3 false [] [.c (.int .i64 5),.c (.int .i64 3),.v 11,.c (.sl []),.v 22,.v 23,.v 24] (.call 40 3 false [] [.v 7,.v 9] (.call 57 3 false [] [.c (.int .i64 5),.c (.int .i64 4),.c (.str []),.v 13,.v 28,.v 29,.v 30] (.call 57 3 false [] [.c (.int .i64 6),.v 25,.v 26,.v 27,.v 31,.v 32,.v 33] (.ret [.v 34,.v 35,.v 36])))))))))))))
def ir40p1:IR:=(.ite (.v 16) (.ret [.c (.int .i64 3),.v 11,.c (.sl [])]) (.op (.bin .eql false) [.v 8,.v 15] (.ite (.v 17) (.call 40 3 false [] [.v 7,.v 9] (.call 57 3 false [] [.c (.int .i64 6),.c (.int .i64 3),.v 11,.c (.sl []),.v 18,.v 19,.v 20] (.ret [.v 21,.v 22,.v 23]))) (.letj 1 (.op (.bin .eql false) [.v 8,.c (.int .u64 0)] (.ite (.v 18) (.op (.bin .eql false) [.v 9,.v 15] (.jump 0 [.v 19])) (.jump 0 [.c (.bool false)]))) ir40p0))))
def ir40:IR:=(.op .lenL [.v 0] (.call 55 1 false [] [.v 2] (.op (.bin .eql false) [.v 1,.c (.int .u64 0)] (.ite (.v 4) (.ret [.c (.int .i64 2),.c (.str []),.c (.sl [])]) (.op (.bin .eql false) [.v 1,.v 3] (.ite (.v 5) (.ret [.c (.int .i64 1),.c (.str []),.c (.sl [])]) (.op .lenL [.v 0] (.op (.subL 1) [.v 0,.c (.int .i64 1),.v 6] (.call 56 2 false [] [.v 1] (.op (.bin .eql false) [.v 8,.v 9] (.ite (.v 10) (.call 40 3 false [] [.v 7,.v 8] (.ret [.v 11,.v 12,.v 13])) (.op (.row 1) [.v 0,.c (.int .i64 0)] (.op (.row 1) [.v 0,.c (.int .i64 0)] (.op (.mk 3 1) [.c (.int .i64 3),.v 12,.c (.sl [])] (.op .lenL [.v 7] (.call 55 1 false [] [.v 14] (.letj 1 (.op (.bin .eql false) [.v 8,.v 15] (.ite (.v 16) (.op (.bin .eql false) [.v 9,.c (.int .u64 0)] (.jump 0 [.v 17])) (.jump 0 [.c (.bool false)]))) ir40p1)))))))))))))))))
theorem rd40:readFn T SG sigs 3000 sg40 Tryz.f46 an40=some ir40:=by kernel_rfl
def an41:Ann:=(.s none .z (.s none (.s (some ⟨1,[(0,.junk),(2,.junk),(20,(.atm (.v 0)))],[],1,[]⟩) .z .z) (.s none .z (.s none .z (.s none (.s none .z (.b (.l ⟨3,[(1,.junk),(4,(.atm (.v 0))),(20,.junk),(21,.junk),(22,.junk),(23,.junk),(24,.junk),(25,.junk),(28,(.atm (.v 1)))],[(1,⟨false,true,4,1,.v 2,[]⟩)],2,[]⟩ (.s none .z (.s none .z (.s none (.b (.s none .z (.s none (.s (some ⟨1,[(29,.junk),(30,.junk),(31,.junk),(39,(.atm (.v 0)))],[],2,[]⟩) .z .z) .z))) .z)))))) .z)))))
def ir41p0:IR:=(.ite (.v 11) (.ret [.c (.int .i64 8)]) (.op .max [.v 6,.v 10] (.op .chk [.v 8,.v 10] (.op (.set 0 1) [.v 8,.v 10,.c (.bool true)] (.op (.bin .add false) [.v 7,.c (.int .i64 1)] (.jump 0 [.v 12,.v 14,.v 13]))))))
def ir41p1:IR:=(.op (.bin .lss false) [.v 7,.v 5] (.ite (.v 9) (.op (.row 1) [.v 1,.v 7] (.letj 1 (.op (.bin .lss false) [.v 10,.c (.int .i64 0)] (.ite (.v 11) (.jump 1 [.c (.bool true)]) (.op .lenL [.v 8] (.op (.bin .geq false) [.v 10,.v 12] (.jump 1 [.v 13]))))) ir41p0)) (.op (.subL 1) [.v 8,.c (.int .i64 0),.v 6] (.call 58 1 false [] [.v 10,.c (.bool false)] (.ite (.v 11) (.ret [.c (.int .i64 8)]) (.ret [.c (.int .i64 0)]))))))
def ir41p2:IR:=(.ite (.v 2) (.ret [.c (.int .i64 1)]) (.op .lenL [.v 1] (.op (.mkL 1 [(.bool false)]) [.v 3] (.op .lenL [.v 1] (.loop 3 [.c (.int .i64 0),.c (.int .i64 0),.v 4] ir41p1)))))
def ir41:IR:=(.letj 1 (.call 17 1 false [] [.v 0] (.op (.un .not) [.v 2] (.ite (.v 3) (.jump 0 [.c (.bool true)]) (.op .lenL [.v 1] (.op .lenL [.v 0] (.op (.bin .shl false) [.c (.int .i64 1),.v 5] (.op (.bin .neq false) [.v 4,.v 6] (.jump 0 [.v 7])))))))) ir41p2)
theorem rd41:readFn T SG sigs 3000 sg41 Tryz.f48 an41=some ir41:=by kernel_rfl
def an42:Ann:=.z
def ir42:IR:=(.op (.bin .eql false) [.v 0,.c (.int .i64 1)] (.ite (.v 1) (.ret [.c (fnD 74),.c (.bool true)]) (.op (.bin .eql false) [.v 0,.c (.int .i64 2)] (.ite (.v 2) (.ret [.c (fnD 76),.c (.bool true)]) (.op (.bin .eql false) [.v 0,.c (.int .i64 3)] (.ite (.v 3) (.ret [.c (fnD 77),.c (.bool true)]) (.ret [.c (.raw .nilFunc),.c (.bool false)])))))))
theorem rd42:readFn T SG sigs 3000 sg42 Tryz.f49 an42=some ir42:=by kernel_rfl
def an43:Ann:=(.s none .z (.s none .z (.s none (.s none .z (.b (.l ⟨2,[(0,.junk),(1,(.atm (.v 0))),(4,.junk),(6,.junk),(7,.junk),(8,.junk),(9,.junk)],[(0,⟨false,true,3,1,.v 1,[]⟩)],1,[⟨none,5,3,1⟩]⟩ .z))) .z)))
def ir43p0:IR:=(.op (.bin .neq false) [.v 4,.c (.int .u64 0)] (.ite (.v 6) (.call 59 1 false [] [.v 4] (.op (.mk 1 1) [.v 7] (.op (.app 1 8) [.v 5,.v 8] (.op (.bin .sub false) [.v 4,.c (.int .u64 1)] (.op (.bin .and false) [.v 4,.v 10] (.jump 0 [.v 11,.v 9])))))) (.ret [.v 5])))
def ir43:IR:=(.call 39 1 false [] [.v 0] (.op (.bin .and false) [.v 1,.v 2] (.loop 2 [.v 3,.c (.sl [])] ir43p0)))
theorem rd43:readFn T SG sigs 3000 sg43 Tryz.f50 an43=some ir43:=by kernel_rfl
def an44:Ann:=(.f [74,76,77] (.s none .z (.s none .z (.s none .z (.s none .z (.s none (.s none .z (.b (.l ⟨3,[(0,.junk),(2,.junk),(3,(.atm (.v 0))),(8,.junk),(10,(.atm (.v 1))),(15,.junk),(16,.junk),(17,.junk),(20,(.atm (.v 2)))],[],0,[]⟩ (.s none .z (.s none .z (.s (some ⟨2,[(3,(.atm (.v 0))),(10,(.atm (.v 1))),(21,.junk)],[],0,[]⟩) (.b (.s none .z (.s none (.s none .z (.b (.l ⟨2,[(3,(.atm (.v 0))),(21,.junk),(22,.junk),(23,.junk),(26,(.atm (.v 1)))],[],0,[]⟩ (.s none .z (.s none .z (.s none (.b (.s none .z (.s (some ⟨2,[(3,(.atm (.v 0))),(14,.junk),(27,.junk),(28,.junk),(29,.junk),(37,(.atm (.v 1)))],[],0,[]⟩) .z .z))) .z)))))) .z))) .z)))))) .z))))))
def ir44p0:IR:=(.op (.bin .add false) [.v 8,.c (.int .i64 1)] (.jump 0 [.v 10,.v 11,.v 12]))
def ir44p1:IR:=(.ite (.v 17) (.jump 1 [.v 16,.v 7]) (.op (.bin .add false) [.v 13,.c (.int .i64 1)] (.jump 2 [.v 16,.v 18])))
def ir44p2:IR:=(.op (.bin .lss false) [.v 13,.v 11] (.ite (.v 14) (.op (.row 1) [.v 4,.v 13] (.letj 2 (.call 60 1 false [] [.v 1,.v 15] (.call 60 1 false [] [.v 1,.v 10] (.isf (.v 12) 74 (.call 61 1 false [] [.v 16,.v 17] (.jump 3 [.c (fnD 74),.v 18])) (.isf (.v 12) 76 (.call 62 1 false [] [.v 16,.v 17] (.jump 3 [.c (fnD 76),.v 18])) (.isf (.v 12) 77 (.call 63 1 false [] [.v 16,.v 17] (.jump 3 [.c (fnD 77),.v 18])) .fail))))) ir44p1)) (.op (.conv .u64) [.v 10] (.op (.bin .shl false) [.c (.int .u64 1),.v 15] (.op (.bin .or false) [.v 7,.v 16] (.jump 1 [.v 12,.v 17]))))))
def ir44p3:IR:=(.op (.bin .lss false) [.v 8,.v 5] (.ite (.v 9) (.letj 2 (.op (.row 1) [.v 4,.v 8] (.op .lenL [.v 4] (.loop 2 [.v 6,.c (.int .i64 0)] ir44p2))) ir44p0) (.ret [.v 7])))
def ir44:IR:=(.call 43 1 false [] [.v 0,.v 2] (.op .lenL [.v 4] (.loop 3 [.v 3,.c (.int .u64 0),.c (.int .i64 0)] ir44p3)))
theorem rd44:readFn T SG sigs 3000 sg44 Tryz.f51 an44=some ir44:=by kernel_rfl
def an45:Ann:=(.s none .z (.s none (.b (.s none .z (.c .z (.s (some ⟨1,[(2,.junk),(6,.junk),(7,.junk),(13,.junk),(14,.junk),(15,.junk),(16,.junk),(17,(.atm (.v 0)))],[],0,[]⟩) .z .z)))) (.s none .z (.s none (.s none .z (.b (.l ⟨2,[(1,.junk),(17,.junk),(24,.junk),(25,.junk),(26,.junk),(27,.junk),(30,(.atm (.v 0)))],[(0,⟨false,true,44,1,.v 1,[]⟩)],1,[⟨none,8,44,1⟩]⟩ .z))) .z))))
def ir45p0:IR:=(.op (.bin .lss false) [.v 9,.v 8] (.ite (.v 11) (.op (.row 3) [.v 1,.v 9] (.call 29 2 false [] [.v 0,.v 12,.v 13,.v 14] (.op (.bin .neq false) [.v 16,.c (.int .i64 0)] (.ite (.v 17) (.ret [.c (.sl []),.v 16]) (.op (.mk 1 1) [.v 15] (.op (.app 1 8) [.v 10,.v 18] (.op (.bin .add false) [.v 9,.c (.int .i64 1)] (.jump 0 [.v 20,.v 19])))))))) (.call 64 1 true [] [.v 10,.c (.int .u64 0)] (.ite (.v 12) (.ret [.c (.sl []),.c (.int .i64 7)]) (.ret [.v 10,.c (.int .i64 0)])))))
def ir45p1:IR:=(.ite (.v 5) (.ret [.c (.sl []),.c (.int .i64 4)]) (.op .lenL [.v 1] (.op (.bin .gtr false) [.v 6,.c (.int .i64 8)] (.ite (.v 7) (.ret [.c (.sl []),.c (.int .i64 2)]) (.op .lenL [.v 1] (.loop 2 [.c (.int .i64 0),.c (.sl [])] ir45p0))))))
def ir45:IR:=(.call 17 1 false [] [.v 0] (.op (.un .not) [.v 3] (.ite (.v 4) (.ret [.c (.sl []),.c (.int .i64 1)]) (.letj 1 (.op (.bin .lss false) [.v 2,.c (.int .i64 1)] (.ite (.v 5) (.jump 0 [.c (.bool true)]) (.op (.bin .gtr false) [.v 2,.c (.int .i64 4)] (.jump 0 [.v 6])))) ir45p1))))
theorem rd45:readFn T SG sigs 3000 sg45 Tryz.f52 an45=some ir45:=by kernel_rfl
def an46:Ann:=(.s none .z (.s none .z (.s none (.s none .z (.b (.l ⟨2,[(7,.junk),(10,.junk),(11,.junk),(12,.junk),(13,.junk),(14,.junk),(16,(.atm (.v 0)))],[(1,⟨false,true,3,1,.v 1,[]⟩)],2,[]⟩ .z))) .z)))
def ir46p0:IR:=(.op (.bin .lss false) [.v 7,.v 6] (.ite (.v 9) (.call 65 1 false [0] [.v 0,.v 1,.v 7,.v 2] (.call 66 2 false [1] [.v 2,.v 10] (.op .chk [.v 8,.v 7] (.op (.set 0 1) [.v 8,.v 7,.v 11] (.op (.bin .add false) [.v 7,.c (.int .i64 1)] (.jump 0 [.v 14,.v 13])))))) (.call 5 3 false [] [.v 0,.v 8] (.ret [.v 10,.v 11,.v 12]))))
def ir46:IR:=(.op .lenL [.v 0] (.op (.bin .shl false) [.c (.int .i64 1),.v 3] (.op (.mkL 8 [(.int .i64 0)]) [.v 4] (.op .lenL [.v 5] (.loop 2 [.c (.int .i64 0),.v 5] ir46p0)))))
theorem rd46:readFn T SG sigs 3000 sg46 Tryz.f53 an46=some ir46:=by kernel_rfl
def an47:Ann:=(.s none .z (.s none (.b (.s (some ⟨1,[(0,.junk),(2,.junk),(3,(.atm (.v 0)))],[],1,[]⟩) .z .z)) .z))
def ir47p0:IR:=(.ite (.v 3) (.ret [.c (.int .i64 2)]) (.call 69 1 false [] [.v 0,.v 1,.v 2] (.op (.un .not) [.v 4] (.ite (.v 5) (.ret [.c (.int .i64 4)]) (.call 70 1 false [] [.v 0,.v 1,.v 2] (.op (.un .not) [.v 6] (.ite (.v 7) (.ret [.c (.int .i64 3)]) (.ret [.c (.int .i64 0)]))))))))
def ir47:IR:=(.letj 1 (.call 67 1 false [] [.v 0,.v 1,.v 2] (.op (.bin .gtr false) [.v 3,.c (.int .i64 600)] (.ite (.v 4) (.jump 0 [.c (.bool true)]) (.call 68 1 false [] [.v 0,.v 1,.v 2] (.op (.bin .gtr false) [.v 5,.c (.int .i64 20)] (.jump 0 [.v 6])))))) ir47p0)
theorem rd47:readFn T SG sigs 3000 sg47 Tryz.f54 an47=some ir47:=by kernel_rfl
def an49:Ann:=.z
def ir49:IR:=(.call 71 1 false [] [.v 0,.v 1] (.op (.bin .geq false) [.v 2,.c (.int .i64 0)] (.ret [.v 3])))
theorem rd49:readFn T SG sigs 3000 sg49 Tryz.f56 an49=some ir49:=by kernel_rfl
def an50:Ann:=(.s none .z (.s none (.s none .z (.b (.s none .z (.c .z (.s none .z (.c .z (.s none .z (.c .z (.s none .z (.c .z (.s none .z (.c .z (.s none .z (.c (.s none .z (.s none (.s none .z (.b (.l ⟨2,[(1,.junk),(3,.junk),(4,.junk),(5,(.atm (.v 0))),(11,.junk),(12,.junk),(13,.junk),(14,.junk),(15,.junk),(16,.junk),(22,.junk),(23,.junk),(31,.junk),(32,.junk),(47,.junk),(48,.junk),(63,.junk),(64,.junk),(65,.junk),(68,(.atm (.v 1)))],[],1,[]⟩ .z))) .z)) .z)))))))))))))) (.s none .z (.s none (.s none .z (.b (.l ⟨2,[(1,.junk),(3,.junk),(4,.junk),(8,(.atm (.v 0))),(11,.junk),(12,.junk),(13,.junk),(14,.junk),(15,.junk),(16,.junk),(22,.junk),(23,.junk),(31,.junk),(32,.junk),(47,.junk),(48,.junk),(63,.junk),(64,.junk),(79,.junk),(82,(.atm (.v 1)))],[],1,[]⟩ .z))) .z))))
def ir50p0:IR:=(.op (.bin .lss false) [.v 12,.v 10] (.ite (.v 13) (.op (.row 3) [.v 3,.v 12] (.call 50 1 false [] [.v 0,.v 14,.v 15,.v 16] (.op (.bin .and false) [.v 11,.v 17] (.op (.bin .add false) [.v 12,.c (.int .i64 1)] (.jump 0 [.v 18,.v 19]))))) (.ret [.v 11])))
def ir50p1:IR:=(.op (.bin .lss false) [.v 12,.v 10] (.ite (.v 13) (.op (.row 3) [.v 3,.v 12] (.call 50 1 false [] [.v 0,.v 14,.v 15,.v 16] (.op (.bin .or false) [.v 11,.v 17] (.op (.bin .add false) [.v 12,.c (.int .i64 1)] (.jump 0 [.v 18,.v 19]))))) (.ret [.v 11])))
def ir50:IR:=(.op (.bin .eql false) [.v 1,.c (.int .i64 1)] (.ite (.v 4) (.ret [.c (.int .u64 18446744073709551615)]) (.op (.bin .eql false) [.v 1,.c (.int .i64 3)] (.ite (.v 5) (.call 71 1 false [] [.v 0,.v 2] (.call 72 1 false [] [.v 6] (.ret [.v 7]))) (.op (.bin .eql false) [.v 1,.c (.int .i64 4)] (.ite (.v 6) (.op (.row 3) [.v 3,.c (.int .i64 0)] (.call 50 1 false [] [.v 0,.v 7,.v 8,.v 9] (.op (.un .xor) [.v 10] (.ret [.v 11])))) (.op (.bin .eql false) [.v 1,.c (.int .i64 7)] (.ite (.v 7) (.op (.row 3) [.v 3,.c (.int .i64 0)] (.call 50 1 false [] [.v 0,.v 8,.v 9,.v 10] (.op (.un .xor) [.v 11] (.op (.row 3) [.v 3,.c (.int .i64 1)] (.call 50 1 false [] [.v 0,.v 13,.v 14,.v 15] (.op (.bin .or false) [.v 12,.v 16] (.ret [.v 17]))))))) (.op (.bin .eql false) [.v 1,.c (.int .i64 8)] (.ite (.v 8) (.op (.row 3) [.v 3,.c (.int .i64 0)] (.call 50 1 false [] [.v 0,.v 9,.v 10,.v 11] (.op (.row 3) [.v 3,.c (.int .i64 1)] (.call 50 1 false [] [.v 0,.v 13,.v 14,.v 15] (.op (.bin .xor false) [.v 12,.v 16] (.op (.un .xor) [.v 17] (.ret [.v 18]))))))) (.op (.bin .eql false) [.v 1,.c (.int .i64 5)] (.ite (.v 9) (.op .lenL [.v 3] (.loop 2 [.c (.int .u64 18446744073709551615),.c (.int .i64 0)] ir50p0)) (.op .lenL [.v 3] (.loop 2 [.c (.int .u64 0),.c (.int .i64 0)] ir50p1))))))))))))))
theorem rd50:readFn T SG sigs 3000 sg50 Tryz.f57 an50=some ir50:=by kernel_rfl
def an51:Ann:=(.s none .z (.s none .z (.s none .z (.s none (.s none .z (.b (.l ⟨2,[(2,.junk),(3,(.atm (.v 0))),(4,(.atm (.v 1))),(5,.junk),(6,.junk),(7,.junk),(9,.junk),(10,.junk),(11,.junk)],[],0,[]⟩ .z))) .z))))
def ir51p0:IR:=(.op .lenL [.v 0] (.op (.bin .lss false) [.v 5,.v 6] (.ite (.v 7) (.op (.row 1) [.v 0,.v 5] (.op .max [.v 4,.v 8] (.op (.bin .add false) [.v 5,.c (.int .i64 1)] (.jump 0 [.v 9,.v 10])))) (.ret [.v 4]))))
def ir51:IR:=(.op .lenL [.v 0] (.op (.bin .lss false) [.v 1,.c (.int .i64 1)] (.ite (.v 2) .fail (.op (.row 1) [.v 0,.c (.int .i64 0)] (.loop 2 [.v 3,.c (.int .i64 1)] ir51p0)))))
theorem rd51:readFn T SG sigs 3000 sg51 Tryz.f58 an51=some ir51:=by kernel_rfl
def an52:Ann:=.z
def ir52:IR:=(.call 41 1 false [] [.v 0,.v 1] (.op (.bin .neq false) [.v 3,.c (.int .i64 0)] (.ite (.v 4) (.ret [.v 3]) (.call 73 1 false [] [.v 2] (.op (.un .not) [.v 5] (.ite (.v 6) (.ret [.c (.int .i64 4)]) (.ret [.c (.int .i64 0)])))))))
theorem rd52:readFn T SG sigs 3000 sg52 Tryz.f64 an52=some ir52:=by kernel_rfl
def an53:Ann:=(.s none .z (.s none .z (.s none .z (.s none (.s none .z (.b (.l ⟨2,[(0,.junk),(7,.junk),(11,.junk),(12,.junk),(13,.junk),(14,.junk),(15,.junk),(16,.junk),(17,.junk),(18,.junk),(20,(.atm (.v 0)))],[(2,⟨false,true,3,1,.v 1,[]⟩)],3,[]⟩ .z))) .z))))
def ir53p0:IR:=(.op (.bin .lss false) [.v 8,.v 7] (.ite (.v 10) (.call 74 1 false [] [.v 0,.v 1,.v 8,.v 2,.v 4,.v 3] (.op .chk [.v 9,.v 8] (.op (.set 0 1) [.v 9,.v 8,.v 11] (.op (.bin .add false) [.v 8,.c (.int .i64 1)] (.jump 0 [.v 13,.v 12]))))) (.call 5 3 false [] [.v 0,.v 9] (.ret [.v 11,.v 12,.v 13]))))
def ir53:IR:=(.call 11 1 false [] [.v 0,.v 1,.v 2] (.op .lenL [.v 1] (.op (.mkL 8 [(.int .i64 0)]) [.v 5] (.op .lenL [.v 6] (.loop 2 [.c (.int .i64 0),.v 6] ir53p0)))))
theorem rd53:readFn T SG sigs 3000 sg53 Tryz.f65 an53=some ir53:=by kernel_rfl
def an54:Ann:=.z
def ir54:IR:=(.op (.bin .neq false) [.v 0,.v 0] (.ret [.v 1]))
theorem rd54:readFn T SG sigs 3000 sg54 Tryz.f69 an54=some ir54:=by kernel_rfl
def an55:Ann:=.z
def ir55:IR:=(.op (.bin .shl false) [.c (.int .u64 1),.v 0] (.op (.bin .sub false) [.c (.int .u64 64),.v 1] (.op (.bin .shr false) [.c (.int .u64 18446744073709551615),.v 2] (.ret [.v 3]))))
theorem rd55:readFn T SG sigs 3000 sg55 Tryz.f70 an55=some ir55:=by kernel_rfl
def an56:Ann:=(.s none .z (.s none (.s none .z (.b (.l ⟨3,[(2,(.atm (.v 0))),(3,(.atm (.v 1))),(5,(.atm (.v 2)))],[],0,[]⟩ .z))) .z))
def ir56p0:IR:=(.op (.bin .lss false) [.v 3,.c (.int .i64 32)] (.ite (.v 4) (.op (.bin .mul false) [.c (.int .i64 2),.v 3] (.op (.bin .shr false) [.v 0,.v 5] (.op (.bin .and false) [.v 6,.c (.int .u64 1)] (.op (.bin .shl false) [.v 7,.v 3] (.op (.bin .or false) [.v 2,.v 8] (.op (.bin .mul false) [.c (.int .i64 2),.v 3] (.op (.bin .add false) [.v 10,.c (.int .i64 1)] (.op (.bin .shr false) [.v 0,.v 11] (.op (.bin .and false) [.v 12,.c (.int .u64 1)] (.op (.bin .shl false) [.v 13,.v 3] (.op (.bin .or false) [.v 1,.v 14] (.op (.bin .add false) [.v 3,.c (.int .i64 1)] (.jump 0 [.v 15,.v 9,.v 16]))))))))))))) (.ret [.v 1,.v 2])))
def ir56:IR:=(.loop 3 [.c (.int .u64 0),.c (.int .u64 0),.c (.int .i64 0)] ir56p0)
theorem rd56:readFn T SG sigs 3000 sg56 Tryz.f71 an56=some ir56:=by kernel_rfl
def an57:Ann:=.z
def ir57:IR:=(.op (.mk 3 2) [.v 1,.v 2,.v 3,.v 4,.v 5,.v 6] (.ret [.v 0,.c (.str []),.v 7]))
theorem rd57:readFn T SG sigs 3000 sg57 Tryz.f72 an57=some ir57:=by kernel_rfl
def an58:Ann:=.z
def ir58:IR:=(.call 75 1 false [] [.v 0,.v 1] (.op (.bin .geq false) [.v 2,.c (.int .i64 0)] (.ret [.v 3])))
theorem rd58:readFn T SG sigs 3000 sg58 Tryz.f73 an58=some ir58:=by kernel_rfl
def an60:Ann:=.z
def ir60:IR:=(.op (.bin .xor false) [.v 0,.v 1] (.op (.conv .u64) [.v 2] (.op (.bin .and false) [.v 3,.c (.int .u64 63)] (.ret [.v 4]))))
theorem rd60:readFn T SG sigs 3000 sg60 Tryz.f79 an60=some ir60:=by kernel_rfl
def an61:Ann:=.z
def ir61:IR:=(.call 76 1 false [] [.v 0] (.call 76 1 false [] [.v 1] (.op (.bin .lss false) [.v 2,.v 3] (.ret [.v 4]))))
theorem rd61:readFn T SG sigs 3000 sg61 Tryz.f74 an61=some ir61:=by kernel_rfl
def an62:Ann:=.z
def ir62:IR:=(.op (.bin .andNot false) [.v 0,.v 1] (.op (.bin .eql false) [.v 2,.c (.int .u64 0)] (.ite (.v 3) (.op (.bin .neq false) [.v 0,.v 1] (.ret [.v 4])) (.ret [.c (.bool false)]))))
theorem rd62:readFn T SG sigs 3000 sg62 Tryz.f76 an62=some ir62:=by kernel_rfl
def an63:Ann:=.z
def ir63:IR:=(.op (.bin .eql false) [.v 0,.c (.int .u64 0)] (.ite (.v 2) (.op (.bin .neq false) [.v 1,.c (.int .u64 0)] (.ret [.v 3])) (.ret [.c (.bool false)])))
theorem rd63:readFn T SG sigs 3000 sg63 Tryz.f77 an63=some ir63:=by kernel_rfl
def an64:Ann:=.z
def ir64:IR:=(.call 77 1 false [] [.v 0,.v 1] (.op (.bin .geq false) [.v 2,.c (.int .i64 0)] (.ret [.v 3])))
theorem rd64:readFn T SG sigs 3000 sg64 Tryz.f80 an64=some ir64:=by kernel_rfl
def an65:Ann:=(.s none .z (.s none .z (.s none (.s none .z (.b (.l ⟨2,[(1,.junk),(8,.junk),(14,(.atm (.v 0)))],[(0,⟨false,true,3,1,.v 1,[]⟩)],1,[⟨none,9,3,1⟩]⟩ .z))) .z)))
def ir65p0:IR:=(.op (.bin .lss false) [.v 5,.v 4] (.ite (.v 7) (.op (.row 1) [.v 1,.v 5] (.call 78 1 false [] [.v 0,.v 8,.v 2,.v 3] (.op (.mk 1 1) [.v 9] (.op (.app 1 8) [.v 6,.v 10] (.op (.bin .add false) [.v 5,.c (.int .i64 1)] (.jump 0 [.v 12,.v 11])))))) (.ret [.v 6])))
def ir65:IR:=(.op .lenL [.v 1] (.loop 2 [.c (.int .i64 0),.c (.sl [])] ir65p0))
theorem rd65:readFn T SG sigs 3000 sg65 Tryz.f82 an65=some ir65:=by kernel_rfl
def an66:Ann:=(.s none .z (.s none .z (.s none .z (.s none .z (.s none (.s none .z (.b (.l ⟨2,[(4,.junk),(5,(.atm (.v 0))),(8,.junk),(9,.junk),(10,.junk),(11,.junk),(14,(.atm (.v 1)))],[],1,[]⟩ (.s none .z (.s none .z (.s (some ⟨1,[(5,(.atm (.v 0))),(15,.junk)],[],1,[]⟩) .z .z)))))) .z)))))
def ir66p0:IR:=(.op (.bin .add false) [.v 6,.c (.int .i64 1)] (.jump 0 [.v 8,.v 9]))
def ir66p1:IR:=(.op (.bin .lss false) [.v 6,.v 4] (.ite (.v 7) (.letj 1 (.op .chk [.v 3,.v 6] (.op (.get 0 1) [.v 3,.v 6] (.op (.bin .eql false) [.v 0,.c (.int .i64 3)] (.ite (.v 9) (.op .max [.v 5,.v 8] (.jump 1 [.v 10])) (.op (.bin .eql false) [.v 0,.c (.int .i64 2)] (.ite (.v 10) (.op (.bin .mul false) [.v 5,.c (.int .i64 7)] (.op .chk [.v 3,.v 6] (.op (.get 0 1) [.v 3,.v 6] (.op (.bin .add false) [.v 11,.v 12] (.jump 1 [.v 13]))))) (.op (.bin .add false) [.v 5,.v 8] (.jump 1 [.v 11])))))))) ir66p0) (.ret [.v 5,.v 3])))
def ir66:IR:=(.call 36 1 false [0] [.v 1] (.call 79 1 false [0] [.v 2] (.op .lenL [.v 3] (.loop 2 [.c (.int .i64 0),.c (.int .i64 0)] ir66p1))))
theorem rd66:readFn T SG sigs 3000 sg66 Tryz.f81 an66=some ir66:=by kernel_rfl
def an67:Ann:=(.s none .z (.s none .z (.s none (.s none .z (.b (.l ⟨2,[(0,.junk),(1,.junk),(2,.junk),(3,(.atm (.v 0))),(6,.junk),(9,(.atm (.v 1)))],[],1,[]⟩ .z))) .z)))
def ir67p0:IR:=(.op (.bin .lss false) [.v 5,.v 3] (.ite (.v 6) (.op (.row 3) [.v 2,.v 5] (.call 67 1 false [] [.v 7,.v 8,.v 9] (.op (.bin .add false) [.v 4,.v 10] (.op (.bin .add false) [.v 5,.c (.int .i64 1)] (.jump 0 [.v 11,.v 12]))))) (.ret [.v 4])))
def ir67:IR:=(.op .lenL [.v 2] (.loop 2 [.c (.int .i64 1),.c (.int .i64 0)] ir67p0))
theorem rd67:readFn T SG sigs 3000 sg67 Tryz.f83 an67=some ir67:=by kernel_rfl
def an68:Ann:=(.s none .z (.s none .z (.s none (.s none .z (.b (.l ⟨2,[(0,.junk),(1,.junk),(2,.junk),(3,(.atm (.v 0))),(6,.junk),(9,(.atm (.v 1)))],[],1,[]⟩ .z))) .z)))
def ir68p0:IR:=(.op (.bin .lss false) [.v 5,.v 3] (.ite (.v 6) (.op (.row 3) [.v 2,.v 5] (.call 68 1 false [] [.v 7,.v 8,.v 9] (.op (.bin .add false) [.c (.int .i64 1),.v 10] (.op .max [.v 4,.v 11] (.op (.bin .add false) [.v 5,.c (.int .i64 1)] (.jump 0 [.v 12,.v 13])))))) (.ret [.v 4])))
def ir68:IR:=(.op .lenL [.v 2] (.loop 2 [.c (.int .i64 0),.c (.int .i64 0)] ir68p0))
theorem rd68:readFn T SG sigs 3000 sg68 Tryz.f84 an68=some ir68:=by kernel_rfl
def an69:Ann:=(.s none .z (.s none .z (.s none (.s none .z (.b (.l ⟨1,[(0,.junk),(2,.junk),(4,.junk),(7,.junk),(8,.junk),(9,.junk),(10,.junk),(11,.junk),(14,(.atm (.v 0)))],[],1,[]⟩ .z))) .z)))
def ir69p0:IR:=(.op (.bin .lss false) [.v 6,.v 5] (.ite (.v 7) (.op (.row 3) [.v 2,.v 6] (.call 69 1 false [] [.v 8,.v 9,.v 10] (.op (.un .not) [.v 11] (.ite (.v 12) (.ret [.c (.bool false)]) (.op (.bin .add false) [.v 6,.c (.int .i64 1)] (.jump 0 [.v 13])))))) (.ret [.c (.bool true)])))
def ir69:IR:=(.call 80 1 false [] [.v 0,.v 1,.v 2] (.op (.un .not) [.v 3] (.ite (.v 4) (.ret [.c (.bool false)]) (.op .lenL [.v 2] (.loop 1 [.c (.int .i64 0)] ir69p0)))))
theorem rd69:readFn T SG sigs 3000 sg69 Tryz.f85 an69=some ir69:=by kernel_rfl
def an70:Ann:=(.s none .z (.s none .z (.s none (.s none .z (.b (.l ⟨1,[(0,.junk),(2,.junk),(4,.junk),(7,.junk),(8,.junk),(9,.junk),(10,.junk),(11,.junk),(14,(.atm (.v 0)))],[],1,[]⟩ .z))) .z)))
def ir70p0:IR:=(.op (.bin .lss false) [.v 6,.v 5] (.ite (.v 7) (.op (.row 3) [.v 2,.v 6] (.call 70 1 false [] [.v 8,.v 9,.v 10] (.op (.un .not) [.v 11] (.ite (.v 12) (.ret [.c (.bool false)]) (.op (.bin .add false) [.v 6,.c (.int .i64 1)] (.jump 0 [.v 13])))))) (.ret [.c (.bool true)])))
def ir70:IR:=(.call 81 1 false [] [.v 0,.v 1,.v 2] (.op (.un .not) [.v 3] (.ite (.v 4) (.ret [.c (.bool false)]) (.op .lenL [.v 2] (.loop 1 [.c (.int .i64 0)] ir70p0)))))
theorem rd70:readFn T SG sigs 3000 sg70 Tryz.f85 an70=some ir70:=by kernel_rfl
def an71:Ann:=(.s none .z (.s none (.s none .z (.b (.l ⟨1,[(4,.junk),(6,.junk),(8,(.atm (.v 0)))],[],0,[]⟩ .z))) .z))
def ir71p0:IR:=(.op (.bin .lss false) [.v 3,.v 2] (.ite (.v 4) (.op (.row 1) [.v 0,.v 3] (.op (.bin .eql false) [.v 1,.v 5] (.ite (.v 6) (.ret [.v 3]) (.op (.bin .add false) [.v 3,.c (.int .i64 1)] (.jump 0 [.v 7]))))) (.ret [.c (.int .i64 (-1))])))
def ir71:IR:=(.op .lenL [.v 0] (.loop 1 [.c (.int .i64 0)] ir71p0))
theorem rd71:readFn T SG sigs 3000 sg71 Tryz.f91 an71=some ir71:=by kernel_rfl
def an72:Ann:=(.s none .z (.s none .z (.s none (.s none .z (.b (.l ⟨2,[(2,.junk),(3,(.atm (.v 0))),(5,(.atm (.v 1)))],[],0,[]⟩ .z))) .z)))
def ir72p0:IR:=(.op (.bin .lss false) [.v 2,.c (.int .i64 64)] (.ite (.v 3) (.op (.bin .shr false) [.v 2,.v 0] (.op (.bin .and false) [.v 4,.c (.int .i64 1)] (.op (.conv .u64) [.v 5] (.op (.bin .shl false) [.v 6,.v 2] (.op (.bin .or false) [.v 1,.v 7] (.op (.bin .add false) [.v 2,.c (.int .i64 1)] (.jump 0 [.v 8,.v 9]))))))) (.ret [.v 1])))
def ir72:IR:=(.loop 2 [.c (.int .u64 0),.c (.int .i64 0)] ir72p0)
theorem rd72:readFn T SG sigs 3000 sg72 Tryz.f92 an72=some ir72:=by kernel_rfl
def an73:Ann:=.z
def ir73:IR:=(.op (.bin .geq false) [.v 0,.c (.int .i64 1)] (.ite (.v 1) (.op (.bin .leq false) [.v 0,.c (.int .i64 3)] (.ret [.v 2])) (.ret [.c (.bool false)])))
theorem rd73:readFn T SG sigs 3000 sg73 Tryz.f118 an73=some ir73:=by kernel_rfl
def an74:Ann:=(.s none .z (.s none .z (.s none (.b (.s (some ⟨1,[(0,.junk),(10,.junk),(12,.junk),(13,.junk),(14,.junk),(15,.junk),(16,.junk),(17,.junk),(18,.junk),(19,(.atm (.v 0)))],[],1,[]⟩) .z (.c .z (.s none .z (.c .z (.s none .z (.c .z (.s (some ⟨1,[(1,.junk),(2,.junk),(3,.junk),(4,.junk),(5,.junk),(19,.junk),(34,.junk),(35,.junk),(36,.junk),(38,.junk),(39,.junk),(40,.junk),(41,.junk),(42,(.atm (.v 0)))],[],1,[]⟩) .z .z)))))))) .z)))
def ir74p0:IR:=(.ite (.v 12) (.op (.bin .add false) [.v 8,.c (.int .i64 1)] (.ret [.v 13])) (.ret [.v 8]))
def ir74p1:IR:=(.ite (.v 9) (.op .lenL [.v 1] (.op (.bin .add false) [.v 10,.c (.int .i64 1)] (.op (.bin .mul false) [.c (.int .i64 3),.v 11] (.op (.bin .sub false) [.v 8,.v 12] (.ret [.v 13]))))) (.op (.bin .eql false) [.v 5,.c (.int .i64 2)] (.ite (.v 10) (.ret [.v 8]) (.call 82 1 false [] [.v 4,.v 2] (.ite (.v 11) (.ret [.c (.int .i64 0)]) (.letj 1 (.op (.bin .eql false) [.v 5,.c (.int .i64 3)] (.ite (.v 12) (.call 82 1 false [] [.v 3,.v 2] (.ite (.v 13) (.op (.un .not) [.c (.bool true)] (.jump 0 [.c (.bool false)])) (.op (.un .not) [.c (.bool false)] (.jump 0 [.c (.bool true)])))) (.jump 0 [.c (.bool false)]))) ir74p0))))))
def ir74:IR:=(.op (.row 1) [.v 1,.v 2] (.op (.bin .add false) [.v 6,.c (.int .i64 1)] (.op (.bin .mul false) [.c (.int .i64 3),.v 7] (.letj 1 (.op (.bin .eql false) [.v 5,.c (.int .i64 2)] (.ite (.v 9) (.call 82 1 false [] [.v 3,.v 2] (.jump 0 [.v 10])) (.jump 0 [.c (.bool false)]))) ir74p1))))
theorem rd74:readFn T SG sigs 3000 sg74 Tryz.f119 an74=some ir74:=by kernel_rfl
def an75:Ann:=(.s none .z (.s none (.s none .z (.b (.l ⟨1,[(4,.junk),(6,.junk),(8,(.atm (.v 0)))],[],0,[]⟩ .z))) .z))
def ir75p0:IR:=(.op (.bin .lss false) [.v 3,.v 2] (.ite (.v 4) (.op (.row 1) [.v 0,.v 3] (.op (.bin .eql true) [.v 1,.v 5] (.ite (.v 6) (.ret [.v 3]) (.op (.bin .add false) [.v 3,.c (.int .i64 1)] (.jump 0 [.v 7]))))) (.ret [.c (.int .i64 (-1))])))
def ir75:IR:=(.op .lenL [.v 0] (.loop 1 [.c (.int .i64 0)] ir75p0))
theorem rd75:readFn T SG sigs 3000 sg75 Tryz.f130 an75=some ir75:=by kernel_rfl
def an76:Ann:=.z
def ir76:IR:=(.op (.bin .shr false) [.v 0,.c (.int .u64 1)] (.op (.bin .and false) [.v 1,.c (.int .u64 6148914691236517205)] (.op (.bin .and false) [.v 0,.c (.int .u64 6148914691236517205)] (.op (.bin .add false) [.v 2,.v 3] (.op (.bin .shr false) [.v 4,.c (.int .u64 2)] (.op (.bin .and false) [.v 5,.c (.int .u64 3689348814741910323)] (.op (.bin .and false) [.v 4,.c (.int .u64 3689348814741910323)] (.op (.bin .add false) [.v 6,.v 7] (.op (.bin .shr false) [.v 8,.c (.int .u64 4)] (.op (.bin .add false) [.v 9,.v 8] (.op (.bin .and false) [.v 10,.c (.int .u64 1085102592571150095)] (.op (.bin .shr false) [.v 11,.c (.int .u64 8)] (.op (.bin .add false) [.v 11,.v 12] (.op (.bin .shr false) [.v 13,.c (.int .u64 16)] (.op (.bin .add false) [.v 13,.v 14] (.op (.bin .shr false) [.v 15,.c (.int .u64 32)] (.op (.bin .add false) [.v 15,.v 16] (.op (.conv .i64) [.v 17] (.op (.bin .and false) [.v 18,.c (.int .i64 127)] (.ret [.v 19]))))))))))))))))))))
theorem rd76:readFn T SG sigs 3000 sg76 Tryz.f75 an76=some ir76:=by kernel_rfl
def an77:Ann:=(.s none .z (.s none (.s none .z (.b (.l ⟨1,[(4,.junk),(6,.junk),(8,(.atm (.v 0)))],[],0,[]⟩ .z))) .z))
def ir77p0:IR:=(.op (.bin .lss false) [.v 3,.v 2] (.ite (.v 4) (.op (.row 1) [.v 0,.v 3] (.op (.bin .eql false) [.v 1,.v 5] (.ite (.v 6) (.ret [.v 3]) (.op (.bin .add false) [.v 3,.c (.int .i64 1)] (.jump 0 [.v 7]))))) (.ret [.c (.int .i64 (-1))])))
def ir77:IR:=(.op .lenL [.v 0] (.loop 1 [.c (.int .i64 0)] ir77p0))
theorem rd77:readFn T SG sigs 3000 sg77 Tryz.f131 an77=some ir77:=by kernel_rfl
def an78:Ann:=(.s none .z (.s none .z (.s none (.s none .z (.b (.l ⟨2,[(0,.junk),(1,.junk),(8,.junk),(9,(.atm (.v 0))),(13,.junk),(14,.junk),(17,(.atm (.v 1)))],[],0,[]⟩ (.s none .z (.s none .z (.s none (.b (.s none .z (.s none .z (.s (some ⟨1,[(11,.junk),(12,(.atm (.v 0))),(18,.junk),(19,.junk),(20,.junk),(21,.junk),(22,.junk),(23,.junk)],[],0,[]⟩) .z .z)))) .z)))))) .z)))
def ir78p0:IR:=(.op .min [.v 6,.v 11] (.op (.bin .add false) [.v 7,.c (.int .i64 1)] (.jump 0 [.v 12,.v 13])))
def ir78p1:IR:=(.op (.bin .lss false) [.v 7,.v 5] (.ite (.v 8) (.op (.row 1) [.v 4,.v 7] (.call 83 1 false [] [.v 9,.v 2] (.letj 1 (.op (.bin .eql false) [.v 3,.c (.int .i64 4)] (.ite (.v 11) (.op .min [.v 10,.c (.int .i64 1)] (.jump 1 [.v 12])) (.jump 1 [.v 10]))) ir78p0))) (.ret [.v 6])))
def ir78:IR:=(.call 43 1 false [] [.v 0,.v 1] (.op .lenL [.v 4] (.loop 2 [.c (.int .i64 7),.c (.int .i64 0)] ir78p1)))
theorem rd78:readFn T SG sigs 3000 sg78 Tryz.f133 an78=some ir78:=by kernel_rfl
def an80:Ann:=(.s none .z (.s none .z (.s none (.s none .z (.b (.s (some ⟨1,[(0,.junk),(1,.junk),(2,.junk),(4,.junk),(5,.junk),(6,.junk),(7,.junk),(9,(.atm (.v 0)))],[],1,[]⟩) .z (.c .z (.s none .z (.c .z (.s (some ⟨1,[(9,.junk),(15,.junk),(16,.junk),(19,(.atm (.v 0)))],[],1,[]⟩) .z (.c .z (.s (some ⟨1,[(8,.junk),(19,.junk),(28,(.atm (.v 0)))],[],1,[]⟩) .z .z))))))))) .z)))
def ir80p0:IR:=(.ite (.v 7) (.op (.bin .eql false) [.v 3,.c (.int .i64 2)] (.ret [.v 8])) (.ret [.c (.bool false)]))
def ir80p1:IR:=(.ite (.v 6) (.op (.bin .geq false) [.v 3,.c (.int .i64 2)] (.ite (.v 7) (.op (.bin .leq false) [.v 3,.c (.int .i64 6)] (.ret [.v 8])) (.ret [.c (.bool false)]))) (.letj 1 (.op (.bin .eql false) [.v 0,.c (.int .i64 7)] (.ite (.v 7) (.jump 0 [.c (.bool true)]) (.op (.bin .eql false) [.v 0,.c (.int .i64 8)] (.jump 0 [.v 8])))) ir80p0))
def ir80p2:IR:=(.ite (.v 4) (.op (.bin .eql false) [.v 3,.c (.int .i64 0)] (.ret [.v 5])) (.op (.bin .eql false) [.v 0,.c (.int .i64 4)] (.ite (.v 5) (.op (.bin .eql false) [.v 3,.c (.int .i64 1)] (.ret [.v 6])) (.letj 1 (.op (.bin .eql false) [.v 0,.c (.int .i64 5)] (.ite (.v 6) (.jump 0 [.c (.bool true)]) (.op (.bin .eql false) [.v 0,.c (.int .i64 6)] (.jump 0 [.v 7])))) ir80p1))))
def ir80:IR:=(.op .lenL [.v 2] (.letj 1 (.op (.bin .eql false) [.v 0,.c (.int .i64 1)] (.ite (.v 4) (.jump 0 [.c (.bool true)]) (.op (.bin .eql false) [.v 0,.c (.int .i64 2)] (.ite (.v 5) (.jump 0 [.c (.bool true)]) (.op (.bin .eql false) [.v 0,.c (.int .i64 3)] (.jump 0 [.v 6])))))) ir80p2))
theorem rd80:readFn T SG sigs 3000 sg80 Tryz.f86 an80=some ir80:=by kernel_rfl
def an81:Ann:=.z
def ir81:IR:=(.op (.bin .eql false) [.v 0,.c (.int .i64 3)] (.ite (.v 3) (.call 34 1 false [] [.v 1] (.ret [.v 4])) (.op (.bin .eql false) [.v 1,.c (.str [])] (.ret [.v 4]))))
theorem rd81:readFn T SG sigs 3000 sg81 Tryz.f87 an81=some ir81:=by kernel_rfl
def an82:Ann:=.z
def ir82:IR:=(.op (.conv .u64) [.v 1] (.op (.bin .shr false) [.v 0,.v 2] (.op (.bin .and false) [.v 3,.c (.int .u64 1)] (.op (.bin .eql false) [.v 4,.c (.int .u64 1)] (.ret [.v 5])))))
theorem rd82:readFn T SG sigs 3000 sg82 Tryz.f139 an82=some ir82:=by kernel_rfl
def an83:Ann:=.z
def ir83:IR:=(.call 60 1 false [] [.v 0,.v 1] (.call 76 1 false [] [.v 2] (.ret [.v 3])))
theorem rd83:readFn T SG sigs 3000 sg83 Tryz.f145 an83=some ir83:=by kernel_rfl
end Go.Proofs.YtoalfckdmoahoaaGreatDoor

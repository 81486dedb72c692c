/- What functions of the program compute: lemmas. -/
import Derived.Test.YtojkhlijbpmgpaaGreatAmSe21
import Derived.Test.YtojkhlijbpmgpaaGreatProg
import Derived.KernelRfl
set_option linter.unusedSimpArgs false
set_option linter.unusedVariables false
set_option linter.unusedSectionVars false
namespace Go.Proofs.YtojkhlijbpmgpaaGreat
open Go Am
set_option maxRecDepth 100000
abbrev fnD (f : Nat) : D := .raw (.func (.func f) #[] #[])
def T : Tab := [
 (3,⟨1,8,true,true,false,none,none,(some .i64),false,false,(some (.int .i64 0)),[],none⟩),
 (4,⟨1,1,true,true,false,none,none,none,false,true,(some (.bool false)),[],none⟩),
 (5,⟨1,1,true,true,false,none,none,(some .u8),false,false,(some (.int .u8 0)),[],none⟩),
 (9,⟨1,16,true,true,false,none,none,none,true,false,(some (.string ⟨⟨[]⟩⟩)),[],none⟩),
 (22,⟨1,24,true,true,false,(some 3),none,none,false,false,(some (.slice none 0 0)),[],none⟩),
 (23,⟨1,8,true,true,false,none,none,none,false,false,(some (.pointer none)),[],none⟩),
 (26,⟨1,24,true,true,false,(some 9),none,none,false,false,(some (.slice none 0 0)),[],none⟩),
 (28,⟨2,48,true,true,true,none,none,none,false,false,(some (.agg #[(.slice none 0 0),(.slice none 0 0)])),[(0,26),(1,22)],(some [(0,1),(1,1)])⟩),
 (30,⟨1,8,true,true,false,none,none,(some .u64),false,false,(some (.int .u64 0)),[],none⟩),
 (34,⟨1,8,true,true,false,none,none,(some .i64),false,false,(some (.int .i64 0)),[],none⟩),
 (37,⟨1,24,true,true,false,(some 39),none,none,false,false,(some (.slice none 0 0)),[],none⟩),
 (39,⟨3,48,true,true,true,none,none,none,false,false,(some (.agg #[(.int .i64 0),(.string ⟨⟨[]⟩⟩),(.slice none 0 0)])),[(0,3),(1,9),(2,37)],(some [(0,1),(1,1),(2,1)])⟩),
 (52,⟨1,8,true,true,false,none,none,none,false,false,(some .nilFunc),[],none⟩),
 (53,⟨1,24,true,true,false,(some 28),none,none,false,false,(some (.slice none 0 0)),[],none⟩),
 (54,⟨1,24,true,true,false,(some 37),none,none,false,false,(some (.slice none 0 0)),[],none⟩),
 (66,⟨6,96,true,true,true,none,none,none,false,false,(some (.agg #[(.int .i64 0),(.string ⟨⟨[]⟩⟩),(.slice none 0 0),(.int .i64 0),(.string ⟨⟨[]⟩⟩),(.slice none 0 0)])),[(0,39),(3,39)],(some [(0,3),(3,3)])⟩),
 (68,⟨1,24,true,true,false,(some 66),none,none,false,false,(some (.slice none 0 0)),[],none⟩),
 (80,⟨1,24,true,true,false,(some 26),none,none,false,false,(some (.slice none 0 0)),[],none⟩),
 (94,⟨1,8,true,true,false,none,none,(some .u64),false,false,(some (.int .u64 0)),[],none⟩),
 (96,⟨2,32,true,true,true,none,none,none,false,false,(some (.agg #[(.slice none 0 0),(.int .i64 0)])),[(0,22),(1,3)],(some [(0,1),(1,1)])⟩),
 (117,⟨1,24,true,true,false,(some 5),none,none,false,false,(some (.slice none 0 0)),[],none⟩),
 (122,⟨1,24,true,true,false,(some 127),none,none,false,false,(some (.slice none 0 0)),[],none⟩),
 (127,⟨2,16,true,true,true,none,none,none,false,false,(some (.agg #[(.int .u64 0),(.int .u64 0)])),[(0,30),(1,30)],(some [(0,1),(1,1)])⟩),
 (130,⟨1,24,true,true,false,(some 4),none,none,false,false,(some (.slice none 0 0)),[],none⟩),
 (139,⟨1,24,true,true,false,(some 30),none,none,false,false,(some (.slice none 0 0)),[],none⟩),
 (156,⟨1,8,true,true,false,none,none,none,false,false,(some .nilFunc),[],none⟩)]
theorem tok : TOK Tryz.prog T := tok_of (by kernel_rfl)
def SG : SGlob := []
def sg0 : Sig := ⟨12,4,[],[(.agg [.atm (.v 0),.atm (.v 1)]),.atm (.v 2),.atm (.v 3)],1,[],.atm (.v 0),false,[]⟩
def sg1 : Sig := ⟨52,1,[],[.atm (.v 0)],1,[],.atm (.v 0),false,[]⟩
def sg2 : Sig := ⟨42,0,[],[],1,[],.atm (.v 0),false,[]⟩
def sg3 : Sig := ⟨15,1,[],[.atm (.v 0)],2,[⟨false,false,96,2,.c (.sl []),[[.atm (.v 0),.atm (.v 1)]]⟩],.ptr 0 0 0,false,[]⟩
def sg4 : Sig := ⟨16,4,[⟨false,false,96,2,.c (.sl []),[[.atm (.v 2),.atm (.v 3)]]⟩],[.ptr 0 0 0,.atm (.v 0),.atm (.v 1)],3,[⟨false,false,96,2,.c (.sl []),[[.atm (.v 1),.atm (.v 2)]]⟩],.atm (.v 0),false,[]⟩
def sg5 : Sig := ⟨17,3,[⟨false,false,96,2,.c (.sl []),[[.atm (.v 1),.atm (.v 2)]]⟩],[.ptr 0 0 0,.atm (.v 0)],4,[⟨false,false,96,2,.c (.sl []),[[.atm (.v 2),.atm (.v 3)]]⟩],(.agg [.atm (.v 0),.atm (.v 1)]),true,[]⟩
def sg6 : Sig := ⟨53,4,[⟨false,false,96,2,.c (.sl []),[[.atm (.v 2),.atm (.v 3)]]⟩],[.ptr 0 0 0,.atm (.v 0),.atm (.v 1)],3,[⟨false,false,96,2,.c (.sl []),[[.atm (.v 1),.atm (.v 2)]]⟩],.atm (.v 0),true,[]⟩
def sg7 : Sig := ⟨47,1,[],[.atm (.v 0)],1,[],.atm (.v 0),true,[]⟩
def sg8 : Sig := ⟨54,2,[],[.atm (.v 0),.atm (.v 1)],3,[],(.tup [(.agg [.atm (.v 0),.atm (.v 1)]),.atm (.v 2)]),true,[]⟩
def sg9 : Sig := ⟨55,2,[],[.atm (.v 0),.atm (.v 1)],3,[],(.tup [(.agg [.atm (.v 0),.atm (.v 1)]),.atm (.v 2)]),true,[]⟩
def sg10 : Sig := ⟨24,4,[],[(.agg [.atm (.v 0),.atm (.v 1)]),(.agg [.atm (.v 2),.atm (.v 3)])],1,[],.atm (.v 0),false,[]⟩
def sg11 : Sig := ⟨56,2,[],[(.agg [.atm (.v 0),.atm (.v 1)])],2,[],(.tup [.atm (.v 0),.atm (.v 1)]),true,[]⟩
def sg12 : Sig := ⟨57,2,[],[(.agg [.atm (.v 0),.atm (.v 1)])],2,[],(.tup [.atm (.v 0),.atm (.v 1)]),true,[]⟩
def sg13 : Sig := ⟨58,2,[],[.atm (.v 0),.atm (.v 1)],1,[],.atm (.v 0),false,[]⟩
def sg14 : Sig := ⟨35,4,[⟨false,false,96,2,.c (.sl []),[[.atm (.v 2),.atm (.v 3)]]⟩],[.ptr 0 0 0,.atm (.v 0),.atm (.v 1)],5,[⟨false,false,96,2,.c (.sl []),[[.atm (.v 3),.atm (.v 4)]]⟩],(.agg [.atm (.v 0),.atm (.v 1),.atm (.v 2)]),true,[]⟩
def sg15 : Sig := ⟨36,5,[],[(.agg [.atm (.v 0),.atm (.v 1)]),(.agg [.atm (.v 2),.atm (.v 3),.atm (.v 4)])],2,[],(.tup [.atm (.v 0),.atm (.v 1)]),false,[]⟩
def sg16 : Sig := ⟨59,5,[],[(.agg [.atm (.v 0),.atm (.v 1)]),(.agg [.atm (.v 2),.atm (.v 3),.atm (.v 4)])],2,[],(.tup [.atm (.v 0),.atm (.v 1)]),false,[]⟩
def sg17 : Sig := ⟨32,3,[],[(.agg [.atm (.v 0),.atm (.v 1),.atm (.v 2)])],1,[],.atm (.v 0),false,[]⟩
def sg18 : Sig := ⟨94,1,[],[.atm (.v 0)],3,[],(.agg [.atm (.v 0),.atm (.v 1),.atm (.v 2)]),true,[]⟩
def sg19 : Sig := ⟨43,3,[],[(.agg [.atm (.v 0),.atm (.v 1),.atm (.v 2)])],3,[],(.agg [.atm (.v 0),.atm (.v 1),.atm (.v 2)]),true,[]⟩
def sg20 : Sig := ⟨37,6,[],[(.agg [.atm (.v 0),.atm (.v 1),.atm (.v 2)]),(.agg [.atm (.v 3),.atm (.v 4),.atm (.v 5)])],3,[],(.agg [.atm (.v 0),.atm (.v 1),.atm (.v 2)]),true,[]⟩
def sg21 : Sig := ⟨60,2,[],[.atm (.v 0),.atm (.v 1)],2,[],(.tup [.atm (.v 0),.atm (.v 1)]),true,[]⟩
def sg22 : Sig := ⟨51,2,[],[.atm (.v 0),.atm (.v 1)],1,[],.atm (.v 0),false,[]⟩
def sg23 : Sig := ⟨67,3,[⟨false,false,96,2,.c (.sl []),[[.atm (.v 1),.atm (.v 2)]]⟩],[.ptr 0 0 0,.atm (.v 0)],3,[⟨false,false,96,2,.c (.sl []),[[.atm (.v 1),.atm (.v 2)]]⟩],.atm (.v 0),false,[]⟩
def sg24 : Sig := ⟨68,2,[],[.atm (.v 0),.atm (.v 1)],3,[],(.tup [(.agg [.atm (.v 0),.atm (.v 1)]),.atm (.v 2)]),true,[]⟩
def sg25 : Sig := ⟨105,1,[],[.atm (.v 0)],1,[],.atm (.v 0),false,[]⟩
def sg26 : Sig := ⟨106,1,[],[.atm (.v 0)],1,[⟨false,false,37,1,.c (.sl []),[[.atm (.v 0)]]⟩],(.clo 148 [] [.ptr 0 0 0]),false,[]⟩
def sg27 : Sig := ⟨73,4,[],[.atm (.v 0),(.agg [.atm (.v 1),.atm (.v 2),.atm (.v 3)])],2,[],(.tup [.atm (.v 0),.atm (.v 1)]),false,[]⟩
def sg28 : Sig := ⟨95,2,[],[.atm (.v 0),.atm (.v 1)],1,[],.atm (.v 0),false,[]⟩
def sg29 : Sig := ⟨93,2,[],[.atm (.v 0),.atm (.v 1)],1,[],.atm (.v 0),false,[]⟩
def sg30 : Sig := ⟨81,2,[],[.atm (.v 0),.atm (.v 1)],3,[],(.tup [(.agg [.atm (.v 0),.atm (.v 1)]),.atm (.v 2)]),true,[]⟩
def sg31 : Sig := ⟨107,2,[],[.atm (.v 0),.atm (.v 1)],2,[],(.tup [.atm (.v 0),.atm (.v 1)]),true,[]⟩
def sg32 : Sig := ⟨108,2,[],[.atm (.v 0),.atm (.v 1)],1,[],.atm (.v 0),false,[]⟩
def sg33 : Sig := ⟨76,2,[],[.atm (.v 0),.atm (.v 1)],1,[],.atm (.v 0),false,[]⟩
def sg34 : Sig := ⟨91,2,[],[(.agg [.atm (.v 0),.atm (.v 1)])],1,[],.atm (.v 0),false,[]⟩
def sg35 : Sig := ⟨109,2,[],[(.agg [.atm (.v 0),.atm (.v 1)])],1,[],.atm (.v 0),true,[]⟩
def sg36 : Sig := ⟨110,2,[],[.atm (.v 0),.atm (.v 1)],4,[],(.tup [(.agg [.atm (.v 0),.atm (.v 1),.atm (.v 2)]),.atm (.v 3)]),true,[]⟩
def sg37 : Sig := ⟨111,1,[⟨false,true,39,3,.v 0,[]⟩],[.own 0],1,[⟨false,true,39,3,.v 0,[]⟩],(.tup []),false,[0]⟩
def sg38 : Sig := ⟨77,2,[],[(.agg [.atm (.v 0),.atm (.v 1)])],1,[],.atm (.v 0),false,[]⟩
def sg39 : Sig := ⟨41,2,[],[(.agg [.atm (.v 0),.atm (.v 1)])],1,[],.atm (.v 0),false,[]⟩
def sg40 : Sig := ⟨112,4,[],[(.agg [.atm (.v 0),.atm (.v 1)]),.atm (.v 2),.atm (.v 3)],1,[],.atm (.v 0),false,[]⟩
def sg41 : Sig := ⟨66,2,[],[.atm (.v 0),.atm (.v 1)],4,[],(.tup [(.agg [.atm (.v 0),.atm (.v 1),.atm (.v 2)]),.atm (.v 3)]),true,[]⟩
def sg42 : Sig := ⟨65,6,[],[(.agg [.atm (.v 0),.atm (.v 1),.atm (.v 2)]),(.agg [.atm (.v 3),.atm (.v 4),.atm (.v 5)])],1,[],.atm (.v 0),false,[]⟩
def sg43 : Sig := ⟨92,1,[],[.atm (.v 0)],1,[],.atm (.v 0),false,[]⟩
def sg44 : Sig := ⟨29,4,[],[.atm (.v 0),(.agg [.atm (.v 1),.atm (.v 2),.atm (.v 3)])],2,[],(.tup [.atm (.v 0),.atm (.v 1)]),false,[]⟩
def sg45 : Sig := ⟨88,4,[],[(.agg [.atm (.v 0),.atm (.v 1),.atm (.v 2)]),.atm (.v 3)],1,[],.atm (.v 0),false,[]⟩
def sg46 : Sig := ⟨89,4,[],[(.agg [.atm (.v 0),.atm (.v 1),.atm (.v 2)]),.atm (.v 3)],1,[],.atm (.v 0),false,[]⟩
def sg47 : Sig := ⟨90,3,[],[(.agg [.atm (.v 0),.atm (.v 1),.atm (.v 2)])],1,[],.atm (.v 0),false,[]⟩
def sg48 : Sig := ⟨97,2,[],[.atm (.v 0),.atm (.v 1)],2,[],(.tup [.atm (.v 0),.atm (.v 1)]),true,[]⟩
def sg49 : Sig := ⟨98,1,[],[.atm (.v 0)],2,[],(.tup [.atm (.v 0),.atm (.v 1)]),true,[]⟩
def sg50 : Sig := ⟨71,2,[⟨false,false,96,2,.c (.sl []),[[.atm (.v 0),.atm (.v 1)]]⟩],[.ptr 0 0 0],3,[⟨false,false,96,2,.c (.sl []),[[.atm (.v 1),.atm (.v 2)]]⟩],.atm (.v 0),false,[]⟩
def sg51 : Sig := ⟨115,2,[],[.atm (.v 0),.atm (.v 1)],1,[],.atm (.v 0),false,[]⟩
def sg52 : Sig := ⟨69,1,[],[.atm (.v 0)],1,[],.atm (.v 0),false,[]⟩
def sg53 : Sig := ⟨116,2,[],[.atm (.v 0),.atm (.v 1)],1,[],.atm (.v 0),false,[]⟩
def sg54 : Sig := ⟨147,1,[],[.atm (.v 0)],1,[],.atm (.v 0),false,[]⟩
def sg55 : Sig := ⟨119,3,[],[(.agg [.atm (.v 0),.atm (.v 1),.atm (.v 2)])],1,[],.atm (.v 0),false,[]⟩
def sg56 : Sig := ⟨120,3,[],[(.agg [.atm (.v 0),.atm (.v 1),.atm (.v 2)])],1,[],.atm (.v 0),true,[]⟩
def sg57 : Sig := ⟨121,2,[],[.atm (.v 0),.atm (.v 1)],1,[],.atm (.v 0),false,[]⟩
def sg58 : Sig := ⟨122,4,[],[.atm (.v 0),(.agg [.atm (.v 1),.atm (.v 2),.atm (.v 3)])],1,[],.atm (.v 0),false,[]⟩
def sg59 : Sig := ⟨87,1,[],[.atm (.v 0)],1,[],.atm (.v 0),false,[]⟩
def sg60 : Sig := ⟨126,1,[],[.atm (.v 0)],1,[⟨false,false,22,1,.c (.sl []),[[.atm (.v 0)]]⟩],(.clo 165 [] [.ptr 0 0 0]),false,[]⟩
def sg61 : Sig := ⟨125,1,[⟨false,false,22,1,.c (.sl []),[[.atm (.v 0)]]⟩],[(.clo 165 [] [.ptr 0 0 0])],2,[⟨false,false,22,1,.c (.sl []),[[.atm (.v 1)]]⟩,⟨false,true,3,1,.v 0,[]⟩],.own 1,true,[]⟩
def sg62 : Sig := ⟨124,1,[⟨false,true,3,1,.v 0,[]⟩],[.own 0],2,[⟨true,true,3,1,.v 1,[]⟩],.atm (.v 0),true,[]⟩
def sg63 : Sig := ⟨127,1,[],[.atm (.v 0)],1,[⟨false,true,9,1,.v 0,[]⟩],.own 0,true,[]⟩
def sg64 : Sig := ⟨128,2,[],[.atm (.v 0),.atm (.v 1)],2,[],(.tup [.atm (.v 0),.atm (.v 1)]),false,[]⟩
def sg65 : Sig := ⟨136,2,[],[.atm (.v 0),.atm (.v 1)],1,[],.atm (.v 0),false,[]⟩
def sg66 : Sig := ⟨149,2,[],[.atm (.v 0),.atm (.v 1)],3,[],(.agg [.atm (.v 0),.atm (.v 1),.atm (.v 2)]),true,[]⟩
def sg67 : Sig := ⟨114,2,[],[.atm (.v 0),.atm (.v 1)],3,[],(.agg [.atm (.v 0),.atm (.v 1),.atm (.v 2)]),true,[]⟩
def sg68 : Sig := ⟨82,3,[],[(.agg [.atm (.v 0),.atm (.v 1),.atm (.v 2)])],1,[],.atm (.v 0),false,[]⟩
def sg69 : Sig := ⟨83,3,[],[(.agg [.atm (.v 0),.atm (.v 1),.atm (.v 2)])],1,[],.atm (.v 0),true,[]⟩
def sg70 : Sig := ⟨84,2,[],[.atm (.v 0),.atm (.v 1)],1,[],.atm (.v 0),false,[]⟩
def sg71 : Sig := ⟨70,1,[],[.atm (.v 0)],1,[],.atm (.v 0),false,[]⟩
def sg72 : Sig := ⟨86,2,[],[.atm (.v 0),.atm (.v 1)],1,[],.atm (.v 0),true,[]⟩
def sg73 : Sig := ⟨85,4,[],[(.agg [.atm (.v 0),.atm (.v 1),.atm (.v 2)]),.atm (.v 3)],1,[],.atm (.v 0),false,[]⟩
def sg74 : Sig := ⟨137,2,[],[.atm (.v 0),.atm (.v 1)],1,[],.atm (.v 0),false,[]⟩
def sg75 : Sig := ⟨117,1,[],[.atm (.v 0)],1,[],.atm (.v 0),false,[]⟩
def sg76 : Sig := ⟨153,3,[],[(.agg [.atm (.v 0),.atm (.v 1),.atm (.v 2)])],1,[],.atm (.v 0),false,[]⟩
def sg77 : Sig := ⟨154,3,[],[(.agg [.atm (.v 0),.atm (.v 1),.atm (.v 2)])],1,[],.atm (.v 0),false,[]⟩
def sg78 : Sig := ⟨155,3,[],[(.agg [.atm (.v 0),.atm (.v 1),.atm (.v 2)]),(.atm (.c (fnD 156)))],1,[],.atm (.v 0),false,[]⟩
def sg79 : Sig := ⟨155,3,[],[(.agg [.atm (.v 0),.atm (.v 1),.atm (.v 2)]),(.atm (.c (fnD 157)))],1,[],.atm (.v 0),false,[]⟩
def sg80 : Sig := ⟨161,2,[],[.atm (.v 0),.atm (.v 1)],1,[],.atm (.v 0),false,[]⟩
def sg81 : Sig := ⟨162,1,[],[.atm (.v 0)],1,[],.atm (.v 0),false,[]⟩
def sg82 : Sig := ⟨135,1,[],[.atm (.v 0)],1,[],.atm (.v 0),false,[]⟩
def sg83 : Sig := ⟨163,1,[⟨false,false,22,1,.c (.sl []),[[.atm (.v 0)]]⟩],[(.clo 165 [] [.ptr 0 0 0])],2,[⟨false,false,22,1,.c (.sl []),[[.atm (.v 1)]]⟩,⟨false,true,3,1,.v 0,[]⟩],.own 1,true,[]⟩
def sg84 : Sig := ⟨164,1,[⟨false,true,3,1,.v 0,[]⟩],[.own 0],1,[⟨false,true,3,1,.v 0,[]⟩],(.tup []),false,[0]⟩
def sg85 : Sig := ⟨166,2,[],[.atm (.v 0),.atm (.v 1)],1,[],.atm (.v 0),false,[]⟩
def sg86 : Sig := ⟨167,1,[],[.atm (.v 0)],1,[],.atm (.v 0),false,[]⟩
def sg87 : Sig := ⟨169,2,[],[.atm (.v 0),.atm (.v 1)],1,[],.atm (.v 0),false,[]⟩
def sg88 : Sig := ⟨171,1,[],[.atm (.v 0)],2,[],(.tup [.atm (.v 0),.atm (.v 1)]),false,[]⟩
def sg89 : Sig := ⟨172,7,[],[.atm (.v 0),(.agg [.atm (.v 1),.atm (.v 2),.atm (.v 3)]),(.agg [.atm (.v 4),.atm (.v 5),.atm (.v 6)])],3,[],(.agg [.atm (.v 0),.atm (.v 1),.atm (.v 2)]),true,[]⟩
def sg90 : Sig := ⟨18,1,[],[.atm (.v 0)],1,[],.atm (.v 0),false,[]⟩
def sg91 : Sig := ⟨150,3,[],[.atm (.v 0),.atm (.v 1),.atm (.v 2)],1,[],.atm (.v 0),false,[]⟩
def sg92 : Sig := ⟨151,6,[],[(.agg [.atm (.v 0),.atm (.v 1),.atm (.v 2)]),(.agg [.atm (.v 3),.atm (.v 4),.atm (.v 5)])],1,[],.atm (.v 0),false,[]⟩
def sg93 : Sig := ⟨152,7,[],[.atm (.v 0),(.agg [.atm (.v 1),.atm (.v 2),.atm (.v 3)]),(.agg [.atm (.v 4),.atm (.v 5),.atm (.v 6)])],3,[],(.agg [.atm (.v 0),.atm (.v 1),.atm (.v 2)]),true,[]⟩
def sg94 : Sig := ⟨129,3,[],[(.agg [.atm (.v 0),.atm (.v 1),.atm (.v 2)])],1,[],.atm (.v 0),false,[]⟩
def sg95 : Sig := ⟨130,3,[],[(.agg [.atm (.v 0),.atm (.v 1),.atm (.v 2)])],1,[],.atm (.v 0),false,[]⟩
def sg96 : Sig := ⟨131,3,[],[(.agg [.atm (.v 0),.atm (.v 1),.atm (.v 2)])],1,[],.atm (.v 0),false,[]⟩
def sg97 : Sig := ⟨132,3,[],[(.agg [.atm (.v 0),.atm (.v 1),.atm (.v 2)])],1,[],.atm (.v 0),false,[]⟩
def sg98 : Sig := ⟨133,4,[],[.atm (.v 0),(.agg [.atm (.v 1),.atm (.v 2),.atm (.v 3)])],1,[],.atm (.v 0),true,[]⟩
def sg99 : Sig := ⟨134,4,[],[(.agg [.atm (.v 0),.atm (.v 1),.atm (.v 2)]),.atm (.v 3)],1,[],.atm (.v 0),false,[]⟩
def sg100 : Sig := ⟨170,2,[],[.atm (.v 0),.atm (.v 1)],1,[],.atm (.v 0),false,[]⟩
def sg101 : Sig := ⟨156,3,[],[(.agg [.atm (.v 0),.atm (.v 1),.atm (.v 2)])],1,[],.atm (.v 0),false,[]⟩
def sg102 : Sig := ⟨157,3,[],[(.agg [.atm (.v 0),.atm (.v 1),.atm (.v 2)])],1,[],.atm (.v 0),false,[]⟩
def sg103 : Sig := ⟨145,1,[],[.atm (.v 0)],1,[],.atm (.v 0),false,[]⟩
def sg104 : Sig := ⟨173,2,[],[.atm (.v 0),.atm (.v 1)],1,[],.atm (.v 0),false,[]⟩
def sg105 : Sig := ⟨168,2,[],[.atm (.v 0),.atm (.v 1)],1,[],.atm (.v 0),true,[]⟩
def sigs : List Sig := [sg0,sg1,sg2,sg3,sg4,sg5,sg6,sg7,sg8,sg9,sg10,sg11,sg12,sg13,sg14,sg15,sg16,sg17,sg18,sg19,sg20,sg21,sg22,sg23,sg24,sg25,sg26,sg27,sg28,sg29,sg30,sg31,sg32,sg33,sg34,sg35,sg36,sg37,sg38,sg39,sg40,sg41,sg42,sg43,sg44,sg45,sg46,sg47,sg48,sg49,sg50,sg51,sg52,sg53,sg54,sg55,sg56,sg57,sg58,sg59,sg60,sg61,sg62,sg63,sg64,sg65,sg66,sg67,sg68,sg69,sg70,sg71,sg72,sg73,sg74,sg75,sg76,sg77,sg78,sg79,sg80,sg81,sg82,sg83,sg84,sg85,sg86,sg87,sg88,sg89,sg90,sg91,sg92,sg93,sg94,sg95,sg96,sg97,sg98,sg99,sg100,sg101,sg102,sg103,sg104,sg105]
def an0 : Ann := (.s none .z (.s none (.s (some ⟨1,[(0,.junk),(6,.junk),(45,(.atm (.v 0)))],[],1,[]⟩) .z .z) (.s none .z (.s none .z (.s none .z (.s none .z (.s none (.s none .z (.b (.l ⟨1,[(2,.junk),(8,.junk),(45,.junk),(47,.junk),(48,.junk),(49,.junk),(50,.junk),(51,.junk),(52,.junk),(53,.junk),(54,.junk),(55,.junk),(56,.junk),(57,.junk),(58,.junk),(59,.junk),(60,.junk),(61,.junk),(64,(.atm (.v 0)))],[],8,[]⟩ (.s none .z (.s none .z (.s none (.b (.s none .z (.s none .z (.b (.l ⟨1,[(65,.junk),(66,.junk),(67,.junk),(68,.junk),(69,.junk),(72,(.atm (.v 0)))],[],9,[]⟩ (.s none .z (.s none .z (.s none (.b (.s none .z (.s none .z (.s none .z (.s (some ⟨1,[(14,.junk),(15,.junk),(16,.junk),(17,.junk),(18,.junk),(73,.junk),(74,.junk),(75,.junk),(76,.junk),(77,.junk),(78,.junk),(79,.junk),(80,.junk),(81,.junk),(82,.junk),(83,.junk),(84,.junk),(85,.junk),(86,.junk),(87,.junk),(96,(.atm (.v 0)))],[],11,[]⟩) .z .z))))) .z)))))))) .z)))))) (.s none (.s none .z (.b (.l ⟨3,[(3,.junk),(9,.junk),(10,.junk),(62,.junk),(63,.junk),(64,.junk),(65,.junk),(99,.junk),(100,.junk),(103,(.atm (.v 0)))],[(1,⟨false,false,96,2,.c (.sl []),[[.atm (.v 1),.atm (.v 2)]]⟩)],9,[]⟩ (.s none .z (.s none .z (.s none (.b (.s none .z (.s none .z (.s none .z (.s none (.s (some ⟨1,[(21,.junk),(22,.junk),(23,.junk),(24,.junk),(104,.junk),(105,.junk),(106,.junk),(107,.junk),(108,.junk),(109,.junk),(110,.junk),(111,.junk),(112,.junk),(113,.junk),(114,.junk),(115,.junk),(116,.junk),(125,(.atm (.v 0)))],[],10,[]⟩) .z .z) (.s none .z (.b (.l ⟨1,[(125,.junk),(127,.junk),(129,.junk),(130,.junk),(131,.junk),(134,(.atm (.v 0)))],[],12,[]⟩ (.s none .z (.s none .z (.s none (.b (.s none .z (.s none .z (.s none .z (.s (some ⟨1,[(26,.junk),(27,.junk),(28,.junk),(29,.junk),(30,.junk),(135,.junk),(136,.junk),(137,.junk),(138,.junk),(139,.junk),(140,.junk),(141,.junk),(142,.junk),(143,.junk),(144,.junk),(145,.junk),(146,.junk),(147,.junk),(148,.junk),(149,.junk),(157,(.atm (.v 0)))],[],13,[]⟩) .z .z))))) .z))))))))))) .z)))))) .z))))))))
def ir0p0 : IR := (.ite (.v 35) (.ret [.c (.bool false)]) (.op (.bin .add false) [.v 26,.c (.int .i64 1)] (.jump 1 [.v 36])))
def ir0p1 : IR := (.op (.bin .lss false) [.v 26,.v 25] (.ite (.v 27) (.op .chk [.v 24,.v 26] (.op (.get 0 1) [.v 24,.v 26] (.call 8 3 false [] [.v 23,.v 28] (.call 9 3 false [] [.v 23,.v 28] (.letj 1 (.op (.bin .neq false) [.v 31,.v 34] (.ite (.v 35) (.jump 2 [.c (.bool true)]) (.call 10 1 false [] [.v 29,.v 30,.v 32,.v 33] (.op (.un .not) [.v 36] (.jump 2 [.v 37]))))) ir0p0))))) (.op (.bin .add false) [.v 21,.c (.int .i64 1)] (.jump 0 [.v 28]))))
def ir0p2 : IR := (.ite (.v 54) (.ret [.c (.bool false)]) (.op (.bin .add false) [.v 45,.c (.int .i64 1)] (.jump 2 [.v 55])))
def ir0p3 : IR := (.op (.bin .lss false) [.v 45,.v 44] (.ite (.v 46) (.op .chk [.v 43,.v 45] (.op (.get 0 3) [.v 43,.v 45] (.call 15 2 false [] [.v 29,.v 30,.v 47,.v 48,.v 49] (.call 16 2 false [] [.v 29,.v 30,.v 47,.v 48,.v 49] (.letj 1 (.op (.bin .neq false) [.v 50,.v 52] (.ite (.v 54) (.jump 3 [.c (.bool true)]) (.op (.bin .neq false) [.v 51,.v 53] (.jump 3 [.v 55])))) ir0p2))))) (.op (.bin .add false) [.v 25,.c (.int .i64 1)] (.jump 1 [.v 47,.v 40,.v 41]))))
def ir0p4 : IR := (.ite (.v 35) (.ret [.c (.bool false)]) (.op (.app 3 48) [.c (.sl []),.v 2] (.call 14 5 false [] [.c (.int .i64 3),.c (.int .i64 3),.v 26,.v 27] (.op (.mk 3 1) [.v 37,.v 38,.v 39] (.op (.app 3 48) [.v 36,.v 42] (.op .lenL [.v 43] (.loop 1 [.c (.int .i64 0)] ir0p3)))))))
def ir0p5 : IR := (.op (.bin .lss false) [.v 25,.v 24] (.ite (.v 28) (.op .chk [.v 23,.v 25] (.op (.get 0 2) [.v 23,.v 25] (.call 11 2 false [] [.v 29,.v 30] (.call 12 2 false [] [.v 29,.v 30] (.letj 1 (.op (.bin .neq false) [.v 32,.v 34] (.ite (.v 35) (.jump 2 [.c (.bool true)]) (.call 13 1 false [] [.v 31,.v 33] (.op (.un .not) [.v 36] (.jump 2 [.v 37]))))) ir0p4))))) (.call 2 1 false [] [] (.ret [.v 29]))))
def ir0p6 : IR := (.op (.bin .lss false) [.v 21,.v 20] (.ite (.v 22) (.op .chk [.v 19,.v 21] (.op (.get 0 1) [.v 19,.v 21] (.op (.mk 1 2) [.v 2,.v 15] (.op .lenL [.v 24] (.loop 1 [.c (.int .i64 0)] ir0p1))))) (.op (.mk 2 2) [.v 0,.v 1,.v 10,.v 11] (.op .lenL [.v 23] (.loop 3 [.c (.int .i64 0),.v 16,.v 17] ir0p5)))))
def ir0p7 : IR := (.ite (.v 4) (.call 2 1 false [] [] (.ret [.v 5])) (.call 3 2 false [] [.v 3] (.call 4 3 false [] [.c (.int .i64 0),.c (.int .i64 3),.v 5,.v 6] (.call 5 4 false [] [.v 7,.v 8,.v 9] (.op .max [.v 7,.c (.int .i64 1)] (.call 6 3 false [] [.c (.int .i64 4),.v 14,.v 12,.v 13] (.call 7 1 false [] [.v 7] (.op (.mk 1 2) [.v 0,.v 18] (.op .lenL [.v 19] (.loop 1 [.c (.int .i64 0)] ir0p6))))))))))
def ir0 : IR := (.letj 1 (.op .lenL [.v 0] (.op (.bin .gtr false) [.v 4,.c (.int .i64 10)] (.ite (.v 5) (.jump 0 [.c (.bool true)]) (.op .lenL [.v 1] (.op (.bin .gtr false) [.v 6,.c (.int .i64 100)] (.ite (.v 7) (.jump 0 [.c (.bool true)]) (.call 1 1 false [] [.v 2] (.op (.un .not) [.v 8] (.jump 0 [.v 9]))))))))) ir0p7)
theorem rd0 : readFn T SG sigs 3000 sg0 Tryz.f12 an0 = some ir0 := by kernel_rfl
def an1 : Ann := (.s none .z (.s none (.s none .z (.b (.l ⟨1,[(2,.junk),(3,(.atm (.v 0)))],[],0,[]⟩ .z))) .z))
def ir1p0 : IR := (.op .lenL [.v 0] (.op (.bin .lss false) [.v 1,.v 2] (.ite (.v 3) (.op (.row 3) [.v 0,.v 1] (.call 17 1 false [] [.v 4,.v 5,.v 6] (.op (.un .not) [.v 7] (.ite (.v 8) (.ret [.c (.bool false)]) (.op (.bin .add false) [.v 1,.c (.int .i64 1)] (.jump 0 [.v 9])))))) (.op .lenL [.v 0] (.op (.bin .leq false) [.v 4,.c (.int .i64 20)] (.ret [.v 5]))))))
def ir1 : IR := (.loop 1 [.c (.int .i64 0)] ir1p0)
theorem rd1 : readFn T SG sigs 3000 sg1 Tryz.f52 an1 = some ir1 := by kernel_rfl
def an2 : Ann := .z
def ir2 : IR := (.call 7 1 false [] [.c (.int .i64 2)] (.op (.row 1) [.v 0,.c (.int .i64 0)] (.call 18 3 false [] [.v 1] (.op (.row 1) [.v 0,.c (.int .i64 1)] (.call 18 3 false [] [.v 5] (.op (.mk 3 2) [.v 2,.v 3,.v 4,.v 6,.v 7,.v 8] (.call 8 3 false [] [.v 0,.v 9] (.call 19 3 false [] [.v 6,.v 7,.v 8] (.call 20 3 false [] [.v 2,.v 3,.v 4,.v 13,.v 14,.v 15] (.call 19 3 false [] [.v 6,.v 7,.v 8] (.op (.mk 6 2) [.v 2,.v 3,.v 4,.v 6,.v 7,.v 8,.v 16,.v 17,.v 18,.v 19,.v 20,.v 21] (.call 21 2 false [] [.v 0,.v 22] (.op (.bin .eql false) [.v 12,.c (.int .i64 0)] (.ite (.v 25) (.op (.bin .eql false) [.v 24,.c (.int .i64 0)] (.ite (.v 26) (.op (.mk 1 4) [.c (.int .i64 2),.c (.int .i64 1),.c (.int .i64 2),.c (.int .i64 0)] (.call 22 1 true [] [.v 11,.v 27] (.ite (.v 28) (.op (.mk 1 2) [.c (.int .i64 0),.c (.int .i64 1)] (.call 22 1 true [] [.v 23,.v 29] (.ret [.v 30]))) (.ret [.c (.bool false)])))) (.ret [.c (.bool false)]))) (.ret [.c (.bool false)])))))))))))))))
theorem rd2 : readFn T SG sigs 3000 sg2 Tryz.f42 an2 = some ir2 := by kernel_rfl
def an3 : Ann := .z
def ir3 : IR := (.op .lenL [.v 0] (.op .min [.v 1,.c (.int .i64 2000)] (.op (.subL 1) [.v 0,.c (.int .i64 0),.v 2] (.ret [.v 3,.c (.int .i64 0)]))))
theorem rd3 : readFn T SG sigs 3000 sg3 Tryz.f15 an3 = some ir3 := by kernel_rfl
def an4 : Ann := .z
def ir4 : IR := (.op (.bin .sub false) [.v 1,.v 0] (.op (.bin .add false) [.v 4,.c (.int .i64 1)] (.call 23 3 false [] [.v 5,.v 2,.v 3] (.op (.bin .add false) [.v 0,.v 6] (.ret [.v 9,.v 7,.v 8])))))
theorem rd4 : readFn T SG sigs 3000 sg4 Tryz.f16 an4 = some ir4 := by kernel_rfl
def an5 : Ann := (.s none .z (.s none .z (.s none .z (.s none (.s none .z (.b (.l ⟨4,[(7,(.atm (.v 0))),(10,.junk),(11,.junk),(12,.junk),(13,.junk),(14,.junk),(15,.junk)],[(0,⟨false,false,96,2,.c (.sl []),[[.atm (.v 1),.atm (.v 2)]]⟩),(2,⟨false,true,3,1,.v 3,[]⟩)],3,[]⟩ .z))) .z))))
def ir5p0 : IR := (.op .lenL [.v 12] (.op (.bin .lss false) [.v 9,.v 13] (.ite (.v 14) (.call 23 3 false [] [.v 6,.v 10,.v 11] (.op .chk [.v 12,.v 9] (.op (.set 0 1) [.v 12,.v 9,.v 15] (.op (.bin .add false) [.v 9,.c (.int .i64 1)] (.jump 0 [.v 19,.v 16,.v 17,.v 18]))))) (.call 7 1 false [] [.v 0] (.call 24 3 false [] [.v 15,.v 12] (.ret [.v 16,.v 17,.v 10,.v 11]))))))
def ir5 : IR := (.op (.conv .u64) [.v 0] (.op (.bin .shl false) [.c (.int .i64 1),.v 3] (.op (.mkL 8 [(.int .i64 0)]) [.v 4] (.call 4 3 false [] [.c (.int .i64 1),.c (.int .i64 6),.v 1,.v 2] (.loop 4 [.c (.int .i64 0),.v 7,.v 8,.v 5] ir5p0)))))
theorem rd5 : readFn T SG sigs 3000 sg5 Tryz.f17 an5 = some ir5 := by kernel_rfl
def an6 : Ann := (.s none .z (.s none .z (.s none (.s none .z (.b (.l ⟨4,[(1,.junk),(6,.junk),(8,(.atm (.v 0))),(9,.junk),(10,.junk),(11,.junk),(12,.junk)],[(0,⟨false,false,96,2,.c (.sl []),[[.atm (.v 1),.atm (.v 2)]]⟩),(1,⟨false,true,39,3,.v 3,[]⟩)],2,[⟨none,7,39,3⟩]⟩ .z))) .z)))
def ir6p0 : IR := (.op (.bin .gtr false) [.v 8,.c (.int .i64 0)] (.ite (.v 12) (.call 14 5 false [] [.v 1,.c (.int .i64 3),.v 9,.v 10] (.op (.mk 3 1) [.v 13,.v 14,.v 15] (.op (.app 3 48) [.v 11,.v 18] (.op (.bin .sub false) [.v 8,.c (.int .i64 1)] (.jump 0 [.v 20,.v 16,.v 17,.v 19]))))) (.ret [.v 11,.v 9,.v 10])))
def ir6 : IR := (.op (.bin .add false) [.v 0,.c (.int .i64 1)] (.call 23 3 false [] [.v 4,.v 2,.v 3] (.loop 4 [.v 5,.v 6,.v 7,.c (.sl [])] ir6p0)))
theorem rd6 : readFn T SG sigs 3000 sg6 Tryz.f53 an6 = some ir6 := by kernel_rfl
def an7 : Ann := (.s none .z (.s none .z (.s none (.s none .z (.b (.l ⟨2,[(2,.junk),(4,(.atm (.v 0)))],[(0,⟨false,true,9,1,.v 1,[]⟩)],1,[⟨none,3,9,1⟩]⟩ .z))) .z)))
def ir7p0 : IR := (.op (.bin .lss false) [.v 1,.v 0] (.ite (.v 3) (.op (.bin .add false) [.c (.int .i64 97),.v 1] (.op (.conv .u8) [.v 4] (.op (.mk 1 1) [.v 5] (.op .toS [.v 6] (.op (.mk 1 1) [.v 7] (.op (.app 1 16) [.v 2,.v 8] (.op (.bin .add false) [.v 1,.c (.int .i64 1)] (.jump 0 [.v 10,.v 9])))))))) (.ret [.v 2])))
def ir7 : IR := (.loop 2 [.c (.int .i64 0),.c (.sl [])] ir7p0)
theorem rd7 : readFn T SG sigs 3000 sg7 Tryz.f47 an7 = some ir7 := by kernel_rfl
def an8 : Ann := (.g [(148,3)] (.s none .z (.s none .z (.s none .z (.s none .z (.s none (.s none .z (.b (.l ⟨1,[],[(4,⟨false,true,3,1,.v 0,[]⟩)],7,[]⟩ (.s none .z (.b (.s none .z (.s none .z (.s none .z (.b (.l ⟨2,[(26,.junk),(27,.junk),(28,.junk),(29,.junk),(30,.junk),(31,.junk),(32,.junk),(33,.junk),(34,.junk),(35,.junk),(40,.junk),(42,(.atm (.v 0)))],[(4,⟨false,true,3,1,.v 1,[]⟩)],8,[]⟩ (.s none .z (.s none .z (.s (some ⟨2,[(11,(.atm (.v 0))),(43,.junk)],[(4,⟨false,true,3,1,.v 1,[]⟩)],8,[]⟩) .z .z))))))))))))) .z))))))
def ir8p0 : IR := (.op (.bin .add false) [.v 23,.c (.int .i64 1)] (.jump 1 [.v 28,.v 27]))
def ir8p1 : IR := (.op (.bin .lss false) [.v 23,.v 22] (.ite (.v 25) (.letj 2 (.call 29 1 false [] [.v 19,.v 23] (.op (.un .not) [.v 26] (.ite (.v 27) (.op .lenL [.v 1] (.op (.bin .sub false) [.v 28,.v 14] (.op .chk [.v 24,.v 23] (.op (.set 0 1) [.v 24,.v 23,.v 29] (.jump 2 [.v 23,.v 30]))))) (.jump 2 [.v 23,.v 24])))) ir8p0) (.op (.bin .sub false) [.v 14,.c (.int .i64 1)] (.jump 0 [.v 24,.v 26]))))
def ir8p2 : IR := (.op (.bin .geq false) [.v 14,.c (.int .i64 0)] (.ite (.v 15) (.op (.row 3) [.v 9,.v 14] (.call 27 2 false [] [.v 0,.v 16,.v 17,.v 18] (.op (.bin .neq false) [.v 20,.c (.int .i64 0)] (.ite (.v 21) (.call 28 1 false [] [.v 0,.v 1] (.ret [.c (.sl []),.c (.sl []),.v 22])) (.op .lenL [.v 13] (.loop 2 [.c (.int .i64 0),.v 13] ir8p1)))))) (.call 30 3 false [] [.v 0,.v 13] (.ret [.v 16,.v 17,.v 18]))))
def ir8 : IR := (.call 25 1 false [] [.v 0] (.op (.un .not) [.v 2] (.ite (.v 3) (.ret [.c (.sl []),.c (.sl []),.c (.int .i64 1)]) (.op .lenL [.v 1] (.op (.bin .gtr false) [.v 4,.c (.int .i64 64)] (.ite (.v 5) (.ret [.c (.sl []),.c (.sl []),.c (.int .i64 2)]) (.op .lenL [.v 0] (.op (.bin .shl false) [.c (.int .i64 1),.v 6] (.op (.mkL 8 [(.int .i64 0)]) [.v 7] (.call 26 1 false [] [.v 1] (.op .lenL [.v 9] (.op (.subL 3) [.v 9,.c (.int .i64 0),.v 10] (.op (.room 1 0) [.v 9] (.op (.bin .sub false) [.v 10,.c (.int .i64 1)] (.loop 2 [.v 8,.v 12] ir8p2)))))))))))))))
theorem rd8 : readFn T SG sigs 3000 sg8 Tryz.f54 an8 = some ir8 := by kernel_rfl
def an9 : Ann := (.s none .z (.s none .z (.s none .z (.s none .z (.s none (.s none .z (.b (.l ⟨2,[(1,.junk),(5,.junk),(7,.junk),(9,(.atm (.v 0))),(11,.junk),(12,.junk),(13,.junk),(14,.junk),(15,.junk),(16,.junk),(17,.junk),(18,.junk),(21,.junk),(22,.junk),(23,.junk),(24,.junk),(25,.junk)],[(1,⟨false,true,3,1,.v 1,[]⟩)],2,[]⟩ (.s none .z (.s none (.b (.s none .z (.s none (.b (.l ⟨1,[(10,(.atm (.v 0))),(26,.junk),(27,.junk),(28,.junk),(29,.junk)],[],2,[]⟩ (.s none (.s (some ⟨1,[(43,(.atm (.v 0)))],[],2,[]⟩) .z .z) .z))) .z))) .z))))) .z)))))
def ir9p0 : IR := (.ite (.v 14) (.op (.bin .add false) [.v 13,.c (.int .i64 1)] (.jump 1 [.v 15])) (.op .lenL [.v 2] (.op (.bin .sub false) [.v 15,.v 13] (.op .chk [.v 10,.v 9] (.op (.set 0 1) [.v 10,.v 9,.v 16] (.op (.bin .add false) [.v 9,.c (.int .i64 1)] (.jump 0 [.v 18,.v 17])))))))
def ir9p1 : IR := (.letj 1 (.op .lenL [.v 2] (.op (.bin .lss false) [.v 13,.v 14] (.ite (.v 15) (.op (.row 1) [.v 2,.v 13] (.call 32 1 false [] [.v 16,.v 9] (.jump 2 [.v 17]))) (.jump 2 [.c (.bool false)])))) ir9p0)
def ir9p2 : IR := (.op .lenL [.v 10] (.op (.bin .lss false) [.v 9,.v 11] (.ite (.v 12) (.loop 1 [.c (.int .i64 0)] ir9p1) (.call 24 3 false [] [.v 0,.v 10] (.ret [.v 13,.v 14,.v 15])))))
def ir9 : IR := (.call 31 2 false [] [.v 0,.v 1] (.op (.bin .neq false) [.v 3,.c (.int .i64 0)] (.ite (.v 4) (.ret [.c (.sl []),.c (.sl []),.v 3]) (.op .lenL [.v 0] (.op (.conv .u64) [.v 5] (.op (.bin .shl false) [.c (.int .i64 1),.v 6] (.op (.mkL 8 [(.int .i64 0)]) [.v 7] (.loop 2 [.c (.int .i64 0),.v 8] ir9p2))))))))
theorem rd9 : readFn T SG sigs 3000 sg9 Tryz.f55 an9 = some ir9 := by kernel_rfl
def an10 : Ann := .z
def ir10 : IR := (.call 33 1 false [] [.v 0,.v 2] (.ite (.v 4) (.call 22 1 false [] [.v 1,.v 3] (.ret [.v 5])) (.ret [.c (.bool false)])))
theorem rd10 : readFn T SG sigs 3000 sg10 Tryz.f24 an10 = some ir10 := by kernel_rfl
def an11 : Ann := (.s none .z (.s none .z (.s none .z (.s none .z (.s none .z (.s none (.s none .z (.b (.l ⟨3,[(0,.junk),(2,.junk),(3,.junk),(4,.junk),(5,(.atm (.v 0))),(7,.junk),(12,.junk),(13,.junk),(14,.junk),(15,.junk),(17,.junk),(18,.junk),(19,.junk),(20,.junk),(21,.junk),(22,.junk),(25,(.atm (.v 1)))],[(1,⟨false,true,39,3,.v 2,[]⟩)],2,[⟨none,6,39,3⟩]⟩ .z))) .z))))))
def ir11p0 : IR := (.op (.bin .lss false) [.v 10,.v 8] (.ite (.v 12) (.op (.row 1) [.v 7,.v 10] (.op (.bin .or false) [.v 9,.v 13] (.call 36 4 false [] [.v 0,.v 14] (.op (.bin .neq false) [.v 18,.c (.int .i64 0)] (.ite (.v 19) (.ret [.c (.sl []),.v 18]) (.op (.mk 3 1) [.v 15,.v 16,.v 17] (.op (.app 3 48) [.v 11,.v 20] (.op (.bin .add false) [.v 10,.c (.int .i64 1)] (.jump 0 [.v 14,.v 22,.v 21]))))))))) (.call 37 1 false [0] [.v 11] (.ret [.v 13,.c (.int .i64 0)]))))
def ir11 : IR := (.call 34 1 false [] [.v 0,.v 1] (.op (.bin .neq false) [.v 2,.c (.int .i64 0)] (.ite (.v 3) (.ret [.c (.sl []),.v 2]) (.call 35 1 false [] [.v 0,.v 1] (.op .lenL [.v 4] (.op (.bin .sub false) [.v 5,.c (.int .i64 1)] (.op (.subL 1) [.v 4,.c (.int .i64 0),.v 6] (.op .lenL [.v 7] (.loop 3 [.c (.int .u64 0),.c (.int .i64 0),.c (.sl [])] ir11p0)))))))))
theorem rd11 : readFn T SG sigs 3000 sg11 Tryz.f56 an11 = some ir11 := by kernel_rfl
def an12 : Ann := (.s none .z (.s none .z (.s none .z (.s none (.s none .z (.b (.l ⟨2,[(0,.junk),(2,.junk),(3,.junk),(4,.junk),(6,(.atm (.v 0))),(9,.junk),(10,.junk),(11,.junk),(12,.junk),(14,.junk),(15,.junk),(16,.junk)],[(1,⟨false,true,39,3,.v 1,[]⟩)],2,[⟨none,5,39,3⟩]⟩ .z))) .z))))
def ir12p0 : IR := (.op (.bin .geq false) [.v 6,.c (.int .i64 0)] (.ite (.v 8) (.call 40 1 false [] [.v 0,.v 1,.c (.int .i64 0),.v 6] (.call 41 4 false [] [.v 0,.v 9] (.op (.mk 3 1) [.v 10,.v 11,.v 12] (.op (.app 3 48) [.v 7,.v 14] (.op (.bin .sub false) [.v 6,.c (.int .i64 1)] (.jump 0 [.v 16,.v 15])))))) (.ret [.v 7,.c (.int .i64 0)])))
def ir12 : IR := (.call 38 1 false [] [.v 0,.v 1] (.op (.bin .neq false) [.v 2,.c (.int .i64 0)] (.ite (.v 3) (.ret [.c (.sl []),.v 2]) (.call 39 1 false [] [.v 0,.v 1] (.op (.bin .sub false) [.v 4,.c (.int .i64 1)] (.loop 2 [.v 5,.c (.sl [])] ir12p0))))))
theorem rd12 : readFn T SG sigs 3000 sg12 Tryz.f57 an12 = some ir12 := by kernel_rfl
def an13 : Ann := (.s none .z (.s none .z (.s none (.s none .z (.b (.l ⟨1,[(4,.junk),(5,(.atm (.v 0))),(6,.junk),(7,.junk),(8,.junk),(9,.junk),(10,.junk)],[],0,[]⟩ .z))) .z)))
def ir13p0 : IR := (.op .lenL [.v 0] (.op (.bin .lss false) [.v 5,.v 6] (.ite (.v 7) (.op (.row 3) [.v 0,.v 5] (.op (.row 3) [.v 1,.v 5] (.call 42 1 false [] [.v 8,.v 9,.v 10,.v 11,.v 12,.v 13] (.op (.un .not) [.v 14] (.ite (.v 15) (.ret [.c (.bool false)]) (.op (.bin .add false) [.v 5,.c (.int .i64 1)] (.jump 0 [.v 16]))))))) (.ret [.c (.bool true)]))))
def ir13 : IR := (.op .lenL [.v 0] (.op .lenL [.v 1] (.op (.bin .neq false) [.v 2,.v 3] (.ite (.v 4) (.ret [.c (.bool false)]) (.loop 1 [.c (.int .i64 0)] ir13p0)))))
theorem rd13 : readFn T SG sigs 3000 sg13 Tryz.f58 an13 = some ir13 := by kernel_rfl
def an14 : Ann := (.s none .z (.s none .z (.s none (.s (some ⟨1,[(11,.junk),(12,.junk),(18,(.atm (.v 0)))],[],2,[]⟩) .z .z) (.s none .z (.s none .z (.s (some ⟨3,[(7,.junk),(9,(.atm (.v 0))),(18,.junk),(34,.junk),(35,.junk),(36,.junk),(37,.junk),(38,.junk),(39,.junk)],[(0,⟨false,false,96,2,.c (.sl []),[[.atm (.v 1),.atm (.v 2)]]⟩)],4,[]⟩) (.s none .z (.b (.s none .z (.c .z (.s (some ⟨1,[(7,.junk),(18,.junk),(34,.junk),(35,.junk),(36,.junk),(37,.junk),(38,.junk),(39,.junk),(40,.junk),(41,.junk),(42,.junk),(43,.junk),(44,(.atm (.v 0)))],[],4,[]⟩) .z .z))))) (.s none (.s none .z (.b (.l ⟨4,[(10,(.atm (.v 0)))],[(0,⟨false,false,96,2,.c (.sl []),[[.atm (.v 1),.atm (.v 2)]]⟩),(4,⟨false,true,39,3,.v 3,[]⟩)],5,[⟨some (3,0,2),0,39,3⟩]⟩ .z))) .z)))))))
def ir14p0 : IR := (.op (.bin .lss false) [.v 14,.v 11] (.ite (.v 18) (.op (.bin .sub false) [.v 1,.c (.int .i64 1)] (.call 14 5 false [] [.v 0,.v 19,.v 15,.v 16] (.op (.mk 3 1) [.v 20,.v 21,.v 22] (.op (.app 3 48) [.v 17,.v 25] (.op (.bin .add false) [.v 14,.c (.int .i64 1)] (.jump 0 [.v 27,.v 23,.v 24,.v 26])))))) (.ret [.v 10,.c (.str []),.v 17,.v 15,.v 16])))
def ir14p1 : IR := (.loop 4 [.c (.int .i64 0),.v 12,.v 13,.c (.sl [])] ir14p0)
def ir14p2 : IR := (.ite (.v 12) (.call 23 3 false [] [.c (.int .i64 2),.v 5,.v 6] (.op (.bin .add false) [.c (.int .i64 2),.v 13] (.jump 0 [.v 16,.v 14,.v 15]))) (.jump 0 [.c (.int .i64 2),.v 5,.v 6]))
def ir14p3 : IR := (.ite (.v 7) (.op (.bin .eql false) [.v 4,.c (.int .i64 0)] (.ite (.v 8) (.call 23 3 false [] [.c (.int .i64 2),.v 5,.v 6] (.op (.bin .add false) [.c (.int .i64 1),.v 9] (.ret [.v 12,.c (.str []),.c (.sl []),.v 10,.v 11]))) (.call 23 3 false [] [.v 0,.v 5,.v 6] (.op (.bin .add false) [.c (.int .i64 97),.v 9] (.op (.conv .u8) [.v 12] (.op (.mk 1 1) [.v 13] (.op .toS [.v 14] (.ret [.c (.int .i64 3),.v 15,.c (.sl []),.v 10,.v 11])))))))) (.op (.mk 1 8) [.c (.int .i64 4),.c (.int .i64 4),.c (.int .i64 5),.c (.int .i64 5),.c (.int .i64 6),.c (.int .i64 6),.c (.int .i64 7),.c (.int .i64 8)] (.op (.bin .sub false) [.v 4,.c (.int .i64 4)] (.op .chk [.v 8,.v 9] (.op (.get 0 1) [.v 8,.v 9] (.letj 3 (.op (.bin .eql false) [.v 10,.c (.int .i64 4)] (.ite (.v 11) (.jump 0 [.c (.int .i64 1),.v 5,.v 6]) (.letj 1 (.op (.bin .eql false) [.v 10,.c (.int .i64 5)] (.ite (.v 12) (.jump 1 [.c (.bool true)]) (.op (.bin .eql false) [.v 10,.c (.int .i64 6)] (.jump 1 [.v 13])))) ir14p2))) ir14p1))))))
def ir14 : IR := (.call 23 3 false [] [.c (.int .i64 12),.v 2,.v 3] (.letj 1 (.op (.bin .lss false) [.v 1,.c (.int .i64 1)] (.ite (.v 7) (.jump 0 [.c (.bool true)]) (.op (.bin .lss false) [.v 4,.c (.int .i64 4)] (.jump 0 [.v 8])))) ir14p3))
theorem rd14 : readFn T SG sigs 3000 sg14 Tryz.f35 an14 = some ir14 := by kernel_rfl
def an15 : Ann := (.s none .z (.s none .z (.s none .z (.s none .z (.s none .z (.s none (.s none .z (.b (.l ⟨2,[(0,.junk),(1,.junk),(2,.junk),(3,.junk),(4,.junk),(5,.junk),(6,.junk),(8,.junk),(9,(.atm (.v 0))),(12,.junk),(13,.junk),(14,.junk),(15,.junk),(17,.junk),(18,.junk),(19,.junk),(20,.junk),(21,.junk),(22,.junk),(23,.junk),(24,.junk),(25,.junk),(27,.junk),(28,.junk),(29,.junk),(30,.junk),(31,.junk),(34,(.atm (.v 1)))],[],2,[]⟩ (.s none .z (.s none .z (.s (some ⟨1,[(9,(.atm (.v 0))),(35,.junk)],[],2,[]⟩) .z .z)))))) .z))))))
def ir15p0 : IR := (.op (.bin .add false) [.v 14,.c (.int .i64 1)] (.jump 0 [.v 16,.v 17]))
def ir15p1 : IR := (.op (.bin .lss false) [.v 14,.v 12] (.ite (.v 15) (.letj 1 (.op (.row 1) [.v 1,.v 14] (.call 29 1 false [] [.v 7,.v 14] (.op (.un .not) [.v 17] (.ite (.v 18) (.op .min [.v 13,.v 16] (.jump 1 [.v 19])) (.jump 1 [.v 13]))))) ir15p0) (.ret [.v 13,.c (.int .i64 0)])))
def ir15 : IR := (.call 34 1 false [] [.v 0,.v 1] (.op (.bin .neq false) [.v 5,.c (.int .i64 0)] (.ite (.v 6) (.ret [.c (.int .i64 0),.v 5]) (.call 27 2 false [] [.v 0,.v 2,.v 3,.v 4] (.op (.bin .neq false) [.v 8,.c (.int .i64 0)] (.ite (.v 9) (.ret [.c (.int .i64 0),.v 8]) (.call 43 1 false [] [.v 1] (.op (.bin .add false) [.v 10,.c (.int .i64 1)] (.op .lenL [.v 1] (.loop 2 [.v 11,.c (.int .i64 0)] ir15p1))))))))))
theorem rd15 : readFn T SG sigs 3000 sg15 Tryz.f36 an15 = some ir15 := by kernel_rfl
def an16 : Ann := (.s none .z (.s none .z (.s none .z (.s none .z (.s none .z (.s none (.s none .z (.b (.l ⟨2,[(0,.junk),(1,.junk),(3,.junk),(4,.junk),(5,.junk),(6,.junk),(8,.junk),(9,(.atm (.v 0))),(10,(.atm (.v 1))),(11,.junk),(12,.junk),(13,.junk),(14,.junk),(16,.junk),(17,.junk),(18,.junk),(19,.junk),(20,.junk),(21,.junk),(22,.junk),(23,.junk),(24,.junk),(26,.junk),(27,.junk),(28,.junk)],[],2,[]⟩ (.s none .z (.s (some ⟨1,[(9,(.atm (.v 0))),(29,.junk),(30,.junk),(31,.junk),(32,.junk),(33,.junk)],[],2,[]⟩) .z .z))))) .z))))))
def ir16p0 : IR := (.op (.bin .add false) [.v 13,.c (.int .i64 1)] (.jump 0 [.v 16,.v 17]))
def ir16p1 : IR := (.op .lenL [.v 1] (.op (.bin .lss false) [.v 13,.v 14] (.ite (.v 15) (.letj 1 (.call 32 1 false [] [.v 7,.v 13] (.op (.un .not) [.v 16] (.ite (.v 17) (.op (.row 1) [.v 1,.v 13] (.op .min [.v 12,.v 18] (.jump 1 [.v 19]))) (.jump 1 [.v 12])))) ir16p0) (.ret [.v 12,.c (.int .i64 0)]))))
def ir16 : IR := (.call 38 1 false [] [.v 0,.v 1] (.op (.bin .neq false) [.v 5,.c (.int .i64 0)] (.ite (.v 6) (.ret [.c (.int .i64 0),.v 5]) (.call 44 2 false [] [.v 0,.v 2,.v 3,.v 4] (.op (.bin .neq false) [.v 8,.c (.int .i64 0)] (.ite (.v 9) (.ret [.c (.int .i64 0),.v 8]) (.call 39 1 false [] [.v 0,.v 1] (.op (.bin .add false) [.v 10,.c (.int .i64 1)] (.loop 2 [.v 11,.c (.int .i64 0)] ir16p1)))))))))
theorem rd16 : readFn T SG sigs 3000 sg16 Tryz.f59 an16 = some ir16 := by kernel_rfl
def an17 : Ann := .z
def ir17 : IR := (.call 45 1 false [] [.v 0,.v 1,.v 2,.c (.int .i64 800)] (.op (.bin .leq false) [.v 3,.c (.int .i64 800)] (.ite (.v 4) (.call 46 1 false [] [.v 0,.v 1,.v 2,.c (.int .i64 30)] (.op (.bin .leq false) [.v 5,.c (.int .i64 30)] (.ite (.v 6) (.call 47 1 false [] [.v 0,.v 1,.v 2] (.ret [.v 7])) (.ret [.c (.bool false)])))) (.ret [.c (.bool false)]))))
theorem rd17 : readFn T SG sigs 3000 sg17 Tryz.f32 an17 = some ir17 := by kernel_rfl
def an18 : Ann := .z
def ir18 : IR := (.ret [.c (.int .i64 3),.v 0,.c (.sl [])])
theorem rd18 : readFn T SG sigs 3000 sg18 Tryz.f94 an18 = some ir18 := by kernel_rfl
def an19 : Ann := .z
def ir19 : IR := (.op (.mk 3 1) [.v 0,.v 1,.v 2] (.ret [.c (.int .i64 4),.c (.str []),.v 3]))
theorem rd19 : readFn T SG sigs 3000 sg19 Tryz.f43 an19 = some ir19 := by kernel_rfl
def an20 : Ann := .z
def ir20 : IR := (.op (.mk 3 2) [.v 0,.v 1,.v 2,.v 3,.v 4,.v 5] (.ret [.c (.int .i64 5),.c (.str []),.v 6]))
theorem rd20 : readFn T SG sigs 3000 sg20 Tryz.f37 an20 = some ir20 := by kernel_rfl
def an21 : Ann := .z
def ir21 : IR := (.call 48 2 false [] [.v 0,.v 1] (.op (.bin .neq false) [.v 3,.c (.int .i64 0)] (.ite (.v 4) (.ret [.c (.sl []),.v 3]) (.call 49 2 false [] [.v 2] (.ret [.v 5,.v 6])))))
theorem rd21 : readFn T SG sigs 3000 sg21 Tryz.f60 an21 = some ir21 := by kernel_rfl
def an22 : Ann := (.s none .z (.s none .z (.s none (.s none .z (.b (.l ⟨1,[(4,.junk),(6,.junk),(7,.junk),(8,.junk),(9,.junk),(10,.junk),(11,.junk),(13,(.atm (.v 0)))],[],0,[]⟩ .z))) .z)))
def ir22p0 : IR := (.op (.bin .lss false) [.v 6,.v 5] (.ite (.v 7) (.op (.row 1) [.v 0,.v 6] (.op (.row 1) [.v 1,.v 6] (.op (.bin .neq false) [.v 8,.v 9] (.ite (.v 10) (.ret [.c (.bool false)]) (.op (.bin .add false) [.v 6,.c (.int .i64 1)] (.jump 0 [.v 11])))))) (.ret [.c (.bool true)])))
def ir22 : IR := (.op .lenL [.v 0] (.op .lenL [.v 1] (.op (.bin .neq false) [.v 2,.v 3] (.ite (.v 4) (.ret [.c (.bool false)]) (.op .lenL [.v 0] (.loop 1 [.c (.int .i64 0)] ir22p0))))))
theorem rd22 : readFn T SG sigs 3000 sg22 Tryz.f51 an22 = some ir22 := by kernel_rfl
def an23 : Ann := .z
def ir23 : IR := (.call 50 3 false [] [.v 1,.v 2] (.call 51 1 false [] [.v 3,.v 0] (.ret [.v 6,.v 4,.v 5])))
theorem rd23 : readFn T SG sigs 3000 sg23 Tryz.f67 an23 = some ir23 := by kernel_rfl
def an24 : Ann := (.s none .z (.s none (.s (some ⟨1,[(5,.junk),(21,(.atm (.v 0)))],[],1,[]⟩) .z .z) (.s none .z (.s none (.s none .z (.b (.l ⟨2,[(0,.junk),(7,(.atm (.v 0))),(21,.junk),(24,.junk),(25,.junk),(26,.junk),(27,.junk),(28,.junk),(29,.junk)],[(6,⟨false,true,3,1,.v 1,[]⟩)],9,[]⟩ (.s none .z (.s none (.b (.s none .z (.s none (.s none .z (.b (.l ⟨2,[(9,(.atm (.v 0))),(30,.junk),(31,.junk),(32,.junk),(33,.junk)],[(9,⟨false,true,3,1,.v 1,[]⟩)],10,[⟨none,8,3,1⟩]⟩ (.s none .z (.s (some ⟨1,[(36,.junk),(37,.junk),(38,.junk),(39,.junk)],[(9,⟨false,true,3,1,.v 0,[]⟩)],10,[]⟩) (.b (.s (some ⟨1,[(36,.junk),(37,.junk),(38,.junk),(39,.junk),(59,(.atm (.v 0)))],[],10,[]⟩) .z .z)) .z))))) .z))) .z))))) .z))))
def ir24p0 : IR := (.op (.bin .add false) [.v 10,.c (.int .i64 1)] (.jump 1 [.v 15,.v 14]))
def ir24p1 : IR := (.ite (.v 14) (.op (.row 1) [.v 1,.v 10] (.op (.mk 1 1) [.v 15] (.op (.app 1 8) [.v 11,.v 16] (.jump 2 [.v 17])))) (.jump 2 [.v 11]))
def ir24p2 : IR := (.op .lenL [.v 1] (.op (.bin .lss false) [.v 10,.v 12] (.ite (.v 13) (.letj 1 (.letj 1 (.op (.row 1) [.v 1,.v 10] (.op (.row 1) [.v 1,.v 6] (.op (.bin .lss false) [.v 14,.v 15] (.ite (.v 16) (.op (.row 1) [.v 1,.v 10] (.call 53 1 true [] [.v 11,.v 17] (.op (.un .not) [.v 18] (.jump 3 [.v 19])))) (.jump 3 [.c (.bool false)]))))) ir24p1) ir24p0) (.op .lenL [.v 11] (.op .chk [.v 7,.v 6] (.op (.set 0 1) [.v 7,.v 6,.v 14] (.op (.bin .add false) [.v 6,.c (.int .i64 1)] (.jump 0 [.v 16,.v 15]))))))))
def ir24p3 : IR := (.op .lenL [.v 1] (.op (.bin .lss false) [.v 6,.v 8] (.ite (.v 9) (.loop 2 [.c (.int .i64 0),.c (.sl [])] ir24p2) (.ret [.v 3,.v 7,.c (.int .i64 0)]))))
def ir24p4 : IR := (.ite (.v 2) (.ret [.c (.sl []),.c (.sl []),.c (.int .i64 1)]) (.op (.app 1 16) [.c (.sl []),.v 0] (.op .lenL [.v 1] (.op (.mkL 8 [(.int .i64 0)]) [.v 4] (.loop 2 [.c (.int .i64 0),.v 5] ir24p3)))))
def ir24 : IR := (.letj 1 (.call 52 1 false [] [.v 0] (.op (.un .not) [.v 2] (.ite (.v 3) (.jump 0 [.c (.bool true)]) (.op .lenL [.v 1] (.op .lenL [.v 0] (.op (.conv .u64) [.v 5] (.op (.bin .shl false) [.c (.int .i64 1),.v 6] (.op (.bin .neq false) [.v 4,.v 7] (.jump 0 [.v 8]))))))))) ir24p4)
theorem rd24 : readFn T SG sigs 3000 sg24 Tryz.f68 an24 = some ir24 := by kernel_rfl
def an25 : Ann := (.s none .z (.s none .z (.s none (.s none .z (.b (.l ⟨1,[(2,.junk),(5,.junk),(6,.junk),(7,.junk),(10,(.atm (.v 0)))],[],0,[]⟩ (.s none .z (.s none .z (.s none (.b (.s none .z (.s (some ⟨1,[(3,.junk),(4,.junk),(11,.junk),(12,.junk),(13,.junk),(14,.junk),(30,(.atm (.v 0)))],[],0,[]⟩) .z .z))) .z)))))) .z)))
def ir25p0 : IR := (.ite (.v 7) (.ret [.c (.bool false)]) (.op (.bin .add false) [.v 4,.c (.int .i64 1)] (.jump 0 [.v 8])))
def ir25p1 : IR := (.op (.bin .lss false) [.v 4,.v 3] (.ite (.v 5) (.op (.row 1) [.v 0,.v 4] (.letj 1 (.call 54 1 false [] [.v 6] (.op (.un .not) [.v 7] (.ite (.v 8) (.jump 1 [.c (.bool true)]) (.op (.bin .gtr false) [.v 4,.c (.int .i64 0)] (.ite (.v 9) (.op (.bin .sub false) [.v 4,.c (.int .i64 1)] (.op (.row 1) [.v 0,.v 10] (.op (.bin .geq false) [.v 11,.v 6] (.jump 1 [.v 12])))) (.jump 1 [.c (.bool false)])))))) ir25p0)) (.ret [.c (.bool true)])))
def ir25 : IR := (.op .lenL [.v 0] (.op (.bin .gtr false) [.v 1,.c (.int .i64 6)] (.ite (.v 2) (.ret [.c (.bool false)]) (.op .lenL [.v 0] (.loop 1 [.c (.int .i64 0)] ir25p1)))))
theorem rd25 : readFn T SG sigs 3000 sg25 Tryz.f105 an25 = some ir25 := by kernel_rfl
def an26 : Ann := .z
def ir26 : IR := (.ret [.v 0])
theorem rd26 : readFn T SG sigs 3000 sg26 Tryz.f106 an26 = some ir26 := by kernel_rfl
def an27 : Ann := (.s none .z (.s none .z (.s none .z (.s none (.s none .z (.b (.l ⟨1,[(1,.junk),(4,.junk),(5,.junk),(6,.junk),(9,.junk),(10,.junk),(11,.junk),(12,.junk),(13,.junk),(14,.junk),(15,.junk),(17,.junk),(20,(.atm (.v 0)))],[],1,[]⟩ .z))) .z))))
def ir27p0 : IR := (.op (.bin .lss false) [.v 10,.v 9] (.ite (.v 11) (.op (.row 1) [.v 8,.v 10] (.call 57 1 false [] [.v 0,.v 12] (.op (.un .not) [.v 13] (.ite (.v 14) (.ret [.c (.int .u64 0),.c (.int .i64 6)]) (.op (.bin .add false) [.v 10,.c (.int .i64 1)] (.jump 0 [.v 15])))))) (.call 58 1 false [] [.v 0,.v 1,.v 2,.v 3] (.call 59 1 false [] [.v 0] (.op (.bin .and false) [.v 12,.v 13] (.ret [.v 14,.c (.int .i64 0)]))))))
def ir27 : IR := (.call 25 1 false [] [.v 0] (.op (.un .not) [.v 4] (.ite (.v 5) (.ret [.c (.int .u64 0),.c (.int .i64 1)]) (.call 55 1 false [] [.v 1,.v 2,.v 3] (.op (.bin .neq false) [.v 6,.c (.int .i64 0)] (.ite (.v 7) (.ret [.c (.int .u64 0),.v 6]) (.call 56 1 false [] [.v 1,.v 2,.v 3] (.op .lenL [.v 8] (.loop 1 [.c (.int .i64 0)] ir27p0)))))))))
theorem rd27 : readFn T SG sigs 3000 sg27 Tryz.f73 an27 = some ir27 := by kernel_rfl
def an28 : Ann := (.s none .z (.s none (.s none .z (.b (.l ⟨1,[(1,.junk),(4,.junk),(11,(.atm (.v 0)))],[],0,[]⟩ .z))) .z))
def ir28p0 : IR := (.op (.bin .lss false) [.v 3,.v 2] (.ite (.v 4) (.op (.row 3) [.v 1,.v 3] (.call 27 2 false [] [.v 0,.v 5,.v 6,.v 7] (.op (.bin .neq false) [.v 9,.c (.int .i64 0)] (.ite (.v 10) (.ret [.v 9]) (.op (.bin .add false) [.v 3,.c (.int .i64 1)] (.jump 0 [.v 11])))))) (.ret [.c (.int .i64 0)])))
def ir28 : IR := (.op .lenL [.v 1] (.loop 1 [.c (.int .i64 0)] ir28p0))
theorem rd28 : readFn T SG sigs 3000 sg28 Tryz.f95 an28 = some ir28 := by kernel_rfl
def an29 : Ann := .z
def ir29 : IR := (.op (.conv .u64) [.v 1] (.op (.bin .shr false) [.v 0,.v 2] (.op (.bin .and false) [.v 3,.c (.int .u64 1)] (.op (.bin .eql false) [.v 4,.c (.int .u64 1)] (.ret [.v 5])))))
theorem rd29 : readFn T SG sigs 3000 sg29 Tryz.f93 an29 = some ir29 := by kernel_rfl
def an30 : Ann := (.s none .z (.s none (.s (some ⟨1,[(5,.junk),(22,(.atm (.v 0)))],[],1,[]⟩) .z .z) (.s none .z (.s none .z (.s none (.s none .z (.b (.l ⟨2,[(0,.junk),(1,.junk),(22,.junk),(24,.junk),(25,.junk),(27,.junk),(28,.junk),(29,.junk),(30,.junk),(33,(.atm (.v 0)))],[(5,⟨false,true,3,1,.v 1,[]⟩)],6,[⟨some (4,0,1),0,3,1⟩]⟩ .z))) .z)))))
def ir30p0 : IR := (.op (.bin .lss false) [.v 10,.v 9] (.ite (.v 12) (.op (.row 1) [.v 1,.v 10] (.call 64 2 false [] [.v 6,.v 13] (.op (.mk 1 1) [.v 14] (.op (.app 1 8) [.v 11,.v 16] (.op (.bin .add false) [.v 10,.c (.int .i64 1)] (.jump 0 [.v 18,.v 17])))))) (.ret [.v 8,.v 11,.c (.int .i64 0)])))
def ir30p1 : IR := (.ite (.v 2) (.ret [.c (.sl []),.c (.sl []),.c (.int .i64 1)]) (.call 60 1 false [] [.v 1] (.call 61 2 false [0] [.v 3] (.call 62 2 false [1] [.v 4] (.call 63 1 false [0] [.v 0] (.op .lenL [.v 1] (.loop 2 [.c (.int .i64 0),.c (.sl [])] ir30p0)))))))
def ir30 : IR := (.letj 1 (.call 25 1 false [] [.v 0] (.op (.un .not) [.v 2] (.ite (.v 3) (.jump 0 [.c (.bool true)]) (.op .lenL [.v 1] (.op .lenL [.v 0] (.op (.bin .shl false) [.c (.int .i64 1),.v 5] (.op (.bin .neq false) [.v 4,.v 6] (.jump 0 [.v 7])))))))) ir30p1)
theorem rd30 : readFn T SG sigs 3000 sg30 Tryz.f81 an30 = some ir30 := by kernel_rfl
def an31 : Ann := (.s none .z (.s none .z (.s none .z (.s none .z (.s none (.s none .z (.b (.l ⟨2,[(4,.junk),(5,.junk),(7,(.atm (.v 0))),(10,.junk),(11,.junk),(12,.junk),(13,.junk),(14,.junk),(15,.junk)],[(0,⟨false,true,30,1,.v 1,[]⟩)],1,[⟨none,6,30,1⟩]⟩ .z))) .z)))))
def ir31p0 : IR := (.op .lenL [.v 1] (.op (.bin .lss false) [.v 6,.v 8] (.ite (.v 9) (.op (.row 3) [.v 1,.v 6] (.call 44 2 false [] [.v 0,.v 10,.v 11,.v 12] (.op (.bin .neq false) [.v 14,.c (.int .i64 0)] (.ite (.v 15) (.ret [.c (.sl []),.v 14]) (.op (.mk 1 1) [.v 13] (.op (.app 1 8) [.v 7,.v 16] (.op (.bin .add false) [.v 6,.c (.int .i64 1)] (.jump 0 [.v 18,.v 17])))))))) (.ret [.v 7,.c (.int .i64 0)]))))
def ir31 : IR := (.call 52 1 false [] [.v 0] (.op (.un .not) [.v 2] (.ite (.v 3) (.ret [.c (.sl []),.c (.int .i64 1)]) (.op .lenL [.v 1] (.op (.bin .gtr false) [.v 4,.c (.int .i64 64)] (.ite (.v 5) (.ret [.c (.sl []),.c (.int .i64 2)]) (.loop 2 [.c (.int .i64 0),.c (.sl [])] ir31p0)))))))
theorem rd31 : readFn T SG sigs 3000 sg31 Tryz.f107 an31 = some ir31 := by kernel_rfl
def an32 : Ann := .z
def ir32 : IR := (.op (.conv .u64) [.v 1] (.op (.bin .shr false) [.v 0,.v 2] (.op (.bin .and false) [.v 3,.c (.int .u64 1)] (.op (.bin .eql false) [.v 4,.c (.int .u64 1)] (.ret [.v 5])))))
theorem rd32 : readFn T SG sigs 3000 sg32 Tryz.f108 an32 = some ir32 := by kernel_rfl
def an33 : Ann := (.s none .z (.s none .z (.s none (.s none .z (.b (.l ⟨1,[(4,.junk),(5,(.atm (.v 0))),(6,.junk),(7,.junk),(8,.junk),(9,.junk),(10,.junk)],[],0,[]⟩ .z))) .z)))
def ir33p0 : IR := (.op .lenL [.v 0] (.op (.bin .lss false) [.v 5,.v 6] (.ite (.v 7) (.op (.row 1) [.v 0,.v 5] (.op (.row 1) [.v 1,.v 5] (.op (.bin .neq false) [.v 8,.v 9] (.ite (.v 10) (.ret [.c (.bool false)]) (.op (.bin .add false) [.v 5,.c (.int .i64 1)] (.jump 0 [.v 11])))))) (.ret [.c (.bool true)]))))
def ir33 : IR := (.op .lenL [.v 0] (.op .lenL [.v 1] (.op (.bin .neq false) [.v 2,.v 3] (.ite (.v 4) (.ret [.c (.bool false)]) (.loop 1 [.c (.int .i64 0)] ir33p0)))))
theorem rd33 : readFn T SG sigs 3000 sg33 Tryz.f76 an33 = some ir33 := by kernel_rfl
def an34 : Ann := (.s none .z (.s none (.s (some ⟨1,[(0,.junk),(2,.junk),(20,(.atm (.v 0)))],[],1,[]⟩) .z .z) (.s none .z (.s none .z (.s none (.s none .z (.b (.l ⟨3,[(1,.junk),(4,(.atm (.v 0))),(20,.junk),(21,.junk),(22,.junk),(23,.junk),(24,.junk),(25,.junk),(28,(.atm (.v 1)))],[(1,⟨false,true,4,1,.v 2,[]⟩)],2,[]⟩ (.s none .z (.s none .z (.s none (.b (.s none .z (.s none (.s (some ⟨1,[(29,.junk),(30,.junk),(31,.junk),(39,(.atm (.v 0)))],[],2,[]⟩) .z .z) .z))) .z)))))) .z)))))
def ir34p0 : IR := (.ite (.v 11) (.ret [.c (.int .i64 8)]) (.op .max [.v 6,.v 10] (.op .chk [.v 8,.v 10] (.op (.set 0 1) [.v 8,.v 10,.c (.bool true)] (.op (.bin .add false) [.v 7,.c (.int .i64 1)] (.jump 0 [.v 12,.v 14,.v 13]))))))
def ir34p1 : IR := (.op (.bin .lss false) [.v 7,.v 5] (.ite (.v 9) (.op (.row 1) [.v 1,.v 7] (.letj 1 (.op (.bin .lss false) [.v 10,.c (.int .i64 0)] (.ite (.v 11) (.jump 1 [.c (.bool true)]) (.op .lenL [.v 8] (.op (.bin .geq false) [.v 10,.v 12] (.jump 1 [.v 13]))))) ir34p0)) (.op (.subL 1) [.v 8,.c (.int .i64 0),.v 6] (.call 65 1 false [] [.v 10,.c (.bool false)] (.ite (.v 11) (.ret [.c (.int .i64 8)]) (.ret [.c (.int .i64 0)]))))))
def ir34p2 : IR := (.ite (.v 2) (.ret [.c (.int .i64 1)]) (.op .lenL [.v 1] (.op (.mkL 1 [(.bool false)]) [.v 3] (.op .lenL [.v 1] (.loop 3 [.c (.int .i64 0),.c (.int .i64 0),.v 4] ir34p1)))))
def ir34 : IR := (.letj 1 (.call 25 1 false [] [.v 0] (.op (.un .not) [.v 2] (.ite (.v 3) (.jump 0 [.c (.bool true)]) (.op .lenL [.v 1] (.op .lenL [.v 0] (.op (.bin .shl false) [.c (.int .i64 1),.v 5] (.op (.bin .neq false) [.v 4,.v 6] (.jump 0 [.v 7])))))))) ir34p2)
theorem rd34 : readFn T SG sigs 3000 sg34 Tryz.f91 an34 = some ir34 := by kernel_rfl
def an35 : Ann := (.s none .z (.s none .z (.s none .z (.s none (.s none .z (.b (.l ⟨2,[(0,.junk),(1,.junk),(2,.junk),(6,.junk),(7,.junk),(8,.junk),(9,.junk),(10,.junk),(11,.junk),(12,.junk),(13,.junk),(14,.junk),(17,(.atm (.v 0)))],[(1,⟨false,true,30,1,.v 1,[]⟩)],2,[]⟩ .z))) .z))))
def ir35p0 : IR := (.op (.bin .lss false) [.v 8,.v 7] (.ite (.v 10) (.op (.row 1) [.v 1,.v 8] (.op .chk [.v 9,.v 11] (.op (.get 0 1) [.v 9,.v 11] (.op (.conv .u64) [.v 8] (.op (.bin .shl false) [.c (.int .u64 1),.v 13] (.op (.bin .or false) [.v 12,.v 14] (.op .chk [.v 9,.v 11] (.op (.set 0 1) [.v 9,.v 11,.v 15] (.op (.bin .add false) [.v 8,.c (.int .i64 1)] (.jump 0 [.v 17,.v 16])))))))))) (.ret [.v 9])))
def ir35 : IR := (.call 34 1 false [] [.v 0,.v 1] (.op (.bin .neq false) [.v 2,.c (.int .i64 0)] (.ite (.v 3) (.ret [.c (.sl [])]) (.call 43 1 false [] [.v 1] (.op (.bin .add false) [.v 4,.c (.int .i64 1)] (.op (.mkL 8 [(.int .u64 0)]) [.v 5] (.op .lenL [.v 1] (.loop 2 [.c (.int .i64 0),.v 6] ir35p0))))))))
theorem rd35 : readFn T SG sigs 3000 sg35 Tryz.f109 an35 = some ir35 := by kernel_rfl
def an36 : Ann := .z
def ir36 : IR := (.call 25 1 false [] [.v 0] (.op (.un .not) [.v 2] (.ite (.v 3) (.ret [.c (.int .i64 0),.c (.str []),.c (.sl []),.c (.int .i64 1)]) (.call 59 1 false [] [.v 0] (.op (.bin .and false) [.v 1,.v 4] (.call 66 3 false [] [.v 0,.v 5] (.ret [.v 6,.v 7,.v 8,.c (.int .i64 0)])))))))
theorem rd36 : readFn T SG sigs 3000 sg36 Tryz.f110 an36 = some ir36 := by kernel_rfl
def an38 : Ann := (.s none .z (.s none (.s (some ⟨1,[(0,.junk),(2,.junk),(20,(.atm (.v 0)))],[],1,[]⟩) .z .z) (.s none .z (.s none (.s none .z (.b (.l ⟨2,[(3,(.atm (.v 0))),(4,(.atm (.v 1))),(20,.junk)],[],1,[]⟩ (.s none .z (.s none (.b (.s none (.s (some ⟨1,[(21,.junk),(22,.junk),(23,.junk),(24,.junk),(25,.junk),(44,(.atm (.v 0)))],[],1,[]⟩) .z .z) .z)) .z))))) (.s none (.s none .z (.b (.l ⟨1,[(4,.junk),(5,(.atm (.v 0))),(21,.junk),(22,.junk),(23,.junk),(24,.junk),(25,.junk)],[],1,[]⟩ .z))) .z)))))
def ir38p0 : IR := (.ite (.v 7) (.ret [.c (.int .i64 8)]) (.op (.row 1) [.v 1,.v 4] (.op .max [.v 3,.v 8] (.op (.bin .add false) [.v 4,.c (.int .i64 1)] (.jump 0 [.v 9,.v 10])))))
def ir38p1 : IR := (.op (.bin .lss false) [.v 7,.v 3] (.ite (.v 8) (.call 53 1 false [] [.v 1,.v 7] (.op (.un .not) [.v 9] (.ite (.v 10) (.ret [.c (.int .i64 8)]) (.op (.bin .add false) [.v 7,.c (.int .i64 1)] (.jump 1 [.v 11]))))) (.ret [.c (.int .i64 0)])))
def ir38p2 : IR := (.op .lenL [.v 1] (.op (.bin .lss false) [.v 4,.v 5] (.ite (.v 6) (.letj 1 (.op (.row 1) [.v 1,.v 4] (.op (.bin .lss false) [.v 7,.c (.int .i64 0)] (.ite (.v 8) (.jump 1 [.c (.bool true)]) (.op (.row 1) [.v 1,.v 4] (.op .lenL [.v 1] (.op (.bin .geq false) [.v 9,.v 10] (.jump 1 [.v 11]))))))) ir38p0) (.loop 1 [.c (.int .i64 0)] ir38p1))))
def ir38p3 : IR := (.ite (.v 2) (.ret [.c (.int .i64 1)]) (.loop 2 [.c (.int .i64 0),.c (.int .i64 0)] ir38p2))
def ir38 : IR := (.letj 1 (.call 52 1 false [] [.v 0] (.op (.un .not) [.v 2] (.ite (.v 3) (.jump 0 [.c (.bool true)]) (.op .lenL [.v 1] (.op .lenL [.v 0] (.op (.conv .u64) [.v 5] (.op (.bin .shl false) [.c (.int .i64 1),.v 6] (.op (.bin .neq false) [.v 4,.v 7] (.jump 0 [.v 8]))))))))) ir38p3)
theorem rd38 : readFn T SG sigs 3000 sg38 Tryz.f77 an38 = some ir38 := by kernel_rfl
def an39 : Ann := (.s none .z (.s none .z (.s none (.s none .z (.b (.l ⟨2,[(0,.junk),(2,.junk),(3,(.atm (.v 0))),(4,(.atm (.v 1)))],[],1,[]⟩ .z))) .z)))
def ir39p0 : IR := (.op .lenL [.v 1] (.op (.bin .lss false) [.v 3,.v 4] (.ite (.v 5) (.op (.row 1) [.v 1,.v 3] (.op .max [.v 2,.v 6] (.op (.bin .add false) [.v 3,.c (.int .i64 1)] (.jump 0 [.v 7,.v 8])))) (.ret [.v 2]))))
def ir39 : IR := (.loop 2 [.c (.int .i64 0),.c (.int .i64 0)] ir39p0)
theorem rd39 : readFn T SG sigs 3000 sg39 Tryz.f41 an39 = some ir39 := by kernel_rfl
def an40 : Ann := (.s none .z (.s none .z (.s none (.s none .z (.b (.l ⟨2,[(0,.junk),(6,.junk),(7,(.atm (.v 0))),(8,(.atm (.v 1)))],[],1,[]⟩ (.s none .z (.s (some ⟨1,[(7,(.atm (.v 0))),(9,.junk),(10,.junk),(11,.junk),(12,.junk),(13,.junk)],[],1,[]⟩) (.b (.s (some ⟨1,[(9,.junk),(10,.junk),(11,.junk),(12,.junk),(13,.junk),(31,(.atm (.v 0)))],[],1,[]⟩) .z .z)) .z))))) .z)))
def ir40p0 : IR := (.op (.bin .add false) [.v 5,.c (.int .i64 1)] (.jump 0 [.v 8,.v 9]))
def ir40p1 : IR := (.ite (.v 8) (.op (.conv .u64) [.v 5] (.op (.bin .shl false) [.c (.int .u64 1),.v 9] (.op (.bin .or false) [.v 4,.v 10] (.jump 1 [.v 11])))) (.jump 1 [.v 4]))
def ir40p2 : IR := (.op .lenL [.v 1] (.op (.bin .lss false) [.v 5,.v 6] (.ite (.v 7) (.letj 1 (.letj 1 (.op (.row 1) [.v 1,.v 5] (.op (.bin .geq false) [.v 8,.v 2] (.ite (.v 9) (.op (.row 1) [.v 1,.v 5] (.op (.bin .leq false) [.v 10,.v 3] (.jump 2 [.v 11]))) (.jump 2 [.c (.bool false)])))) ir40p1) ir40p0) (.ret [.v 4]))))
def ir40 : IR := (.loop 2 [.c (.int .u64 0),.c (.int .i64 0)] ir40p2)
theorem rd40 : readFn T SG sigs 3000 sg40 Tryz.f112 an40 = some ir40 := by kernel_rfl
def an41 : Ann := .z
def ir41 : IR := (.call 52 1 false [] [.v 0] (.op (.un .not) [.v 2] (.ite (.v 3) (.ret [.c (.int .i64 0),.c (.str []),.c (.sl []),.c (.int .i64 1)]) (.call 67 3 false [] [.v 0,.v 1] (.ret [.v 4,.v 5,.v 6,.c (.int .i64 0)])))))
theorem rd41 : readFn T SG sigs 3000 sg41 Tryz.f66 an41 = some ir41 := by kernel_rfl
def an42 : Ann := .z
def ir42 : IR := (.op (.bin .eql false) [.v 0,.v 3] (.ite (.v 6) (.op (.bin .eql false) [.v 1,.v 4] (.ite (.v 7) (.call 13 1 false [] [.v 2,.v 5] (.ret [.v 8])) (.ret [.c (.bool false)]))) (.ret [.c (.bool false)])))
theorem rd42 : readFn T SG sigs 3000 sg42 Tryz.f65 an42 = some ir42 := by kernel_rfl
def an43 : Ann := (.s none .z (.s none .z (.s none .z (.s none (.s none .z (.b (.l ⟨2,[(2,.junk),(3,(.atm (.v 0))),(4,(.atm (.v 1))),(5,.junk),(6,.junk),(7,.junk),(9,.junk),(10,.junk),(11,.junk)],[],0,[]⟩ .z))) .z))))
def ir43p0 : IR := (.op .lenL [.v 0] (.op (.bin .lss false) [.v 5,.v 6] (.ite (.v 7) (.op (.row 1) [.v 0,.v 5] (.op .max [.v 4,.v 8] (.op (.bin .add false) [.v 5,.c (.int .i64 1)] (.jump 0 [.v 9,.v 10])))) (.ret [.v 4]))))
def ir43 : IR := (.op .lenL [.v 0] (.op (.bin .lss false) [.v 1,.c (.int .i64 1)] (.ite (.v 2) .fail (.op (.row 1) [.v 0,.c (.int .i64 0)] (.loop 2 [.v 3,.c (.int .i64 1)] ir43p0)))))
theorem rd43 : readFn T SG sigs 3000 sg43 Tryz.f92 an43 = some ir43 := by kernel_rfl
def an44 : Ann := (.s none .z (.s none .z (.s none .z (.s none .z (.s none (.s none .z (.b (.l ⟨1,[(1,.junk),(4,.junk),(5,.junk),(6,.junk),(8,(.atm (.v 0))),(11,.junk),(12,.junk),(13,.junk),(14,.junk),(15,.junk),(16,.junk),(17,.junk),(19,.junk),(20,.junk)],[],1,[]⟩ .z))) (.s none .z (.s none (.s none .z (.b (.l ⟨2,[(7,.junk),(8,.junk),(9,(.atm (.v 0))),(10,(.atm (.v 1))),(21,.junk),(22,.junk),(23,.junk),(24,.junk)],[],1,[]⟩ (.s none .z (.s (some ⟨1,[(9,(.atm (.v 0))),(34,.junk),(35,.junk),(36,.junk),(37,.junk)],[],1,[]⟩) .z .z))))) .z)))))))
def ir44p0 : IR := (.op (.bin .add false) [.v 13,.c (.int .i64 1)] (.jump 1 [.v 16,.v 17]))
def ir44p1 : IR := (.call 71 1 false [] [.v 0] (.op (.bin .lss false) [.v 13,.v 14] (.ite (.v 15) (.letj 1 (.call 72 1 false [] [.v 0,.v 13] (.call 73 1 false [] [.v 1,.v 2,.v 3,.v 16] (.ite (.v 17) (.op (.conv .u64) [.v 13] (.op (.bin .shl false) [.c (.int .u64 1),.v 18] (.op (.bin .or false) [.v 12,.v 19] (.jump 2 [.v 20])))) (.jump 2 [.v 12])))) ir44p0) (.ret [.v 12,.c (.int .i64 0)]))))
def ir44p2 : IR := (.op .lenL [.v 8] (.op (.bin .lss false) [.v 9,.v 10] (.ite (.v 11) (.op (.row 1) [.v 8,.v 9] (.call 70 1 false [] [.v 0,.v 12] (.op (.bin .lss false) [.v 13,.c (.int .i64 0)] (.ite (.v 14) (.ret [.c (.int .u64 0),.c (.int .i64 6)]) (.op (.bin .add false) [.v 9,.c (.int .i64 1)] (.jump 0 [.v 15])))))) (.loop 2 [.c (.int .u64 0),.c (.int .i64 0)] ir44p1))))
def ir44 : IR := (.call 52 1 false [] [.v 0] (.op (.un .not) [.v 4] (.ite (.v 5) (.ret [.c (.int .u64 0),.c (.int .i64 1)]) (.call 68 1 false [] [.v 1,.v 2,.v 3] (.op (.bin .neq false) [.v 6,.c (.int .i64 0)] (.ite (.v 7) (.ret [.c (.int .u64 0),.v 6]) (.call 69 1 false [] [.v 1,.v 2,.v 3] (.loop 1 [.c (.int .i64 0)] ir44p2))))))))
theorem rd44 : readFn T SG sigs 3000 sg44 Tryz.f29 an44 = some ir44 := by kernel_rfl
def an45 : Ann := (.s none .z (.s none .z (.s none (.s none .z (.b (.l ⟨2,[(0,.junk),(4,.junk),(5,(.atm (.v 0))),(7,.junk),(8,.junk),(10,(.atm (.v 1)))],[],1,[]⟩ .z))) .z)))
def ir45p0 : IR := (.op (.bin .lss false) [.v 6,.v 4] (.ite (.v 7) (.op (.bin .gtr false) [.v 5,.v 3] (.ite (.v 8) (.ret [.v 5]) (.op (.row 3) [.v 2,.v 6] (.op (.bin .sub false) [.v 3,.v 5] (.call 45 1 false [] [.v 9,.v 10,.v 11,.v 12] (.op (.bin .add false) [.v 5,.v 13] (.op (.bin .add false) [.v 6,.c (.int .i64 1)] (.jump 0 [.v 14,.v 15])))))))) (.ret [.v 5])))
def ir45 : IR := (.op .lenL [.v 2] (.loop 2 [.c (.int .i64 1),.c (.int .i64 0)] ir45p0))
theorem rd45 : readFn T SG sigs 3000 sg45 Tryz.f88 an45 = some ir45 := by kernel_rfl
def an46 : Ann := (.s none .z (.s none .z (.s none .z (.s none (.s none .z (.b (.l ⟨2,[(0,.junk),(4,.junk),(5,(.atm (.v 0))),(7,.junk),(8,.junk),(9,.junk),(10,.junk),(12,(.atm (.v 1)))],[],1,[]⟩ .z))) .z))))
def ir46p0 : IR := (.op (.bin .lss false) [.v 7,.v 5] (.ite (.v 8) (.op (.row 3) [.v 2,.v 7] (.op (.bin .sub false) [.v 3,.c (.int .i64 1)] (.call 46 1 false [] [.v 9,.v 10,.v 11,.v 12] (.op (.bin .add false) [.c (.int .i64 1),.v 13] (.op .max [.v 6,.v 14] (.op (.bin .add false) [.v 7,.c (.int .i64 1)] (.jump 0 [.v 15,.v 16]))))))) (.ret [.v 6])))
def ir46 : IR := (.op (.bin .lss false) [.v 3,.c (.int .i64 0)] (.ite (.v 4) (.ret [.c (.int .i64 0)]) (.op .lenL [.v 2] (.loop 2 [.c (.int .i64 0),.c (.int .i64 0)] ir46p0))))
theorem rd46 : readFn T SG sigs 3000 sg46 Tryz.f89 an46 = some ir46 := by kernel_rfl
def an47 : Ann := (.s none .z (.s none .z (.s none (.s none .z (.b (.l ⟨1,[(0,.junk),(2,.junk),(4,.junk),(5,.junk),(6,.junk),(7,.junk),(8,.junk),(9,.junk),(11,(.atm (.v 0)))],[],1,[]⟩ .z))) .z)))
def ir47p0 : IR := (.op (.bin .lss false) [.v 6,.v 5] (.ite (.v 7) (.op (.row 3) [.v 2,.v 6] (.call 47 1 false [] [.v 8,.v 9,.v 10] (.op (.un .not) [.v 11] (.ite (.v 12) (.ret [.c (.bool false)]) (.op (.bin .add false) [.v 6,.c (.int .i64 1)] (.jump 0 [.v 13])))))) (.ret [.c (.bool true)])))
def ir47 : IR := (.op .lenS [.v 1] (.op (.bin .gtr false) [.v 3,.c (.int .i64 100)] (.ite (.v 4) (.ret [.c (.bool false)]) (.op .lenL [.v 2] (.loop 1 [.c (.int .i64 0)] ir47p0)))))
theorem rd47 : readFn T SG sigs 3000 sg47 Tryz.f90 an47 = some ir47 := by kernel_rfl
def an48 : Ann := (.s none .z (.s none .z (.s none .z (.s none .z (.s none (.s none .z (.b (.l ⟨2,[(1,.junk),(4,.junk),(5,.junk),(14,.junk),(15,.junk),(16,.junk),(17,.junk),(18,.junk),(19,.junk),(22,(.atm (.v 0)))],[(0,⟨false,true,127,2,.v 1,[]⟩)],1,[⟨none,6,127,2⟩]⟩ .z))) .z)))))
def ir48p0 : IR := (.op (.bin .lss false) [.v 7,.v 6] (.ite (.v 9) (.op (.row 6) [.v 1,.v 7] (.op (.mk 3 2) [.v 10,.v 11,.v 12,.v 13,.v 14,.v 15] (.call 28 1 true [] [.v 0,.v 16] (.op (.bin .neq false) [.v 17,.c (.int .i64 0)] (.ite (.v 18) (.ret [.c (.sl []),.v 17]) (.call 27 2 false [] [.v 0,.v 10,.v 11,.v 12] (.call 27 2 false [] [.v 0,.v 13,.v 14,.v 15] (.op (.bin .and false) [.v 19,.v 21] (.op (.bin .andNot false) [.v 19,.v 21] (.op (.mk 2 1) [.v 23,.v 24] (.op (.app 2 16) [.v 8,.v 25] (.op (.bin .add false) [.v 7,.c (.int .i64 1)] (.jump 0 [.v 27,.v 26]))))))))))))) (.ret [.v 8,.c (.int .i64 0)])))
def ir48 : IR := (.call 25 1 false [] [.v 0] (.op (.un .not) [.v 2] (.ite (.v 3) (.ret [.c (.sl []),.c (.int .i64 1)]) (.op .lenL [.v 1] (.op (.bin .gtr false) [.v 4,.c (.int .i64 64)] (.ite (.v 5) (.ret [.c (.sl []),.c (.int .i64 2)]) (.op .lenL [.v 1] (.loop 2 [.c (.int .i64 0),.c (.sl [])] ir48p0))))))))
theorem rd48 : readFn T SG sigs 3000 sg48 Tryz.f97 an48 = some ir48 := by kernel_rfl
def an49 : Ann := (.s none .z (.s none .z (.s none (.s none .z (.b (.l ⟨2,[(2,.junk),(3,.junk),(13,.junk),(14,.junk),(15,.junk),(16,.junk),(18,(.atm (.v 0)))],[(0,⟨false,true,3,1,.v 1,[]⟩)],1,[]⟩ .z))) (.s none (.s none .z (.b (.l ⟨2,[(6,(.atm (.v 0))),(17,.junk),(18,.junk),(19,.junk)],[(0,⟨false,true,3,1,.v 1,[]⟩)],1,[]⟩ (.s none .z (.s none (.b (.s none .z (.s none (.s none .z (.b (.l ⟨2,[(7,(.atm (.v 0))),(25,.junk),(26,.junk),(31,(.atm (.v 1)))],[],1,[]⟩ (.s none .z (.s none .z (.s (some ⟨3,[(7,(.atm (.v 0))),(32,.junk)],[(1,⟨false,false,127,2,.c (.sl []),[[.atm (.v 1),.atm (.v 2)]]⟩)],2,[]⟩) .z .z)))))) (.s none .z (.s none (.s none .z (.b (.l ⟨3,[(10,(.atm (.v 0))),(29,.junk),(30,.junk),(31,.junk),(32,.junk),(48,(.atm (.v 1)))],[(0,⟨false,true,3,1,.v 2,[]⟩)],1,[]⟩ (.s none .z (.s none .z (.s (some ⟨4,[(10,(.atm (.v 0))),(49,.junk)],[(0,⟨false,true,3,1,.v 1,[]⟩),(1,⟨false,false,127,2,.c (.sl []),[[.atm (.v 2),.atm (.v 3)]]⟩)],2,[]⟩) (.b (.s none .z (.s (some ⟨1,[(12,.junk),(49,.junk),(50,.junk),(51,.junk),(52,.junk),(64,(.atm (.v 0)))],[],2,[]⟩) .z .z))) .z)))))) .z))))) .z))))) .z))))
def ir49p0 : IR := (.op (.bin .add false) [.v 12,.c (.int .i64 1)] (.jump 2 [.v 14,.v 17]))
def ir49p1 : IR := (.op (.bin .add false) [.v 16,.c (.int .i64 1)] (.jump 3 [.v 19,.v 23,.v 20]))
def ir49p2 : IR := (.ite (.v 21) (.op .chk [.v 17,.v 16] (.op (.set 0 1) [.v 17,.v 16,.v 7] (.jump 4 [.c (.bool true),.v 22,.v 19,.v 20]))) (.jump 4 [.v 15,.v 17,.v 19,.v 20]))
def ir49p3 : IR := (.op (.bin .lss false) [.v 16,.v 14] (.ite (.v 18) (.letj 4 (.op (.row 2) [.v 0,.v 16] (.letj 1 (.op .chk [.v 17,.v 16] (.op (.get 0 1) [.v 17,.v 16] (.op (.bin .lss false) [.v 21,.c (.int .i64 0)] (.ite (.v 22) (.op (.bin .andNot false) [.v 19,.v 11] (.op (.bin .neq false) [.v 23,.c (.int .u64 0)] (.jump 5 [.v 24]))) (.jump 5 [.c (.bool false)]))))) ir49p2)) ir49p1) (.op (.un .not) [.v 15] (.ite (.v 19) (.ret [.c (.sl []),.c (.int .i64 9)]) (.op (.bin .add false) [.v 7,.c (.int .i64 1)] (.jump 1 [.v 20,.v 17]))))))
def ir49p4 : IR := (.op (.bin .lss false) [.v 12,.v 10] (.ite (.v 13) (.letj 3 (.op (.row 2) [.v 0,.v 12] (.op .chk [.v 8,.v 12] (.op (.get 0 1) [.v 8,.v 12] (.op (.bin .lss false) [.v 16,.c (.int .i64 0)] (.ite (.v 17) (.op (.bin .or false) [.v 11,.v 15] (.jump 3 [.v 18,.v 14,.v 15])) (.jump 3 [.v 11,.v 14,.v 15])))))) ir49p0) (.op .lenL [.v 0] (.loop 3 [.c (.bool false),.c (.int .i64 0),.v 8] ir49p3))))
def ir49p5 : IR := (.call 74 1 true [] [.v 8,.c (.int .i64 (-1))] (.ite (.v 9) (.op .lenL [.v 0] (.loop 2 [.c (.int .u64 0),.c (.int .i64 0)] ir49p4)) (.ret [.v 8,.c (.int .i64 0)])))
def ir49p6 : IR := (.op (.bin .lss false) [.v 4,.v 3] (.ite (.v 6) (.op .chk [.v 5,.v 4] (.op (.set 0 1) [.v 5,.v 4,.c (.int .i64 (-1))] (.op (.bin .add false) [.v 4,.c (.int .i64 1)] (.jump 0 [.v 8,.v 7])))) (.loop 2 [.c (.int .i64 0),.v 5] ir49p5)))
def ir49 : IR := (.op .lenL [.v 0] (.op (.mkL 8 [(.int .i64 0)]) [.v 1] (.op .lenL [.v 2] (.loop 2 [.c (.int .i64 0),.v 2] ir49p6))))
theorem rd49 : readFn T SG sigs 3000 sg49 Tryz.f98 an49 = some ir49 := by kernel_rfl
def an50 : Ann := .z
def ir50 : IR := (.op .lenL [.v 0] (.op (.bin .geq false) [.v 1,.v 2] (.ite (.v 3) (.ret [.c (.int .i64 0),.v 0,.v 1]) (.op (.bin .add false) [.v 1,.c (.int .i64 1)] (.op (.bin .sub false) [.v 4,.c (.int .i64 1)] (.op (.row 1) [.v 0,.v 5] (.ret [.v 6,.v 0,.v 4])))))))
theorem rd50 : readFn T SG sigs 3000 sg50 Tryz.f71 an50 = some ir50 := by kernel_rfl
def an51 : Ann := (.s none .z (.s none .z (.s none .z (.s (some ⟨1,[(0,(.atm (.v 0))),(1,.junk),(4,.junk),(5,.junk),(6,.junk),(7,.junk),(8,.junk),(9,.junk)],[],0,[]⟩) .z .z))))
def ir51p0 : IR := (.ret [.v 4])
def ir51 : IR := (.op (.bin .lss false) [.v 1,.c (.int .i64 1)] (.ite (.v 2) (.ret [.c (.int .i64 0)]) (.op (.bin .rem false) [.v 0,.v 1] (.letj 1 (.op (.bin .lss false) [.v 3,.c (.int .i64 0)] (.ite (.v 4) (.op (.bin .add false) [.v 3,.v 1] (.jump 0 [.v 5])) (.jump 0 [.v 3]))) ir51p0))))
theorem rd51 : readFn T SG sigs 3000 sg51 Tryz.f115 an51 = some ir51 := by kernel_rfl
def an52 : Ann := (.s none .z (.s none (.s none .z (.b (.l ⟨1,[(2,.junk),(3,(.atm (.v 0)))],[],0,[]⟩ (.s none .z (.s none (.b (.s (some ⟨1,[(4,.junk),(5,.junk),(6,.junk),(7,.junk),(31,(.atm (.v 0)))],[],0,[]⟩) .z .z)) .z))))) .z))
def ir52p0 : IR := (.ite (.v 4) (.ret [.c (.bool false)]) (.op (.bin .add false) [.v 1,.c (.int .i64 1)] (.jump 0 [.v 5])))
def ir52p1 : IR := (.op .lenL [.v 0] (.op (.bin .lss false) [.v 1,.v 2] (.ite (.v 3) (.letj 1 (.op (.row 1) [.v 0,.v 1] (.call 75 1 false [] [.v 4] (.op (.un .not) [.v 5] (.ite (.v 6) (.jump 1 [.c (.bool true)]) (.op (.bin .gtr false) [.v 1,.c (.int .i64 0)] (.ite (.v 7) (.op (.row 1) [.v 0,.v 1] (.op (.bin .sub false) [.v 1,.c (.int .i64 1)] (.op (.row 1) [.v 0,.v 9] (.op (.bin .leq false) [.v 8,.v 10] (.jump 1 [.v 11]))))) (.jump 1 [.c (.bool false)]))))))) ir52p0) (.op .lenL [.v 0] (.op (.bin .leq false) [.v 4,.c (.int .i64 6)] (.ret [.v 5]))))))
def ir52 : IR := (.loop 1 [.c (.int .i64 0)] ir52p1)
theorem rd52 : readFn T SG sigs 3000 sg52 Tryz.f69 an52 = some ir52 := by kernel_rfl
def an53 : Ann := (.s none .z (.s none (.s none .z (.b (.l ⟨1,[(4,.junk),(6,.junk),(8,(.atm (.v 0)))],[],0,[]⟩ .z))) .z))
def ir53p0 : IR := (.op (.bin .lss false) [.v 3,.v 2] (.ite (.v 4) (.op (.row 1) [.v 0,.v 3] (.op (.bin .eql false) [.v 5,.v 1] (.ite (.v 6) (.ret [.c (.bool true)]) (.op (.bin .add false) [.v 3,.c (.int .i64 1)] (.jump 0 [.v 7]))))) (.ret [.c (.bool false)])))
def ir53 : IR := (.op .lenL [.v 0] (.loop 1 [.c (.int .i64 0)] ir53p0))
theorem rd53 : readFn T SG sigs 3000 sg53 Tryz.f116 an53 = some ir53 := by kernel_rfl
def an54 : Ann := (.s none .z (.s none (.s (some ⟨1,[(2,.junk),(12,(.atm (.v 0)))],[],0,[]⟩) .z .z) (.s none (.s none .z (.b (.l ⟨1,[(12,.junk),(13,.junk),(15,(.atm (.v 0)))],[],0,[]⟩ (.s none .z (.s none .z (.s (some ⟨0,[(16,.junk)],[],0,[]⟩) (.b (.s none .z (.s none .z (.b (.s (some ⟨1,[(16,.junk),(17,.junk),(18,.junk),(19,.junk),(20,.junk),(21,(.atm (.v 0)))],[],0,[]⟩) .z (.c .z (.s (some ⟨1,[(3,.junk),(4,.junk),(21,.junk),(28,(.atm (.v 0)))],[],0,[]⟩) .z .z))))))) .z)))))) .z)))
def ir54p0 : IR := (.op (.bin .add false) [.v 3,.c (.int .i64 1)] (.jump 0 [.v 5]))
def ir54p1 : IR := (.ite (.v 7) (.jump 1 []) (.ret [.c (.bool false)]))
def ir54p2 : IR := (.ite (.v 6) (.jump 1 []) (.letj 1 (.op (.bin .gtr false) [.v 3,.c (.int .i64 0)] (.ite (.v 7) (.op (.bin .geq false) [.v 5,.c (.int .u8 48)] (.ite (.v 8) (.op (.bin .leq false) [.v 5,.c (.int .u8 57)] (.ite (.v 9) (.jump 2 [.c (.bool true)]) (.op (.bin .eql false) [.v 5,.c (.int .u8 95)] (.jump 2 [.v 10])))) (.op (.bin .eql false) [.v 5,.c (.int .u8 95)] (.jump 2 [.v 9])))) (.jump 2 [.c (.bool false)]))) ir54p1))
def ir54p3 : IR := (.op (.bin .lss false) [.v 3,.v 2] (.ite (.v 4) (.letj 0 (.op .idxS [.v 0,.v 3] (.letj 1 (.op (.bin .geq false) [.v 5,.c (.int .u8 97)] (.ite (.v 6) (.op (.bin .leq false) [.v 5,.c (.int .u8 122)] (.jump 2 [.v 7])) (.jump 2 [.c (.bool false)]))) ir54p2)) ir54p0) (.ret [.c (.bool true)])))
def ir54p4 : IR := (.ite (.v 1) (.ret [.c (.bool false)]) (.op .lenS [.v 0] (.loop 1 [.c (.int .i64 0)] ir54p3)))
def ir54 : IR := (.letj 1 (.op .lenS [.v 0] (.op (.bin .eql false) [.v 1,.c (.int .i64 0)] (.ite (.v 2) (.jump 0 [.c (.bool true)]) (.op .lenS [.v 0] (.op (.bin .gtr false) [.v 3,.c (.int .i64 12)] (.jump 0 [.v 4])))))) ir54p4)
theorem rd54 : readFn T SG sigs 3000 sg54 Tryz.f147 an54 = some ir54 := by kernel_rfl
def an55 : Ann := (.s none .z (.s none (.b (.s (some ⟨1,[(0,.junk),(2,.junk),(3,(.atm (.v 0)))],[],1,[]⟩) .z .z)) .z))
def ir55p0 : IR := (.ite (.v 3) (.ret [.c (.int .i64 2)]) (.call 78 1 false [] [.v 0,.v 1,.v 2] (.op (.un .not) [.v 4] (.ite (.v 5) (.ret [.c (.int .i64 4)]) (.call 79 1 false [] [.v 0,.v 1,.v 2] (.op (.un .not) [.v 6] (.ite (.v 7) (.ret [.c (.int .i64 3)]) (.ret [.c (.int .i64 0)]))))))))
def ir55 : IR := (.letj 1 (.call 76 1 false [] [.v 0,.v 1,.v 2] (.op (.bin .gtr false) [.v 3,.c (.int .i64 600)] (.ite (.v 4) (.jump 0 [.c (.bool true)]) (.call 77 1 false [] [.v 0,.v 1,.v 2] (.op (.bin .gtr false) [.v 5,.c (.int .i64 20)] (.jump 0 [.v 6])))))) ir55p0)
theorem rd55 : readFn T SG sigs 3000 sg55 Tryz.f119 an55 = some ir55 := by kernel_rfl
def an57 : Ann := .z
def ir57 : IR := (.call 80 1 false [] [.v 0,.v 1] (.op (.bin .geq false) [.v 2,.c (.int .i64 0)] (.ret [.v 3])))
theorem rd57 : readFn T SG sigs 3000 sg57 Tryz.f121 an57 = some ir57 := by kernel_rfl
def an58 : Ann := (.s none .z (.s none (.s none .z (.b (.s none .z (.c .z (.s none .z (.c .z (.s none .z (.c .z (.s none .z (.c .z (.s none .z (.c .z (.s none .z (.c (.s none .z (.s none (.s none .z (.b (.l ⟨2,[(1,.junk),(3,.junk),(4,.junk),(5,(.atm (.v 0))),(11,.junk),(12,.junk),(13,.junk),(14,.junk),(15,.junk),(16,.junk),(22,.junk),(23,.junk),(31,.junk),(32,.junk),(47,.junk),(48,.junk),(63,.junk),(64,.junk),(65,.junk),(68,(.atm (.v 1)))],[],1,[]⟩ .z))) .z)) .z)))))))))))))) (.s none .z (.s none (.s none .z (.b (.l ⟨2,[(1,.junk),(3,.junk),(4,.junk),(8,(.atm (.v 0))),(11,.junk),(12,.junk),(13,.junk),(14,.junk),(15,.junk),(16,.junk),(22,.junk),(23,.junk),(31,.junk),(32,.junk),(47,.junk),(48,.junk),(63,.junk),(64,.junk),(79,.junk),(82,(.atm (.v 1)))],[],1,[]⟩ .z))) .z))))
def ir58p0 : IR := (.op (.bin .lss false) [.v 12,.v 10] (.ite (.v 13) (.op (.row 3) [.v 3,.v 12] (.call 58 1 false [] [.v 0,.v 14,.v 15,.v 16] (.op (.bin .and false) [.v 11,.v 17] (.op (.bin .add false) [.v 12,.c (.int .i64 1)] (.jump 0 [.v 18,.v 19]))))) (.ret [.v 11])))
def ir58p1 : IR := (.op (.bin .lss false) [.v 12,.v 10] (.ite (.v 13) (.op (.row 3) [.v 3,.v 12] (.call 58 1 false [] [.v 0,.v 14,.v 15,.v 16] (.op (.bin .or false) [.v 11,.v 17] (.op (.bin .add false) [.v 12,.c (.int .i64 1)] (.jump 0 [.v 18,.v 19]))))) (.ret [.v 11])))
def ir58 : IR := (.op (.bin .eql false) [.v 1,.c (.int .i64 1)] (.ite (.v 4) (.ret [.c (.int .u64 18446744073709551615)]) (.op (.bin .eql false) [.v 1,.c (.int .i64 3)] (.ite (.v 5) (.call 80 1 false [] [.v 0,.v 2] (.call 81 1 false [] [.v 6] (.ret [.v 7]))) (.op (.bin .eql false) [.v 1,.c (.int .i64 4)] (.ite (.v 6) (.op (.row 3) [.v 3,.c (.int .i64 0)] (.call 58 1 false [] [.v 0,.v 7,.v 8,.v 9] (.op (.un .xor) [.v 10] (.ret [.v 11])))) (.op (.bin .eql false) [.v 1,.c (.int .i64 7)] (.ite (.v 7) (.op (.row 3) [.v 3,.c (.int .i64 0)] (.call 58 1 false [] [.v 0,.v 8,.v 9,.v 10] (.op (.un .xor) [.v 11] (.op (.row 3) [.v 3,.c (.int .i64 1)] (.call 58 1 false [] [.v 0,.v 13,.v 14,.v 15] (.op (.bin .or false) [.v 12,.v 16] (.ret [.v 17]))))))) (.op (.bin .eql false) [.v 1,.c (.int .i64 8)] (.ite (.v 8) (.op (.row 3) [.v 3,.c (.int .i64 0)] (.call 58 1 false [] [.v 0,.v 9,.v 10,.v 11] (.op (.row 3) [.v 3,.c (.int .i64 1)] (.call 58 1 false [] [.v 0,.v 13,.v 14,.v 15] (.op (.bin .xor false) [.v 12,.v 16] (.op (.un .xor) [.v 17] (.ret [.v 18]))))))) (.op (.bin .eql false) [.v 1,.c (.int .i64 5)] (.ite (.v 9) (.op .lenL [.v 3] (.loop 2 [.c (.int .u64 18446744073709551615),.c (.int .i64 0)] ir58p0)) (.op .lenL [.v 3] (.loop 2 [.c (.int .u64 0),.c (.int .i64 0)] ir58p1))))))))))))))
theorem rd58 : readFn T SG sigs 3000 sg58 Tryz.f122 an58 = some ir58 := by kernel_rfl
def an59 : Ann := .z
def ir59 : IR := (.call 25 1 false [] [.v 0] (.op (.un .not) [.v 1] (.ite (.v 2) (.ret [.c (.int .u64 0)]) (.op .lenL [.v 0] (.call 82 1 false [] [.v 3] (.ret [.v 4]))))))
theorem rd59 : readFn T SG sigs 3000 sg59 Tryz.f87 an59 = some ir59 := by kernel_rfl
def an61 : Ann := .z
def ir61 : IR := (.call 83 2 false [0] [.v 0] (.call 84 1 false [0] [.v 1] (.ret [.v 3,.v 2])))
theorem rd61 : readFn T SG sigs 3000 sg61 Tryz.f125 an61 = some ir61 := by kernel_rfl
def an64 : Ann := (.s none .z (.s none .z (.s none .z (.s none (.b (.l ⟨2,[(4,.junk),(5,.junk),(7,(.atm (.v 0))),(8,(.atm (.v 1))),(10,.junk),(11,.junk),(12,.junk)],[],0,[]⟩ .z)) .z))))
def ir64p0 : IR := (.op (.bin .lss false) [.v 3,.v 4] (.ite (.v 5) (.op (.bin .add false) [.v 3,.v 4] (.op (.conv .u64) [.v 6] (.op (.bin .shr false) [.v 7,.c (.int .u64 1)] (.op (.conv .i64) [.v 8] (.op (.row 1) [.v 0,.v 9] (.call 85 1 false [] [.v 10,.v 1] (.ite (.v 11) (.op (.bin .add false) [.v 9,.c (.int .i64 1)] (.jump 0 [.v 12,.v 4])) (.jump 0 [.v 3,.v 9])))))))) (.op (.bin .lss false) [.v 3,.v 2] (.ite (.v 6) (.op (.row 1) [.v 0,.v 3] (.op (.bin .eql false) [.v 7,.v 1] (.ite (.v 8) (.ret [.v 3,.c (.bool true)]) (.op (.row 1) [.v 0,.v 3] (.call 86 1 false [] [.v 9] (.ite (.v 10) (.call 86 1 false [] [.v 1] (.ret [.v 3,.v 11])) (.ret [.v 3,.c (.bool false)]))))))) (.ret [.v 3,.c (.bool false)])))))
def ir64 : IR := (.op .lenL [.v 0] (.loop 2 [.c (.int .i64 0),.v 2] ir64p0))
theorem rd64 : readFn T SG sigs 3000 sg64 Tryz.f128 an64 = some ir64 := by kernel_rfl
def an65 : Ann := .z
def ir65 : IR := (.call 87 1 false [] [.v 0,.v 1] (.op (.bin .geq false) [.v 2,.c (.int .i64 0)] (.ret [.v 3])))
theorem rd65 : readFn T SG sigs 3000 sg65 Tryz.f136 an65 = some ir65 := by kernel_rfl
def an66 : Ann := (.s none .z (.s none .z (.s none .z (.s none .z (.s none .z (.s none .z (.s none .z (.s none .z (.s none .z (.s none (.b (.s (some ⟨1,[(0,.junk),(1,.junk),(5,.junk),(12,.junk),(13,.junk),(14,.junk),(15,.junk),(16,.junk),(17,.junk),(19,.junk),(20,.junk),(21,.junk),(23,.junk),(24,.junk),(25,.junk),(26,.junk),(27,.junk),(28,.junk),(29,.junk),(30,.junk),(31,.junk),(32,.junk),(36,.junk),(37,.junk),(38,.junk),(39,.junk),(40,.junk),(41,.junk),(42,.junk),(43,.junk),(44,.junk),(45,.junk),(46,.junk),(47,.junk),(48,.junk),(49,(.atm (.v 0)))],[],4,[]⟩) .z (.c .z (.s none .z (.c .z (.s (some ⟨1,[(49,.junk),(58,.junk),(59,.junk),(60,.junk),(61,.junk),(67,(.atm (.v 0)))],[],4,[]⟩) .z .z)))))) .z))))))))))
def ir66p0 : IR := (.ite (.v 18) (.ret [.c (.int .i64 4),.c (.str []),.v 13]) (.op (.bin .eql false) [.v 8,.c (.int .u64 0)] (.ite (.v 19) (.call 66 3 false [] [.v 7,.v 9] (.call 89 3 false [] [.c (.int .i64 5),.c (.int .i64 4),.c (.str []),.v 13,.v 20,.v 21,.v 22] (.ret [.v 23,.v 24,.v 25]))) (.op (.bin .eql false) [.v 9,.v 15] (.ite (.v 20) (.call 66 3 false [] [.v 7,.v 8] (.call 89 3 false [] [.c (.int .i64 6),.c (.int .i64 4),.c (.str []),.v 13,.v 21,.v 22,.v 23] (.ret [.v 24,.v 25,.v 26]))) (.op (.bin .eql false) [.v 9,.c (.int .u64 0)] (.ite (.v 21) (.call 66 3 false [] [.v 7,.v 8] (.call 89 3 false [] [.c (.int .i64 5),.c (.int .i64 3),.v 11,.c (.sl []),.v 22,.v 23,.v 24] (.ret [.v 25,.v 26,.v 27]))) (.call 66 3 false [] [.v 7,.v 8] (.call 89 3 false [] [.c (.int .i64 5),.c (.int .i64 3),.v 11,.c (.sl []),.v 22,.v 23,.v 24] (.call 66 3 false [] [.v 7,.v 9] (.call 89 3 false [] [.c (.int .i64 5),.c (.int .i64 4),.c (.str []),.v 13,.v 28,.v 29,.v 30] (.call 89 3 false [] [.c (.int .i64 6),.v 25,.v 26,.v 27,.v 31,.v 32,.v 33] (.ret [.v 34,.v 35,.v 36])))))))))))))
def ir66p1 : IR := (.ite (.v 16) (.ret [.c (.int .i64 3),.v 11,.c (.sl [])]) (.op (.bin .eql false) [.v 8,.v 15] (.ite (.v 17) (.call 66 3 false [] [.v 7,.v 9] (.call 89 3 false [] [.c (.int .i64 6),.c (.int .i64 3),.v 11,.c (.sl []),.v 18,.v 19,.v 20] (.ret [.v 21,.v 22,.v 23]))) (.letj 1 (.op (.bin .eql false) [.v 8,.c (.int .u64 0)] (.ite (.v 18) (.op (.bin .eql false) [.v 9,.v 15] (.jump 0 [.v 19])) (.jump 0 [.c (.bool false)]))) ir66p0))))
def ir66 : IR := (.op .lenL [.v 0] (.call 82 1 false [] [.v 2] (.op (.bin .eql false) [.v 1,.c (.int .u64 0)] (.ite (.v 4) (.ret [.c (.int .i64 2),.c (.str []),.c (.sl [])]) (.op (.bin .eql false) [.v 1,.v 3] (.ite (.v 5) (.ret [.c (.int .i64 1),.c (.str []),.c (.sl [])]) (.op .lenL [.v 0] (.op (.subL 1) [.v 0,.c (.int .i64 1),.v 6] (.call 88 2 false [] [.v 1] (.op (.bin .eql false) [.v 8,.v 9] (.ite (.v 10) (.call 66 3 false [] [.v 7,.v 8] (.ret [.v 11,.v 12,.v 13])) (.op (.row 1) [.v 0,.c (.int .i64 0)] (.op (.row 1) [.v 0,.c (.int .i64 0)] (.op (.mk 3 1) [.c (.int .i64 3),.v 12,.c (.sl [])] (.op .lenL [.v 7] (.call 82 1 false [] [.v 14] (.letj 1 (.op (.bin .eql false) [.v 8,.v 15] (.ite (.v 16) (.op (.bin .eql false) [.v 9,.c (.int .u64 0)] (.jump 0 [.v 17])) (.jump 0 [.c (.bool false)]))) ir66p1)))))))))))))))))
theorem rd66 : readFn T SG sigs 3000 sg66 Tryz.f149 an66 = some ir66 := by kernel_rfl
def an67 : Ann := (.s none .z (.s none .z (.s none .z (.s none .z (.s none .z (.s none .z (.s none (.b (.s none .z (.c .z (.s (some ⟨1,[(0,.junk),(1,.junk),(9,.junk),(10,.junk),(11,.junk),(12,.junk),(13,.junk),(15,.junk),(16,.junk),(17,.junk),(18,.junk),(19,.junk),(20,.junk),(21,.junk),(23,.junk),(24,.junk),(25,.junk),(26,.junk),(27,.junk),(28,.junk),(29,.junk),(30,.junk),(31,.junk),(32,.junk),(33,.junk),(34,.junk),(35,.junk),(36,.junk),(37,.junk),(38,.junk),(39,.junk),(40,.junk),(41,.junk),(42,.junk),(43,.junk),(44,.junk),(45,.junk),(47,(.atm (.v 0)))],[],18,[]⟩) .z (.c .z (.s none .z (.c .z (.s (some ⟨1,[(47,.junk),(57,.junk),(58,.junk),(59,.junk),(60,.junk),(64,(.atm (.v 0)))],[],18,[]⟩) .z .z)))))))) .z)))))))
def ir67p0 : IR := (.ite (.v 26) (.ret [.c (.int .i64 4),.c (.str []),.v 10]) (.op (.bin .eql false) [.v 14,.c (.int .i64 2)] (.ite (.v 27) (.call 93 3 false [] [.c (.int .i64 5),.c (.int .i64 4),.c (.str []),.v 10,.v 20,.v 21,.v 22] (.ret [.v 28,.v 29,.v 30])) (.op (.bin .eql false) [.v 20,.c (.int .i64 1)] (.ite (.v 28) (.call 93 3 false [] [.c (.int .i64 6),.c (.int .i64 4),.c (.str []),.v 10,.v 14,.v 15,.v 16] (.ret [.v 29,.v 30,.v 31])) (.op (.bin .eql false) [.v 20,.c (.int .i64 2)] (.ite (.v 29) (.call 93 3 false [] [.c (.int .i64 5),.c (.int .i64 3),.v 9,.c (.sl []),.v 14,.v 15,.v 16] (.ret [.v 30,.v 31,.v 32])) (.call 93 3 false [] [.c (.int .i64 5),.c (.int .i64 3),.v 9,.c (.sl []),.v 14,.v 15,.v 16] (.call 93 3 false [] [.c (.int .i64 5),.c (.int .i64 4),.c (.str []),.v 10,.v 20,.v 21,.v 22] (.call 93 3 false [] [.c (.int .i64 6),.v 30,.v 31,.v 32,.v 33,.v 34,.v 35] (.ret [.v 36,.v 37,.v 38])))))))))))
def ir67p1 : IR := (.ite (.v 24) (.ret [.c (.int .i64 3),.v 9,.c (.sl [])]) (.op (.bin .eql false) [.v 14,.c (.int .i64 1)] (.ite (.v 25) (.call 93 3 false [] [.c (.int .i64 6),.c (.int .i64 3),.v 9,.c (.sl []),.v 20,.v 21,.v 22] (.ret [.v 26,.v 27,.v 28])) (.letj 1 (.op (.bin .eql false) [.v 14,.c (.int .i64 2)] (.ite (.v 26) (.op (.bin .eql false) [.v 20,.c (.int .i64 1)] (.jump 0 [.v 27])) (.jump 0 [.c (.bool false)]))) ir67p0))))
def ir67 : IR := (.call 90 1 false [] [.v 0] (.op (.bin .and false) [.v 1,.v 2] (.op (.bin .eql false) [.v 3,.c (.int .u64 0)] (.ite (.v 4) (.ret [.c (.int .i64 2),.c (.str []),.c (.sl [])]) (.call 90 1 false [] [.v 0] (.op (.bin .and false) [.v 1,.v 5] (.call 90 1 false [] [.v 0] (.op (.bin .eql false) [.v 6,.v 7] (.ite (.v 8) (.ret [.c (.int .i64 1),.c (.str []),.c (.sl [])]) (.op (.row 1) [.v 0,.c (.int .i64 0)] (.op (.mk 3 1) [.c (.int .i64 3),.v 9,.c (.sl [])] (.op .lenL [.v 0] (.op (.subL 1) [.v 0,.c (.int .i64 1),.v 11] (.call 91 1 false [] [.v 0,.v 1,.c (.int .i64 1)] (.call 67 3 false [] [.v 12,.v 13] (.op .lenL [.v 0] (.op (.subL 1) [.v 0,.c (.int .i64 1),.v 17] (.call 91 1 false [] [.v 0,.v 1,.c (.int .i64 0)] (.call 67 3 false [] [.v 18,.v 19] (.call 92 1 false [] [.v 14,.v 15,.v 16,.v 20,.v 21,.v 22] (.ite (.v 23) (.ret [.v 14,.v 15,.v 16]) (.letj 1 (.op (.bin .eql false) [.v 14,.c (.int .i64 1)] (.ite (.v 24) (.op (.bin .eql false) [.v 20,.c (.int .i64 2)] (.jump 0 [.v 25])) (.jump 0 [.c (.bool false)]))) ir67p1))))))))))))))))))))))
theorem rd67 : readFn T SG sigs 3000 sg67 Tryz.f114 an67 = some ir67 := by kernel_rfl
def an68 : Ann := (.s none .z (.s none (.s (some ⟨1,[(0,.junk),(2,.junk),(10,(.atm (.v 0)))],[],1,[]⟩) .z .z) .z))
def ir68p0 : IR := (.ite (.v 3) (.ret [.c (.int .i64 2)]) (.call 96 1 false [] [.v 0,.v 1,.v 2] (.op (.un .not) [.v 4] (.ite (.v 5) (.ret [.c (.int .i64 4)]) (.call 97 1 false [] [.v 0,.v 1,.v 2] (.op (.un .not) [.v 6] (.ite (.v 7) (.ret [.c (.int .i64 3)]) (.ret [.c (.int .i64 0)]))))))))
def ir68 : IR := (.letj 1 (.call 94 1 false [] [.v 0,.v 1,.v 2] (.op (.bin .gtr false) [.v 3,.c (.int .i64 600)] (.ite (.v 4) (.jump 0 [.c (.bool true)]) (.call 95 1 false [] [.v 0,.v 1,.v 2] (.op (.bin .gtr false) [.v 5,.c (.int .i64 20)] (.jump 0 [.v 6])))))) ir68p0)
theorem rd68 : readFn T SG sigs 3000 sg68 Tryz.f82 an68 = some ir68 := by kernel_rfl
def an69 : Ann := .z
def ir69 : IR := (.call 98 1 false [] [.c (.sl []),.v 0,.v 1,.v 2] (.ret [.v 3]))
theorem rd69 : readFn T SG sigs 3000 sg69 Tryz.f83 an69 = some ir69 := by kernel_rfl
def an70 : Ann := (.s none .z (.s none (.s none .z (.b (.l ⟨1,[(4,.junk),(5,(.atm (.v 0)))],[],0,[]⟩ .z))) .z))
def ir70p0 : IR := (.op .lenL [.v 0] (.op (.bin .lss false) [.v 2,.v 3] (.ite (.v 4) (.op (.row 1) [.v 0,.v 2] (.op (.bin .eql false) [.v 5,.v 1] (.ite (.v 6) (.ret [.v 2]) (.op (.bin .add false) [.v 2,.c (.int .i64 1)] (.jump 0 [.v 7]))))) (.ret [.c (.int .i64 (-1))]))))
def ir70 : IR := (.loop 1 [.c (.int .i64 0)] ir70p0)
theorem rd70 : readFn T SG sigs 3000 sg70 Tryz.f84 an70 = some ir70 := by kernel_rfl
def an71 : Ann := .z
def ir71 : IR := (.op .lenL [.v 0] (.op (.conv .u64) [.v 1] (.op (.bin .shl false) [.c (.int .i64 1),.v 2] (.ret [.v 3]))))
theorem rd71 : readFn T SG sigs 3000 sg71 Tryz.f70 an71 = some ir71 := by kernel_rfl
def an72 : Ann := (.s none .z (.s none .z (.s none (.s none .z (.b (.l ⟨2,[(4,.junk),(6,(.atm (.v 0)))],[(0,⟨false,true,9,1,.v 1,[]⟩)],1,[⟨none,5,9,1⟩]⟩ (.s none .z (.s (some ⟨1,[(7,.junk),(8,.junk),(9,.junk),(10,.junk)],[(0,⟨false,true,9,1,.v 0,[]⟩)],1,[]⟩) .z .z))))) .z)))
def ir72p0 : IR := (.op (.bin .add false) [.v 2,.c (.int .i64 1)] (.jump 0 [.v 7,.v 6]))
def ir72p1 : IR := (.op .lenL [.v 0] (.op (.bin .lss false) [.v 2,.v 4] (.ite (.v 5) (.letj 1 (.op (.conv .u64) [.v 2] (.op (.bin .shr false) [.v 1,.v 6] (.op (.bin .and false) [.v 7,.c (.int .i64 1)] (.op (.bin .eql false) [.v 8,.c (.int .i64 1)] (.ite (.v 9) (.op (.row 1) [.v 0,.v 2] (.op (.mk 1 1) [.v 10] (.op (.app 1 16) [.v 3,.v 11] (.jump 1 [.v 12])))) (.jump 1 [.v 3])))))) ir72p0) (.ret [.v 3]))))
def ir72 : IR := (.loop 2 [.c (.int .i64 0),.c (.sl [])] ir72p1)
theorem rd72 : readFn T SG sigs 3000 sg72 Tryz.f86 an72 = some ir72 := by kernel_rfl
def an73 : Ann := .z
def ir73 : IR := (.call 96 1 false [] [.v 0,.v 1,.v 2] (.ite (.v 4) (.call 97 1 false [] [.v 0,.v 1,.v 2] (.ite (.v 5) (.call 99 1 false [] [.v 0,.v 1,.v 2,.v 3] (.ret [.v 6])) (.ret [.c (.bool false)]))) (.ret [.c (.bool false)])))
theorem rd73 : readFn T SG sigs 3000 sg73 Tryz.f85 an73 = some ir73 := by kernel_rfl
def an74 : Ann := .z
def ir74 : IR := (.call 100 1 false [] [.v 0,.v 1] (.op (.bin .geq false) [.v 2,.c (.int .i64 0)] (.ret [.v 3])))
theorem rd74 : readFn T SG sigs 3000 sg74 Tryz.f137 an74 = some ir74 := by kernel_rfl
def an75 : Ann := (.s none .z (.s none (.s (some ⟨1,[(2,.junk),(21,(.atm (.v 0)))],[],0,[]⟩) .z .z) (.s none (.s none .z (.b (.l ⟨1,[(3,(.atm (.v 0))),(21,.junk)],[],0,[]⟩ (.s none .z (.s none (.b (.s (some ⟨1,[(22,.junk),(23,.junk),(24,.junk),(25,.junk),(55,(.atm (.v 0)))],[],0,[]⟩) .z .z)) .z))))) .z)))
def ir75p0 : IR := (.ite (.v 5) (.ret [.c (.bool false)]) (.op (.bin .add false) [.v 2,.c (.int .i64 1)] (.jump 0 [.v 6])))
def ir75p1 : IR := (.op .lenS [.v 0] (.op (.bin .lss false) [.v 2,.v 3] (.ite (.v 4) (.letj 1 (.op .idxS [.v 0,.v 2] (.op (.bin .lss false) [.v 5,.c (.int .u8 97)] (.ite (.v 6) (.op .idxS [.v 0,.v 2] (.op (.bin .lss false) [.v 7,.c (.int .u8 48)] (.ite (.v 8) (.op .idxS [.v 0,.v 2] (.op (.bin .neq false) [.v 9,.c (.int .u8 95)] (.jump 1 [.v 10]))) (.op .idxS [.v 0,.v 2] (.op (.bin .gtr false) [.v 9,.c (.int .u8 57)] (.ite (.v 10) (.op .idxS [.v 0,.v 2] (.op (.bin .neq false) [.v 11,.c (.int .u8 95)] (.jump 1 [.v 12]))) (.jump 1 [.c (.bool false)]))))))) (.op .idxS [.v 0,.v 2] (.op (.bin .gtr false) [.v 7,.c (.int .u8 122)] (.ite (.v 8) (.op .idxS [.v 0,.v 2] (.op (.bin .lss false) [.v 9,.c (.int .u8 48)] (.ite (.v 10) (.op .idxS [.v 0,.v 2] (.op (.bin .neq false) [.v 11,.c (.int .u8 95)] (.jump 1 [.v 12]))) (.op .idxS [.v 0,.v 2] (.op (.bin .gtr false) [.v 11,.c (.int .u8 57)] (.ite (.v 12) (.op .idxS [.v 0,.v 2] (.op (.bin .neq false) [.v 13,.c (.int .u8 95)] (.jump 1 [.v 14]))) (.jump 1 [.c (.bool false)]))))))) (.jump 1 [.c (.bool false)]))))))) ir75p0) (.ret [.c (.bool true)]))))
def ir75p2 : IR := (.ite (.v 1) (.ret [.c (.bool false)]) (.loop 1 [.c (.int .i64 0)] ir75p1))
def ir75 : IR := (.letj 1 (.op .lenS [.v 0] (.op (.bin .lss false) [.v 1,.c (.int .i64 1)] (.ite (.v 2) (.jump 0 [.c (.bool true)]) (.op .lenS [.v 0] (.op (.bin .gtr false) [.v 3,.c (.int .i64 12)] (.ite (.v 4) (.jump 0 [.c (.bool true)]) (.op .idxS [.v 0,.c (.int .i64 0)] (.op (.bin .lss false) [.v 5,.c (.int .u8 97)] (.ite (.v 6) (.jump 0 [.c (.bool true)]) (.op .idxS [.v 0,.c (.int .i64 0)] (.op (.bin .gtr false) [.v 7,.c (.int .u8 122)] (.jump 0 [.v 8])))))))))))) ir75p2)
theorem rd75 : readFn T SG sigs 3000 sg75 Tryz.f117 an75 = some ir75 := by kernel_rfl
def an76 : Ann := (.s none .z (.s none .z (.s none (.s none .z (.b (.l ⟨2,[(0,.junk),(1,.junk),(2,.junk),(3,(.atm (.v 0))),(6,.junk),(9,(.atm (.v 1)))],[],1,[]⟩ .z))) .z)))
def ir76p0 : IR := (.op (.bin .lss false) [.v 5,.v 3] (.ite (.v 6) (.op (.row 3) [.v 2,.v 5] (.call 76 1 false [] [.v 7,.v 8,.v 9] (.op (.bin .add false) [.v 4,.v 10] (.op (.bin .add false) [.v 5,.c (.int .i64 1)] (.jump 0 [.v 11,.v 12]))))) (.ret [.v 4])))
def ir76 : IR := (.op .lenL [.v 2] (.loop 2 [.c (.int .i64 1),.c (.int .i64 0)] ir76p0))
theorem rd76 : readFn T SG sigs 3000 sg76 Tryz.f153 an76 = some ir76 := by kernel_rfl
def an77 : Ann := (.s none .z (.s none .z (.s none (.s none .z (.b (.l ⟨2,[(0,.junk),(1,.junk),(2,.junk),(3,(.atm (.v 0))),(6,.junk),(9,(.atm (.v 1)))],[],1,[]⟩ .z))) .z)))
def ir77p0 : IR := (.op (.bin .lss false) [.v 5,.v 3] (.ite (.v 6) (.op (.row 3) [.v 2,.v 5] (.call 77 1 false [] [.v 7,.v 8,.v 9] (.op (.bin .add false) [.c (.int .i64 1),.v 10] (.op .max [.v 4,.v 11] (.op (.bin .add false) [.v 5,.c (.int .i64 1)] (.jump 0 [.v 12,.v 13])))))) (.ret [.v 4])))
def ir77 : IR := (.op .lenL [.v 2] (.loop 2 [.c (.int .i64 0),.c (.int .i64 0)] ir77p0))
theorem rd77 : readFn T SG sigs 3000 sg77 Tryz.f154 an77 = some ir77 := by kernel_rfl
def an78 : Ann := (.s none .z (.s none .z (.s none (.s none .z (.b (.l ⟨1,[(0,.junk),(2,.junk),(4,.junk),(7,.junk),(8,.junk),(9,.junk),(10,.junk),(11,.junk),(14,(.atm (.v 0)))],[],1,[]⟩ .z))) .z)))
def ir78p0 : IR := (.op (.bin .lss false) [.v 6,.v 5] (.ite (.v 7) (.op (.row 3) [.v 2,.v 6] (.call 78 1 false [] [.v 8,.v 9,.v 10] (.op (.un .not) [.v 11] (.ite (.v 12) (.ret [.c (.bool false)]) (.op (.bin .add false) [.v 6,.c (.int .i64 1)] (.jump 0 [.v 13])))))) (.ret [.c (.bool true)])))
def ir78 : IR := (.call 101 1 false [] [.v 0,.v 1,.v 2] (.op (.un .not) [.v 3] (.ite (.v 4) (.ret [.c (.bool false)]) (.op .lenL [.v 2] (.loop 1 [.c (.int .i64 0)] ir78p0)))))
theorem rd78 : readFn T SG sigs 3000 sg78 Tryz.f155 an78 = some ir78 := by kernel_rfl
def an79 : Ann := (.s none .z (.s none .z (.s none (.s none .z (.b (.l ⟨1,[(0,.junk),(2,.junk),(4,.junk),(7,.junk),(8,.junk),(9,.junk),(10,.junk),(11,.junk),(14,(.atm (.v 0)))],[],1,[]⟩ .z))) .z)))
def ir79p0 : IR := (.op (.bin .lss false) [.v 6,.v 5] (.ite (.v 7) (.op (.row 3) [.v 2,.v 6] (.call 79 1 false [] [.v 8,.v 9,.v 10] (.op (.un .not) [.v 11] (.ite (.v 12) (.ret [.c (.bool false)]) (.op (.bin .add false) [.v 6,.c (.int .i64 1)] (.jump 0 [.v 13])))))) (.ret [.c (.bool true)])))
def ir79 : IR := (.call 102 1 false [] [.v 0,.v 1,.v 2] (.op (.un .not) [.v 3] (.ite (.v 4) (.ret [.c (.bool false)]) (.op .lenL [.v 2] (.loop 1 [.c (.int .i64 0)] ir79p0)))))
theorem rd79 : readFn T SG sigs 3000 sg79 Tryz.f155 an79 = some ir79 := by kernel_rfl
def an80 : Ann := (.s none .z (.s none (.s none .z (.b (.l ⟨1,[(4,.junk),(6,.junk),(8,(.atm (.v 0)))],[],0,[]⟩ .z))) .z))
def ir80p0 : IR := (.op (.bin .lss false) [.v 3,.v 2] (.ite (.v 4) (.op (.row 1) [.v 0,.v 3] (.op (.bin .eql false) [.v 1,.v 5] (.ite (.v 6) (.ret [.v 3]) (.op (.bin .add false) [.v 3,.c (.int .i64 1)] (.jump 0 [.v 7]))))) (.ret [.c (.int .i64 (-1))])))
def ir80 : IR := (.op .lenL [.v 0] (.loop 1 [.c (.int .i64 0)] ir80p0))
theorem rd80 : readFn T SG sigs 3000 sg80 Tryz.f161 an80 = some ir80 := by kernel_rfl
def an81 : Ann := (.s none .z (.s none .z (.s none (.s none .z (.b (.l ⟨2,[(2,.junk),(3,(.atm (.v 0))),(5,(.atm (.v 1)))],[],0,[]⟩ .z))) .z)))
def ir81p0 : IR := (.op (.bin .lss false) [.v 2,.c (.int .i64 64)] (.ite (.v 3) (.op (.bin .shr false) [.v 2,.v 0] (.op (.bin .and false) [.v 4,.c (.int .i64 1)] (.op (.conv .u64) [.v 5] (.op (.bin .shl false) [.v 6,.v 2] (.op (.bin .or false) [.v 1,.v 7] (.op (.bin .add false) [.v 2,.c (.int .i64 1)] (.jump 0 [.v 8,.v 9]))))))) (.ret [.v 1])))
def ir81 : IR := (.loop 2 [.c (.int .u64 0),.c (.int .i64 0)] ir81p0)
theorem rd81 : readFn T SG sigs 3000 sg81 Tryz.f162 an81 = some ir81 := by kernel_rfl
def an82 : Ann := .z
def ir82 : IR := (.op (.bin .shl false) [.c (.int .u64 1),.v 0] (.op (.bin .sub false) [.c (.int .u64 64),.v 1] (.op (.bin .shr false) [.c (.int .u64 18446744073709551615),.v 2] (.ret [.v 3]))))
theorem rd82 : readFn T SG sigs 3000 sg82 Tryz.f135 an82 = some ir82 := by kernel_rfl
def an85 : Ann := .z
def ir85 : IR := (.call 103 1 false [] [.v 0] (.ite (.v 2) (.call 103 1 false [] [.v 1] (.op (.un .not) [.v 3] (.ite (.v 4) (.ret [.c (.bool true)]) (.op (.bin .lss false) [.v 0,.v 1] (.ret [.v 5]))))) (.op (.bin .lss false) [.v 0,.v 1] (.ret [.v 3]))))
theorem rd85 : readFn T SG sigs 3000 sg85 Tryz.f166 an85 = some ir85 := by kernel_rfl
def an86 : Ann := .z
def ir86 : IR := (.op (.bin .neq false) [.v 0,.v 0] (.ret [.v 1]))
theorem rd86 : readFn T SG sigs 3000 sg86 Tryz.f167 an86 = some ir86 := by kernel_rfl
def an87 : Ann := (.s none .z (.s none (.s none .z (.b (.l ⟨1,[(4,.junk),(6,.junk),(8,(.atm (.v 0)))],[],0,[]⟩ .z))) .z))
def ir87p0 : IR := (.op (.bin .lss false) [.v 3,.v 2] (.ite (.v 4) (.op (.row 1) [.v 0,.v 3] (.op (.bin .eql true) [.v 1,.v 5] (.ite (.v 6) (.ret [.v 3]) (.op (.bin .add false) [.v 3,.c (.int .i64 1)] (.jump 0 [.v 7]))))) (.ret [.c (.int .i64 (-1))])))
def ir87 : IR := (.op .lenL [.v 0] (.loop 1 [.c (.int .i64 0)] ir87p0))
theorem rd87 : readFn T SG sigs 3000 sg87 Tryz.f169 an87 = some ir87 := by kernel_rfl
def an88 : Ann := (.s none .z (.s none (.s none .z (.b (.l ⟨3,[(2,(.atm (.v 0))),(3,(.atm (.v 1))),(5,(.atm (.v 2)))],[],0,[]⟩ .z))) .z))
def ir88p0 : IR := (.op (.bin .lss false) [.v 3,.c (.int .i64 32)] (.ite (.v 4) (.op (.bin .mul false) [.c (.int .i64 2),.v 3] (.op (.bin .shr false) [.v 0,.v 5] (.op (.bin .and false) [.v 6,.c (.int .u64 1)] (.op (.bin .shl false) [.v 7,.v 3] (.op (.bin .or false) [.v 2,.v 8] (.op (.bin .mul false) [.c (.int .i64 2),.v 3] (.op (.bin .add false) [.v 10,.c (.int .i64 1)] (.op (.bin .shr false) [.v 0,.v 11] (.op (.bin .and false) [.v 12,.c (.int .u64 1)] (.op (.bin .shl false) [.v 13,.v 3] (.op (.bin .or false) [.v 1,.v 14] (.op (.bin .add false) [.v 3,.c (.int .i64 1)] (.jump 0 [.v 15,.v 9,.v 16]))))))))))))) (.ret [.v 1,.v 2])))
def ir88 : IR := (.loop 3 [.c (.int .u64 0),.c (.int .u64 0),.c (.int .i64 0)] ir88p0)
theorem rd88 : readFn T SG sigs 3000 sg88 Tryz.f171 an88 = some ir88 := by kernel_rfl
def an89 : Ann := .z
def ir89 : IR := (.op (.mk 3 2) [.v 1,.v 2,.v 3,.v 4,.v 5,.v 6] (.ret [.v 0,.c (.str []),.v 7]))
theorem rd89 : readFn T SG sigs 3000 sg89 Tryz.f172 an89 = some ir89 := by kernel_rfl
def an90 : Ann := (.s none .z (.s none .z (.s none .z (.s none (.s none .z (.b (.l ⟨2,[(2,.junk),(3,(.atm (.v 0))),(4,(.atm (.v 1))),(5,.junk),(6,.junk),(7,.junk)],[],0,[]⟩ .z))) .z))))
def ir90p0 : IR := (.call 71 1 false [] [.v 0] (.op (.bin .lss false) [.v 4,.v 5] (.ite (.v 6) (.op (.conv .u64) [.v 4] (.op (.bin .shl false) [.c (.int .u64 1),.v 7] (.op (.bin .or false) [.v 3,.v 8] (.op (.bin .add false) [.v 4,.c (.int .i64 1)] (.jump 0 [.v 9,.v 10]))))) (.ret [.v 3]))))
def ir90 : IR := (.call 52 1 false [] [.v 0] (.op (.un .not) [.v 1] (.ite (.v 2) (.ret [.c (.int .u64 0)]) (.loop 2 [.c (.int .u64 0),.c (.int .i64 0)] ir90p0))))
theorem rd90 : readFn T SG sigs 3000 sg90 Tryz.f18 an90 = some ir90 := by kernel_rfl
def an91 : Ann := (.s none .z (.s none .z (.s none (.s none .z (.b (.l ⟨2,[(6,.junk),(7,(.atm (.v 0))),(8,(.atm (.v 1)))],[],0,[]⟩ (.s none .z (.s (some ⟨1,[(7,(.atm (.v 0))),(9,.junk),(10,.junk),(11,.junk),(12,.junk)],[],0,[]⟩) (.b (.s (some ⟨1,[(9,.junk),(10,.junk),(11,.junk),(12,.junk),(23,(.atm (.v 0)))],[],0,[]⟩) .z .z)) .z))))) .z)))
def ir91p0 : IR := (.op (.bin .add false) [.v 4,.c (.int .i64 1)] (.jump 0 [.v 7,.v 8]))
def ir91p1 : IR := (.ite (.v 7) (.op (.bin .shr false) [.v 4,.c (.int .u64 1)] (.op (.conv .u64) [.v 8] (.op (.bin .shl false) [.c (.int .u64 1),.v 9] (.op (.bin .or false) [.v 3,.v 10] (.jump 1 [.v 11]))))) (.jump 1 [.v 3]))
def ir91p2 : IR := (.call 71 1 false [] [.v 0] (.op (.bin .lss false) [.v 4,.v 5] (.ite (.v 6) (.letj 1 (.letj 1 (.call 104 1 false [] [.v 1,.v 4] (.ite (.v 7) (.op (.bin .and false) [.v 4,.c (.int .i64 1)] (.op (.bin .eql false) [.v 8,.v 2] (.jump 2 [.v 9]))) (.jump 2 [.c (.bool false)]))) ir91p1) ir91p0) (.ret [.v 3]))))
def ir91 : IR := (.loop 2 [.c (.int .u64 0),.c (.int .i64 0)] ir91p2)
theorem rd91 : readFn T SG sigs 3000 sg91 Tryz.f150 an91 = some ir91 := by kernel_rfl
def an92 : Ann := (.s none .z (.s none (.s (some ⟨1,[(0,.junk),(1,.junk),(4,.junk),(26,(.atm (.v 0)))],[],2,[]⟩) .z .z) (.s none (.s none .z (.b (.l ⟨1,[(5,(.atm (.v 0))),(26,.junk)],[],2,[]⟩ .z))) .z)))
def ir92p0 : IR := (.op .lenL [.v 2] (.op (.bin .lss false) [.v 7,.v 8] (.ite (.v 9) (.op (.row 3) [.v 2,.v 7] (.op (.row 3) [.v 5,.v 7] (.call 92 1 false [] [.v 10,.v 11,.v 12,.v 13,.v 14,.v 15] (.op (.un .not) [.v 16] (.ite (.v 17) (.ret [.c (.bool false)]) (.op (.bin .add false) [.v 7,.c (.int .i64 1)] (.jump 0 [.v 18]))))))) (.ret [.c (.bool true)]))))
def ir92p1 : IR := (.ite (.v 6) (.ret [.c (.bool false)]) (.loop 1 [.c (.int .i64 0)] ir92p0))
def ir92 : IR := (.letj 1 (.op (.bin .neq false) [.v 0,.v 3] (.ite (.v 6) (.jump 0 [.c (.bool true)]) (.op (.bin .neq false) [.v 1,.v 4] (.ite (.v 7) (.jump 0 [.c (.bool true)]) (.op .lenL [.v 2] (.op .lenL [.v 5] (.op (.bin .neq false) [.v 8,.v 9] (.jump 0 [.v 10])))))))) ir92p1)
theorem rd92 : readFn T SG sigs 3000 sg92 Tryz.f151 an92 = some ir92 := by kernel_rfl
def an93 : Ann := .z
def ir93 : IR := (.op (.mk 3 2) [.v 1,.v 2,.v 3,.v 4,.v 5,.v 6] (.ret [.v 0,.c (.str []),.v 7]))
theorem rd93 : readFn T SG sigs 3000 sg93 Tryz.f152 an93 = some ir93 := by kernel_rfl
def an94 : Ann := (.s none .z (.s none .z (.s none (.s none .z (.b (.l ⟨2,[(0,.junk),(2,.junk),(3,(.atm (.v 0))),(4,(.atm (.v 1)))],[],1,[]⟩ .z))) .z)))
def ir94p0 : IR := (.op .lenL [.v 2] (.op (.bin .lss false) [.v 4,.v 5] (.ite (.v 6) (.op (.row 3) [.v 2,.v 4] (.call 94 1 false [] [.v 7,.v 8,.v 9] (.op (.bin .add false) [.v 3,.v 10] (.op (.bin .add false) [.v 4,.c (.int .i64 1)] (.jump 0 [.v 11,.v 12]))))) (.ret [.v 3]))))
def ir94 : IR := (.loop 2 [.c (.int .i64 1),.c (.int .i64 0)] ir94p0)
theorem rd94 : readFn T SG sigs 3000 sg94 Tryz.f129 an94 = some ir94 := by kernel_rfl
def an95 : Ann := (.s none .z (.s none .z (.s none (.s none .z (.b (.l ⟨2,[(0,.junk),(2,.junk),(3,(.atm (.v 0))),(4,(.atm (.v 1)))],[],1,[]⟩ .z))) .z)))
def ir95p0 : IR := (.op .lenL [.v 2] (.op (.bin .lss false) [.v 4,.v 5] (.ite (.v 6) (.op (.row 3) [.v 2,.v 4] (.call 95 1 false [] [.v 7,.v 8,.v 9] (.op (.bin .add false) [.c (.int .i64 1),.v 10] (.op .max [.v 3,.v 11] (.op (.bin .add false) [.v 4,.c (.int .i64 1)] (.jump 0 [.v 12,.v 13])))))) (.ret [.v 3]))))
def ir95 : IR := (.loop 2 [.c (.int .i64 0),.c (.int .i64 0)] ir95p0)
theorem rd95 : readFn T SG sigs 3000 sg95 Tryz.f130 an95 = some ir95 := by kernel_rfl
def an96 : Ann := (.s none .z (.s none .z (.s none .z (.s (some ⟨1,[(0,.junk),(2,.junk),(4,(.atm (.v 0))),(6,.junk),(7,.junk),(8,.junk)],[],1,[]⟩) (.s none .z (.b (.s (some ⟨1,[(0,.junk),(2,.junk),(6,.junk),(7,.junk),(8,.junk),(9,.junk),(11,(.atm (.v 0)))],[],1,[]⟩) .z (.c .z (.s none .z (.c .z (.s (some ⟨1,[(11,.junk),(17,.junk),(18,.junk),(21,(.atm (.v 0)))],[],1,[]⟩) .z (.c .z (.s (some ⟨1,[(10,.junk),(21,.junk),(30,(.atm (.v 0)))],[],1,[]⟩) .z .z))))))))) (.s none (.s none .z (.b (.l ⟨2,[(4,(.atm (.v 0))),(5,(.atm (.v 1)))],[],1,[]⟩ (.s none .z (.s (some ⟨1,[(4,(.atm (.v 0))),(35,.junk),(36,.junk),(37,.junk)],[],1,[]⟩) .z .z))))) .z)))))
def ir96p0 : IR := (.op (.bin .add false) [.v 6,.c (.int .i64 1)] (.jump 0 [.v 8,.v 9]))
def ir96p1 : IR := (.op (.bin .lss false) [.v 6,.v 3] (.ite (.v 7) (.letj 1 (.ite (.v 5) (.op (.row 3) [.v 2,.v 6] (.call 96 1 false [] [.v 8,.v 9,.v 10] (.jump 1 [.v 11]))) (.jump 1 [.c (.bool false)])) ir96p0) (.ret [.v 5])))
def ir96p2 : IR := (.loop 2 [.v 4,.c (.int .i64 0)] ir96p1)
def ir96p3 : IR := (.ite (.v 7) (.op (.bin .eql false) [.v 3,.c (.int .i64 2)] (.jump 0 [.v 8])) (.jump 0 [.c (.bool false)]))
def ir96p4 : IR := (.ite (.v 6) (.op (.bin .geq false) [.v 3,.c (.int .i64 2)] (.ite (.v 7) (.op (.bin .leq false) [.v 3,.c (.int .i64 6)] (.jump 0 [.v 8])) (.jump 0 [.c (.bool false)]))) (.letj 1 (.op (.bin .eql false) [.v 0,.c (.int .i64 7)] (.ite (.v 7) (.jump 1 [.c (.bool true)]) (.op (.bin .eql false) [.v 0,.c (.int .i64 8)] (.jump 1 [.v 8])))) ir96p3))
def ir96p5 : IR := (.ite (.v 4) (.op (.bin .eql false) [.v 3,.c (.int .i64 0)] (.jump 0 [.v 5])) (.op (.bin .eql false) [.v 0,.c (.int .i64 4)] (.ite (.v 5) (.op (.bin .eql false) [.v 3,.c (.int .i64 1)] (.jump 0 [.v 6])) (.letj 1 (.op (.bin .eql false) [.v 0,.c (.int .i64 5)] (.ite (.v 6) (.jump 1 [.c (.bool true)]) (.op (.bin .eql false) [.v 0,.c (.int .i64 6)] (.jump 1 [.v 7])))) ir96p4))))
def ir96 : IR := (.op .lenL [.v 2] (.letj 1 (.letj 1 (.op (.bin .eql false) [.v 0,.c (.int .i64 1)] (.ite (.v 4) (.jump 1 [.c (.bool true)]) (.op (.bin .eql false) [.v 0,.c (.int .i64 2)] (.ite (.v 5) (.jump 1 [.c (.bool true)]) (.op (.bin .eql false) [.v 0,.c (.int .i64 3)] (.jump 1 [.v 6])))))) ir96p5) ir96p2))
theorem rd96 : readFn T SG sigs 3000 sg96 Tryz.f131 an96 = some ir96 := by kernel_rfl
def an97 : Ann := (.s none .z (.s none .z (.s (some ⟨1,[(0,.junk),(2,.junk),(3,(.atm (.v 0))),(5,.junk),(6,.junk),(7,.junk)],[],1,[]⟩) .z (.s none (.s none .z (.b (.l ⟨2,[(3,(.atm (.v 0))),(4,(.atm (.v 1)))],[],1,[]⟩ (.s none .z (.s (some ⟨1,[(3,(.atm (.v 0))),(14,.junk),(15,.junk),(16,.junk),(17,.junk),(18,.junk)],[],1,[]⟩) .z .z))))) .z))))
def ir97p0 : IR := (.op (.bin .add false) [.v 6,.c (.int .i64 1)] (.jump 0 [.v 9,.v 10]))
def ir97p1 : IR := (.op .lenL [.v 2] (.op (.bin .lss false) [.v 6,.v 7] (.ite (.v 8) (.letj 1 (.ite (.v 5) (.op (.row 3) [.v 2,.v 6] (.call 97 1 false [] [.v 9,.v 10,.v 11] (.jump 1 [.v 12]))) (.jump 1 [.c (.bool false)])) ir97p0) (.ret [.v 5]))))
def ir97p2 : IR := (.loop 2 [.v 4,.c (.int .i64 0)] ir97p1)
def ir97 : IR := (.op (.bin .eql false) [.v 1,.c (.str [])] (.letj 1 (.op (.bin .eql false) [.v 0,.c (.int .i64 3)] (.ite (.v 4) (.call 75 1 false [] [.v 1] (.jump 0 [.v 5])) (.jump 0 [.v 3]))) ir97p2))
theorem rd97 : readFn T SG sigs 3000 sg97 Tryz.f132 an97 = some ir97 := by kernel_rfl
def an98 : Ann := (.s none .z (.s (some ⟨1,[(0,(.atm (.v 0))),(1,.junk),(4,.junk)],[],1,[]⟩) (.s (some ⟨1,[(1,.junk),(4,.junk),(14,(.atm (.v 0)))],[],1,[]⟩) .z .z) (.s none (.s none .z (.b (.l ⟨2,[(0,(.atm (.v 0))),(5,(.atm (.v 1)))],[],1,[]⟩ .z))) .z)))
def ir98p0 : IR := (.op .lenL [.v 3] (.op (.bin .lss false) [.v 6,.v 7] (.ite (.v 8) (.op (.row 3) [.v 3,.v 6] (.call 98 1 false [] [.v 5,.v 9,.v 10,.v 11] (.op (.bin .add false) [.v 6,.c (.int .i64 1)] (.jump 0 [.v 12,.v 13])))) (.ret [.v 5]))))
def ir98p1 : IR := (.loop 2 [.v 4,.c (.int .i64 0)] ir98p0)
def ir98p2 : IR := (.ite (.v 4) (.call 105 1 false [] [.v 0,.v 2] (.jump 0 [.v 5])) (.jump 0 [.v 0]))
def ir98 : IR := (.letj 1 (.letj 1 (.op (.bin .eql false) [.v 1,.c (.int .i64 3)] (.ite (.v 4) (.op .lenL [.v 3] (.op (.bin .eql false) [.v 5,.c (.int .i64 0)] (.jump 1 [.v 6]))) (.jump 1 [.c (.bool false)]))) ir98p2) ir98p1)
theorem rd98 : readFn T SG sigs 3000 sg98 Tryz.f133 an98 = some ir98 := by kernel_rfl
def an99 : Ann := (.s none .z (.s none (.s none .z (.b (.s none .z (.c .z (.s none .z (.c (.s none (.s none .z (.b (.l ⟨1,[(0,.junk),(4,.junk),(5,(.atm (.v 0))),(8,.junk),(9,.junk),(10,.junk),(11,.junk),(12,.junk),(13,.junk)],[],1,[]⟩ .z))) .z) (.s none .z (.c .z (.s none .z (.c (.s none (.s none .z (.b (.l ⟨1,[(0,.junk),(4,.junk),(6,(.atm (.v 0))),(8,.junk),(9,.junk),(10,.junk),(11,.junk),(12,.junk),(13,.junk),(27,.junk),(28,.junk),(36,.junk),(37,.junk)],[],1,[]⟩ .z))) .z) (.s none .z (.c (.s none (.s none .z (.b (.l ⟨1,[(0,.junk),(4,.junk),(7,(.atm (.v 0))),(8,.junk),(9,.junk),(10,.junk),(11,.junk),(12,.junk),(13,.junk),(27,.junk),(28,.junk),(36,.junk),(37,.junk),(53,.junk),(54,.junk)],[],1,[]⟩ .z))) .z) .z)))))))))))) .z))
def ir99p0 : IR := (.op .lenL [.v 3] (.op (.bin .lss false) [.v 6,.v 7] (.ite (.v 8) (.op (.row 1) [.v 3,.v 6] (.op (.bin .eql false) [.v 9,.v 1] (.ite (.v 10) (.ret [.c (.bool true)]) (.op (.bin .add false) [.v 6,.c (.int .i64 1)] (.jump 0 [.v 11]))))) (.ret [.c (.bool false)]))))
def ir99p1 : IR := (.op .lenL [.v 2] (.op (.bin .lss false) [.v 8,.v 9] (.ite (.v 10) (.op (.row 3) [.v 2,.v 8] (.call 99 1 false [] [.v 11,.v 12,.v 13,.v 3] (.op (.un .not) [.v 14] (.ite (.v 15) (.ret [.c (.bool false)]) (.op (.bin .add false) [.v 8,.c (.int .i64 1)] (.jump 0 [.v 16])))))) (.ret [.c (.bool true)]))))
def ir99p2 : IR := (.op .lenL [.v 2] (.op (.bin .lss false) [.v 9,.v 10] (.ite (.v 11) (.op (.row 3) [.v 2,.v 9] (.call 99 1 false [] [.v 12,.v 13,.v 14,.v 3] (.ite (.v 15) (.ret [.c (.bool true)]) (.op (.bin .add false) [.v 9,.c (.int .i64 1)] (.jump 0 [.v 16]))))) (.ret [.c (.bool false)]))))
def ir99 : IR := (.op (.bin .eql false) [.v 0,.c (.int .i64 1)] (.ite (.v 4) (.ret [.c (.bool true)]) (.op (.bin .eql false) [.v 0,.c (.int .i64 3)] (.ite (.v 5) (.loop 1 [.c (.int .i64 0)] ir99p0) (.op (.bin .eql false) [.v 0,.c (.int .i64 4)] (.ite (.v 6) (.op (.row 3) [.v 2,.c (.int .i64 0)] (.call 99 1 false [] [.v 7,.v 8,.v 9,.v 3] (.op (.un .not) [.v 10] (.ret [.v 11])))) (.op (.bin .eql false) [.v 0,.c (.int .i64 5)] (.ite (.v 7) (.loop 1 [.c (.int .i64 0)] ir99p1) (.op (.bin .eql false) [.v 0,.c (.int .i64 6)] (.ite (.v 8) (.loop 1 [.c (.int .i64 0)] ir99p2) (.op (.bin .eql false) [.v 0,.c (.int .i64 7)] (.ite (.v 9) (.op (.row 3) [.v 2,.c (.int .i64 0)] (.call 99 1 false [] [.v 10,.v 11,.v 12,.v 3] (.op (.un .not) [.v 13] (.ite (.v 14) (.ret [.c (.bool true)]) (.op (.row 3) [.v 2,.c (.int .i64 1)] (.call 99 1 false [] [.v 15,.v 16,.v 17,.v 3] (.ret [.v 18]))))))) (.op (.bin .eql false) [.v 0,.c (.int .i64 8)] (.ite (.v 10) (.op (.row 3) [.v 2,.c (.int .i64 0)] (.call 99 1 false [] [.v 11,.v 12,.v 13,.v 3] (.op (.row 3) [.v 2,.c (.int .i64 1)] (.call 99 1 false [] [.v 15,.v 16,.v 17,.v 3] (.op (.bin .eql true) [.v 14,.v 18] (.ret [.v 19])))))) (.ret [.c (.bool false)])))))))))))))))
theorem rd99 : readFn T SG sigs 3000 sg99 Tryz.f134 an99 = some ir99 := by kernel_rfl
def an100 : Ann := (.s none .z (.s none (.s none .z (.b (.l ⟨1,[(4,.junk),(6,.junk),(8,(.atm (.v 0)))],[],0,[]⟩ .z))) .z))
def ir100p0 : IR := (.op (.bin .lss false) [.v 3,.v 2] (.ite (.v 4) (.op (.row 1) [.v 0,.v 3] (.op (.bin .eql false) [.v 1,.v 5] (.ite (.v 6) (.ret [.v 3]) (.op (.bin .add false) [.v 3,.c (.int .i64 1)] (.jump 0 [.v 7]))))) (.ret [.c (.int .i64 (-1))])))
def ir100 : IR := (.op .lenL [.v 0] (.loop 1 [.c (.int .i64 0)] ir100p0))
theorem rd100 : readFn T SG sigs 3000 sg100 Tryz.f170 an100 = some ir100 := by kernel_rfl
def an101 : Ann := (.s none .z (.s none .z (.s none (.s none .z (.b (.s (some ⟨1,[(0,.junk),(1,.junk),(2,.junk),(4,.junk),(5,.junk),(6,.junk),(7,.junk),(9,(.atm (.v 0)))],[],1,[]⟩) .z (.c .z (.s none .z (.c .z (.s (some ⟨1,[(9,.junk),(15,.junk),(16,.junk),(19,(.atm (.v 0)))],[],1,[]⟩) .z (.c .z (.s (some ⟨1,[(8,.junk),(19,.junk),(28,(.atm (.v 0)))],[],1,[]⟩) .z .z))))))))) .z)))
def ir101p0 : IR := (.ite (.v 7) (.op (.bin .eql false) [.v 3,.c (.int .i64 2)] (.ret [.v 8])) (.ret [.c (.bool false)]))
def ir101p1 : IR := (.ite (.v 6) (.op (.bin .geq false) [.v 3,.c (.int .i64 2)] (.ite (.v 7) (.op (.bin .leq false) [.v 3,.c (.int .i64 6)] (.ret [.v 8])) (.ret [.c (.bool false)]))) (.letj 1 (.op (.bin .eql false) [.v 0,.c (.int .i64 7)] (.ite (.v 7) (.jump 0 [.c (.bool true)]) (.op (.bin .eql false) [.v 0,.c (.int .i64 8)] (.jump 0 [.v 8])))) ir101p0))
def ir101p2 : IR := (.ite (.v 4) (.op (.bin .eql false) [.v 3,.c (.int .i64 0)] (.ret [.v 5])) (.op (.bin .eql false) [.v 0,.c (.int .i64 4)] (.ite (.v 5) (.op (.bin .eql false) [.v 3,.c (.int .i64 1)] (.ret [.v 6])) (.letj 1 (.op (.bin .eql false) [.v 0,.c (.int .i64 5)] (.ite (.v 6) (.jump 0 [.c (.bool true)]) (.op (.bin .eql false) [.v 0,.c (.int .i64 6)] (.jump 0 [.v 7])))) ir101p1))))
def ir101 : IR := (.op .lenL [.v 2] (.letj 1 (.op (.bin .eql false) [.v 0,.c (.int .i64 1)] (.ite (.v 4) (.jump 0 [.c (.bool true)]) (.op (.bin .eql false) [.v 0,.c (.int .i64 2)] (.ite (.v 5) (.jump 0 [.c (.bool true)]) (.op (.bin .eql false) [.v 0,.c (.int .i64 3)] (.jump 0 [.v 6])))))) ir101p2))
theorem rd101 : readFn T SG sigs 3000 sg101 Tryz.f156 an101 = some ir101 := by kernel_rfl
def an102 : Ann := .z
def ir102 : IR := (.op (.bin .eql false) [.v 0,.c (.int .i64 3)] (.ite (.v 3) (.call 54 1 false [] [.v 1] (.ret [.v 4])) (.op (.bin .eql false) [.v 1,.c (.str [])] (.ret [.v 4]))))
theorem rd102 : readFn T SG sigs 3000 sg102 Tryz.f157 an102 = some ir102 := by kernel_rfl
def an103 : Ann := .z
def ir103 : IR := (.op (.bin .neq false) [.v 0,.v 0] (.ret [.v 1]))
theorem rd103 : readFn T SG sigs 3000 sg103 Tryz.f145 an103 = some ir103 := by kernel_rfl
def an104 : Ann := .z
def ir104 : IR := (.op (.conv .u64) [.v 1] (.op (.bin .shr false) [.v 0,.v 2] (.op (.bin .and false) [.v 3,.c (.int .u64 1)] (.op (.bin .eql false) [.v 4,.c (.int .u64 1)] (.ret [.v 5])))))
theorem rd104 : readFn T SG sigs 3000 sg104 Tryz.f173 an104 = some ir104 := by kernel_rfl
def an105 : Ann := (.s none .z (.s none .z (.s none (.b (.l ⟨1,[(4,.junk),(5,(.atm (.v 0)))],[],0,[]⟩ (.s none (.s (some ⟨1,[(18,(.atm (.v 0)))],[],0,[]⟩) .z .z) .z))) (.s none (.s (some ⟨1,[(18,.junk),(32,(.atm (.v 0)))],[],0,[]⟩) .z .z) .z))))
def ir105p0 : IR := (.ite (.v 4) (.ret [.v 0]) (.op (.subL 1) [.v 0,.c (.int .i64 0),.v 2] (.op (.app 1 16) [.c (.sl []),.v 5] (.op (.mk 1 1) [.v 1] (.op (.app 1 16) [.v 6,.v 7] (.op .lenL [.v 0] (.op (.subL 1) [.v 0,.v 2,.v 9] (.op (.app 1 16) [.v 8,.v 10] (.ret [.v 11])))))))))
def ir105p1 : IR := (.ite (.v 3) (.op (.bin .add false) [.v 2,.c (.int .i64 1)] (.jump 0 [.v 4])) (.letj 1 (.op .lenL [.v 0] (.op (.bin .lss false) [.v 2,.v 4] (.ite (.v 5) (.op (.row 1) [.v 0,.v 2] (.op (.bin .eql false) [.v 6,.v 1] (.jump 1 [.v 7]))) (.jump 1 [.c (.bool false)])))) ir105p0))
def ir105p2 : IR := (.letj 1 (.op .lenL [.v 0] (.op (.bin .lss false) [.v 2,.v 3] (.ite (.v 4) (.op (.row 1) [.v 0,.v 2] (.op (.bin .lss false) [.v 5,.v 1] (.jump 1 [.v 6]))) (.jump 1 [.c (.bool false)])))) ir105p1)
def ir105 : IR := (.loop 1 [.c (.int .i64 0)] ir105p2)
theorem rd105 : readFn T SG sigs 3000 sg105 Tryz.f168 an105 = some ir105 := by kernel_rfl
end Go.Proofs.YtojkhlijbpmgpaaGreat

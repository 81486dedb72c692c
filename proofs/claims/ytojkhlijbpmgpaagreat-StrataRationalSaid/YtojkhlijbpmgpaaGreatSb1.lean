/- What functions of the program compute: lemmas. -/
import Derived.Test.YtojkhlijbpmgpaaGreatAmSe21
import Derived.Test.YtojkhlijbpmgpaaGreatProg
import Derived.KernelRfl
set_option linter.unusedSimpArgs false
set_option linter.unusedVariables false
set_option linter.unusedSectionVars false
namespace Go.Proofs.YtojkhlijbpmgpaaGreat
open Go Am
set_option maxRecDepth 100000
abbrev fnD (f : Nat) : D := .raw (.func (.func f) #[] #[])
def T : Tab := [
 (3,⟨1,8,true,true,false,none,none,(some .i64),false,false,(some (.int .i64 0)),[],none⟩),
 (4,⟨1,1,true,true,false,none,none,none,false,true,(some (.bool false)),[],none⟩),
 (5,⟨1,1,true,true,false,none,none,(some .u8),false,false,(some (.int .u8 0)),[],none⟩),
 (9,⟨1,16,true,true,false,none,none,none,true,false,(some (.string ⟨⟨[]⟩⟩)),[],none⟩),
 (22,⟨1,24,true,true,false,(some 3),none,none,false,false,(some (.slice none 0 0)),[],none⟩),
 (23,⟨1,8,true,true,false,none,none,none,false,false,(some (.pointer none)),[],none⟩),
 (26,⟨1,24,true,true,false,(some 9),none,none,false,false,(some (.slice none 0 0)),[],none⟩),
 (28,⟨2,48,true,true,true,none,none,none,false,false,(some (.agg #[(.slice none 0 0),(.slice none 0 0)])),[(0,26),(1,22)],(some [(0,1),(1,1)])⟩),
 (30,⟨1,8,true,true,false,none,none,(some .u64),false,false,(some (.int .u64 0)),[],none⟩),
 (34,⟨1,8,true,true,false,none,none,(some .i64),false,false,(some (.int .i64 0)),[],none⟩),
 (37,⟨1,24,true,true,false,(some 39),none,none,false,false,(some (.slice none 0 0)),[],none⟩),
 (39,⟨3,48,true,true,true,none,none,none,false,false,(some (.agg #[(.int .i64 0),(.string ⟨⟨[]⟩⟩),(.slice none 0 0)])),[(0,3),(1,9),(2,37)],(some [(0,1),(1,1),(2,1)])⟩),
 (52,⟨1,8,true,true,false,none,none,none,false,false,(some .nilFunc),[],none⟩),
 (64,⟨9,9,true,true,true,none,(some (9,4)),none,false,false,(some (.agg #[(.bool false),(.bool false),(.bool false),(.bool false),(.bool false),(.bool false),(.bool false),(.bool false),(.bool false)])),[],(some [(0,1),(1,1),(2,1),(3,1),(4,1),(5,1),(6,1),(7,1),(8,1)])⟩),
 (66,⟨6,96,true,true,true,none,none,none,false,false,(some (.agg #[(.int .i64 0),(.string ⟨⟨[]⟩⟩),(.slice none 0 0),(.int .i64 0),(.string ⟨⟨[]⟩⟩),(.slice none 0 0)])),[(0,39),(3,39)],(some [(0,3),(3,3)])⟩),
 (68,⟨1,24,true,true,false,(some 66),none,none,false,false,(some (.slice none 0 0)),[],none⟩),
 (94,⟨1,8,true,true,false,none,none,(some .u64),false,false,(some (.int .u64 0)),[],none⟩),
 (96,⟨2,32,true,true,true,none,none,none,false,false,(some (.agg #[(.slice none 0 0),(.int .i64 0)])),[(0,22),(1,3)],(some [(0,1),(1,1)])⟩),
 (117,⟨1,24,true,true,false,(some 5),none,none,false,false,(some (.slice none 0 0)),[],none⟩),
 (122,⟨1,24,true,true,false,(some 127),none,none,false,false,(some (.slice none 0 0)),[],none⟩),
 (127,⟨2,16,true,true,true,none,none,none,false,false,(some (.agg #[(.int .u64 0),(.int .u64 0)])),[(0,30),(1,30)],(some [(0,1),(1,1)])⟩),
 (130,⟨1,24,true,true,false,(some 4),none,none,false,false,(some (.slice none 0 0)),[],none⟩),
 (139,⟨1,24,true,true,false,(some 30),none,none,false,false,(some (.slice none 0 0)),[],none⟩),
 (156,⟨1,8,true,true,false,none,none,none,false,false,(some .nilFunc),[],none⟩)]
theorem tok : TOK Tryz.prog T := tok_of (by kernel_rfl)
def SG : SGlob := []
def sg0 : Sig := ⟨8,1,[],[.atm (.v 0)],1,[],.atm (.v 0),false,[]⟩
def sg1 : Sig := ⟨15,1,[],[.atm (.v 0)],2,[⟨false,false,96,2,.c (.sl []),[[.atm (.v 0),.atm (.v 1)]]⟩],.ptr 0 0 0,false,[]⟩
def sg2 : Sig := ⟨16,4,[⟨false,false,96,2,.c (.sl []),[[.atm (.v 2),.atm (.v 3)]]⟩],[.ptr 0 0 0,.atm (.v 0),.atm (.v 1)],3,[⟨false,false,96,2,.c (.sl []),[[.atm (.v 1),.atm (.v 2)]]⟩],.atm (.v 0),false,[]⟩
def sg3 : Sig := ⟨17,3,[⟨false,false,96,2,.c (.sl []),[[.atm (.v 1),.atm (.v 2)]]⟩],[.ptr 0 0 0,.atm (.v 0)],4,[⟨false,false,96,2,.c (.sl []),[[.atm (.v 2),.atm (.v 3)]]⟩],(.agg [.atm (.v 0),.atm (.v 1)]),true,[]⟩
def sg4 : Sig := ⟨35,4,[⟨false,false,96,2,.c (.sl []),[[.atm (.v 2),.atm (.v 3)]]⟩],[.ptr 0 0 0,.atm (.v 0),.atm (.v 1)],5,[⟨false,false,96,2,.c (.sl []),[[.atm (.v 3),.atm (.v 4)]]⟩],(.agg [.atm (.v 0),.atm (.v 1),.atm (.v 2)]),true,[]⟩
def sg5 : Sig := ⟨37,6,[],[(.agg [.atm (.v 0),.atm (.v 1),.atm (.v 2)]),(.agg [.atm (.v 3),.atm (.v 4),.atm (.v 5)])],3,[],(.agg [.atm (.v 0),.atm (.v 1),.atm (.v 2)]),true,[]⟩
def sg6 : Sig := ⟨43,3,[],[(.agg [.atm (.v 0),.atm (.v 1),.atm (.v 2)])],3,[],(.agg [.atm (.v 0),.atm (.v 1),.atm (.v 2)]),true,[]⟩
def sg7 : Sig := ⟨38,6,[],[(.agg [.atm (.v 0),.atm (.v 1),.atm (.v 2)]),(.agg [.atm (.v 3),.atm (.v 4),.atm (.v 5)])],3,[],(.agg [.atm (.v 0),.atm (.v 1),.atm (.v 2)]),true,[]⟩
def sg8 : Sig := ⟨44,8,[],[(.agg [.atm (.v 0),.atm (.v 1)]),(.agg [.atm (.v 2),.atm (.v 3),.atm (.v 4),.atm (.v 5),.atm (.v 6),.atm (.v 7)])],2,[],(.tup [.atm (.v 0),.atm (.v 1)]),false,[]⟩
def sg9 : Sig := ⟨42,0,[],[],1,[],.atm (.v 0),false,[]⟩
def sg10 : Sig := ⟨67,3,[⟨false,false,96,2,.c (.sl []),[[.atm (.v 1),.atm (.v 2)]]⟩],[.ptr 0 0 0,.atm (.v 0)],3,[⟨false,false,96,2,.c (.sl []),[[.atm (.v 1),.atm (.v 2)]]⟩],.atm (.v 0),false,[]⟩
def sg11 : Sig := ⟨47,1,[],[.atm (.v 0)],1,[],.atm (.v 0),true,[]⟩
def sg12 : Sig := ⟨68,2,[],[.atm (.v 0),.atm (.v 1)],3,[],(.tup [(.agg [.atm (.v 0),.atm (.v 1)]),.atm (.v 2)]),true,[]⟩
def sg13 : Sig := ⟨91,2,[],[(.agg [.atm (.v 0),.atm (.v 1)])],1,[],.atm (.v 0),false,[]⟩
def sg14 : Sig := ⟨95,2,[],[.atm (.v 0),.atm (.v 1)],1,[],.atm (.v 0),false,[]⟩
def sg15 : Sig := ⟨73,4,[],[.atm (.v 0),(.agg [.atm (.v 1),.atm (.v 2),.atm (.v 3)])],2,[],(.tup [.atm (.v 0),.atm (.v 1)]),false,[]⟩
def sg16 : Sig := ⟨96,3,[],[(.agg [.atm (.v 0),.atm (.v 1)]),.atm (.v 2)],1,[],.atm (.v 0),false,[]⟩
def sg17 : Sig := ⟨94,1,[],[.atm (.v 0)],3,[],(.agg [.atm (.v 0),.atm (.v 1),.atm (.v 2)]),true,[]⟩
def sg18 : Sig := ⟨54,2,[],[.atm (.v 0),.atm (.v 1)],3,[],(.tup [(.agg [.atm (.v 0),.atm (.v 1)]),.atm (.v 2)]),true,[]⟩
def sg19 : Sig := ⟨60,2,[],[.atm (.v 0),.atm (.v 1)],2,[],(.tup [.atm (.v 0),.atm (.v 1)]),true,[]⟩
def sg20 : Sig := ⟨51,2,[],[.atm (.v 0),.atm (.v 1)],1,[],.atm (.v 0),false,[]⟩
def sg21 : Sig := ⟨71,2,[⟨false,false,96,2,.c (.sl []),[[.atm (.v 0),.atm (.v 1)]]⟩],[.ptr 0 0 0],3,[⟨false,false,96,2,.c (.sl []),[[.atm (.v 1),.atm (.v 2)]]⟩],.atm (.v 0),false,[]⟩
def sg22 : Sig := ⟨115,2,[],[.atm (.v 0),.atm (.v 1)],1,[],.atm (.v 0),false,[]⟩
def sg23 : Sig := ⟨69,1,[],[.atm (.v 0)],1,[],.atm (.v 0),false,[]⟩
def sg24 : Sig := ⟨116,2,[],[.atm (.v 0),.atm (.v 1)],1,[],.atm (.v 0),false,[]⟩
def sg25 : Sig := ⟨105,1,[],[.atm (.v 0)],1,[],.atm (.v 0),false,[]⟩
def sg26 : Sig := ⟨136,2,[],[.atm (.v 0),.atm (.v 1)],1,[],.atm (.v 0),false,[]⟩
def sg27 : Sig := ⟨119,3,[],[(.agg [.atm (.v 0),.atm (.v 1),.atm (.v 2)])],1,[],.atm (.v 0),false,[]⟩
def sg28 : Sig := ⟨120,3,[],[(.agg [.atm (.v 0),.atm (.v 1),.atm (.v 2)])],1,[],.atm (.v 0),true,[]⟩
def sg29 : Sig := ⟨121,2,[],[.atm (.v 0),.atm (.v 1)],1,[],.atm (.v 0),false,[]⟩
def sg30 : Sig := ⟨122,4,[],[.atm (.v 0),(.agg [.atm (.v 1),.atm (.v 2),.atm (.v 3)])],1,[],.atm (.v 0),false,[]⟩
def sg31 : Sig := ⟨87,1,[],[.atm (.v 0)],1,[],.atm (.v 0),false,[]⟩
def sg32 : Sig := ⟨109,2,[],[(.agg [.atm (.v 0),.atm (.v 1)])],1,[],.atm (.v 0),true,[]⟩
def sg33 : Sig := ⟨106,1,[],[.atm (.v 0)],1,[⟨false,false,37,1,.c (.sl []),[[.atm (.v 0)]]⟩],(.clo 148 [] [.ptr 0 0 0]),false,[]⟩
def sg34 : Sig := ⟨93,2,[],[.atm (.v 0),.atm (.v 1)],1,[],.atm (.v 0),false,[]⟩
def sg35 : Sig := ⟨81,2,[],[.atm (.v 0),.atm (.v 1)],3,[],(.tup [(.agg [.atm (.v 0),.atm (.v 1)]),.atm (.v 2)]),true,[]⟩
def sg36 : Sig := ⟨97,2,[],[.atm (.v 0),.atm (.v 1)],2,[],(.tup [.atm (.v 0),.atm (.v 1)]),true,[]⟩
def sg37 : Sig := ⟨98,1,[],[.atm (.v 0)],2,[],(.tup [.atm (.v 0),.atm (.v 1)]),true,[]⟩
def sg38 : Sig := ⟨117,1,[],[.atm (.v 0)],1,[],.atm (.v 0),false,[]⟩
def sg39 : Sig := ⟨147,1,[],[.atm (.v 0)],1,[],.atm (.v 0),false,[]⟩
def sg40 : Sig := ⟨169,2,[],[.atm (.v 0),.atm (.v 1)],1,[],.atm (.v 0),false,[]⟩
def sg41 : Sig := ⟨153,3,[],[(.agg [.atm (.v 0),.atm (.v 1),.atm (.v 2)])],1,[],.atm (.v 0),false,[]⟩
def sg42 : Sig := ⟨154,3,[],[(.agg [.atm (.v 0),.atm (.v 1),.atm (.v 2)])],1,[],.atm (.v 0),false,[]⟩
def sg43 : Sig := ⟨155,3,[],[(.agg [.atm (.v 0),.atm (.v 1),.atm (.v 2)]),(.atm (.c (fnD 156)))],1,[],.atm (.v 0),false,[]⟩
def sg44 : Sig := ⟨155,3,[],[(.agg [.atm (.v 0),.atm (.v 1),.atm (.v 2)]),(.atm (.c (fnD 157)))],1,[],.atm (.v 0),false,[]⟩
def sg45 : Sig := ⟨161,2,[],[.atm (.v 0),.atm (.v 1)],1,[],.atm (.v 0),false,[]⟩
def sg46 : Sig := ⟨162,1,[],[.atm (.v 0)],1,[],.atm (.v 0),false,[]⟩
def sg47 : Sig := ⟨135,1,[],[.atm (.v 0)],1,[],.atm (.v 0),false,[]⟩
def sg48 : Sig := ⟨92,1,[],[.atm (.v 0)],1,[],.atm (.v 0),false,[]⟩
def sg49 : Sig := ⟨126,1,[],[.atm (.v 0)],1,[⟨false,false,22,1,.c (.sl []),[[.atm (.v 0)]]⟩],(.clo 165 [] [.ptr 0 0 0]),false,[]⟩
def sg50 : Sig := ⟨125,1,[⟨false,false,22,1,.c (.sl []),[[.atm (.v 0)]]⟩],[(.clo 165 [] [.ptr 0 0 0])],2,[⟨false,false,22,1,.c (.sl []),[[.atm (.v 1)]]⟩,⟨false,true,3,1,.v 0,[]⟩],.own 1,true,[]⟩
def sg51 : Sig := ⟨124,1,[⟨false,true,3,1,.v 0,[]⟩],[.own 0],2,[⟨true,true,3,1,.v 1,[]⟩],.atm (.v 0),true,[]⟩
def sg52 : Sig := ⟨127,1,[],[.atm (.v 0)],1,[⟨false,true,9,1,.v 0,[]⟩],.own 0,true,[]⟩
def sg53 : Sig := ⟨128,2,[],[.atm (.v 0),.atm (.v 1)],2,[],(.tup [.atm (.v 0),.atm (.v 1)]),false,[]⟩
def sg54 : Sig := ⟨137,2,[],[.atm (.v 0),.atm (.v 1)],1,[],.atm (.v 0),false,[]⟩
def sg55 : Sig := ⟨156,3,[],[(.agg [.atm (.v 0),.atm (.v 1),.atm (.v 2)])],1,[],.atm (.v 0),false,[]⟩
def sg56 : Sig := ⟨157,3,[],[(.agg [.atm (.v 0),.atm (.v 1),.atm (.v 2)])],1,[],.atm (.v 0),false,[]⟩
def sg57 : Sig := ⟨163,1,[⟨false,false,22,1,.c (.sl []),[[.atm (.v 0)]]⟩],[(.clo 165 [] [.ptr 0 0 0])],2,[⟨false,false,22,1,.c (.sl []),[[.atm (.v 1)]]⟩,⟨false,true,3,1,.v 0,[]⟩],.own 1,true,[]⟩
def sg58 : Sig := ⟨164,1,[⟨false,true,3,1,.v 0,[]⟩],[.own 0],1,[⟨false,true,3,1,.v 0,[]⟩],(.tup []),false,[0]⟩
def sg59 : Sig := ⟨166,2,[],[.atm (.v 0),.atm (.v 1)],1,[],.atm (.v 0),false,[]⟩
def sg60 : Sig := ⟨167,1,[],[.atm (.v 0)],1,[],.atm (.v 0),false,[]⟩
def sg61 : Sig := ⟨170,2,[],[.atm (.v 0),.atm (.v 1)],1,[],.atm (.v 0),false,[]⟩
def sg62 : Sig := ⟨145,1,[],[.atm (.v 0)],1,[],.atm (.v 0),false,[]⟩
def sigs : List Sig := [sg0,sg1,sg2,sg3,sg4,sg5,sg6,sg7,sg8,sg9,sg10,sg11,sg12,sg13,sg14,sg15,sg16,sg17,sg18,sg19,sg20,sg21,sg22,sg23,sg24,sg25,sg26,sg27,sg28,sg29,sg30,sg31,sg32,sg33,sg34,sg35,sg36,sg37,sg38,sg39,sg40,sg41,sg42,sg43,sg44,sg45,sg46,sg47,sg48,sg49,sg50,sg51,sg52,sg53,sg54,sg55,sg56,sg57,sg58,sg59,sg60,sg61,sg62]
def an0 : Ann := (.s none .z (.s none .z (.s none .z (.s none .z (.s none .z (.s none .z (.s none .z (.s none (.s none .z (.b (.l ⟨11,[(0,.junk),(2,.junk),(3,.junk),(4,.junk),(6,.junk),(7,.junk),(8,.junk),(9,(.atm (.v 0))),(15,.junk),(16,.junk),(17,.junk),(18,.junk),(19,.junk),(20,.junk),(21,.junk),(22,.junk),(23,.junk),(24,.junk),(25,.junk),(26,.junk),(27,.junk),(28,.junk),(29,.junk),(30,.junk),(31,.junk),(32,.junk),(33,.junk),(34,.junk),(35,.junk),(36,.junk),(37,.junk),(38,.junk),(39,.junk),(40,.junk),(41,.junk),(42,.junk),(43,.junk),(44,.junk),(45,.junk),(46,.junk),(47,.junk),(48,.junk),(49,.junk),(50,.junk),(51,.junk),(52,.junk),(53,.junk),(54,.junk),(55,.junk),(56,.junk),(57,.junk),(58,.junk),(59,.junk),(60,.junk),(61,.junk),(62,.junk),(63,.junk),(64,.junk),(65,.junk),(66,.junk),(69,(.atm (.v 1)))],[(5,⟨false,false,64,9,.c (.sl []),[[.atm (.v 2),.atm (.v 3),.atm (.v 4),.atm (.v 5),.atm (.v 6),.atm (.v 7),.atm (.v 8),.atm (.v 9),.atm (.v 10)]]⟩)],43,[]⟩ (.s none .z (.s none .z (.s (some ⟨17,[(9,(.atm (.v 0))),(69,(.atm (.v 1))),(70,.junk)],[(5,⟨false,false,64,9,.c (.sl []),[[.atm (.v 2),.atm (.v 3),.atm (.v 4),.atm (.v 5),.atm (.v 6),.atm (.v 7),.atm (.v 8),.atm (.v 9),.atm (.v 10)]]⟩),(43,⟨false,false,66,6,.c (.sl []),[[.atm (.v 11),.atm (.v 12),.atm (.v 13),.atm (.v 14),.atm (.v 15),.atm (.v 16)]]⟩)],44,[]⟩) (.b (.s none .z (.s none .z (.s (some ⟨1,[(9,(.atm (.v 0))),(12,.junk),(14,.junk),(70,.junk),(71,.junk),(72,.junk),(73,.junk),(74,.junk),(75,.junk),(76,.junk),(77,.junk),(78,.junk),(79,.junk)],[],44,[]⟩) .z .z)))) .z)))))) .z))))))))
def ir0p0 : IR := (.op (.bin .add false) [.v 55,.c (.int .i64 1)] (.jump 0 [.v 54,.v 71,.v 56,.v 57,.v 58,.v 59,.v 60,.v 61,.v 62,.v 63,.v 64]))
def ir0p1 : IR := (.op (.bin .eql false) [.v 43,.c (.int .i64 0)] (.ite (.v 63) (.jump 1 [.v 62,.c (.int .i64 0),.v 60,.v 45,.v 46,.v 47,.v 48,.v 49,.v 50,.v 51,.v 52,.v 54,.v 55,.v 56,.v 57,.v 58,.v 59]) (.op (.bin .eql false) [.v 43,.c (.int .i64 1)] (.ite (.v 64) (.jump 1 [.v 62,.c (.int .i64 1),.v 44,.v 60,.v 46,.v 47,.v 48,.v 49,.v 50,.v 51,.v 52,.v 54,.v 55,.v 56,.v 57,.v 58,.v 59]) (.op (.bin .eql false) [.v 43,.c (.int .i64 2)] (.ite (.v 65) (.jump 1 [.v 62,.c (.int .i64 2),.v 44,.v 45,.v 60,.v 47,.v 48,.v 49,.v 50,.v 51,.v 52,.v 54,.v 55,.v 56,.v 57,.v 58,.v 59]) (.op (.bin .eql false) [.v 43,.c (.int .i64 3)] (.ite (.v 66) (.jump 1 [.v 62,.c (.int .i64 3),.v 44,.v 45,.v 46,.v 60,.v 48,.v 49,.v 50,.v 51,.v 52,.v 54,.v 55,.v 56,.v 57,.v 58,.v 59]) (.op (.bin .eql false) [.v 43,.c (.int .i64 4)] (.ite (.v 67) (.jump 1 [.v 62,.c (.int .i64 4),.v 44,.v 45,.v 46,.v 47,.v 60,.v 49,.v 50,.v 51,.v 52,.v 54,.v 55,.v 56,.v 57,.v 58,.v 59]) (.op (.bin .eql false) [.v 43,.c (.int .i64 5)] (.ite (.v 68) (.jump 1 [.v 62,.c (.int .i64 5),.v 44,.v 45,.v 46,.v 47,.v 48,.v 60,.v 50,.v 51,.v 52,.v 54,.v 55,.v 56,.v 57,.v 58,.v 59]) (.op (.bin .eql false) [.v 43,.c (.int .i64 6)] (.ite (.v 69) (.jump 1 [.v 62,.c (.int .i64 6),.v 44,.v 45,.v 46,.v 47,.v 48,.v 49,.v 60,.v 51,.v 52,.v 54,.v 55,.v 56,.v 57,.v 58,.v 59]) (.op (.bin .eql false) [.v 43,.c (.int .i64 7)] (.ite (.v 70) (.jump 1 [.v 62,.c (.int .i64 7),.v 44,.v 45,.v 46,.v 47,.v 48,.v 49,.v 50,.v 60,.v 52,.v 54,.v 55,.v 56,.v 57,.v 58,.v 59]) (.op (.bin .eql false) [.v 43,.c (.int .i64 8)] (.ite (.v 71) (.jump 1 [.v 62,.c (.int .i64 8),.v 44,.v 45,.v 46,.v 47,.v 48,.v 49,.v 50,.v 51,.v 60,.v 54,.v 55,.v 56,.v 57,.v 58,.v 59]) .fail))))))))))))))))))
def ir0p2 : IR := (.op (.bin .lss false) [.v 43,.v 41] (.ite (.v 53) (.letj 17 (.op .chk [.v 40,.v 43] (.op (.get 0 6) [.v 40,.v 43] (.call 8 2 false [] [.v 6,.v 7,.v 54,.v 55,.v 56,.v 57,.v 58,.v 59] (.letj 1 (.ite (.v 42) (.op (.bin .eql false) [.v 61,.c (.int .i64 0)] (.jump 2 [.v 62])) (.jump 2 [.c (.bool false)])) ir0p1)))) ir0p0) (.ite (.v 42) (.ite (.v 44) (.ite (.v 45) (.op (.un .not) [.c (.bool true)] (.ite (.v 46) (.op (.un .not) [.c (.bool true)] (.ite (.v 47) (.ite (.v 48) (.op (.bin .eql true) [.c (.bool true),.c (.bool true)] (.ite (.v 56) (.ite (.v 49) (.op (.un .not) [.c (.bool true)] (.ite (.v 50) (.op (.un .not) [.c (.bool true)] (.ite (.v 51) (.op (.un .not) [.c (.bool true)] (.ite (.v 52) (.call 9 1 false [] [] (.ret [.v 60])) (.ret [.c (.bool false)]))) (.ret [.c (.bool false)]))) (.op (.un .not) [.c (.bool false)] (.op (.un .not) [.c (.bool true)] (.ite (.v 52) (.call 9 1 false [] [] (.ret [.v 60])) (.ret [.c (.bool false)])))))) (.op (.un .not) [.c (.bool true)] (.op (.un .not) [.c (.bool true)] (.ite (.v 50) (.op (.un .not) [.c (.bool true)] (.ite (.v 51) (.op (.un .not) [.c (.bool true)] (.ite (.v 52) (.call 9 1 false [] [] (.ret [.v 61])) (.ret [.c (.bool false)]))) (.ret [.c (.bool false)]))) (.op (.un .not) [.c (.bool false)] (.op (.un .not) [.c (.bool true)] (.ite (.v 52) (.call 9 1 false [] [] (.ret [.v 61])) (.ret [.c (.bool false)])))))))) (.ret [.c (.bool false)]))) (.ret [.c (.bool false)])) (.ret [.c (.bool false)]))) (.op (.un .not) [.c (.bool false)] (.op (.bin .eql true) [.v 47,.c (.bool false)] (.ite (.v 56) (.ite (.v 49) (.op (.un .not) [.c (.bool false)] (.op (.un .not) [.c (.bool true)] (.ite (.v 52) (.call 9 1 false [] [] (.ret [.v 59])) (.ret [.c (.bool false)])))) (.op (.un .not) [.c (.bool false)] (.op (.un .not) [.c (.bool false)] (.op (.un .not) [.c (.bool true)] (.ite (.v 52) (.call 9 1 false [] [] (.ret [.v 60])) (.ret [.c (.bool false)])))))) (.ret [.c (.bool false)])))))) (.op (.un .not) [.c (.bool false)] (.op (.bin .eql true) [.v 47,.c (.bool false)] (.ite (.v 55) (.ite (.v 49) (.ite (.v 46) (.op (.un .not) [.c (.bool true)] (.ite (.v 50) (.op (.un .not) [.c (.bool true)] (.ite (.v 51) (.op (.un .not) [.c (.bool false)] (.call 9 1 false [] [] (.ret [.v 59]))) (.ret [.c (.bool false)]))) (.op (.un .not) [.c (.bool false)] (.op (.un .not) [.c (.bool false)] (.call 9 1 false [] [] (.ret [.v 59])))))) (.op (.un .not) [.c (.bool false)] (.op (.un .not) [.c (.bool false)] (.call 9 1 false [] [] (.ret [.v 58]))))) (.ite (.v 46) (.op (.un .not) [.c (.bool true)] (.ite (.v 48) (.op (.un .not) [.c (.bool true)] (.ite (.v 50) (.op (.un .not) [.c (.bool true)] (.ite (.v 51) (.op (.un .not) [.c (.bool false)] (.call 9 1 false [] [] (.ret [.v 60]))) (.ret [.c (.bool false)]))) (.op (.un .not) [.c (.bool false)] (.op (.un .not) [.c (.bool false)] (.call 9 1 false [] [] (.ret [.v 60])))))) (.ret [.c (.bool false)]))) (.op (.un .not) [.c (.bool false)] (.op (.un .not) [.c (.bool false)] (.op (.un .not) [.c (.bool false)] (.call 9 1 false [] [] (.ret [.v 59]))))))) (.ret [.c (.bool false)]))))) (.ret [.c (.bool false)])) (.ret [.c (.bool false)]))))
def ir0 : IR := (.call 1 2 false [] [.v 0] (.call 2 3 false [] [.c (.int .i64 1),.c (.int .i64 3),.v 1,.v 2] (.call 3 4 false [] [.v 3,.v 4,.v 5] (.call 4 5 false [] [.v 3,.c (.int .i64 2),.v 8,.v 9] (.call 4 5 false [] [.v 3,.c (.int .i64 2),.v 13,.v 14] (.call 4 5 false [] [.v 3,.c (.int .i64 2),.v 18,.v 19] (.call 5 3 false [] [.v 15,.v 16,.v 17,.v 20,.v 21,.v 22] (.call 5 3 false [] [.v 10,.v 11,.v 12,.v 15,.v 16,.v 17] (.call 6 3 false [] [.v 15,.v 16,.v 17] (.call 7 3 false [] [.v 10,.v 11,.v 12,.v 15,.v 16,.v 17] (.call 7 3 false [] [.v 15,.v 16,.v 17,.v 20,.v 21,.v 22] (.op (.mk 6 9) [.v 10,.v 11,.v 12,.v 10,.v 11,.v 12,.v 10,.v 11,.v 12,.v 15,.v 16,.v 17,.v 10,.v 11,.v 12,.v 20,.v 21,.v 22,.v 10,.v 11,.v 12,.v 25,.v 26,.v 27,.v 28,.v 29,.v 30,.v 20,.v 21,.v 22,.v 10,.v 11,.v 12,.v 31,.v 32,.v 33,.v 15,.v 16,.v 17,.v 20,.v 21,.v 22,.v 34,.v 35,.v 36,.v 20,.v 21,.v 22,.v 10,.v 11,.v 12,.v 37,.v 38,.v 39] (.op .lenL [.v 40] (.loop 11 [.c (.bool true),.c (.int .i64 0),.c (.bool false),.c (.bool false),.c (.bool false),.c (.bool false),.c (.bool false),.c (.bool false),.c (.bool false),.c (.bool false),.c (.bool false)] ir0p2))))))))))))))
theorem rd0 : readFn T SG sigs 3000 sg0 Tryz.f8 an0 = some ir0 := by kernel_rfl
def an1 : Ann := .z
def ir1 : IR := (.op .lenL [.v 0] (.op .min [.v 1,.c (.int .i64 2000)] (.op (.subL 1) [.v 0,.c (.int .i64 0),.v 2] (.ret [.v 3,.c (.int .i64 0)]))))
theorem rd1 : readFn T SG sigs 3000 sg1 Tryz.f15 an1 = some ir1 := by kernel_rfl
def an2 : Ann := .z
def ir2 : IR := (.op (.bin .sub false) [.v 1,.v 0] (.op (.bin .add false) [.v 4,.c (.int .i64 1)] (.call 10 3 false [] [.v 5,.v 2,.v 3] (.op (.bin .add false) [.v 0,.v 6] (.ret [.v 9,.v 7,.v 8])))))
theorem rd2 : readFn T SG sigs 3000 sg2 Tryz.f16 an2 = some ir2 := by kernel_rfl
def an3 : Ann := (.s none .z (.s none .z (.s none .z (.s none (.s none .z (.b (.l ⟨4,[(7,(.atm (.v 0))),(10,.junk),(11,.junk),(12,.junk),(13,.junk),(14,.junk),(15,.junk)],[(0,⟨false,false,96,2,.c (.sl []),[[.atm (.v 1),.atm (.v 2)]]⟩),(2,⟨false,true,3,1,.v 3,[]⟩)],3,[]⟩ .z))) .z))))
def ir3p0 : IR := (.op .lenL [.v 12] (.op (.bin .lss false) [.v 9,.v 13] (.ite (.v 14) (.call 10 3 false [] [.v 6,.v 10,.v 11] (.op .chk [.v 12,.v 9] (.op (.set 0 1) [.v 12,.v 9,.v 15] (.op (.bin .add false) [.v 9,.c (.int .i64 1)] (.jump 0 [.v 19,.v 16,.v 17,.v 18]))))) (.call 11 1 false [] [.v 0] (.call 12 3 false [] [.v 15,.v 12] (.ret [.v 16,.v 17,.v 10,.v 11]))))))
def ir3 : IR := (.op (.conv .u64) [.v 0] (.op (.bin .shl false) [.c (.int .i64 1),.v 3] (.op (.mkL 8 [(.int .i64 0)]) [.v 4] (.call 2 3 false [] [.c (.int .i64 1),.c (.int .i64 6),.v 1,.v 2] (.loop 4 [.c (.int .i64 0),.v 7,.v 8,.v 5] ir3p0)))))
theorem rd3 : readFn T SG sigs 3000 sg3 Tryz.f17 an3 = some ir3 := by kernel_rfl
def an4 : Ann := (.s none .z (.s none .z (.s none (.s (some ⟨1,[(11,.junk),(12,.junk),(18,(.atm (.v 0)))],[],2,[]⟩) .z .z) (.s none .z (.s none .z (.s (some ⟨3,[(7,.junk),(9,(.atm (.v 0))),(18,.junk),(34,.junk),(35,.junk),(36,.junk),(37,.junk),(38,.junk),(39,.junk)],[(0,⟨false,false,96,2,.c (.sl []),[[.atm (.v 1),.atm (.v 2)]]⟩)],4,[]⟩) (.s none .z (.b (.s none .z (.c .z (.s (some ⟨1,[(7,.junk),(18,.junk),(34,.junk),(35,.junk),(36,.junk),(37,.junk),(38,.junk),(39,.junk),(40,.junk),(41,.junk),(42,.junk),(43,.junk),(44,(.atm (.v 0)))],[],4,[]⟩) .z .z))))) (.s none (.s none .z (.b (.l ⟨4,[(10,(.atm (.v 0)))],[(0,⟨false,false,96,2,.c (.sl []),[[.atm (.v 1),.atm (.v 2)]]⟩),(4,⟨false,true,39,3,.v 3,[]⟩)],5,[⟨some (3,0,2),0,39,3⟩]⟩ .z))) .z)))))))
def ir4p0 : IR := (.op (.bin .lss false) [.v 14,.v 11] (.ite (.v 18) (.op (.bin .sub false) [.v 1,.c (.int .i64 1)] (.call 4 5 false [] [.v 0,.v 19,.v 15,.v 16] (.op (.mk 3 1) [.v 20,.v 21,.v 22] (.op (.app 3 48) [.v 17,.v 25] (.op (.bin .add false) [.v 14,.c (.int .i64 1)] (.jump 0 [.v 27,.v 23,.v 24,.v 26])))))) (.ret [.v 10,.c (.str []),.v 17,.v 15,.v 16])))
def ir4p1 : IR := (.loop 4 [.c (.int .i64 0),.v 12,.v 13,.c (.sl [])] ir4p0)
def ir4p2 : IR := (.ite (.v 12) (.call 10 3 false [] [.c (.int .i64 2),.v 5,.v 6] (.op (.bin .add false) [.c (.int .i64 2),.v 13] (.jump 0 [.v 16,.v 14,.v 15]))) (.jump 0 [.c (.int .i64 2),.v 5,.v 6]))
def ir4p3 : IR := (.ite (.v 7) (.op (.bin .eql false) [.v 4,.c (.int .i64 0)] (.ite (.v 8) (.call 10 3 false [] [.c (.int .i64 2),.v 5,.v 6] (.op (.bin .add false) [.c (.int .i64 1),.v 9] (.ret [.v 12,.c (.str []),.c (.sl []),.v 10,.v 11]))) (.call 10 3 false [] [.v 0,.v 5,.v 6] (.op (.bin .add false) [.c (.int .i64 97),.v 9] (.op (.conv .u8) [.v 12] (.op (.mk 1 1) [.v 13] (.op .toS [.v 14] (.ret [.c (.int .i64 3),.v 15,.c (.sl []),.v 10,.v 11])))))))) (.op (.mk 1 8) [.c (.int .i64 4),.c (.int .i64 4),.c (.int .i64 5),.c (.int .i64 5),.c (.int .i64 6),.c (.int .i64 6),.c (.int .i64 7),.c (.int .i64 8)] (.op (.bin .sub false) [.v 4,.c (.int .i64 4)] (.op .chk [.v 8,.v 9] (.op (.get 0 1) [.v 8,.v 9] (.letj 3 (.op (.bin .eql false) [.v 10,.c (.int .i64 4)] (.ite (.v 11) (.jump 0 [.c (.int .i64 1),.v 5,.v 6]) (.letj 1 (.op (.bin .eql false) [.v 10,.c (.int .i64 5)] (.ite (.v 12) (.jump 1 [.c (.bool true)]) (.op (.bin .eql false) [.v 10,.c (.int .i64 6)] (.jump 1 [.v 13])))) ir4p2))) ir4p1))))))
def ir4 : IR := (.call 10 3 false [] [.c (.int .i64 12),.v 2,.v 3] (.letj 1 (.op (.bin .lss false) [.v 1,.c (.int .i64 1)] (.ite (.v 7) (.jump 0 [.c (.bool true)]) (.op (.bin .lss false) [.v 4,.c (.int .i64 4)] (.jump 0 [.v 8])))) ir4p3))
theorem rd4 : readFn T SG sigs 3000 sg4 Tryz.f35 an4 = some ir4 := by kernel_rfl
def an5 : Ann := .z
def ir5 : IR := (.op (.mk 3 2) [.v 0,.v 1,.v 2,.v 3,.v 4,.v 5] (.ret [.c (.int .i64 5),.c (.str []),.v 6]))
theorem rd5 : readFn T SG sigs 3000 sg5 Tryz.f37 an5 = some ir5 := by kernel_rfl
def an6 : Ann := .z
def ir6 : IR := (.op (.mk 3 1) [.v 0,.v 1,.v 2] (.ret [.c (.int .i64 4),.c (.str []),.v 3]))
theorem rd6 : readFn T SG sigs 3000 sg6 Tryz.f43 an6 = some ir6 := by kernel_rfl
def an7 : Ann := .z
def ir7 : IR := (.op (.mk 3 2) [.v 0,.v 1,.v 2,.v 3,.v 4,.v 5] (.ret [.c (.int .i64 6),.c (.str []),.v 6]))
theorem rd7 : readFn T SG sigs 3000 sg7 Tryz.f38 an7 = some ir7 := by kernel_rfl
def an8 : Ann := .z
def ir8 : IR := (.call 13 1 false [] [.v 0,.v 1] (.op (.bin .neq false) [.v 8,.c (.int .i64 0)] (.ite (.v 9) (.ret [.c (.bool false),.v 8]) (.op (.mk 3 2) [.v 2,.v 3,.v 4,.v 5,.v 6,.v 7] (.call 14 1 true [] [.v 0,.v 10] (.op (.bin .neq false) [.v 11,.c (.int .i64 0)] (.ite (.v 12) (.ret [.c (.bool false),.v 11]) (.call 15 2 false [] [.v 0,.v 2,.v 3,.v 4] (.call 15 2 false [] [.v 0,.v 5,.v 6,.v 7] (.call 16 1 false [] [.v 0,.v 1,.v 13] (.op (.bin .andNot false) [.v 17,.v 15] (.op (.bin .eql false) [.v 18,.c (.int .u64 0)] (.ret [.v 19,.c (.int .i64 0)])))))))))))))
theorem rd8 : readFn T SG sigs 3000 sg8 Tryz.f44 an8 = some ir8 := by kernel_rfl
def an9 : Ann := .z
def ir9 : IR := (.call 11 1 false [] [.c (.int .i64 2)] (.op (.row 1) [.v 0,.c (.int .i64 0)] (.call 17 3 false [] [.v 1] (.op (.row 1) [.v 0,.c (.int .i64 1)] (.call 17 3 false [] [.v 5] (.op (.mk 3 2) [.v 2,.v 3,.v 4,.v 6,.v 7,.v 8] (.call 18 3 false [] [.v 0,.v 9] (.call 6 3 false [] [.v 6,.v 7,.v 8] (.call 5 3 false [] [.v 2,.v 3,.v 4,.v 13,.v 14,.v 15] (.call 6 3 false [] [.v 6,.v 7,.v 8] (.op (.mk 6 2) [.v 2,.v 3,.v 4,.v 6,.v 7,.v 8,.v 16,.v 17,.v 18,.v 19,.v 20,.v 21] (.call 19 2 false [] [.v 0,.v 22] (.op (.bin .eql false) [.v 12,.c (.int .i64 0)] (.ite (.v 25) (.op (.bin .eql false) [.v 24,.c (.int .i64 0)] (.ite (.v 26) (.op (.mk 1 4) [.c (.int .i64 2),.c (.int .i64 1),.c (.int .i64 2),.c (.int .i64 0)] (.call 20 1 true [] [.v 11,.v 27] (.ite (.v 28) (.op (.mk 1 2) [.c (.int .i64 0),.c (.int .i64 1)] (.call 20 1 true [] [.v 23,.v 29] (.ret [.v 30]))) (.ret [.c (.bool false)])))) (.ret [.c (.bool false)]))) (.ret [.c (.bool false)])))))))))))))))
theorem rd9 : readFn T SG sigs 3000 sg9 Tryz.f42 an9 = some ir9 := by kernel_rfl
def an10 : Ann := .z
def ir10 : IR := (.call 21 3 false [] [.v 1,.v 2] (.call 22 1 false [] [.v 3,.v 0] (.ret [.v 6,.v 4,.v 5])))
theorem rd10 : readFn T SG sigs 3000 sg10 Tryz.f67 an10 = some ir10 := by kernel_rfl
def an11 : Ann := (.s none .z (.s none .z (.s none (.s none .z (.b (.l ⟨2,[(2,.junk),(4,(.atm (.v 0)))],[(0,⟨false,true,9,1,.v 1,[]⟩)],1,[⟨none,3,9,1⟩]⟩ .z))) .z)))
def ir11p0 : IR := (.op (.bin .lss false) [.v 1,.v 0] (.ite (.v 3) (.op (.bin .add false) [.c (.int .i64 97),.v 1] (.op (.conv .u8) [.v 4] (.op (.mk 1 1) [.v 5] (.op .toS [.v 6] (.op (.mk 1 1) [.v 7] (.op (.app 1 16) [.v 2,.v 8] (.op (.bin .add false) [.v 1,.c (.int .i64 1)] (.jump 0 [.v 10,.v 9])))))))) (.ret [.v 2])))
def ir11 : IR := (.loop 2 [.c (.int .i64 0),.c (.sl [])] ir11p0)
theorem rd11 : readFn T SG sigs 3000 sg11 Tryz.f47 an11 = some ir11 := by kernel_rfl
def an12 : Ann := (.s none .z (.s none (.s (some ⟨1,[(5,.junk),(21,(.atm (.v 0)))],[],1,[]⟩) .z .z) (.s none .z (.s none (.s none .z (.b (.l ⟨2,[(0,.junk),(7,(.atm (.v 0))),(21,.junk),(24,.junk),(25,.junk),(26,.junk),(27,.junk),(28,.junk),(29,.junk)],[(6,⟨false,true,3,1,.v 1,[]⟩)],9,[]⟩ (.s none .z (.s none (.b (.s none .z (.s none (.s none .z (.b (.l ⟨2,[(9,(.atm (.v 0))),(30,.junk),(31,.junk),(32,.junk),(33,.junk)],[(9,⟨false,true,3,1,.v 1,[]⟩)],10,[⟨none,8,3,1⟩]⟩ (.s none .z (.s (some ⟨1,[(36,.junk),(37,.junk),(38,.junk),(39,.junk)],[(9,⟨false,true,3,1,.v 0,[]⟩)],10,[]⟩) (.b (.s (some ⟨1,[(36,.junk),(37,.junk),(38,.junk),(39,.junk),(59,(.atm (.v 0)))],[],10,[]⟩) .z .z)) .z))))) .z))) .z))))) .z))))
def ir12p0 : IR := (.op (.bin .add false) [.v 10,.c (.int .i64 1)] (.jump 1 [.v 15,.v 14]))
def ir12p1 : IR := (.ite (.v 14) (.op (.row 1) [.v 1,.v 10] (.op (.mk 1 1) [.v 15] (.op (.app 1 8) [.v 11,.v 16] (.jump 2 [.v 17])))) (.jump 2 [.v 11]))
def ir12p2 : IR := (.op .lenL [.v 1] (.op (.bin .lss false) [.v 10,.v 12] (.ite (.v 13) (.letj 1 (.letj 1 (.op (.row 1) [.v 1,.v 10] (.op (.row 1) [.v 1,.v 6] (.op (.bin .lss false) [.v 14,.v 15] (.ite (.v 16) (.op (.row 1) [.v 1,.v 10] (.call 24 1 true [] [.v 11,.v 17] (.op (.un .not) [.v 18] (.jump 3 [.v 19])))) (.jump 3 [.c (.bool false)]))))) ir12p1) ir12p0) (.op .lenL [.v 11] (.op .chk [.v 7,.v 6] (.op (.set 0 1) [.v 7,.v 6,.v 14] (.op (.bin .add false) [.v 6,.c (.int .i64 1)] (.jump 0 [.v 16,.v 15]))))))))
def ir12p3 : IR := (.op .lenL [.v 1] (.op (.bin .lss false) [.v 6,.v 8] (.ite (.v 9) (.loop 2 [.c (.int .i64 0),.c (.sl [])] ir12p2) (.ret [.v 3,.v 7,.c (.int .i64 0)]))))
def ir12p4 : IR := (.ite (.v 2) (.ret [.c (.sl []),.c (.sl []),.c (.int .i64 1)]) (.op (.app 1 16) [.c (.sl []),.v 0] (.op .lenL [.v 1] (.op (.mkL 8 [(.int .i64 0)]) [.v 4] (.loop 2 [.c (.int .i64 0),.v 5] ir12p3)))))
def ir12 : IR := (.letj 1 (.call 23 1 false [] [.v 0] (.op (.un .not) [.v 2] (.ite (.v 3) (.jump 0 [.c (.bool true)]) (.op .lenL [.v 1] (.op .lenL [.v 0] (.op (.conv .u64) [.v 5] (.op (.bin .shl false) [.c (.int .i64 1),.v 6] (.op (.bin .neq false) [.v 4,.v 7] (.jump 0 [.v 8]))))))))) ir12p4)
theorem rd12 : readFn T SG sigs 3000 sg12 Tryz.f68 an12 = some ir12 := by kernel_rfl
def an13 : Ann := (.s none .z (.s none (.s (some ⟨1,[(0,.junk),(2,.junk),(20,(.atm (.v 0)))],[],1,[]⟩) .z .z) (.s none .z (.s none .z (.s none (.s none .z (.b (.l ⟨3,[(1,.junk),(4,(.atm (.v 0))),(20,.junk),(21,.junk),(22,.junk),(23,.junk),(24,.junk),(25,.junk),(28,(.atm (.v 1)))],[(1,⟨false,true,4,1,.v 2,[]⟩)],2,[]⟩ (.s none .z (.s none .z (.s none (.b (.s none .z (.s none (.s (some ⟨1,[(29,.junk),(30,.junk),(31,.junk),(39,(.atm (.v 0)))],[],2,[]⟩) .z .z) .z))) .z)))))) .z)))))
def ir13p0 : IR := (.ite (.v 11) (.ret [.c (.int .i64 8)]) (.op .max [.v 6,.v 10] (.op .chk [.v 8,.v 10] (.op (.set 0 1) [.v 8,.v 10,.c (.bool true)] (.op (.bin .add false) [.v 7,.c (.int .i64 1)] (.jump 0 [.v 12,.v 14,.v 13]))))))
def ir13p1 : IR := (.op (.bin .lss false) [.v 7,.v 5] (.ite (.v 9) (.op (.row 1) [.v 1,.v 7] (.letj 1 (.op (.bin .lss false) [.v 10,.c (.int .i64 0)] (.ite (.v 11) (.jump 1 [.c (.bool true)]) (.op .lenL [.v 8] (.op (.bin .geq false) [.v 10,.v 12] (.jump 1 [.v 13]))))) ir13p0)) (.op (.subL 1) [.v 8,.c (.int .i64 0),.v 6] (.call 26 1 false [] [.v 10,.c (.bool false)] (.ite (.v 11) (.ret [.c (.int .i64 8)]) (.ret [.c (.int .i64 0)]))))))
def ir13p2 : IR := (.ite (.v 2) (.ret [.c (.int .i64 1)]) (.op .lenL [.v 1] (.op (.mkL 1 [(.bool false)]) [.v 3] (.op .lenL [.v 1] (.loop 3 [.c (.int .i64 0),.c (.int .i64 0),.v 4] ir13p1)))))
def ir13 : IR := (.letj 1 (.call 25 1 false [] [.v 0] (.op (.un .not) [.v 2] (.ite (.v 3) (.jump 0 [.c (.bool true)]) (.op .lenL [.v 1] (.op .lenL [.v 0] (.op (.bin .shl false) [.c (.int .i64 1),.v 5] (.op (.bin .neq false) [.v 4,.v 6] (.jump 0 [.v 7])))))))) ir13p2)
theorem rd13 : readFn T SG sigs 3000 sg13 Tryz.f91 an13 = some ir13 := by kernel_rfl
def an14 : Ann := (.s none .z (.s none (.s none .z (.b (.l ⟨1,[(1,.junk),(4,.junk),(11,(.atm (.v 0)))],[],0,[]⟩ .z))) .z))
def ir14p0 : IR := (.op (.bin .lss false) [.v 3,.v 2] (.ite (.v 4) (.op (.row 3) [.v 1,.v 3] (.call 15 2 false [] [.v 0,.v 5,.v 6,.v 7] (.op (.bin .neq false) [.v 9,.c (.int .i64 0)] (.ite (.v 10) (.ret [.v 9]) (.op (.bin .add false) [.v 3,.c (.int .i64 1)] (.jump 0 [.v 11])))))) (.ret [.c (.int .i64 0)])))
def ir14 : IR := (.op .lenL [.v 1] (.loop 1 [.c (.int .i64 0)] ir14p0))
theorem rd14 : readFn T SG sigs 3000 sg14 Tryz.f95 an14 = some ir14 := by kernel_rfl
def an15 : Ann := (.s none .z (.s none .z (.s none .z (.s none (.s none .z (.b (.l ⟨1,[(1,.junk),(4,.junk),(5,.junk),(6,.junk),(9,.junk),(10,.junk),(11,.junk),(12,.junk),(13,.junk),(14,.junk),(15,.junk),(17,.junk),(20,(.atm (.v 0)))],[],1,[]⟩ .z))) .z))))
def ir15p0 : IR := (.op (.bin .lss false) [.v 10,.v 9] (.ite (.v 11) (.op (.row 1) [.v 8,.v 10] (.call 29 1 false [] [.v 0,.v 12] (.op (.un .not) [.v 13] (.ite (.v 14) (.ret [.c (.int .u64 0),.c (.int .i64 6)]) (.op (.bin .add false) [.v 10,.c (.int .i64 1)] (.jump 0 [.v 15])))))) (.call 30 1 false [] [.v 0,.v 1,.v 2,.v 3] (.call 31 1 false [] [.v 0] (.op (.bin .and false) [.v 12,.v 13] (.ret [.v 14,.c (.int .i64 0)]))))))
def ir15 : IR := (.call 25 1 false [] [.v 0] (.op (.un .not) [.v 4] (.ite (.v 5) (.ret [.c (.int .u64 0),.c (.int .i64 1)]) (.call 27 1 false [] [.v 1,.v 2,.v 3] (.op (.bin .neq false) [.v 6,.c (.int .i64 0)] (.ite (.v 7) (.ret [.c (.int .u64 0),.v 6]) (.call 28 1 false [] [.v 1,.v 2,.v 3] (.op .lenL [.v 8] (.loop 1 [.c (.int .i64 0)] ir15p0)))))))))
theorem rd15 : readFn T SG sigs 3000 sg15 Tryz.f73 an15 = some ir15 := by kernel_rfl
def an16 : Ann := (.s none .z (.s none (.s none .z (.b (.l ⟨1,[(0,.junk),(2,.junk),(4,.junk),(7,.junk),(10,(.atm (.v 0)))],[],1,[]⟩ .z))) .z))
def ir16p0 : IR := (.op (.bin .lss false) [.v 5,.v 4] (.ite (.v 6) (.op (.row 1) [.v 3,.v 5] (.op (.bin .and false) [.v 7,.v 2] (.op (.bin .neq false) [.v 8,.c (.int .u64 0)] (.ite (.v 9) (.op (.bin .and false) [.v 7,.v 2] (.ret [.v 10])) (.op (.bin .add false) [.v 5,.c (.int .i64 1)] (.jump 0 [.v 10])))))) (.ret [.c (.int .u64 0)])))
def ir16 : IR := (.call 32 1 false [] [.v 0,.v 1] (.op .lenL [.v 3] (.loop 1 [.c (.int .i64 0)] ir16p0)))
theorem rd16 : readFn T SG sigs 3000 sg16 Tryz.f96 an16 = some ir16 := by kernel_rfl
def an17 : Ann := .z
def ir17 : IR := (.ret [.c (.int .i64 3),.v 0,.c (.sl [])])
theorem rd17 : readFn T SG sigs 3000 sg17 Tryz.f94 an17 = some ir17 := by kernel_rfl
def an18 : Ann := (.g [(148,3)] (.s none .z (.s none .z (.s none .z (.s none .z (.s none (.s none .z (.b (.l ⟨1,[],[(4,⟨false,true,3,1,.v 0,[]⟩)],7,[]⟩ (.s none .z (.b (.s none .z (.s none .z (.s none .z (.b (.l ⟨2,[(26,.junk),(27,.junk),(28,.junk),(29,.junk),(30,.junk),(31,.junk),(32,.junk),(33,.junk),(34,.junk),(35,.junk),(40,.junk),(42,(.atm (.v 0)))],[(4,⟨false,true,3,1,.v 1,[]⟩)],8,[]⟩ (.s none .z (.s none .z (.s (some ⟨2,[(11,(.atm (.v 0))),(43,.junk)],[(4,⟨false,true,3,1,.v 1,[]⟩)],8,[]⟩) .z .z))))))))))))) .z))))))
def ir18p0 : IR := (.op (.bin .add false) [.v 23,.c (.int .i64 1)] (.jump 1 [.v 28,.v 27]))
def ir18p1 : IR := (.op (.bin .lss false) [.v 23,.v 22] (.ite (.v 25) (.letj 2 (.call 34 1 false [] [.v 19,.v 23] (.op (.un .not) [.v 26] (.ite (.v 27) (.op .lenL [.v 1] (.op (.bin .sub false) [.v 28,.v 14] (.op .chk [.v 24,.v 23] (.op (.set 0 1) [.v 24,.v 23,.v 29] (.jump 2 [.v 23,.v 30]))))) (.jump 2 [.v 23,.v 24])))) ir18p0) (.op (.bin .sub false) [.v 14,.c (.int .i64 1)] (.jump 0 [.v 24,.v 26]))))
def ir18p2 : IR := (.op (.bin .geq false) [.v 14,.c (.int .i64 0)] (.ite (.v 15) (.op (.row 3) [.v 9,.v 14] (.call 15 2 false [] [.v 0,.v 16,.v 17,.v 18] (.op (.bin .neq false) [.v 20,.c (.int .i64 0)] (.ite (.v 21) (.call 14 1 false [] [.v 0,.v 1] (.ret [.c (.sl []),.c (.sl []),.v 22])) (.op .lenL [.v 13] (.loop 2 [.c (.int .i64 0),.v 13] ir18p1)))))) (.call 35 3 false [] [.v 0,.v 13] (.ret [.v 16,.v 17,.v 18]))))
def ir18 : IR := (.call 25 1 false [] [.v 0] (.op (.un .not) [.v 2] (.ite (.v 3) (.ret [.c (.sl []),.c (.sl []),.c (.int .i64 1)]) (.op .lenL [.v 1] (.op (.bin .gtr false) [.v 4,.c (.int .i64 64)] (.ite (.v 5) (.ret [.c (.sl []),.c (.sl []),.c (.int .i64 2)]) (.op .lenL [.v 0] (.op (.bin .shl false) [.c (.int .i64 1),.v 6] (.op (.mkL 8 [(.int .i64 0)]) [.v 7] (.call 33 1 false [] [.v 1] (.op .lenL [.v 9] (.op (.subL 3) [.v 9,.c (.int .i64 0),.v 10] (.op (.room 1 0) [.v 9] (.op (.bin .sub false) [.v 10,.c (.int .i64 1)] (.loop 2 [.v 8,.v 12] ir18p2)))))))))))))))
theorem rd18 : readFn T SG sigs 3000 sg18 Tryz.f54 an18 = some ir18 := by kernel_rfl
def an19 : Ann := .z
def ir19 : IR := (.call 36 2 false [] [.v 0,.v 1] (.op (.bin .neq false) [.v 3,.c (.int .i64 0)] (.ite (.v 4) (.ret [.c (.sl []),.v 3]) (.call 37 2 false [] [.v 2] (.ret [.v 5,.v 6])))))
theorem rd19 : readFn T SG sigs 3000 sg19 Tryz.f60 an19 = some ir19 := by kernel_rfl
def an20 : Ann := (.s none .z (.s none .z (.s none (.s none .z (.b (.l ⟨1,[(4,.junk),(6,.junk),(7,.junk),(8,.junk),(9,.junk),(10,.junk),(11,.junk),(13,(.atm (.v 0)))],[],0,[]⟩ .z))) .z)))
def ir20p0 : IR := (.op (.bin .lss false) [.v 6,.v 5] (.ite (.v 7) (.op (.row 1) [.v 0,.v 6] (.op (.row 1) [.v 1,.v 6] (.op (.bin .neq false) [.v 8,.v 9] (.ite (.v 10) (.ret [.c (.bool false)]) (.op (.bin .add false) [.v 6,.c (.int .i64 1)] (.jump 0 [.v 11])))))) (.ret [.c (.bool true)])))
def ir20 : IR := (.op .lenL [.v 0] (.op .lenL [.v 1] (.op (.bin .neq false) [.v 2,.v 3] (.ite (.v 4) (.ret [.c (.bool false)]) (.op .lenL [.v 0] (.loop 1 [.c (.int .i64 0)] ir20p0))))))
theorem rd20 : readFn T SG sigs 3000 sg20 Tryz.f51 an20 = some ir20 := by kernel_rfl
def an21 : Ann := .z
def ir21 : IR := (.op .lenL [.v 0] (.op (.bin .geq false) [.v 1,.v 2] (.ite (.v 3) (.ret [.c (.int .i64 0),.v 0,.v 1]) (.op (.bin .add false) [.v 1,.c (.int .i64 1)] (.op (.bin .sub false) [.v 4,.c (.int .i64 1)] (.op (.row 1) [.v 0,.v 5] (.ret [.v 6,.v 0,.v 4])))))))
theorem rd21 : readFn T SG sigs 3000 sg21 Tryz.f71 an21 = some ir21 := by kernel_rfl
def an22 : Ann := (.s none .z (.s none .z (.s none .z (.s (some ⟨1,[(0,(.atm (.v 0))),(1,.junk),(4,.junk),(5,.junk),(6,.junk),(7,.junk),(8,.junk),(9,.junk)],[],0,[]⟩) .z .z))))
def ir22p0 : IR := (.ret [.v 4])
def ir22 : IR := (.op (.bin .lss false) [.v 1,.c (.int .i64 1)] (.ite (.v 2) (.ret [.c (.int .i64 0)]) (.op (.bin .rem false) [.v 0,.v 1] (.letj 1 (.op (.bin .lss false) [.v 3,.c (.int .i64 0)] (.ite (.v 4) (.op (.bin .add false) [.v 3,.v 1] (.jump 0 [.v 5])) (.jump 0 [.v 3]))) ir22p0))))
theorem rd22 : readFn T SG sigs 3000 sg22 Tryz.f115 an22 = some ir22 := by kernel_rfl
def an23 : Ann := (.s none .z (.s none (.s none .z (.b (.l ⟨1,[(2,.junk),(3,(.atm (.v 0)))],[],0,[]⟩ (.s none .z (.s none (.b (.s (some ⟨1,[(4,.junk),(5,.junk),(6,.junk),(7,.junk),(31,(.atm (.v 0)))],[],0,[]⟩) .z .z)) .z))))) .z))
def ir23p0 : IR := (.ite (.v 4) (.ret [.c (.bool false)]) (.op (.bin .add false) [.v 1,.c (.int .i64 1)] (.jump 0 [.v 5])))
def ir23p1 : IR := (.op .lenL [.v 0] (.op (.bin .lss false) [.v 1,.v 2] (.ite (.v 3) (.letj 1 (.op (.row 1) [.v 0,.v 1] (.call 38 1 false [] [.v 4] (.op (.un .not) [.v 5] (.ite (.v 6) (.jump 1 [.c (.bool true)]) (.op (.bin .gtr false) [.v 1,.c (.int .i64 0)] (.ite (.v 7) (.op (.row 1) [.v 0,.v 1] (.op (.bin .sub false) [.v 1,.c (.int .i64 1)] (.op (.row 1) [.v 0,.v 9] (.op (.bin .leq false) [.v 8,.v 10] (.jump 1 [.v 11]))))) (.jump 1 [.c (.bool false)]))))))) ir23p0) (.op .lenL [.v 0] (.op (.bin .leq false) [.v 4,.c (.int .i64 6)] (.ret [.v 5]))))))
def ir23 : IR := (.loop 1 [.c (.int .i64 0)] ir23p1)
theorem rd23 : readFn T SG sigs 3000 sg23 Tryz.f69 an23 = some ir23 := by kernel_rfl
def an24 : Ann := (.s none .z (.s none (.s none .z (.b (.l ⟨1,[(4,.junk),(6,.junk),(8,(.atm (.v 0)))],[],0,[]⟩ .z))) .z))
def ir24p0 : IR := (.op (.bin .lss false) [.v 3,.v 2] (.ite (.v 4) (.op (.row 1) [.v 0,.v 3] (.op (.bin .eql false) [.v 5,.v 1] (.ite (.v 6) (.ret [.c (.bool true)]) (.op (.bin .add false) [.v 3,.c (.int .i64 1)] (.jump 0 [.v 7]))))) (.ret [.c (.bool false)])))
def ir24 : IR := (.op .lenL [.v 0] (.loop 1 [.c (.int .i64 0)] ir24p0))
theorem rd24 : readFn T SG sigs 3000 sg24 Tryz.f116 an24 = some ir24 := by kernel_rfl
def an25 : Ann := (.s none .z (.s none .z (.s none (.s none .z (.b (.l ⟨1,[(2,.junk),(5,.junk),(6,.junk),(7,.junk),(10,(.atm (.v 0)))],[],0,[]⟩ (.s none .z (.s none .z (.s none (.b (.s none .z (.s (some ⟨1,[(3,.junk),(4,.junk),(11,.junk),(12,.junk),(13,.junk),(14,.junk),(30,(.atm (.v 0)))],[],0,[]⟩) .z .z))) .z)))))) .z)))
def ir25p0 : IR := (.ite (.v 7) (.ret [.c (.bool false)]) (.op (.bin .add false) [.v 4,.c (.int .i64 1)] (.jump 0 [.v 8])))
def ir25p1 : IR := (.op (.bin .lss false) [.v 4,.v 3] (.ite (.v 5) (.op (.row 1) [.v 0,.v 4] (.letj 1 (.call 39 1 false [] [.v 6] (.op (.un .not) [.v 7] (.ite (.v 8) (.jump 1 [.c (.bool true)]) (.op (.bin .gtr false) [.v 4,.c (.int .i64 0)] (.ite (.v 9) (.op (.bin .sub false) [.v 4,.c (.int .i64 1)] (.op (.row 1) [.v 0,.v 10] (.op (.bin .geq false) [.v 11,.v 6] (.jump 1 [.v 12])))) (.jump 1 [.c (.bool false)])))))) ir25p0)) (.ret [.c (.bool true)])))
def ir25 : IR := (.op .lenL [.v 0] (.op (.bin .gtr false) [.v 1,.c (.int .i64 6)] (.ite (.v 2) (.ret [.c (.bool false)]) (.op .lenL [.v 0] (.loop 1 [.c (.int .i64 0)] ir25p1)))))
theorem rd25 : readFn T SG sigs 3000 sg25 Tryz.f105 an25 = some ir25 := by kernel_rfl
def an26 : Ann := .z
def ir26 : IR := (.call 40 1 false [] [.v 0,.v 1] (.op (.bin .geq false) [.v 2,.c (.int .i64 0)] (.ret [.v 3])))
theorem rd26 : readFn T SG sigs 3000 sg26 Tryz.f136 an26 = some ir26 := by kernel_rfl
def an27 : Ann := (.s none .z (.s none (.b (.s (some ⟨1,[(0,.junk),(2,.junk),(3,(.atm (.v 0)))],[],1,[]⟩) .z .z)) .z))
def ir27p0 : IR := (.ite (.v 3) (.ret [.c (.int .i64 2)]) (.call 43 1 false [] [.v 0,.v 1,.v 2] (.op (.un .not) [.v 4] (.ite (.v 5) (.ret [.c (.int .i64 4)]) (.call 44 1 false [] [.v 0,.v 1,.v 2] (.op (.un .not) [.v 6] (.ite (.v 7) (.ret [.c (.int .i64 3)]) (.ret [.c (.int .i64 0)]))))))))
def ir27 : IR := (.letj 1 (.call 41 1 false [] [.v 0,.v 1,.v 2] (.op (.bin .gtr false) [.v 3,.c (.int .i64 600)] (.ite (.v 4) (.jump 0 [.c (.bool true)]) (.call 42 1 false [] [.v 0,.v 1,.v 2] (.op (.bin .gtr false) [.v 5,.c (.int .i64 20)] (.jump 0 [.v 6])))))) ir27p0)
theorem rd27 : readFn T SG sigs 3000 sg27 Tryz.f119 an27 = some ir27 := by kernel_rfl
def an29 : Ann := .z
def ir29 : IR := (.call 45 1 false [] [.v 0,.v 1] (.op (.bin .geq false) [.v 2,.c (.int .i64 0)] (.ret [.v 3])))
theorem rd29 : readFn T SG sigs 3000 sg29 Tryz.f121 an29 = some ir29 := by kernel_rfl
def an30 : Ann := (.s none .z (.s none (.s none .z (.b (.s none .z (.c .z (.s none .z (.c .z (.s none .z (.c .z (.s none .z (.c .z (.s none .z (.c .z (.s none .z (.c (.s none .z (.s none (.s none .z (.b (.l ⟨2,[(1,.junk),(3,.junk),(4,.junk),(5,(.atm (.v 0))),(11,.junk),(12,.junk),(13,.junk),(14,.junk),(15,.junk),(16,.junk),(22,.junk),(23,.junk),(31,.junk),(32,.junk),(47,.junk),(48,.junk),(63,.junk),(64,.junk),(65,.junk),(68,(.atm (.v 1)))],[],1,[]⟩ .z))) .z)) .z)))))))))))))) (.s none .z (.s none (.s none .z (.b (.l ⟨2,[(1,.junk),(3,.junk),(4,.junk),(8,(.atm (.v 0))),(11,.junk),(12,.junk),(13,.junk),(14,.junk),(15,.junk),(16,.junk),(22,.junk),(23,.junk),(31,.junk),(32,.junk),(47,.junk),(48,.junk),(63,.junk),(64,.junk),(79,.junk),(82,(.atm (.v 1)))],[],1,[]⟩ .z))) .z))))
def ir30p0 : IR := (.op (.bin .lss false) [.v 12,.v 10] (.ite (.v 13) (.op (.row 3) [.v 3,.v 12] (.call 30 1 false [] [.v 0,.v 14,.v 15,.v 16] (.op (.bin .and false) [.v 11,.v 17] (.op (.bin .add false) [.v 12,.c (.int .i64 1)] (.jump 0 [.v 18,.v 19]))))) (.ret [.v 11])))
def ir30p1 : IR := (.op (.bin .lss false) [.v 12,.v 10] (.ite (.v 13) (.op (.row 3) [.v 3,.v 12] (.call 30 1 false [] [.v 0,.v 14,.v 15,.v 16] (.op (.bin .or false) [.v 11,.v 17] (.op (.bin .add false) [.v 12,.c (.int .i64 1)] (.jump 0 [.v 18,.v 19]))))) (.ret [.v 11])))
def ir30 : IR := (.op (.bin .eql false) [.v 1,.c (.int .i64 1)] (.ite (.v 4) (.ret [.c (.int .u64 18446744073709551615)]) (.op (.bin .eql false) [.v 1,.c (.int .i64 3)] (.ite (.v 5) (.call 45 1 false [] [.v 0,.v 2] (.call 46 1 false [] [.v 6] (.ret [.v 7]))) (.op (.bin .eql false) [.v 1,.c (.int .i64 4)] (.ite (.v 6) (.op (.row 3) [.v 3,.c (.int .i64 0)] (.call 30 1 false [] [.v 0,.v 7,.v 8,.v 9] (.op (.un .xor) [.v 10] (.ret [.v 11])))) (.op (.bin .eql false) [.v 1,.c (.int .i64 7)] (.ite (.v 7) (.op (.row 3) [.v 3,.c (.int .i64 0)] (.call 30 1 false [] [.v 0,.v 8,.v 9,.v 10] (.op (.un .xor) [.v 11] (.op (.row 3) [.v 3,.c (.int .i64 1)] (.call 30 1 false [] [.v 0,.v 13,.v 14,.v 15] (.op (.bin .or false) [.v 12,.v 16] (.ret [.v 17]))))))) (.op (.bin .eql false) [.v 1,.c (.int .i64 8)] (.ite (.v 8) (.op (.row 3) [.v 3,.c (.int .i64 0)] (.call 30 1 false [] [.v 0,.v 9,.v 10,.v 11] (.op (.row 3) [.v 3,.c (.int .i64 1)] (.call 30 1 false [] [.v 0,.v 13,.v 14,.v 15] (.op (.bin .xor false) [.v 12,.v 16] (.op (.un .xor) [.v 17] (.ret [.v 18]))))))) (.op (.bin .eql false) [.v 1,.c (.int .i64 5)] (.ite (.v 9) (.op .lenL [.v 3] (.loop 2 [.c (.int .u64 18446744073709551615),.c (.int .i64 0)] ir30p0)) (.op .lenL [.v 3] (.loop 2 [.c (.int .u64 0),.c (.int .i64 0)] ir30p1))))))))))))))
theorem rd30 : readFn T SG sigs 3000 sg30 Tryz.f122 an30 = some ir30 := by kernel_rfl
def an31 : Ann := .z
def ir31 : IR := (.call 25 1 false [] [.v 0] (.op (.un .not) [.v 1] (.ite (.v 2) (.ret [.c (.int .u64 0)]) (.op .lenL [.v 0] (.call 47 1 false [] [.v 3] (.ret [.v 4]))))))
theorem rd31 : readFn T SG sigs 3000 sg31 Tryz.f87 an31 = some ir31 := by kernel_rfl
def an32 : Ann := (.s none .z (.s none .z (.s none .z (.s none (.s none .z (.b (.l ⟨2,[(0,.junk),(1,.junk),(2,.junk),(6,.junk),(7,.junk),(8,.junk),(9,.junk),(10,.junk),(11,.junk),(12,.junk),(13,.junk),(14,.junk),(17,(.atm (.v 0)))],[(1,⟨false,true,30,1,.v 1,[]⟩)],2,[]⟩ .z))) .z))))
def ir32p0 : IR := (.op (.bin .lss false) [.v 8,.v 7] (.ite (.v 10) (.op (.row 1) [.v 1,.v 8] (.op .chk [.v 9,.v 11] (.op (.get 0 1) [.v 9,.v 11] (.op (.conv .u64) [.v 8] (.op (.bin .shl false) [.c (.int .u64 1),.v 13] (.op (.bin .or false) [.v 12,.v 14] (.op .chk [.v 9,.v 11] (.op (.set 0 1) [.v 9,.v 11,.v 15] (.op (.bin .add false) [.v 8,.c (.int .i64 1)] (.jump 0 [.v 17,.v 16])))))))))) (.ret [.v 9])))
def ir32 : IR := (.call 13 1 false [] [.v 0,.v 1] (.op (.bin .neq false) [.v 2,.c (.int .i64 0)] (.ite (.v 3) (.ret [.c (.sl [])]) (.call 48 1 false [] [.v 1] (.op (.bin .add false) [.v 4,.c (.int .i64 1)] (.op (.mkL 8 [(.int .u64 0)]) [.v 5] (.op .lenL [.v 1] (.loop 2 [.c (.int .i64 0),.v 6] ir32p0))))))))
theorem rd32 : readFn T SG sigs 3000 sg32 Tryz.f109 an32 = some ir32 := by kernel_rfl
def an33 : Ann := .z
def ir33 : IR := (.ret [.v 0])
theorem rd33 : readFn T SG sigs 3000 sg33 Tryz.f106 an33 = some ir33 := by kernel_rfl
def an34 : Ann := .z
def ir34 : IR := (.op (.conv .u64) [.v 1] (.op (.bin .shr false) [.v 0,.v 2] (.op (.bin .and false) [.v 3,.c (.int .u64 1)] (.op (.bin .eql false) [.v 4,.c (.int .u64 1)] (.ret [.v 5])))))
theorem rd34 : readFn T SG sigs 3000 sg34 Tryz.f93 an34 = some ir34 := by kernel_rfl
def an35 : Ann := (.s none .z (.s none (.s (some ⟨1,[(5,.junk),(22,(.atm (.v 0)))],[],1,[]⟩) .z .z) (.s none .z (.s none .z (.s none (.s none .z (.b (.l ⟨2,[(0,.junk),(1,.junk),(22,.junk),(24,.junk),(25,.junk),(27,.junk),(28,.junk),(29,.junk),(30,.junk),(33,(.atm (.v 0)))],[(5,⟨false,true,3,1,.v 1,[]⟩)],6,[⟨some (4,0,1),0,3,1⟩]⟩ .z))) .z)))))
def ir35p0 : IR := (.op (.bin .lss false) [.v 10,.v 9] (.ite (.v 12) (.op (.row 1) [.v 1,.v 10] (.call 53 2 false [] [.v 6,.v 13] (.op (.mk 1 1) [.v 14] (.op (.app 1 8) [.v 11,.v 16] (.op (.bin .add false) [.v 10,.c (.int .i64 1)] (.jump 0 [.v 18,.v 17])))))) (.ret [.v 8,.v 11,.c (.int .i64 0)])))
def ir35p1 : IR := (.ite (.v 2) (.ret [.c (.sl []),.c (.sl []),.c (.int .i64 1)]) (.call 49 1 false [] [.v 1] (.call 50 2 false [0] [.v 3] (.call 51 2 false [1] [.v 4] (.call 52 1 false [0] [.v 0] (.op .lenL [.v 1] (.loop 2 [.c (.int .i64 0),.c (.sl [])] ir35p0)))))))
def ir35 : IR := (.letj 1 (.call 25 1 false [] [.v 0] (.op (.un .not) [.v 2] (.ite (.v 3) (.jump 0 [.c (.bool true)]) (.op .lenL [.v 1] (.op .lenL [.v 0] (.op (.bin .shl false) [.c (.int .i64 1),.v 5] (.op (.bin .neq false) [.v 4,.v 6] (.jump 0 [.v 7])))))))) ir35p1)
theorem rd35 : readFn T SG sigs 3000 sg35 Tryz.f81 an35 = some ir35 := by kernel_rfl
def an36 : Ann := (.s none .z (.s none .z (.s none .z (.s none .z (.s none (.s none .z (.b (.l ⟨2,[(1,.junk),(4,.junk),(5,.junk),(14,.junk),(15,.junk),(16,.junk),(17,.junk),(18,.junk),(19,.junk),(22,(.atm (.v 0)))],[(0,⟨false,true,127,2,.v 1,[]⟩)],1,[⟨none,6,127,2⟩]⟩ .z))) .z)))))
def ir36p0 : IR := (.op (.bin .lss false) [.v 7,.v 6] (.ite (.v 9) (.op (.row 6) [.v 1,.v 7] (.op (.mk 3 2) [.v 10,.v 11,.v 12,.v 13,.v 14,.v 15] (.call 14 1 true [] [.v 0,.v 16] (.op (.bin .neq false) [.v 17,.c (.int .i64 0)] (.ite (.v 18) (.ret [.c (.sl []),.v 17]) (.call 15 2 false [] [.v 0,.v 10,.v 11,.v 12] (.call 15 2 false [] [.v 0,.v 13,.v 14,.v 15] (.op (.bin .and false) [.v 19,.v 21] (.op (.bin .andNot false) [.v 19,.v 21] (.op (.mk 2 1) [.v 23,.v 24] (.op (.app 2 16) [.v 8,.v 25] (.op (.bin .add false) [.v 7,.c (.int .i64 1)] (.jump 0 [.v 27,.v 26]))))))))))))) (.ret [.v 8,.c (.int .i64 0)])))
def ir36 : IR := (.call 25 1 false [] [.v 0] (.op (.un .not) [.v 2] (.ite (.v 3) (.ret [.c (.sl []),.c (.int .i64 1)]) (.op .lenL [.v 1] (.op (.bin .gtr false) [.v 4,.c (.int .i64 64)] (.ite (.v 5) (.ret [.c (.sl []),.c (.int .i64 2)]) (.op .lenL [.v 1] (.loop 2 [.c (.int .i64 0),.c (.sl [])] ir36p0))))))))
theorem rd36 : readFn T SG sigs 3000 sg36 Tryz.f97 an36 = some ir36 := by kernel_rfl
def an37 : Ann := (.s none .z (.s none .z (.s none (.s none .z (.b (.l ⟨2,[(2,.junk),(3,.junk),(13,.junk),(14,.junk),(15,.junk),(16,.junk),(18,(.atm (.v 0)))],[(0,⟨false,true,3,1,.v 1,[]⟩)],1,[]⟩ .z))) (.s none (.s none .z (.b (.l ⟨2,[(6,(.atm (.v 0))),(17,.junk),(18,.junk),(19,.junk)],[(0,⟨false,true,3,1,.v 1,[]⟩)],1,[]⟩ (.s none .z (.s none (.b (.s none .z (.s none (.s none .z (.b (.l ⟨2,[(7,(.atm (.v 0))),(25,.junk),(26,.junk),(31,(.atm (.v 1)))],[],1,[]⟩ (.s none .z (.s none .z (.s (some ⟨3,[(7,(.atm (.v 0))),(32,.junk)],[(1,⟨false,false,127,2,.c (.sl []),[[.atm (.v 1),.atm (.v 2)]]⟩)],2,[]⟩) .z .z)))))) (.s none .z (.s none (.s none .z (.b (.l ⟨3,[(10,(.atm (.v 0))),(29,.junk),(30,.junk),(31,.junk),(32,.junk),(48,(.atm (.v 1)))],[(0,⟨false,true,3,1,.v 2,[]⟩)],1,[]⟩ (.s none .z (.s none .z (.s (some ⟨4,[(10,(.atm (.v 0))),(49,.junk)],[(0,⟨false,true,3,1,.v 1,[]⟩),(1,⟨false,false,127,2,.c (.sl []),[[.atm (.v 2),.atm (.v 3)]]⟩)],2,[]⟩) (.b (.s none .z (.s (some ⟨1,[(12,.junk),(49,.junk),(50,.junk),(51,.junk),(52,.junk),(64,(.atm (.v 0)))],[],2,[]⟩) .z .z))) .z)))))) .z))))) .z))))) .z))))
def ir37p0 : IR := (.op (.bin .add false) [.v 12,.c (.int .i64 1)] (.jump 2 [.v 14,.v 17]))
def ir37p1 : IR := (.op (.bin .add false) [.v 16,.c (.int .i64 1)] (.jump 3 [.v 19,.v 23,.v 20]))
def ir37p2 : IR := (.ite (.v 21) (.op .chk [.v 17,.v 16] (.op (.set 0 1) [.v 17,.v 16,.v 7] (.jump 4 [.c (.bool true),.v 22,.v 19,.v 20]))) (.jump 4 [.v 15,.v 17,.v 19,.v 20]))
def ir37p3 : IR := (.op (.bin .lss false) [.v 16,.v 14] (.ite (.v 18) (.letj 4 (.op (.row 2) [.v 0,.v 16] (.letj 1 (.op .chk [.v 17,.v 16] (.op (.get 0 1) [.v 17,.v 16] (.op (.bin .lss false) [.v 21,.c (.int .i64 0)] (.ite (.v 22) (.op (.bin .andNot false) [.v 19,.v 11] (.op (.bin .neq false) [.v 23,.c (.int .u64 0)] (.jump 5 [.v 24]))) (.jump 5 [.c (.bool false)]))))) ir37p2)) ir37p1) (.op (.un .not) [.v 15] (.ite (.v 19) (.ret [.c (.sl []),.c (.int .i64 9)]) (.op (.bin .add false) [.v 7,.c (.int .i64 1)] (.jump 1 [.v 20,.v 17]))))))
def ir37p4 : IR := (.op (.bin .lss false) [.v 12,.v 10] (.ite (.v 13) (.letj 3 (.op (.row 2) [.v 0,.v 12] (.op .chk [.v 8,.v 12] (.op (.get 0 1) [.v 8,.v 12] (.op (.bin .lss false) [.v 16,.c (.int .i64 0)] (.ite (.v 17) (.op (.bin .or false) [.v 11,.v 15] (.jump 3 [.v 18,.v 14,.v 15])) (.jump 3 [.v 11,.v 14,.v 15])))))) ir37p0) (.op .lenL [.v 0] (.loop 3 [.c (.bool false),.c (.int .i64 0),.v 8] ir37p3))))
def ir37p5 : IR := (.call 54 1 true [] [.v 8,.c (.int .i64 (-1))] (.ite (.v 9) (.op .lenL [.v 0] (.loop 2 [.c (.int .u64 0),.c (.int .i64 0)] ir37p4)) (.ret [.v 8,.c (.int .i64 0)])))
def ir37p6 : IR := (.op (.bin .lss false) [.v 4,.v 3] (.ite (.v 6) (.op .chk [.v 5,.v 4] (.op (.set 0 1) [.v 5,.v 4,.c (.int .i64 (-1))] (.op (.bin .add false) [.v 4,.c (.int .i64 1)] (.jump 0 [.v 8,.v 7])))) (.loop 2 [.c (.int .i64 0),.v 5] ir37p5)))
def ir37 : IR := (.op .lenL [.v 0] (.op (.mkL 8 [(.int .i64 0)]) [.v 1] (.op .lenL [.v 2] (.loop 2 [.c (.int .i64 0),.v 2] ir37p6))))
theorem rd37 : readFn T SG sigs 3000 sg37 Tryz.f98 an37 = some ir37 := by kernel_rfl
def an38 : Ann := (.s none .z (.s none (.s (some ⟨1,[(2,.junk),(21,(.atm (.v 0)))],[],0,[]⟩) .z .z) (.s none (.s none .z (.b (.l ⟨1,[(3,(.atm (.v 0))),(21,.junk)],[],0,[]⟩ (.s none .z (.s none (.b (.s (some ⟨1,[(22,.junk),(23,.junk),(24,.junk),(25,.junk),(55,(.atm (.v 0)))],[],0,[]⟩) .z .z)) .z))))) .z)))
def ir38p0 : IR := (.ite (.v 5) (.ret [.c (.bool false)]) (.op (.bin .add false) [.v 2,.c (.int .i64 1)] (.jump 0 [.v 6])))
def ir38p1 : IR := (.op .lenS [.v 0] (.op (.bin .lss false) [.v 2,.v 3] (.ite (.v 4) (.letj 1 (.op .idxS [.v 0,.v 2] (.op (.bin .lss false) [.v 5,.c (.int .u8 97)] (.ite (.v 6) (.op .idxS [.v 0,.v 2] (.op (.bin .lss false) [.v 7,.c (.int .u8 48)] (.ite (.v 8) (.op .idxS [.v 0,.v 2] (.op (.bin .neq false) [.v 9,.c (.int .u8 95)] (.jump 1 [.v 10]))) (.op .idxS [.v 0,.v 2] (.op (.bin .gtr false) [.v 9,.c (.int .u8 57)] (.ite (.v 10) (.op .idxS [.v 0,.v 2] (.op (.bin .neq false) [.v 11,.c (.int .u8 95)] (.jump 1 [.v 12]))) (.jump 1 [.c (.bool false)]))))))) (.op .idxS [.v 0,.v 2] (.op (.bin .gtr false) [.v 7,.c (.int .u8 122)] (.ite (.v 8) (.op .idxS [.v 0,.v 2] (.op (.bin .lss false) [.v 9,.c (.int .u8 48)] (.ite (.v 10) (.op .idxS [.v 0,.v 2] (.op (.bin .neq false) [.v 11,.c (.int .u8 95)] (.jump 1 [.v 12]))) (.op .idxS [.v 0,.v 2] (.op (.bin .gtr false) [.v 11,.c (.int .u8 57)] (.ite (.v 12) (.op .idxS [.v 0,.v 2] (.op (.bin .neq false) [.v 13,.c (.int .u8 95)] (.jump 1 [.v 14]))) (.jump 1 [.c (.bool false)]))))))) (.jump 1 [.c (.bool false)]))))))) ir38p0) (.ret [.c (.bool true)]))))
def ir38p2 : IR := (.ite (.v 1) (.ret [.c (.bool false)]) (.loop 1 [.c (.int .i64 0)] ir38p1))
def ir38 : IR := (.letj 1 (.op .lenS [.v 0] (.op (.bin .lss false) [.v 1,.c (.int .i64 1)] (.ite (.v 2) (.jump 0 [.c (.bool true)]) (.op .lenS [.v 0] (.op (.bin .gtr false) [.v 3,.c (.int .i64 12)] (.ite (.v 4) (.jump 0 [.c (.bool true)]) (.op .idxS [.v 0,.c (.int .i64 0)] (.op (.bin .lss false) [.v 5,.c (.int .u8 97)] (.ite (.v 6) (.jump 0 [.c (.bool true)]) (.op .idxS [.v 0,.c (.int .i64 0)] (.op (.bin .gtr false) [.v 7,.c (.int .u8 122)] (.jump 0 [.v 8])))))))))))) ir38p2)
theorem rd38 : readFn T SG sigs 3000 sg38 Tryz.f117 an38 = some ir38 := by kernel_rfl
def an39 : Ann := (.s none .z (.s none (.s (some ⟨1,[(2,.junk),(12,(.atm (.v 0)))],[],0,[]⟩) .z .z) (.s none (.s none .z (.b (.l ⟨1,[(12,.junk),(13,.junk),(15,(.atm (.v 0)))],[],0,[]⟩ (.s none .z (.s none .z (.s (some ⟨0,[(16,.junk)],[],0,[]⟩) (.b (.s none .z (.s none .z (.b (.s (some ⟨1,[(16,.junk),(17,.junk),(18,.junk),(19,.junk),(20,.junk),(21,(.atm (.v 0)))],[],0,[]⟩) .z (.c .z (.s (some ⟨1,[(3,.junk),(4,.junk),(21,.junk),(28,(.atm (.v 0)))],[],0,[]⟩) .z .z))))))) .z)))))) .z)))
def ir39p0 : IR := (.op (.bin .add false) [.v 3,.c (.int .i64 1)] (.jump 0 [.v 5]))
def ir39p1 : IR := (.ite (.v 7) (.jump 1 []) (.ret [.c (.bool false)]))
def ir39p2 : IR := (.ite (.v 6) (.jump 1 []) (.letj 1 (.op (.bin .gtr false) [.v 3,.c (.int .i64 0)] (.ite (.v 7) (.op (.bin .geq false) [.v 5,.c (.int .u8 48)] (.ite (.v 8) (.op (.bin .leq false) [.v 5,.c (.int .u8 57)] (.ite (.v 9) (.jump 2 [.c (.bool true)]) (.op (.bin .eql false) [.v 5,.c (.int .u8 95)] (.jump 2 [.v 10])))) (.op (.bin .eql false) [.v 5,.c (.int .u8 95)] (.jump 2 [.v 9])))) (.jump 2 [.c (.bool false)]))) ir39p1))
def ir39p3 : IR := (.op (.bin .lss false) [.v 3,.v 2] (.ite (.v 4) (.letj 0 (.op .idxS [.v 0,.v 3] (.letj 1 (.op (.bin .geq false) [.v 5,.c (.int .u8 97)] (.ite (.v 6) (.op (.bin .leq false) [.v 5,.c (.int .u8 122)] (.jump 2 [.v 7])) (.jump 2 [.c (.bool false)]))) ir39p2)) ir39p0) (.ret [.c (.bool true)])))
def ir39p4 : IR := (.ite (.v 1) (.ret [.c (.bool false)]) (.op .lenS [.v 0] (.loop 1 [.c (.int .i64 0)] ir39p3)))
def ir39 : IR := (.letj 1 (.op .lenS [.v 0] (.op (.bin .eql false) [.v 1,.c (.int .i64 0)] (.ite (.v 2) (.jump 0 [.c (.bool true)]) (.op .lenS [.v 0] (.op (.bin .gtr false) [.v 3,.c (.int .i64 12)] (.jump 0 [.v 4])))))) ir39p4)
theorem rd39 : readFn T SG sigs 3000 sg39 Tryz.f147 an39 = some ir39 := by kernel_rfl
def an40 : Ann := (.s none .z (.s none (.s none .z (.b (.l ⟨1,[(4,.junk),(6,.junk),(8,(.atm (.v 0)))],[],0,[]⟩ .z))) .z))
def ir40p0 : IR := (.op (.bin .lss false) [.v 3,.v 2] (.ite (.v 4) (.op (.row 1) [.v 0,.v 3] (.op (.bin .eql true) [.v 1,.v 5] (.ite (.v 6) (.ret [.v 3]) (.op (.bin .add false) [.v 3,.c (.int .i64 1)] (.jump 0 [.v 7]))))) (.ret [.c (.int .i64 (-1))])))
def ir40 : IR := (.op .lenL [.v 0] (.loop 1 [.c (.int .i64 0)] ir40p0))
theorem rd40 : readFn T SG sigs 3000 sg40 Tryz.f169 an40 = some ir40 := by kernel_rfl
def an41 : Ann := (.s none .z (.s none .z (.s none (.s none .z (.b (.l ⟨2,[(0,.junk),(1,.junk),(2,.junk),(3,(.atm (.v 0))),(6,.junk),(9,(.atm (.v 1)))],[],1,[]⟩ .z))) .z)))
def ir41p0 : IR := (.op (.bin .lss false) [.v 5,.v 3] (.ite (.v 6) (.op (.row 3) [.v 2,.v 5] (.call 41 1 false [] [.v 7,.v 8,.v 9] (.op (.bin .add false) [.v 4,.v 10] (.op (.bin .add false) [.v 5,.c (.int .i64 1)] (.jump 0 [.v 11,.v 12]))))) (.ret [.v 4])))
def ir41 : IR := (.op .lenL [.v 2] (.loop 2 [.c (.int .i64 1),.c (.int .i64 0)] ir41p0))
theorem rd41 : readFn T SG sigs 3000 sg41 Tryz.f153 an41 = some ir41 := by kernel_rfl
def an42 : Ann := (.s none .z (.s none .z (.s none (.s none .z (.b (.l ⟨2,[(0,.junk),(1,.junk),(2,.junk),(3,(.atm (.v 0))),(6,.junk),(9,(.atm (.v 1)))],[],1,[]⟩ .z))) .z)))
def ir42p0 : IR := (.op (.bin .lss false) [.v 5,.v 3] (.ite (.v 6) (.op (.row 3) [.v 2,.v 5] (.call 42 1 false [] [.v 7,.v 8,.v 9] (.op (.bin .add false) [.c (.int .i64 1),.v 10] (.op .max [.v 4,.v 11] (.op (.bin .add false) [.v 5,.c (.int .i64 1)] (.jump 0 [.v 12,.v 13])))))) (.ret [.v 4])))
def ir42 : IR := (.op .lenL [.v 2] (.loop 2 [.c (.int .i64 0),.c (.int .i64 0)] ir42p0))
theorem rd42 : readFn T SG sigs 3000 sg42 Tryz.f154 an42 = some ir42 := by kernel_rfl
def an43 : Ann := (.s none .z (.s none .z (.s none (.s none .z (.b (.l ⟨1,[(0,.junk),(2,.junk),(4,.junk),(7,.junk),(8,.junk),(9,.junk),(10,.junk),(11,.junk),(14,(.atm (.v 0)))],[],1,[]⟩ .z))) .z)))
def ir43p0 : IR := (.op (.bin .lss false) [.v 6,.v 5] (.ite (.v 7) (.op (.row 3) [.v 2,.v 6] (.call 43 1 false [] [.v 8,.v 9,.v 10] (.op (.un .not) [.v 11] (.ite (.v 12) (.ret [.c (.bool false)]) (.op (.bin .add false) [.v 6,.c (.int .i64 1)] (.jump 0 [.v 13])))))) (.ret [.c (.bool true)])))
def ir43 : IR := (.call 55 1 false [] [.v 0,.v 1,.v 2] (.op (.un .not) [.v 3] (.ite (.v 4) (.ret [.c (.bool false)]) (.op .lenL [.v 2] (.loop 1 [.c (.int .i64 0)] ir43p0)))))
theorem rd43 : readFn T SG sigs 3000 sg43 Tryz.f155 an43 = some ir43 := by kernel_rfl
def an44 : Ann := (.s none .z (.s none .z (.s none (.s none .z (.b (.l ⟨1,[(0,.junk),(2,.junk),(4,.junk),(7,.junk),(8,.junk),(9,.junk),(10,.junk),(11,.junk),(14,(.atm (.v 0)))],[],1,[]⟩ .z))) .z)))
def ir44p0 : IR := (.op (.bin .lss false) [.v 6,.v 5] (.ite (.v 7) (.op (.row 3) [.v 2,.v 6] (.call 44 1 false [] [.v 8,.v 9,.v 10] (.op (.un .not) [.v 11] (.ite (.v 12) (.ret [.c (.bool false)]) (.op (.bin .add false) [.v 6,.c (.int .i64 1)] (.jump 0 [.v 13])))))) (.ret [.c (.bool true)])))
def ir44 : IR := (.call 56 1 false [] [.v 0,.v 1,.v 2] (.op (.un .not) [.v 3] (.ite (.v 4) (.ret [.c (.bool false)]) (.op .lenL [.v 2] (.loop 1 [.c (.int .i64 0)] ir44p0)))))
theorem rd44 : readFn T SG sigs 3000 sg44 Tryz.f155 an44 = some ir44 := by kernel_rfl
def an45 : Ann := (.s none .z (.s none (.s none .z (.b (.l ⟨1,[(4,.junk),(6,.junk),(8,(.atm (.v 0)))],[],0,[]⟩ .z))) .z))
def ir45p0 : IR := (.op (.bin .lss false) [.v 3,.v 2] (.ite (.v 4) (.op (.row 1) [.v 0,.v 3] (.op (.bin .eql false) [.v 1,.v 5] (.ite (.v 6) (.ret [.v 3]) (.op (.bin .add false) [.v 3,.c (.int .i64 1)] (.jump 0 [.v 7]))))) (.ret [.c (.int .i64 (-1))])))
def ir45 : IR := (.op .lenL [.v 0] (.loop 1 [.c (.int .i64 0)] ir45p0))
theorem rd45 : readFn T SG sigs 3000 sg45 Tryz.f161 an45 = some ir45 := by kernel_rfl
def an46 : Ann := (.s none .z (.s none .z (.s none (.s none .z (.b (.l ⟨2,[(2,.junk),(3,(.atm (.v 0))),(5,(.atm (.v 1)))],[],0,[]⟩ .z))) .z)))
def ir46p0 : IR := (.op (.bin .lss false) [.v 2,.c (.int .i64 64)] (.ite (.v 3) (.op (.bin .shr false) [.v 2,.v 0] (.op (.bin .and false) [.v 4,.c (.int .i64 1)] (.op (.conv .u64) [.v 5] (.op (.bin .shl false) [.v 6,.v 2] (.op (.bin .or false) [.v 1,.v 7] (.op (.bin .add false) [.v 2,.c (.int .i64 1)] (.jump 0 [.v 8,.v 9]))))))) (.ret [.v 1])))
def ir46 : IR := (.loop 2 [.c (.int .u64 0),.c (.int .i64 0)] ir46p0)
theorem rd46 : readFn T SG sigs 3000 sg46 Tryz.f162 an46 = some ir46 := by kernel_rfl
def an47 : Ann := .z
def ir47 : IR := (.op (.bin .shl false) [.c (.int .u64 1),.v 0] (.op (.bin .sub false) [.c (.int .u64 64),.v 1] (.op (.bin .shr false) [.c (.int .u64 18446744073709551615),.v 2] (.ret [.v 3]))))
theorem rd47 : readFn T SG sigs 3000 sg47 Tryz.f135 an47 = some ir47 := by kernel_rfl
def an48 : Ann := (.s none .z (.s none .z (.s none .z (.s none (.s none .z (.b (.l ⟨2,[(2,.junk),(3,(.atm (.v 0))),(4,(.atm (.v 1))),(5,.junk),(6,.junk),(7,.junk),(9,.junk),(10,.junk),(11,.junk)],[],0,[]⟩ .z))) .z))))
def ir48p0 : IR := (.op .lenL [.v 0] (.op (.bin .lss false) [.v 5,.v 6] (.ite (.v 7) (.op (.row 1) [.v 0,.v 5] (.op .max [.v 4,.v 8] (.op (.bin .add false) [.v 5,.c (.int .i64 1)] (.jump 0 [.v 9,.v 10])))) (.ret [.v 4]))))
def ir48 : IR := (.op .lenL [.v 0] (.op (.bin .lss false) [.v 1,.c (.int .i64 1)] (.ite (.v 2) .fail (.op (.row 1) [.v 0,.c (.int .i64 0)] (.loop 2 [.v 3,.c (.int .i64 1)] ir48p0)))))
theorem rd48 : readFn T SG sigs 3000 sg48 Tryz.f92 an48 = some ir48 := by kernel_rfl
def an50 : Ann := .z
def ir50 : IR := (.call 57 2 false [0] [.v 0] (.call 58 1 false [0] [.v 1] (.ret [.v 3,.v 2])))
theorem rd50 : readFn T SG sigs 3000 sg50 Tryz.f125 an50 = some ir50 := by kernel_rfl
def an53 : Ann := (.s none .z (.s none .z (.s none .z (.s none (.b (.l ⟨2,[(4,.junk),(5,.junk),(7,(.atm (.v 0))),(8,(.atm (.v 1))),(10,.junk),(11,.junk),(12,.junk)],[],0,[]⟩ .z)) .z))))
def ir53p0 : IR := (.op (.bin .lss false) [.v 3,.v 4] (.ite (.v 5) (.op (.bin .add false) [.v 3,.v 4] (.op (.conv .u64) [.v 6] (.op (.bin .shr false) [.v 7,.c (.int .u64 1)] (.op (.conv .i64) [.v 8] (.op (.row 1) [.v 0,.v 9] (.call 59 1 false [] [.v 10,.v 1] (.ite (.v 11) (.op (.bin .add false) [.v 9,.c (.int .i64 1)] (.jump 0 [.v 12,.v 4])) (.jump 0 [.v 3,.v 9])))))))) (.op (.bin .lss false) [.v 3,.v 2] (.ite (.v 6) (.op (.row 1) [.v 0,.v 3] (.op (.bin .eql false) [.v 7,.v 1] (.ite (.v 8) (.ret [.v 3,.c (.bool true)]) (.op (.row 1) [.v 0,.v 3] (.call 60 1 false [] [.v 9] (.ite (.v 10) (.call 60 1 false [] [.v 1] (.ret [.v 3,.v 11])) (.ret [.v 3,.c (.bool false)]))))))) (.ret [.v 3,.c (.bool false)])))))
def ir53 : IR := (.op .lenL [.v 0] (.loop 2 [.c (.int .i64 0),.v 2] ir53p0))
theorem rd53 : readFn T SG sigs 3000 sg53 Tryz.f128 an53 = some ir53 := by kernel_rfl
def an54 : Ann := .z
def ir54 : IR := (.call 61 1 false [] [.v 0,.v 1] (.op (.bin .geq false) [.v 2,.c (.int .i64 0)] (.ret [.v 3])))
theorem rd54 : readFn T SG sigs 3000 sg54 Tryz.f137 an54 = some ir54 := by kernel_rfl
def an55 : Ann := (.s none .z (.s none .z (.s none (.s none .z (.b (.s (some ⟨1,[(0,.junk),(1,.junk),(2,.junk),(4,.junk),(5,.junk),(6,.junk),(7,.junk),(9,(.atm (.v 0)))],[],1,[]⟩) .z (.c .z (.s none .z (.c .z (.s (some ⟨1,[(9,.junk),(15,.junk),(16,.junk),(19,(.atm (.v 0)))],[],1,[]⟩) .z (.c .z (.s (some ⟨1,[(8,.junk),(19,.junk),(28,(.atm (.v 0)))],[],1,[]⟩) .z .z))))))))) .z)))
def ir55p0 : IR := (.ite (.v 7) (.op (.bin .eql false) [.v 3,.c (.int .i64 2)] (.ret [.v 8])) (.ret [.c (.bool false)]))
def ir55p1 : IR := (.ite (.v 6) (.op (.bin .geq false) [.v 3,.c (.int .i64 2)] (.ite (.v 7) (.op (.bin .leq false) [.v 3,.c (.int .i64 6)] (.ret [.v 8])) (.ret [.c (.bool false)]))) (.letj 1 (.op (.bin .eql false) [.v 0,.c (.int .i64 7)] (.ite (.v 7) (.jump 0 [.c (.bool true)]) (.op (.bin .eql false) [.v 0,.c (.int .i64 8)] (.jump 0 [.v 8])))) ir55p0))
def ir55p2 : IR := (.ite (.v 4) (.op (.bin .eql false) [.v 3,.c (.int .i64 0)] (.ret [.v 5])) (.op (.bin .eql false) [.v 0,.c (.int .i64 4)] (.ite (.v 5) (.op (.bin .eql false) [.v 3,.c (.int .i64 1)] (.ret [.v 6])) (.letj 1 (.op (.bin .eql false) [.v 0,.c (.int .i64 5)] (.ite (.v 6) (.jump 0 [.c (.bool true)]) (.op (.bin .eql false) [.v 0,.c (.int .i64 6)] (.jump 0 [.v 7])))) ir55p1))))
def ir55 : IR := (.op .lenL [.v 2] (.letj 1 (.op (.bin .eql false) [.v 0,.c (.int .i64 1)] (.ite (.v 4) (.jump 0 [.c (.bool true)]) (.op (.bin .eql false) [.v 0,.c (.int .i64 2)] (.ite (.v 5) (.jump 0 [.c (.bool true)]) (.op (.bin .eql false) [.v 0,.c (.int .i64 3)] (.jump 0 [.v 6])))))) ir55p2))
theorem rd55 : readFn T SG sigs 3000 sg55 Tryz.f156 an55 = some ir55 := by kernel_rfl
def an56 : Ann := .z
def ir56 : IR := (.op (.bin .eql false) [.v 0,.c (.int .i64 3)] (.ite (.v 3) (.call 39 1 false [] [.v 1] (.ret [.v 4])) (.op (.bin .eql false) [.v 1,.c (.str [])] (.ret [.v 4]))))
theorem rd56 : readFn T SG sigs 3000 sg56 Tryz.f157 an56 = some ir56 := by kernel_rfl
def an59 : Ann := .z
def ir59 : IR := (.call 62 1 false [] [.v 0] (.ite (.v 2) (.call 62 1 false [] [.v 1] (.ite (.v 3) (.op (.un .not) [.c (.bool true)] (.op (.bin .lss false) [.v 0,.v 1] (.ret [.v 5]))) (.op (.un .not) [.c (.bool false)] (.ret [.c (.bool true)])))) (.op (.bin .lss false) [.v 0,.v 1] (.ret [.v 3]))))
theorem rd59 : readFn T SG sigs 3000 sg59 Tryz.f166 an59 = some ir59 := by kernel_rfl
def an60 : Ann := .z
def ir60 : IR := (.op (.bin .neq false) [.v 0,.v 0] (.ret [.v 1]))
theorem rd60 : readFn T SG sigs 3000 sg60 Tryz.f167 an60 = some ir60 := by kernel_rfl
def an61 : Ann := (.s none .z (.s none (.s none .z (.b (.l ⟨1,[(4,.junk),(6,.junk),(8,(.atm (.v 0)))],[],0,[]⟩ .z))) .z))
def ir61p0 : IR := (.op (.bin .lss false) [.v 3,.v 2] (.ite (.v 4) (.op (.row 1) [.v 0,.v 3] (.op (.bin .eql false) [.v 1,.v 5] (.ite (.v 6) (.ret [.v 3]) (.op (.bin .add false) [.v 3,.c (.int .i64 1)] (.jump 0 [.v 7]))))) (.ret [.c (.int .i64 (-1))])))
def ir61 : IR := (.op .lenL [.v 0] (.loop 1 [.c (.int .i64 0)] ir61p0))
theorem rd61 : readFn T SG sigs 3000 sg61 Tryz.f170 an61 = some ir61 := by kernel_rfl
def an62 : Ann := .z
def ir62 : IR := (.op (.bin .neq false) [.v 0,.v 0] (.ret [.v 1]))
theorem rd62 : readFn T SG sigs 3000 sg62 Tryz.f145 an62 = some ir62 := by kernel_rfl
end Go.Proofs.YtojkhlijbpmgpaaGreat

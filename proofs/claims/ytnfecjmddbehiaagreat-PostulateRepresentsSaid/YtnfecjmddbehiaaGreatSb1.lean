/- What functions of the program compute: lemmas. -/
import Derived.Test.YtnfecjmddbehiaaGreatSe8
import Derived.Test.YtnfecjmddbehiaaGreatProg
import Derived.KernelRfl
set_option linter.unusedSimpArgs false
set_option linter.unusedVariables false
set_option linter.unusedSectionVars false
namespace Go.Proofs.YtnfecjmddbehiaaGreat
open Go Am
set_option maxRecDepth 100000
abbrev fnD (f : Nat) : D:=.raw (.func (.func f) #[] #[])
def T : Tab:=[
 (3,⟨1,8,true,true,false,none,none,(some .i64),false,false,(some (.int .i64 0)),[],none,none⟩),
 (4,⟨1,1,true,true,false,none,none,none,false,true,(some (.bool false)),[],none,none⟩),
 (5,⟨1,1,true,true,false,none,none,(some .u8),false,false,(some (.int .u8 0)),[],none,none⟩),
 (9,⟨1,16,true,true,false,none,none,none,true,false,(some (.string ⟨⟨[]⟩⟩)),[],none,none⟩),
 (22,⟨1,24,true,true,false,(some 3),none,none,false,false,(some (.slice none 0 0)),[],none,none⟩),
 (23,⟨1,8,true,true,false,none,none,none,false,false,(some (.pointer none)),[],none,none⟩),
 (26,⟨1,24,true,true,false,(some 60),none,none,false,false,(some (.slice none 0 0)),[],none,none⟩),
 (28,⟨1,24,true,true,false,(some 22),none,none,false,false,(some (.slice none 0 0)),[],none,none⟩),
 (30,⟨2,32,true,true,true,none,none,none,false,false,(some (.agg #[(.int .i64 0),(.slice none 0 0)])),[(0,3),(1,28)],(some [(0,1),(1,1)]),none⟩),
 (31,⟨1,8,true,true,false,none,none,(some .i64),false,false,(some (.int .i64 0)),[],none,none⟩),
 (35,⟨4,32,true,true,true,none,none,none,false,false,(some (.agg #[(.int .i64 0),(.int .i64 0),(.int .i64 0),(.int .i64 0)])),[(0,3),(1,3),(2,3),(3,3)],(some [(0,1),(1,1),(2,1),(3,1)]),(some 4)⟩),
 (40,⟨1,24,true,true,false,(some 9),none,none,false,false,(some (.slice none 0 0)),[],none,none⟩),
 (46,⟨1,8,true,true,false,none,none,none,false,false,(some .nilFunc),[],none,none⟩),
 (51,⟨1,8,true,true,false,none,none,none,false,false,(some .nilFunc),[],none,none⟩),
 (56,⟨2,32,true,true,true,none,none,none,false,false,(some (.agg #[(.slice none 0 0),(.int .i64 0)])),[(0,22),(1,3)],(some [(0,1),(1,1)]),none⟩),
 (58,⟨1,8,true,true,false,none,none,(some .u64),false,false,(some (.int .u64 0)),[],none,none⟩),
 (60,⟨2,48,true,true,true,none,none,none,false,false,(some (.agg #[(.slice none 0 0),(.slice none 0 0)])),[(0,40),(1,22)],(some [(0,1),(1,1)]),none⟩),
 (63,⟨1,8,true,true,false,none,none,(some .u64),false,false,(some (.int .u64 0)),[],none,none⟩),
 (70,⟨1,24,true,true,false,(some 99),none,none,false,false,(some (.slice none 0 0)),[],none,none⟩),
 (77,⟨1,24,true,true,false,(some 5),none,none,false,false,(some (.slice none 0 0)),[],none,none⟩),
 (88,⟨1,8,true,true,false,none,none,none,false,false,(some .nilFunc),[],none,none⟩),
 (92,⟨1,24,true,true,false,(some 63),none,none,false,false,(some (.slice none 0 0)),[],none,none⟩),
 (97,⟨1,8,true,true,false,none,none,none,false,false,(some .nilFunc),[],none,none⟩),
 (99,⟨2,16,true,true,true,none,none,none,false,false,(some (.agg #[(.bool false),.nilFunc])),[(0,4),(1,97)],(some [(0,1),(1,1)]),none⟩),
 (105,⟨1,8,true,true,false,none,none,none,false,false,(some .nilFunc),[],none,none⟩),
 (117,⟨1,24,true,true,false,(some 4),none,none,false,false,(some (.slice none 0 0)),[],none,none⟩)]
theorem tok : TOK Tryz.prog T:=tok_of (by kernel_rfl)
def SG : SGlob:=[]
def sg0 : Sig:=⟨3,1,[],[.atm (.v 0)],1,[],.atm (.v 0),false,[]⟩
def sg1 : Sig:=⟨5,1,[],[.atm (.v 0)],2,[⟨false,false,56,2,.c (.sl []),[[.atm (.v 0),.atm (.v 1)]]⟩],.ptr 0 0 0,false,[]⟩
def sg2 : Sig:=⟨6,4,[⟨false,false,56,2,.c (.sl []),[[.atm (.v 2),.atm (.v 3)]]⟩],[.ptr 0 0 0,.atm (.v 0),.atm (.v 1)],3,[⟨false,false,56,2,.c (.sl []),[[.atm (.v 1),.atm (.v 2)]]⟩],.atm (.v 0),false,[]⟩
def sg3 : Sig:=⟨7,4,[⟨false,false,56,2,.c (.sl []),[[.atm (.v 2),.atm (.v 3)]]⟩],[.ptr 0 0 0,.atm (.v 0),.atm (.v 1)],3,[⟨false,false,56,2,.c (.sl []),[[.atm (.v 1),.atm (.v 2)]]⟩],.atm (.v 0),true,[]⟩
def sg4 : Sig:=⟨8,2,[],[.atm (.v 0),.atm (.v 1)],3,[],(.tup [(.agg [.atm (.v 0),.atm (.v 1)]),.atm (.v 2)]),true,[]⟩
def sg5 : Sig:=⟨9,3,[],[(.agg [.atm (.v 0),.atm (.v 1)]),.atm (.v 2)],6,[],(.tup [(.agg [.atm (.v 0),.atm (.v 1),.atm (.v 2),.atm (.v 3)]),.atm (.v 4),.atm (.v 5)]),false,[]⟩
def sg6 : Sig:=⟨11,1,[],[.atm (.v 0)],1,[],.atm (.v 0),true,[]⟩
def sg7 : Sig:=⟨10,4,[],[(.agg [.atm (.v 0),.atm (.v 1)]),.atm (.v 2),.atm (.v 3)],2,[],(.tup [.atm (.v 0),.atm (.v 1)]),true,[]⟩
def sg8 : Sig:=⟨12,2,[],[.atm (.v 0),.atm (.v 1)],1,[],.atm (.v 0),false,[]⟩
def sg9 : Sig:=⟨13,5,[⟨false,false,56,2,.c (.sl []),[[.atm (.v 3),.atm (.v 4)]]⟩],[.ptr 0 0 0,(.agg [.atm (.v 0),.atm (.v 1)]),.atm (.v 2)],4,[⟨false,false,56,2,.c (.sl []),[[.atm (.v 2),.atm (.v 3)]]⟩],(.agg [.atm (.v 0),.atm (.v 1)]),true,[]⟩
def sg10 : Sig:=⟨14,0,[],[],1,[],.atm (.v 0),false,[]⟩
def sg11 : Sig:=⟨15,4,[],[(.agg [.atm (.v 0),.atm (.v 1)]),(.agg [.atm (.v 2),.atm (.v 3)])],1,[],.atm (.v 0),false,[]⟩
def sg12 : Sig:=⟨25,3,[⟨false,false,56,2,.c (.sl []),[[.atm (.v 1),.atm (.v 2)]]⟩],[.ptr 0 0 0,.atm (.v 0)],3,[⟨false,false,56,2,.c (.sl []),[[.atm (.v 1),.atm (.v 2)]]⟩],.atm (.v 0),false,[]⟩
def sg13 : Sig:=⟨26,4,[⟨false,false,56,2,.c (.sl []),[[.atm (.v 2),.atm (.v 3)]]⟩],[.ptr 0 0 0,.atm (.v 0),.atm (.v 1)],4,[⟨false,false,56,2,.c (.sl []),[[.atm (.v 2),.atm (.v 3)]]⟩],(.agg [.atm (.v 0),.atm (.v 1)]),true,[]⟩
def sg14 : Sig:=⟨27,2,[],[.atm (.v 0),.atm (.v 1)],1,[],.atm (.v 0),false,[]⟩
def sg15 : Sig:=⟨28,3,[],[(.agg [.atm (.v 0),.atm (.v 1)]),.atm (.v 2)],1,[],.atm (.v 0),false,[]⟩
def sg16 : Sig:=⟨23,2,[],[(.agg [.atm (.v 0),.atm (.v 1)])],1,[],.atm (.v 0),false,[]⟩
def sg17 : Sig:=⟨33,1,[],[.atm (.v 0)],1,[],.atm (.v 0),false,[]⟩
def sg18 : Sig:=⟨34,2,[],[(.agg [.atm (.v 0),.atm (.v 1)])],1,[],.atm (.v 0),false,[]⟩
def sg19 : Sig:=⟨35,2,[],[.atm (.v 0),.atm (.v 1)],3,[],(.tup [(.agg [.atm (.v 0),.atm (.v 1)]),.atm (.v 2)]),true,[]⟩
def sg20 : Sig:=⟨36,2,[],[.atm (.v 0),.atm (.v 1),(.atm (.c (fnD 37)))],1,[],.atm (.v 0),false,[]⟩
def sg21 : Sig:=⟨39,4,[],[(.agg [.atm (.v 0),.atm (.v 1)]),(.agg [.atm (.v 2),.atm (.v 3)])],1,[],.atm (.v 0),false,[]⟩
def sg22 : Sig:=⟨55,2,[⟨false,false,56,2,.c (.sl []),[[.atm (.v 0),.atm (.v 1)]]⟩],[.ptr 0 0 0],3,[⟨false,false,56,2,.c (.sl []),[[.atm (.v 1),.atm (.v 2)]]⟩],.atm (.v 0),false,[]⟩
def sg23 : Sig:=⟨54,2,[],[.atm (.v 0),.atm (.v 1)],1,[],.atm (.v 0),false,[]⟩
def sg24 : Sig:=⟨56,2,[],[.atm (.v 0),.atm (.v 1)],3,[],(.tup [(.agg [.atm (.v 0),.atm (.v 1)]),.atm (.v 2)]),true,[]⟩
def sg25 : Sig:=⟨32,1,[],[.atm (.v 0)],1,[],.atm (.v 0),true,[]⟩
def sg26 : Sig:=⟨57,2,[],[(.agg [.atm (.v 0),.atm (.v 1)])],1,[],.atm (.v 0),false,[]⟩
def sg27 : Sig:=⟨58,2,[],[.atm (.v 0),.atm (.v 1)],1,[],.atm (.v 0),false,[]⟩
def sg28 : Sig:=⟨59,2,[],[(.agg [.atm (.v 0),.atm (.v 1)])],1,[],.atm (.v 0),false,[]⟩
def sg29 : Sig:=⟨29,3,[],[(.agg [.atm (.v 0),.atm (.v 1)]),.atm (.v 2)],1,[],.atm (.v 0),false,[]⟩
def sg30 : Sig:=⟨51,2,[⟨false,false,3,1,.c (.sl []),[[.atm (.v 1)]]⟩,⟨false,false,88,1,.c (.sl []),[[(.clo 50 [] [.ptr 0 0 0])]]⟩],[.atm (.v 0),(.clo 52 [] [.ptr 0 0 0,.ptr 1 0 0])],2,[⟨false,false,3,1,.c (.sl []),[[.atm (.v 1)]]⟩,⟨false,false,88,1,.c (.sl []),[[(.clo 50 [] [.ptr 0 0 0])]]⟩],.atm (.v 0),false,[]⟩
def sg31 : Sig:=⟨65,1,[],[.atm (.v 0)],1,[],.atm (.v 0),false,[]⟩
def sg32 : Sig:=⟨68,1,[],[.atm (.v 0)],1,[⟨false,false,22,1,.c (.sl []),[[.atm (.v 0)]]⟩],(.clo 103 [] [.ptr 0 0 0]),false,[]⟩
def sg33 : Sig:=⟨67,1,[⟨false,false,22,1,.c (.sl []),[[.atm (.v 0)]]⟩],[(.clo 103 [] [.ptr 0 0 0])],2,[⟨false,false,22,1,.c (.sl []),[[.atm (.v 1)]]⟩,⟨false,true,3,1,.v 0,[]⟩],.own 1,true,[]⟩
def sg34 : Sig:=⟨66,1,[⟨false,true,3,1,.v 0,[]⟩],[.own 0],2,[⟨true,true,3,1,.v 1,[]⟩],.atm (.v 0),true,[]⟩
def sg35 : Sig:=⟨69,1,[],[.atm (.v 0)],1,[⟨false,true,9,1,.v 0,[]⟩],.own 0,true,[]⟩
def sg36 : Sig:=⟨70,2,[],[.atm (.v 0),.atm (.v 1)],2,[],(.tup [.atm (.v 0),.atm (.v 1)]),false,[]⟩
def sg37 : Sig:=⟨37,2,[],[.atm (.v 0),.atm (.v 1)],1,[],.atm (.v 0),false,[]⟩
def sg38 : Sig:=⟨43,2,[],[.atm (.v 0),.atm (.v 1)],1,[],.atm (.v 0),false,[]⟩
def sg39 : Sig:=⟨21,2,[],[.atm (.v 0),.atm (.v 1)],1,[],.atm (.v 0),false,[]⟩
def sg40 : Sig:=⟨48,1,[],[.atm (.v 0)],1,[],.atm (.v 0),false,[]⟩
def sg41 : Sig:=⟨71,2,[],[.atm (.v 0),.atm (.v 1)],1,[],.atm (.v 0),false,[]⟩
def sg42 : Sig:=⟨62,0,[],[],1,[],.atm (.v 0),true,[]⟩
def sg43 : Sig:=⟨63,0,[],[],1,[],.atm (.v 0),true,[]⟩
def sg44 : Sig:=⟨64,0,[],[],1,[],.atm (.v 0),true,[]⟩
def sg45 : Sig:=⟨79,2,[],[.atm (.v 0),.atm (.v 1)],1,[],.atm (.v 0),false,[]⟩
def sg46 : Sig:=⟨60,2,[],[(.agg [.atm (.v 0),.atm (.v 1)])],1,[],.atm (.v 0),true,[]⟩
def sg47 : Sig:=⟨77,2,[⟨false,false,3,1,.c (.sl []),[[.atm (.v 1)]]⟩,⟨false,false,88,1,.c (.sl []),[[(.clo 50 [] [.ptr 0 0 0])]]⟩],[.atm (.v 0),(.clo 52 [] [.ptr 0 0 0,.ptr 1 0 0])],2,[⟨false,false,3,1,.c (.sl []),[[.atm (.v 1)]]⟩,⟨false,false,88,1,.c (.sl []),[[(.clo 50 [] [.ptr 0 0 0])]]⟩],.atm (.v 0),false,[]⟩
def sg48 : Sig:=⟨101,1,[⟨false,false,22,1,.c (.sl []),[[.atm (.v 0)]]⟩],[(.clo 103 [] [.ptr 0 0 0])],2,[⟨false,false,22,1,.c (.sl []),[[.atm (.v 1)]]⟩,⟨false,true,3,1,.v 0,[]⟩],.own 1,true,[]⟩
def sg49 : Sig:=⟨102,1,[⟨false,true,3,1,.v 0,[]⟩],[.own 0],1,[⟨false,true,3,1,.v 0,[]⟩],(.tup []),false,[0]⟩
def sg50 : Sig:=⟨104,2,[],[.atm (.v 0),.atm (.v 1)],1,[],.atm (.v 0),false,[]⟩
def sg51 : Sig:=⟨105,1,[],[.atm (.v 0)],1,[],.atm (.v 0),false,[]⟩
def sg52 : Sig:=⟨38,2,[],[.atm (.v 0),.atm (.v 1)],1,[],.atm (.v 0),false,[]⟩
def sg53 : Sig:=⟨76,1,[],[.atm (.v 0)],1,[],.atm (.v 0),false,[]⟩
def sg54 : Sig:=⟨110,2,[],[.atm (.v 0),.atm (.v 1)],1,[],.atm (.v 0),false,[]⟩
def sg55 : Sig:=⟨80,1,[],[.atm (.v 0)],1,[],.atm (.v 0),false,[]⟩
def sg56 : Sig:=⟨52,2,[⟨false,false,3,1,.c (.sl []),[[.atm (.v 1)]]⟩,⟨false,false,88,1,.c (.sl []),[[(.clo 50 [] [.ptr 0 0 0])]]⟩],[.atm (.v 0),.ptr 0 0 0,.ptr 1 0 0],2,[⟨false,false,3,1,.c (.sl []),[[.atm (.v 1)]]⟩,⟨false,false,88,1,.c (.sl []),[[(.clo 50 [] [.ptr 0 0 0])]]⟩],.atm (.v 0),false,[]⟩
def sg57 : Sig:=⟨116,1,[],[.atm (.v 0)],1,[],.atm (.v 0),false,[]⟩
def sg58 : Sig:=⟨53,2,[⟨false,false,3,1,.c (.sl []),[[.atm (.v 1)]]⟩],[.atm (.v 0),(.clo 50 [] [.ptr 0 0 0])],2,[⟨false,false,3,1,.c (.sl []),[[.atm (.v 1)]]⟩],.atm (.v 0),false,[]⟩
def sg59 : Sig:=⟨78,2,[⟨false,false,3,1,.c (.sl []),[[.atm (.v 1)]]⟩],[.atm (.v 0),(.clo 50 [] [.ptr 0 0 0])],2,[⟨false,false,3,1,.c (.sl []),[[.atm (.v 1)]]⟩],.atm (.v 0),false,[]⟩
def sg60 : Sig:=⟨50,2,[⟨false,false,3,1,.c (.sl []),[[.atm (.v 1)]]⟩],[.atm (.v 0),.ptr 0 0 0],2,[⟨false,false,3,1,.c (.sl []),[[.atm (.v 1)]]⟩],.atm (.v 0),false,[]⟩
def sigs : List Sig:=[sg0,sg1,sg2,sg3,sg4,sg5,sg6,sg7,sg8,sg9,sg10,sg11,sg12,sg13,sg14,sg15,sg16,sg17,sg18,sg19,sg20,sg21,sg22,sg23,sg24,sg25,sg26,sg27,sg28,sg29,sg30,sg31,sg32,sg33,sg34,sg35,sg36,sg37,sg38,sg39,sg40,sg41,sg42,sg43,sg44,sg45,sg46,sg47,sg48,sg49,sg50,sg51,sg52,sg53,sg54,sg55,sg56,sg57,sg58,sg59,sg60]
def an0 : Ann:=(.s none .z (.s none .z (.s none .z (.s none .z (.s none .z (.s none .z (.s none .z (.s none (.s (some ⟨1,[(0,.junk),(2,.junk),(6,.junk),(8,.junk),(9,.junk),(10,.junk),(11,.junk),(12,.junk),(13,.junk),(19,.junk),(20,.junk),(21,.junk),(22,.junk),(23,.junk),(24,.junk),(25,.junk),(26,.junk),(27,.junk),(28,.junk),(29,.junk),(30,.junk),(31,.junk),(32,.junk),(33,.junk),(34,.junk),(35,.junk),(36,.junk),(37,.junk),(38,.junk),(39,.junk),(40,.junk),(41,.junk),(42,.junk),(43,.junk),(44,.junk),(45,.junk),(46,.junk),(47,.junk),(48,.junk),(49,.junk),(68,(.atm (.v 0)))],[],3,[]⟩) .z .z) (.s none .z (.s none .z (.s none .z (.s none (.s (some ⟨2,[(3,.junk),(4,.junk),(7,.junk),(10,(.atm (.v 0))),(11,.junk),(16,.junk),(68,.junk),(69,.junk),(70,.junk),(71,.junk),(72,.junk),(73,.junk),(74,.junk),(75,.junk),(76,.junk),(77,.junk),(78,.junk),(79,.junk),(80,.junk),(81,.junk),(82,.junk),(83,.junk),(84,.junk),(85,.junk),(86,.junk),(87,.junk),(88,.junk),(104,(.atm (.v 1)))],[],9,[]⟩) .z .z) .z))))))))))))
def ir0p0 : IR:=(.ite (.v 42) (.ret [.c (.bool false)]) (.ite (.v 41) (.call 10 1 false [] [] (.ret [.v 43])) (.call 4 3 false [] [.v 39,.v 6] (.op (.bin .eql false) [.v 45,.c (.int .i64 0)] (.ite (.v 46) (.call 11 1 false [] [.v 43,.v 44,.v 28,.v 29] (.ite (.v 47) (.call 10 1 false [] [] (.ret [.v 48])) (.ret [.c (.bool false)]))) (.ret [.c (.bool false)]))))))
def ir0p1 : IR:=(.ite (.v 24) (.ret [.c (.bool false)]) (.call 2 3 false [] [.c (.int .i64 1),.c (.int .i64 2),.v 10,.v 11] (.call 9 4 false [] [.v 12,.v 13,.v 25,.v 26,.v 27] (.call 5 6 false [] [.v 28,.v 29,.v 6] (.call 6 1 false [] [.v 3] (.call 7 2 false [] [.v 28,.v 29,.v 6,.v 38] (.letj 2 (.op (.bin .neq false) [.v 37,.c (.int .i64 0)] (.ite (.v 41) (.jump 0 [.v 36,.c (.bool true)]) (.op (.bin .eql false) [.v 40,.c (.int .i64 9)] (.op (.bin .neq true) [.v 36,.v 42] (.ite (.v 43) (.jump 0 [.v 36,.c (.bool true)]) (.ite (.v 36) (.op (.un .not) [.c (.bool true)] (.jump 0 [.c (.bool true),.c (.bool false)])) (.op (.un .not) [.c (.bool false)] (.op (.bin .neq false) [.v 40,.c (.int .i64 0)] (.jump 0 [.c (.bool false),.v 45]))))))))) ir0p0)))))))
def ir0 : IR:=(.call 1 2 false [] [.v 0] (.call 2 3 false [] [.c (.int .i64 1),.c (.int .i64 2),.v 1,.v 2] (.call 2 3 false [] [.c (.int .i64 1),.c (.int .i64 2),.v 4,.v 5] (.call 3 3 false [] [.v 3,.v 6,.v 7,.v 8] (.call 4 3 false [] [.v 9,.v 6] (.call 5 6 false [] [.v 12,.v 13,.v 6] (.call 6 1 false [] [.v 3] (.call 7 2 false [] [.v 12,.v 13,.v 6,.v 21] (.letj 1 (.op (.bin .neq false) [.v 14,.c (.int .i64 0)] (.ite (.v 24) (.jump 0 [.c (.bool true)]) (.op (.bin .neq false) [.v 20,.c (.int .i64 0)] (.ite (.v 25) (.jump 0 [.c (.bool true)]) (.ite (.v 19) (.jump 0 [.c (.bool true)]) (.op (.bin .neq false) [.v 23,.c (.int .i64 0)] (.ite (.v 26) (.jump 0 [.c (.bool true)]) (.call 8 1 false [] [.v 9,.v 22] (.ite (.v 27) (.op (.un .not) [.c (.bool true)] (.jump 0 [.c (.bool false)])) (.op (.un .not) [.c (.bool false)] (.jump 0 [.c (.bool true)]))))))))))) ir0p1)))))))))
theorem rd0 : readFn T SG sigs 3000 sg0 Tryz.f3 an0=some ir0:=by kernel_rfl
def an1 : Ann:=.z
def ir1 : IR:=(.op .lenL [.v 0] (.op .min [.v 1,.c (.int .i64 2000)] (.op (.subL 1) [.v 0,.c (.int .i64 0),.v 2] (.ret [.v 3,.c (.int .i64 0)]))))
theorem rd1 : readFn T SG sigs 3000 sg1 Tryz.f5 an1=some ir1:=by kernel_rfl
def an2 : Ann:=.z
def ir2 : IR:=(.op (.bin .sub false) [.v 1,.v 0] (.op (.bin .add false) [.v 4,.c (.int .i64 1)] (.call 12 3 false [] [.v 5,.v 2,.v 3] (.op (.bin .add false) [.v 0,.v 6] (.ret [.v 9,.v 7,.v 8])))))
theorem rd2 : readFn T SG sigs 3000 sg2 Tryz.f6 an2=some ir2:=by kernel_rfl
def an3 : Ann:=(.s none .z (.s none .z (.s none (.s none .z (.c (.s none (.s none .z (.b (.l ⟨4,[(2,.junk),(6,.junk),(8,(.atm (.v 0))),(10,.junk),(11,.junk)],[(0,⟨false,false,56,2,.c (.sl []),[[.atm (.v 1),.atm (.v 2)]]⟩),(1,⟨false,true,60,2,.v 3,[]⟩)],2,[⟨none,7,60,2⟩]⟩ .z))) .z) .z)) (.s none (.s none .z (.b (.l ⟨4,[(2,.junk),(6,.junk),(9,(.atm (.v 0))),(10,.junk),(11,.junk)],[(0,⟨false,false,56,2,.c (.sl []),[[.atm (.v 1),.atm (.v 2)]]⟩),(1,⟨false,true,60,2,.v 3,[]⟩)],2,[⟨none,7,60,2⟩]⟩ .z))) .z))))
def ir3p0 : IR:=(.op (.conv .u64) [.v 0] (.op (.bin .shl false) [.c (.int .i64 1),.v 9] (.op (.bin .lss false) [.v 5,.v 10] (.ite (.v 11) (.op (.conv .u64) [.v 5] (.op (.bin .shl false) [.c (.int .i64 1),.v 12] (.call 13 4 false [] [.v 0,.v 13,.v 6,.v 7] (.op (.mk 2 1) [.v 14,.v 15] (.op (.app 2 48) [.v 8,.v 18] (.op (.bin .add false) [.v 5,.c (.int .i64 1)] (.jump 0 [.v 20,.v 16,.v 17,.v 19]))))))) (.ret [.v 8,.v 6,.v 7])))))
def ir3p1 : IR:=(.op (.conv .u64) [.v 0] (.op (.bin .shl false) [.c (.int .u64 1),.v 9] (.op (.bin .shl false) [.c (.int .i64 1),.v 10] (.op (.bin .lss false) [.v 5,.v 11] (.ite (.v 12) (.call 13 4 false [] [.v 0,.v 5,.v 6,.v 7] (.op (.mk 2 1) [.v 13,.v 14] (.op (.app 2 48) [.v 8,.v 17] (.op (.bin .add false) [.v 5,.c (.int .i64 1)] (.jump 0 [.v 19,.v 15,.v 16,.v 18]))))) (.ret [.v 8,.v 6,.v 7]))))))
def ir3 : IR:=(.op (.bin .eql false) [.v 1,.c (.int .i64 3)] (.ite (.v 4) (.loop 4 [.c (.int .i64 0),.v 2,.v 3,.c (.sl [])] ir3p0) (.loop 4 [.c (.int .i64 0),.v 2,.v 3,.c (.sl [])] ir3p1)))
theorem rd3 : readFn T SG sigs 3000 sg3 Tryz.f7 an3=some ir3:=by kernel_rfl
def an4 : Ann:=(.s none .z (.s none .z (.s none .z (.s none .z (.s none .z (.s none (.s none .z (.b (.l ⟨2,[(5,.junk),(6,.junk),(15,.junk),(16,.junk),(17,.junk),(18,.junk),(19,.junk),(22,.junk),(23,.junk),(24,.junk),(25,.junk),(26,.junk),(27,.junk),(28,.junk),(29,.junk),(30,.junk),(31,.junk),(32,.junk),(33,.junk),(35,(.atm (.v 0)))],[(2,⟨false,true,22,1,.v 1,[]⟩)],3,[⟨some (1,0,1),0,22,1⟩]⟩ (.s none .z (.s none .z (.s none (.b (.s none .z (.s none .z (.s none (.s none .z (.b (.l ⟨2,[(36,.junk),(37,.junk),(38,.junk),(39,.junk),(40,.junk),(42,(.atm (.v 0)))],[(3,⟨false,true,3,1,.v 1,[]⟩)],4,[]⟩ (.s none .z (.s none .z (.s (some ⟨1,[(43,.junk)],[(3,⟨false,true,3,1,.v 0,[]⟩)],4,[]⟩) (.b (.s none .z (.s none .z (.b (.s none .z (.c .z (.s none .z (.c .z (.s none .z (.b (.l ⟨2,[(43,.junk),(44,.junk),(45,.junk),(48,(.atm (.v 0))),(69,.junk),(70,.junk),(81,.junk),(82,.junk)],[(3,⟨false,true,3,1,.v 1,[]⟩)],4,[]⟩ (.s none .z (.s none .z (.s (some ⟨3,[(49,.junk)],[(3,⟨false,true,3,1,.v 0,[]⟩),(4,⟨false,false,60,2,.c (.sl []),[[.atm (.v 1),.atm (.v 2)]]⟩)],5,[]⟩) .z .z)))))))))))))) .z)))))) .z)))) .z)))))) .z))))))
def ir4p0 : IR:=(.op (.bin .add false) [.v 16,.c (.int .i64 1)] (.jump 1 [.v 20,.v 19]))
def ir4p1 : IR:=(.op (.bin .add false) [.v 22,.c (.int .i64 1)] (.jump 3 [.v 28,.v 25]))
def ir4p2 : IR:=(.op (.bin .lss false) [.v 22,.v 21] (.ite (.v 24) (.letj 3 (.op (.row 2) [.v 0,.v 22] (.op (.bin .shr false) [.v 11,.v 22] (.op (.bin .and false) [.v 27,.c (.int .i64 1)] (.op (.bin .eql false) [.v 28,.c (.int .i64 1)] (.ite (.v 29) (.op .chk [.v 23,.v 16] (.op (.get 0 1) [.v 23,.v 16] (.call 15 1 false [] [.v 25,.v 26,.v 16] (.op (.bin .or false) [.v 30,.v 31] (.op .chk [.v 23,.v 16] (.op (.set 0 1) [.v 23,.v 16,.v 32] (.jump 4 [.v 33,.v 25,.v 26]))))))) (.jump 4 [.v 23,.v 25,.v 26])))))) ir4p1) (.jump 2 [.v 23])))
def ir4p3 : IR:=(.op (.bin .lss false) [.v 16,.v 15] (.ite (.v 18) (.letj 1 (.op (.bin .eql false) [.v 1,.c (.int .i64 1)] (.ite (.v 19) (.op (.row 2) [.v 0,.v 11] (.call 15 1 false [] [.v 20,.v 21,.v 16] (.op .chk [.v 17,.v 16] (.op (.set 0 1) [.v 17,.v 16,.v 22] (.jump 2 [.v 23]))))) (.op (.bin .eql false) [.v 1,.c (.int .i64 2)] (.ite (.v 20) (.op (.row 2) [.v 0,.v 11] (.op (.bin .sub false) [.v 10,.c (.int .i64 1)] (.op (.bin .sub false) [.v 23,.v 16] (.call 15 1 false [] [.v 21,.v 22,.v 24] (.op (.bin .or false) [.v 11,.v 25] (.op .chk [.v 17,.v 16] (.op (.set 0 1) [.v 17,.v 16,.v 26] (.jump 2 [.v 27])))))))) (.op .lenL [.v 0] (.loop 2 [.c (.int .i64 0),.v 17] ir4p2)))))) ir4p0) (.op (.mk 1 1) [.v 17] (.op (.app 1 24) [.v 12,.v 19] (.op (.bin .add false) [.v 11,.c (.int .i64 1)] (.jump 0 [.v 21,.v 20]))))))
def ir4p4 : IR:=(.op (.bin .lss false) [.v 11,.v 10] (.ite (.v 13) (.op (.mkL 8 [(.int .i64 0)]) [.v 10] (.op .lenL [.v 14] (.loop 2 [.c (.int .i64 0),.v 14] ir4p3))) (.ret [.v 6,.v 12,.c (.int .i64 0)])))
def ir4 : IR:=(.call 14 1 false [] [.v 0,.v 1] (.op (.bin .neq false) [.v 2,.c (.int .i64 0)] (.ite (.v 3) (.ret [.c (.int .i64 0),.c (.sl []),.v 2]) (.op (.row 2) [.v 0,.c (.int .i64 0)] (.op .lenL [.v 4] (.op (.row 2) [.v 0,.c (.int .i64 0)] (.op .lenL [.v 8] (.op (.bin .shl false) [.c (.int .i64 1),.v 9] (.loop 2 [.c (.int .i64 0),.c (.sl [])] ir4p4)))))))))
theorem rd4 : readFn T SG sigs 3000 sg4 Tryz.f8 an4=some ir4:=by kernel_rfl
def an6 : Ann:=(.s none .z (.s none .z (.s none (.s none .z (.b (.l ⟨2,[(2,.junk),(4,(.atm (.v 0)))],[(0,⟨false,true,9,1,.v 1,[]⟩)],1,[⟨none,3,9,1⟩]⟩ .z))) .z)))
def ir6p0 : IR:=(.op (.bin .lss false) [.v 1,.v 0] (.ite (.v 3) (.op (.bin .add false) [.c (.int .i64 97),.v 1] (.op (.conv .u8) [.v 4] (.op (.mk 1 1) [.v 5] (.op .toS [.v 6] (.op (.mk 1 1) [.v 7] (.op (.app 1 16) [.v 2,.v 8] (.op (.bin .add false) [.v 1,.c (.int .i64 1)] (.jump 0 [.v 10,.v 9])))))))) (.ret [.v 2])))
def ir6 : IR:=(.loop 2 [.c (.int .i64 0),.c (.sl [])] ir6p0)
theorem rd6 : readFn T SG sigs 3000 sg6 Tryz.f11 an6=some ir6:=by kernel_rfl
def an7 : Ann:=(.s none .z (.s none (.b (.s none .z (.c .z (.s (some ⟨1,[(0,.junk),(6,.junk),(7,.junk),(21,.junk),(22,.junk),(23,.junk),(24,.junk),(25,(.atm (.v 0)))],[],1,[]⟩) .z (.c .z (.s (some ⟨1,[(25,.junk),(32,(.atm (.v 0)))],[],1,[]⟩) .z .z)))))) (.s none .z (.s none .z (.s none (.s none .z (.b (.l ⟨2,[(32,.junk),(43,.junk),(44,.junk),(45,.junk),(46,.junk),(47,.junk),(50,(.atm (.v 0)))],[(1,⟨false,true,60,2,.v 1,[]⟩)],2,[⟨none,9,60,2⟩]⟩ (.s none .z (.s none .z (.s none (.b (.s none .z (.s none .z (.s none .z (.s none (.s none .z (.b (.l ⟨3,[(13,(.atm (.v 0))),(14,(.atm (.v 1))),(51,.junk),(52,.junk),(53,.junk),(54,.junk),(55,.junk),(56,.junk),(57,.junk)],[(2,⟨false,true,3,1,.v 2,[]⟩)],3,[]⟩ (.s none .z (.s none (.b (.s none .z (.s (some ⟨1,[(15,(.atm (.v 0))),(58,.junk),(59,.junk),(62,.junk),(63,.junk),(64,.junk),(65,.junk)],[],3,[]⟩) .z (.s none .z (.s none (.s none .z (.b (.l ⟨2,[(74,.junk),(75,.junk),(76,.junk),(77,.junk),(78,.junk),(79,.junk),(81,(.atm (.v 0)))],[(2,⟨false,true,3,1,.v 1,[]⟩)],3,[]⟩ (.s none .z (.s none .z (.s (some ⟨1,[(82,.junk)],[(2,⟨false,true,3,1,.v 0,[]⟩)],3,[]⟩) .z .z)))))) .z))))) .z))))) .z))))) .z)))))) (.s none .z (.s none (.s (some ⟨1,[(1,.junk),(2,.junk),(3,.junk),(8,.junk),(19,.junk),(20,.junk),(48,.junk),(49,.junk),(50,.junk),(51,.junk),(111,.junk),(112,.junk),(113,.junk),(114,.junk),(115,.junk),(116,.junk),(126,(.atm (.v 0)))],[],3,[]⟩) .z .z) .z)))))))
def ir7p0 : IR:=(.op (.bin .add false) [.v 26,.c (.int .i64 1)] (.jump 2 [.v 30,.v 29]))
def ir7p1 : IR:=(.op (.bin .lss false) [.v 26,.v 25] (.ite (.v 28) (.letj 1 (.op (.bin .shr false) [.v 23,.v 26] (.op (.bin .and false) [.v 29,.c (.int .i64 1)] (.op (.bin .eql false) [.v 30,.c (.int .i64 1)] (.ite (.v 31) (.op .chk [.v 27,.v 26] (.op (.set 0 1) [.v 27,.v 26,.v 18] (.jump 3 [.v 32]))) (.jump 3 [.v 27]))))) ir7p0) (.op (.bin .andNot false) [.v 17,.v 23] (.op (.bin .add false) [.v 18,.c (.int .i64 1)] (.jump 1 [.v 29,.v 30,.v 27])))))
def ir7p2 : IR:=(.op (.bin .and false) [.v 22,.v 17] (.op (.bin .eql false) [.v 23,.c (.int .i64 0)] (.ite (.v 24) (.ret [.c (.sl []),.c (.int .i64 9)]) (.op .lenL [.v 19] (.loop 2 [.c (.int .i64 0),.v 19] ir7p1)))))
def ir7p3 : IR:=(.op (.bin .neq false) [.v 17,.c (.int .i64 0)] (.ite (.v 20) (.op (.row 1) [.v 14,.v 17] (.letj 1 (.op (.bin .eql false) [.v 2,.c (.int .i64 2)] (.ite (.v 22) (.op (.bin .andNot false) [.v 9,.v 17] (.op (.row 1) [.v 14,.v 23] (.jump 2 [.v 24]))) (.jump 2 [.v 21]))) ir7p2)) (.call 19 3 false [] [.v 3,.v 19] (.op (.bin .neq false) [.v 23,.c (.int .i64 0)] (.ite (.v 24) (.ret [.c (.sl []),.v 23]) (.op (.mk 2 1) [.v 21,.v 22] (.op (.app 2 48) [.v 12,.v 25] (.op (.bin .add false) [.v 11,.c (.int .i64 1)] (.jump 0 [.v 27,.v 26])))))))))
def ir7p4 : IR:=(.ite (.v 17) (.ret [.c (.sl []),.c (.int .i64 9)]) (.ret [.v 12,.c (.int .i64 0)]))
def ir7p5 : IR:=(.op (.bin .lss false) [.v 11,.v 10] (.ite (.v 13) (.op (.row 1) [.v 1,.v 11] (.call 18 1 false [] [.v 0,.v 1] (.op (.mkL 8 [(.int .i64 0)]) [.v 15] (.loop 3 [.v 9,.c (.int .i64 0),.v 16] ir7p3)))) (.call 4 3 false [] [.v 12,.v 2] (.letj 1 (.op (.bin .neq false) [.v 16,.c (.int .i64 0)] (.ite (.v 17) (.jump 1 [.c (.bool true)]) (.call 20 1 false [] [.v 15,.v 1] (.ite (.v 18) (.op (.un .not) [.c (.bool true)] (.jump 1 [.c (.bool false)])) (.op (.un .not) [.c (.bool false)] (.jump 1 [.c (.bool true)])))))) ir7p4))))
def ir7p6 : IR:=(.ite (.v 7) (.ret [.c (.sl []),.c (.int .i64 1)]) (.op .lenL [.v 1] (.op (.bin .sub false) [.v 8,.c (.int .i64 1)] (.op .lenL [.v 1] (.loop 2 [.c (.int .i64 0),.c (.sl [])] ir7p5)))))
def ir7p7 : IR:=(.ite (.v 6) (.ret [.c (.sl []),.c (.int .i64 4)]) (.letj 1 (.call 17 1 false [] [.v 3] (.op (.un .not) [.v 7] (.ite (.v 8) (.jump 0 [.c (.bool true)]) (.op .lenL [.v 3] (.op (.bin .neq false) [.v 9,.v 0] (.jump 0 [.v 10])))))) ir7p6))
def ir7 : IR:=(.call 16 1 false [] [.v 0,.v 1] (.op (.bin .neq false) [.v 4,.c (.int .i64 0)] (.ite (.v 5) (.ret [.c (.sl []),.c (.int .i64 1)]) (.letj 1 (.op (.bin .neq false) [.v 2,.c (.int .i64 1)] (.ite (.v 6) (.op (.bin .neq false) [.v 2,.c (.int .i64 2)] (.jump 0 [.v 7])) (.jump 0 [.c (.bool false)]))) ir7p7))))
theorem rd7 : readFn T SG sigs 3000 sg7 Tryz.f10 an7=some ir7:=by kernel_rfl
def an8 : Ann:=(.s none .z (.s none .z (.s none (.s none .z (.b (.l ⟨1,[(4,.junk),(5,(.atm (.v 0))),(6,.junk),(7,.junk),(8,.junk),(9,.junk),(10,.junk)],[],0,[]⟩ .z))) .z)))
def ir8p0 : IR:=(.op .lenL [.v 0] (.op (.bin .lss false) [.v 5,.v 6] (.ite (.v 7) (.op (.row 2) [.v 0,.v 5] (.op (.row 2) [.v 1,.v 5] (.call 21 1 false [] [.v 8,.v 9,.v 10,.v 11] (.op (.un .not) [.v 12] (.ite (.v 13) (.ret [.c (.bool false)]) (.op (.bin .add false) [.v 5,.c (.int .i64 1)] (.jump 0 [.v 14]))))))) (.ret [.c (.bool true)]))))
def ir8 : IR:=(.op .lenL [.v 0] (.op .lenL [.v 1] (.op (.bin .neq false) [.v 2,.v 3] (.ite (.v 4) (.ret [.c (.bool false)]) (.loop 1 [.c (.int .i64 0)] ir8p0)))))
theorem rd8 : readFn T SG sigs 3000 sg8 Tryz.f12 an8=some ir8:=by kernel_rfl
def an10 : Ann:=(.s none .z (.s none .z (.s none (.s none .z (.b (.l ⟨3,[(0,.junk),(3,(.atm (.v 0))),(10,.junk),(11,.junk)],[(2,⟨false,true,22,1,.v 1,[]⟩),(3,⟨false,true,22,1,.v 2,[]⟩)],4,[⟨some (0,0,1),0,22,1⟩,⟨some (1,0,1),0,22,1⟩]⟩ .z))) .z)))
def ir10p0 : IR:=(.op (.bin .lss false) [.v 0,.c (.int .i64 4)] (.ite (.v 3) (.op (.mk 1 4) [.c (.int .i64 0),.c (.int .i64 1),.c (.int .i64 2),.c (.int .i64 3)] (.op (.mk 1 1) [.v 4] (.op (.app 1 24) [.v 1,.v 5] (.op (.bin .and false) [.v 0,.c (.int .i64 1)] (.op (.bin .and false) [.v 0,.c (.int .i64 2)] (.op (.mk 1 4) [.c (.int .i64 0),.v 7,.v 8,.v 0] (.op (.mk 1 1) [.v 9] (.op (.app 1 24) [.v 2,.v 10] (.op (.bin .add false) [.v 0,.c (.int .i64 1)] (.jump 0 [.v 12,.v 6,.v 11])))))))))) (.call 5 6 true [] [.c (.int .i64 1),.v 1,.c (.int .i64 1)] (.call 5 6 true [] [.c (.int .i64 1),.v 2,.c (.int .i64 1)] (.op (.bin .eql false) [.v 9,.c (.int .i64 0)] (.ite (.v 16) (.op (.bin .eql false) [.v 15,.c (.int .i64 0)] (.ite (.v 17) (.ite (.v 8) (.ite (.v 14) (.op (.eqs false 4) [.v 4,.v 5,.v 6,.v 7,.c (.int .i64 2),.c (.int .i64 1),.c (.int .i64 3),.c (.int .i64 0)] (.ite (.v 18) (.op (.eqs false 4) [.v 10,.v 11,.v 12,.v 13,.c (.int .i64 3),.c (.int .i64 0),.c (.int .i64 1),.c (.int .i64 0)] (.ret [.v 19])) (.ret [.c (.bool false)]))) (.ret [.c (.bool false)])) (.ret [.c (.bool false)])) (.ret [.c (.bool false)]))) (.ret [.c (.bool false)])))))))
def ir10 : IR:=(.loop 3 [.c (.int .i64 0),.c (.sl []),.c (.sl [])] ir10p0)
theorem rd10 : readFn T SG sigs 3000 sg10 Tryz.f14 an10=some ir10:=by kernel_rfl
def an11 : Ann:=(.s none .z (.s none (.s (some ⟨1,[(0,.junk),(1,.junk),(4,.junk),(20,(.atm (.v 0)))],[],2,[]⟩) .z .z) (.s none (.s none .z (.b (.l ⟨1,[(5,(.atm (.v 0))),(20,.junk)],[],2,[]⟩ (.s none .z (.s none (.b (.s none .z (.s none .z (.b (.l ⟨1,[(6,(.atm (.v 0))),(21,.junk),(22,.junk),(23,.junk),(24,.junk),(25,.junk),(28,.junk),(29,.junk),(30,.junk),(31,.junk),(32,.junk),(33,.junk),(34,.junk),(35,.junk),(36,.junk),(37,.junk),(38,.junk),(39,.junk),(40,.junk)],[],2,[]⟩ .z))))) .z))))) .z)))
def ir11p0 : IR:=(.op (.row 1) [.v 1,.v 5] (.op .lenL [.v 14] (.op (.bin .lss false) [.v 13,.v 15] (.ite (.v 16) (.op (.row 1) [.v 1,.v 5] (.op (.row 1) [.v 17,.v 13] (.op (.row 1) [.v 3,.v 5] (.op (.row 1) [.v 19,.v 13] (.op (.bin .neq false) [.v 18,.v 20] (.ite (.v 21) (.ret [.c (.bool false)]) (.op (.bin .add false) [.v 13,.c (.int .i64 1)] (.jump 1 [.v 22])))))))) (.op (.bin .add false) [.v 5,.c (.int .i64 1)] (.jump 0 [.v 17]))))))
def ir11p1 : IR:=(.op .lenL [.v 1] (.op (.bin .lss false) [.v 5,.v 6] (.ite (.v 7) (.op (.row 1) [.v 1,.v 5] (.op .lenL [.v 8] (.op (.row 1) [.v 3,.v 5] (.op .lenL [.v 10] (.op (.bin .neq false) [.v 9,.v 11] (.ite (.v 12) (.ret [.c (.bool false)]) (.loop 1 [.c (.int .i64 0)] ir11p0))))))) (.ret [.c (.bool true)]))))
def ir11p2 : IR:=(.ite (.v 4) (.ret [.c (.bool false)]) (.loop 1 [.c (.int .i64 0)] ir11p1))
def ir11 : IR:=(.letj 1 (.op (.bin .neq false) [.v 0,.v 2] (.ite (.v 4) (.jump 0 [.c (.bool true)]) (.op .lenL [.v 1] (.op .lenL [.v 3] (.op (.bin .neq false) [.v 5,.v 6] (.jump 0 [.v 7])))))) ir11p2)
theorem rd11 : readFn T SG sigs 3000 sg11 Tryz.f15 an11=some ir11:=by kernel_rfl
def an12 : Ann:=.z
def ir12 : IR:=(.call 22 3 false [] [.v 1,.v 2] (.call 23 1 false [] [.v 3,.v 0] (.ret [.v 6,.v 4,.v 5])))
theorem rd12 : readFn T SG sigs 3000 sg12 Tryz.f25 an12=some ir12:=by kernel_rfl
def an13 : Ann:=(.s none .z (.s none .z (.s none (.s none .z (.b (.l ⟨4,[(8,(.atm (.v 0))),(11,.junk),(12,.junk),(13,.junk),(14,.junk)],[(0,⟨false,false,56,2,.c (.sl []),[[.atm (.v 1),.atm (.v 2)]]⟩),(2,⟨false,true,3,1,.v 3,[]⟩)],3,[]⟩ (.s none .z (.s (some ⟨3,[(15,.junk),(16,.junk),(17,.junk),(18,.junk)],[(0,⟨false,false,56,2,.c (.sl []),[[.atm (.v 0),.atm (.v 1)]]⟩),(2,⟨false,true,3,1,.v 2,[]⟩)],3,[]⟩) .z .z))))) .z)))
def ir13p0 : IR:=(.op (.bin .add false) [.v 7,.c (.int .i64 1)] (.jump 0 [.v 16,.v 13,.v 14,.v 15]))
def ir13p1 : IR:=(.op .lenL [.v 10] (.op (.bin .lss false) [.v 7,.v 11] (.ite (.v 12) (.letj 3 (.call 12 3 false [] [.c (.int .i64 4),.v 8,.v 9] (.op (.bin .add false) [.c (.int .i64 1),.v 13] (.op .chk [.v 10,.v 7] (.op (.set 0 1) [.v 10,.v 7,.v 16] (.op (.conv .u64) [.v 7] (.op (.bin .shr false) [.v 1,.v 18] (.op (.bin .and false) [.v 19,.c (.int .i64 1)] (.op (.bin .eql false) [.v 20,.c (.int .i64 1)] (.ite (.v 21) (.op .chk [.v 17,.v 7] (.op (.set 0 1) [.v 17,.v 7,.c (.int .i64 0)] (.jump 1 [.v 14,.v 15,.v 22]))) (.jump 1 [.v 14,.v 15,.v 17])))))))))) ir13p0) (.call 6 1 false [] [.v 0] (.call 24 3 false [] [.v 13,.v 10] (.ret [.v 14,.v 15,.v 8,.v 9]))))))
def ir13 : IR:=(.op (.conv .u64) [.v 0] (.op (.bin .shl false) [.c (.int .i64 1),.v 4] (.op (.mkL 8 [(.int .i64 0)]) [.v 5] (.loop 4 [.c (.int .i64 0),.v 2,.v 3,.v 6] ir13p1))))
theorem rd13 : readFn T SG sigs 3000 sg13 Tryz.f26 an13=some ir13:=by kernel_rfl
def an14 : Ann:=(.s none .z (.s none .z (.s none .z (.s none (.s none .z (.b (.l ⟨1,[(4,.junk),(11,.junk),(12,.junk),(13,.junk),(14,.junk),(15,.junk),(16,.junk),(17,.junk),(20,(.atm (.v 0)))],[],0,[]⟩ (.s none .z (.s none .z (.s none (.b (.s none .z (.s (some ⟨1,[(6,.junk),(21,.junk),(22,.junk),(23,.junk),(48,(.atm (.v 0)))],[],1,[]⟩) .z .z))) .z)))))) (.s none .z (.s (some ⟨1,[(7,(.atm (.v 0))),(18,.junk),(19,.junk),(20,.junk),(21,.junk),(50,.junk),(51,.junk),(52,.junk),(53,.junk),(54,.junk)],[],0,[]⟩) .z (.s none .z (.s none (.s none .z (.b (.l ⟨1,[(0,.junk),(7,.junk),(59,.junk),(60,.junk),(61,.junk),(62,.junk),(65,(.atm (.v 0)))],[],0,[]⟩ (.s none .z (.s none .z (.s none (.b (.s none .z (.s none .z (.s (some ⟨1,[(8,.junk),(10,(.atm (.v 0))),(66,.junk),(67,.junk),(68,.junk),(69,.junk),(70,.junk),(71,.junk)],[],1,[]⟩) .z (.s (some ⟨1,[(9,.junk),(10,.junk),(84,(.atm (.v 0)))],[],1,[]⟩) .z .z))))) .z)))))) .z))))))))
def ir14p0 : IR:=(.ite (.v 12) (.ret [.c (.int .i64 1)]) (.op (.bin .add false) [.v 8,.c (.int .i64 1)] (.jump 0 [.v 13])))
def ir14p1 : IR:=(.ite (.v 23) (.ret [.c (.int .i64 7)]) (.op (.bin .add false) [.v 17,.c (.int .i64 1)] (.jump 1 [.v 24])))
def ir14p2 : IR:=(.letj 1 (.op (.bin .neq false) [.v 22,.c (.int .u64 0)] (.ite (.v 23) (.call 28 1 false [] [.v 19,.v 20] (.op (.bin .neq false) [.v 24,.v 22] (.jump 2 [.v 25]))) (.jump 2 [.c (.bool false)]))) ir14p1)
def ir14p3 : IR:=(.op (.bin .lss false) [.v 17,.v 16] (.ite (.v 18) (.op (.row 2) [.v 0,.v 17] (.op (.conv .u64) [.v 17] (.letj 1 (.op (.bin .eql false) [.v 1,.c (.int .i64 3)] (.ite (.v 22) (.op (.conv .u64) [.v 17] (.op (.bin .shl false) [.c (.int .u64 1),.v 23] (.jump 2 [.v 24]))) (.jump 2 [.v 21]))) ir14p2))) (.ret [.c (.int .i64 0)])))
def ir14p4 : IR:=(.op .lenL [.v 0] (.op (.bin .neq false) [.v 14,.v 13] (.ite (.v 15) (.ret [.c (.int .i64 1)]) (.op .lenL [.v 0] (.loop 1 [.c (.int .i64 0)] ir14p3)))))
def ir14p5 : IR:=(.op (.bin .lss false) [.v 8,.v 7] (.ite (.v 9) (.op (.row 2) [.v 0,.v 8] (.letj 1 (.call 26 1 false [] [.v 10,.v 11] (.op (.bin .neq false) [.v 12,.c (.int .i64 0)] (.ite (.v 13) (.jump 1 [.c (.bool true)]) (.op .lenL [.v 10] (.op (.bin .lss false) [.v 14,.c (.int .i64 1)] (.ite (.v 15) (.jump 1 [.c (.bool true)]) (.op .lenL [.v 10] (.op (.bin .gtr false) [.v 16,.c (.int .i64 2)] (.ite (.v 17) (.jump 1 [.c (.bool true)]) (.op (.row 2) [.v 0,.c (.int .i64 0)] (.call 27 1 false [] [.v 10,.v 18] (.op (.un .not) [.v 20] (.jump 1 [.v 21]))))))))))))) ir14p0)) (.op (.row 2) [.v 0,.c (.int .i64 0)] (.op .lenL [.v 11] (.letj 1 (.op (.bin .neq false) [.v 1,.c (.int .i64 3)] (.ite (.v 13) (.op (.bin .shl false) [.c (.int .i64 1),.v 12] (.jump 1 [.v 14])) (.jump 1 [.v 12]))) ir14p4)))))
def ir14 : IR:=(.call 25 1 false [] [.v 1] (.op .lenL [.v 2] (.op (.bin .eql false) [.v 3,.c (.int .i64 0)] (.ite (.v 4) (.ret [.c (.int .i64 4)]) (.op .lenL [.v 0] (.op (.bin .eql false) [.v 5,.c (.int .i64 0)] (.ite (.v 6) (.ret [.c (.int .i64 1)]) (.op .lenL [.v 0] (.loop 1 [.c (.int .i64 0)] ir14p5)))))))))
theorem rd14 : readFn T SG sigs 3000 sg14 Tryz.f27 an14=some ir14:=by kernel_rfl
def an15 : Ann:=.z
def ir15 : IR:=(.op (.conv .u64) [.v 2] (.call 29 1 false [] [.v 0,.v 1,.v 3] (.op (.conv .i64) [.v 4] (.ret [.v 5]))))
theorem rd15 : readFn T SG sigs 3000 sg15 Tryz.f28 an15=some ir15:=by kernel_rfl
def an16 : Ann:=(.s none .z (.s none (.s (some ⟨1,[(0,.junk),(2,.junk),(12,(.atm (.v 0)))],[],1,[]⟩) .z .z) (.s none .z (.s none .z (.s none (.s (some ⟨2,[(1,.junk),(3,.junk),(4,.junk),(12,.junk),(13,.junk),(14,.junk),(15,.junk),(16,.junk),(27,(.atm (.v 0)))],[(1,⟨false,false,3,1,.c (.sl []),[[.atm (.v 1)]]⟩)],3,[]⟩) .z .z) .z)))))
def ir16p0 : IR:=(.ite (.v 5) (.ret [.c (.int .i64 1)]) (.ret [.c (.int .i64 0)]))
def ir16p1 : IR:=(.ite (.v 2) (.ret [.c (.int .i64 1)]) (.call 18 1 false [] [.v 0,.v 1] (.op (.bin .shl false) [.c (.int .i64 1),.v 3] (.letj 2 (.op .lenL [.v 1] (.op (.bin .neq false) [.v 5,.v 4] (.ite (.v 6) (.jump 0 [.c (.bool true),.v 4]) (.call 30 2 false [] [.v 1,.v 4] (.jump 0 [.v 7,.v 8]))))) ir16p0))))
def ir16 : IR:=(.letj 1 (.op (.bin .neq false) [.v 0,.c (.int .i64 1)] (.ite (.v 2) (.op (.bin .neq false) [.v 0,.c (.int .i64 2)] (.jump 0 [.v 3])) (.jump 0 [.c (.bool false)]))) ir16p1)
theorem rd16 : readFn T SG sigs 3000 sg16 Tryz.f23 an16=some ir16:=by kernel_rfl
def an17 : Ann:=(.s none .z (.s none .z (.s none (.s none .z (.b (.l ⟨1,[(2,.junk),(5,.junk),(6,.junk),(7,.junk),(10,(.atm (.v 0)))],[],0,[]⟩ (.s none .z (.s none .z (.s none (.b (.s none .z (.s (some ⟨1,[(3,.junk),(4,.junk),(11,.junk),(12,.junk),(13,.junk),(14,.junk),(30,(.atm (.v 0)))],[],0,[]⟩) .z .z))) .z)))))) .z)))
def ir17p0 : IR:=(.ite (.v 7) (.ret [.c (.bool false)]) (.op (.bin .add false) [.v 4,.c (.int .i64 1)] (.jump 0 [.v 8])))
def ir17p1 : IR:=(.op (.bin .lss false) [.v 4,.v 3] (.ite (.v 5) (.op (.row 1) [.v 0,.v 4] (.letj 1 (.call 31 1 false [] [.v 6] (.op (.un .not) [.v 7] (.ite (.v 8) (.jump 1 [.c (.bool true)]) (.op (.bin .gtr false) [.v 4,.c (.int .i64 0)] (.ite (.v 9) (.op (.bin .sub false) [.v 4,.c (.int .i64 1)] (.op (.row 1) [.v 0,.v 10] (.op (.bin .geq false) [.v 11,.v 6] (.jump 1 [.v 12])))) (.jump 1 [.c (.bool false)])))))) ir17p0)) (.ret [.c (.bool true)])))
def ir17 : IR:=(.op .lenL [.v 0] (.op (.bin .gtr false) [.v 1,.c (.int .i64 6)] (.ite (.v 2) (.ret [.c (.bool false)]) (.op .lenL [.v 0] (.loop 1 [.c (.int .i64 0)] ir17p1)))))
theorem rd17 : readFn T SG sigs 3000 sg17 Tryz.f33 an17=some ir17:=by kernel_rfl
def an18 : Ann:=.z
def ir18 : IR:=(.op (.bin .shl false) [.c (.int .i64 1),.v 0] (.ret [.v 2]))
theorem rd18 : readFn T SG sigs 3000 sg18 Tryz.f34 an18=some ir18:=by kernel_rfl
def an19 : Ann:=(.s none .z (.s none (.s (some ⟨1,[(5,.junk),(22,(.atm (.v 0)))],[],1,[]⟩) .z .z) (.s none .z (.s none .z (.s none (.s none .z (.b (.l ⟨2,[(0,.junk),(1,.junk),(22,.junk),(24,.junk),(25,.junk),(27,.junk),(28,.junk),(29,.junk),(30,.junk),(33,(.atm (.v 0)))],[(5,⟨false,true,3,1,.v 1,[]⟩)],6,[⟨some (4,0,1),0,3,1⟩]⟩ .z))) .z)))))
def ir19p0 : IR:=(.op (.bin .lss false) [.v 10,.v 9] (.ite (.v 12) (.op (.row 1) [.v 1,.v 10] (.call 36 2 false [] [.v 6,.v 13] (.op (.mk 1 1) [.v 14] (.op (.app 1 8) [.v 11,.v 16] (.op (.bin .add false) [.v 10,.c (.int .i64 1)] (.jump 0 [.v 18,.v 17])))))) (.ret [.v 8,.v 11,.c (.int .i64 0)])))
def ir19p1 : IR:=(.ite (.v 2) (.ret [.c (.sl []),.c (.sl []),.c (.int .i64 1)]) (.call 32 1 false [] [.v 1] (.call 33 2 false [0] [.v 3] (.call 34 2 false [1] [.v 4] (.call 35 1 false [0] [.v 0] (.op .lenL [.v 1] (.loop 2 [.c (.int .i64 0),.c (.sl [])] ir19p0)))))))
def ir19 : IR:=(.letj 1 (.call 17 1 false [] [.v 0] (.op (.un .not) [.v 2] (.ite (.v 3) (.jump 0 [.c (.bool true)]) (.op .lenL [.v 1] (.op .lenL [.v 0] (.op (.bin .shl false) [.c (.int .i64 1),.v 5] (.op (.bin .neq false) [.v 4,.v 6] (.jump 0 [.v 7])))))))) ir19p1)
theorem rd19 : readFn T SG sigs 3000 sg19 Tryz.f35 an19=some ir19:=by kernel_rfl
def an20 : Ann:=(.s none .z (.s none .z (.s none (.s none .z (.b (.l ⟨1,[(0,.junk),(6,.junk),(10,.junk),(11,.junk),(12,.junk),(13,.junk),(14,.junk),(17,(.atm (.v 0)))],[],0,[]⟩ .z))) .z)))
def ir20p0 : IR:=(.op (.bin .lss false) [.v 6,.v 5] (.ite (.v 7) (.op (.row 1) [.v 0,.v 6] (.op (.row 1) [.v 1,.v 6] (.call 37 1 false [] [.v 8,.v 9] (.op (.un .not) [.v 10] (.ite (.v 11) (.ret [.c (.bool false)]) (.op (.bin .add false) [.v 6,.c (.int .i64 1)] (.jump 0 [.v 12]))))))) (.ret [.c (.bool true)])))
def ir20 : IR:=(.op .lenL [.v 0] (.op .lenL [.v 1] (.op (.bin .neq false) [.v 2,.v 3] (.ite (.v 4) (.ret [.c (.bool false)]) (.op .lenL [.v 0] (.loop 1 [.c (.int .i64 0)] ir20p0))))))
theorem rd20 : readFn T SG sigs 3000 sg20 Tryz.f36 an20=some ir20:=by kernel_rfl
def an21 : Ann:=.z
def ir21 : IR:=(.call 38 1 false [] [.v 0,.v 2] (.ite (.v 4) (.call 39 1 false [] [.v 1,.v 3] (.ret [.v 5])) (.ret [.c (.bool false)])))
theorem rd21 : readFn T SG sigs 3000 sg21 Tryz.f39 an21=some ir21:=by kernel_rfl
def an22 : Ann:=.z
def ir22 : IR:=(.op .lenL [.v 0] (.op (.bin .geq false) [.v 1,.v 2] (.ite (.v 3) (.ret [.c (.int .i64 0),.v 0,.v 1]) (.op (.bin .add false) [.v 1,.c (.int .i64 1)] (.op (.bin .sub false) [.v 4,.c (.int .i64 1)] (.op (.row 1) [.v 0,.v 5] (.ret [.v 6,.v 0,.v 4])))))))
theorem rd22 : readFn T SG sigs 3000 sg22 Tryz.f55 an22=some ir22:=by kernel_rfl
def an23 : Ann:=(.s none .z (.s none .z (.s none .z (.s (some ⟨1,[(0,(.atm (.v 0))),(1,.junk),(4,.junk),(5,.junk),(6,.junk),(7,.junk),(8,.junk),(9,.junk)],[],0,[]⟩) .z .z))))
def ir23p0 : IR:=(.ret [.v 4])
def ir23 : IR:=(.op (.bin .lss false) [.v 1,.c (.int .i64 1)] (.ite (.v 2) (.ret [.c (.int .i64 0)]) (.op (.bin .rem false) [.v 0,.v 1] (.letj 1 (.op (.bin .lss false) [.v 3,.c (.int .i64 0)] (.ite (.v 4) (.op (.bin .add false) [.v 3,.v 1] (.jump 0 [.v 5])) (.jump 0 [.v 3]))) ir23p0))))
theorem rd23 : readFn T SG sigs 3000 sg23 Tryz.f54 an23=some ir23:=by kernel_rfl
def an24 : Ann:=(.s none .z (.s none (.s (some ⟨1,[(5,.junk),(21,(.atm (.v 0)))],[],1,[]⟩) .z .z) (.s none .z (.s none (.s none .z (.b (.l ⟨2,[(0,.junk),(7,(.atm (.v 0))),(21,.junk),(24,.junk),(25,.junk),(26,.junk),(27,.junk),(28,.junk),(29,.junk)],[(6,⟨false,true,3,1,.v 1,[]⟩)],9,[]⟩ (.s none .z (.s none (.b (.s none .z (.s none (.s none .z (.b (.l ⟨2,[(9,(.atm (.v 0))),(30,.junk),(31,.junk),(32,.junk),(33,.junk)],[(9,⟨false,true,3,1,.v 1,[]⟩)],10,[⟨none,8,3,1⟩]⟩ (.s none .z (.s (some ⟨1,[(36,.junk),(37,.junk),(38,.junk),(39,.junk)],[(9,⟨false,true,3,1,.v 0,[]⟩)],10,[]⟩) (.b (.s (some ⟨1,[(36,.junk),(37,.junk),(38,.junk),(39,.junk),(59,(.atm (.v 0)))],[],10,[]⟩) .z .z)) .z))))) .z))) .z))))) .z))))
def ir24p0 : IR:=(.op (.bin .add false) [.v 10,.c (.int .i64 1)] (.jump 1 [.v 15,.v 14]))
def ir24p1 : IR:=(.ite (.v 14) (.op (.row 1) [.v 1,.v 10] (.op (.mk 1 1) [.v 15] (.op (.app 1 8) [.v 11,.v 16] (.jump 2 [.v 17])))) (.jump 2 [.v 11]))
def ir24p2 : IR:=(.op .lenL [.v 1] (.op (.bin .lss false) [.v 10,.v 12] (.ite (.v 13) (.letj 1 (.letj 1 (.op (.row 1) [.v 1,.v 10] (.op (.row 1) [.v 1,.v 6] (.op (.bin .lss false) [.v 14,.v 15] (.ite (.v 16) (.op (.row 1) [.v 1,.v 10] (.call 41 1 true [] [.v 11,.v 17] (.op (.un .not) [.v 18] (.jump 3 [.v 19])))) (.jump 3 [.c (.bool false)]))))) ir24p1) ir24p0) (.op .lenL [.v 11] (.op .chk [.v 7,.v 6] (.op (.set 0 1) [.v 7,.v 6,.v 14] (.op (.bin .add false) [.v 6,.c (.int .i64 1)] (.jump 0 [.v 16,.v 15]))))))))
def ir24p3 : IR:=(.op .lenL [.v 1] (.op (.bin .lss false) [.v 6,.v 8] (.ite (.v 9) (.loop 2 [.c (.int .i64 0),.c (.sl [])] ir24p2) (.ret [.v 3,.v 7,.c (.int .i64 0)]))))
def ir24p4 : IR:=(.ite (.v 2) (.ret [.c (.sl []),.c (.sl []),.c (.int .i64 1)]) (.op (.app 1 16) [.c (.sl []),.v 0] (.op .lenL [.v 1] (.op (.mkL 8 [(.int .i64 0)]) [.v 4] (.loop 2 [.c (.int .i64 0),.v 5] ir24p3)))))
def ir24 : IR:=(.letj 1 (.call 40 1 false [] [.v 0] (.op (.un .not) [.v 2] (.ite (.v 3) (.jump 0 [.c (.bool true)]) (.op .lenL [.v 1] (.op .lenL [.v 0] (.op (.conv .u64) [.v 5] (.op (.bin .shl false) [.c (.int .i64 1),.v 6] (.op (.bin .neq false) [.v 4,.v 7] (.jump 0 [.v 8]))))))))) ir24p4)
theorem rd24 : readFn T SG sigs 3000 sg24 Tryz.f56 an24=some ir24:=by kernel_rfl
def an25 : Ann:=.z
def ir25 : IR:=(.op (.bin .eql false) [.v 0,.c (.int .i64 1)] (.ite (.v 1) (.call 42 1 false [] [] (.ret [.v 2])) (.op (.bin .eql false) [.v 0,.c (.int .i64 2)] (.ite (.v 2) (.call 43 1 false [] [] (.ret [.v 3])) (.op (.bin .eql false) [.v 0,.c (.int .i64 3)] (.ite (.v 3) (.call 44 1 false [] [] (.ret [.v 4])) (.ret [.c (.sl [])])))))))
theorem rd25 : readFn T SG sigs 3000 sg25 Tryz.f32 an25=some ir25:=by kernel_rfl
def an26 : Ann:=(.s none .z (.s none (.s (some ⟨1,[(0,.junk),(2,.junk),(20,(.atm (.v 0)))],[],1,[]⟩) .z .z) (.s none .z (.s none .z (.s none (.s none .z (.b (.l ⟨3,[(1,.junk),(4,(.atm (.v 0))),(20,.junk),(21,.junk),(22,.junk),(23,.junk),(24,.junk),(25,.junk),(28,(.atm (.v 1)))],[(1,⟨false,true,4,1,.v 2,[]⟩)],2,[]⟩ (.s none .z (.s none .z (.s none (.b (.s none .z (.s none (.s (some ⟨1,[(29,.junk),(30,.junk),(31,.junk),(39,(.atm (.v 0)))],[],2,[]⟩) .z .z) .z))) .z)))))) .z)))))
def ir26p0 : IR:=(.ite (.v 11) (.ret [.c (.int .i64 8)]) (.op .max [.v 6,.v 10] (.op .chk [.v 8,.v 10] (.op (.set 0 1) [.v 8,.v 10,.c (.bool true)] (.op (.bin .add false) [.v 7,.c (.int .i64 1)] (.jump 0 [.v 12,.v 14,.v 13]))))))
def ir26p1 : IR:=(.op (.bin .lss false) [.v 7,.v 5] (.ite (.v 9) (.op (.row 1) [.v 1,.v 7] (.letj 1 (.op (.bin .lss false) [.v 10,.c (.int .i64 0)] (.ite (.v 11) (.jump 1 [.c (.bool true)]) (.op .lenL [.v 8] (.op (.bin .geq false) [.v 10,.v 12] (.jump 1 [.v 13]))))) ir26p0)) (.op (.subL 1) [.v 8,.c (.int .i64 0),.v 6] (.call 45 1 false [] [.v 10,.c (.bool false)] (.ite (.v 11) (.ret [.c (.int .i64 8)]) (.ret [.c (.int .i64 0)]))))))
def ir26p2 : IR:=(.ite (.v 2) (.ret [.c (.int .i64 1)]) (.op .lenL [.v 1] (.op (.mkL 1 [(.bool false)]) [.v 3] (.op .lenL [.v 1] (.loop 3 [.c (.int .i64 0),.c (.int .i64 0),.v 4] ir26p1)))))
def ir26 : IR:=(.letj 1 (.call 17 1 false [] [.v 0] (.op (.un .not) [.v 2] (.ite (.v 3) (.jump 0 [.c (.bool true)]) (.op .lenL [.v 1] (.op .lenL [.v 0] (.op (.bin .shl false) [.c (.int .i64 1),.v 5] (.op (.bin .neq false) [.v 4,.v 6] (.jump 0 [.v 7])))))))) ir26p2)
theorem rd26 : readFn T SG sigs 3000 sg26 Tryz.f57 an26=some ir26:=by kernel_rfl
def an27 : Ann:=(.s none .z (.s none .z (.s none (.s none .z (.b (.l ⟨1,[(4,.junk),(6,.junk),(7,.junk),(8,.junk),(9,.junk),(10,.junk),(11,.junk),(13,(.atm (.v 0)))],[],0,[]⟩ .z))) .z)))
def ir27p0 : IR:=(.op (.bin .lss false) [.v 6,.v 5] (.ite (.v 7) (.op (.row 1) [.v 0,.v 6] (.op (.row 1) [.v 1,.v 6] (.op (.bin .neq false) [.v 8,.v 9] (.ite (.v 10) (.ret [.c (.bool false)]) (.op (.bin .add false) [.v 6,.c (.int .i64 1)] (.jump 0 [.v 11])))))) (.ret [.c (.bool true)])))
def ir27 : IR:=(.op .lenL [.v 0] (.op .lenL [.v 1] (.op (.bin .neq false) [.v 2,.v 3] (.ite (.v 4) (.ret [.c (.bool false)]) (.op .lenL [.v 0] (.loop 1 [.c (.int .i64 0)] ir27p0))))))
theorem rd27 : readFn T SG sigs 3000 sg27 Tryz.f58 an27=some ir27:=by kernel_rfl
def an28 : Ann:=.z
def ir28 : IR:=(.call 29 1 false [] [.v 0,.v 1,.c (.int .u64 18446744073709551615)] (.ret [.v 2]))
theorem rd28 : readFn T SG sigs 3000 sg28 Tryz.f59 an28=some ir28:=by kernel_rfl
def an29 : Ann:=(.s none .z (.s none (.s none .z (.b (.l ⟨1,[(0,.junk),(2,.junk),(4,.junk),(7,.junk),(10,(.atm (.v 0)))],[],1,[]⟩ .z))) .z))
def ir29p0 : IR:=(.op (.bin .lss false) [.v 5,.v 4] (.ite (.v 6) (.op (.row 1) [.v 3,.v 5] (.op (.bin .and false) [.v 7,.v 2] (.op (.bin .neq false) [.v 8,.c (.int .u64 0)] (.ite (.v 9) (.op (.bin .and false) [.v 7,.v 2] (.ret [.v 10])) (.op (.bin .add false) [.v 5,.c (.int .i64 1)] (.jump 0 [.v 10])))))) (.ret [.c (.int .u64 0)])))
def ir29 : IR:=(.call 46 1 false [] [.v 0,.v 1] (.op .lenL [.v 3] (.loop 1 [.c (.int .i64 0)] ir29p0)))
theorem rd29 : readFn T SG sigs 3000 sg29 Tryz.f29 an29=some ir29:=by kernel_rfl
def an30 : Ann:=.z
def ir30 : IR:=(.call 47 2 false [] [.v 0,.v 1] (.op (.bin .geq false) [.v 2,.c (.int .i64 0)] (.ret [.v 4,.v 3])))
theorem rd30 : readFn T SG sigs 3000 sg30 Tryz.f51 an30=some ir30:=by kernel_rfl
def an31 : Ann:=(.s none .z (.s none (.s (some ⟨1,[(2,.junk),(12,(.atm (.v 0)))],[],0,[]⟩) .z .z) (.s none (.s none .z (.b (.l ⟨1,[(12,.junk),(13,.junk),(15,(.atm (.v 0)))],[],0,[]⟩ (.s none .z (.s none .z (.s (some ⟨0,[(16,.junk)],[],0,[]⟩) (.b (.s none .z (.s none .z (.b (.s (some ⟨1,[(16,.junk),(17,.junk),(18,.junk),(19,.junk),(20,.junk),(21,(.atm (.v 0)))],[],0,[]⟩) .z (.c .z (.s (some ⟨1,[(3,.junk),(4,.junk),(21,.junk),(28,(.atm (.v 0)))],[],0,[]⟩) .z .z))))))) .z)))))) .z)))
def ir31p0 : IR:=(.op (.bin .add false) [.v 3,.c (.int .i64 1)] (.jump 0 [.v 5]))
def ir31p1 : IR:=(.ite (.v 7) (.jump 1 []) (.ret [.c (.bool false)]))
def ir31p2 : IR:=(.ite (.v 6) (.jump 1 []) (.letj 1 (.op (.bin .gtr false) [.v 3,.c (.int .i64 0)] (.ite (.v 7) (.op (.bin .geq false) [.v 5,.c (.int .u8 48)] (.ite (.v 8) (.op (.bin .leq false) [.v 5,.c (.int .u8 57)] (.ite (.v 9) (.jump 2 [.c (.bool true)]) (.op (.bin .eql false) [.v 5,.c (.int .u8 95)] (.jump 2 [.v 10])))) (.op (.bin .eql false) [.v 5,.c (.int .u8 95)] (.jump 2 [.v 9])))) (.jump 2 [.c (.bool false)]))) ir31p1))
def ir31p3 : IR:=(.op (.bin .lss false) [.v 3,.v 2] (.ite (.v 4) (.letj 0 (.op .idxS [.v 0,.v 3] (.letj 1 (.op (.bin .geq false) [.v 5,.c (.int .u8 97)] (.ite (.v 6) (.op (.bin .leq false) [.v 5,.c (.int .u8 122)] (.jump 2 [.v 7])) (.jump 2 [.c (.bool false)]))) ir31p2)) ir31p0) (.ret [.c (.bool true)])))
def ir31p4 : IR:=(.ite (.v 1) (.ret [.c (.bool false)]) (.op .lenS [.v 0] (.loop 1 [.c (.int .i64 0)] ir31p3)))
def ir31 : IR:=(.letj 1 (.op .lenS [.v 0] (.op (.bin .eql false) [.v 1,.c (.int .i64 0)] (.ite (.v 2) (.jump 0 [.c (.bool true)]) (.op .lenS [.v 0] (.op (.bin .gtr false) [.v 3,.c (.int .i64 12)] (.jump 0 [.v 4])))))) ir31p4)
theorem rd31 : readFn T SG sigs 3000 sg31 Tryz.f65 an31=some ir31:=by kernel_rfl
def an33 : Ann:=.z
def ir33 : IR:=(.call 48 2 false [0] [.v 0] (.call 49 1 false [0] [.v 1] (.ret [.v 3,.v 2])))
theorem rd33 : readFn T SG sigs 3000 sg33 Tryz.f67 an33=some ir33:=by kernel_rfl
def an36 : Ann:=(.s none .z (.s none .z (.s none .z (.s none (.b (.l ⟨2,[(4,.junk),(5,.junk),(7,(.atm (.v 0))),(8,(.atm (.v 1))),(10,.junk),(11,.junk),(12,.junk)],[],0,[]⟩ .z)) .z))))
def ir36p0 : IR:=(.op (.bin .lss false) [.v 3,.v 4] (.ite (.v 5) (.op (.bin .add false) [.v 3,.v 4] (.op (.conv .u64) [.v 6] (.op (.bin .shr false) [.v 7,.c (.int .u64 1)] (.op (.conv .i64) [.v 8] (.op (.row 1) [.v 0,.v 9] (.call 50 1 false [] [.v 10,.v 1] (.ite (.v 11) (.op (.bin .add false) [.v 9,.c (.int .i64 1)] (.jump 0 [.v 12,.v 4])) (.jump 0 [.v 3,.v 9])))))))) (.op (.bin .lss false) [.v 3,.v 2] (.ite (.v 6) (.op (.row 1) [.v 0,.v 3] (.op (.bin .eql false) [.v 7,.v 1] (.ite (.v 8) (.ret [.v 3,.c (.bool true)]) (.op (.row 1) [.v 0,.v 3] (.call 51 1 false [] [.v 9] (.ite (.v 10) (.call 51 1 false [] [.v 1] (.ret [.v 3,.v 11])) (.ret [.v 3,.c (.bool false)]))))))) (.ret [.v 3,.c (.bool false)])))))
def ir36 : IR:=(.op .lenL [.v 0] (.loop 2 [.c (.int .i64 0),.v 2] ir36p0))
theorem rd36 : readFn T SG sigs 3000 sg36 Tryz.f70 an36=some ir36:=by kernel_rfl
def an37 : Ann:=.z
def ir37 : IR:=(.call 52 1 false [] [.v 0,.v 1] (.ret [.v 2]))
theorem rd37 : readFn T SG sigs 3000 sg37 Tryz.f37 an37=some ir37:=by kernel_rfl
def an38 : Ann:=(.s none .z (.s none .z (.s none (.s none .z (.b (.l ⟨1,[(4,.junk),(5,(.atm (.v 0))),(6,.junk),(7,.junk),(8,.junk),(9,.junk),(10,.junk)],[],0,[]⟩ .z))) .z)))
def ir38p0 : IR:=(.op .lenL [.v 0] (.op (.bin .lss false) [.v 5,.v 6] (.ite (.v 7) (.op (.row 1) [.v 0,.v 5] (.op (.row 1) [.v 1,.v 5] (.op (.bin .neq false) [.v 8,.v 9] (.ite (.v 10) (.ret [.c (.bool false)]) (.op (.bin .add false) [.v 5,.c (.int .i64 1)] (.jump 0 [.v 11])))))) (.ret [.c (.bool true)]))))
def ir38 : IR:=(.op .lenL [.v 0] (.op .lenL [.v 1] (.op (.bin .neq false) [.v 2,.v 3] (.ite (.v 4) (.ret [.c (.bool false)]) (.loop 1 [.c (.int .i64 0)] ir38p0)))))
theorem rd38 : readFn T SG sigs 3000 sg38 Tryz.f43 an38=some ir38:=by kernel_rfl
def an39 : Ann:=(.s none .z (.s none .z (.s none (.s none .z (.b (.l ⟨1,[(4,.junk),(6,.junk),(7,.junk),(8,.junk),(9,.junk),(10,.junk),(11,.junk),(13,(.atm (.v 0)))],[],0,[]⟩ .z))) .z)))
def ir39p0 : IR:=(.op (.bin .lss false) [.v 6,.v 5] (.ite (.v 7) (.op (.row 1) [.v 0,.v 6] (.op (.row 1) [.v 1,.v 6] (.op (.bin .neq false) [.v 8,.v 9] (.ite (.v 10) (.ret [.c (.bool false)]) (.op (.bin .add false) [.v 6,.c (.int .i64 1)] (.jump 0 [.v 11])))))) (.ret [.c (.bool true)])))
def ir39 : IR:=(.op .lenL [.v 0] (.op .lenL [.v 1] (.op (.bin .neq false) [.v 2,.v 3] (.ite (.v 4) (.ret [.c (.bool false)]) (.op .lenL [.v 0] (.loop 1 [.c (.int .i64 0)] ir39p0))))))
theorem rd39 : readFn T SG sigs 3000 sg39 Tryz.f21 an39=some ir39:=by kernel_rfl
def an40 : Ann:=(.s none .z (.s none (.s none .z (.b (.l ⟨1,[(2,.junk),(3,(.atm (.v 0)))],[],0,[]⟩ (.s none .z (.s none (.b (.s (some ⟨1,[(4,.junk),(5,.junk),(6,.junk),(7,.junk),(31,(.atm (.v 0)))],[],0,[]⟩) .z .z)) .z))))) .z))
def ir40p0 : IR:=(.ite (.v 4) (.ret [.c (.bool false)]) (.op (.bin .add false) [.v 1,.c (.int .i64 1)] (.jump 0 [.v 5])))
def ir40p1 : IR:=(.op .lenL [.v 0] (.op (.bin .lss false) [.v 1,.v 2] (.ite (.v 3) (.letj 1 (.op (.row 1) [.v 0,.v 1] (.call 53 1 false [] [.v 4] (.op (.un .not) [.v 5] (.ite (.v 6) (.jump 1 [.c (.bool true)]) (.op (.bin .gtr false) [.v 1,.c (.int .i64 0)] (.ite (.v 7) (.op (.row 1) [.v 0,.v 1] (.op (.bin .sub false) [.v 1,.c (.int .i64 1)] (.op (.row 1) [.v 0,.v 9] (.op (.bin .leq false) [.v 8,.v 10] (.jump 1 [.v 11]))))) (.jump 1 [.c (.bool false)]))))))) ir40p0) (.op .lenL [.v 0] (.op (.bin .leq false) [.v 4,.c (.int .i64 6)] (.ret [.v 5]))))))
def ir40 : IR:=(.loop 1 [.c (.int .i64 0)] ir40p1)
theorem rd40 : readFn T SG sigs 3000 sg40 Tryz.f48 an40=some ir40:=by kernel_rfl
def an41 : Ann:=(.s none .z (.s none (.s none .z (.b (.l ⟨1,[(4,.junk),(6,.junk),(8,(.atm (.v 0)))],[],0,[]⟩ .z))) .z))
def ir41p0 : IR:=(.op (.bin .lss false) [.v 3,.v 2] (.ite (.v 4) (.op (.row 1) [.v 0,.v 3] (.op (.bin .eql false) [.v 5,.v 1] (.ite (.v 6) (.ret [.c (.bool true)]) (.op (.bin .add false) [.v 3,.c (.int .i64 1)] (.jump 0 [.v 7]))))) (.ret [.c (.bool false)])))
def ir41 : IR:=(.op .lenL [.v 0] (.loop 1 [.c (.int .i64 0)] ir41p0))
theorem rd41 : readFn T SG sigs 3000 sg41 Tryz.f71 an41=some ir41:=by kernel_rfl
def an42 : Ann:=.z
def ir42 : IR:=(.op (.mk 2 5) [.c (.bool true),.c (fnD 81),.c (.bool true),.c (fnD 83),.c (.bool true),.c (fnD 84),.c (.bool false),.c (fnD 85),.c (.bool false),.c (fnD 86)] (.ret [.v 0]))
theorem rd42 : readFn T SG sigs 3000 sg42 Tryz.f62 an42=some ir42:=by kernel_rfl
def an43 : Ann:=.z
def ir43 : IR:=(.op (.mk 2 6) [.c (.bool true),.c (fnD 87),.c (.bool true),.c (fnD 88),.c (.bool true),.c (fnD 89),.c (.bool true),.c (fnD 90),.c (.bool false),.c (fnD 91),.c (.bool false),.c (fnD 92)] (.ret [.v 0]))
theorem rd43 : readFn T SG sigs 3000 sg43 Tryz.f63 an43=some ir43:=by kernel_rfl
def an44 : Ann:=.z
def ir44 : IR:=(.op (.mk 2 7) [.c (.bool true),.c (fnD 93),.c (.bool true),.c (fnD 94),.c (.bool true),.c (fnD 95),.c (.bool false),.c (fnD 96),.c (.bool false),.c (fnD 97),.c (.bool false),.c (fnD 98),.c (.bool false),.c (fnD 100)] (.ret [.v 0]))
theorem rd44 : readFn T SG sigs 3000 sg44 Tryz.f64 an44=some ir44:=by kernel_rfl
def an45 : Ann:=.z
def ir45 : IR:=(.call 54 1 false [] [.v 0,.v 1] (.op (.bin .geq false) [.v 2,.c (.int .i64 0)] (.ret [.v 3])))
theorem rd45 : readFn T SG sigs 3000 sg45 Tryz.f79 an45=some ir45:=by kernel_rfl
def an46 : Ann:=(.s none .z (.s none .z (.s none .z (.s none (.s none .z (.b (.l ⟨2,[(0,.junk),(1,.junk),(2,.junk),(6,.junk),(7,.junk),(8,.junk),(9,.junk),(10,.junk),(11,.junk),(12,.junk),(13,.junk),(14,.junk),(17,(.atm (.v 0)))],[(1,⟨false,true,63,1,.v 1,[]⟩)],2,[]⟩ .z))) .z))))
def ir46p0 : IR:=(.op (.bin .lss false) [.v 8,.v 7] (.ite (.v 10) (.op (.row 1) [.v 1,.v 8] (.op .chk [.v 9,.v 11] (.op (.get 0 1) [.v 9,.v 11] (.op (.conv .u64) [.v 8] (.op (.bin .shl false) [.c (.int .u64 1),.v 13] (.op (.bin .or false) [.v 12,.v 14] (.op .chk [.v 9,.v 11] (.op (.set 0 1) [.v 9,.v 11,.v 15] (.op (.bin .add false) [.v 8,.c (.int .i64 1)] (.jump 0 [.v 17,.v 16])))))))))) (.ret [.v 9])))
def ir46 : IR:=(.call 26 1 false [] [.v 0,.v 1] (.op (.bin .neq false) [.v 2,.c (.int .i64 0)] (.ite (.v 3) (.ret [.c (.sl [])]) (.call 55 1 false [] [.v 1] (.op (.bin .add false) [.v 4,.c (.int .i64 1)] (.op (.mkL 8 [(.int .u64 0)]) [.v 5] (.op .lenL [.v 1] (.loop 2 [.c (.int .i64 0),.v 6] ir46p0))))))))
theorem rd46 : readFn T SG sigs 3000 sg46 Tryz.f60 an46=some ir46:=by kernel_rfl
def an47 : Ann:=(.s none .z (.s none (.s none .z (.b (.l ⟨2,[(4,.junk),(6,.junk),(8,(.atm (.v 0)))],[(0,⟨false,false,3,1,.c (.sl []),[[.atm (.v 1)]]⟩)],2,[]⟩ .z))) .z))
def ir47p0 : IR:=(.op (.bin .lss false) [.v 3,.v 2] (.ite (.v 5) (.op (.row 1) [.v 0,.v 3] (.call 56 2 false [] [.v 6,.v 4] (.ite (.v 7) (.ret [.v 3,.v 8]) (.op (.bin .add false) [.v 3,.c (.int .i64 1)] (.jump 0 [.v 9,.v 8]))))) (.ret [.c (.int .i64 (-1)),.v 4])))
def ir47 : IR:=(.op .lenL [.v 0] (.loop 2 [.c (.int .i64 0),.v 1] ir47p0))
theorem rd47 : readFn T SG sigs 3000 sg47 Tryz.f77 an47=some ir47:=by kernel_rfl
def an50 : Ann:=.z
def ir50 : IR:=(.call 57 1 false [] [.v 0] (.ite (.v 2) (.call 57 1 false [] [.v 1] (.ite (.v 3) (.op (.un .not) [.c (.bool true)] (.op (.bin .lss false) [.v 0,.v 1] (.ret [.v 5]))) (.op (.un .not) [.c (.bool false)] (.ret [.c (.bool true)])))) (.op (.bin .lss false) [.v 0,.v 1] (.ret [.v 3]))))
theorem rd50 : readFn T SG sigs 3000 sg50 Tryz.f104 an50=some ir50:=by kernel_rfl
def an51 : Ann:=.z
def ir51 : IR:=(.op (.bin .neq false) [.v 0,.v 0] (.ret [.v 1]))
theorem rd51 : readFn T SG sigs 3000 sg51 Tryz.f105 an51=some ir51:=by kernel_rfl
def an52 : Ann:=(.s none .z (.s none .z (.s none (.s none .z (.b (.l ⟨1,[(4,.junk),(6,.junk),(7,.junk),(8,.junk),(9,.junk),(10,.junk),(11,.junk),(13,(.atm (.v 0)))],[],0,[]⟩ .z))) .z)))
def ir52p0 : IR:=(.op (.bin .lss false) [.v 6,.v 5] (.ite (.v 7) (.op (.row 1) [.v 0,.v 6] (.op (.row 1) [.v 1,.v 6] (.op (.bin .neq false) [.v 8,.v 9] (.ite (.v 10) (.ret [.c (.bool false)]) (.op (.bin .add false) [.v 6,.c (.int .i64 1)] (.jump 0 [.v 11])))))) (.ret [.c (.bool true)])))
def ir52 : IR:=(.op .lenL [.v 0] (.op .lenL [.v 1] (.op (.bin .neq false) [.v 2,.v 3] (.ite (.v 4) (.ret [.c (.bool false)]) (.op .lenL [.v 0] (.loop 1 [.c (.int .i64 0)] ir52p0))))))
theorem rd52 : readFn T SG sigs 3000 sg52 Tryz.f38 an52=some ir52:=by kernel_rfl
def an53 : Ann:=(.s none .z (.s none (.s (some ⟨1,[(2,.junk),(21,(.atm (.v 0)))],[],0,[]⟩) .z .z) (.s none (.s none .z (.b (.l ⟨1,[(3,(.atm (.v 0))),(21,.junk)],[],0,[]⟩ (.s none .z (.s none (.b (.s (some ⟨1,[(22,.junk),(23,.junk),(24,.junk),(25,.junk),(55,(.atm (.v 0)))],[],0,[]⟩) .z .z)) .z))))) .z)))
def ir53p0 : IR:=(.ite (.v 5) (.ret [.c (.bool false)]) (.op (.bin .add false) [.v 2,.c (.int .i64 1)] (.jump 0 [.v 6])))
def ir53p1 : IR:=(.op .lenS [.v 0] (.op (.bin .lss false) [.v 2,.v 3] (.ite (.v 4) (.letj 1 (.op .idxS [.v 0,.v 2] (.op (.bin .lss false) [.v 5,.c (.int .u8 97)] (.ite (.v 6) (.op .idxS [.v 0,.v 2] (.op (.bin .lss false) [.v 7,.c (.int .u8 48)] (.ite (.v 8) (.op .idxS [.v 0,.v 2] (.op (.bin .neq false) [.v 9,.c (.int .u8 95)] (.jump 1 [.v 10]))) (.op .idxS [.v 0,.v 2] (.op (.bin .gtr false) [.v 9,.c (.int .u8 57)] (.ite (.v 10) (.op .idxS [.v 0,.v 2] (.op (.bin .neq false) [.v 11,.c (.int .u8 95)] (.jump 1 [.v 12]))) (.jump 1 [.c (.bool false)]))))))) (.op .idxS [.v 0,.v 2] (.op (.bin .gtr false) [.v 7,.c (.int .u8 122)] (.ite (.v 8) (.op .idxS [.v 0,.v 2] (.op (.bin .lss false) [.v 9,.c (.int .u8 48)] (.ite (.v 10) (.op .idxS [.v 0,.v 2] (.op (.bin .neq false) [.v 11,.c (.int .u8 95)] (.jump 1 [.v 12]))) (.op .idxS [.v 0,.v 2] (.op (.bin .gtr false) [.v 11,.c (.int .u8 57)] (.ite (.v 12) (.op .idxS [.v 0,.v 2] (.op (.bin .neq false) [.v 13,.c (.int .u8 95)] (.jump 1 [.v 14]))) (.jump 1 [.c (.bool false)]))))))) (.jump 1 [.c (.bool false)]))))))) ir53p0) (.ret [.c (.bool true)]))))
def ir53p2 : IR:=(.ite (.v 1) (.ret [.c (.bool false)]) (.loop 1 [.c (.int .i64 0)] ir53p1))
def ir53 : IR:=(.letj 1 (.op .lenS [.v 0] (.op (.bin .lss false) [.v 1,.c (.int .i64 1)] (.ite (.v 2) (.jump 0 [.c (.bool true)]) (.op .lenS [.v 0] (.op (.bin .gtr false) [.v 3,.c (.int .i64 12)] (.ite (.v 4) (.jump 0 [.c (.bool true)]) (.op .idxS [.v 0,.c (.int .i64 0)] (.op (.bin .lss false) [.v 5,.c (.int .u8 97)] (.ite (.v 6) (.jump 0 [.c (.bool true)]) (.op .idxS [.v 0,.c (.int .i64 0)] (.op (.bin .gtr false) [.v 7,.c (.int .u8 122)] (.jump 0 [.v 8])))))))))))) ir53p2)
theorem rd53 : readFn T SG sigs 3000 sg53 Tryz.f76 an53=some ir53:=by kernel_rfl
def an54 : Ann:=(.s none .z (.s none (.s none .z (.b (.l ⟨1,[(4,.junk),(6,.junk),(8,(.atm (.v 0)))],[],0,[]⟩ .z))) .z))
def ir54p0 : IR:=(.op (.bin .lss false) [.v 3,.v 2] (.ite (.v 4) (.op (.row 1) [.v 0,.v 3] (.op (.bin .eql true) [.v 1,.v 5] (.ite (.v 6) (.ret [.v 3]) (.op (.bin .add false) [.v 3,.c (.int .i64 1)] (.jump 0 [.v 7]))))) (.ret [.c (.int .i64 (-1))])))
def ir54 : IR:=(.op .lenL [.v 0] (.loop 1 [.c (.int .i64 0)] ir54p0))
theorem rd54 : readFn T SG sigs 3000 sg54 Tryz.f110 an54=some ir54:=by kernel_rfl
def an55 : Ann:=(.s none .z (.s none .z (.s none .z (.s none (.s none .z (.b (.l ⟨2,[(2,.junk),(3,(.atm (.v 0))),(4,(.atm (.v 1))),(5,.junk),(6,.junk),(7,.junk),(9,.junk),(10,.junk),(11,.junk)],[],0,[]⟩ .z))) .z))))
def ir55p0 : IR:=(.op .lenL [.v 0] (.op (.bin .lss false) [.v 5,.v 6] (.ite (.v 7) (.op (.row 1) [.v 0,.v 5] (.op .max [.v 4,.v 8] (.op (.bin .add false) [.v 5,.c (.int .i64 1)] (.jump 0 [.v 9,.v 10])))) (.ret [.v 4]))))
def ir55 : IR:=(.op .lenL [.v 0] (.op (.bin .lss false) [.v 1,.c (.int .i64 1)] (.ite (.v 2) .fail (.op (.row 1) [.v 0,.c (.int .i64 0)] (.loop 2 [.v 3,.c (.int .i64 1)] ir55p0)))))
theorem rd55 : readFn T SG sigs 3000 sg55 Tryz.f80 an55=some ir55:=by kernel_rfl
def an56 : Ann:=.z
def ir56 : IR:=(.op .lenL [.v 0] (.op (.bin .neq false) [.v 2,.v 1] (.ite (.v 3) (.ret [.c (.bool true),.v 1]) (.call 58 2 false [] [.v 0,.v 1] (.ret [.v 4,.v 5])))))
theorem rd56 : readFn T SG sigs 3000 sg56 Tryz.f52 an56=some ir56:=by kernel_rfl
def an57 : Ann:=.z
def ir57 : IR:=(.op (.bin .neq false) [.v 0,.v 0] (.ret [.v 1]))
theorem rd57 : readFn T SG sigs 3000 sg57 Tryz.f116 an57=some ir57:=by kernel_rfl
def an58 : Ann:=.z
def ir58 : IR:=(.call 59 2 false [] [.v 0,.v 1] (.op (.bin .geq false) [.v 2,.c (.int .i64 0)] (.ret [.v 4,.v 3])))
theorem rd58 : readFn T SG sigs 3000 sg58 Tryz.f53 an58=some ir58:=by kernel_rfl
def an59 : Ann:=(.s none .z (.s none (.s none .z (.b (.l ⟨2,[(4,.junk),(6,.junk),(8,(.atm (.v 0)))],[(0,⟨false,false,3,1,.c (.sl []),[[.atm (.v 1)]]⟩)],1,[]⟩ .z))) .z))
def ir59p0 : IR:=(.op (.bin .lss false) [.v 3,.v 2] (.ite (.v 5) (.op (.row 1) [.v 0,.v 3] (.call 60 2 false [] [.v 6,.v 4] (.ite (.v 7) (.ret [.v 3,.v 8]) (.op (.bin .add false) [.v 3,.c (.int .i64 1)] (.jump 0 [.v 9,.v 8]))))) (.ret [.c (.int .i64 (-1)),.v 4])))
def ir59 : IR:=(.op .lenL [.v 0] (.loop 2 [.c (.int .i64 0),.v 1] ir59p0))
theorem rd59 : readFn T SG sigs 3000 sg59 Tryz.f78 an59=some ir59:=by kernel_rfl
def an60 : Ann:=.z
def ir60 : IR:=(.op (.bin .lss false) [.v 0,.c (.int .i64 0)] (.ite (.v 2) (.ret [.c (.bool true),.v 1]) (.op (.bin .geq false) [.v 0,.v 1] (.ret [.v 3,.v 1]))))
theorem rd60 : readFn T SG sigs 3000 sg60 Tryz.f50 an60=some ir60:=by kernel_rfl
end Go.Proofs.YtnfecjmddbehiaaGreat

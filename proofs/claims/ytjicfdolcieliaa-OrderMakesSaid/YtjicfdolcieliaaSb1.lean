/- What functions of the program compute: lemmas. -/
import Derived.Test.YtjicfdolcieliaaAmSe21
import Derived.Test.YtjicfdolcieliaaProg
import Derived.KernelRfl
set_option linter.unusedSimpArgs false
set_option linter.unusedVariables false
set_option linter.unusedSectionVars false
namespace Go.Proofs.Ytjicfdolcieliaa
open Go Am
set_option maxRecDepth 100000
def T : Tab := [
 (3,⟨1,8,true,true,false,none,none,(some .i64),false,false,(some (.int .i64 0)),[],none⟩),
 (4,⟨1,1,true,true,false,none,none,none,false,true,(some (.bool false)),[],none⟩),
 (5,⟨1,1,true,true,false,none,none,(some .u8),false,false,(some (.int .u8 0)),[],none⟩),
 (9,⟨1,16,true,true,false,none,none,none,true,false,(some (.string ⟨⟨[]⟩⟩)),[],none⟩),
 (22,⟨1,24,true,true,false,(some 3),none,none,false,false,(some (.slice none 0 0)),[],none⟩),
 (23,⟨1,8,true,true,false,none,none,none,false,false,(some (.pointer none)),[],none⟩),
 (26,⟨1,8,true,true,false,none,none,(some .u64),false,false,(some (.int .u64 0)),[],none⟩),
 (28,⟨1,24,true,true,false,(some 9),none,none,false,false,(some (.slice none 0 0)),[],none⟩),
 (30,⟨2,48,true,true,true,none,none,none,false,false,(some (.agg #[(.slice none 0 0),(.slice none 0 0)])),[(0,28),(1,22)],(some [(0,1),(1,1)])⟩),
 (31,⟨1,8,true,true,false,none,none,(some .i64),false,false,(some (.int .i64 0)),[],none⟩),
 (36,⟨1,24,true,true,false,(some 38),none,none,false,false,(some (.slice none 0 0)),[],none⟩),
 (38,⟨1,8,true,true,false,none,none,(some .u64),false,false,(some (.int .u64 0)),[],none⟩),
 (47,⟨1,24,true,true,false,(some 28),none,none,false,false,(some (.slice none 0 0)),[],none⟩),
 (48,⟨1,24,true,true,false,(some 22),none,none,false,false,(some (.slice none 0 0)),[],none⟩),
 (49,⟨1,24,true,true,false,(some 36),none,none,false,false,(some (.slice none 0 0)),[],none⟩),
 (50,⟨4,96,true,true,true,none,(some (2,30)),none,false,false,(some (.agg #[(.slice none 0 0),(.slice none 0 0),(.slice none 0 0),(.slice none 0 0)])),[],(some [(0,2),(2,2)])⟩),
 (51,⟨1,24,true,true,false,(some 50),none,none,false,false,(some (.slice none 0 0)),[],none⟩),
 (55,⟨2,32,true,true,true,none,none,none,false,false,(some (.agg #[(.slice none 0 0),(.int .i64 0)])),[(0,22),(1,3)],(some [(0,1),(1,1)])⟩),
 (61,⟨1,8,true,true,false,none,none,none,false,false,(some .nilFunc),[],none⟩),
 (66,⟨1,24,true,true,false,(some 5),none,none,false,false,(some (.slice none 0 0)),[],none⟩),
 (67,⟨1,24,true,true,false,(some 4),none,none,false,false,(some (.slice none 0 0)),[],none⟩),
 (72,⟨1,8,true,true,false,none,none,none,false,false,(some .nilFunc),[],none⟩),
 (78,⟨1,24,true,true,false,(some 30),none,none,false,false,(some (.slice none 0 0)),[],none⟩)]
theorem tok : TOK Try.prog T := tok_of (by kernel_rfl)
def SG : SGlob := []
def sg0 : Sig := ⟨3,2,[],[.atm (.v 0),.atm (.v 1)],1,[],.atm (.v 0),false,[]⟩
def sg1 : Sig := ⟨4,7,[],[(.agg [.atm (.v 0),.atm (.v 1)]),(.agg [.atm (.v 2),.atm (.v 3)]),.atm (.v 4),.atm (.v 5),.atm (.v 6)],1,[],.atm (.v 0),false,[]⟩
def sg2 : Sig := ⟨5,1,[],[.atm (.v 0)],2,[⟨false,false,55,2,.c (.sl []),[[.atm (.v 0),.atm (.v 1)]]⟩],.ptr 0 0 0,false,[]⟩
def sg3 : Sig := ⟨6,4,[⟨false,false,55,2,.c (.sl []),[[.atm (.v 2),.atm (.v 3)]]⟩],[.ptr 0 0 0,.atm (.v 0),.atm (.v 1)],3,[⟨false,false,55,2,.c (.sl []),[[.atm (.v 1),.atm (.v 2)]]⟩],.atm (.v 0),false,[]⟩
def sg4 : Sig := ⟨7,3,[⟨false,false,55,2,.c (.sl []),[[.atm (.v 1),.atm (.v 2)]]⟩],[.ptr 0 0 0,.atm (.v 0)],3,[⟨false,false,55,2,.c (.sl []),[[.atm (.v 1),.atm (.v 2)]]⟩],.atm (.v 0),false,[]⟩
def sg5 : Sig := ⟨9,1,[],[.atm (.v 0)],1,[],.atm (.v 0),true,[]⟩
def sg6 : Sig := ⟨8,2,[],[.atm (.v 0),.atm (.v 1)],3,[],(.tup [(.agg [.atm (.v 0),.atm (.v 1)]),.atm (.v 2)]),true,[]⟩
def sg7 : Sig := ⟨10,2,[],[(.agg [.atm (.v 0),.atm (.v 1)])],1,[],.atm (.v 0),false,[]⟩
def sg8 : Sig := ⟨11,2,[],[(.agg [.atm (.v 0),.atm (.v 1)])],1,[],.atm (.v 0),true,[]⟩
def sg9 : Sig := ⟨12,2,[],[.atm (.v 0),.atm (.v 1)],3,[],(.tup [(.agg [.atm (.v 0),.atm (.v 1)]),.atm (.v 2)]),true,[]⟩
def sg10 : Sig := ⟨13,1,[],[.atm (.v 0)],1,[],.atm (.v 0),false,[]⟩
def sg11 : Sig := ⟨14,4,[],[(.agg [.atm (.v 0),.atm (.v 1)]),(.agg [.atm (.v 2),.atm (.v 3)])],1,[],.atm (.v 0),false,[]⟩
def sg12 : Sig := ⟨15,0,[],[],1,[],.atm (.v 0),false,[]⟩
def sg13 : Sig := ⟨16,2,[],[(.agg [.atm (.v 0),.atm (.v 1)])],1,[],.atm (.v 0),false,[]⟩
def sg14 : Sig := ⟨17,3,[⟨false,false,55,2,.c (.sl []),[[.atm (.v 1),.atm (.v 2)]]⟩],[.ptr 0 0 0,.atm (.v 0)],4,[⟨false,false,55,2,.c (.sl []),[[.atm (.v 2),.atm (.v 3)]]⟩],(.agg [.atm (.v 0),.atm (.v 1)]),true,[]⟩
def sg15 : Sig := ⟨18,2,[⟨false,false,55,2,.c (.sl []),[[.atm (.v 0),.atm (.v 1)]]⟩],[.ptr 0 0 0],3,[⟨false,false,55,2,.c (.sl []),[[.atm (.v 1),.atm (.v 2)]]⟩],.atm (.v 0),false,[]⟩
def sg16 : Sig := ⟨19,2,[],[.atm (.v 0),.atm (.v 1)],3,[],(.tup [(.agg [.atm (.v 0),.atm (.v 1)]),.atm (.v 2)]),true,[]⟩
def sg17 : Sig := ⟨20,2,[],[.atm (.v 0),.atm (.v 1)],3,[],(.tup [(.agg [.atm (.v 0),.atm (.v 1)]),.atm (.v 2)]),true,[]⟩
def sg18 : Sig := ⟨21,4,[],[(.agg [.atm (.v 0),.atm (.v 1)]),(.agg [.atm (.v 2),.atm (.v 3)])],3,[],(.tup [(.agg [.atm (.v 0),.atm (.v 1)]),.atm (.v 2)]),true,[]⟩
def sg19 : Sig := ⟨22,4,[],[(.agg [.atm (.v 0),.atm (.v 1)]),(.agg [.atm (.v 2),.atm (.v 3)])],3,[],(.tup [(.agg [.atm (.v 0),.atm (.v 1)]),.atm (.v 2)]),true,[]⟩
def sg20 : Sig := ⟨24,2,[⟨false,false,55,2,.c (.sl []),[[.atm (.v 0),.atm (.v 1)]]⟩],[.ptr 0 0 0],3,[⟨false,false,55,2,.c (.sl []),[[.atm (.v 1),.atm (.v 2)]]⟩],.atm (.v 0),false,[]⟩
def sg21 : Sig := ⟨23,2,[],[.atm (.v 0),.atm (.v 1)],1,[],.atm (.v 0),false,[]⟩
def sg22 : Sig := ⟨25,1,[],[.atm (.v 0)],1,[],.atm (.v 0),false,[]⟩
def sg23 : Sig := ⟨28,1,[],[.atm (.v 0)],1,[⟨false,false,22,1,.c (.sl []),[[.atm (.v 0)]]⟩],(.clo 48 [] [.ptr 0 0 0]),false,[]⟩
def sg24 : Sig := ⟨27,1,[⟨false,false,22,1,.c (.sl []),[[.atm (.v 0)]]⟩],[(.clo 48 [] [.ptr 0 0 0])],2,[⟨false,false,22,1,.c (.sl []),[[.atm (.v 1)]]⟩,⟨false,true,3,1,.v 0,[]⟩],.own 1,true,[]⟩
def sg25 : Sig := ⟨26,1,[⟨false,true,3,1,.v 0,[]⟩],[.own 0],2,[⟨true,true,3,1,.v 1,[]⟩],.atm (.v 0),true,[]⟩
def sg26 : Sig := ⟨29,1,[],[.atm (.v 0)],1,[⟨false,true,9,1,.v 0,[]⟩],.own 0,true,[]⟩
def sg27 : Sig := ⟨30,2,[],[.atm (.v 0),.atm (.v 1)],2,[],(.tup [.atm (.v 0),.atm (.v 1)]),false,[]⟩
def sg28 : Sig := ⟨31,2,[],[.atm (.v 0),.atm (.v 1)],1,[],.atm (.v 0),false,[]⟩
def sg29 : Sig := ⟨32,1,[],[.atm (.v 0)],1,[],.atm (.v 0),false,[]⟩
def sg30 : Sig := ⟨34,1,[],[.atm (.v 0)],1,[⟨false,true,38,1,.v 0,[]⟩],.own 0,true,[]⟩
def sg31 : Sig := ⟨33,2,[],[.atm (.v 0),(.clo 35 [] [(.ep [.v 1])])],1,[],.atm (.v 0),false,[]⟩
def sg32 : Sig := ⟨36,1,[],[.atm (.v 0)],1,[],.atm (.v 0),false,[]⟩
def sg33 : Sig := ⟨37,1,[],[.atm (.v 0)],1,[],.atm (.v 0),false,[]⟩
def sg34 : Sig := ⟨38,2,[],[.atm (.v 0),.atm (.v 1)],1,[],.atm (.v 0),false,[]⟩
def sg35 : Sig := ⟨39,2,[],[.atm (.v 0),.atm (.v 1)],1,[],.atm (.v 0),false,[]⟩
def sg36 : Sig := ⟨40,3,[],[(.agg [.atm (.v 0),.atm (.v 1)]),.atm (.v 2)],1,[],.atm (.v 0),false,[]⟩
def sg37 : Sig := ⟨41,2,[],[.atm (.v 0),.atm (.v 1)],1,[],.atm (.v 0),false,[]⟩
def sg38 : Sig := ⟨42,2,[],[.atm (.v 0),.atm (.v 1)],1,[],.atm (.v 0),false,[]⟩
def sg39 : Sig := ⟨43,2,[],[.atm (.v 0),.atm (.v 1)],1,[],.atm (.v 0),false,[]⟩
def sg40 : Sig := ⟨44,2,[],[(.agg [.atm (.v 0),.atm (.v 1)])],1,[],.atm (.v 0),false,[]⟩
def sg41 : Sig := ⟨45,1,[],[.atm (.v 0)],1,[],.atm (.v 0),false,[]⟩
def sg42 : Sig := ⟨46,1,[⟨false,false,22,1,.c (.sl []),[[.atm (.v 0)]]⟩],[(.clo 48 [] [.ptr 0 0 0])],2,[⟨false,false,22,1,.c (.sl []),[[.atm (.v 1)]]⟩,⟨false,true,3,1,.v 0,[]⟩],.own 1,true,[]⟩
def sg43 : Sig := ⟨47,1,[⟨false,true,3,1,.v 0,[]⟩],[.own 0],1,[⟨false,true,3,1,.v 0,[]⟩],(.tup []),false,[0]⟩
def sg44 : Sig := ⟨49,2,[],[.atm (.v 0),.atm (.v 1)],1,[],.atm (.v 0),false,[]⟩
def sg45 : Sig := ⟨50,1,[],[.atm (.v 0)],1,[],.atm (.v 0),false,[]⟩
def sg46 : Sig := ⟨51,2,[],[.atm (.v 0),.atm (.v 1)],1,[],.atm (.v 0),false,[]⟩
def sg47 : Sig := ⟨35,2,[],[.atm (.v 0),(.ep [.v 1])],1,[],.atm (.v 0),false,[]⟩
def sg48 : Sig := ⟨52,1,[],[.atm (.v 0)],1,[],.atm (.v 0),false,[]⟩
def sg49 : Sig := ⟨56,1,[],[.atm (.v 0)],1,[],.atm (.v 0),false,[]⟩
def sigs : List Sig := [sg0,sg1,sg2,sg3,sg4,sg5,sg6,sg7,sg8,sg9,sg10,sg11,sg12,sg13,sg14,sg15,sg16,sg17,sg18,sg19,sg20,sg21,sg22,sg23,sg24,sg25,sg26,sg27,sg28,sg29,sg30,sg31,sg32,sg33,sg34,sg35,sg36,sg37,sg38,sg39,sg40,sg41,sg42,sg43,sg44,sg45,sg46,sg47,sg48,sg49]
def an0 : Ann := (.s none .z (.s none .z (.s none .z (.s none .z (.s none (.s none .z (.b (.l ⟨4,[(0,.junk),(4,.junk),(8,(.atm (.v 0))),(18,.junk),(19,.junk),(20,.junk),(21,.junk)],[(0,⟨false,false,55,2,.c (.sl []),[[.atm (.v 1),.atm (.v 2)]]⟩),(1,⟨false,true,3,1,.v 3,[]⟩)],2,[⟨none,7,3,1⟩]⟩ (.s none .z (.s (some ⟨4,[(22,.junk),(23,.junk),(24,.junk),(25,.junk),(26,.junk)],[(0,⟨false,false,55,2,.c (.sl []),[[.atm (.v 0),.atm (.v 1)]]⟩),(1,⟨false,true,3,1,.v 2,[]⟩),(2,⟨false,true,3,1,.v 3,[]⟩)],3,[]⟩) .z .z))))) (.s none .z (.s none (.s (some ⟨1,[(1,.junk),(5,.junk),(6,.junk),(8,.junk),(10,.junk),(22,.junk),(23,.junk),(24,.junk),(25,.junk),(26,.junk),(45,.junk),(46,.junk),(47,.junk),(48,.junk),(49,.junk),(50,.junk),(51,.junk),(66,(.atm (.v 0)))],[],3,[]⟩) .z .z) (.s none (.s none .z (.b (.l ⟨1,[(11,(.atm (.v 0))),(66,.junk)],[],3,[]⟩ (.s none .z (.s none (.b (.s none .z (.b (.l ⟨1,[(12,(.atm (.v 0))),(67,.junk),(68,.junk),(69,.junk),(70,.junk)],[],3,[]⟩ .z)))) .z))))) (.s none .z (.s none .z (.s none (.s none .z (.b (.l ⟨2,[(7,.junk),(11,.junk),(14,(.atm (.v 0))),(15,(.atm (.v 1))),(67,.junk),(68,.junk),(69,.junk),(70,.junk),(100,.junk),(101,.junk)],[],3,[]⟩ (.s none .z (.s none (.b (.s none (.s (some ⟨1,[(102,.junk),(103,.junk),(104,.junk),(105,.junk),(121,(.atm (.v 0)))],[],3,[]⟩) .z .z) .z)) .z))))) .z)))))))))))
def ir0p0 : IR := (.op (.bin .add false) [.v 7,.c (.int .i64 1)] (.jump 0 [.v 18,.v 14,.v 15,.v 16]))
def ir0p1 : IR := (.op .lenL [.v 10] (.op (.bin .lss false) [.v 22,.v 23] (.ite (.v 24) (.op .chk [.v 10,.v 19] (.op (.get 0 1) [.v 10,.v 19] (.op .chk [.v 10,.v 22] (.op (.get 0 1) [.v 10,.v 22] (.op (.bin .lss false) [.v 25,.v 26] (.op (.row 1) [.v 16,.v 19] (.op (.row 1) [.v 16,.v 22] (.op (.bin .lss false) [.v 28,.v 29] (.op (.bin .neq true) [.v 27,.v 30] (.ite (.v 31) (.ret [.c (.bool false)]) (.op (.bin .add false) [.v 22,.c (.int .i64 1)] (.jump 2 [.v 32])))))))))))) (.op (.bin .add false) [.v 19,.c (.int .i64 1)] (.jump 1 [.v 25])))))
def ir0p2 : IR := (.ite (.v 27) (.ret [.c (.bool false)]) (.op (.row 1) [.v 22,.v 24] (.op (.bin .or false) [.v 23,.v 28] (.op (.bin .add false) [.v 24,.c (.int .i64 1)] (.jump 2 [.v 29,.v 30])))))
def ir0p3 : IR := (.op .lenL [.v 22] (.op (.bin .lss false) [.v 24,.v 25] (.ite (.v 26) (.letj 1 (.op (.row 1) [.v 22,.v 24] (.op (.bin .eql false) [.v 27,.c (.int .u64 0)] (.ite (.v 28) (.jump 3 [.c (.bool true)]) (.op (.row 1) [.v 22,.v 24] (.op (.bin .and false) [.v 29,.v 23] (.op (.bin .neq false) [.v 30,.c (.int .u64 0)] (.jump 3 [.v 31]))))))) ir0p2) (.call 9 3 false [] [.v 15,.v 22] (.op (.bin .eql false) [.v 29,.c (.int .i64 0)] (.ite (.v 30) (.call 10 1 false [] [.v 15] (.op (.bin .eql false) [.v 23,.v 31] (.ite (.v 32) (.call 11 1 false [] [.v 15,.v 16,.v 27,.v 28] (.ite (.v 33) (.call 12 1 false [] [] (.ret [.v 34])) (.ret [.c (.bool false)]))) (.ret [.c (.bool false)])))) (.ret [.c (.bool false)])))))))
def ir0p4 : IR := (.op .lenL [.v 10] (.op (.bin .lss false) [.v 19,.v 20] (.ite (.v 21) (.loop 1 [.c (.int .i64 0)] ir0p1) (.call 8 1 false [] [.v 15,.v 16] (.loop 2 [.c (.int .u64 0),.c (.int .i64 0)] ir0p3)))))
def ir0p5 : IR := (.ite (.v 18) (.ret [.c (.bool false)]) (.loop 1 [.c (.int .i64 0)] ir0p4))
def ir0p6 : IR := (.op (.conv .u64) [.v 4] (.op (.bin .shl false) [.c (.int .i64 1),.v 11] (.op (.bin .lss false) [.v 7,.v 12] (.ite (.v 13) (.letj 4 (.op .lenL [.v 1] (.op (.bin .lss false) [.v 7,.v 14] (.ite (.v 15) (.op (.row 1) [.v 1,.v 7] (.op (.mk 1 1) [.v 16] (.op (.app 1 8) [.v 10,.v 17] (.jump 1 [.v 8,.v 9,.v 18,.v 17])))) (.call 4 3 false [] [.c (.int .i64 5),.v 8,.v 9] (.op (.mk 1 1) [.v 16] (.op (.app 1 8) [.v 10,.v 19] (.jump 1 [.v 17,.v 18,.v 20,.v 19]))))))) ir0p0) (.call 5 1 false [] [.v 4] (.call 6 3 false [] [.v 14,.v 10] (.letj 1 (.op (.bin .neq false) [.v 17,.c (.int .i64 0)] (.ite (.v 18) (.jump 1 [.c (.bool true)]) (.call 7 1 false [] [.v 15,.v 16] (.op (.bin .neq false) [.v 19,.c (.int .i64 0)] (.ite (.v 20) (.jump 1 [.c (.bool true)]) (.op .lenL [.v 16] (.op .lenL [.v 10] (.op (.bin .neq false) [.v 21,.v 22] (.jump 1 [.v 23]))))))))) ir0p5)))))))
def ir0 : IR := (.call 2 2 false [] [.v 0] (.call 3 3 false [] [.c (.int .i64 0),.c (.int .i64 4),.v 2,.v 3] (.loop 4 [.c (.int .i64 0),.v 5,.v 6,.c (.sl [])] ir0p6)))
theorem rd0 : readFn T SG sigs 3000 sg0 Try.f3 an0 = some ir0 := by kernel_rfl
def an1 : Ann := (.s none .z (.s none (.s (some ⟨1,[(0,.junk),(1,.junk),(10,.junk),(53,(.atm (.v 0)))],[],2,[]⟩) .z .z) (.s none .z (.s none .z (.s none .z (.s none .z (.s none (.s none .z (.f [15] (.b (.l ⟨1,[(2,.junk),(53,.junk),(55,.junk),(56,.junk),(57,.junk),(58,.junk),(59,.junk),(60,.junk),(61,.junk),(62,.junk),(63,.junk),(64,.junk),(65,.junk),(66,.junk),(67,.junk),(68,.junk),(69,.junk),(70,.junk),(71,.junk),(72,.junk),(73,.junk),(74,.junk),(75,.junk),(78,(.atm (.v 0)))],[],11,[]⟩ (.s none .z (.s none .z (.s none (.b (.s none .z (.s none (.s none .z (.b (.l ⟨1,[(79,.junk),(80,.junk),(81,.junk),(82,.junk),(83,.junk),(84,.junk),(85,.junk),(86,.junk),(87,.junk),(88,.junk),(89,.junk),(90,.junk),(91,.junk),(92,.junk),(95,(.atm (.v 0)))],[],23,[]⟩ (.s none .z (.s none .z (.s none (.b (.s none .z (.s none .z (.s none .z (.s (some ⟨1,[(19,.junk),(20,.junk),(21,.junk),(22,.junk),(23,.junk),(96,.junk),(97,.junk),(98,.junk),(99,.junk),(100,.junk),(101,.junk),(102,.junk),(103,.junk),(104,.junk),(105,.junk),(106,.junk),(107,.junk),(108,.junk),(109,.junk),(110,.junk),(119,(.atm (.v 0)))],[],25,[]⟩) .z .z))))) .z)))))) (.s none .z (.b (.l ⟨1,[(93,.junk),(94,.junk),(95,.junk),(96,.junk),(121,.junk),(122,.junk),(125,(.atm (.v 0)))],[],24,[]⟩ (.s none .z (.s none .z (.s none (.b (.s none .z (.s none .z (.s none .z (.s (some ⟨1,[(25,.junk),(26,.junk),(27,.junk),(28,.junk),(29,.junk),(126,.junk),(127,.junk),(128,.junk),(129,.junk),(130,.junk),(131,.junk),(132,.junk),(133,.junk),(134,.junk),(135,.junk),(136,.junk),(137,.junk),(138,.junk),(139,.junk),(140,.junk),(149,(.atm (.v 0)))],[],26,[]⟩) .z .z))))) .z))))))))) .z))))))) (.s none (.s none .z (.b (.l ⟨1,[(3,.junk),(4,.junk),(5,.junk),(6,.junk),(11,.junk),(12,.junk),(13,.junk),(14,.junk),(15,.junk),(76,.junk),(77,.junk),(78,.junk),(79,.junk),(152,.junk),(153,.junk),(154,.junk),(155,.junk),(156,.junk),(157,.junk),(158,.junk),(159,.junk),(160,.junk),(161,.junk),(162,.junk),(163,.junk),(164,.junk),(165,.junk),(166,.junk),(167,.junk),(168,.junk),(169,.junk),(172,(.atm (.v 0)))],[],30,[]⟩ (.s none .z (.s none .z (.s none (.b (.s none .z (.s none .z (.s none .z (.s (some ⟨1,[(31,.junk),(32,.junk),(33,.junk),(34,.junk),(35,.junk),(173,.junk),(174,.junk),(175,.junk),(176,.junk),(177,.junk),(178,.junk),(179,.junk),(180,.junk),(181,.junk),(182,.junk),(183,.junk),(184,.junk),(185,.junk),(186,.junk),(187,.junk),(188,.junk),(189,.junk),(190,.junk),(191,.junk),(200,(.atm (.v 0)))],[],33,[]⟩) .z .z))))) .z)))))) .z))))))))
def ir1p0 : IR := (.ite (.v 53) (.ret [.c (.bool false)]) (.op (.bin .add false) [.v 44,.c (.int .i64 1)] (.jump 1 [.v 54])))
def ir1p1 : IR := (.ite (.v 57) (.ret [.c (.bool false)]) (.op (.bin .add false) [.v 48,.c (.int .i64 1)] (.jump 2 [.v 58])))
def ir1p2 : IR := (.op (.bin .lss false) [.v 48,.v 47] (.ite (.v 49) (.op .chk [.v 46,.v 48] (.op (.get 0 1) [.v 46,.v 48] (.call 9 3 false [] [.v 36,.v 50] (.call 17 3 false [] [.v 36,.v 50] (.letj 1 (.op (.bin .neq false) [.v 53,.v 56] (.ite (.v 57) (.jump 3 [.c (.bool true)]) (.call 11 1 false [] [.v 51,.v 52,.v 54,.v 55] (.op (.un .not) [.v 58] (.jump 3 [.v 59]))))) ir1p1))))) (.op (.bin .add false) [.v 34,.c (.int .i64 1)] (.jump 0 [.v 50]))))
def ir1p3 : IR := (.op (.bin .lss false) [.v 44,.v 43] (.ite (.v 45) (.op .chk [.v 42,.v 44] (.op (.get 0 1) [.v 42,.v 44] (.call 6 3 false [] [.v 36,.v 46] (.call 16 3 false [] [.v 36,.v 46] (.letj 1 (.op (.bin .neq false) [.v 49,.v 52] (.ite (.v 53) (.jump 2 [.c (.bool true)]) (.call 11 1 false [] [.v 47,.v 48,.v 50,.v 51] (.op (.un .not) [.v 54] (.jump 2 [.v 55]))))) ir1p0))))) (.op (.mk 1 2) [.v 6,.v 30] (.op .lenL [.v 46] (.loop 1 [.c (.int .i64 0)] ir1p2)))))
def ir1p4 : IR := (.ite (.v 57) (.ret [.c (.bool false)]) (.op (.bin .add false) [.v 45,.c (.int .i64 1)] (.jump 1 [.v 58])))
def ir1p5 : IR := (.op (.bin .lss false) [.v 45,.v 44] (.ite (.v 46) (.op .chk [.v 43,.v 45] (.op (.get 0 4) [.v 43,.v 45] (.call 18 3 false [] [.v 47,.v 48,.v 49,.v 50] (.call 19 3 false [] [.v 47,.v 48,.v 49,.v 50] (.letj 1 (.op (.bin .neq false) [.v 53,.v 56] (.ite (.v 57) (.jump 2 [.c (.bool true)]) (.call 11 1 false [] [.v 51,.v 52,.v 54,.v 55] (.op (.un .not) [.v 58] (.jump 2 [.v 59]))))) ir1p4))))) (.call 12 1 false [] [] (.ret [.v 47]))))
def ir1p6 : IR := (.op (.bin .lss false) [.v 34,.v 33] (.ite (.v 35) (.op .chk [.v 32,.v 34] (.op (.get 0 1) [.v 32,.v 34] (.op .lenL [.v 5] (.op (.conv .u64) [.v 10] (.op (.bin .shl false) [.c (.int .i64 1),.v 38] (.op .min [.v 37,.v 39] (.op (.subL 1) [.v 5,.c (.int .i64 0),.v 40] (.op (.mk 1 3) [.v 5,.v 1,.v 41] (.op .lenL [.v 42] (.loop 1 [.c (.int .i64 0)] ir1p3)))))))))) (.call 3 3 false [] [.c (.int .i64 0),.c (.int .i64 3),.v 28,.v 29] (.call 14 4 false [] [.v 36,.v 37,.v 38] (.op (.mk 4 5) [.v 0,.v 1,.v 2,.v 3,.v 13,.v 14,.v 17,.v 18,.v 13,.v 14,.v 0,.v 1,.v 0,.v 1,.v 17,.v 18,.v 13,.v 14,.v 39,.v 40] (.op .lenL [.v 43] (.loop 1 [.c (.int .i64 0)] ir1p5)))))))
def ir1p7 : IR := (.ite (.v 7) (.call 12 1 false [] [] (.ret [.v 8])) (.call 2 2 false [] [.v 4] (.call 3 3 false [] [.c (.int .i64 0),.c (.int .i64 3),.v 8,.v 9] (.call 14 4 false [] [.v 10,.v 11,.v 12] (.call 14 4 false [] [.v 10,.v 15,.v 16] (.call 15 3 false [] [.v 19,.v 20] (.call 15 3 false [] [.v 22,.v 23] (.call 15 3 false [] [.v 25,.v 26] (.op (.mk 1 3) [.v 21,.v 24,.v 27] (.call 5 1 false [] [.v 10] (.op (.mk 1 2) [.v 0,.v 31] (.op .lenL [.v 32] (.loop 1 [.c (.int .i64 0)] ir1p6)))))))))))))
def ir1 : IR := (.letj 1 (.call 13 1 false [] [.v 0,.v 1] (.op (.un .not) [.v 7] (.ite (.v 8) (.jump 0 [.c (.bool true)]) (.call 13 1 false [] [.v 2,.v 3] (.op (.un .not) [.v 9] (.ite (.v 10) (.jump 0 [.c (.bool true)]) (.op .lenL [.v 5] (.op (.bin .gtr false) [.v 11,.c (.int .i64 100)] (.ite (.v 12) (.jump 0 [.c (.bool true)]) (.op .lenL [.v 6] (.op (.bin .gtr false) [.v 13,.c (.int .i64 80)] (.jump 0 [.v 14])))))))))))) ir1p7)
theorem rd1 : readFn T SG sigs 3000 sg1 Try.f4 an1 = some ir1 := by kernel_rfl
def an2 : Ann := .z
def ir2 : IR := (.op .lenL [.v 0] (.op .min [.v 1,.c (.int .i64 2000)] (.op (.subL 1) [.v 0,.c (.int .i64 0),.v 2] (.ret [.v 3,.c (.int .i64 0)]))))
theorem rd2 : readFn T SG sigs 3000 sg2 Try.f5 an2 = some ir2 := by kernel_rfl
def an3 : Ann := .z
def ir3 : IR := (.op (.bin .sub false) [.v 1,.v 0] (.op (.bin .add false) [.v 4,.c (.int .i64 1)] (.call 4 3 false [] [.v 5,.v 2,.v 3] (.op (.bin .add false) [.v 0,.v 6] (.ret [.v 9,.v 7,.v 8])))))
theorem rd3 : readFn T SG sigs 3000 sg3 Try.f6 an3 = some ir3 := by kernel_rfl
def an4 : Ann := .z
def ir4 : IR := (.call 20 3 false [] [.v 1,.v 2] (.call 21 1 false [] [.v 3,.v 0] (.ret [.v 6,.v 4,.v 5])))
theorem rd4 : readFn T SG sigs 3000 sg4 Try.f7 an4 = some ir4 := by kernel_rfl
def an5 : Ann := (.s none .z (.s none .z (.s none (.s none .z (.b (.l ⟨2,[(2,.junk),(4,(.atm (.v 0)))],[(0,⟨false,true,9,1,.v 1,[]⟩)],1,[⟨none,3,9,1⟩]⟩ .z))) .z)))
def ir5p0 : IR := (.op (.bin .lss false) [.v 1,.v 0] (.ite (.v 3) (.op (.bin .add false) [.c (.int .i64 97),.v 1] (.op (.conv .u8) [.v 4] (.op (.mk 1 1) [.v 5] (.op .toS [.v 6] (.op (.mk 1 1) [.v 7] (.op (.app 1 16) [.v 2,.v 8] (.op (.bin .add false) [.v 1,.c (.int .i64 1)] (.jump 0 [.v 10,.v 9])))))))) (.ret [.v 2])))
def ir5 : IR := (.loop 2 [.c (.int .i64 0),.c (.sl [])] ir5p0)
theorem rd5 : readFn T SG sigs 3000 sg5 Try.f9 an5 = some ir5 := by kernel_rfl
def an6 : Ann := (.s none .z (.s none (.s (some ⟨1,[(5,.junk),(22,(.atm (.v 0)))],[],1,[]⟩) .z .z) (.s none .z (.s none .z (.s none (.s none .z (.b (.l ⟨2,[(0,.junk),(1,.junk),(22,.junk),(24,.junk),(25,.junk),(27,.junk),(28,.junk),(29,.junk),(30,.junk),(33,(.atm (.v 0)))],[(5,⟨false,true,3,1,.v 1,[]⟩)],6,[⟨some (4,0,1),0,3,1⟩]⟩ .z))) .z)))))
def ir6p0 : IR := (.op (.bin .lss false) [.v 10,.v 9] (.ite (.v 12) (.op (.row 1) [.v 1,.v 10] (.call 27 2 false [] [.v 6,.v 13] (.op (.mk 1 1) [.v 14] (.op (.app 1 8) [.v 11,.v 16] (.op (.bin .add false) [.v 10,.c (.int .i64 1)] (.jump 0 [.v 18,.v 17])))))) (.ret [.v 8,.v 11,.c (.int .i64 0)])))
def ir6p1 : IR := (.ite (.v 2) (.ret [.c (.sl []),.c (.sl []),.c (.int .i64 1)]) (.call 23 1 false [] [.v 1] (.call 24 2 false [0] [.v 3] (.call 25 2 false [1] [.v 4] (.call 26 1 false [0] [.v 0] (.op .lenL [.v 1] (.loop 2 [.c (.int .i64 0),.c (.sl [])] ir6p0)))))))
def ir6 : IR := (.letj 1 (.call 22 1 false [] [.v 0] (.op (.un .not) [.v 2] (.ite (.v 3) (.jump 0 [.c (.bool true)]) (.op .lenL [.v 1] (.op .lenL [.v 0] (.op (.bin .shl false) [.c (.int .i64 1),.v 5] (.op (.bin .neq false) [.v 4,.v 6] (.jump 0 [.v 7])))))))) ir6p1)
theorem rd6 : readFn T SG sigs 3000 sg6 Try.f8 an6 = some ir6 := by kernel_rfl
def an7 : Ann := (.s none .z (.s none (.s (some ⟨1,[(0,.junk),(2,.junk),(20,(.atm (.v 0)))],[],1,[]⟩) .z .z) (.s none .z (.s none .z (.s none (.s none .z (.b (.l ⟨3,[(1,.junk),(4,(.atm (.v 0))),(20,.junk),(21,.junk),(22,.junk),(23,.junk),(24,.junk),(25,.junk),(28,(.atm (.v 1)))],[(1,⟨false,true,4,1,.v 2,[]⟩)],2,[]⟩ (.s none .z (.s none .z (.s none (.b (.s none .z (.s none (.s (some ⟨1,[(29,.junk),(30,.junk),(31,.junk),(39,(.atm (.v 0)))],[],2,[]⟩) .z .z) .z))) .z)))))) .z)))))
def ir7p0 : IR := (.ite (.v 11) (.ret [.c (.int .i64 8)]) (.op .max [.v 6,.v 10] (.op .chk [.v 8,.v 10] (.op (.set 0 1) [.v 8,.v 10,.c (.bool true)] (.op (.bin .add false) [.v 7,.c (.int .i64 1)] (.jump 0 [.v 12,.v 14,.v 13]))))))
def ir7p1 : IR := (.op (.bin .lss false) [.v 7,.v 5] (.ite (.v 9) (.op (.row 1) [.v 1,.v 7] (.letj 1 (.op (.bin .lss false) [.v 10,.c (.int .i64 0)] (.ite (.v 11) (.jump 1 [.c (.bool true)]) (.op .lenL [.v 8] (.op (.bin .geq false) [.v 10,.v 12] (.jump 1 [.v 13]))))) ir7p0)) (.op (.subL 1) [.v 8,.c (.int .i64 0),.v 6] (.call 28 1 false [] [.v 10,.c (.bool false)] (.ite (.v 11) (.ret [.c (.int .i64 8)]) (.ret [.c (.int .i64 0)]))))))
def ir7p2 : IR := (.ite (.v 2) (.ret [.c (.int .i64 1)]) (.op .lenL [.v 1] (.op (.mkL 1 [(.bool false)]) [.v 3] (.op .lenL [.v 1] (.loop 3 [.c (.int .i64 0),.c (.int .i64 0),.v 4] ir7p1)))))
def ir7 : IR := (.letj 1 (.call 22 1 false [] [.v 0] (.op (.un .not) [.v 2] (.ite (.v 3) (.jump 0 [.c (.bool true)]) (.op .lenL [.v 1] (.op .lenL [.v 0] (.op (.bin .shl false) [.c (.int .i64 1),.v 5] (.op (.bin .neq false) [.v 4,.v 6] (.jump 0 [.v 7])))))))) ir7p2)
theorem rd7 : readFn T SG sigs 3000 sg7 Try.f10 an7 = some ir7 := by kernel_rfl
def an8 : Ann := (.s none .z (.s none .z (.s none .z (.s none (.s none .z (.b (.l ⟨2,[(0,.junk),(1,.junk),(2,.junk),(6,.junk),(7,.junk),(8,.junk),(9,.junk),(10,.junk),(11,.junk),(12,.junk),(13,.junk),(14,.junk),(17,(.atm (.v 0)))],[(1,⟨false,true,38,1,.v 1,[]⟩)],2,[]⟩ .z))) .z))))
def ir8p0 : IR := (.op (.bin .lss false) [.v 8,.v 7] (.ite (.v 10) (.op (.row 1) [.v 1,.v 8] (.op .chk [.v 9,.v 11] (.op (.get 0 1) [.v 9,.v 11] (.op (.conv .u64) [.v 8] (.op (.bin .shl false) [.c (.int .u64 1),.v 13] (.op (.bin .or false) [.v 12,.v 14] (.op .chk [.v 9,.v 11] (.op (.set 0 1) [.v 9,.v 11,.v 15] (.op (.bin .add false) [.v 8,.c (.int .i64 1)] (.jump 0 [.v 17,.v 16])))))))))) (.ret [.v 9])))
def ir8 : IR := (.call 7 1 false [] [.v 0,.v 1] (.op (.bin .neq false) [.v 2,.c (.int .i64 0)] (.ite (.v 3) (.ret [.c (.sl [])]) (.call 29 1 false [] [.v 1] (.op (.bin .add false) [.v 4,.c (.int .i64 1)] (.op (.mkL 8 [(.int .u64 0)]) [.v 5] (.op .lenL [.v 1] (.loop 2 [.c (.int .i64 0),.v 6] ir8p0))))))))
theorem rd8 : readFn T SG sigs 3000 sg8 Try.f11 an8 = some ir8 := by kernel_rfl
def an9 : Ann := (.s none .z (.s none .z (.s none .z (.s none (.s none .z (.b (.l ⟨2,[(5,.junk),(8,.junk),(9,.junk),(10,.junk),(12,.junk),(13,.junk),(14,.junk),(15,.junk),(16,.junk),(18,(.atm (.v 0)))],[(1,⟨false,true,3,1,.v 1,[]⟩)],2,[]⟩ (.s none .z (.s none .z (.s none (.b (.s none .z (.f [7] .z))) .z)))))) .z))))
def ir9p0 : IR := (.op (.bin .lss false) [.v 8,.v 7] (.ite (.v 10) (.call 30 1 false [0] [.v 1] (.op (.mk 1 1) [.c (.int .u64 18446744073709551615)] (.op (.app 1 8) [.v 11,.v 12] (.call 31 1 true [] [.v 13,.v 8] (.op .chk [.v 9,.v 8] (.op (.set 0 1) [.v 9,.v 8,.v 14] (.op (.bin .add false) [.v 8,.c (.int .i64 1)] (.jump 0 [.v 16,.v 15])))))))) (.call 6 3 false [] [.v 0,.v 9] (.ret [.v 11,.v 12,.v 13]))))
def ir9 : IR := (.call 22 1 false [] [.v 0] (.op (.un .not) [.v 2] (.ite (.v 3) (.ret [.c (.sl []),.c (.sl []),.c (.int .i64 1)]) (.op .lenL [.v 0] (.op (.bin .shl false) [.c (.int .i64 1),.v 4] (.op (.mkL 8 [(.int .i64 0)]) [.v 5] (.op .lenL [.v 6] (.loop 2 [.c (.int .i64 0),.v 6] ir9p0))))))))
theorem rd9 : readFn T SG sigs 3000 sg9 Try.f12 an9 = some ir9 := by kernel_rfl
def an10 : Ann := (.s none .z (.s none .z (.s none .z (.s none (.s none .z (.b (.l ⟨2,[(2,.junk),(3,(.atm (.v 0))),(4,(.atm (.v 1))),(5,.junk),(6,.junk),(7,.junk)],[],0,[]⟩ .z))) .z))))
def ir10p0 : IR := (.call 33 1 false [] [.v 0] (.op (.bin .lss false) [.v 4,.v 5] (.ite (.v 6) (.op (.conv .u64) [.v 4] (.op (.bin .shl false) [.c (.int .u64 1),.v 7] (.op (.bin .or false) [.v 3,.v 8] (.op (.bin .add false) [.v 4,.c (.int .i64 1)] (.jump 0 [.v 9,.v 10]))))) (.ret [.v 3]))))
def ir10 : IR := (.call 32 1 false [] [.v 0] (.op (.un .not) [.v 1] (.ite (.v 2) (.ret [.c (.int .u64 0)]) (.loop 2 [.c (.int .u64 0),.c (.int .i64 0)] ir10p0))))
theorem rd10 : readFn T SG sigs 3000 sg10 Try.f13 an10 = some ir10 := by kernel_rfl
def an11 : Ann := .z
def ir11 : IR := (.call 34 1 false [] [.v 0,.v 2] (.ite (.v 4) (.call 35 1 false [] [.v 1,.v 3] (.ret [.v 5])) (.ret [.c (.bool false)])))
theorem rd11 : readFn T SG sigs 3000 sg11 Try.f14 an11 = some ir11 := by kernel_rfl
def an12 : Ann := .z
def ir12 : IR := (.call 5 1 false [] [.c (.int .i64 2)] (.op (.mk 1 4) [.c (.int .i64 7),.c (.int .i64 (-2)),.c (.int .i64 7),.c (.int .i64 3)] (.call 6 3 false [] [.v 0,.v 1] (.call 8 1 false [] [.v 2,.v 3] (.op (.bin .eql false) [.v 4,.c (.int .i64 0)] (.ite (.v 6) (.op (.mk 1 4) [.c (.int .i64 2),.c (.int .i64 0),.c (.int .i64 2),.c (.int .i64 1)] (.call 35 1 true [] [.v 3,.v 7] (.ite (.v 8) (.op .lenL [.v 5] (.op (.bin .eql false) [.v 9,.c (.int .i64 3)] (.ite (.v 10) (.op (.row 1) [.v 5,.c (.int .i64 0)] (.op (.bin .eql false) [.v 11,.c (.int .u64 2)] (.ite (.v 12) (.op (.row 1) [.v 5,.c (.int .i64 1)] (.op (.bin .eql false) [.v 13,.c (.int .u64 8)] (.ite (.v 14) (.op (.row 1) [.v 5,.c (.int .i64 2)] (.op (.bin .eql false) [.v 15,.c (.int .u64 5)] (.ite (.v 16) (.call 36 1 false [] [.v 2,.v 3,.c (.int .u64 9)] (.op (.bin .eql false) [.v 17,.c (.int .u64 8)] (.ret [.v 18]))) (.ret [.c (.bool false)])))) (.ret [.c (.bool false)])))) (.ret [.c (.bool false)])))) (.ret [.c (.bool false)])))) (.ret [.c (.bool false)])))) (.ret [.c (.bool false)])))))))
theorem rd12 : readFn T SG sigs 3000 sg12 Try.f15 an12 = some ir12 := by kernel_rfl
def an13 : Ann := .z
def ir13 : IR := (.op .lenL [.v 0] (.op (.bin .leq false) [.v 2,.c (.int .i64 10)] (.ite (.v 3) (.op .lenL [.v 1] (.op (.bin .leq false) [.v 4,.c (.int .i64 100)] (.ret [.v 5]))) (.ret [.c (.bool false)]))))
theorem rd13 : readFn T SG sigs 3000 sg13 Try.f16 an13 = some ir13 := by kernel_rfl
def an14 : Ann := (.s none .z (.s none .z (.s none .z (.s none (.s none .z (.b (.l ⟨4,[(7,(.atm (.v 0))),(10,.junk),(11,.junk),(12,.junk),(13,.junk),(14,.junk),(15,.junk)],[(0,⟨false,false,55,2,.c (.sl []),[[.atm (.v 1),.atm (.v 2)]]⟩),(2,⟨false,true,3,1,.v 3,[]⟩)],3,[]⟩ .z))) .z))))
def ir14p0 : IR := (.op .lenL [.v 12] (.op (.bin .lss false) [.v 9,.v 13] (.ite (.v 14) (.call 4 3 false [] [.v 6,.v 10,.v 11] (.op .chk [.v 12,.v 9] (.op (.set 0 1) [.v 12,.v 9,.v 15] (.op (.bin .add false) [.v 9,.c (.int .i64 1)] (.jump 0 [.v 19,.v 16,.v 17,.v 18]))))) (.call 5 1 false [] [.v 0] (.call 16 3 false [] [.v 15,.v 12] (.ret [.v 16,.v 17,.v 10,.v 11]))))))
def ir14 : IR := (.op (.conv .u64) [.v 0] (.op (.bin .shl false) [.c (.int .i64 1),.v 3] (.op (.mkL 8 [(.int .i64 0)]) [.v 4] (.call 3 3 false [] [.c (.int .i64 1),.c (.int .i64 6),.v 1,.v 2] (.loop 4 [.c (.int .i64 0),.v 7,.v 8,.v 5] ir14p0)))))
theorem rd14 : readFn T SG sigs 3000 sg14 Try.f17 an14 = some ir14 := by kernel_rfl
def an15 : Ann := .z
def ir15 : IR := (.call 4 3 false [] [.c (.int .i64 4),.v 0,.v 1] (.op (.bin .eql false) [.v 2,.c (.int .i64 0)] (.ite (.v 5) (.call 20 3 false [] [.v 3,.v 4] (.op (.conv .u64) [.v 6] (.ret [.v 9,.v 7,.v 8]))) (.op (.bin .eql false) [.v 2,.c (.int .i64 1)] (.ite (.v 6) (.call 20 3 false [] [.v 3,.v 4] (.op (.conv .u64) [.v 7] (.call 20 3 false [] [.v 8,.v 9] (.op (.conv .u64) [.v 11] (.op (.bin .and false) [.v 10,.v 14] (.ret [.v 15,.v 12,.v 13])))))) (.op (.bin .eql false) [.v 2,.c (.int .i64 2)] (.ite (.v 7) (.call 4 3 false [] [.c (.int .i64 64),.v 3,.v 4] (.op (.conv .u64) [.v 8] (.op (.bin .shl false) [.c (.int .u64 1),.v 11] (.call 4 3 false [] [.c (.int .i64 64),.v 9,.v 10] (.op (.conv .u64) [.v 13] (.op (.bin .shl false) [.c (.int .u64 1),.v 16] (.op (.bin .or false) [.v 12,.v 17] (.ret [.v 18,.v 14,.v 15])))))))) (.call 20 3 false [] [.v 3,.v 4] (.op (.conv .u64) [.v 8] (.op (.bin .mul false) [.v 11,.c (.int .u64 11400714819323198485)] (.call 20 3 false [] [.v 9,.v 10] (.op (.conv .u64) [.v 13] (.op (.bin .xor false) [.v 12,.v 16] (.ret [.v 17,.v 14,.v 15]))))))))))))))
theorem rd15 : readFn T SG sigs 3000 sg15 Try.f18 an15 = some ir15 := by kernel_rfl
def an16 : Ann := (.s none .z (.s none (.s (some ⟨1,[(5,.junk),(21,(.atm (.v 0)))],[],1,[]⟩) .z .z) (.s none .z (.s none (.s none .z (.b (.l ⟨2,[(0,.junk),(7,(.atm (.v 0))),(21,.junk),(24,.junk),(25,.junk),(26,.junk),(27,.junk),(28,.junk),(29,.junk)],[(6,⟨false,true,3,1,.v 1,[]⟩)],9,[]⟩ (.s none .z (.s none (.b (.s none .z (.s none (.s none .z (.b (.l ⟨2,[(9,(.atm (.v 0))),(30,.junk),(31,.junk),(32,.junk),(33,.junk)],[(9,⟨false,true,3,1,.v 1,[]⟩)],10,[⟨none,8,3,1⟩]⟩ (.s none .z (.s (some ⟨1,[(36,.junk),(37,.junk),(38,.junk),(39,.junk)],[(9,⟨false,true,3,1,.v 0,[]⟩)],10,[]⟩) (.b (.s (some ⟨1,[(36,.junk),(37,.junk),(38,.junk),(39,.junk),(59,(.atm (.v 0)))],[],10,[]⟩) .z .z)) .z))))) .z))) .z))))) .z))))
def ir16p0 : IR := (.op (.bin .add false) [.v 10,.c (.int .i64 1)] (.jump 1 [.v 15,.v 14]))
def ir16p1 : IR := (.ite (.v 14) (.op (.row 1) [.v 1,.v 10] (.op (.mk 1 1) [.v 15] (.op (.app 1 8) [.v 11,.v 16] (.jump 2 [.v 17])))) (.jump 2 [.v 11]))
def ir16p2 : IR := (.op .lenL [.v 1] (.op (.bin .lss false) [.v 10,.v 12] (.ite (.v 13) (.letj 1 (.letj 1 (.op (.row 1) [.v 1,.v 10] (.op (.row 1) [.v 1,.v 6] (.op (.bin .lss false) [.v 14,.v 15] (.ite (.v 16) (.op (.row 1) [.v 1,.v 10] (.call 37 1 true [] [.v 11,.v 17] (.op (.un .not) [.v 18] (.jump 3 [.v 19])))) (.jump 3 [.c (.bool false)]))))) ir16p1) ir16p0) (.op .lenL [.v 11] (.op .chk [.v 7,.v 6] (.op (.set 0 1) [.v 7,.v 6,.v 14] (.op (.bin .add false) [.v 6,.c (.int .i64 1)] (.jump 0 [.v 16,.v 15]))))))))
def ir16p3 : IR := (.op .lenL [.v 1] (.op (.bin .lss false) [.v 6,.v 8] (.ite (.v 9) (.loop 2 [.c (.int .i64 0),.c (.sl [])] ir16p2) (.ret [.v 3,.v 7,.c (.int .i64 0)]))))
def ir16p4 : IR := (.ite (.v 2) (.ret [.c (.sl []),.c (.sl []),.c (.int .i64 1)]) (.op (.app 1 16) [.c (.sl []),.v 0] (.op .lenL [.v 1] (.op (.mkL 8 [(.int .i64 0)]) [.v 4] (.loop 2 [.c (.int .i64 0),.v 5] ir16p3)))))
def ir16 : IR := (.letj 1 (.call 32 1 false [] [.v 0] (.op (.un .not) [.v 2] (.ite (.v 3) (.jump 0 [.c (.bool true)]) (.op .lenL [.v 1] (.op .lenL [.v 0] (.op (.conv .u64) [.v 5] (.op (.bin .shl false) [.c (.int .i64 1),.v 6] (.op (.bin .neq false) [.v 4,.v 7] (.jump 0 [.v 8]))))))))) ir16p4)
theorem rd16 : readFn T SG sigs 3000 sg16 Try.f19 an16 = some ir16 := by kernel_rfl
def an17 : Ann := (.s none .z (.s none .z (.s none .z (.s none (.s none .z (.b (.l ⟨2,[(5,.junk),(7,(.atm (.v 0))),(8,.junk),(9,.junk),(10,.junk),(12,.junk),(13,.junk),(14,.junk),(15,.junk),(16,.junk)],[(1,⟨false,true,3,1,.v 1,[]⟩)],2,[]⟩ (.s none .z (.s none (.b (.b (.l ⟨1,[(17,.junk),(18,.junk),(19,.junk),(20,.junk)],[(1,⟨false,true,3,1,.v 0,[]⟩)],2,[]⟩ (.s none (.s (some ⟨1,[(41,(.atm (.v 0)))],[],2,[]⟩) .z .z) .z)))) .z))))) .z))))
def ir17p0 : IR := (.ite (.v 13) (.op .chk [.v 12,.v 8] (.op (.get 0 1) [.v 12,.v 8] (.op (.bin .add false) [.v 14,.c (.int .i64 1)] (.op .chk [.v 12,.v 8] (.op (.set 0 1) [.v 12,.v 8,.v 15] (.jump 1 [.v 16])))))) (.op (.bin .add false) [.v 8,.c (.int .i64 1)] (.jump 0 [.v 14,.v 12])))
def ir17p1 : IR := (.letj 1 (.op .chk [.v 12,.v 8] (.op (.get 0 1) [.v 12,.v 8] (.op .lenL [.v 1] (.op (.bin .lss false) [.v 13,.v 14] (.ite (.v 15) (.op .chk [.v 12,.v 8] (.op (.get 0 1) [.v 12,.v 8] (.op (.row 1) [.v 1,.v 16] (.call 38 1 false [] [.v 17,.v 8] (.op (.un .not) [.v 18] (.jump 2 [.v 19])))))) (.jump 2 [.c (.bool false)])))))) ir17p0)
def ir17p2 : IR := (.op .lenL [.v 9] (.op (.bin .lss false) [.v 8,.v 10] (.ite (.v 11) (.loop 1 [.v 9] ir17p1) (.call 16 3 false [] [.v 0,.v 9] (.ret [.v 12,.v 13,.v 14])))))
def ir17 : IR := (.call 32 1 false [] [.v 0] (.op (.un .not) [.v 2] (.ite (.v 3) (.ret [.c (.sl []),.c (.sl []),.c (.int .i64 1)]) (.op .lenL [.v 0] (.op (.conv .u64) [.v 4] (.op (.bin .shl false) [.c (.int .i64 1),.v 5] (.op (.mkL 8 [(.int .i64 0)]) [.v 6] (.loop 2 [.c (.int .i64 0),.v 7] ir17p2))))))))
theorem rd17 : readFn T SG sigs 3000 sg17 Try.f20 an17 = some ir17 := by kernel_rfl
def an18 : Ann := (.s none .z (.s none (.s none .z (.b (.l ⟨1,[(0,.junk),(1,.junk),(5,.junk),(11,.junk),(12,.junk),(15,(.atm (.v 0)))],[],4,[]⟩ .z))) (.s none .z (.s none .z (.s none (.s none .z (.b (.l ⟨2,[(13,.junk),(14,.junk),(15,.junk),(16,.junk),(26,.junk),(27,.junk),(28,.junk),(29,.junk),(30,.junk),(31,.junk),(33,.junk),(34,.junk),(35,.junk),(36,.junk),(37,.junk),(39,(.atm (.v 0)))],[(4,⟨false,true,3,1,.v 1,[]⟩)],5,[]⟩ .z))) .z)))))
def ir18p0 : IR := (.op (.bin .lss false) [.v 13,.v 12] (.ite (.v 15) (.op (.row 1) [.v 1,.v 13] (.op .lenL [.v 14] (.op (.bin .mul false) [.v 16,.v 17] (.op (.row 1) [.v 3,.v 13] (.op (.bin .add false) [.v 18,.v 19] (.op .chk [.v 14,.v 13] (.op (.set 0 1) [.v 14,.v 13,.v 20] (.op (.bin .add false) [.v 13,.c (.int .i64 1)] (.jump 1 [.v 22,.v 21]))))))))) (.call 6 3 false [] [.v 0,.v 14] (.ret [.v 16,.v 17,.v 18]))))
def ir18p1 : IR := (.op (.bin .lss false) [.v 6,.v 5] (.ite (.v 7) (.op .chk [.v 4,.v 6] (.op (.get 0 2) [.v 4,.v 6] (.call 7 1 false [] [.v 8,.v 9] (.op (.bin .neq false) [.v 10,.c (.int .i64 0)] (.ite (.v 11) (.ret [.c (.sl []),.c (.sl []),.v 10]) (.op (.bin .add false) [.v 6,.c (.int .i64 1)] (.jump 0 [.v 12]))))))) (.call 39 1 false [] [.v 0,.v 2] (.op (.un .not) [.v 8] (.ite (.v 9) (.ret [.c (.sl []),.c (.sl []),.c (.int .i64 10)]) (.op .lenL [.v 1] (.op (.mkL 8 [(.int .i64 0)]) [.v 10] (.op .lenL [.v 11] (.loop 2 [.c (.int .i64 0),.v 11] ir18p0)))))))))
def ir18 : IR := (.op (.mk 2 2) [.v 0,.v 1,.v 2,.v 3] (.op .lenL [.v 4] (.loop 1 [.c (.int .i64 0)] ir18p1)))
theorem rd18 : readFn T SG sigs 3000 sg18 Try.f21 an18 = some ir18 := by kernel_rfl
def an19 : Ann := (.s none .z (.s none .z (.s none .z (.s none .z (.s none .z (.s none (.s none .z (.b (.l ⟨2,[(0,.junk),(1,.junk),(5,.junk),(6,.junk),(7,.junk),(9,(.atm (.v 0))),(10,.junk),(11,.junk),(12,.junk),(13,.junk),(16,.junk),(17,.junk),(18,.junk),(19,.junk),(22,.junk),(23,.junk),(24,.junk),(25,.junk),(26,.junk),(27,.junk),(29,.junk),(30,.junk),(31,.junk),(32,.junk)],[(3,⟨false,true,3,1,.v 1,[]⟩)],4,[]⟩ .z))) .z))))))
def ir19p0 : IR := (.op .lenL [.v 13] (.op (.bin .lss false) [.v 12,.v 14] (.ite (.v 15) (.op (.row 1) [.v 1,.v 12] (.op (.bin .mul false) [.v 16,.c (.int .i64 100)] (.op (.row 1) [.v 3,.v 12] (.op (.bin .add false) [.v 17,.v 18] (.op .chk [.v 13,.v 12] (.op (.set 0 1) [.v 13,.v 12,.v 19] (.op (.bin .add false) [.v 12,.c (.int .i64 1)] (.jump 0 [.v 21,.v 20])))))))) (.call 16 3 false [] [.v 0,.v 13] (.ret [.v 16,.v 17,.v 18])))))
def ir19 : IR := (.call 40 1 false [] [.v 0,.v 1] (.op (.bin .neq false) [.v 4,.c (.int .i64 0)] (.ite (.v 5) (.ret [.c (.sl []),.c (.sl []),.v 4]) (.call 40 1 false [] [.v 2,.v 3] (.op (.bin .neq false) [.v 6,.c (.int .i64 0)] (.ite (.v 7) (.ret [.c (.sl []),.c (.sl []),.v 6]) (.call 34 1 false [] [.v 0,.v 2] (.op (.un .not) [.v 8] (.ite (.v 9) (.ret [.c (.sl []),.c (.sl []),.c (.int .i64 10)]) (.op .lenL [.v 1] (.op (.mkL 8 [(.int .i64 0)]) [.v 10] (.loop 2 [.c (.int .i64 0),.v 11] ir19p0))))))))))))
theorem rd19 : readFn T SG sigs 3000 sg19 Try.f22 an19 = some ir19 := by kernel_rfl
def an20 : Ann := .z
def ir20 : IR := (.op .lenL [.v 0] (.op (.bin .geq false) [.v 1,.v 2] (.ite (.v 3) (.ret [.c (.int .i64 0),.v 0,.v 1]) (.op (.bin .add false) [.v 1,.c (.int .i64 1)] (.op (.bin .sub false) [.v 4,.c (.int .i64 1)] (.op (.row 1) [.v 0,.v 5] (.ret [.v 6,.v 0,.v 4])))))))
theorem rd20 : readFn T SG sigs 3000 sg20 Try.f24 an20 = some ir20 := by kernel_rfl
def an21 : Ann := (.s none .z (.s none .z (.s none .z (.s (some ⟨1,[(0,(.atm (.v 0))),(1,.junk),(4,.junk),(5,.junk),(6,.junk),(7,.junk),(8,.junk),(9,.junk)],[],0,[]⟩) .z .z))))
def ir21p0 : IR := (.ret [.v 4])
def ir21 : IR := (.op (.bin .lss false) [.v 1,.c (.int .i64 1)] (.ite (.v 2) (.ret [.c (.int .i64 0)]) (.op (.bin .rem false) [.v 0,.v 1] (.letj 1 (.op (.bin .lss false) [.v 3,.c (.int .i64 0)] (.ite (.v 4) (.op (.bin .add false) [.v 3,.v 1] (.jump 0 [.v 5])) (.jump 0 [.v 3]))) ir21p0))))
theorem rd21 : readFn T SG sigs 3000 sg21 Try.f23 an21 = some ir21 := by kernel_rfl
def an22 : Ann := (.s none .z (.s none .z (.s none (.s none .z (.b (.l ⟨1,[(2,.junk),(5,.junk),(6,.junk),(7,.junk),(10,(.atm (.v 0)))],[],0,[]⟩ (.s none .z (.s none .z (.s none (.b (.s none .z (.s (some ⟨1,[(3,.junk),(4,.junk),(11,.junk),(12,.junk),(13,.junk),(14,.junk),(30,(.atm (.v 0)))],[],0,[]⟩) .z .z))) .z)))))) .z)))
def ir22p0 : IR := (.ite (.v 7) (.ret [.c (.bool false)]) (.op (.bin .add false) [.v 4,.c (.int .i64 1)] (.jump 0 [.v 8])))
def ir22p1 : IR := (.op (.bin .lss false) [.v 4,.v 3] (.ite (.v 5) (.op (.row 1) [.v 0,.v 4] (.letj 1 (.call 41 1 false [] [.v 6] (.op (.un .not) [.v 7] (.ite (.v 8) (.jump 1 [.c (.bool true)]) (.op (.bin .gtr false) [.v 4,.c (.int .i64 0)] (.ite (.v 9) (.op (.bin .sub false) [.v 4,.c (.int .i64 1)] (.op (.row 1) [.v 0,.v 10] (.op (.bin .geq false) [.v 11,.v 6] (.jump 1 [.v 12])))) (.jump 1 [.c (.bool false)])))))) ir22p0)) (.ret [.c (.bool true)])))
def ir22 : IR := (.op .lenL [.v 0] (.op (.bin .gtr false) [.v 1,.c (.int .i64 6)] (.ite (.v 2) (.ret [.c (.bool false)]) (.op .lenL [.v 0] (.loop 1 [.c (.int .i64 0)] ir22p1)))))
theorem rd22 : readFn T SG sigs 3000 sg22 Try.f25 an22 = some ir22 := by kernel_rfl
def an24 : Ann := .z
def ir24 : IR := (.call 42 2 false [0] [.v 0] (.call 43 1 false [0] [.v 1] (.ret [.v 3,.v 2])))
theorem rd24 : readFn T SG sigs 3000 sg24 Try.f27 an24 = some ir24 := by kernel_rfl
def an27 : Ann := (.s none .z (.s none .z (.s none .z (.s none (.b (.l ⟨2,[(4,.junk),(5,.junk),(7,(.atm (.v 0))),(8,(.atm (.v 1))),(10,.junk),(11,.junk),(12,.junk)],[],0,[]⟩ .z)) .z))))
def ir27p0 : IR := (.op (.bin .lss false) [.v 3,.v 4] (.ite (.v 5) (.op (.bin .add false) [.v 3,.v 4] (.op (.conv .u64) [.v 6] (.op (.bin .shr false) [.v 7,.c (.int .u64 1)] (.op (.conv .i64) [.v 8] (.op (.row 1) [.v 0,.v 9] (.call 44 1 false [] [.v 10,.v 1] (.ite (.v 11) (.op (.bin .add false) [.v 9,.c (.int .i64 1)] (.jump 0 [.v 12,.v 4])) (.jump 0 [.v 3,.v 9])))))))) (.op (.bin .lss false) [.v 3,.v 2] (.ite (.v 6) (.op (.row 1) [.v 0,.v 3] (.op (.bin .eql false) [.v 7,.v 1] (.ite (.v 8) (.ret [.v 3,.c (.bool true)]) (.op (.row 1) [.v 0,.v 3] (.call 45 1 false [] [.v 9] (.ite (.v 10) (.call 45 1 false [] [.v 1] (.ret [.v 3,.v 11])) (.ret [.v 3,.c (.bool false)]))))))) (.ret [.v 3,.c (.bool false)])))))
def ir27 : IR := (.op .lenL [.v 0] (.loop 2 [.c (.int .i64 0),.v 2] ir27p0))
theorem rd27 : readFn T SG sigs 3000 sg27 Try.f30 an27 = some ir27 := by kernel_rfl
def an28 : Ann := .z
def ir28 : IR := (.call 46 1 false [] [.v 0,.v 1] (.op (.bin .geq false) [.v 2,.c (.int .i64 0)] (.ret [.v 3])))
theorem rd28 : readFn T SG sigs 3000 sg28 Try.f31 an28 = some ir28 := by kernel_rfl
def an29 : Ann := (.s none .z (.s none .z (.s none .z (.s none (.s none .z (.b (.l ⟨2,[(2,.junk),(3,(.atm (.v 0))),(4,(.atm (.v 1))),(5,.junk),(6,.junk),(7,.junk),(9,.junk),(10,.junk),(11,.junk)],[],0,[]⟩ .z))) .z))))
def ir29p0 : IR := (.op .lenL [.v 0] (.op (.bin .lss false) [.v 5,.v 6] (.ite (.v 7) (.op (.row 1) [.v 0,.v 5] (.op .max [.v 4,.v 8] (.op (.bin .add false) [.v 5,.c (.int .i64 1)] (.jump 0 [.v 9,.v 10])))) (.ret [.v 4]))))
def ir29 : IR := (.op .lenL [.v 0] (.op (.bin .lss false) [.v 1,.c (.int .i64 1)] (.ite (.v 2) .fail (.op (.row 1) [.v 0,.c (.int .i64 0)] (.loop 2 [.v 3,.c (.int .i64 1)] ir29p0)))))
theorem rd29 : readFn T SG sigs 3000 sg29 Try.f32 an29 = some ir29 := by kernel_rfl
def an31 : Ann := (.s none .z (.s none (.s none .z (.b (.l ⟨1,[(4,.junk),(6,.junk),(8,(.atm (.v 0)))],[],0,[]⟩ .z))) .z))
def ir31p0 : IR := (.op (.bin .lss false) [.v 3,.v 2] (.ite (.v 4) (.op (.row 1) [.v 0,.v 3] (.call 47 1 false [] [.v 5,.v 1] (.ite (.v 6) (.ret [.v 3]) (.op (.bin .add false) [.v 3,.c (.int .i64 1)] (.jump 0 [.v 7]))))) (.ret [.c (.int .i64 (-1))])))
def ir31 : IR := (.op .lenL [.v 0] (.loop 1 [.c (.int .i64 0)] ir31p0))
theorem rd31 : readFn T SG sigs 3000 sg31 Try.f33 an31 = some ir31 := by kernel_rfl
def an32 : Ann := (.s none .z (.s none (.s none .z (.b (.l ⟨1,[(2,.junk),(3,(.atm (.v 0)))],[],0,[]⟩ (.s none .z (.s none (.b (.s (some ⟨1,[(4,.junk),(5,.junk),(6,.junk),(7,.junk),(31,(.atm (.v 0)))],[],0,[]⟩) .z .z)) .z))))) .z))
def ir32p0 : IR := (.ite (.v 4) (.ret [.c (.bool false)]) (.op (.bin .add false) [.v 1,.c (.int .i64 1)] (.jump 0 [.v 5])))
def ir32p1 : IR := (.op .lenL [.v 0] (.op (.bin .lss false) [.v 1,.v 2] (.ite (.v 3) (.letj 1 (.op (.row 1) [.v 0,.v 1] (.call 48 1 false [] [.v 4] (.op (.un .not) [.v 5] (.ite (.v 6) (.jump 1 [.c (.bool true)]) (.op (.bin .gtr false) [.v 1,.c (.int .i64 0)] (.ite (.v 7) (.op (.row 1) [.v 0,.v 1] (.op (.bin .sub false) [.v 1,.c (.int .i64 1)] (.op (.row 1) [.v 0,.v 9] (.op (.bin .leq false) [.v 8,.v 10] (.jump 1 [.v 11]))))) (.jump 1 [.c (.bool false)]))))))) ir32p0) (.op .lenL [.v 0] (.op (.bin .leq false) [.v 4,.c (.int .i64 6)] (.ret [.v 5]))))))
def ir32 : IR := (.loop 1 [.c (.int .i64 0)] ir32p1)
theorem rd32 : readFn T SG sigs 3000 sg32 Try.f36 an32 = some ir32 := by kernel_rfl
def an33 : Ann := .z
def ir33 : IR := (.op .lenL [.v 0] (.op (.conv .u64) [.v 1] (.op (.bin .shl false) [.c (.int .i64 1),.v 2] (.ret [.v 3]))))
theorem rd33 : readFn T SG sigs 3000 sg33 Try.f37 an33 = some ir33 := by kernel_rfl
def an34 : Ann := (.s none .z (.s none .z (.s none (.s none .z (.b (.l ⟨1,[(4,.junk),(5,(.atm (.v 0))),(6,.junk),(7,.junk),(8,.junk),(9,.junk),(10,.junk)],[],0,[]⟩ .z))) .z)))
def ir34p0 : IR := (.op .lenL [.v 0] (.op (.bin .lss false) [.v 5,.v 6] (.ite (.v 7) (.op (.row 1) [.v 0,.v 5] (.op (.row 1) [.v 1,.v 5] (.op (.bin .neq false) [.v 8,.v 9] (.ite (.v 10) (.ret [.c (.bool false)]) (.op (.bin .add false) [.v 5,.c (.int .i64 1)] (.jump 0 [.v 11])))))) (.ret [.c (.bool true)]))))
def ir34 : IR := (.op .lenL [.v 0] (.op .lenL [.v 1] (.op (.bin .neq false) [.v 2,.v 3] (.ite (.v 4) (.ret [.c (.bool false)]) (.loop 1 [.c (.int .i64 0)] ir34p0)))))
theorem rd34 : readFn T SG sigs 3000 sg34 Try.f38 an34 = some ir34 := by kernel_rfl
def an35 : Ann := (.s none .z (.s none .z (.s none (.s none .z (.b (.l ⟨1,[(4,.junk),(6,.junk),(7,.junk),(8,.junk),(9,.junk),(10,.junk),(11,.junk),(13,(.atm (.v 0)))],[],0,[]⟩ .z))) .z)))
def ir35p0 : IR := (.op (.bin .lss false) [.v 6,.v 5] (.ite (.v 7) (.op (.row 1) [.v 0,.v 6] (.op (.row 1) [.v 1,.v 6] (.op (.bin .neq false) [.v 8,.v 9] (.ite (.v 10) (.ret [.c (.bool false)]) (.op (.bin .add false) [.v 6,.c (.int .i64 1)] (.jump 0 [.v 11])))))) (.ret [.c (.bool true)])))
def ir35 : IR := (.op .lenL [.v 0] (.op .lenL [.v 1] (.op (.bin .neq false) [.v 2,.v 3] (.ite (.v 4) (.ret [.c (.bool false)]) (.op .lenL [.v 0] (.loop 1 [.c (.int .i64 0)] ir35p0))))))
theorem rd35 : readFn T SG sigs 3000 sg35 Try.f39 an35 = some ir35 := by kernel_rfl
def an36 : Ann := (.s none .z (.s none (.s none .z (.b (.l ⟨1,[(0,.junk),(2,.junk),(4,.junk),(7,.junk),(10,(.atm (.v 0)))],[],1,[]⟩ .z))) .z))
def ir36p0 : IR := (.op (.bin .lss false) [.v 5,.v 4] (.ite (.v 6) (.op (.row 1) [.v 3,.v 5] (.op (.bin .and false) [.v 7,.v 2] (.op (.bin .neq false) [.v 8,.c (.int .u64 0)] (.ite (.v 9) (.op (.bin .and false) [.v 7,.v 2] (.ret [.v 10])) (.op (.bin .add false) [.v 5,.c (.int .i64 1)] (.jump 0 [.v 10])))))) (.ret [.c (.int .u64 0)])))
def ir36 : IR := (.call 8 1 false [] [.v 0,.v 1] (.op .lenL [.v 3] (.loop 1 [.c (.int .i64 0)] ir36p0)))
theorem rd36 : readFn T SG sigs 3000 sg36 Try.f40 an36 = some ir36 := by kernel_rfl
def an37 : Ann := (.s none .z (.s none (.s none .z (.b (.l ⟨1,[(4,.junk),(6,.junk),(8,(.atm (.v 0)))],[],0,[]⟩ .z))) .z))
def ir37p0 : IR := (.op (.bin .lss false) [.v 3,.v 2] (.ite (.v 4) (.op (.row 1) [.v 0,.v 3] (.op (.bin .eql false) [.v 5,.v 1] (.ite (.v 6) (.ret [.c (.bool true)]) (.op (.bin .add false) [.v 3,.c (.int .i64 1)] (.jump 0 [.v 7]))))) (.ret [.c (.bool false)])))
def ir37 : IR := (.op .lenL [.v 0] (.loop 1 [.c (.int .i64 0)] ir37p0))
theorem rd37 : readFn T SG sigs 3000 sg37 Try.f41 an37 = some ir37 := by kernel_rfl
def an38 : Ann := .z
def ir38 : IR := (.op (.conv .u64) [.v 1] (.op (.bin .shr false) [.v 0,.v 2] (.op (.bin .and false) [.v 3,.c (.int .u64 1)] (.op (.bin .eql false) [.v 4,.c (.int .u64 1)] (.ret [.v 5])))))
theorem rd38 : readFn T SG sigs 3000 sg38 Try.f42 an38 = some ir38 := by kernel_rfl
def an39 : Ann := (.s none .z (.s none .z (.s none (.s none .z (.b (.l ⟨1,[(4,.junk),(6,.junk),(7,.junk),(8,.junk),(9,.junk),(10,.junk),(11,.junk),(13,(.atm (.v 0)))],[],0,[]⟩ .z))) .z)))
def ir39p0 : IR := (.op (.bin .lss false) [.v 6,.v 5] (.ite (.v 7) (.op (.row 1) [.v 0,.v 6] (.op (.row 1) [.v 1,.v 6] (.op (.bin .neq false) [.v 8,.v 9] (.ite (.v 10) (.ret [.c (.bool false)]) (.op (.bin .add false) [.v 6,.c (.int .i64 1)] (.jump 0 [.v 11])))))) (.ret [.c (.bool true)])))
def ir39 : IR := (.op .lenL [.v 0] (.op .lenL [.v 1] (.op (.bin .neq false) [.v 2,.v 3] (.ite (.v 4) (.ret [.c (.bool false)]) (.op .lenL [.v 0] (.loop 1 [.c (.int .i64 0)] ir39p0))))))
theorem rd39 : readFn T SG sigs 3000 sg39 Try.f43 an39 = some ir39 := by kernel_rfl
def an40 : Ann := (.s none .z (.s none (.s (some ⟨1,[(0,.junk),(2,.junk),(20,(.atm (.v 0)))],[],1,[]⟩) .z .z) (.s none .z (.s none (.s none .z (.b (.l ⟨2,[(3,(.atm (.v 0))),(4,(.atm (.v 1))),(20,.junk)],[],1,[]⟩ (.s none .z (.s none (.b (.s none (.s (some ⟨1,[(21,.junk),(22,.junk),(23,.junk),(24,.junk),(25,.junk),(44,(.atm (.v 0)))],[],1,[]⟩) .z .z) .z)) .z))))) (.s none (.s none .z (.b (.l ⟨1,[(4,.junk),(5,(.atm (.v 0))),(21,.junk),(22,.junk),(23,.junk),(24,.junk),(25,.junk)],[],1,[]⟩ .z))) .z)))))
def ir40p0 : IR := (.ite (.v 7) (.ret [.c (.int .i64 8)]) (.op (.row 1) [.v 1,.v 4] (.op .max [.v 3,.v 8] (.op (.bin .add false) [.v 4,.c (.int .i64 1)] (.jump 0 [.v 9,.v 10])))))
def ir40p1 : IR := (.op (.bin .lss false) [.v 7,.v 3] (.ite (.v 8) (.call 37 1 false [] [.v 1,.v 7] (.op (.un .not) [.v 9] (.ite (.v 10) (.ret [.c (.int .i64 8)]) (.op (.bin .add false) [.v 7,.c (.int .i64 1)] (.jump 1 [.v 11]))))) (.ret [.c (.int .i64 0)])))
def ir40p2 : IR := (.op .lenL [.v 1] (.op (.bin .lss false) [.v 4,.v 5] (.ite (.v 6) (.letj 1 (.op (.row 1) [.v 1,.v 4] (.op (.bin .lss false) [.v 7,.c (.int .i64 0)] (.ite (.v 8) (.jump 1 [.c (.bool true)]) (.op (.row 1) [.v 1,.v 4] (.op .lenL [.v 1] (.op (.bin .geq false) [.v 9,.v 10] (.jump 1 [.v 11]))))))) ir40p0) (.loop 1 [.c (.int .i64 0)] ir40p1))))
def ir40p3 : IR := (.ite (.v 2) (.ret [.c (.int .i64 1)]) (.loop 2 [.c (.int .i64 0),.c (.int .i64 0)] ir40p2))
def ir40 : IR := (.letj 1 (.call 32 1 false [] [.v 0] (.op (.un .not) [.v 2] (.ite (.v 3) (.jump 0 [.c (.bool true)]) (.op .lenL [.v 1] (.op .lenL [.v 0] (.op (.conv .u64) [.v 5] (.op (.bin .shl false) [.c (.int .i64 1),.v 6] (.op (.bin .neq false) [.v 4,.v 7] (.jump 0 [.v 8]))))))))) ir40p3)
theorem rd40 : readFn T SG sigs 3000 sg40 Try.f44 an40 = some ir40 := by kernel_rfl
def an41 : Ann := (.s none .z (.s none (.s (some ⟨1,[(2,.junk),(12,(.atm (.v 0)))],[],0,[]⟩) .z .z) (.s none (.s none .z (.b (.l ⟨1,[(12,.junk),(13,.junk),(15,(.atm (.v 0)))],[],0,[]⟩ (.s none .z (.s none .z (.s (some ⟨0,[(16,.junk)],[],0,[]⟩) (.b (.s none .z (.s none .z (.b (.s (some ⟨1,[(16,.junk),(17,.junk),(18,.junk),(19,.junk),(20,.junk),(21,(.atm (.v 0)))],[],0,[]⟩) .z (.c .z (.s (some ⟨1,[(3,.junk),(4,.junk),(21,.junk),(28,(.atm (.v 0)))],[],0,[]⟩) .z .z))))))) .z)))))) .z)))
def ir41p0 : IR := (.op (.bin .add false) [.v 3,.c (.int .i64 1)] (.jump 0 [.v 5]))
def ir41p1 : IR := (.ite (.v 7) (.jump 1 []) (.ret [.c (.bool false)]))
def ir41p2 : IR := (.ite (.v 6) (.jump 1 []) (.letj 1 (.op (.bin .gtr false) [.v 3,.c (.int .i64 0)] (.ite (.v 7) (.op (.bin .geq false) [.v 5,.c (.int .u8 48)] (.ite (.v 8) (.op (.bin .leq false) [.v 5,.c (.int .u8 57)] (.ite (.v 9) (.jump 2 [.c (.bool true)]) (.op (.bin .eql false) [.v 5,.c (.int .u8 95)] (.jump 2 [.v 10])))) (.op (.bin .eql false) [.v 5,.c (.int .u8 95)] (.jump 2 [.v 9])))) (.jump 2 [.c (.bool false)]))) ir41p1))
def ir41p3 : IR := (.op (.bin .lss false) [.v 3,.v 2] (.ite (.v 4) (.letj 0 (.op .idxS [.v 0,.v 3] (.letj 1 (.op (.bin .geq false) [.v 5,.c (.int .u8 97)] (.ite (.v 6) (.op (.bin .leq false) [.v 5,.c (.int .u8 122)] (.jump 2 [.v 7])) (.jump 2 [.c (.bool false)]))) ir41p2)) ir41p0) (.ret [.c (.bool true)])))
def ir41p4 : IR := (.ite (.v 1) (.ret [.c (.bool false)]) (.op .lenS [.v 0] (.loop 1 [.c (.int .i64 0)] ir41p3)))
def ir41 : IR := (.letj 1 (.op .lenS [.v 0] (.op (.bin .eql false) [.v 1,.c (.int .i64 0)] (.ite (.v 2) (.jump 0 [.c (.bool true)]) (.op .lenS [.v 0] (.op (.bin .gtr false) [.v 3,.c (.int .i64 12)] (.jump 0 [.v 4])))))) ir41p4)
theorem rd41 : readFn T SG sigs 3000 sg41 Try.f45 an41 = some ir41 := by kernel_rfl
def an44 : Ann := .z
def ir44 : IR := (.call 49 1 false [] [.v 0] (.ite (.v 2) (.call 49 1 false [] [.v 1] (.op (.un .not) [.v 3] (.ite (.v 4) (.ret [.c (.bool true)]) (.op (.bin .lss false) [.v 0,.v 1] (.ret [.v 5]))))) (.op (.bin .lss false) [.v 0,.v 1] (.ret [.v 3]))))
theorem rd44 : readFn T SG sigs 3000 sg44 Try.f49 an44 = some ir44 := by kernel_rfl
def an45 : Ann := .z
def ir45 : IR := (.op (.bin .neq false) [.v 0,.v 0] (.ret [.v 1]))
theorem rd45 : readFn T SG sigs 3000 sg45 Try.f50 an45 = some ir45 := by kernel_rfl
def an46 : Ann := (.s none .z (.s none (.s none .z (.b (.l ⟨1,[(4,.junk),(6,.junk),(8,(.atm (.v 0)))],[],0,[]⟩ .z))) .z))
def ir46p0 : IR := (.op (.bin .lss false) [.v 3,.v 2] (.ite (.v 4) (.op (.row 1) [.v 0,.v 3] (.op (.bin .eql true) [.v 1,.v 5] (.ite (.v 6) (.ret [.v 3]) (.op (.bin .add false) [.v 3,.c (.int .i64 1)] (.jump 0 [.v 7]))))) (.ret [.c (.int .i64 (-1))])))
def ir46 : IR := (.op .lenL [.v 0] (.loop 1 [.c (.int .i64 0)] ir46p0))
theorem rd46 : readFn T SG sigs 3000 sg46 Try.f51 an46 = some ir46 := by kernel_rfl
def an47 : Ann := .z
def ir47 : IR := (.op (.conv .u64) [.v 1] (.op (.bin .shr false) [.v 0,.v 2] (.op (.bin .and false) [.v 3,.c (.int .u64 1)] (.op (.bin .eql false) [.v 4,.c (.int .u64 1)] (.ret [.v 5])))))
theorem rd47 : readFn T SG sigs 3000 sg47 Try.f35 an47 = some ir47 := by kernel_rfl
def an48 : Ann := (.s none .z (.s none (.s (some ⟨1,[(2,.junk),(21,(.atm (.v 0)))],[],0,[]⟩) .z .z) (.s none (.s none .z (.b (.l ⟨1,[(3,(.atm (.v 0))),(21,.junk)],[],0,[]⟩ (.s none .z (.s none (.b (.s (some ⟨1,[(22,.junk),(23,.junk),(24,.junk),(25,.junk),(55,(.atm (.v 0)))],[],0,[]⟩) .z .z)) .z))))) .z)))
def ir48p0 : IR := (.ite (.v 5) (.ret [.c (.bool false)]) (.op (.bin .add false) [.v 2,.c (.int .i64 1)] (.jump 0 [.v 6])))
def ir48p1 : IR := (.op .lenS [.v 0] (.op (.bin .lss false) [.v 2,.v 3] (.ite (.v 4) (.letj 1 (.op .idxS [.v 0,.v 2] (.op (.bin .lss false) [.v 5,.c (.int .u8 97)] (.ite (.v 6) (.op .idxS [.v 0,.v 2] (.op (.bin .lss false) [.v 7,.c (.int .u8 48)] (.ite (.v 8) (.op .idxS [.v 0,.v 2] (.op (.bin .neq false) [.v 9,.c (.int .u8 95)] (.jump 1 [.v 10]))) (.op .idxS [.v 0,.v 2] (.op (.bin .gtr false) [.v 9,.c (.int .u8 57)] (.ite (.v 10) (.op .idxS [.v 0,.v 2] (.op (.bin .neq false) [.v 11,.c (.int .u8 95)] (.jump 1 [.v 12]))) (.jump 1 [.c (.bool false)]))))))) (.op .idxS [.v 0,.v 2] (.op (.bin .gtr false) [.v 7,.c (.int .u8 122)] (.ite (.v 8) (.op .idxS [.v 0,.v 2] (.op (.bin .lss false) [.v 9,.c (.int .u8 48)] (.ite (.v 10) (.op .idxS [.v 0,.v 2] (.op (.bin .neq false) [.v 11,.c (.int .u8 95)] (.jump 1 [.v 12]))) (.op .idxS [.v 0,.v 2] (.op (.bin .gtr false) [.v 11,.c (.int .u8 57)] (.ite (.v 12) (.op .idxS [.v 0,.v 2] (.op (.bin .neq false) [.v 13,.c (.int .u8 95)] (.jump 1 [.v 14]))) (.jump 1 [.c (.bool false)]))))))) (.jump 1 [.c (.bool false)]))))))) ir48p0) (.ret [.c (.bool true)]))))
def ir48p2 : IR := (.ite (.v 1) (.ret [.c (.bool false)]) (.loop 1 [.c (.int .i64 0)] ir48p1))
def ir48 : IR := (.letj 1 (.op .lenS [.v 0] (.op (.bin .lss false) [.v 1,.c (.int .i64 1)] (.ite (.v 2) (.jump 0 [.c (.bool true)]) (.op .lenS [.v 0] (.op (.bin .gtr false) [.v 3,.c (.int .i64 12)] (.ite (.v 4) (.jump 0 [.c (.bool true)]) (.op .idxS [.v 0,.c (.int .i64 0)] (.op (.bin .lss false) [.v 5,.c (.int .u8 97)] (.ite (.v 6) (.jump 0 [.c (.bool true)]) (.op .idxS [.v 0,.c (.int .i64 0)] (.op (.bin .gtr false) [.v 7,.c (.int .u8 122)] (.jump 0 [.v 8])))))))))))) ir48p2)
theorem rd48 : readFn T SG sigs 3000 sg48 Try.f52 an48 = some ir48 := by kernel_rfl
def an49 : Ann := .z
def ir49 : IR := (.op (.bin .neq false) [.v 0,.v 0] (.ret [.v 1]))
theorem rd49 : readFn T SG sigs 3000 sg49 Try.f56 an49 = some ir49 := by kernel_rfl
end Go.Proofs.Ytjicfdolcieliaa

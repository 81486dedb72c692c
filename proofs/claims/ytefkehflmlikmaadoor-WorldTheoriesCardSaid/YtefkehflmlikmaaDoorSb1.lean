/- Plain programs of the functions of the program and lemmas about what they compute. -/
import Derived.Test.YtefkehflmlikmaaDoorAmSe21
import Derived.Test.YtefkehflmlikmaaDoorProg
import Derived.KernelRfl
set_option linter.unusedSimpArgs false
set_option linter.unusedVariables false
set_option linter.unusedSectionVars false
namespace Go.Proofs.YtefkehflmlikmaaDoor
open Go Am
set_option maxRecDepth 100000
abbrev fnD (f : Nat) : D := .raw (.func (.func f) #[] #[])
def T : Tab := [
 (3, ⟨1, 8, true, true, false, none, none, (some .i64), false, false, (some (.int .i64 0)), [], none⟩),
 (4, ⟨1, 1, true, true, false, none, none, none, false, true, (some (.bool false)), [], none⟩),
 (5, ⟨1, 1, true, true, false, none, none, (some .u8), false, false, (some (.int .u8 0)), [], none⟩),
 (9, ⟨1, 16, true, true, false, none, none, none, true, false, (some (.string ⟨⟨[]⟩⟩)), [], none⟩),
 (22, ⟨1, 24, true, true, false, (some 3), none, none, false, false, (some (.slice none 0 0)), [], none⟩),
 (23, ⟨1, 8, true, true, false, none, none, none, false, false, (some (.pointer none)), [], none⟩),
 (26, ⟨1, 24, true, true, false, (some 9), none, none, false, false, (some (.slice none 0 0)), [], none⟩),
 (28, ⟨1, 8, true, true, false, none, none, (some .u64), false, false, (some (.int .u64 0)), [], none⟩),
 (31, ⟨1, 24, true, true, false, (some 33), none, none, false, false, (some (.slice none 0 0)), [], none⟩),
 (33, ⟨3, 48, true, true, true, none, none, none, false, false, (some (.agg #[(.int .i64 0), (.string ⟨⟨[]⟩⟩), (.slice none 0 0)])), [(0, 3), (1, 9), (2, 31)], (some [(0, 1), (1, 1), (2, 1)])⟩),
 (35, ⟨1, 8, true, true, false, none, none, (some .i64), false, false, (some (.int .i64 0)), [], none⟩),
 (42, ⟨1, 8, true, true, false, none, none, (some .u64), false, false, (some (.int .u64 0)), [], none⟩),
 (48, ⟨1, 24, true, true, false, (some 26), none, none, false, false, (some (.slice none 0 0)), [], none⟩),
 (49, ⟨1, 24, true, true, false, (some 28), none, none, false, false, (some (.slice none 0 0)), [], none⟩),
 (67, ⟨2, 32, true, true, true, none, none, none, false, false, (some (.agg #[(.slice none 0 0), (.int .i64 0)])), [(0, 22), (1, 3)], (some [(0, 1), (1, 1)])⟩),
 (68, ⟨1, 24, true, true, false, (some 5), none, none, false, false, (some (.slice none 0 0)), [], none⟩),
 (91, ⟨1, 8, true, true, false, none, none, none, false, false, (some .nilFunc), [], none⟩),
 (92, ⟨1, 8, true, true, false, none, none, none, false, false, (some (.pointer none)), [], none⟩),
 (94, ⟨2, 32, true, true, true, none, none, none, false, false, (some (.agg #[(.pointer none), (.slice none 0 0)])), [(0, 92), (1, 68)], (some [(0, 1), (1, 1)])⟩),
 (97, ⟨1, 8, true, true, false, none, none, none, false, false, (some .nilFunc), [], none⟩),
 (106, ⟨1, 8, true, true, false, none, none, none, false, false, (some (.pointer none)), [], none⟩),
 (108, ⟨4, 40, true, true, true, none, none, none, false, false, (some (.agg #[(.string ⟨⟨[]⟩⟩), (.int .i64 0), (.int .i64 0), (.bool false)])), [(0, 9), (1, 3), (2, 3), (3, 4)], (some [(0, 1), (1, 1), (2, 1), (3, 1)])⟩),
 (109, ⟨1, 8, true, true, false, none, none, none, false, false, (some .nilFunc), [], none⟩),
 (124, ⟨3, 40, true, true, true, none, none, none, false, false, (some (.agg #[(.string ⟨⟨[]⟩⟩), (.string ⟨⟨[]⟩⟩), (.int .i64 0)])), [(0, 9), (1, 9), (2, 3)], (some [(0, 1), (1, 1), (2, 1)])⟩)]
theorem tok : TOK Tryd.prog T := tok_of (by kernel_rfl)
def SG : SGlob := []
def sg0 : Sig := ⟨7, 3, [], [(.atm (.v 0)), (.atm (.v 1)), (.atm (.v 2))], 1, [], (.atm (.v 0)), false, []⟩
def sg1 : Sig := ⟨8, 2, [], [(.atm (.v 0)), (.atm (.v 1))], 1, [], (.atm (.v 0)), false, []⟩
def sg2 : Sig := ⟨9, 1, [], [(.atm (.v 0))], 1, [], (.atm (.v 0)), false, []⟩
def sg3 : Sig := ⟨10, 1, [], [(.atm (.v 0))], 1, [], (.atm (.v 0)), false, []⟩
def sg4 : Sig := ⟨11, 1, [], [(.atm (.v 0))], 1, [], (.atm (.v 0)), false, []⟩
def sg5 : Sig := ⟨27, 1, [], [(.atm (.v 0))], 1, [], (.atm (.v 0)), false, []⟩
def sg6 : Sig := ⟨13, 1, [], [(.atm (.v 0))], 2, [⟨false, false, 67, 2, (.c (.sl [])), [[(.atm (.v 0)), (.atm (.v 1))]]⟩], (.ptr 0 0 0), false, []⟩
def sg7 : Sig := ⟨23, 3, [⟨false, false, 67, 2, (.c (.sl [])), [[(.atm (.v 1)), (.atm (.v 2))]]⟩], [(.ptr 0 0 0), (.atm (.v 0))], 3, [⟨false, false, 67, 2, (.c (.sl [])), [[(.atm (.v 1)), (.atm (.v 2))]]⟩], (.atm (.v 0)), false, []⟩
def sg8 : Sig := ⟨15, 1, [], [(.atm (.v 0))], 1, [⟨false, true, 9, 1, (.v 0), []⟩], (.own 0), true, []⟩
def sg9 : Sig := ⟨28, 2, [⟨false, false, 67, 2, (.c (.sl [])), [[(.atm (.v 0)), (.atm (.v 1))]]⟩], [(.ptr 0 0 0)], 3, [⟨false, false, 67, 2, (.c (.sl [])), [[(.atm (.v 1)), (.atm (.v 2))]]⟩], (.atm (.v 0)), true, []⟩
def sg10 : Sig := ⟨17, 2, [⟨false, false, 67, 2, (.c (.sl [])), [[(.atm (.v 0)), (.atm (.v 1))]]⟩], [(.ptr 0 0 0)], 3, [⟨false, false, 67, 2, (.c (.sl [])), [[(.atm (.v 1)), (.atm (.v 2))]]⟩], (.atm (.v 0)), false, []⟩
def sg11 : Sig := ⟨29, 2, [], [(.atm (.v 0)), (.atm (.v 1))], 4, [], (.tup [(.agg [(.atm (.v 0)), (.atm (.v 1)), (.atm (.v 2))]), (.atm (.v 3))]), true, []⟩
def sg12 : Sig := ⟨30, 2, [], [(.atm (.v 0)), (.atm (.v 1))], 4, [], (.tup [(.agg [(.atm (.v 0)), (.atm (.v 1)), (.atm (.v 2))]), (.atm (.v 3))]), true, []⟩
def sg13 : Sig := ⟨31, 6, [], [(.agg [(.atm (.v 0)), (.atm (.v 1)), (.atm (.v 2))]), (.agg [(.atm (.v 3)), (.atm (.v 4)), (.atm (.v 5))])], 1, [], (.atm (.v 0)), false, []⟩
def sg14 : Sig := ⟨32, 0, [], [], 1, [], (.atm (.v 0)), false, []⟩
def sg15 : Sig := ⟨33, 4, [], [(.atm (.v 0)), (.agg [(.atm (.v 1)), (.atm (.v 2)), (.atm (.v 3))])], 2, [], (.tup [(.atm (.v 0)), (.atm (.v 1))]), false, []⟩
def sg16 : Sig := ⟨34, 1, [], [(.atm (.v 0))], 1, [], (.atm (.v 0)), false, []⟩
def sg17 : Sig := ⟨35, 3, [], [(.agg [(.atm (.v 0)), (.atm (.v 1)), (.atm (.v 2))])], 1, [], (.atm (.v 0)), false, []⟩
def sg18 : Sig := ⟨18, 4, [⟨false, false, 67, 2, (.c (.sl [])), [[(.atm (.v 2)), (.atm (.v 3))]]⟩], [(.ptr 0 0 0), (.atm (.v 0)), (.atm (.v 1))], 5, [⟨false, false, 67, 2, (.c (.sl [])), [[(.atm (.v 3)), (.atm (.v 4))]]⟩], (.agg [(.atm (.v 0)), (.atm (.v 1)), (.atm (.v 2))]), true, []⟩
def sg19 : Sig := ⟨36, 3, [], [(.agg [(.atm (.v 0)), (.atm (.v 1)), (.atm (.v 2))])], 2, [], (.tup [(.atm (.v 0)), (.atm (.v 1))]), false, []⟩
def sg20 : Sig := ⟨37, 7, [], [(.atm (.v 0)), (.agg [(.atm (.v 1)), (.atm (.v 2)), (.atm (.v 3))]), (.agg [(.atm (.v 4)), (.atm (.v 5)), (.atm (.v 6))])], 2, [], (.tup [(.atm (.v 0)), (.atm (.v 1))]), false, []⟩
def sg21 : Sig := ⟨38, 1, [], [(.atm (.v 0))], 1, [], (.atm (.v 0)), false, []⟩
def sg22 : Sig := ⟨39, 7, [], [(.agg [(.atm (.v 0)), (.atm (.v 1)), (.atm (.v 2))]), (.atm (.v 3)), (.agg [(.atm (.v 4)), (.atm (.v 5)), (.atm (.v 6))])], 3, [], (.agg [(.atm (.v 0)), (.atm (.v 1)), (.atm (.v 2))]), true, []⟩
def sg23 : Sig := ⟨40, 3, [], [(.atm (.v 0)), (.atm (.v 1)), (.atm (.v 2))], 1, [], (.atm (.v 0)), false, []⟩
def sg24 : Sig := ⟨49, 2, [⟨false, false, 67, 2, (.c (.sl [])), [[(.atm (.v 0)), (.atm (.v 1))]]⟩], [(.ptr 0 0 0)], 3, [⟨false, false, 67, 2, (.c (.sl [])), [[(.atm (.v 1)), (.atm (.v 2))]]⟩], (.atm (.v 0)), false, []⟩
def sg25 : Sig := ⟨57, 2, [], [(.atm (.v 0)), (.atm (.v 1))], 1, [], (.atm (.v 0)), false, []⟩
def sg26 : Sig := ⟨62, 3, [⟨false, false, 67, 2, (.c (.sl [])), [[(.atm (.v 1)), (.atm (.v 2))]]⟩], [(.ptr 0 0 0), (.atm (.v 0))], 3, [⟨false, false, 67, 2, (.c (.sl [])), [[(.atm (.v 1)), (.atm (.v 2))]]⟩], (.atm (.v 0)), false, []⟩
def sg27 : Sig := ⟨41, 1, [], [(.atm (.v 0))], 1, [], (.atm (.v 0)), false, []⟩
def sg28 : Sig := ⟨63, 2, [], [(.atm (.v 0)), (.atm (.v 1))], 3, [], (.agg [(.atm (.v 0)), (.atm (.v 1)), (.atm (.v 2))]), true, []⟩
def sg29 : Sig := ⟨42, 1, [], [(.atm (.v 0))], 1, [], (.atm (.v 0)), false, []⟩
def sg30 : Sig := ⟨64, 2, [], [(.atm (.v 0)), (.atm (.v 1))], 3, [], (.agg [(.atm (.v 0)), (.atm (.v 1)), (.atm (.v 2))]), true, []⟩
def sg31 : Sig := ⟨65, 1, [], [(.atm (.v 0))], 5, [], (.tup [(.agg [(.atm (.v 0)), (.atm (.v 1)), (.atm (.v 2))]), (.atm (.v 3)), (.atm (.v 4))]), true, []⟩
def sg32 : Sig := ⟨66, 3, [], [(.agg [(.atm (.v 0)), (.atm (.v 1)), (.atm (.v 2))])], 1, [], (.atm (.v 0)), true, []⟩
def sg33 : Sig := ⟨67, 2, [], [(.atm (.v 0)), (.atm (.v 1))], 1, [], (.atm (.v 0)), false, []⟩
def sg34 : Sig := ⟨68, 4, [], [(.atm (.v 0)), (.agg [(.atm (.v 1)), (.atm (.v 2)), (.atm (.v 3))])], 1, [], (.atm (.v 0)), false, []⟩
def sg35 : Sig := ⟨69, 1, [], [(.atm (.v 0))], 1, [], (.atm (.v 0)), false, []⟩
def sg36 : Sig := ⟨70, 3, [], [(.agg [(.atm (.v 0)), (.atm (.v 1)), (.atm (.v 2))])], 1, [], (.atm (.v 0)), false, []⟩
def sg37 : Sig := ⟨71, 3, [], [(.agg [(.atm (.v 0)), (.atm (.v 1)), (.atm (.v 2))])], 1, [], (.atm (.v 0)), false, []⟩
def sg38 : Sig := ⟨72, 3, [], [(.agg [(.atm (.v 0)), (.atm (.v 1)), (.atm (.v 2))]), (.atm (.c (fnD 73)))], 1, [], (.atm (.v 0)), false, []⟩
def sg39 : Sig := ⟨72, 3, [], [(.agg [(.atm (.v 0)), (.atm (.v 1)), (.atm (.v 2))]), (.atm (.c (fnD 74)))], 1, [], (.atm (.v 0)), false, []⟩
def sg40 : Sig := ⟨60, 1, [], [(.atm (.v 0))], 1, [], (.atm (.v 0)), false, []⟩
def sg41 : Sig := ⟨79, 7, [⟨false, false, 9, 1, (.c (.sl [])), [[(.atm (.v 3))]]⟩, ⟨false, false, 33, 3, (.c (.sl [])), [[(.atm (.v 4)), (.atm (.v 5)), (.atm (.v 6))]]⟩, ⟨false, false, 97, 1, (.c (.sl [])), [[(.atm (.c (fnD 78)))]]⟩], [(.agg [(.atm (.v 0)), (.atm (.v 1)), (.atm (.v 2))]), (.clo 80 [] [(.ptr 0 0 0), (.ptr 1 0 0), (.ptr 2 0 0)])], 7, [⟨false, false, 9, 1, (.c (.sl [])), [[(.atm (.v 3))]]⟩, ⟨false, false, 33, 3, (.c (.sl [])), [[(.atm (.v 4)), (.atm (.v 5)), (.atm (.v 6))]]⟩, ⟨false, false, 97, 1, (.c (.sl [])), [[(.atm (.c (fnD 78)))]]⟩], (.agg [(.atm (.v 0)), (.atm (.v 1)), (.atm (.v 2))]), true, []⟩
def sg42 : Sig := ⟨82, 2, [], [(.atm (.v 0)), (.atm (.v 1))], 1, [], (.atm (.v 0)), false, []⟩
def sg43 : Sig := ⟨83, 1, [], [(.atm (.v 0))], 1, [], (.atm (.v 0)), false, []⟩
def sg44 : Sig := ⟨84, 1, [], [(.atm (.v 0))], 1, [], (.atm (.v 0)), false, []⟩
def sg45 : Sig := ⟨97, 1, [], [(.atm (.v 0))], 2, [], (.tup [(.atm (.v 0)), (.atm (.v 1))]), false, []⟩
def sg46 : Sig := ⟨98, 7, [], [(.atm (.v 0)), (.agg [(.atm (.v 1)), (.atm (.v 2)), (.atm (.v 3))]), (.agg [(.atm (.v 4)), (.atm (.v 5)), (.atm (.v 6))])], 3, [], (.agg [(.atm (.v 0)), (.atm (.v 1)), (.atm (.v 2))]), true, []⟩
def sg47 : Sig := ⟨85, 1, [], [(.atm (.v 0))], 1, [], (.atm (.v 0)), false, []⟩
def sg48 : Sig := ⟨16, 1, [], [(.atm (.v 0))], 1, [], (.atm (.v 0)), false, []⟩
def sg49 : Sig := ⟨99, 3, [], [(.atm (.v 0)), (.atm (.v 1)), (.atm (.v 2))], 1, [], (.atm (.v 0)), false, []⟩
def sg50 : Sig := ⟨100, 7, [], [(.atm (.v 0)), (.agg [(.atm (.v 1)), (.atm (.v 2)), (.atm (.v 3))]), (.agg [(.atm (.v 4)), (.atm (.v 5)), (.atm (.v 6))])], 3, [], (.agg [(.atm (.v 0)), (.atm (.v 1)), (.atm (.v 2))]), true, []⟩
def sg51 : Sig := ⟨101, 4, [⟨false, false, 108, 4, (.c (.sl [])), [[(.atm (.v 0)), (.atm (.v 1)), (.atm (.v 2)), (.atm (.v 3))]]⟩], [(.ptr 0 0 0)], 7, [⟨false, false, 108, 4, (.c (.sl [])), [[(.atm (.v 3)), (.atm (.v 4)), (.atm (.v 5)), (.atm (.v 6))]]⟩], (.agg [(.atm (.v 0)), (.atm (.v 1)), (.atm (.v 2))]), true, []⟩
def sg52 : Sig := ⟨102, 5, [⟨false, false, 108, 4, (.c (.sl [])), [[(.atm (.v 1)), (.atm (.v 2)), (.atm (.v 3)), (.atm (.v 4))]]⟩], [(.ptr 0 0 0), (.atm (.v 0))], 5, [⟨false, false, 108, 4, (.c (.sl [])), [[(.atm (.v 1)), (.atm (.v 2)), (.atm (.v 3)), (.atm (.v 4))]]⟩], (.atm (.v 0)), false, []⟩
def sg53 : Sig := ⟨103, 4, [⟨false, false, 108, 4, (.c (.sl [])), [[(.atm (.v 0)), (.atm (.v 1)), (.atm (.v 2)), (.atm (.v 3))]]⟩], [(.ptr 0 0 0)], 7, [⟨false, false, 108, 4, (.c (.sl [])), [[(.atm (.v 3)), (.atm (.v 4)), (.atm (.v 5)), (.atm (.v 6))]]⟩], (.agg [(.atm (.v 0)), (.atm (.v 1)), (.atm (.v 2))]), true, []⟩
def sg54 : Sig := ⟨73, 3, [], [(.agg [(.atm (.v 0)), (.atm (.v 1)), (.atm (.v 2))])], 1, [], (.atm (.v 0)), false, []⟩
def sg55 : Sig := ⟨74, 3, [], [(.agg [(.atm (.v 0)), (.atm (.v 1)), (.atm (.v 2))])], 1, [], (.atm (.v 0)), false, []⟩
def sg56 : Sig := ⟨80, 7, [⟨false, false, 9, 1, (.c (.sl [])), [[(.atm (.v 3))]]⟩, ⟨false, false, 33, 3, (.c (.sl [])), [[(.atm (.v 4)), (.atm (.v 5)), (.atm (.v 6))]]⟩, ⟨false, false, 97, 1, (.c (.sl [])), [[(.atm (.c (fnD 78)))]]⟩], [(.agg [(.atm (.v 0)), (.atm (.v 1)), (.atm (.v 2))]), (.ptr 0 0 0), (.ptr 1 0 0), (.ptr 2 0 0)], 8, [⟨false, false, 9, 1, (.c (.sl [])), [[(.atm (.v 4))]]⟩, ⟨false, false, 33, 3, (.c (.sl [])), [[(.atm (.v 5)), (.atm (.v 6)), (.atm (.v 7))]]⟩, ⟨false, false, 97, 1, (.c (.sl [])), [[(.atm (.c (fnD 78)))]]⟩], (.tup [(.agg [(.atm (.v 0)), (.atm (.v 1)), (.atm (.v 2))]), (.atm (.v 3))]), true, []⟩
def sg57 : Sig := ⟨48, 1, [], [(.atm (.v 0))], 1, [], (.atm (.v 0)), false, []⟩
def sg58 : Sig := ⟨87, 2, [], [(.atm (.v 0)), (.atm (.v 1))], 1, [], (.atm (.v 0)), false, []⟩
def sg59 : Sig := ⟨112, 4, [⟨false, false, 108, 4, (.c (.sl [])), [[(.atm (.v 0)), (.atm (.v 1)), (.atm (.v 2)), (.atm (.v 3))]]⟩], [(.ptr 0 0 0)], 7, [⟨false, false, 108, 4, (.c (.sl [])), [[(.atm (.v 3)), (.atm (.v 4)), (.atm (.v 5)), (.atm (.v 6))]]⟩], (.agg [(.atm (.v 0)), (.atm (.v 1)), (.atm (.v 2))]), true, []⟩
def sg60 : Sig := ⟨113, 4, [⟨false, false, 108, 4, (.c (.sl [])), [[(.atm (.v 0)), (.atm (.v 1)), (.atm (.v 2)), (.atm (.v 3))]]⟩], [(.ptr 0 0 0)], 7, [⟨false, false, 108, 4, (.c (.sl [])), [[(.atm (.v 3)), (.atm (.v 4)), (.atm (.v 5)), (.atm (.v 6))]]⟩], (.agg [(.atm (.v 0)), (.atm (.v 1)), (.atm (.v 2))]), false, []⟩
def sg61 : Sig := ⟨81, 3, [], [(.agg [(.atm (.v 0)), (.atm (.v 1)), (.atm (.v 2))])], 1, [], (.atm (.v 0)), false, []⟩
def sg62 : Sig := ⟨79, 3, [], [(.agg [(.atm (.v 0)), (.atm (.v 1)), (.atm (.v 2))]), (.atm (.c (fnD 78)))], 3, [], (.agg [(.atm (.v 0)), (.atm (.v 1)), (.atm (.v 2))]), true, []⟩
def sg63 : Sig := ⟨117, 4, [⟨false, false, 108, 4, (.c (.sl [])), [[(.atm (.v 0)), (.atm (.v 1)), (.atm (.v 2)), (.atm (.v 3))]]⟩], [(.ptr 0 0 0)], 7, [⟨false, false, 108, 4, (.c (.sl [])), [[(.atm (.v 3)), (.atm (.v 4)), (.atm (.v 5)), (.atm (.v 6))]]⟩], (.agg [(.atm (.v 0)), (.atm (.v 1)), (.atm (.v 2))]), true, []⟩
def sg64 : Sig := ⟨118, 1, [], [(.atm (.v 0))], 1, [], (.atm (.v 0)), false, []⟩
def sg65 : Sig := ⟨78, 3, [], [(.agg [(.atm (.v 0)), (.atm (.v 1)), (.atm (.v 2))])], 4, [], (.tup [(.agg [(.atm (.v 0)), (.atm (.v 1)), (.atm (.v 2))]), (.atm (.v 3))]), true, []⟩
def sg66 : Sig := ⟨131, 6, [⟨false, false, 108, 4, (.c (.sl [])), [[(.atm (.v 2)), (.atm (.v 3)), (.atm (.v 4)), (.atm (.v 5))]]⟩], [(.ptr 0 0 0), (.atm (.v 0)), (.atm (.v 1)), (.clo 132 [(.ptr 0 0 0)] [])], 7, [⟨false, false, 108, 4, (.c (.sl [])), [[(.atm (.v 3)), (.atm (.v 4)), (.atm (.v 5)), (.atm (.v 6))]]⟩], (.agg [(.atm (.v 0)), (.atm (.v 1)), (.atm (.v 2))]), true, []⟩
def sg67 : Sig := ⟨132, 4, [⟨false, false, 108, 4, (.c (.sl [])), [[(.atm (.v 0)), (.atm (.v 1)), (.atm (.v 2)), (.atm (.v 3))]]⟩], [(.ptr 0 0 0)], 7, [⟨false, false, 108, 4, (.c (.sl [])), [[(.atm (.v 3)), (.atm (.v 4)), (.atm (.v 5)), (.atm (.v 6))]]⟩], (.agg [(.atm (.v 0)), (.atm (.v 1)), (.atm (.v 2))]), true, []⟩
def sg68 : Sig := ⟨131, 6, [⟨false, false, 108, 4, (.c (.sl [])), [[(.atm (.v 2)), (.atm (.v 3)), (.atm (.v 4)), (.atm (.v 5))]]⟩], [(.ptr 0 0 0), (.atm (.v 0)), (.atm (.v 1)), (.clo 139 [(.ptr 0 0 0)] [])], 7, [⟨false, false, 108, 4, (.c (.sl [])), [[(.atm (.v 3)), (.atm (.v 4)), (.atm (.v 5)), (.atm (.v 6))]]⟩], (.agg [(.atm (.v 0)), (.atm (.v 1)), (.atm (.v 2))]), true, []⟩
def sg69 : Sig := ⟨139, 4, [⟨false, false, 108, 4, (.c (.sl [])), [[(.atm (.v 0)), (.atm (.v 1)), (.atm (.v 2)), (.atm (.v 3))]]⟩], [(.ptr 0 0 0)], 7, [⟨false, false, 108, 4, (.c (.sl [])), [[(.atm (.v 3)), (.atm (.v 4)), (.atm (.v 5)), (.atm (.v 6))]]⟩], (.agg [(.atm (.v 0)), (.atm (.v 1)), (.atm (.v 2))]), true, []⟩
def sigs : List Sig := [sg0, sg1, sg2, sg3, sg4, sg5, sg6, sg7, sg8, sg9, sg10, sg11, sg12, sg13, sg14, sg15, sg16, sg17, sg18, sg19, sg20, sg21, sg22, sg23, sg24, sg25, sg26, sg27, sg28, sg29, sg30, sg31, sg32, sg33, sg34, sg35, sg36, sg37, sg38, sg39, sg40, sg41, sg42, sg43, sg44, sg45, sg46, sg47, sg48, sg49, sg50, sg51, sg52, sg53, sg54, sg55, sg56, sg57, sg58, sg59, sg60, sg61, sg62, sg63, sg64, sg65, sg66, sg67, sg68, sg69]
def an0 : Ann := (.s none .z (.s none .z (.s none .z (.s none (.s none .z (.b (.l ⟨3, [(0, .junk), (2, .junk), (6, .junk), (16, .junk), (17, .junk), (18, .junk), (19, .junk), (20, .junk), (21, .junk), (22, .junk), (23, .junk), (24, .junk), (25, .junk), (26, .junk), (27, .junk), (30, (.atm (.v 0)))], [(0, ⟨false, false, 67, 2, (.c (.sl [])), [[(.atm (.v 1)), (.atm (.v 2))]]⟩)], 4, []⟩ (.s none .z (.s none .z (.s none (.b (.s none .z (.s none .z (.b (.l ⟨1, [(31, .junk), (32, .junk), (33, .junk), (34, .junk), (35, .junk), (36, .junk), (39, (.atm (.v 0)))], [], 5, []⟩ (.s none .z (.s none .z (.s none (.b (.s none .z (.s none .z (.s none .z (.s (some ⟨1, [(11, .junk), (12, .junk), (13, .junk), (14, .junk), (15, .junk), (40, .junk), (41, .junk), (42, .junk), (43, .junk), (44, .junk), (45, .junk), (46, .junk), (47, .junk), (48, .junk), (49, .junk), (50, .junk), (51, .junk), (52, .junk), (53, .junk), (54, .junk), (63, (.atm (.v 0)))], [], 7, []⟩) .z .z))))) .z)))))))) .z)))))) .z))))
def ir0p0 : IR :=
 (.ite (.v 38)
  (.ret [(.c (.bool false))])
 (.op (.bin .add false) [(.v 27), (.c (.int .i64 1))]
 (.jump 1 [(.v 39)])))
def ir0p1 : IR :=
 (.op (.bin .lss false) [(.v 27), (.v 26)]
 (.ite (.v 28)
  (.op .chk [(.v 25), (.v 27)]
  (.op (.get 0 1) [(.v 25), (.v 27)]
  (.call 11 4 false [] [(.v 21), (.v 29)]
  (.call 12 4 false [] [(.v 21), (.v 29)]
  (.letj 1
   (.op (.bin .neq false) [(.v 33), (.v 37)]
   (.ite (.v 38)
    (.jump 2 [(.c (.bool true))])
   (.call 13 1 false [] [(.v 30), (.v 31), (.v 32), (.v 34), (.v 35), (.v 36)]
   (.op (.un .not) [(.v 39)]
   (.jump 2 [(.v 40)])))))
  ir0p0)))))
 (.op (.bin .add false) [(.v 17), (.c (.int .i64 1))]
 (.jump 0 [(.v 29), (.v 23), (.v 24)]))))
def ir0p2 : IR :=
 (.op (.bin .lss false) [(.v 17), (.v 16)]
 (.ite (.v 20)
  (.op .chk [(.v 15), (.v 17)]
  (.op (.get 0 1) [(.v 15), (.v 17)]
  (.call 10 3 false [] [(.v 18), (.v 19)]
  (.op (.mk 1 2) [(.v 1), (.v 22)]
  (.op .lenL [(.v 25)]
  (.loop 1 [(.c (.int .i64 0))] ir0p1))))))
 (.call 14 1 false [] []
 (.ret [(.v 21)]))))
def ir0 : IR :=
 (.call 5 1 false [] [(.v 0)]
 (.op (.un .not) [(.v 3)]
 (.ite (.v 4)
  (.ret [(.c (.bool true))])
 (.call 6 2 false [] [(.v 2)]
 (.call 7 3 false [] [(.c (.int .i64 7)), (.v 5), (.v 6)]
 (.call 8 1 false [0] [(.v 7)]
 (.call 8 1 false [0] [(.c (.int .i64 6))]
 (.call 9 3 false [] [(.v 8), (.v 9)]
 (.op (.mk 1 4) [(.v 0), (.v 10), (.v 11), (.v 12)]
 (.op .lenL [(.v 15)]
 (.loop 3 [(.c (.int .i64 0)), (.v 13), (.v 14)] ir0p2)))))))))))
theorem rd0 : readFn T SG sigs 3000 sg0 Tryd.f7 an0 = some ir0 := by kernel_rfl
def an1 : Ann := (.s none .z (.s none .z (.s none .z (.s none .z (.s none .z (.s none (.s (some ⟨1, [(0, .junk), (1, .junk), (4, .junk), (6, .junk), (7, .junk), (8, .junk), (9, .junk), (10, .junk), (24, .junk), (25, .junk), (26, .junk), (27, .junk), (28, .junk), (29, .junk), (30, .junk), (31, .junk), (32, .junk), (33, .junk), (34, .junk), (35, .junk), (36, .junk), (37, .junk), (38, .junk), (39, .junk), (40, .junk), (59, (.atm (.v 0)))], [], 3, []⟩) .z .z) .z))))))
def ir1p0 : IR :=
 (.ite (.v 14)
  (.ret [(.c (.bool false))])
 (.call 8 1 false [0] [(.c (.int .i64 4))]
 (.call 18 5 false [] [(.c (.int .i64 4)), (.c (.int .i64 3)), (.v 5), (.v 6)]
 (.call 18 5 false [] [(.c (.int .i64 4)), (.c (.int .i64 2)), (.v 19), (.v 20)]
 (.call 15 2 true [] [(.v 15), (.v 16), (.v 17), (.v 18)]
 (.call 15 2 true [] [(.v 15), (.v 21), (.v 22), (.v 23)]
 (.call 11 4 false [] [(.v 15), (.v 26)]
 (.call 11 4 false [] [(.v 15), (.v 28)]
 (.call 19 2 false [] [(.v 30), (.v 31), (.v 32)]
 (.op (.bin .eql false) [(.v 27), (.c (.int .i64 0))]
 (.ite (.v 40)
  (.op (.bin .eql false) [(.v 29), (.c (.int .i64 0))]
  (.ite (.v 41)
   (.op (.bin .eql false) [(.v 33), (.c (.int .i64 0))]
   (.ite (.v 42)
    (.op (.bin .eql false) [(.v 37), (.c (.int .i64 0))]
    (.ite (.v 43)
     (.op (.bin .eql false) [(.v 39), (.c (.int .i64 0))]
     (.ite (.v 44)
      (.op .lenS [(.v 38)]
      (.op (.bin .gtr false) [(.v 45), (.c (.int .i64 0))]
      (.ite (.v 46)
       (.op (.bin .eql false) [(.v 26), (.v 28)]
       (.call 13 1 false [] [(.v 30), (.v 31), (.v 32), (.v 34), (.v 35), (.v 36)]
       (.op (.bin .eql true) [(.v 47), (.v 48)]
       (.ite (.v 49)
        (.call 14 1 false [] []
        (.ret [(.v 50)]))
       (.ret [(.c (.bool false))])))))
      (.ret [(.c (.bool false))]))))
     (.ret [(.c (.bool false))])))
    (.ret [(.c (.bool false))])))
   (.ret [(.c (.bool false))])))
  (.ret [(.c (.bool false))])))
 (.ret [(.c (.bool false))]))))))))))))
def ir1 : IR :=
 (.call 6 2 false [] [(.v 1)]
 (.call 7 3 false [] [(.c (.int .i64 7)), (.v 2), (.v 3)]
 (.call 8 1 false [0] [(.v 4)]
 (.call 11 4 false [] [(.v 7), (.v 0)]
 (.call 15 2 true [] [(.v 7), (.v 8), (.v 9), (.v 10)]
 (.letj 1
  (.op (.bin .neq false) [(.v 11), (.c (.int .i64 0))]
  (.ite (.v 14)
   (.jump 0 [(.c (.bool true))])
  (.op (.bin .neq false) [(.v 13), (.c (.int .i64 0))]
  (.ite (.v 15)
   (.jump 0 [(.c (.bool true))])
  (.call 16 1 true [] [(.v 7)]
  (.op (.bin .and false) [(.v 0), (.v 16)]
  (.op (.bin .neq false) [(.v 12), (.v 17)]
  (.ite (.v 18)
   (.jump 0 [(.c (.bool true))])
  (.call 17 1 false [] [(.v 8), (.v 9), (.v 10)]
  (.op (.bin .neq false) [(.v 19), (.c (.int .i64 0))]
  (.jump 0 [(.v 20)])))))))))))
 ir1p0))))))
theorem rd1 : readFn T SG sigs 3000 sg1 Tryd.f8 an1 = some ir1 := by kernel_rfl
def an2 : Ann := (.s none .z (.s none .z (.s none .z (.s none .z (.s none .z (.s none .z (.s none .z (.s none .z (.s none (.s (some ⟨1, [(0, .junk), (2, .junk), (3, .junk), (9, .junk), (11, .junk), (25, .junk), (26, .junk), (27, .junk), (28, .junk), (29, .junk), (30, .junk), (31, .junk), (32, .junk), (33, .junk), (34, .junk), (35, .junk), (36, .junk), (37, .junk), (38, .junk), (39, .junk), (40, .junk), (41, .junk), (42, .junk), (43, .junk), (44, .junk), (45, .junk), (46, .junk), (47, .junk), (48, .junk), (54, (.atm (.v 0)))], [], 5, []⟩) .z .z) (.s none .z (.s none .z (.s none .z (.s none .z (.s none .z (.s none .z (.s none (.s (some ⟨1, [(4, .junk), (5, .junk), (6, .junk), (7, .junk), (14, .junk), (16, .junk), (18, .junk), (20, .junk), (22, .junk), (24, .junk), (54, .junk), (55, .junk), (56, .junk), (57, .junk), (58, .junk), (59, .junk), (60, .junk), (61, .junk), (62, .junk), (63, .junk), (64, .junk), (65, .junk), (66, .junk), (67, .junk), (68, .junk), (69, .junk), (70, .junk), (71, .junk), (72, .junk), (73, .junk), (74, .junk), (75, .junk), (76, .junk), (77, .junk), (78, .junk), (79, .junk), (80, .junk), (81, .junk), (82, .junk), (83, .junk), (84, .junk), (85, .junk), (86, .junk), (87, .junk), (88, .junk), (89, .junk), (90, .junk), (91, .junk), (92, .junk), (93, .junk), (94, .junk), (95, .junk), (96, .junk), (97, .junk), (119, (.atm (.v 0)))], [], 5, []⟩) .z .z) .z))))))))))))))))
def ir2p0 : IR :=
 (.ite (.v 34)
  (.ret [(.c (.bool false))])
 (.op (.bin .andNot false) [(.v 19), (.v 15)]
 (.op (.bin .eql false) [(.v 22), (.v 35)]
 (.ite (.v 36)
  (.op (.bin .and false) [(.v 15), (.v 17)]
  (.op (.bin .eql false) [(.v 24), (.v 37)]
  (.ite (.v 38)
   (.op (.bin .or false) [(.v 15), (.v 17)]
   (.op (.bin .eql false) [(.v 26), (.v 39)]
   (.ite (.v 40)
    (.op (.bin .andNot false) [(.v 19), (.v 15)]
    (.op (.bin .or false) [(.v 41), (.v 17)]
    (.op (.bin .eql false) [(.v 28), (.v 42)]
    (.ite (.v 43)
     (.op (.bin .xor false) [(.v 15), (.v 17)]
     (.op (.bin .andNot false) [(.v 19), (.v 44)]
     (.op (.bin .eql false) [(.v 30), (.v 45)]
     (.ite (.v 46)
      (.op (.bin .andNot false) [(.v 15), (.v 17)]
      (.op (.bin .eql false) [(.v 47), (.c (.int .u64 0))]
      (.op (.bin .eql true) [(.v 32), (.v 48)]
      (.ite (.v 49)
       (.call 21 1 false [] [(.v 15)]
       (.call 21 1 false [] [(.v 22)]
       (.op (.bin .add false) [(.v 50), (.v 51)]
       (.op (.bin .eql false) [(.v 52), (.c (.int .i64 32))]
       (.ite (.v 53)
        (.call 14 1 false [] []
        (.ret [(.v 54)]))
       (.ret [(.c (.bool false))]))))))
      (.ret [(.c (.bool false))])))))
     (.ret [(.c (.bool false))])))))
    (.ret [(.c (.bool false))])))))
   (.ret [(.c (.bool false))]))))
  (.ret [(.c (.bool false))]))))
 (.ret [(.c (.bool false))])))))
def ir2p1 : IR :=
 (.ite (.v 20)
  (.ret [(.c (.bool false))])
 (.op (.subL 3) [(.v 14), (.c (.int .i64 0)), (.c (.int .i64 1))]
 (.call 15 2 true [] [(.v 3), (.c (.int .i64 4)), (.c (.str [])), (.v 21)]
 (.call 15 2 true [] [(.v 3), (.c (.int .i64 5)), (.c (.str [])), (.v 14)]
 (.call 15 2 true [] [(.v 3), (.c (.int .i64 6)), (.c (.str [])), (.v 14)]
 (.call 15 2 true [] [(.v 3), (.c (.int .i64 7)), (.c (.str [])), (.v 14)]
 (.call 15 2 true [] [(.v 3), (.c (.int .i64 8)), (.c (.str [])), (.v 14)]
 (.call 20 2 true [] [(.v 3), (.v 4), (.v 5), (.v 6), (.v 9), (.v 10), (.v 11)]
 (.letj 1
  (.op (.bin .neq false) [(.v 23), (.c (.int .i64 0))]
  (.ite (.v 34)
   (.jump 0 [(.c (.bool true))])
  (.op (.bin .neq false) [(.v 25), (.c (.int .i64 0))]
  (.ite (.v 35)
   (.jump 0 [(.c (.bool true))])
  (.op (.bin .neq false) [(.v 27), (.c (.int .i64 0))]
  (.ite (.v 36)
   (.jump 0 [(.c (.bool true))])
  (.op (.bin .neq false) [(.v 29), (.c (.int .i64 0))]
  (.ite (.v 37)
   (.jump 0 [(.c (.bool true))])
  (.op (.bin .neq false) [(.v 31), (.c (.int .i64 0))]
  (.ite (.v 38)
   (.jump 0 [(.c (.bool true))])
  (.op (.bin .neq false) [(.v 33), (.c (.int .i64 0))]
  (.jump 0 [(.v 39)]))))))))))))
 ir2p0)))))))))
def ir2 : IR :=
 (.call 6 2 false [] [(.v 0)]
 (.call 8 1 false [0] [(.c (.int .i64 5))]
 (.call 18 5 false [] [(.c (.int .i64 5)), (.c (.int .i64 3)), (.v 1), (.v 2)]
 (.call 18 5 false [] [(.c (.int .i64 5)), (.c (.int .i64 3)), (.v 7), (.v 8)]
 (.op (.mk 3 2) [(.v 4), (.v 5), (.v 6), (.v 9), (.v 10), (.v 11)]
 (.call 15 2 true [] [(.v 3), (.v 4), (.v 5), (.v 6)]
 (.call 15 2 true [] [(.v 3), (.v 9), (.v 10), (.v 11)]
 (.call 16 1 true [] [(.v 3)]
 (.letj 1
  (.op (.bin .neq false) [(.v 16), (.c (.int .i64 0))]
  (.ite (.v 20)
   (.jump 0 [(.c (.bool true))])
  (.op (.bin .neq false) [(.v 18), (.c (.int .i64 0))]
  (.jump 0 [(.v 21)]))))
 ir2p1)))))))))
theorem rd2 : readFn T SG sigs 3000 sg2 Tryd.f9 an2 = some ir2 := by kernel_rfl
def an3 : Ann := (.s none .z (.s none .z (.s none .z (.s none .z (.s none .z (.s none .z (.s none .z (.s none .z (.s none .z (.s none (.s (some ⟨1, [(0, .junk), (2, .junk), (3, .junk), (4, .junk), (5, .junk), (6, .junk), (7, .junk), (9, .junk), (11, .junk), (13, .junk), (15, .junk), (17, .junk), (18, .junk), (19, .junk), (20, .junk), (21, .junk), (22, .junk), (23, .junk), (24, .junk), (25, .junk), (26, .junk), (27, .junk), (28, .junk), (29, .junk), (30, .junk), (31, .junk), (32, .junk), (33, .junk), (34, .junk), (35, .junk), (36, .junk), (37, .junk), (38, .junk), (39, .junk), (40, .junk), (41, .junk), (42, .junk), (43, .junk), (44, .junk), (45, .junk), (46, .junk), (47, .junk), (48, .junk), (49, .junk), (50, .junk), (51, .junk), (52, .junk), (53, .junk), (54, .junk), (55, .junk), (56, .junk), (57, .junk), (58, .junk), (59, .junk), (60, .junk), (61, .junk), (62, .junk), (63, .junk), (64, .junk), (65, .junk), (83, (.atm (.v 0)))], [], 7, []⟩) .z .z) .z))))))))))
def ir3p0 : IR :=
 (.ite (.v 31)
  (.ret [(.c (.bool false))])
 (.ite (.v 25)
  (.ite (.v 23)
   (.op (.bin .eql false) [(.v 29), (.c (.int .u64 0))]
   (.op (.bin .eql true) [(.v 19), (.v 32)]
   (.ite (.v 33)
    (.call 14 1 false [] []
    (.ret [(.v 34)]))
   (.ret [(.c (.bool false))]))))
  (.op (.un .not) [(.v 19)]
  (.ite (.v 32)
   (.op (.bin .eql false) [(.v 29), (.c (.int .u64 0))]
   (.op (.bin .eql true) [(.v 19), (.v 33)]
   (.ite (.v 34)
    (.call 14 1 false [] []
    (.ret [(.v 35)]))
   (.ret [(.c (.bool false))]))))
  (.op (.un .not) [(.v 21)]
  (.ite (.v 33)
   (.op (.bin .eql false) [(.v 29), (.c (.int .u64 0))]
   (.op (.bin .eql true) [(.v 19), (.v 34)]
   (.ite (.v 35)
    (.call 14 1 false [] []
    (.ret [(.v 36)]))
   (.ret [(.c (.bool false))]))))
  (.ret [(.c (.bool false))]))))))
 (.ret [(.c (.bool false))])))
def ir3 : IR :=
 (.call 6 2 false [] [(.v 0)]
 (.call 8 1 false [0] [(.c (.int .i64 4))]
 (.call 18 5 false [] [(.c (.int .i64 4)), (.c (.int .i64 3)), (.v 1), (.v 2)]
 (.call 18 5 false [] [(.c (.int .i64 4)), (.c (.int .i64 3)), (.v 7), (.v 8)]
 (.call 18 5 false [] [(.c (.int .i64 4)), (.c (.int .i64 2)), (.v 12), (.v 13)]
 (.call 20 2 true [] [(.v 3), (.v 4), (.v 5), (.v 6), (.v 9), (.v 10), (.v 11)]
 (.call 20 2 true [] [(.v 3), (.v 9), (.v 10), (.v 11), (.v 14), (.v 15), (.v 16)]
 (.call 20 2 true [] [(.v 3), (.v 4), (.v 5), (.v 6), (.v 14), (.v 15), (.v 16)]
 (.call 20 2 true [] [(.v 3), (.v 4), (.v 5), (.v 6), (.v 4), (.v 5), (.v 6)]
 (.op (.mk 3 1) [(.v 9), (.v 10), (.v 11)]
 (.op (.mk 3 2) [(.v 4), (.v 5), (.v 6), (.c (.int .i64 4)), (.c (.str [])), (.v 27)]
 (.call 15 2 true [] [(.v 3), (.c (.int .i64 5)), (.c (.str [])), (.v 28)]
 (.letj 1
  (.op (.bin .neq false) [(.v 20), (.c (.int .i64 0))]
  (.ite (.v 31)
   (.jump 0 [(.c (.bool true))])
  (.op (.bin .neq false) [(.v 22), (.c (.int .i64 0))]
  (.ite (.v 32)
   (.jump 0 [(.c (.bool true))])
  (.op (.bin .neq false) [(.v 24), (.c (.int .i64 0))]
  (.ite (.v 33)
   (.jump 0 [(.c (.bool true))])
  (.op (.bin .neq false) [(.v 26), (.c (.int .i64 0))]
  (.ite (.v 34)
   (.jump 0 [(.c (.bool true))])
  (.op (.bin .neq false) [(.v 30), (.c (.int .i64 0))]
  (.jump 0 [(.v 35)]))))))))))
 ir3p0)))))))))))))
theorem rd3 : readFn T SG sigs 3000 sg3 Tryd.f10 an3 = some ir3 := by kernel_rfl
def an4 : Ann := .z
def ir4 : IR :=
 (.call 6 2 false [] [(.v 0)]
 (.call 8 1 false [0] [(.c (.int .i64 4))]
 (.call 18 5 false [] [(.c (.int .i64 4)), (.c (.int .i64 3)), (.v 1), (.v 2)]
 (.call 7 3 false [] [(.c (.int .i64 4)), (.v 7), (.v 8)]
 (.op .chk [(.v 3), (.v 9)]
 (.op (.get 0 1) [(.v 3), (.v 9)]
 (.call 15 2 true [] [(.v 3), (.v 4), (.v 5), (.v 6)]
 (.call 22 3 false [] [(.v 4), (.v 5), (.v 6), (.v 12), (.c (.int .i64 1)), (.c (.str [])), (.c (.sl []))]
 (.call 22 3 false [] [(.v 4), (.v 5), (.v 6), (.v 12), (.c (.int .i64 2)), (.c (.str [])), (.c (.sl []))]
 (.op (.mk 3 2) [(.v 15), (.v 16), (.v 17), (.v 18), (.v 19), (.v 20)]
 (.call 15 2 true [] [(.v 3), (.c (.int .i64 6)), (.c (.str [])), (.v 21)]
 (.call 23 1 true [] [(.v 3), (.v 13), (.v 12)]
 (.op (.bin .eql false) [(.v 14), (.c (.int .i64 0))]
 (.ite (.v 25)
  (.op (.bin .eql false) [(.v 23), (.c (.int .i64 0))]
  (.ite (.v 26)
   (.op (.bin .eql false) [(.v 24), (.v 22)]
   (.ite (.v 27)
    (.call 23 1 true [] [(.v 3), (.v 24), (.v 12)]
    (.op (.bin .eql false) [(.v 28), (.v 24)]
    (.ite (.v 29)
     (.op (.bin .andNot false) [(.v 13), (.v 24)]
     (.op (.bin .eql false) [(.v 30), (.c (.int .u64 0))]
     (.ite (.v 31)
      (.call 14 1 false [] []
      (.ret [(.v 32)]))
     (.ret [(.c (.bool false))]))))
    (.ret [(.c (.bool false))]))))
   (.ret [(.c (.bool false))])))
  (.ret [(.c (.bool false))])))
 (.ret [(.c (.bool false))])))))))))))))))
theorem rd4 : readFn T SG sigs 3000 sg4 Tryd.f11 an4 = some ir4 := by kernel_rfl
def an5 : Ann := (.s none .z (.s none (.s none .z (.b (.l ⟨1, [(2, .junk), (4, .junk), (6, (.atm (.v 0)))], [], 0, []⟩ .z))) .z))
def ir5p0 : IR :=
 (.op (.bin .lss false) [(.v 2), (.v 1)]
 (.ite (.v 3)
  (.op (.row 1) [(.v 0), (.v 2)]
  (.op .lenS [(.v 4)]
  (.op (.bin .gtr false) [(.v 5), (.c (.int .i64 60))]
  (.ite (.v 6)
   (.ret [(.c (.bool false))])
  (.op (.bin .add false) [(.v 2), (.c (.int .i64 1))]
  (.jump 0 [(.v 7)]))))))
 (.op .lenL [(.v 0)]
 (.op (.bin .leq false) [(.v 4), (.c (.int .i64 12))]
 (.ret [(.v 5)])))))
def ir5 : IR :=
 (.op .lenL [(.v 0)]
 (.loop 1 [(.c (.int .i64 0))] ir5p0))
theorem rd5 : readFn T SG sigs 3000 sg5 Tryd.f27 an5 = some ir5 := by kernel_rfl
def an6 : Ann := .z
def ir6 : IR :=
 (.op .lenL [(.v 0)]
 (.op .min [(.v 1), (.c (.int .i64 2000))]
 (.op (.subL 1) [(.v 0), (.c (.int .i64 0)), (.v 2)]
 (.ret [(.v 3), (.c (.int .i64 0))]))))
theorem rd6 : readFn T SG sigs 3000 sg6 Tryd.f13 an6 = some ir6 := by kernel_rfl
def an7 : Ann := .z
def ir7 : IR :=
 (.call 24 3 false [] [(.v 1), (.v 2)]
 (.call 25 1 false [] [(.v 3), (.v 0)]
 (.ret [(.v 6), (.v 4), (.v 5)])))
theorem rd7 : readFn T SG sigs 3000 sg7 Tryd.f23 an7 = some ir7 := by kernel_rfl
def an8 : Ann := (.s none .z (.s none .z (.s none (.s none .z (.b (.l ⟨2, [(2, .junk), (4, (.atm (.v 0)))], [(0, ⟨false, true, 9, 1, (.v 1), []⟩)], 1, [⟨none, 3, 9, 1⟩]⟩ .z))) .z)))
def ir8p0 : IR :=
 (.op (.bin .lss false) [(.v 1), (.v 0)]
 (.ite (.v 3)
  (.op (.bin .add false) [(.c (.int .i64 97)), (.v 1)]
  (.op (.conv .u8) [(.v 4)]
  (.op (.mk 1 1) [(.v 5)]
  (.op .toS [(.v 6)]
  (.op (.mk 1 1) [(.v 7)]
  (.op (.app 1 16) [(.v 2), (.v 8)]
  (.op (.bin .add false) [(.v 1), (.c (.int .i64 1))]
  (.jump 0 [(.v 10), (.v 9)]))))))))
 (.ret [(.v 2)])))
def ir8 : IR :=
 (.loop 2 [(.c (.int .i64 0)), (.c (.sl []))] ir8p0)
theorem rd8 : readFn T SG sigs 3000 sg8 Tryd.f15 an8 = some ir8 := by kernel_rfl
def an9 : Ann := (.s none .z (.s none .z (.s (some ⟨3, [(0, .junk), (2, .junk), (4, .junk), (5, .junk), (6, .junk)], [(0, ⟨false, false, 67, 2, (.c (.sl [])), [[(.atm (.v 0)), (.atm (.v 1))]]⟩), (1, ⟨false, true, 9, 1, (.v 2), []⟩)], 2, []⟩) .z .z)))
def ir9p0 : IR :=
 (.ret [(.v 8), (.v 6), (.v 7)])
def ir9 : IR :=
 (.call 7 3 false [] [(.c (.int .i64 9)), (.v 0), (.v 1)]
 (.call 8 1 false [0] [(.v 2)]
 (.letj 3
  (.op .lenL [(.v 5)]
  (.op (.bin .gtr false) [(.v 6), (.c (.int .i64 0))]
  (.ite (.v 7)
   (.op .lenL [(.v 5)]
   (.call 7 3 false [] [(.v 8), (.v 3), (.v 4)]
   (.op (.mk 1 5) [(.c (.str [97])), (.c (.str [])), (.c (.str [65])), (.c (.str [122, 122])), (.c (.str [98]))]
   (.call 26 3 false [] [(.v 12), (.v 10), (.v 11)]
   (.op .chk [(.v 5), (.v 9)]
   (.op (.set 0 1) [(.v 5), (.v 9), (.v 13)]
   (.jump 0 [(.v 14), (.v 15), (.v 16)])))))))
  (.jump 0 [(.v 3), (.v 4), (.v 5)]))))
 ir9p0)))
theorem rd9 : readFn T SG sigs 3000 sg9 Tryd.f28 an9 = some ir9 := by kernel_rfl
def an10 : Ann := .z
def ir10 : IR :=
 (.call 7 3 false [] [(.c (.int .i64 4)), (.v 0), (.v 1)]
 (.op (.bin .eql false) [(.v 2), (.c (.int .i64 0))]
 (.ite (.v 5)
  (.call 24 3 false [] [(.v 3), (.v 4)]
  (.op (.conv .u64) [(.v 6)]
  (.ret [(.v 9), (.v 7), (.v 8)])))
 (.op (.bin .eql false) [(.v 2), (.c (.int .i64 1))]
 (.ite (.v 6)
  (.call 24 3 false [] [(.v 3), (.v 4)]
  (.op (.conv .u64) [(.v 7)]
  (.call 24 3 false [] [(.v 8), (.v 9)]
  (.op (.conv .u64) [(.v 11)]
  (.op (.bin .and false) [(.v 10), (.v 14)]
  (.ret [(.v 15), (.v 12), (.v 13)]))))))
 (.op (.bin .eql false) [(.v 2), (.c (.int .i64 2))]
 (.ite (.v 7)
  (.call 7 3 false [] [(.c (.int .i64 64)), (.v 3), (.v 4)]
  (.op (.conv .u64) [(.v 8)]
  (.op (.bin .shl false) [(.c (.int .u64 1)), (.v 11)]
  (.call 7 3 false [] [(.c (.int .i64 64)), (.v 9), (.v 10)]
  (.op (.conv .u64) [(.v 13)]
  (.op (.bin .shl false) [(.c (.int .u64 1)), (.v 16)]
  (.op (.bin .or false) [(.v 12), (.v 17)]
  (.ret [(.v 18), (.v 14), (.v 15)]))))))))
 (.call 24 3 false [] [(.v 3), (.v 4)]
 (.op (.conv .u64) [(.v 8)]
 (.op (.bin .mul false) [(.v 11), (.c (.int .u64 11400714819323198485))]
 (.call 24 3 false [] [(.v 9), (.v 10)]
 (.op (.conv .u64) [(.v 13)]
 (.op (.bin .xor false) [(.v 12), (.v 16)]
 (.ret [(.v 17), (.v 14), (.v 15)]))))))))))))))
theorem rd10 : readFn T SG sigs 3000 sg10 Tryd.f17 an10 = some ir10 := by kernel_rfl
def an11 : Ann := .z
def ir11 : IR :=
 (.call 27 1 false [] [(.v 0)]
 (.op (.un .not) [(.v 2)]
 (.ite (.v 3)
  (.ret [(.c (.int .i64 0)), (.c (.str [])), (.c (.sl [])), (.c (.int .i64 1))])
 (.call 16 1 false [] [(.v 0)]
 (.op (.bin .and false) [(.v 1), (.v 4)]
 (.call 28 3 false [] [(.v 0), (.v 5)]
 (.ret [(.v 6), (.v 7), (.v 8), (.c (.int .i64 0))])))))))
theorem rd11 : readFn T SG sigs 3000 sg11 Tryd.f29 an11 = some ir11 := by kernel_rfl
def an12 : Ann := .z
def ir12 : IR :=
 (.call 29 1 false [] [(.v 0)]
 (.op (.un .not) [(.v 2)]
 (.ite (.v 3)
  (.ret [(.c (.int .i64 0)), (.c (.str [])), (.c (.sl [])), (.c (.int .i64 1))])
 (.call 30 3 false [] [(.v 0), (.v 1)]
 (.ret [(.v 4), (.v 5), (.v 6), (.c (.int .i64 0))])))))
theorem rd12 : readFn T SG sigs 3000 sg12 Tryd.f30 an12 = some ir12 := by kernel_rfl
def an13 : Ann := (.s none .z (.s none (.s (some ⟨1, [(0, .junk), (1, .junk), (4, .junk), (26, (.atm (.v 0)))], [], 2, []⟩) .z .z) (.s none (.s none .z (.b (.l ⟨1, [(5, (.atm (.v 0))), (26, .junk)], [], 2, []⟩ .z))) .z)))
def ir13p0 : IR :=
 (.op .lenL [(.v 2)]
 (.op (.bin .lss false) [(.v 7), (.v 8)]
 (.ite (.v 9)
  (.op (.row 3) [(.v 2), (.v 7)]
  (.op (.row 3) [(.v 5), (.v 7)]
  (.call 13 1 false [] [(.v 10), (.v 11), (.v 12), (.v 13), (.v 14), (.v 15)]
  (.op (.un .not) [(.v 16)]
  (.ite (.v 17)
   (.ret [(.c (.bool false))])
  (.op (.bin .add false) [(.v 7), (.c (.int .i64 1))]
  (.jump 0 [(.v 18)])))))))
 (.ret [(.c (.bool true))]))))
def ir13p1 : IR :=
 (.ite (.v 6)
  (.ret [(.c (.bool false))])
 (.loop 1 [(.c (.int .i64 0))] ir13p0))
def ir13 : IR :=
 (.letj 1
  (.op (.bin .neq false) [(.v 0), (.v 3)]
  (.ite (.v 6)
   (.jump 0 [(.c (.bool true))])
  (.op (.bin .neq false) [(.v 1), (.v 4)]
  (.ite (.v 7)
   (.jump 0 [(.c (.bool true))])
  (.op .lenL [(.v 2)]
  (.op .lenL [(.v 5)]
  (.op (.bin .neq false) [(.v 8), (.v 9)]
  (.jump 0 [(.v 10)]))))))))
 ir13p1)
theorem rd13 : readFn T SG sigs 3000 sg13 Tryd.f31 an13 = some ir13 := by kernel_rfl
def an14 : Ann := .z
def ir14 : IR :=
 (.op (.mk 1 2) [(.c (.str [112])), (.c (.str [113]))]
 (.call 31 5 false [] [(.c (.str [112, 32, 45, 62, 32, 113]))]
 (.call 15 2 true [] [(.v 0), (.v 1), (.v 2), (.v 3)]
 (.call 11 4 false [] [(.v 0), (.c (.int .u64 13))]
 (.call 19 2 false [] [(.v 8), (.v 9), (.v 10)]
 (.op (.bin .eql false) [(.v 5), (.c (.int .i64 0))]
 (.ite (.v 14)
  (.op (.bin .eql false) [(.v 7), (.c (.int .i64 0))]
  (.ite (.v 15)
   (.op (.bin .eql false) [(.v 6), (.c (.int .u64 13))]
   (.ite (.v 16)
    (.op (.bin .eql false) [(.v 11), (.c (.int .i64 0))]
    (.ite (.v 17)
     (.op (.bin .eql false) [(.v 13), (.c (.int .i64 0))]
     (.ite (.v 18)
      (.op (.bin .eql false) [(.v 12), (.c (.str [126, 112, 32, 124, 32, 113]))]
      (.ite (.v 19)
       (.call 23 1 true [] [(.v 0), (.c (.int .u64 8)), (.c (.str [113]))]
       (.op (.bin .eql false) [(.v 20), (.c (.int .u64 10))]
       (.ite (.v 21)
        (.call 16 1 true [] [(.v 0)]
        (.op (.bin .eql false) [(.v 22), (.c (.int .u64 15))]
        (.ite (.v 23)
         (.call 21 1 false [] [(.c (.int .u64 13))]
         (.op (.bin .eql false) [(.v 24), (.c (.int .i64 3))]
         (.ret [(.v 25)])))
        (.ret [(.c (.bool false))]))))
       (.ret [(.c (.bool false))]))))
      (.ret [(.c (.bool false))])))
     (.ret [(.c (.bool false))])))
    (.ret [(.c (.bool false))])))
   (.ret [(.c (.bool false))])))
  (.ret [(.c (.bool false))])))
 (.ret [(.c (.bool false))]))))))))
theorem rd14 : readFn T SG sigs 3000 sg14 Tryd.f32 an14 = some ir14 := by kernel_rfl
def an15 : Ann := (.s none .z (.s none .z (.s none .z (.s none (.s none .z (.b (.l ⟨1, [(1, .junk), (4, .junk), (5, .junk), (6, .junk), (9, .junk), (10, .junk), (11, .junk), (12, .junk), (13, .junk), (14, .junk), (15, .junk), (17, .junk), (20, (.atm (.v 0)))], [], 1, []⟩ .z))) .z))))
def ir15p0 : IR :=
 (.op (.bin .lss false) [(.v 10), (.v 9)]
 (.ite (.v 11)
  (.op (.row 1) [(.v 8), (.v 10)]
  (.call 33 1 false [] [(.v 0), (.v 12)]
  (.op (.un .not) [(.v 13)]
  (.ite (.v 14)
   (.ret [(.c (.int .u64 0)), (.c (.int .i64 6))])
  (.op (.bin .add false) [(.v 10), (.c (.int .i64 1))]
  (.jump 0 [(.v 15)]))))))
 (.call 34 1 false [] [(.v 0), (.v 1), (.v 2), (.v 3)]
 (.call 16 1 false [] [(.v 0)]
 (.op (.bin .and false) [(.v 12), (.v 13)]
 (.ret [(.v 14), (.c (.int .i64 0))]))))))
def ir15 : IR :=
 (.call 27 1 false [] [(.v 0)]
 (.op (.un .not) [(.v 4)]
 (.ite (.v 5)
  (.ret [(.c (.int .u64 0)), (.c (.int .i64 1))])
 (.call 17 1 false [] [(.v 1), (.v 2), (.v 3)]
 (.op (.bin .neq false) [(.v 6), (.c (.int .i64 0))]
 (.ite (.v 7)
  (.ret [(.c (.int .u64 0)), (.v 6)])
 (.call 32 1 false [] [(.v 1), (.v 2), (.v 3)]
 (.op .lenL [(.v 8)]
 (.loop 1 [(.c (.int .i64 0))] ir15p0)))))))))
theorem rd15 : readFn T SG sigs 3000 sg15 Tryd.f33 an15 = some ir15 := by kernel_rfl
def an16 : Ann := .z
def ir16 : IR :=
 (.call 27 1 false [] [(.v 0)]
 (.op (.un .not) [(.v 1)]
 (.ite (.v 2)
  (.ret [(.c (.int .u64 0))])
 (.op .lenL [(.v 0)]
 (.call 35 1 false [] [(.v 3)]
 (.ret [(.v 4)]))))))
theorem rd16 : readFn T SG sigs 3000 sg16 Tryd.f34 an16 = some ir16 := by kernel_rfl
def an17 : Ann := (.s none .z (.s none (.b (.s (some ⟨1, [(0, .junk), (2, .junk), (3, (.atm (.v 0)))], [], 1, []⟩) .z .z)) .z))
def ir17p0 : IR :=
 (.ite (.v 3)
  (.ret [(.c (.int .i64 2))])
 (.call 38 1 false [] [(.v 0), (.v 1), (.v 2)]
 (.op (.un .not) [(.v 4)]
 (.ite (.v 5)
  (.ret [(.c (.int .i64 4))])
 (.call 39 1 false [] [(.v 0), (.v 1), (.v 2)]
 (.op (.un .not) [(.v 6)]
 (.ite (.v 7)
  (.ret [(.c (.int .i64 3))])
 (.ret [(.c (.int .i64 0))]))))))))
def ir17 : IR :=
 (.letj 1
  (.call 36 1 false [] [(.v 0), (.v 1), (.v 2)]
  (.op (.bin .gtr false) [(.v 3), (.c (.int .i64 600))]
  (.ite (.v 4)
   (.jump 0 [(.c (.bool true))])
  (.call 37 1 false [] [(.v 0), (.v 1), (.v 2)]
  (.op (.bin .gtr false) [(.v 5), (.c (.int .i64 20))]
  (.jump 0 [(.v 6)]))))))
 ir17p0)
theorem rd17 : readFn T SG sigs 3000 sg17 Tryd.f35 an17 = some ir17 := by kernel_rfl
def an18 : Ann := (.s none .z (.s none .z (.s none (.s (some ⟨1, [(11, .junk), (12, .junk), (18, (.atm (.v 0)))], [], 2, []⟩) .z .z) (.s none .z (.s none .z (.s (some ⟨3, [(7, .junk), (9, (.atm (.v 0))), (18, .junk), (34, .junk), (35, .junk), (36, .junk), (37, .junk), (38, .junk), (39, .junk)], [(0, ⟨false, false, 67, 2, (.c (.sl [])), [[(.atm (.v 1)), (.atm (.v 2))]]⟩)], 4, []⟩) (.s none .z (.b (.s none .z (.c .z (.s (some ⟨1, [(7, .junk), (18, .junk), (34, .junk), (35, .junk), (36, .junk), (37, .junk), (38, .junk), (39, .junk), (40, .junk), (41, .junk), (42, .junk), (43, .junk), (44, (.atm (.v 0)))], [], 4, []⟩) .z .z))))) (.s none (.s none .z (.b (.l ⟨4, [(10, (.atm (.v 0)))], [(0, ⟨false, false, 67, 2, (.c (.sl [])), [[(.atm (.v 1)), (.atm (.v 2))]]⟩), (4, ⟨false, true, 33, 3, (.v 3), []⟩)], 5, [⟨some (3, 0, 2), 0, 33, 3⟩]⟩ .z))) .z)))))))
def ir18p0 : IR :=
 (.op (.bin .lss false) [(.v 14), (.v 11)]
 (.ite (.v 18)
  (.op (.bin .sub false) [(.v 1), (.c (.int .i64 1))]
  (.call 18 5 false [] [(.v 0), (.v 19), (.v 15), (.v 16)]
  (.op (.mk 3 1) [(.v 20), (.v 21), (.v 22)]
  (.op (.app 3 48) [(.v 17), (.v 25)]
  (.op (.bin .add false) [(.v 14), (.c (.int .i64 1))]
  (.jump 0 [(.v 27), (.v 23), (.v 24), (.v 26)]))))))
 (.ret [(.v 10), (.c (.str [])), (.v 17), (.v 15), (.v 16)])))
def ir18p1 : IR :=
 (.loop 4 [(.c (.int .i64 0)), (.v 12), (.v 13), (.c (.sl []))] ir18p0)
def ir18p2 : IR :=
 (.ite (.v 12)
  (.call 7 3 false [] [(.c (.int .i64 2)), (.v 5), (.v 6)]
  (.op (.bin .add false) [(.c (.int .i64 2)), (.v 13)]
  (.jump 0 [(.v 16), (.v 14), (.v 15)])))
 (.jump 0 [(.c (.int .i64 2)), (.v 5), (.v 6)]))
def ir18p3 : IR :=
 (.ite (.v 7)
  (.op (.bin .eql false) [(.v 4), (.c (.int .i64 0))]
  (.ite (.v 8)
   (.call 7 3 false [] [(.c (.int .i64 2)), (.v 5), (.v 6)]
   (.op (.bin .add false) [(.c (.int .i64 1)), (.v 9)]
   (.ret [(.v 12), (.c (.str [])), (.c (.sl [])), (.v 10), (.v 11)])))
  (.call 7 3 false [] [(.v 0), (.v 5), (.v 6)]
  (.op (.bin .add false) [(.c (.int .i64 97)), (.v 9)]
  (.op (.conv .u8) [(.v 12)]
  (.op (.mk 1 1) [(.v 13)]
  (.op .toS [(.v 14)]
  (.ret [(.c (.int .i64 3)), (.v 15), (.c (.sl [])), (.v 10), (.v 11)]))))))))
 (.op (.mk 1 8) [(.c (.int .i64 4)), (.c (.int .i64 4)), (.c (.int .i64 5)), (.c (.int .i64 5)), (.c (.int .i64 6)), (.c (.int .i64 6)), (.c (.int .i64 7)), (.c (.int .i64 8))]
 (.op (.bin .sub false) [(.v 4), (.c (.int .i64 4))]
 (.op .chk [(.v 8), (.v 9)]
 (.op (.get 0 1) [(.v 8), (.v 9)]
 (.letj 3
  (.op (.bin .eql false) [(.v 10), (.c (.int .i64 4))]
  (.ite (.v 11)
   (.jump 0 [(.c (.int .i64 1)), (.v 5), (.v 6)])
  (.letj 1
   (.op (.bin .eql false) [(.v 10), (.c (.int .i64 5))]
   (.ite (.v 12)
    (.jump 1 [(.c (.bool true))])
   (.op (.bin .eql false) [(.v 10), (.c (.int .i64 6))]
   (.jump 1 [(.v 13)]))))
  ir18p2)))
 ir18p1))))))
def ir18 : IR :=
 (.call 7 3 false [] [(.c (.int .i64 12)), (.v 2), (.v 3)]
 (.letj 1
  (.op (.bin .lss false) [(.v 1), (.c (.int .i64 1))]
  (.ite (.v 7)
   (.jump 0 [(.c (.bool true))])
  (.op (.bin .lss false) [(.v 4), (.c (.int .i64 4))]
  (.jump 0 [(.v 8)]))))
 ir18p3))
theorem rd18 : readFn T SG sigs 3000 sg18 Tryd.f18 an18 = some ir18 := by kernel_rfl
def an20 : Ann := .z
def ir20 : IR :=
 (.call 15 2 false [] [(.v 0), (.v 1), (.v 2), (.v 3)]
 (.op (.bin .neq false) [(.v 8), (.c (.int .i64 0))]
 (.ite (.v 9)
  (.ret [(.c (.bool false)), (.v 8)])
 (.call 15 2 false [] [(.v 0), (.v 4), (.v 5), (.v 6)]
 (.op (.bin .neq false) [(.v 11), (.c (.int .i64 0))]
 (.ite (.v 12)
  (.ret [(.c (.bool false)), (.v 11)])
 (.op (.bin .andNot false) [(.v 7), (.v 10)]
 (.op (.bin .eql false) [(.v 13), (.c (.int .u64 0))]
 (.ret [(.v 14), (.c (.int .i64 0))])))))))))
theorem rd20 : readFn T SG sigs 3000 sg20 Tryd.f37 an20 = some ir20 := by kernel_rfl
def an21 : Ann := .z
def ir21 : IR :=
 (.call 40 1 false [] [(.v 0)]
 (.ret [(.v 1)]))
theorem rd21 : readFn T SG sigs 3000 sg21 Tryd.f38 an21 = some ir21 := by kernel_rfl
def an22 : Ann := .z
def ir22 : IR :=
 (.call 41 7 false [] [(.v 0), (.v 1), (.v 2), (.v 3), (.v 4), (.v 5), (.v 6)]
 (.ret [(.v 7), (.v 8), (.v 9)]))
theorem rd22 : readFn T SG sigs 3000 sg22 Tryd.f39 an22 = some ir22 := by kernel_rfl
def an23 : Ann := (.s none .z (.s none .z (.s none .z (.s none (.s (some ⟨1, [(0, .junk), (2, .junk), (6, .junk), (9, .junk), (10, .junk), (11, .junk), (12, .junk), (13, .junk), (14, .junk), (15, .junk), (21, (.atm (.v 0)))], [], 0, []⟩) .z .z) .z))))
def ir23p0 : IR :=
 (.ite (.v 6)
  (.ret [(.v 4)])
 (.call 43 1 false [] [(.v 5)]
 (.op (.bin .and false) [(.v 4), (.v 7)]
 (.op (.bin .shl false) [(.c (.int .u64 1)), (.v 5)]
 (.op (.bin .shr false) [(.v 8), (.v 9)]
 (.op (.bin .or false) [(.v 4), (.v 10)]
 (.op (.bin .andNot false) [(.v 4), (.v 7)]
 (.op (.bin .shl false) [(.c (.int .u64 1)), (.v 5)]
 (.op (.bin .shl false) [(.v 12), (.v 13)]
 (.op (.bin .or false) [(.v 11), (.v 14)]
 (.ret [(.v 15)])))))))))))
def ir23 : IR :=
 (.call 16 1 false [] [(.v 0)]
 (.op (.bin .and false) [(.v 1), (.v 3)]
 (.call 42 1 false [] [(.v 0), (.v 2)]
 (.letj 1
  (.op (.bin .lss false) [(.v 5), (.c (.int .i64 0))]
  (.ite (.v 6)
   (.jump 0 [(.c (.bool true))])
  (.op (.bin .eql false) [(.v 4), (.c (.int .u64 0))]
  (.jump 0 [(.v 7)]))))
 ir23p0))))
theorem rd23 : readFn T SG sigs 3000 sg23 Tryd.f40 an23 = some ir23 := by kernel_rfl
def an24 : Ann := .z
def ir24 : IR :=
 (.op .lenL [(.v 0)]
 (.op (.bin .geq false) [(.v 1), (.v 2)]
 (.ite (.v 3)
  (.ret [(.c (.int .i64 0)), (.v 0), (.v 1)])
 (.op (.bin .add false) [(.v 1), (.c (.int .i64 1))]
 (.op (.bin .sub false) [(.v 4), (.c (.int .i64 1))]
 (.op (.row 1) [(.v 0), (.v 5)]
 (.ret [(.v 6), (.v 0), (.v 4)])))))))
theorem rd24 : readFn T SG sigs 3000 sg24 Tryd.f49 an24 = some ir24 := by kernel_rfl
def an25 : Ann := (.s none .z (.s none .z (.s none .z (.s (some ⟨1, [(0, (.atm (.v 0))), (1, .junk), (4, .junk), (5, .junk), (6, .junk), (7, .junk), (8, .junk), (9, .junk)], [], 0, []⟩) .z .z))))
def ir25p0 : IR :=
 (.ret [(.v 4)])
def ir25 : IR :=
 (.op (.bin .lss false) [(.v 1), (.c (.int .i64 1))]
 (.ite (.v 2)
  (.ret [(.c (.int .i64 0))])
 (.op (.bin .rem false) [(.v 0), (.v 1)]
 (.letj 1
  (.op (.bin .lss false) [(.v 3), (.c (.int .i64 0))]
  (.ite (.v 4)
   (.op (.bin .add false) [(.v 3), (.v 1)]
   (.jump 0 [(.v 5)]))
  (.jump 0 [(.v 3)])))
 ir25p0))))
theorem rd25 : readFn T SG sigs 3000 sg25 Tryd.f57 an25 = some ir25 := by kernel_rfl
def an26 : Ann := .z
def ir26 : IR :=
 (.op .lenL [(.v 0)]
 (.call 7 3 false [] [(.v 3), (.v 1), (.v 2)]
 (.op (.row 1) [(.v 0), (.v 4)]
 (.ret [(.v 7), (.v 5), (.v 6)]))))
theorem rd26 : readFn T SG sigs 3000 sg26 Tryd.f62 an26 = some ir26 := by kernel_rfl
def an27 : Ann := (.s none .z (.s none .z (.s none (.s none .z (.b (.l ⟨1, [(2, .junk), (5, .junk), (6, .junk), (7, .junk), (10, (.atm (.v 0)))], [], 0, []⟩ (.s none .z (.s none .z (.s none (.b (.s none .z (.s (some ⟨1, [(3, .junk), (4, .junk), (11, .junk), (12, .junk), (13, .junk), (14, .junk), (30, (.atm (.v 0)))], [], 0, []⟩) .z .z))) .z)))))) .z)))
def ir27p0 : IR :=
 (.ite (.v 7)
  (.ret [(.c (.bool false))])
 (.op (.bin .add false) [(.v 4), (.c (.int .i64 1))]
 (.jump 0 [(.v 8)])))
def ir27p1 : IR :=
 (.op (.bin .lss false) [(.v 4), (.v 3)]
 (.ite (.v 5)
  (.op (.row 1) [(.v 0), (.v 4)]
  (.letj 1
   (.call 44 1 false [] [(.v 6)]
   (.op (.un .not) [(.v 7)]
   (.ite (.v 8)
    (.jump 1 [(.c (.bool true))])
   (.op (.bin .gtr false) [(.v 4), (.c (.int .i64 0))]
   (.ite (.v 9)
    (.op (.bin .sub false) [(.v 4), (.c (.int .i64 1))]
    (.op (.row 1) [(.v 0), (.v 10)]
    (.op (.bin .geq false) [(.v 11), (.v 6)]
    (.jump 1 [(.v 12)]))))
   (.jump 1 [(.c (.bool false))]))))))
  ir27p0))
 (.ret [(.c (.bool true))])))
def ir27 : IR :=
 (.op .lenL [(.v 0)]
 (.op (.bin .gtr false) [(.v 1), (.c (.int .i64 6))]
 (.ite (.v 2)
  (.ret [(.c (.bool false))])
 (.op .lenL [(.v 0)]
 (.loop 1 [(.c (.int .i64 0))] ir27p1)))))
theorem rd27 : readFn T SG sigs 3000 sg27 Tryd.f41 an27 = some ir27 := by kernel_rfl
def an28 : Ann := (.s none .z (.s none .z (.s none .z (.s none .z (.s none .z (.s none .z (.s none .z (.s none .z (.s none .z (.s none (.b (.s (some ⟨1, [(0, .junk), (1, .junk), (5, .junk), (12, .junk), (13, .junk), (14, .junk), (15, .junk), (16, .junk), (17, .junk), (19, .junk), (20, .junk), (21, .junk), (23, .junk), (24, .junk), (25, .junk), (26, .junk), (27, .junk), (28, .junk), (29, .junk), (30, .junk), (31, .junk), (32, .junk), (36, .junk), (37, .junk), (38, .junk), (39, .junk), (40, .junk), (41, .junk), (42, .junk), (43, .junk), (44, .junk), (45, .junk), (46, .junk), (47, .junk), (48, .junk), (49, (.atm (.v 0)))], [], 4, []⟩) .z (.c .z (.s none .z (.c .z (.s (some ⟨1, [(49, .junk), (58, .junk), (59, .junk), (60, .junk), (61, .junk), (67, (.atm (.v 0)))], [], 4, []⟩) .z .z)))))) .z))))))))))
def ir28p0 : IR :=
 (.ite (.v 18)
  (.ret [(.c (.int .i64 4)), (.c (.str [])), (.v 13)])
 (.op (.bin .eql false) [(.v 8), (.c (.int .u64 0))]
 (.ite (.v 19)
  (.call 28 3 false [] [(.v 7), (.v 9)]
  (.call 46 3 false [] [(.c (.int .i64 5)), (.c (.int .i64 4)), (.c (.str [])), (.v 13), (.v 20), (.v 21), (.v 22)]
  (.ret [(.v 23), (.v 24), (.v 25)])))
 (.op (.bin .eql false) [(.v 9), (.v 15)]
 (.ite (.v 20)
  (.call 28 3 false [] [(.v 7), (.v 8)]
  (.call 46 3 false [] [(.c (.int .i64 6)), (.c (.int .i64 4)), (.c (.str [])), (.v 13), (.v 21), (.v 22), (.v 23)]
  (.ret [(.v 24), (.v 25), (.v 26)])))
 (.op (.bin .eql false) [(.v 9), (.c (.int .u64 0))]
 (.ite (.v 21)
  (.call 28 3 false [] [(.v 7), (.v 8)]
  (.call 46 3 false [] [(.c (.int .i64 5)), (.c (.int .i64 3)), (.v 11), (.c (.sl [])), (.v 22), (.v 23), (.v 24)]
  (.ret [(.v 25), (.v 26), (.v 27)])))
 (.call 28 3 false [] [(.v 7), (.v 8)]
 (.call 46 3 false [] [(.c (.int .i64 5)), (.c (.int .i64 3)), (.v 11), (.c (.sl [])), (.v 22), (.v 23), (.v 24)]
 (.call 28 3 false [] [(.v 7), (.v 9)]
 (.call 46 3 false [] [(.c (.int .i64 5)), (.c (.int .i64 4)), (.c (.str [])), (.v 13), (.v 28), (.v 29), (.v 30)]
 (.call 46 3 false [] [(.c (.int .i64 6)), (.v 25), (.v 26), (.v 27), (.v 31), (.v 32), (.v 33)]
 (.ret [(.v 34), (.v 35), (.v 36)])))))))))))))
def ir28p1 : IR :=
 (.ite (.v 16)
  (.ret [(.c (.int .i64 3)), (.v 11), (.c (.sl []))])
 (.op (.bin .eql false) [(.v 8), (.v 15)]
 (.ite (.v 17)
  (.call 28 3 false [] [(.v 7), (.v 9)]
  (.call 46 3 false [] [(.c (.int .i64 6)), (.c (.int .i64 3)), (.v 11), (.c (.sl [])), (.v 18), (.v 19), (.v 20)]
  (.ret [(.v 21), (.v 22), (.v 23)])))
 (.letj 1
  (.op (.bin .eql false) [(.v 8), (.c (.int .u64 0))]
  (.ite (.v 18)
   (.op (.bin .eql false) [(.v 9), (.v 15)]
   (.jump 0 [(.v 19)]))
  (.jump 0 [(.c (.bool false))])))
 ir28p0))))
def ir28 : IR :=
 (.op .lenL [(.v 0)]
 (.call 35 1 false [] [(.v 2)]
 (.op (.bin .eql false) [(.v 1), (.c (.int .u64 0))]
 (.ite (.v 4)
  (.ret [(.c (.int .i64 2)), (.c (.str [])), (.c (.sl []))])
 (.op (.bin .eql false) [(.v 1), (.v 3)]
 (.ite (.v 5)
  (.ret [(.c (.int .i64 1)), (.c (.str [])), (.c (.sl []))])
 (.op .lenL [(.v 0)]
 (.op (.subL 1) [(.v 0), (.c (.int .i64 1)), (.v 6)]
 (.call 45 2 false [] [(.v 1)]
 (.op (.bin .eql false) [(.v 8), (.v 9)]
 (.ite (.v 10)
  (.call 28 3 false [] [(.v 7), (.v 8)]
  (.ret [(.v 11), (.v 12), (.v 13)]))
 (.op (.row 1) [(.v 0), (.c (.int .i64 0))]
 (.op (.row 1) [(.v 0), (.c (.int .i64 0))]
 (.op (.mk 3 1) [(.c (.int .i64 3)), (.v 12), (.c (.sl []))]
 (.op .lenL [(.v 7)]
 (.call 35 1 false [] [(.v 14)]
 (.letj 1
  (.op (.bin .eql false) [(.v 8), (.v 15)]
  (.ite (.v 16)
   (.op (.bin .eql false) [(.v 9), (.c (.int .u64 0))]
   (.jump 0 [(.v 17)]))
  (.jump 0 [(.c (.bool false))])))
 ir28p1)))))))))))))))))
theorem rd28 : readFn T SG sigs 3000 sg28 Tryd.f63 an28 = some ir28 := by kernel_rfl
def an29 : Ann := (.s none .z (.s none (.s none .z (.b (.l ⟨1, [(2, .junk), (3, (.atm (.v 0)))], [], 0, []⟩ (.s none .z (.s none (.b (.s (some ⟨1, [(4, .junk), (5, .junk), (6, .junk), (7, .junk), (31, (.atm (.v 0)))], [], 0, []⟩) .z .z)) .z))))) .z))
def ir29p0 : IR :=
 (.ite (.v 4)
  (.ret [(.c (.bool false))])
 (.op (.bin .add false) [(.v 1), (.c (.int .i64 1))]
 (.jump 0 [(.v 5)])))
def ir29p1 : IR :=
 (.op .lenL [(.v 0)]
 (.op (.bin .lss false) [(.v 1), (.v 2)]
 (.ite (.v 3)
  (.letj 1
   (.op (.row 1) [(.v 0), (.v 1)]
   (.call 47 1 false [] [(.v 4)]
   (.op (.un .not) [(.v 5)]
   (.ite (.v 6)
    (.jump 1 [(.c (.bool true))])
   (.op (.bin .gtr false) [(.v 1), (.c (.int .i64 0))]
   (.ite (.v 7)
    (.op (.row 1) [(.v 0), (.v 1)]
    (.op (.bin .sub false) [(.v 1), (.c (.int .i64 1))]
    (.op (.row 1) [(.v 0), (.v 9)]
    (.op (.bin .leq false) [(.v 8), (.v 10)]
    (.jump 1 [(.v 11)])))))
   (.jump 1 [(.c (.bool false))])))))))
  ir29p0)
 (.op .lenL [(.v 0)]
 (.op (.bin .leq false) [(.v 4), (.c (.int .i64 6))]
 (.ret [(.v 5)]))))))
def ir29 : IR :=
 (.loop 1 [(.c (.int .i64 0))] ir29p1)
theorem rd29 : readFn T SG sigs 3000 sg29 Tryd.f42 an29 = some ir29 := by kernel_rfl
def an30 : Ann := (.s none .z (.s none .z (.s none .z (.s none .z (.s none .z (.s none .z (.s none (.b (.s none .z (.c .z (.s (some ⟨1, [(0, .junk), (1, .junk), (9, .junk), (10, .junk), (11, .junk), (12, .junk), (13, .junk), (15, .junk), (16, .junk), (17, .junk), (18, .junk), (19, .junk), (20, .junk), (21, .junk), (23, .junk), (24, .junk), (25, .junk), (26, .junk), (27, .junk), (28, .junk), (29, .junk), (30, .junk), (31, .junk), (32, .junk), (33, .junk), (34, .junk), (35, .junk), (36, .junk), (37, .junk), (38, .junk), (39, .junk), (40, .junk), (41, .junk), (42, .junk), (43, .junk), (44, .junk), (45, .junk), (47, (.atm (.v 0)))], [], 18, []⟩) .z (.c .z (.s none .z (.c .z (.s (some ⟨1, [(47, .junk), (57, .junk), (58, .junk), (59, .junk), (60, .junk), (64, (.atm (.v 0)))], [], 18, []⟩) .z .z)))))))) .z)))))))
def ir30p0 : IR :=
 (.ite (.v 26)
  (.ret [(.c (.int .i64 4)), (.c (.str [])), (.v 10)])
 (.op (.bin .eql false) [(.v 14), (.c (.int .i64 2))]
 (.ite (.v 27)
  (.call 50 3 false [] [(.c (.int .i64 5)), (.c (.int .i64 4)), (.c (.str [])), (.v 10), (.v 20), (.v 21), (.v 22)]
  (.ret [(.v 28), (.v 29), (.v 30)]))
 (.op (.bin .eql false) [(.v 20), (.c (.int .i64 1))]
 (.ite (.v 28)
  (.call 50 3 false [] [(.c (.int .i64 6)), (.c (.int .i64 4)), (.c (.str [])), (.v 10), (.v 14), (.v 15), (.v 16)]
  (.ret [(.v 29), (.v 30), (.v 31)]))
 (.op (.bin .eql false) [(.v 20), (.c (.int .i64 2))]
 (.ite (.v 29)
  (.call 50 3 false [] [(.c (.int .i64 5)), (.c (.int .i64 3)), (.v 9), (.c (.sl [])), (.v 14), (.v 15), (.v 16)]
  (.ret [(.v 30), (.v 31), (.v 32)]))
 (.call 50 3 false [] [(.c (.int .i64 5)), (.c (.int .i64 3)), (.v 9), (.c (.sl [])), (.v 14), (.v 15), (.v 16)]
 (.call 50 3 false [] [(.c (.int .i64 5)), (.c (.int .i64 4)), (.c (.str [])), (.v 10), (.v 20), (.v 21), (.v 22)]
 (.call 50 3 false [] [(.c (.int .i64 6)), (.v 30), (.v 31), (.v 32), (.v 33), (.v 34), (.v 35)]
 (.ret [(.v 36), (.v 37), (.v 38)])))))))))))
def ir30p1 : IR :=
 (.ite (.v 24)
  (.ret [(.c (.int .i64 3)), (.v 9), (.c (.sl []))])
 (.op (.bin .eql false) [(.v 14), (.c (.int .i64 1))]
 (.ite (.v 25)
  (.call 50 3 false [] [(.c (.int .i64 6)), (.c (.int .i64 3)), (.v 9), (.c (.sl [])), (.v 20), (.v 21), (.v 22)]
  (.ret [(.v 26), (.v 27), (.v 28)]))
 (.letj 1
  (.op (.bin .eql false) [(.v 14), (.c (.int .i64 2))]
  (.ite (.v 26)
   (.op (.bin .eql false) [(.v 20), (.c (.int .i64 1))]
   (.jump 0 [(.v 27)]))
  (.jump 0 [(.c (.bool false))])))
 ir30p0))))
def ir30 : IR :=
 (.call 48 1 false [] [(.v 0)]
 (.op (.bin .and false) [(.v 1), (.v 2)]
 (.op (.bin .eql false) [(.v 3), (.c (.int .u64 0))]
 (.ite (.v 4)
  (.ret [(.c (.int .i64 2)), (.c (.str [])), (.c (.sl []))])
 (.call 48 1 false [] [(.v 0)]
 (.op (.bin .and false) [(.v 1), (.v 5)]
 (.call 48 1 false [] [(.v 0)]
 (.op (.bin .eql false) [(.v 6), (.v 7)]
 (.ite (.v 8)
  (.ret [(.c (.int .i64 1)), (.c (.str [])), (.c (.sl []))])
 (.op (.row 1) [(.v 0), (.c (.int .i64 0))]
 (.op (.mk 3 1) [(.c (.int .i64 3)), (.v 9), (.c (.sl []))]
 (.op .lenL [(.v 0)]
 (.op (.subL 1) [(.v 0), (.c (.int .i64 1)), (.v 11)]
 (.call 49 1 false [] [(.v 0), (.v 1), (.c (.int .i64 1))]
 (.call 30 3 false [] [(.v 12), (.v 13)]
 (.op .lenL [(.v 0)]
 (.op (.subL 1) [(.v 0), (.c (.int .i64 1)), (.v 17)]
 (.call 49 1 false [] [(.v 0), (.v 1), (.c (.int .i64 0))]
 (.call 30 3 false [] [(.v 18), (.v 19)]
 (.call 13 1 false [] [(.v 14), (.v 15), (.v 16), (.v 20), (.v 21), (.v 22)]
 (.ite (.v 23)
  (.ret [(.v 14), (.v 15), (.v 16)])
 (.letj 1
  (.op (.bin .eql false) [(.v 14), (.c (.int .i64 1))]
  (.ite (.v 24)
   (.op (.bin .eql false) [(.v 20), (.c (.int .i64 2))]
   (.jump 0 [(.v 25)]))
  (.jump 0 [(.c (.bool false))])))
 ir30p1))))))))))))))))))))))
theorem rd30 : readFn T SG sigs 3000 sg30 Tryd.f64 an30 = some ir30 := by kernel_rfl
def an31 : Ann := (.s none .z (.s none .z (.s none .z (.s none .z (.s (some ⟨4, [(0, .junk), (3, .junk), (4, .junk), (7, .junk), (8, .junk), (9, .junk), (11, .junk), (12, .junk), (13, .junk), (14, .junk), (15, .junk)], [(1, ⟨false, false, 108, 4, (.c (.sl [])), [[(.atm (.v 0)), (.atm (.v 1)), (.atm (.v 2)), (.atm (.v 3))]]⟩)], 3, []⟩) .z (.s none .z (.s none (.s (some ⟨1, [(5, .junk), (21, .junk), (22, .junk), (23, .junk), (24, .junk), (25, .junk), (44, (.atm (.v 0)))], [], 3, []⟩) .z .z) .z)))))))
def ir31p0 : IR :=
 (.ite (.v 15)
  (.ret [(.c (.int .i64 0)), (.c (.str [])), (.c (.sl [])), (.c (.int .i64 0)), (.c (.int .i64 2))])
 (.ret [(.v 3), (.v 4), (.v 5), (.c (.int .i64 0)), (.c (.int .i64 0))]))
def ir31p1 : IR :=
 (.op (.bin .geq false) [(.v 12), (.c (.int .i64 0))]
 (.ite (.v 14)
  (.ret [(.c (.int .i64 0)), (.c (.str [])), (.c (.sl [])), (.v 12), (.c (.int .i64 3))])
 (.letj 1
  (.ite (.v 13)
   (.jump 0 [(.c (.bool true))])
  (.call 36 1 false [] [(.v 3), (.v 4), (.v 5)]
  (.op (.bin .gtr false) [(.v 15), (.c (.int .i64 600))]
  (.ite (.v 16)
   (.jump 0 [(.c (.bool true))])
  (.call 37 1 false [] [(.v 3), (.v 4), (.v 5)]
  (.op (.bin .gtr false) [(.v 17), (.c (.int .i64 20))]
  (.jump 0 [(.v 18)])))))))
 ir31p0)))
def ir31 : IR :=
 (.op .lenS [(.v 0)]
 (.op (.bin .gtr false) [(.v 1), (.c (.int .i64 4096))]
 (.ite (.v 2)
  (.ret [(.c (.int .i64 0)), (.c (.str [])), (.c (.sl [])), (.c (.int .i64 0)), (.c (.int .i64 2))])
 (.call 51 7 false [] [(.v 0), (.c (.int .i64 0)), (.c (.int .i64 (-1))), (.c (.bool false))]
 (.letj 4
  (.call 52 5 false [] [(.c (.str [])), (.v 6), (.v 7), (.v 8), (.v 9)]
  (.op (.un .not) [(.v 10)]
  (.ite (.v 15)
   (.call 53 7 false [] [(.v 11), (.v 12), (.v 13), (.v 14)]
   (.jump 0 [(.v 19), (.v 20), (.v 21), (.v 22)]))
  (.jump 0 [(.v 11), (.v 12), (.v 13), (.v 14)]))))
 ir31p1)))))
theorem rd31 : readFn T SG sigs 3000 sg31 Tryd.f65 an31 = some ir31 := by kernel_rfl
def an33 : Ann := .z
def ir33 : IR :=
 (.call 42 1 false [] [(.v 0), (.v 1)]
 (.op (.bin .geq false) [(.v 2), (.c (.int .i64 0))]
 (.ret [(.v 3)])))
theorem rd33 : readFn T SG sigs 3000 sg33 Tryd.f67 an33 = some ir33 := by kernel_rfl
def an34 : Ann := (.s none .z (.s none (.s none .z (.b (.s none .z (.c .z (.s none .z (.c .z (.s none .z (.c .z (.s none .z (.c .z (.s none .z (.c .z (.s none .z (.c (.s none .z (.s none (.s none .z (.b (.l ⟨2, [(1, .junk), (3, .junk), (4, .junk), (5, (.atm (.v 0))), (11, .junk), (12, .junk), (13, .junk), (14, .junk), (15, .junk), (16, .junk), (22, .junk), (23, .junk), (31, .junk), (32, .junk), (47, .junk), (48, .junk), (63, .junk), (64, .junk), (65, .junk), (68, (.atm (.v 1)))], [], 1, []⟩ .z))) .z)) .z)))))))))))))) (.s none .z (.s none (.s none .z (.b (.l ⟨2, [(1, .junk), (3, .junk), (4, .junk), (8, (.atm (.v 0))), (11, .junk), (12, .junk), (13, .junk), (14, .junk), (15, .junk), (16, .junk), (22, .junk), (23, .junk), (31, .junk), (32, .junk), (47, .junk), (48, .junk), (63, .junk), (64, .junk), (79, .junk), (82, (.atm (.v 1)))], [], 1, []⟩ .z))) .z))))
def ir34p0 : IR :=
 (.op (.bin .lss false) [(.v 12), (.v 10)]
 (.ite (.v 13)
  (.op (.row 3) [(.v 3), (.v 12)]
  (.call 34 1 false [] [(.v 0), (.v 14), (.v 15), (.v 16)]
  (.op (.bin .and false) [(.v 11), (.v 17)]
  (.op (.bin .add false) [(.v 12), (.c (.int .i64 1))]
  (.jump 0 [(.v 18), (.v 19)])))))
 (.ret [(.v 11)])))
def ir34p1 : IR :=
 (.op (.bin .lss false) [(.v 12), (.v 10)]
 (.ite (.v 13)
  (.op (.row 3) [(.v 3), (.v 12)]
  (.call 34 1 false [] [(.v 0), (.v 14), (.v 15), (.v 16)]
  (.op (.bin .or false) [(.v 11), (.v 17)]
  (.op (.bin .add false) [(.v 12), (.c (.int .i64 1))]
  (.jump 0 [(.v 18), (.v 19)])))))
 (.ret [(.v 11)])))
def ir34 : IR :=
 (.op (.bin .eql false) [(.v 1), (.c (.int .i64 1))]
 (.ite (.v 4)
  (.ret [(.c (.int .u64 18446744073709551615))])
 (.op (.bin .eql false) [(.v 1), (.c (.int .i64 3))]
 (.ite (.v 5)
  (.call 42 1 false [] [(.v 0), (.v 2)]
  (.call 43 1 false [] [(.v 6)]
  (.ret [(.v 7)])))
 (.op (.bin .eql false) [(.v 1), (.c (.int .i64 4))]
 (.ite (.v 6)
  (.op (.row 3) [(.v 3), (.c (.int .i64 0))]
  (.call 34 1 false [] [(.v 0), (.v 7), (.v 8), (.v 9)]
  (.op (.un .xor) [(.v 10)]
  (.ret [(.v 11)]))))
 (.op (.bin .eql false) [(.v 1), (.c (.int .i64 7))]
 (.ite (.v 7)
  (.op (.row 3) [(.v 3), (.c (.int .i64 0))]
  (.call 34 1 false [] [(.v 0), (.v 8), (.v 9), (.v 10)]
  (.op (.un .xor) [(.v 11)]
  (.op (.row 3) [(.v 3), (.c (.int .i64 1))]
  (.call 34 1 false [] [(.v 0), (.v 13), (.v 14), (.v 15)]
  (.op (.bin .or false) [(.v 12), (.v 16)]
  (.ret [(.v 17)])))))))
 (.op (.bin .eql false) [(.v 1), (.c (.int .i64 8))]
 (.ite (.v 8)
  (.op (.row 3) [(.v 3), (.c (.int .i64 0))]
  (.call 34 1 false [] [(.v 0), (.v 9), (.v 10), (.v 11)]
  (.op (.row 3) [(.v 3), (.c (.int .i64 1))]
  (.call 34 1 false [] [(.v 0), (.v 13), (.v 14), (.v 15)]
  (.op (.bin .xor false) [(.v 12), (.v 16)]
  (.op (.un .xor) [(.v 17)]
  (.ret [(.v 18)])))))))
 (.op (.bin .eql false) [(.v 1), (.c (.int .i64 5))]
 (.ite (.v 9)
  (.op .lenL [(.v 3)]
  (.loop 2 [(.c (.int .u64 18446744073709551615)), (.c (.int .i64 0))] ir34p0))
 (.op .lenL [(.v 3)]
 (.loop 2 [(.c (.int .u64 0)), (.c (.int .i64 0))] ir34p1))))))))))))))
theorem rd34 : readFn T SG sigs 3000 sg34 Tryd.f68 an34 = some ir34 := by kernel_rfl
def an35 : Ann := .z
def ir35 : IR :=
 (.op (.bin .shl false) [(.c (.int .u64 1)), (.v 0)]
 (.op (.bin .sub false) [(.c (.int .u64 64)), (.v 1)]
 (.op (.bin .shr false) [(.c (.int .u64 18446744073709551615)), (.v 2)]
 (.ret [(.v 3)]))))
theorem rd35 : readFn T SG sigs 3000 sg35 Tryd.f69 an35 = some ir35 := by kernel_rfl
def an36 : Ann := (.s none .z (.s none .z (.s none (.s none .z (.b (.l ⟨2, [(0, .junk), (1, .junk), (2, .junk), (3, (.atm (.v 0))), (6, .junk), (9, (.atm (.v 1)))], [], 1, []⟩ .z))) .z)))
def ir36p0 : IR :=
 (.op (.bin .lss false) [(.v 5), (.v 3)]
 (.ite (.v 6)
  (.op (.row 3) [(.v 2), (.v 5)]
  (.call 36 1 false [] [(.v 7), (.v 8), (.v 9)]
  (.op (.bin .add false) [(.v 4), (.v 10)]
  (.op (.bin .add false) [(.v 5), (.c (.int .i64 1))]
  (.jump 0 [(.v 11), (.v 12)])))))
 (.ret [(.v 4)])))
def ir36 : IR :=
 (.op .lenL [(.v 2)]
 (.loop 2 [(.c (.int .i64 1)), (.c (.int .i64 0))] ir36p0))
theorem rd36 : readFn T SG sigs 3000 sg36 Tryd.f70 an36 = some ir36 := by kernel_rfl
def an37 : Ann := (.s none .z (.s none .z (.s none (.s none .z (.b (.l ⟨2, [(0, .junk), (1, .junk), (2, .junk), (3, (.atm (.v 0))), (6, .junk), (9, (.atm (.v 1)))], [], 1, []⟩ .z))) .z)))
def ir37p0 : IR :=
 (.op (.bin .lss false) [(.v 5), (.v 3)]
 (.ite (.v 6)
  (.op (.row 3) [(.v 2), (.v 5)]
  (.call 37 1 false [] [(.v 7), (.v 8), (.v 9)]
  (.op (.bin .add false) [(.c (.int .i64 1)), (.v 10)]
  (.op .max [(.v 4), (.v 11)]
  (.op (.bin .add false) [(.v 5), (.c (.int .i64 1))]
  (.jump 0 [(.v 12), (.v 13)]))))))
 (.ret [(.v 4)])))
def ir37 : IR :=
 (.op .lenL [(.v 2)]
 (.loop 2 [(.c (.int .i64 0)), (.c (.int .i64 0))] ir37p0))
theorem rd37 : readFn T SG sigs 3000 sg37 Tryd.f71 an37 = some ir37 := by kernel_rfl
def an38 : Ann := (.s none .z (.s none .z (.s none (.s none .z (.b (.l ⟨1, [(0, .junk), (2, .junk), (4, .junk), (7, .junk), (8, .junk), (9, .junk), (10, .junk), (11, .junk), (14, (.atm (.v 0)))], [], 1, []⟩ .z))) .z)))
def ir38p0 : IR :=
 (.op (.bin .lss false) [(.v 6), (.v 5)]
 (.ite (.v 7)
  (.op (.row 3) [(.v 2), (.v 6)]
  (.call 38 1 false [] [(.v 8), (.v 9), (.v 10)]
  (.op (.un .not) [(.v 11)]
  (.ite (.v 12)
   (.ret [(.c (.bool false))])
  (.op (.bin .add false) [(.v 6), (.c (.int .i64 1))]
  (.jump 0 [(.v 13)]))))))
 (.ret [(.c (.bool true))])))
def ir38 : IR :=
 (.call 54 1 false [] [(.v 0), (.v 1), (.v 2)]
 (.op (.un .not) [(.v 3)]
 (.ite (.v 4)
  (.ret [(.c (.bool false))])
 (.op .lenL [(.v 2)]
 (.loop 1 [(.c (.int .i64 0))] ir38p0)))))
theorem rd38 : readFn T SG sigs 3000 sg38 Tryd.f72 an38 = some ir38 := by kernel_rfl
def an39 : Ann := (.s none .z (.s none .z (.s none (.s none .z (.b (.l ⟨1, [(0, .junk), (2, .junk), (4, .junk), (7, .junk), (8, .junk), (9, .junk), (10, .junk), (11, .junk), (14, (.atm (.v 0)))], [], 1, []⟩ .z))) .z)))
def ir39p0 : IR :=
 (.op (.bin .lss false) [(.v 6), (.v 5)]
 (.ite (.v 7)
  (.op (.row 3) [(.v 2), (.v 6)]
  (.call 39 1 false [] [(.v 8), (.v 9), (.v 10)]
  (.op (.un .not) [(.v 11)]
  (.ite (.v 12)
   (.ret [(.c (.bool false))])
  (.op (.bin .add false) [(.v 6), (.c (.int .i64 1))]
  (.jump 0 [(.v 13)]))))))
 (.ret [(.c (.bool true))])))
def ir39 : IR :=
 (.call 55 1 false [] [(.v 0), (.v 1), (.v 2)]
 (.op (.un .not) [(.v 3)]
 (.ite (.v 4)
  (.ret [(.c (.bool false))])
 (.op .lenL [(.v 2)]
 (.loop 1 [(.c (.int .i64 0))] ir39p0)))))
theorem rd39 : readFn T SG sigs 3000 sg39 Tryd.f72 an39 = some ir39 := by kernel_rfl
def an40 : Ann := .z
def ir40 : IR :=
 (.op (.bin .shr false) [(.v 0), (.c (.int .u64 1))]
 (.op (.bin .and false) [(.v 1), (.c (.int .u64 6148914691236517205))]
 (.op (.bin .and false) [(.v 0), (.c (.int .u64 6148914691236517205))]
 (.op (.bin .add false) [(.v 2), (.v 3)]
 (.op (.bin .shr false) [(.v 4), (.c (.int .u64 2))]
 (.op (.bin .and false) [(.v 5), (.c (.int .u64 3689348814741910323))]
 (.op (.bin .and false) [(.v 4), (.c (.int .u64 3689348814741910323))]
 (.op (.bin .add false) [(.v 6), (.v 7)]
 (.op (.bin .shr false) [(.v 8), (.c (.int .u64 4))]
 (.op (.bin .add false) [(.v 9), (.v 8)]
 (.op (.bin .and false) [(.v 10), (.c (.int .u64 1085102592571150095))]
 (.op (.bin .shr false) [(.v 11), (.c (.int .u64 8))]
 (.op (.bin .add false) [(.v 11), (.v 12)]
 (.op (.bin .shr false) [(.v 13), (.c (.int .u64 16))]
 (.op (.bin .add false) [(.v 13), (.v 14)]
 (.op (.bin .shr false) [(.v 15), (.c (.int .u64 32))]
 (.op (.bin .add false) [(.v 15), (.v 16)]
 (.op (.conv .i64) [(.v 17)]
 (.op (.bin .and false) [(.v 18), (.c (.int .i64 127))]
 (.ret [(.v 19)]))))))))))))))))))))
theorem rd40 : readFn T SG sigs 3000 sg40 Tryd.f60 an40 = some ir40 := by kernel_rfl
def an41 : Ann := (.s none .z (.s none .z (.s none .z (.s none (.s none .z (.b (.l ⟨6, [(0, .junk), (2, .junk), (5, .junk), (6, .junk), (10, .junk), (11, .junk), (12, .junk), (13, .junk), (14, .junk), (15, .junk), (16, .junk), (18, .junk), (19, .junk), (20, .junk), (21, .junk), (22, .junk), (23, .junk), (26, (.atm (.v 0)))], [(0, ⟨false, false, 9, 1, (.c (.sl [])), [[(.atm (.v 1))]]⟩), (1, ⟨false, false, 33, 3, (.c (.sl [])), [[(.atm (.v 2)), (.atm (.v 3)), (.atm (.v 4))]]⟩), (7, ⟨false, true, 33, 3, (.v 5), []⟩)], 8, [⟨some (6, 0, 2), 0, 33, 3⟩]⟩ .z))) .z))))
def ir41p0 : IR :=
 (.op (.bin .lss false) [(.v 16), (.v 15)]
 (.ite (.v 22)
  (.op (.row 3) [(.v 2), (.v 16)]
  (.call 41 7 false [] [(.v 23), (.v 24), (.v 25), (.v 17), (.v 18), (.v 19), (.v 20)]
  (.op (.mk 3 1) [(.v 26), (.v 27), (.v 28)]
  (.op (.app 3 48) [(.v 21), (.v 33)]
  (.op (.bin .add false) [(.v 16), (.c (.int .i64 1))]
  (.jump 0 [(.v 35), (.v 29), (.v 30), (.v 31), (.v 32), (.v 34)]))))))
 (.ret [(.v 0), (.v 1), (.v 21), (.v 17), (.v 18), (.v 19), (.v 20)])))
def ir41 : IR :=
 (.call 56 8 false [] [(.v 0), (.v 1), (.v 2), (.v 3), (.v 4), (.v 5), (.v 6)]
 (.ite (.v 10)
  (.ret [(.v 7), (.v 8), (.v 9), (.v 11), (.v 12), (.v 13), (.v 14)])
 (.op .lenL [(.v 2)]
 (.loop 6 [(.c (.int .i64 0)), (.v 11), (.v 12), (.v 13), (.v 14), (.c (.sl []))] ir41p0))))
theorem rd41 : readFn T SG sigs 3000 sg41 Tryd.f79 an41 = some ir41 := by kernel_rfl
def an42 : Ann := (.s none .z (.s none (.s none .z (.b (.l ⟨1, [(4, .junk), (6, .junk), (8, (.atm (.v 0)))], [], 0, []⟩ .z))) .z))
def ir42p0 : IR :=
 (.op (.bin .lss false) [(.v 3), (.v 2)]
 (.ite (.v 4)
  (.op (.row 1) [(.v 0), (.v 3)]
  (.op (.bin .eql false) [(.v 1), (.v 5)]
  (.ite (.v 6)
   (.ret [(.v 3)])
  (.op (.bin .add false) [(.v 3), (.c (.int .i64 1))]
  (.jump 0 [(.v 7)])))))
 (.ret [(.c (.int .i64 (-1)))])))
def ir42 : IR :=
 (.op .lenL [(.v 0)]
 (.loop 1 [(.c (.int .i64 0))] ir42p0))
theorem rd42 : readFn T SG sigs 3000 sg42 Tryd.f82 an42 = some ir42 := by kernel_rfl
def an43 : Ann := (.s none .z (.s none .z (.s none (.s none .z (.b (.l ⟨2, [(2, .junk), (3, (.atm (.v 0))), (5, (.atm (.v 1)))], [], 0, []⟩ .z))) .z)))
def ir43p0 : IR :=
 (.op (.bin .lss false) [(.v 2), (.c (.int .i64 64))]
 (.ite (.v 3)
  (.op (.bin .shr false) [(.v 2), (.v 0)]
  (.op (.bin .and false) [(.v 4), (.c (.int .i64 1))]
  (.op (.conv .u64) [(.v 5)]
  (.op (.bin .shl false) [(.v 6), (.v 2)]
  (.op (.bin .or false) [(.v 1), (.v 7)]
  (.op (.bin .add false) [(.v 2), (.c (.int .i64 1))]
  (.jump 0 [(.v 8), (.v 9)])))))))
 (.ret [(.v 1)])))
def ir43 : IR :=
 (.loop 2 [(.c (.int .u64 0)), (.c (.int .i64 0))] ir43p0)
theorem rd43 : readFn T SG sigs 3000 sg43 Tryd.f83 an43 = some ir43 := by kernel_rfl
def an44 : Ann := (.s none .z (.s none (.s (some ⟨1, [(2, .junk), (12, (.atm (.v 0)))], [], 0, []⟩) .z .z) (.s none (.s none .z (.b (.l ⟨1, [(12, .junk), (13, .junk), (15, (.atm (.v 0)))], [], 0, []⟩ (.s none .z (.s none .z (.s (some ⟨0, [(16, .junk)], [], 0, []⟩) (.b (.s none .z (.s none .z (.b (.s (some ⟨1, [(16, .junk), (17, .junk), (18, .junk), (19, .junk), (20, .junk), (21, (.atm (.v 0)))], [], 0, []⟩) .z (.c .z (.s (some ⟨1, [(3, .junk), (4, .junk), (21, .junk), (28, (.atm (.v 0)))], [], 0, []⟩) .z .z))))))) .z)))))) .z)))
def ir44p0 : IR :=
 (.op (.bin .add false) [(.v 3), (.c (.int .i64 1))]
 (.jump 0 [(.v 5)]))
def ir44p1 : IR :=
 (.ite (.v 7)
  (.jump 1 [])
 (.ret [(.c (.bool false))]))
def ir44p2 : IR :=
 (.ite (.v 6)
  (.jump 1 [])
 (.letj 1
  (.op (.bin .gtr false) [(.v 3), (.c (.int .i64 0))]
  (.ite (.v 7)
   (.op (.bin .geq false) [(.v 5), (.c (.int .u8 48))]
   (.ite (.v 8)
    (.op (.bin .leq false) [(.v 5), (.c (.int .u8 57))]
    (.ite (.v 9)
     (.jump 2 [(.c (.bool true))])
    (.op (.bin .eql false) [(.v 5), (.c (.int .u8 95))]
    (.jump 2 [(.v 10)]))))
   (.op (.bin .eql false) [(.v 5), (.c (.int .u8 95))]
   (.jump 2 [(.v 9)]))))
  (.jump 2 [(.c (.bool false))])))
 ir44p1))
def ir44p3 : IR :=
 (.op (.bin .lss false) [(.v 3), (.v 2)]
 (.ite (.v 4)
  (.letj 0
   (.op .idxS [(.v 0), (.v 3)]
   (.letj 1
    (.op (.bin .geq false) [(.v 5), (.c (.int .u8 97))]
    (.ite (.v 6)
     (.op (.bin .leq false) [(.v 5), (.c (.int .u8 122))]
     (.jump 2 [(.v 7)]))
    (.jump 2 [(.c (.bool false))])))
   ir44p2))
  ir44p0)
 (.ret [(.c (.bool true))])))
def ir44p4 : IR :=
 (.ite (.v 1)
  (.ret [(.c (.bool false))])
 (.op .lenS [(.v 0)]
 (.loop 1 [(.c (.int .i64 0))] ir44p3)))
def ir44 : IR :=
 (.letj 1
  (.op .lenS [(.v 0)]
  (.op (.bin .eql false) [(.v 1), (.c (.int .i64 0))]
  (.ite (.v 2)
   (.jump 0 [(.c (.bool true))])
  (.op .lenS [(.v 0)]
  (.op (.bin .gtr false) [(.v 3), (.c (.int .i64 12))]
  (.jump 0 [(.v 4)]))))))
 ir44p4)
theorem rd44 : readFn T SG sigs 3000 sg44 Tryd.f84 an44 = some ir44 := by kernel_rfl
def an45 : Ann := (.s none .z (.s none (.s none .z (.b (.l ⟨3, [(2, (.atm (.v 0))), (3, (.atm (.v 1))), (5, (.atm (.v 2)))], [], 0, []⟩ .z))) .z))
def ir45p0 : IR :=
 (.op (.bin .lss false) [(.v 3), (.c (.int .i64 32))]
 (.ite (.v 4)
  (.op (.bin .mul false) [(.c (.int .i64 2)), (.v 3)]
  (.op (.bin .shr false) [(.v 0), (.v 5)]
  (.op (.bin .and false) [(.v 6), (.c (.int .u64 1))]
  (.op (.bin .shl false) [(.v 7), (.v 3)]
  (.op (.bin .or false) [(.v 2), (.v 8)]
  (.op (.bin .mul false) [(.c (.int .i64 2)), (.v 3)]
  (.op (.bin .add false) [(.v 10), (.c (.int .i64 1))]
  (.op (.bin .shr false) [(.v 0), (.v 11)]
  (.op (.bin .and false) [(.v 12), (.c (.int .u64 1))]
  (.op (.bin .shl false) [(.v 13), (.v 3)]
  (.op (.bin .or false) [(.v 1), (.v 14)]
  (.op (.bin .add false) [(.v 3), (.c (.int .i64 1))]
  (.jump 0 [(.v 15), (.v 9), (.v 16)])))))))))))))
 (.ret [(.v 1), (.v 2)])))
def ir45 : IR :=
 (.loop 3 [(.c (.int .u64 0)), (.c (.int .u64 0)), (.c (.int .i64 0))] ir45p0)
theorem rd45 : readFn T SG sigs 3000 sg45 Tryd.f97 an45 = some ir45 := by kernel_rfl
def an46 : Ann := .z
def ir46 : IR :=
 (.op (.mk 3 2) [(.v 1), (.v 2), (.v 3), (.v 4), (.v 5), (.v 6)]
 (.ret [(.v 0), (.c (.str [])), (.v 7)]))
theorem rd46 : readFn T SG sigs 3000 sg46 Tryd.f98 an46 = some ir46 := by kernel_rfl
def an47 : Ann := (.s none .z (.s none (.s (some ⟨1, [(2, .junk), (21, (.atm (.v 0)))], [], 0, []⟩) .z .z) (.s none (.s none .z (.b (.l ⟨1, [(3, (.atm (.v 0))), (21, .junk)], [], 0, []⟩ (.s none .z (.s none (.b (.s (some ⟨1, [(22, .junk), (23, .junk), (24, .junk), (25, .junk), (55, (.atm (.v 0)))], [], 0, []⟩) .z .z)) .z))))) .z)))
def ir47p0 : IR :=
 (.ite (.v 5)
  (.ret [(.c (.bool false))])
 (.op (.bin .add false) [(.v 2), (.c (.int .i64 1))]
 (.jump 0 [(.v 6)])))
def ir47p1 : IR :=
 (.op .lenS [(.v 0)]
 (.op (.bin .lss false) [(.v 2), (.v 3)]
 (.ite (.v 4)
  (.letj 1
   (.op .idxS [(.v 0), (.v 2)]
   (.op (.bin .lss false) [(.v 5), (.c (.int .u8 97))]
   (.ite (.v 6)
    (.op .idxS [(.v 0), (.v 2)]
    (.op (.bin .lss false) [(.v 7), (.c (.int .u8 48))]
    (.ite (.v 8)
     (.op .idxS [(.v 0), (.v 2)]
     (.op (.bin .neq false) [(.v 9), (.c (.int .u8 95))]
     (.jump 1 [(.v 10)])))
    (.op .idxS [(.v 0), (.v 2)]
    (.op (.bin .gtr false) [(.v 9), (.c (.int .u8 57))]
    (.ite (.v 10)
     (.op .idxS [(.v 0), (.v 2)]
     (.op (.bin .neq false) [(.v 11), (.c (.int .u8 95))]
     (.jump 1 [(.v 12)])))
    (.jump 1 [(.c (.bool false))])))))))
   (.op .idxS [(.v 0), (.v 2)]
   (.op (.bin .gtr false) [(.v 7), (.c (.int .u8 122))]
   (.ite (.v 8)
    (.op .idxS [(.v 0), (.v 2)]
    (.op (.bin .lss false) [(.v 9), (.c (.int .u8 48))]
    (.ite (.v 10)
     (.op .idxS [(.v 0), (.v 2)]
     (.op (.bin .neq false) [(.v 11), (.c (.int .u8 95))]
     (.jump 1 [(.v 12)])))
    (.op .idxS [(.v 0), (.v 2)]
    (.op (.bin .gtr false) [(.v 11), (.c (.int .u8 57))]
    (.ite (.v 12)
     (.op .idxS [(.v 0), (.v 2)]
     (.op (.bin .neq false) [(.v 13), (.c (.int .u8 95))]
     (.jump 1 [(.v 14)])))
    (.jump 1 [(.c (.bool false))])))))))
   (.jump 1 [(.c (.bool false))])))))))
  ir47p0)
 (.ret [(.c (.bool true))]))))
def ir47p2 : IR :=
 (.ite (.v 1)
  (.ret [(.c (.bool false))])
 (.loop 1 [(.c (.int .i64 0))] ir47p1))
def ir47 : IR :=
 (.letj 1
  (.op .lenS [(.v 0)]
  (.op (.bin .lss false) [(.v 1), (.c (.int .i64 1))]
  (.ite (.v 2)
   (.jump 0 [(.c (.bool true))])
  (.op .lenS [(.v 0)]
  (.op (.bin .gtr false) [(.v 3), (.c (.int .i64 12))]
  (.ite (.v 4)
   (.jump 0 [(.c (.bool true))])
  (.op .idxS [(.v 0), (.c (.int .i64 0))]
  (.op (.bin .lss false) [(.v 5), (.c (.int .u8 97))]
  (.ite (.v 6)
   (.jump 0 [(.c (.bool true))])
  (.op .idxS [(.v 0), (.c (.int .i64 0))]
  (.op (.bin .gtr false) [(.v 7), (.c (.int .u8 122))]
  (.jump 0 [(.v 8)]))))))))))))
 ir47p2)
theorem rd47 : readFn T SG sigs 3000 sg47 Tryd.f85 an47 = some ir47 := by kernel_rfl
def an48 : Ann := (.s none .z (.s none .z (.s none .z (.s none (.s none .z (.b (.l ⟨2, [(2, .junk), (3, (.atm (.v 0))), (4, (.atm (.v 1))), (5, .junk), (6, .junk), (7, .junk)], [], 0, []⟩ .z))) .z))))
def ir48p0 : IR :=
 (.call 57 1 false [] [(.v 0)]
 (.op (.bin .lss false) [(.v 4), (.v 5)]
 (.ite (.v 6)
  (.op (.conv .u64) [(.v 4)]
  (.op (.bin .shl false) [(.c (.int .u64 1)), (.v 7)]
  (.op (.bin .or false) [(.v 3), (.v 8)]
  (.op (.bin .add false) [(.v 4), (.c (.int .i64 1))]
  (.jump 0 [(.v 9), (.v 10)])))))
 (.ret [(.v 3)]))))
def ir48 : IR :=
 (.call 29 1 false [] [(.v 0)]
 (.op (.un .not) [(.v 1)]
 (.ite (.v 2)
  (.ret [(.c (.int .u64 0))])
 (.loop 2 [(.c (.int .u64 0)), (.c (.int .i64 0))] ir48p0))))
theorem rd48 : readFn T SG sigs 3000 sg48 Tryd.f16 an48 = some ir48 := by kernel_rfl
def an49 : Ann := (.s none .z (.s none .z (.s none (.s none .z (.b (.l ⟨2, [(6, .junk), (7, (.atm (.v 0))), (8, (.atm (.v 1)))], [], 0, []⟩ (.s none .z (.s (some ⟨1, [(7, (.atm (.v 0))), (9, .junk), (10, .junk), (11, .junk), (12, .junk)], [], 0, []⟩) (.b (.s (some ⟨1, [(9, .junk), (10, .junk), (11, .junk), (12, .junk), (23, (.atm (.v 0)))], [], 0, []⟩) .z .z)) .z))))) .z)))
def ir49p0 : IR :=
 (.op (.bin .add false) [(.v 4), (.c (.int .i64 1))]
 (.jump 0 [(.v 7), (.v 8)]))
def ir49p1 : IR :=
 (.ite (.v 7)
  (.op (.bin .shr false) [(.v 4), (.c (.int .u64 1))]
  (.op (.conv .u64) [(.v 8)]
  (.op (.bin .shl false) [(.c (.int .u64 1)), (.v 9)]
  (.op (.bin .or false) [(.v 3), (.v 10)]
  (.jump 1 [(.v 11)])))))
 (.jump 1 [(.v 3)]))
def ir49p2 : IR :=
 (.call 57 1 false [] [(.v 0)]
 (.op (.bin .lss false) [(.v 4), (.v 5)]
 (.ite (.v 6)
  (.letj 1
   (.letj 1
    (.call 58 1 false [] [(.v 1), (.v 4)]
    (.ite (.v 7)
     (.op (.bin .and false) [(.v 4), (.c (.int .i64 1))]
     (.op (.bin .eql false) [(.v 8), (.v 2)]
     (.jump 2 [(.v 9)])))
    (.jump 2 [(.c (.bool false))])))
   ir49p1)
  ir49p0)
 (.ret [(.v 3)]))))
def ir49 : IR :=
 (.loop 2 [(.c (.int .u64 0)), (.c (.int .i64 0))] ir49p2)
theorem rd49 : readFn T SG sigs 3000 sg49 Tryd.f99 an49 = some ir49 := by kernel_rfl
def an50 : Ann := .z
def ir50 : IR :=
 (.op (.mk 3 2) [(.v 1), (.v 2), (.v 3), (.v 4), (.v 5), (.v 6)]
 (.ret [(.v 0), (.c (.str [])), (.v 7)]))
theorem rd50 : readFn T SG sigs 3000 sg50 Tryd.f100 an50 = some ir50 := by kernel_rfl
def an51 : Ann := .z
def ir51 : IR :=
 (.call 59 7 false [] [(.v 0), (.v 1), (.v 2), (.v 3)]
 (.call 52 5 false [] [(.c (.str [60, 45, 62])), (.v 7), (.v 8), (.v 9), (.v 10)]
 (.op (.un .not) [(.v 11)]
 (.ite (.v 16)
  (.ret [(.v 4), (.v 5), (.v 6), (.v 12), (.v 13), (.v 14), (.v 15)])
 (.call 59 7 false [] [(.v 12), (.v 13), (.v 14), (.v 15)]
 (.op (.mk 3 2) [(.v 4), (.v 5), (.v 6), (.v 17), (.v 18), (.v 19)]
 (.ret [(.c (.int .i64 8)), (.c (.str [])), (.v 24), (.v 20), (.v 21), (.v 22), (.v 23)])))))))
theorem rd51 : readFn T SG sigs 3000 sg51 Tryd.f101 an51 = some ir51 := by kernel_rfl
def an52 : Ann := (.s none .z (.s none .z (.s none (.s (some ⟨1, [(1, .junk), (4, .junk), (6, .junk), (7, .junk), (18, (.atm (.v 0)))], [], 2, []⟩) .z .z) .z)))
def ir52p0 : IR :=
 (.ite (.v 12)
  (.ret [(.c (.bool false)), (.v 8), (.v 9), (.v 10), (.v 11)])
 (.op .lenS [(.v 6)]
 (.op (.bin .add false) [(.v 9), (.v 13)]
 (.ret [(.c (.bool true)), (.v 8), (.v 14), (.v 10), (.v 11)]))))
def ir52 : IR :=
 (.call 60 7 false [] [(.v 1), (.v 2), (.v 3), (.v 4)]
 (.letj 1
  (.op (.bin .geq false) [(.v 10), (.c (.int .i64 0))]
  (.ite (.v 12)
   (.jump 0 [(.c (.bool true))])
  (.op (.bin .neq false) [(.v 5), (.v 0)]
  (.jump 0 [(.v 13)]))))
 ir52p0))
theorem rd52 : readFn T SG sigs 3000 sg52 Tryd.f102 an52 = some ir52 := by kernel_rfl
def an53 : Ann := (.s none .z (.s (some ⟨4, [(0, .junk)], [(0, ⟨false, false, 108, 4, (.c (.sl [])), [[(.atm (.v 0)), (.atm (.v 1)), (.atm (.v 2)), (.atm (.v 3))]]⟩)], 2, []⟩) .z .z))
def ir53p0 : IR :=
 (.ret [(.c (.int .i64 0)), (.c (.str [])), (.c (.sl [])), (.v 4), (.v 5), (.v 6), (.v 7)])
def ir53 : IR :=
 (.letj 4
  (.op (.bin .lss false) [(.v 2), (.c (.int .i64 0))]
  (.ite (.v 4)
   (.call 60 7 false [] [(.v 0), (.v 1), (.v 2), (.v 3)]
   (.jump 0 [(.v 8), (.v 9), (.v 7), (.v 11)]))
  (.jump 0 [(.v 0), (.v 1), (.v 2), (.v 3)])))
 ir53p0)
theorem rd53 : readFn T SG sigs 3000 sg53 Tryd.f103 an53 = some ir53 := by kernel_rfl
def an54 : Ann := (.s none .z (.s none .z (.s none (.s none .z (.b (.s (some ⟨1, [(0, .junk), (1, .junk), (2, .junk), (4, .junk), (5, .junk), (6, .junk), (7, .junk), (9, (.atm (.v 0)))], [], 1, []⟩) .z (.c .z (.s none .z (.c .z (.s (some ⟨1, [(9, .junk), (15, .junk), (16, .junk), (19, (.atm (.v 0)))], [], 1, []⟩) .z (.c .z (.s (some ⟨1, [(8, .junk), (19, .junk), (28, (.atm (.v 0)))], [], 1, []⟩) .z .z))))))))) .z)))
def ir54p0 : IR :=
 (.ite (.v 7)
  (.op (.bin .eql false) [(.v 3), (.c (.int .i64 2))]
  (.ret [(.v 8)]))
 (.ret [(.c (.bool false))]))
def ir54p1 : IR :=
 (.ite (.v 6)
  (.op (.bin .geq false) [(.v 3), (.c (.int .i64 2))]
  (.ite (.v 7)
   (.op (.bin .leq false) [(.v 3), (.c (.int .i64 6))]
   (.ret [(.v 8)]))
  (.ret [(.c (.bool false))])))
 (.letj 1
  (.op (.bin .eql false) [(.v 0), (.c (.int .i64 7))]
  (.ite (.v 7)
   (.jump 0 [(.c (.bool true))])
  (.op (.bin .eql false) [(.v 0), (.c (.int .i64 8))]
  (.jump 0 [(.v 8)]))))
 ir54p0))
def ir54p2 : IR :=
 (.ite (.v 4)
  (.op (.bin .eql false) [(.v 3), (.c (.int .i64 0))]
  (.ret [(.v 5)]))
 (.op (.bin .eql false) [(.v 0), (.c (.int .i64 4))]
 (.ite (.v 5)
  (.op (.bin .eql false) [(.v 3), (.c (.int .i64 1))]
  (.ret [(.v 6)]))
 (.letj 1
  (.op (.bin .eql false) [(.v 0), (.c (.int .i64 5))]
  (.ite (.v 6)
   (.jump 0 [(.c (.bool true))])
  (.op (.bin .eql false) [(.v 0), (.c (.int .i64 6))]
  (.jump 0 [(.v 7)]))))
 ir54p1))))
def ir54 : IR :=
 (.op .lenL [(.v 2)]
 (.letj 1
  (.op (.bin .eql false) [(.v 0), (.c (.int .i64 1))]
  (.ite (.v 4)
   (.jump 0 [(.c (.bool true))])
  (.op (.bin .eql false) [(.v 0), (.c (.int .i64 2))]
  (.ite (.v 5)
   (.jump 0 [(.c (.bool true))])
  (.op (.bin .eql false) [(.v 0), (.c (.int .i64 3))]
  (.jump 0 [(.v 6)]))))))
 ir54p2))
theorem rd54 : readFn T SG sigs 3000 sg54 Tryd.f73 an54 = some ir54 := by kernel_rfl
def an55 : Ann := .z
def ir55 : IR :=
 (.op (.bin .eql false) [(.v 0), (.c (.int .i64 3))]
 (.ite (.v 3)
  (.call 44 1 false [] [(.v 1)]
  (.ret [(.v 4)]))
 (.op (.bin .eql false) [(.v 1), (.c (.str []))]
 (.ret [(.v 4)]))))
theorem rd55 : readFn T SG sigs 3000 sg55 Tryd.f74 an55 = some ir55 := by kernel_rfl
def an56 : Ann := (.s none .z (.s none (.s (some ⟨1, [(0, .junk), (1, .junk), (4, .junk), (6, .junk), (14, (.atm (.v 0)))], [], 5, []⟩) .z .z) .z))
def ir56p0 : IR :=
 (.ite (.v 7)
  (.call 62 3 false [] [(.v 4), (.v 5), (.v 6)]
  (.ret [(.v 8), (.v 9), (.v 10), (.c (.bool true)), (.v 3), (.v 4), (.v 5), (.v 6)]))
 (.ret [(.c (.int .i64 0)), (.c (.str [])), (.c (.sl [])), (.c (.bool false)), (.v 3), (.v 4), (.v 5), (.v 6)]))
def ir56 : IR :=
 (.letj 1
  (.call 61 1 false [] [(.v 0), (.v 1), (.v 2)]
  (.ite (.v 7)
   (.op (.bin .eql false) [(.v 1), (.v 3)]
   (.jump 0 [(.v 8)]))
  (.jump 0 [(.c (.bool false))])))
 ir56p0)
theorem rd56 : readFn T SG sigs 3000 sg56 Tryd.f80 an56 = some ir56 := by kernel_rfl
def an57 : Ann := .z
def ir57 : IR :=
 (.op .lenL [(.v 0)]
 (.op (.conv .u64) [(.v 1)]
 (.op (.bin .shl false) [(.c (.int .i64 1)), (.v 2)]
 (.ret [(.v 3)]))))
theorem rd57 : readFn T SG sigs 3000 sg57 Tryd.f48 an57 = some ir57 := by kernel_rfl
def an58 : Ann := .z
def ir58 : IR :=
 (.op (.conv .u64) [(.v 1)]
 (.op (.bin .shr false) [(.v 0), (.v 2)]
 (.op (.bin .and false) [(.v 3), (.c (.int .u64 1))]
 (.op (.bin .eql false) [(.v 4), (.c (.int .u64 1))]
 (.ret [(.v 5)])))))
theorem rd58 : readFn T SG sigs 3000 sg58 Tryd.f87 an58 = some ir58 := by kernel_rfl
def an59 : Ann := .z
def ir59 : IR :=
 (.call 63 7 false [] [(.v 0), (.v 1), (.v 2), (.v 3)]
 (.call 52 5 false [] [(.c (.str [45, 62])), (.v 7), (.v 8), (.v 9), (.v 10)]
 (.op (.un .not) [(.v 11)]
 (.ite (.v 16)
  (.ret [(.v 4), (.v 5), (.v 6), (.v 12), (.v 13), (.v 14), (.v 15)])
 (.call 59 7 false [] [(.v 12), (.v 13), (.v 14), (.v 15)]
 (.op (.mk 3 2) [(.v 4), (.v 5), (.v 6), (.v 17), (.v 18), (.v 19)]
 (.ret [(.c (.int .i64 7)), (.c (.str [])), (.v 24), (.v 20), (.v 21), (.v 22), (.v 23)])))))))
theorem rd59 : readFn T SG sigs 3000 sg59 Tryd.f112 an59 = some ir59 := by kernel_rfl
def an60 : Ann := (.s none .z (.s none (.b (.l ⟨4, [], [(0, ⟨false, false, 108, 4, (.c (.sl [])), [[(.atm (.v 0)), (.atm (.v 1)), (.atm (.v 2)), (.atm (.v 3))]]⟩)], 2, []⟩ (.s none (.s (some ⟨1, [(29, (.atm (.v 0)))], [], 2, []⟩) .z .z) .z))) (.s none .z (.s none .z (.s none .z (.s none (.b (.l ⟨1, [(4, (.atm (.v 0))), (29, .junk), (37, .junk), (38, .junk), (39, .junk), (40, .junk), (41, .junk), (42, .junk), (43, .junk), (44, .junk), (45, .junk), (46, .junk), (47, .junk)], [], 2, []⟩ (.s none (.s (some ⟨1, [(63, (.atm (.v 0)))], [], 2, []⟩) .z .z) .z))) (.s none (.s none .z (.b (.s (some ⟨1, [(63, .junk), (66, .junk), (67, .junk), (68, .junk), (69, (.atm (.v 0)))], [], 2, []⟩) .z .z))) (.s none (.s none .z (.b (.l ⟨1, [(4, .junk), (5, .junk), (69, .junk), (83, .junk), (84, .junk), (85, .junk), (92, .junk), (93, .junk), (94, .junk), (103, (.atm (.v 0)))], [], 3, []⟩ (.s none .z (.s none .z (.s none (.b (.s none .z (.s (some ⟨1, [(104, .junk), (105, .junk), (106, .junk), (119, (.atm (.v 0)))], [], 3, []⟩) .z .z))) .z)))))) .z))))))))
def ir60p0 : IR :=
 (.ite (.v 23)
  (.ret [(.v 22), (.v 22), (.v 5), (.v 4), (.v 5), (.v 6), (.v 7)])
 (.op (.bin .add false) [(.v 20), (.c (.int .i64 1))]
 (.jump 2 [(.v 24)])))
def ir60p1 : IR :=
 (.op (.bin .lss false) [(.v 20), (.v 19)]
 (.ite (.v 21)
  (.op .chk [(.v 18), (.v 20)]
  (.op (.get 0 1) [(.v 18), (.v 20)]
  (.letj 1
   (.op .lenS [(.v 10)]
   (.op .lenS [(.v 22)]
   (.op (.bin .geq false) [(.v 23), (.v 24)]
   (.ite (.v 25)
    (.op .lenS [(.v 22)]
    (.op .subS [(.v 10), (.c (.int .i64 0)), (.v 26)]
    (.op (.bin .eql false) [(.v 27), (.v 22)]
    (.jump 3 [(.v 28)]))))
   (.jump 3 [(.c (.bool false))])))))
  ir60p0)))
 (.ret [(.c (.str [63])), (.c (.str [])), (.v 5), (.v 4), (.v 5), (.v 6), (.v 7)])))
def ir60p2 : IR :=
 (.ite (.v 15)
  (.ret [(.v 14), (.v 14), (.v 5), (.v 4), (.v 5), (.v 6), (.v 7)])
 (.call 44 1 false [] [(.v 14)]
 (.ite (.v 16)
  (.ret [(.c (.str [110, 97, 109, 101])), (.v 14), (.v 5), (.v 4), (.v 5), (.v 6), (.v 7)])
 (.op (.bin .gtr false) [(.v 12), (.c (.int .i64 0))]
 (.ite (.v 17)
  (.ret [(.c (.str [63])), (.v 14), (.v 5), (.v 4), (.v 5), (.v 6), (.v 7)])
 (.op (.mk 1 7) [(.c (.str [60, 45, 62])), (.c (.str [45, 62])), (.c (.str [126])), (.c (.str [38])), (.c (.str [124])), (.c (.str [40])), (.c (.str [41]))]
 (.op .lenL [(.v 18)]
 (.loop 1 [(.c (.int .i64 0))] ir60p1))))))))
def ir60p3 : IR :=
 (.ite (.v 13)
  (.op (.bin .add false) [(.v 12), (.c (.int .i64 1))]
  (.jump 1 [(.v 14)]))
 (.op .subS [(.v 10), (.c (.int .i64 0)), (.v 12)]
 (.letj 1
  (.op (.bin .eql false) [(.v 14), (.c (.str [48]))]
  (.ite (.v 15)
   (.jump 2 [(.c (.bool true))])
  (.op (.bin .eql false) [(.v 14), (.c (.str [49]))]
  (.jump 2 [(.v 16)]))))
 ir60p2)))
def ir60p4 : IR :=
 (.letj 1
  (.op .lenS [(.v 10)]
  (.op (.bin .lss false) [(.v 12), (.v 13)]
  (.ite (.v 14)
   (.op .idxS [(.v 10), (.v 12)]
   (.call 64 1 false [] [(.v 15)]
   (.jump 2 [(.v 16)])))
  (.jump 2 [(.c (.bool false))]))))
 ir60p3)
def ir60p5 : IR :=
 (.ite (.v 8)
  (.op (.bin .add false) [(.v 5), (.c (.int .i64 1))]
  (.jump 0 [(.v 4), (.v 9), (.v 6), (.v 7)]))
 (.op .lenS [(.v 4)]
 (.op .subS [(.v 4), (.v 5), (.v 9)]
 (.op (.bin .eql false) [(.v 10), (.c (.str []))]
 (.ite (.v 11)
  (.op .lenS [(.v 4)]
  (.ret [(.c (.str [])), (.c (.str [])), (.v 12), (.v 4), (.v 5), (.v 6), (.v 7)]))
 (.loop 1 [(.c (.int .i64 0))] ir60p4))))))
def ir60p6 : IR :=
 (.letj 1
  (.op .lenS [(.v 4)]
  (.op (.bin .lss false) [(.v 5), (.v 8)]
  (.ite (.v 9)
   (.op .idxS [(.v 4), (.v 5)]
   (.op (.bin .eql false) [(.v 10), (.c (.int .u8 32))]
   (.jump 1 [(.v 11)])))
  (.jump 1 [(.c (.bool false))]))))
 ir60p5)
def ir60 : IR :=
 (.loop 4 [(.v 0), (.v 1), (.v 2), (.v 3)] ir60p6)
theorem rd60 : readFn T SG sigs 3000 sg60 Tryd.f113 an60 = some ir60 := by kernel_rfl
def an61 : Ann := .z
def ir61 : IR :=
 (.op (.bin .eql false) [(.v 0), (.c (.int .i64 3))]
 (.ite (.v 3)
  (.op .lenL [(.v 2)]
  (.op (.bin .eql false) [(.v 4), (.c (.int .i64 0))]
  (.ret [(.v 5)])))
 (.ret [(.c (.bool false))])))
theorem rd61 : readFn T SG sigs 3000 sg61 Tryd.f81 an61 = some ir61 := by kernel_rfl
def an62 : Ann := (.s none .z (.s none .z (.s none .z (.s none (.s none .z (.b (.l ⟨2, [(0, .junk), (2, .junk), (5, .junk), (6, .junk), (10, .junk), (11, .junk), (12, .junk), (13, .junk), (14, .junk), (15, .junk), (16, .junk), (18, .junk), (19, .junk), (20, .junk), (21, .junk), (22, .junk), (23, .junk), (26, (.atm (.v 0)))], [(4, ⟨false, true, 33, 3, (.v 1), []⟩)], 5, [⟨some (3, 0, 2), 0, 33, 3⟩]⟩ .z))) .z))))
def ir62p0 : IR :=
 (.op (.bin .lss false) [(.v 8), (.v 7)]
 (.ite (.v 10)
  (.op (.row 3) [(.v 2), (.v 8)]
  (.call 62 3 false [] [(.v 11), (.v 12), (.v 13)]
  (.op (.mk 3 1) [(.v 14), (.v 15), (.v 16)]
  (.op (.app 3 48) [(.v 9), (.v 17)]
  (.op (.bin .add false) [(.v 8), (.c (.int .i64 1))]
  (.jump 0 [(.v 19), (.v 18)]))))))
 (.ret [(.v 0), (.v 1), (.v 9)])))
def ir62 : IR :=
 (.call 65 4 false [] [(.v 0), (.v 1), (.v 2)]
 (.ite (.v 6)
  (.ret [(.v 3), (.v 4), (.v 5)])
 (.op .lenL [(.v 2)]
 (.loop 2 [(.c (.int .i64 0)), (.c (.sl []))] ir62p0))))
theorem rd62 : readFn T SG sigs 3000 sg62 Tryd.f79 an62 = some ir62 := by kernel_rfl
def an63 : Ann := .z
def ir63 : IR :=
 (.call 66 7 false [] [(.c (.int .i64 6)), (.c (.str [124])), (.v 0), (.v 1), (.v 2), (.v 3)]
 (.ret [(.v 4), (.v 5), (.v 6), (.v 7), (.v 8), (.v 9), (.v 10)]))
theorem rd63 : readFn T SG sigs 3000 sg63 Tryd.f117 an63 = some ir63 := by kernel_rfl
def an64 : Ann := .z
def ir64 : IR :=
 (.op (.bin .geq false) [(.v 0), (.c (.int .u8 97))]
 (.ite (.v 1)
  (.op (.bin .leq false) [(.v 0), (.c (.int .u8 122))]
  (.ite (.v 2)
   (.ret [(.c (.bool true))])
  (.op (.bin .geq false) [(.v 0), (.c (.int .u8 65))]
  (.ite (.v 3)
   (.op (.bin .leq false) [(.v 0), (.c (.int .u8 90))]
   (.ite (.v 4)
    (.ret [(.c (.bool true))])
   (.op (.bin .geq false) [(.v 0), (.c (.int .u8 48))]
   (.ite (.v 5)
    (.op (.bin .leq false) [(.v 0), (.c (.int .u8 57))]
    (.ite (.v 6)
     (.ret [(.c (.bool true))])
    (.op (.bin .eql false) [(.v 0), (.c (.int .u8 95))]
    (.ret [(.v 7)]))))
   (.op (.bin .eql false) [(.v 0), (.c (.int .u8 95))]
   (.ret [(.v 6)]))))))
  (.op (.bin .geq false) [(.v 0), (.c (.int .u8 48))]
  (.ite (.v 4)
   (.op (.bin .leq false) [(.v 0), (.c (.int .u8 57))]
   (.ite (.v 5)
    (.ret [(.c (.bool true))])
   (.op (.bin .eql false) [(.v 0), (.c (.int .u8 95))]
   (.ret [(.v 6)]))))
  (.op (.bin .eql false) [(.v 0), (.c (.int .u8 95))]
  (.ret [(.v 5)]))))))))
 (.op (.bin .geq false) [(.v 0), (.c (.int .u8 65))]
 (.ite (.v 2)
  (.op (.bin .leq false) [(.v 0), (.c (.int .u8 90))]
  (.ite (.v 3)
   (.ret [(.c (.bool true))])
  (.op (.bin .geq false) [(.v 0), (.c (.int .u8 48))]
  (.ite (.v 4)
   (.op (.bin .leq false) [(.v 0), (.c (.int .u8 57))]
   (.ite (.v 5)
    (.ret [(.c (.bool true))])
   (.op (.bin .eql false) [(.v 0), (.c (.int .u8 95))]
   (.ret [(.v 6)]))))
  (.op (.bin .eql false) [(.v 0), (.c (.int .u8 95))]
  (.ret [(.v 5)]))))))
 (.op (.bin .geq false) [(.v 0), (.c (.int .u8 48))]
 (.ite (.v 3)
  (.op (.bin .leq false) [(.v 0), (.c (.int .u8 57))]
  (.ite (.v 4)
   (.ret [(.c (.bool true))])
  (.op (.bin .eql false) [(.v 0), (.c (.int .u8 95))]
  (.ret [(.v 5)]))))
 (.op (.bin .eql false) [(.v 0), (.c (.int .u8 95))]
 (.ret [(.v 4)]))))))))
theorem rd64 : readFn T SG sigs 3000 sg64 Tryd.f118 an64 = some ir64 := by kernel_rfl
def an65 : Ann := .z
def ir65 : IR :=
 (.ret [(.c (.int .i64 0)), (.c (.str [])), (.c (.sl [])), (.c (.bool false))])
theorem rd65 : readFn T SG sigs 3000 sg65 Tryd.f78 an65 = some ir65 := by kernel_rfl
def an66 : Ann := (.s none .z (.s none .z (.s none .z (.s none .z (.s none (.b (.l ⟨5, [(1, .junk), (9, .junk), (11, .junk), (12, .junk), (13, .junk), (14, .junk), (15, .junk), (16, .junk), (17, .junk), (19, .junk), (20, .junk), (21, .junk), (22, .junk)], [(0, ⟨false, false, 108, 4, (.c (.sl [])), [[(.atm (.v 0)), (.atm (.v 1)), (.atm (.v 2)), (.atm (.v 3))]]⟩), (3, ⟨false, true, 33, 3, (.v 4), []⟩)], 5, []⟩ .z)) (.s (some ⟨4, [(0, .junk), (2, .junk), (3, .junk), (23, .junk), (24, .junk), (25, .junk)], [(0, ⟨false, false, 108, 4, (.c (.sl [])), [[(.atm (.v 0)), (.atm (.v 1)), (.atm (.v 2)), (.atm (.v 3))]]⟩)], 5, []⟩) .z .z))))))
def ir66p0 : IR :=
 (.ret [(.v 0), (.c (.str [])), (.v 26), (.v 32), (.v 33), (.v 34), (.v 35)])
def ir66p1 : IR :=
 (.call 52 5 false [] [(.v 1), (.v 22), (.v 23), (.v 24), (.v 25)]
 (.ite (.v 27)
  (.call 67 7 false [] [(.v 28), (.v 29), (.v 30), (.v 31)]
  (.op (.mk 3 1) [(.v 32), (.v 33), (.v 34)]
  (.op (.app 3 48) [(.v 26), (.v 39)]
  (.jump 0 [(.v 35), (.v 36), (.v 37), (.v 38), (.v 40)]))))
 (.letj 4
  (.ite (.v 31)
   (.jump 1 [(.v 28), (.v 29), (.v 30), (.c (.bool true))])
  (.op .lenL [(.v 26)]
  (.op (.bin .gtr false) [(.v 32), (.c (.int .i64 6))]
  (.jump 1 [(.v 28), (.v 29), (.v 30), (.v 33)]))))
 ir66p0)))
def ir66 : IR :=
 (.call 67 7 false [] [(.v 2), (.v 3), (.v 4), (.v 5)]
 (.call 60 7 false [] [(.v 9), (.v 10), (.v 11), (.v 12)]
 (.op (.bin .neq false) [(.v 13), (.v 1)]
 (.ite (.v 20)
  (.ret [(.v 6), (.v 7), (.v 8), (.v 16), (.v 17), (.v 18), (.v 19)])
 (.op (.mk 3 1) [(.v 6), (.v 7), (.v 8)]
 (.loop 5 [(.v 16), (.v 17), (.v 18), (.v 19), (.v 21)] ir66p1))))))
theorem rd66 : readFn T SG sigs 3000 sg66 Tryd.f131 an66 = some ir66 := by kernel_rfl
def an67 : Ann := .z
def ir67 : IR :=
 (.call 68 7 false [] [(.c (.int .i64 5)), (.c (.str [38])), (.v 0), (.v 1), (.v 2), (.v 3)]
 (.ret [(.v 4), (.v 5), (.v 6), (.v 7), (.v 8), (.v 9), (.v 10)]))
theorem rd67 : readFn T SG sigs 3000 sg67 Tryd.f132 an67 = some ir67 := by kernel_rfl
def an68 : Ann := (.s none .z (.s none .z (.s none .z (.s none .z (.s none (.b (.l ⟨5, [(1, .junk), (9, .junk), (11, .junk), (12, .junk), (13, .junk), (14, .junk), (15, .junk), (16, .junk), (17, .junk), (19, .junk), (20, .junk), (21, .junk), (22, .junk)], [(0, ⟨false, false, 108, 4, (.c (.sl [])), [[(.atm (.v 0)), (.atm (.v 1)), (.atm (.v 2)), (.atm (.v 3))]]⟩), (3, ⟨false, true, 33, 3, (.v 4), []⟩)], 5, []⟩ .z)) (.s (some ⟨4, [(0, .junk), (2, .junk), (3, .junk), (23, .junk), (24, .junk), (25, .junk)], [(0, ⟨false, false, 108, 4, (.c (.sl [])), [[(.atm (.v 0)), (.atm (.v 1)), (.atm (.v 2)), (.atm (.v 3))]]⟩)], 5, []⟩) .z .z))))))
def ir68p0 : IR :=
 (.ret [(.v 0), (.c (.str [])), (.v 26), (.v 32), (.v 33), (.v 34), (.v 35)])
def ir68p1 : IR :=
 (.call 52 5 false [] [(.v 1), (.v 22), (.v 23), (.v 24), (.v 25)]
 (.ite (.v 27)
  (.call 69 7 false [] [(.v 28), (.v 29), (.v 30), (.v 31)]
  (.op (.mk 3 1) [(.v 32), (.v 33), (.v 34)]
  (.op (.app 3 48) [(.v 26), (.v 39)]
  (.jump 0 [(.v 35), (.v 36), (.v 37), (.v 38), (.v 40)]))))
 (.letj 4
  (.ite (.v 31)
   (.jump 1 [(.v 28), (.v 29), (.v 30), (.c (.bool true))])
  (.op .lenL [(.v 26)]
  (.op (.bin .gtr false) [(.v 32), (.c (.int .i64 6))]
  (.jump 1 [(.v 28), (.v 29), (.v 30), (.v 33)]))))
 ir68p0)))
def ir68 : IR :=
 (.call 69 7 false [] [(.v 2), (.v 3), (.v 4), (.v 5)]
 (.call 60 7 false [] [(.v 9), (.v 10), (.v 11), (.v 12)]
 (.op (.bin .neq false) [(.v 13), (.v 1)]
 (.ite (.v 20)
  (.ret [(.v 6), (.v 7), (.v 8), (.v 16), (.v 17), (.v 18), (.v 19)])
 (.op (.mk 3 1) [(.v 6), (.v 7), (.v 8)]
 (.loop 5 [(.v 16), (.v 17), (.v 18), (.v 19), (.v 21)] ir68p1))))))
theorem rd68 : readFn T SG sigs 3000 sg68 Tryd.f131 an68 = some ir68 := by kernel_rfl
def an69 : Ann := .z
def ir69 : IR :=
 (.call 60 7 false [] [(.v 0), (.v 1), (.v 2), (.v 3)]
 (.op (.bin .geq false) [(.v 9), (.c (.int .i64 0))]
 (.ite (.v 11)
  (.ret [(.c (.int .i64 0)), (.c (.str [])), (.c (.sl [])), (.v 7), (.v 8), (.v 9), (.v 10)])
 (.call 52 5 false [] [(.c (.str [110, 97, 109, 101])), (.v 7), (.v 8), (.v 9), (.v 10)]
 (.ite (.v 12)
  (.ret [(.c (.int .i64 3)), (.v 5), (.c (.sl [])), (.v 13), (.v 14), (.v 15), (.v 16)])
 (.call 52 5 false [] [(.c (.str [48])), (.v 13), (.v 14), (.v 15), (.v 16)]
 (.ite (.v 17)
  (.ret [(.c (.int .i64 2)), (.c (.str [])), (.c (.sl [])), (.v 18), (.v 19), (.v 20), (.v 21)])
 (.call 52 5 false [] [(.c (.str [49])), (.v 18), (.v 19), (.v 20), (.v 21)]
 (.ite (.v 22)
  (.ret [(.c (.int .i64 1)), (.c (.str [])), (.c (.sl [])), (.v 23), (.v 24), (.v 25), (.v 26)])
 (.call 52 5 false [] [(.c (.str [126])), (.v 23), (.v 24), (.v 25), (.v 26)]
 (.ite (.v 27)
  (.call 69 7 false [] [(.v 28), (.v 29), (.v 30), (.v 31)]
  (.op (.mk 3 1) [(.v 32), (.v 33), (.v 34)]
  (.ret [(.c (.int .i64 4)), (.c (.str [])), (.v 39), (.v 35), (.v 36), (.v 37), (.v 38)])))
 (.call 52 5 false [] [(.c (.str [40])), (.v 28), (.v 29), (.v 30), (.v 31)]
 (.ite (.v 32)
  (.call 51 7 false [] [(.v 33), (.v 34), (.v 35), (.v 36)]
  (.call 52 5 false [] [(.c (.str [41])), (.v 40), (.v 41), (.v 42), (.v 43)]
  (.op (.un .not) [(.v 44)]
  (.ite (.v 49)
   (.call 53 7 false [] [(.v 45), (.v 46), (.v 47), (.v 48)]
   (.ret [(.v 50), (.v 51), (.v 52), (.v 53), (.v 54), (.v 55), (.v 56)]))
  (.ret [(.v 37), (.v 38), (.v 39), (.v 45), (.v 46), (.v 47), (.v 48)])))))
 (.call 53 7 false [] [(.v 33), (.v 34), (.v 35), (.v 36)]
 (.ret [(.v 37), (.v 38), (.v 39), (.v 40), (.v 41), (.v 42), (.v 43)])))))))))))))))
theorem rd69 : readFn T SG sigs 3000 sg69 Tryd.f139 an69 = some ir69 := by kernel_rfl
end Go.Proofs.YtefkehflmlikmaaDoor

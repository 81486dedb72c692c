/- Plain programs of the functions of the program and lemmas about what they compute. -/
import Derived.Test.YtefkehflmlikmaaDoorAmSe21
import Derived.Test.YtefkehflmlikmaaDoorProg
import Derived.KernelRfl
set_option linter.unusedSimpArgs false
set_option linter.unusedVariables false
set_option linter.unusedSectionVars false
namespace Go.Proofs.YtefkehflmlikmaaDoor
open Go Am
set_option maxRecDepth 100000
abbrev fnD (f : Nat) : D := .raw (.func (.func f) #[] #[])
def T : Tab := [
 (3, ⟨1, 8, true, true, false, none, none, (some .i64), false, false, (some (.int .i64 0)), [], none⟩),
 (4, ⟨1, 1, true, true, false, none, none, none, false, true, (some (.bool false)), [], none⟩),
 (5, ⟨1, 1, true, true, false, none, none, (some .u8), false, false, (some (.int .u8 0)), [], none⟩),
 (9, ⟨1, 16, true, true, false, none, none, none, true, false, (some (.string ⟨⟨[]⟩⟩)), [], none⟩),
 (22, ⟨1, 24, true, true, false, (some 3), none, none, false, false, (some (.slice none 0 0)), [], none⟩),
 (23, ⟨1, 8, true, true, false, none, none, none, false, false, (some (.pointer none)), [], none⟩),
 (26, ⟨1, 24, true, true, false, (some 9), none, none, false, false, (some (.slice none 0 0)), [], none⟩),
 (28, ⟨1, 8, true, true, false, none, none, (some .u64), false, false, (some (.int .u64 0)), [], none⟩),
 (31, ⟨1, 24, true, true, false, (some 33), none, none, false, false, (some (.slice none 0 0)), [], none⟩),
 (33, ⟨3, 48, true, true, true, none, none, none, false, false, (some (.agg #[(.int .i64 0), (.string ⟨⟨[]⟩⟩), (.slice none 0 0)])), [(0, 3), (1, 9), (2, 31)], (some [(0, 1), (1, 1), (2, 1)])⟩),
 (35, ⟨1, 8, true, true, false, none, none, (some .i64), false, false, (some (.int .i64 0)), [], none⟩),
 (42, ⟨1, 8, true, true, false, none, none, (some .u64), false, false, (some (.int .u64 0)), [], none⟩),
 (48, ⟨1, 24, true, true, false, (some 26), none, none, false, false, (some (.slice none 0 0)), [], none⟩),
 (49, ⟨1, 24, true, true, false, (some 28), none, none, false, false, (some (.slice none 0 0)), [], none⟩),
 (67, ⟨2, 32, true, true, true, none, none, none, false, false, (some (.agg #[(.slice none 0 0), (.int .i64 0)])), [(0, 22), (1, 3)], (some [(0, 1), (1, 1)])⟩),
 (68, ⟨1, 24, true, true, false, (some 5), none, none, false, false, (some (.slice none 0 0)), [], none⟩),
 (91, ⟨1, 8, true, true, false, none, none, none, false, false, (some .nilFunc), [], none⟩),
 (92, ⟨1, 8, true, true, false, none, none, none, false, false, (some (.pointer none)), [], none⟩),
 (94, ⟨2, 32, true, true, true, none, none, none, false, false, (some (.agg #[(.pointer none), (.slice none 0 0)])), [(0, 92), (1, 68)], (some [(0, 1), (1, 1)])⟩),
 (106, ⟨1, 8, true, true, false, none, none, none, false, false, (some (.pointer none)), [], none⟩),
 (108, ⟨4, 40, true, true, true, none, none, none, false, false, (some (.agg #[(.string ⟨⟨[]⟩⟩), (.int .i64 0), (.int .i64 0), (.bool false)])), [(0, 9), (1, 3), (2, 3), (3, 4)], (some [(0, 1), (1, 1), (2, 1), (3, 1)])⟩),
 (109, ⟨1, 8, true, true, false, none, none, none, false, false, (some .nilFunc), [], none⟩),
 (121, ⟨64, 64, true, true, true, none, (some (64, 5)), none, false, false, (some (.agg #[(.int .u8 0), (.int .u8 0), (.int .u8 0), (.int .u8 0), (.int .u8 0), (.int .u8 0), (.int .u8 0), (.int .u8 0), (.int .u8 0), (.int .u8 0), (.int .u8 0), (.int .u8 0), (.int .u8 0), (.int .u8 0), (.int .u8 0), (.int .u8 0), (.int .u8 0), (.int .u8 0), (.int .u8 0), (.int .u8 0), (.int .u8 0), (.int .u8 0), (.int .u8 0), (.int .u8 0), (.int .u8 0), (.int .u8 0), (.int .u8 0), (.int .u8 0), (.int .u8 0), (.int .u8 0), (.int .u8 0), (.int .u8 0), (.int .u8 0), (.int .u8 0), (.int .u8 0), (.int .u8 0), (.int .u8 0), (.int .u8 0), (.int .u8 0), (.int .u8 0), (.int .u8 0), (.int .u8 0), (.int .u8 0), (.int .u8 0), (.int .u8 0), (.int .u8 0), (.int .u8 0), (.int .u8 0), (.int .u8 0), (.int .u8 0), (.int .u8 0), (.int .u8 0), (.int .u8 0), (.int .u8 0), (.int .u8 0), (.int .u8 0), (.int .u8 0), (.int .u8 0), (.int .u8 0), (.int .u8 0), (.int .u8 0), (.int .u8 0), (.int .u8 0), (.int .u8 0)])), [], none⟩),
 (124, ⟨3, 40, true, true, true, none, none, none, false, false, (some (.agg #[(.string ⟨⟨[]⟩⟩), (.string ⟨⟨[]⟩⟩), (.int .i64 0)])), [(0, 9), (1, 9), (2, 3)], (some [(0, 1), (1, 1), (2, 1)])⟩)]
theorem tok : TOK Tryd.prog T := tok_of (by kernel_rfl)
def SG : SGlob := []
def sg0 : Sig := ⟨12, 4, [], [(.atm (.v 0)), (.atm (.v 1)), (.atm (.v 2)), (.atm (.v 3))], 1, [], (.atm (.v 0)), false, []⟩
def sg1 : Sig := ⟨27, 1, [], [(.atm (.v 0))], 1, [], (.atm (.v 0)), false, []⟩
def sg2 : Sig := ⟨13, 1, [], [(.atm (.v 0))], 2, [⟨false, false, 67, 2, (.c (.sl [])), [[(.atm (.v 0)), (.atm (.v 1))]]⟩], (.ptr 0 0 0), false, []⟩
def sg3 : Sig := ⟨23, 3, [⟨false, false, 67, 2, (.c (.sl [])), [[(.atm (.v 1)), (.atm (.v 2))]]⟩], [(.ptr 0 0 0), (.atm (.v 0))], 3, [⟨false, false, 67, 2, (.c (.sl [])), [[(.atm (.v 1)), (.atm (.v 2))]]⟩], (.atm (.v 0)), false, []⟩
def sg4 : Sig := ⟨15, 1, [], [(.atm (.v 0))], 1, [⟨false, true, 9, 1, (.v 0), []⟩], (.own 0), true, []⟩
def sg5 : Sig := ⟨28, 2, [⟨false, false, 67, 2, (.c (.sl [])), [[(.atm (.v 0)), (.atm (.v 1))]]⟩], [(.ptr 0 0 0)], 3, [⟨false, false, 67, 2, (.c (.sl [])), [[(.atm (.v 1)), (.atm (.v 2))]]⟩], (.atm (.v 0)), true, []⟩
def sg6 : Sig := ⟨41, 1, [], [(.atm (.v 0))], 1, [], (.atm (.v 0)), false, []⟩
def sg7 : Sig := ⟨42, 1, [], [(.atm (.v 0))], 1, [], (.atm (.v 0)), false, []⟩
def sg8 : Sig := ⟨34, 1, [], [(.atm (.v 0))], 1, [], (.atm (.v 0)), false, []⟩
def sg9 : Sig := ⟨16, 1, [], [(.atm (.v 0))], 1, [], (.atm (.v 0)), false, []⟩
def sg10 : Sig := ⟨17, 2, [⟨false, false, 67, 2, (.c (.sl [])), [[(.atm (.v 0)), (.atm (.v 1))]]⟩], [(.ptr 0 0 0)], 3, [⟨false, false, 67, 2, (.c (.sl [])), [[(.atm (.v 1)), (.atm (.v 2))]]⟩], (.atm (.v 0)), false, []⟩
def sg11 : Sig := ⟨44, 2, [], [(.atm (.v 0)), (.atm (.v 1))], 1, [], (.atm (.v 0)), true, []⟩
def sg12 : Sig := ⟨45, 2, [], [(.atm (.v 0)), (.atm (.v 1))], 1, [], (.atm (.v 0)), true, []⟩
def sg13 : Sig := ⟨43, 2, [], [(.atm (.v 0)), (.atm (.v 1))], 1, [], (.atm (.v 0)), false, []⟩
def sg14 : Sig := ⟨38, 1, [], [(.atm (.v 0))], 1, [], (.atm (.v 0)), false, []⟩
def sg15 : Sig := ⟨46, 1, [], [(.atm (.v 0))], 1, [], (.atm (.v 0)), false, []⟩
def sg16 : Sig := ⟨40, 3, [], [(.atm (.v 0)), (.atm (.v 1)), (.atm (.v 2))], 1, [], (.atm (.v 0)), false, []⟩
def sg17 : Sig := ⟨47, 3, [], [(.atm (.v 0)), (.atm (.v 1)), (.atm (.v 2))], 1, [], (.atm (.v 0)), false, []⟩
def sg18 : Sig := ⟨32, 0, [], [], 1, [], (.atm (.v 0)), false, []⟩
def sg19 : Sig := ⟨49, 2, [⟨false, false, 67, 2, (.c (.sl [])), [[(.atm (.v 0)), (.atm (.v 1))]]⟩], [(.ptr 0 0 0)], 3, [⟨false, false, 67, 2, (.c (.sl [])), [[(.atm (.v 1)), (.atm (.v 2))]]⟩], (.atm (.v 0)), false, []⟩
def sg20 : Sig := ⟨57, 2, [], [(.atm (.v 0)), (.atm (.v 1))], 1, [], (.atm (.v 0)), false, []⟩
def sg21 : Sig := ⟨62, 3, [⟨false, false, 67, 2, (.c (.sl [])), [[(.atm (.v 1)), (.atm (.v 2))]]⟩], [(.ptr 0 0 0), (.atm (.v 0))], 3, [⟨false, false, 67, 2, (.c (.sl [])), [[(.atm (.v 1)), (.atm (.v 2))]]⟩], (.atm (.v 0)), false, []⟩
def sg22 : Sig := ⟨84, 1, [], [(.atm (.v 0))], 1, [], (.atm (.v 0)), false, []⟩
def sg23 : Sig := ⟨85, 1, [], [(.atm (.v 0))], 1, [], (.atm (.v 0)), false, []⟩
def sg24 : Sig := ⟨69, 1, [], [(.atm (.v 0))], 1, [], (.atm (.v 0)), false, []⟩
def sg25 : Sig := ⟨48, 1, [], [(.atm (.v 0))], 1, [], (.atm (.v 0)), false, []⟩
def sg26 : Sig := ⟨86, 1, [], [(.atm (.v 0))], 1, [], (.atm (.v 0)), false, []⟩
def sg27 : Sig := ⟨87, 2, [], [(.atm (.v 0)), (.atm (.v 1))], 1, [], (.atm (.v 0)), false, []⟩
def sg28 : Sig := ⟨60, 1, [], [(.atm (.v 0))], 1, [], (.atm (.v 0)), false, []⟩
def sg29 : Sig := ⟨82, 2, [], [(.atm (.v 0)), (.atm (.v 1))], 1, [], (.atm (.v 0)), false, []⟩
def sg30 : Sig := ⟨83, 1, [], [(.atm (.v 0))], 1, [], (.atm (.v 0)), false, []⟩
def sg31 : Sig := ⟨52, 2, [], [(.atm (.v 0)), (.atm (.v 1))], 1, [], (.atm (.v 0)), false, []⟩
def sg32 : Sig := ⟨65, 1, [], [(.atm (.v 0))], 5, [], (.tup [(.agg [(.atm (.v 0)), (.atm (.v 1)), (.atm (.v 2))]), (.atm (.v 3)), (.atm (.v 4))]), true, []⟩
def sg33 : Sig := ⟨33, 4, [], [(.atm (.v 0)), (.agg [(.atm (.v 1)), (.atm (.v 2)), (.atm (.v 3))])], 2, [], (.tup [(.atm (.v 0)), (.atm (.v 1))]), false, []⟩
def sg34 : Sig := ⟨29, 2, [], [(.atm (.v 0)), (.atm (.v 1))], 4, [], (.tup [(.agg [(.atm (.v 0)), (.atm (.v 1)), (.atm (.v 2))]), (.atm (.v 3))]), true, []⟩
def sg35 : Sig := ⟨36, 3, [], [(.agg [(.atm (.v 0)), (.atm (.v 1)), (.atm (.v 2))])], 2, [], (.tup [(.atm (.v 0)), (.atm (.v 1))]), false, []⟩
def sg36 : Sig := ⟨101, 4, [⟨false, false, 108, 4, (.c (.sl [])), [[(.atm (.v 0)), (.atm (.v 1)), (.atm (.v 2)), (.atm (.v 3))]]⟩], [(.ptr 0 0 0)], 7, [⟨false, false, 108, 4, (.c (.sl [])), [[(.atm (.v 3)), (.atm (.v 4)), (.atm (.v 5)), (.atm (.v 6))]]⟩], (.agg [(.atm (.v 0)), (.atm (.v 1)), (.atm (.v 2))]), true, []⟩
def sg37 : Sig := ⟨102, 5, [⟨false, false, 108, 4, (.c (.sl [])), [[(.atm (.v 1)), (.atm (.v 2)), (.atm (.v 3)), (.atm (.v 4))]]⟩], [(.ptr 0 0 0), (.atm (.v 0))], 5, [⟨false, false, 108, 4, (.c (.sl [])), [[(.atm (.v 1)), (.atm (.v 2)), (.atm (.v 3)), (.atm (.v 4))]]⟩], (.atm (.v 0)), false, []⟩
def sg38 : Sig := ⟨103, 4, [⟨false, false, 108, 4, (.c (.sl [])), [[(.atm (.v 0)), (.atm (.v 1)), (.atm (.v 2)), (.atm (.v 3))]]⟩], [(.ptr 0 0 0)], 7, [⟨false, false, 108, 4, (.c (.sl [])), [[(.atm (.v 3)), (.atm (.v 4)), (.atm (.v 5)), (.atm (.v 6))]]⟩], (.agg [(.atm (.v 0)), (.atm (.v 1)), (.atm (.v 2))]), true, []⟩
def sg39 : Sig := ⟨70, 3, [], [(.agg [(.atm (.v 0)), (.atm (.v 1)), (.atm (.v 2))])], 1, [], (.atm (.v 0)), false, []⟩
def sg40 : Sig := ⟨71, 3, [], [(.agg [(.atm (.v 0)), (.atm (.v 1)), (.atm (.v 2))])], 1, [], (.atm (.v 0)), false, []⟩
def sg41 : Sig := ⟨35, 3, [], [(.agg [(.atm (.v 0)), (.atm (.v 1)), (.atm (.v 2))])], 1, [], (.atm (.v 0)), false, []⟩
def sg42 : Sig := ⟨66, 3, [], [(.agg [(.atm (.v 0)), (.atm (.v 1)), (.atm (.v 2))])], 1, [], (.atm (.v 0)), true, []⟩
def sg43 : Sig := ⟨67, 2, [], [(.atm (.v 0)), (.atm (.v 1))], 1, [], (.atm (.v 0)), false, []⟩
def sg44 : Sig := ⟨68, 4, [], [(.atm (.v 0)), (.agg [(.atm (.v 1)), (.atm (.v 2)), (.atm (.v 3))])], 1, [], (.atm (.v 0)), false, []⟩
def sg45 : Sig := ⟨63, 2, [], [(.atm (.v 0)), (.atm (.v 1))], 3, [], (.agg [(.atm (.v 0)), (.atm (.v 1)), (.atm (.v 2))]), true, []⟩
def sg46 : Sig := ⟨112, 4, [⟨false, false, 108, 4, (.c (.sl [])), [[(.atm (.v 0)), (.atm (.v 1)), (.atm (.v 2)), (.atm (.v 3))]]⟩], [(.ptr 0 0 0)], 7, [⟨false, false, 108, 4, (.c (.sl [])), [[(.atm (.v 3)), (.atm (.v 4)), (.atm (.v 5)), (.atm (.v 6))]]⟩], (.agg [(.atm (.v 0)), (.atm (.v 1)), (.atm (.v 2))]), true, []⟩
def sg47 : Sig := ⟨113, 4, [⟨false, false, 108, 4, (.c (.sl [])), [[(.atm (.v 0)), (.atm (.v 1)), (.atm (.v 2)), (.atm (.v 3))]]⟩], [(.ptr 0 0 0)], 7, [⟨false, false, 108, 4, (.c (.sl [])), [[(.atm (.v 3)), (.atm (.v 4)), (.atm (.v 5)), (.atm (.v 6))]]⟩], (.agg [(.atm (.v 0)), (.atm (.v 1)), (.atm (.v 2))]), false, []⟩
def sg48 : Sig := ⟨72, 3, [], [(.agg [(.atm (.v 0)), (.atm (.v 1)), (.atm (.v 2))]), (.atm (.c (fnD 73)))], 1, [], (.atm (.v 0)), false, []⟩
def sg49 : Sig := ⟨72, 3, [], [(.agg [(.atm (.v 0)), (.atm (.v 1)), (.atm (.v 2))]), (.atm (.c (fnD 74)))], 1, [], (.atm (.v 0)), false, []⟩
def sg50 : Sig := ⟨97, 1, [], [(.atm (.v 0))], 2, [], (.tup [(.atm (.v 0)), (.atm (.v 1))]), false, []⟩
def sg51 : Sig := ⟨98, 7, [], [(.atm (.v 0)), (.agg [(.atm (.v 1)), (.atm (.v 2)), (.atm (.v 3))]), (.agg [(.atm (.v 4)), (.atm (.v 5)), (.atm (.v 6))])], 3, [], (.agg [(.atm (.v 0)), (.atm (.v 1)), (.atm (.v 2))]), true, []⟩
def sg52 : Sig := ⟨117, 4, [⟨false, false, 108, 4, (.c (.sl [])), [[(.atm (.v 0)), (.atm (.v 1)), (.atm (.v 2)), (.atm (.v 3))]]⟩], [(.ptr 0 0 0)], 7, [⟨false, false, 108, 4, (.c (.sl [])), [[(.atm (.v 3)), (.atm (.v 4)), (.atm (.v 5)), (.atm (.v 6))]]⟩], (.agg [(.atm (.v 0)), (.atm (.v 1)), (.atm (.v 2))]), true, []⟩
def sg53 : Sig := ⟨118, 1, [], [(.atm (.v 0))], 1, [], (.atm (.v 0)), false, []⟩
def sg54 : Sig := ⟨73, 3, [], [(.agg [(.atm (.v 0)), (.atm (.v 1)), (.atm (.v 2))])], 1, [], (.atm (.v 0)), false, []⟩
def sg55 : Sig := ⟨74, 3, [], [(.agg [(.atm (.v 0)), (.atm (.v 1)), (.atm (.v 2))])], 1, [], (.atm (.v 0)), false, []⟩
def sg56 : Sig := ⟨131, 6, [⟨false, false, 108, 4, (.c (.sl [])), [[(.atm (.v 2)), (.atm (.v 3)), (.atm (.v 4)), (.atm (.v 5))]]⟩], [(.ptr 0 0 0), (.atm (.v 0)), (.atm (.v 1)), (.clo 132 [(.ptr 0 0 0)] [])], 7, [⟨false, false, 108, 4, (.c (.sl [])), [[(.atm (.v 3)), (.atm (.v 4)), (.atm (.v 5)), (.atm (.v 6))]]⟩], (.agg [(.atm (.v 0)), (.atm (.v 1)), (.atm (.v 2))]), true, []⟩
def sg57 : Sig := ⟨132, 4, [⟨false, false, 108, 4, (.c (.sl [])), [[(.atm (.v 0)), (.atm (.v 1)), (.atm (.v 2)), (.atm (.v 3))]]⟩], [(.ptr 0 0 0)], 7, [⟨false, false, 108, 4, (.c (.sl [])), [[(.atm (.v 3)), (.atm (.v 4)), (.atm (.v 5)), (.atm (.v 6))]]⟩], (.agg [(.atm (.v 0)), (.atm (.v 1)), (.atm (.v 2))]), true, []⟩
def sg58 : Sig := ⟨131, 6, [⟨false, false, 108, 4, (.c (.sl [])), [[(.atm (.v 2)), (.atm (.v 3)), (.atm (.v 4)), (.atm (.v 5))]]⟩], [(.ptr 0 0 0), (.atm (.v 0)), (.atm (.v 1)), (.clo 139 [(.ptr 0 0 0)] [])], 7, [⟨false, false, 108, 4, (.c (.sl [])), [[(.atm (.v 3)), (.atm (.v 4)), (.atm (.v 5)), (.atm (.v 6))]]⟩], (.agg [(.atm (.v 0)), (.atm (.v 1)), (.atm (.v 2))]), true, []⟩
def sg59 : Sig := ⟨139, 4, [⟨false, false, 108, 4, (.c (.sl [])), [[(.atm (.v 0)), (.atm (.v 1)), (.atm (.v 2)), (.atm (.v 3))]]⟩], [(.ptr 0 0 0)], 7, [⟨false, false, 108, 4, (.c (.sl [])), [[(.atm (.v 3)), (.atm (.v 4)), (.atm (.v 5)), (.atm (.v 6))]]⟩], (.agg [(.atm (.v 0)), (.atm (.v 1)), (.atm (.v 2))]), true, []⟩
def sigs : List Sig := [sg0, sg1, sg2, sg3, sg4, sg5, sg6, sg7, sg8, sg9, sg10, sg11, sg12, sg13, sg14, sg15, sg16, sg17, sg18, sg19, sg20, sg21, sg22, sg23, sg24, sg25, sg26, sg27, sg28, sg29, sg30, sg31, sg32, sg33, sg34, sg35, sg36, sg37, sg38, sg39, sg40, sg41, sg42, sg43, sg44, sg45, sg46, sg47, sg48, sg49, sg50, sg51, sg52, sg53, sg54, sg55, sg56, sg57, sg58, sg59]
def an0 : Ann := (.s none .z (.s none (.s (some ⟨1, [(8, .junk), (23, (.atm (.v 0)))], [], 0, []⟩) .z .z) (.s none .z (.s none (.s none .z (.b (.l ⟨3, [(0, .junk), (3, .junk), (23, .junk), (24, .junk), (25, .junk), (26, .junk), (27, .junk), (28, .junk), (29, .junk), (30, .junk), (31, .junk), (34, (.atm (.v 0)))], [(0, ⟨false, false, 67, 2, (.c (.sl [])), [[(.atm (.v 1)), (.atm (.v 2))]]⟩)], 3, []⟩ (.s none .z (.s none .z (.s none (.b (.s none .z (.s none (.s (some ⟨1, [(35, .junk), (36, .junk), (37, .junk), (49, (.atm (.v 0)))], [], 3, []⟩) .z .z) (.s none .z (.b (.l ⟨1, [(49, .junk), (50, .junk), (51, .junk), (52, .junk), (55, (.atm (.v 0)))], [], 4, []⟩ (.s none .z (.s none .z (.s none (.b (.s none .z (.s none (.s (some ⟨1, [(56, .junk), (57, .junk), (58, .junk), (84, (.atm (.v 0)))], [], 4, []⟩) .z .z) (.s none .z (.b (.l ⟨1, [(84, .junk), (87, (.atm (.v 0)))], [], 4, []⟩ .z)))))) .z))))))))) .z)))))) .z))))
def ir0p0 : IR :=
 (.op (.bin .lss false) [(.v 32), (.v 31)]
 (.ite (.v 33)
  (.op (.row 1) [(.v 20), (.v 32)]
  (.call 16 1 false [] [(.v 20), (.v 29), (.v 34)]
  (.call 17 1 false [] [(.v 20), (.v 29), (.v 34)]
  (.op (.bin .neq false) [(.v 35), (.v 36)]
  (.ite (.v 37)
   (.ret [(.c (.bool false))])
  (.op (.bin .add false) [(.v 32), (.c (.int .i64 1))]
  (.jump 2 [(.v 38)])))))))
 (.op (.bin .add false) [(.v 27), (.c (.int .i64 1))]
 (.jump 1 [(.v 34)]))))
def ir0p1 : IR :=
 (.ite (.v 30)
  (.ret [(.c (.bool false))])
 (.op .lenL [(.v 20)]
 (.loop 1 [(.c (.int .i64 0))] ir0p0)))
def ir0p2 : IR :=
 (.op (.bin .lss false) [(.v 27), (.v 26)]
 (.ite (.v 28)
  (.op .chk [(.v 25), (.v 27)]
  (.op (.get 0 1) [(.v 25), (.v 27)]
  (.letj 1
   (.call 11 1 false [] [(.v 20), (.v 29)]
   (.call 12 1 false [] [(.v 20), (.v 29)]
   (.call 13 1 false [] [(.v 30), (.v 31)]
   (.op (.un .not) [(.v 32)]
   (.ite (.v 33)
    (.jump 2 [(.c (.bool true))])
   (.call 14 1 false [] [(.v 29)]
   (.call 15 1 false [] [(.v 29)]
   (.op (.bin .neq false) [(.v 34), (.v 35)]
   (.ite (.v 36)
    (.jump 2 [(.c (.bool true))])
   (.call 16 1 false [] [(.v 20), (.v 29), (.v 2)]
   (.call 17 1 false [] [(.v 20), (.v 29), (.v 2)]
   (.op (.bin .neq false) [(.v 37), (.v 38)]
   (.jump 2 [(.v 39)])))))))))))))
  ir0p1)))
 (.op (.bin .add false) [(.v 16), (.c (.int .i64 1))]
 (.jump 0 [(.v 29), (.v 23), (.v 24)]))))
def ir0p3 : IR :=
 (.ite (.v 21)
  (.ret [(.c (.bool false))])
 (.call 10 3 false [] [(.v 17), (.v 18)]
 (.op (.mk 1 4) [(.v 1), (.v 22), (.c (.int .u64 0)), (.c (.int .u64 18446744073709551615))]
 (.op .lenL [(.v 25)]
 (.loop 1 [(.c (.int .i64 0))] ir0p2)))))
def ir0p4 : IR :=
 (.op (.bin .lss false) [(.v 16), (.v 15)]
 (.ite (.v 19)
  (.op .chk [(.v 14), (.v 16)]
  (.op (.get 0 1) [(.v 14), (.v 16)]
  (.letj 1
   (.call 6 1 false [] [(.v 20)]
   (.call 7 1 false [] [(.v 20)]
   (.op (.bin .neq true) [(.v 21), (.v 22)]
   (.ite (.v 23)
    (.jump 1 [(.c (.bool true))])
   (.call 8 1 false [] [(.v 20)]
   (.call 9 1 false [] [(.v 20)]
   (.op (.bin .neq false) [(.v 24), (.v 25)]
   (.jump 1 [(.v 26)]))))))))
  ir0p3)))
 (.call 18 1 false [] []
 (.ret [(.v 20)]))))
def ir0p5 : IR :=
 (.ite (.v 4)
  (.ret [(.c (.bool true))])
 (.call 2 2 false [] [(.v 3)]
 (.call 3 3 false [] [(.c (.int .i64 7)), (.v 5), (.v 6)]
 (.call 4 1 false [0] [(.v 7)]
 (.call 5 3 false [] [(.v 8), (.v 9)]
 (.op (.mk 1 3) [(.v 0), (.v 10), (.v 11)]
 (.op .lenL [(.v 14)]
 (.loop 3 [(.c (.int .i64 0)), (.v 12), (.v 13)] ir0p4))))))))
def ir0 : IR :=
 (.letj 1
  (.call 1 1 false [] [(.v 0)]
  (.op (.un .not) [(.v 4)]
  (.ite (.v 5)
   (.jump 0 [(.c (.bool true))])
  (.op .lenS [(.v 2)]
  (.op (.bin .gtr false) [(.v 6), (.c (.int .i64 60))]
  (.jump 0 [(.v 7)]))))))
 ir0p5)
theorem rd0 : readFn T SG sigs 3000 sg0 Tryd.f12 an0 = some ir0 := by kernel_rfl
def an1 : Ann := (.s none .z (.s none (.s none .z (.b (.l ⟨1, [(2, .junk), (4, .junk), (6, (.atm (.v 0)))], [], 0, []⟩ .z))) .z))
def ir1p0 : IR :=
 (.op (.bin .lss false) [(.v 2), (.v 1)]
 (.ite (.v 3)
  (.op (.row 1) [(.v 0), (.v 2)]
  (.op .lenS [(.v 4)]
  (.op (.bin .gtr false) [(.v 5), (.c (.int .i64 60))]
  (.ite (.v 6)
   (.ret [(.c (.bool false))])
  (.op (.bin .add false) [(.v 2), (.c (.int .i64 1))]
  (.jump 0 [(.v 7)]))))))
 (.op .lenL [(.v 0)]
 (.op (.bin .leq false) [(.v 4), (.c (.int .i64 12))]
 (.ret [(.v 5)])))))
def ir1 : IR :=
 (.op .lenL [(.v 0)]
 (.loop 1 [(.c (.int .i64 0))] ir1p0))
theorem rd1 : readFn T SG sigs 3000 sg1 Tryd.f27 an1 = some ir1 := by kernel_rfl
def an2 : Ann := .z
def ir2 : IR :=
 (.op .lenL [(.v 0)]
 (.op .min [(.v 1), (.c (.int .i64 2000))]
 (.op (.subL 1) [(.v 0), (.c (.int .i64 0)), (.v 2)]
 (.ret [(.v 3), (.c (.int .i64 0))]))))
theorem rd2 : readFn T SG sigs 3000 sg2 Tryd.f13 an2 = some ir2 := by kernel_rfl
def an3 : Ann := .z
def ir3 : IR :=
 (.call 19 3 false [] [(.v 1), (.v 2)]
 (.call 20 1 false [] [(.v 3), (.v 0)]
 (.ret [(.v 6), (.v 4), (.v 5)])))
theorem rd3 : readFn T SG sigs 3000 sg3 Tryd.f23 an3 = some ir3 := by kernel_rfl
def an4 : Ann := (.s none .z (.s none .z (.s none (.s none .z (.b (.l ⟨2, [(2, .junk), (4, (.atm (.v 0)))], [(0, ⟨false, true, 9, 1, (.v 1), []⟩)], 1, [⟨none, 3, 9, 1⟩]⟩ .z))) .z)))
def ir4p0 : IR :=
 (.op (.bin .lss false) [(.v 1), (.v 0)]
 (.ite (.v 3)
  (.op (.bin .add false) [(.c (.int .i64 97)), (.v 1)]
  (.op (.conv .u8) [(.v 4)]
  (.op (.mk 1 1) [(.v 5)]
  (.op .toS [(.v 6)]
  (.op (.mk 1 1) [(.v 7)]
  (.op (.app 1 16) [(.v 2), (.v 8)]
  (.op (.bin .add false) [(.v 1), (.c (.int .i64 1))]
  (.jump 0 [(.v 10), (.v 9)]))))))))
 (.ret [(.v 2)])))
def ir4 : IR :=
 (.loop 2 [(.c (.int .i64 0)), (.c (.sl []))] ir4p0)
theorem rd4 : readFn T SG sigs 3000 sg4 Tryd.f15 an4 = some ir4 := by kernel_rfl
def an5 : Ann := (.s none .z (.s none .z (.s (some ⟨3, [(0, .junk), (2, .junk), (4, .junk), (5, .junk), (6, .junk)], [(0, ⟨false, false, 67, 2, (.c (.sl [])), [[(.atm (.v 0)), (.atm (.v 1))]]⟩), (1, ⟨false, true, 9, 1, (.v 2), []⟩)], 2, []⟩) .z .z)))
def ir5p0 : IR :=
 (.ret [(.v 8), (.v 6), (.v 7)])
def ir5 : IR :=
 (.call 3 3 false [] [(.c (.int .i64 9)), (.v 0), (.v 1)]
 (.call 4 1 false [0] [(.v 2)]
 (.letj 3
  (.op .lenL [(.v 5)]
  (.op (.bin .gtr false) [(.v 6), (.c (.int .i64 0))]
  (.ite (.v 7)
   (.op .lenL [(.v 5)]
   (.call 3 3 false [] [(.v 8), (.v 3), (.v 4)]
   (.op (.mk 1 5) [(.c (.str [97])), (.c (.str [])), (.c (.str [65])), (.c (.str [122, 122])), (.c (.str [98]))]
   (.call 21 3 false [] [(.v 12), (.v 10), (.v 11)]
   (.op .chk [(.v 5), (.v 9)]
   (.op (.set 0 1) [(.v 5), (.v 9), (.v 13)]
   (.jump 0 [(.v 14), (.v 15), (.v 16)])))))))
  (.jump 0 [(.v 3), (.v 4), (.v 5)]))))
 ir5p0)))
theorem rd5 : readFn T SG sigs 3000 sg5 Tryd.f28 an5 = some ir5 := by kernel_rfl
def an6 : Ann := (.s none .z (.s none .z (.s none (.s none .z (.b (.l ⟨1, [(2, .junk), (5, .junk), (6, .junk), (7, .junk), (10, (.atm (.v 0)))], [], 0, []⟩ (.s none .z (.s none .z (.s none (.b (.s none .z (.s (some ⟨1, [(3, .junk), (4, .junk), (11, .junk), (12, .junk), (13, .junk), (14, .junk), (30, (.atm (.v 0)))], [], 0, []⟩) .z .z))) .z)))))) .z)))
def ir6p0 : IR :=
 (.ite (.v 7)
  (.ret [(.c (.bool false))])
 (.op (.bin .add false) [(.v 4), (.c (.int .i64 1))]
 (.jump 0 [(.v 8)])))
def ir6p1 : IR :=
 (.op (.bin .lss false) [(.v 4), (.v 3)]
 (.ite (.v 5)
  (.op (.row 1) [(.v 0), (.v 4)]
  (.letj 1
   (.call 22 1 false [] [(.v 6)]
   (.op (.un .not) [(.v 7)]
   (.ite (.v 8)
    (.jump 1 [(.c (.bool true))])
   (.op (.bin .gtr false) [(.v 4), (.c (.int .i64 0))]
   (.ite (.v 9)
    (.op (.bin .sub false) [(.v 4), (.c (.int .i64 1))]
    (.op (.row 1) [(.v 0), (.v 10)]
    (.op (.bin .geq false) [(.v 11), (.v 6)]
    (.jump 1 [(.v 12)]))))
   (.jump 1 [(.c (.bool false))]))))))
  ir6p0))
 (.ret [(.c (.bool true))])))
def ir6 : IR :=
 (.op .lenL [(.v 0)]
 (.op (.bin .gtr false) [(.v 1), (.c (.int .i64 6))]
 (.ite (.v 2)
  (.ret [(.c (.bool false))])
 (.op .lenL [(.v 0)]
 (.loop 1 [(.c (.int .i64 0))] ir6p1)))))
theorem rd6 : readFn T SG sigs 3000 sg6 Tryd.f41 an6 = some ir6 := by kernel_rfl
def an7 : Ann := (.s none .z (.s none (.s none .z (.b (.l ⟨1, [(2, .junk), (3, (.atm (.v 0)))], [], 0, []⟩ (.s none .z (.s none (.b (.s (some ⟨1, [(4, .junk), (5, .junk), (6, .junk), (7, .junk), (31, (.atm (.v 0)))], [], 0, []⟩) .z .z)) .z))))) .z))
def ir7p0 : IR :=
 (.ite (.v 4)
  (.ret [(.c (.bool false))])
 (.op (.bin .add false) [(.v 1), (.c (.int .i64 1))]
 (.jump 0 [(.v 5)])))
def ir7p1 : IR :=
 (.op .lenL [(.v 0)]
 (.op (.bin .lss false) [(.v 1), (.v 2)]
 (.ite (.v 3)
  (.letj 1
   (.op (.row 1) [(.v 0), (.v 1)]
   (.call 23 1 false [] [(.v 4)]
   (.op (.un .not) [(.v 5)]
   (.ite (.v 6)
    (.jump 1 [(.c (.bool true))])
   (.op (.bin .gtr false) [(.v 1), (.c (.int .i64 0))]
   (.ite (.v 7)
    (.op (.row 1) [(.v 0), (.v 1)]
    (.op (.bin .sub false) [(.v 1), (.c (.int .i64 1))]
    (.op (.row 1) [(.v 0), (.v 9)]
    (.op (.bin .leq false) [(.v 8), (.v 10)]
    (.jump 1 [(.v 11)])))))
   (.jump 1 [(.c (.bool false))])))))))
  ir7p0)
 (.op .lenL [(.v 0)]
 (.op (.bin .leq false) [(.v 4), (.c (.int .i64 6))]
 (.ret [(.v 5)]))))))
def ir7 : IR :=
 (.loop 1 [(.c (.int .i64 0))] ir7p1)
theorem rd7 : readFn T SG sigs 3000 sg7 Tryd.f42 an7 = some ir7 := by kernel_rfl
def an8 : Ann := .z
def ir8 : IR :=
 (.call 6 1 false [] [(.v 0)]
 (.op (.un .not) [(.v 1)]
 (.ite (.v 2)
  (.ret [(.c (.int .u64 0))])
 (.op .lenL [(.v 0)]
 (.call 24 1 false [] [(.v 3)]
 (.ret [(.v 4)]))))))
theorem rd8 : readFn T SG sigs 3000 sg8 Tryd.f34 an8 = some ir8 := by kernel_rfl
def an9 : Ann := (.s none .z (.s none .z (.s none .z (.s none (.s none .z (.b (.l ⟨2, [(2, .junk), (3, (.atm (.v 0))), (4, (.atm (.v 1))), (5, .junk), (6, .junk), (7, .junk)], [], 0, []⟩ .z))) .z))))
def ir9p0 : IR :=
 (.call 25 1 false [] [(.v 0)]
 (.op (.bin .lss false) [(.v 4), (.v 5)]
 (.ite (.v 6)
  (.op (.conv .u64) [(.v 4)]
  (.op (.bin .shl false) [(.c (.int .u64 1)), (.v 7)]
  (.op (.bin .or false) [(.v 3), (.v 8)]
  (.op (.bin .add false) [(.v 4), (.c (.int .i64 1))]
  (.jump 0 [(.v 9), (.v 10)])))))
 (.ret [(.v 3)]))))
def ir9 : IR :=
 (.call 7 1 false [] [(.v 0)]
 (.op (.un .not) [(.v 1)]
 (.ite (.v 2)
  (.ret [(.c (.int .u64 0))])
 (.loop 2 [(.c (.int .u64 0)), (.c (.int .i64 0))] ir9p0))))
theorem rd9 : readFn T SG sigs 3000 sg9 Tryd.f16 an9 = some ir9 := by kernel_rfl
def an10 : Ann := .z
def ir10 : IR :=
 (.call 3 3 false [] [(.c (.int .i64 4)), (.v 0), (.v 1)]
 (.op (.bin .eql false) [(.v 2), (.c (.int .i64 0))]
 (.ite (.v 5)
  (.call 19 3 false [] [(.v 3), (.v 4)]
  (.op (.conv .u64) [(.v 6)]
  (.ret [(.v 9), (.v 7), (.v 8)])))
 (.op (.bin .eql false) [(.v 2), (.c (.int .i64 1))]
 (.ite (.v 6)
  (.call 19 3 false [] [(.v 3), (.v 4)]
  (.op (.conv .u64) [(.v 7)]
  (.call 19 3 false [] [(.v 8), (.v 9)]
  (.op (.conv .u64) [(.v 11)]
  (.op (.bin .and false) [(.v 10), (.v 14)]
  (.ret [(.v 15), (.v 12), (.v 13)]))))))
 (.op (.bin .eql false) [(.v 2), (.c (.int .i64 2))]
 (.ite (.v 7)
  (.call 3 3 false [] [(.c (.int .i64 64)), (.v 3), (.v 4)]
  (.op (.conv .u64) [(.v 8)]
  (.op (.bin .shl false) [(.c (.int .u64 1)), (.v 11)]
  (.call 3 3 false [] [(.c (.int .i64 64)), (.v 9), (.v 10)]
  (.op (.conv .u64) [(.v 13)]
  (.op (.bin .shl false) [(.c (.int .u64 1)), (.v 16)]
  (.op (.bin .or false) [(.v 12), (.v 17)]
  (.ret [(.v 18), (.v 14), (.v 15)]))))))))
 (.call 19 3 false [] [(.v 3), (.v 4)]
 (.op (.conv .u64) [(.v 8)]
 (.op (.bin .mul false) [(.v 11), (.c (.int .u64 11400714819323198485))]
 (.call 19 3 false [] [(.v 9), (.v 10)]
 (.op (.conv .u64) [(.v 13)]
 (.op (.bin .xor false) [(.v 12), (.v 16)]
 (.ret [(.v 17), (.v 14), (.v 15)]))))))))))))))
theorem rd10 : readFn T SG sigs 3000 sg10 Tryd.f17 an10 = some ir10 := by kernel_rfl
def an11 : Ann := (.s none .z (.s none .z (.s none (.s none .z (.b (.l ⟨2, [(0, .junk), (1, (.atm (.v 0))), (4, .junk), (6, .junk), (7, .junk), (8, .junk), (9, .junk)], [(0, ⟨false, true, 3, 1, (.v 1), []⟩)], 1, [⟨none, 5, 3, 1⟩]⟩ .z))) .z)))
def ir11p0 : IR :=
 (.op (.bin .neq false) [(.v 4), (.c (.int .u64 0))]
 (.ite (.v 6)
  (.call 26 1 false [] [(.v 4)]
  (.op (.mk 1 1) [(.v 7)]
  (.op (.app 1 8) [(.v 5), (.v 8)]
  (.op (.bin .sub false) [(.v 4), (.c (.int .u64 1))]
  (.op (.bin .and false) [(.v 4), (.v 10)]
  (.jump 0 [(.v 11), (.v 9)]))))))
 (.ret [(.v 5)])))
def ir11 : IR :=
 (.call 8 1 false [] [(.v 0)]
 (.op (.bin .and false) [(.v 1), (.v 2)]
 (.loop 2 [(.v 3), (.c (.sl []))] ir11p0)))
theorem rd11 : readFn T SG sigs 3000 sg11 Tryd.f44 an11 = some ir11 := by kernel_rfl
def an12 : Ann := (.s none .z (.s none .z (.s none .z (.s none (.s none .z (.b (.l ⟨2, [(4, .junk), (6, (.atm (.v 0))), (7, .junk), (8, .junk), (9, .junk)], [(0, ⟨false, true, 3, 1, (.v 1), []⟩)], 1, [⟨none, 5, 3, 1⟩]⟩ (.s none .z (.s (some ⟨1, [(10, .junk), (11, .junk), (12, .junk), (13, .junk)], [(0, ⟨false, true, 3, 1, (.v 0), []⟩)], 1, []⟩) .z .z))))) .z))))
def ir12p0 : IR :=
 (.op (.bin .add false) [(.v 4), (.c (.int .i64 1))]
 (.jump 0 [(.v 9), (.v 8)]))
def ir12p1 : IR :=
 (.call 25 1 false [] [(.v 0)]
 (.op (.bin .lss false) [(.v 4), (.v 6)]
 (.ite (.v 7)
  (.letj 1
   (.call 27 1 false [] [(.v 1), (.v 4)]
   (.ite (.v 8)
    (.op (.mk 1 1) [(.v 4)]
    (.op (.app 1 8) [(.v 5), (.v 9)]
    (.jump 1 [(.v 10)])))
   (.jump 1 [(.v 5)])))
  ir12p0)
 (.ret [(.v 5)]))))
def ir12 : IR :=
 (.call 7 1 false [] [(.v 0)]
 (.op (.un .not) [(.v 2)]
 (.ite (.v 3)
  (.ret [(.c (.sl []))])
 (.loop 2 [(.c (.int .i64 0)), (.c (.sl []))] ir12p1))))
theorem rd12 : readFn T SG sigs 3000 sg12 Tryd.f45 an12 = some ir12 := by kernel_rfl
def an13 : Ann := (.s none .z (.s none .z (.s none (.s none .z (.b (.l ⟨1, [(4, .junk), (6, .junk), (7, .junk), (8, .junk), (9, .junk), (10, .junk), (11, .junk), (13, (.atm (.v 0)))], [], 0, []⟩ .z))) .z)))
def ir13p0 : IR :=
 (.op (.bin .lss false) [(.v 6), (.v 5)]
 (.ite (.v 7)
  (.op (.row 1) [(.v 0), (.v 6)]
  (.op (.row 1) [(.v 1), (.v 6)]
  (.op (.bin .neq false) [(.v 8), (.v 9)]
  (.ite (.v 10)
   (.ret [(.c (.bool false))])
  (.op (.bin .add false) [(.v 6), (.c (.int .i64 1))]
  (.jump 0 [(.v 11)]))))))
 (.ret [(.c (.bool true))])))
def ir13 : IR :=
 (.op .lenL [(.v 0)]
 (.op .lenL [(.v 1)]
 (.op (.bin .neq false) [(.v 2), (.v 3)]
 (.ite (.v 4)
  (.ret [(.c (.bool false))])
 (.op .lenL [(.v 0)]
 (.loop 1 [(.c (.int .i64 0))] ir13p0))))))
theorem rd13 : readFn T SG sigs 3000 sg13 Tryd.f43 an13 = some ir13 := by kernel_rfl
def an14 : Ann := .z
def ir14 : IR :=
 (.call 28 1 false [] [(.v 0)]
 (.ret [(.v 1)]))
theorem rd14 : readFn T SG sigs 3000 sg14 Tryd.f38 an14 = some ir14 := by kernel_rfl
def an15 : Ann := (.s none .z (.s none .z (.s none (.s none .z (.b (.l ⟨2, [(2, .junk), (3, (.atm (.v 0))), (4, (.atm (.v 1)))], [], 0, []⟩ (.s none .z (.s (some ⟨1, [(3, (.atm (.v 0))), (5, .junk), (6, .junk)], [], 0, []⟩) .z .z))))) .z)))
def ir15p0 : IR :=
 (.op (.bin .add false) [(.v 2), (.c (.int .i64 1))]
 (.jump 0 [(.v 4), (.v 5)]))
def ir15p1 : IR :=
 (.op (.bin .lss false) [(.v 2), (.c (.int .i64 64))]
 (.ite (.v 3)
  (.letj 1
   (.call 27 1 false [] [(.v 0), (.v 2)]
   (.ite (.v 4)
    (.op (.bin .add false) [(.v 1), (.c (.int .i64 1))]
    (.jump 1 [(.v 5)]))
   (.jump 1 [(.v 1)])))
  ir15p0)
 (.ret [(.v 1)])))
def ir15 : IR :=
 (.loop 2 [(.c (.int .i64 0)), (.c (.int .i64 0))] ir15p1)
theorem rd15 : readFn T SG sigs 3000 sg15 Tryd.f46 an15 = some ir15 := by kernel_rfl
def an16 : Ann := (.s none .z (.s none .z (.s none .z (.s none (.s (some ⟨1, [(0, .junk), (2, .junk), (6, .junk), (9, .junk), (10, .junk), (11, .junk), (12, .junk), (13, .junk), (14, .junk), (15, .junk), (21, (.atm (.v 0)))], [], 0, []⟩) .z .z) .z))))
def ir16p0 : IR :=
 (.ite (.v 6)
  (.ret [(.v 4)])
 (.call 30 1 false [] [(.v 5)]
 (.op (.bin .and false) [(.v 4), (.v 7)]
 (.op (.bin .shl false) [(.c (.int .u64 1)), (.v 5)]
 (.op (.bin .shr false) [(.v 8), (.v 9)]
 (.op (.bin .or false) [(.v 4), (.v 10)]
 (.op (.bin .andNot false) [(.v 4), (.v 7)]
 (.op (.bin .shl false) [(.c (.int .u64 1)), (.v 5)]
 (.op (.bin .shl false) [(.v 12), (.v 13)]
 (.op (.bin .or false) [(.v 11), (.v 14)]
 (.ret [(.v 15)])))))))))))
def ir16 : IR :=
 (.call 8 1 false [] [(.v 0)]
 (.op (.bin .and false) [(.v 1), (.v 3)]
 (.call 29 1 false [] [(.v 0), (.v 2)]
 (.letj 1
  (.op (.bin .lss false) [(.v 5), (.c (.int .i64 0))]
  (.ite (.v 6)
   (.jump 0 [(.c (.bool true))])
  (.op (.bin .eql false) [(.v 4), (.c (.int .u64 0))]
  (.jump 0 [(.v 7)]))))
 ir16p0))))
theorem rd16 : readFn T SG sigs 3000 sg16 Tryd.f40 an16 = some ir16 := by kernel_rfl
def an17 : Ann := (.s none .z (.s none .z (.s none .z (.s none .z (.s none (.s none .z (.b (.l ⟨2, [(2, .junk), (6, .junk), (8, (.atm (.v 0))), (9, (.atm (.v 1))), (10, .junk), (11, .junk), (12, .junk), (13, .junk), (14, .junk), (15, .junk)], [], 0, []⟩ (.s none .z (.s (some ⟨1, [(8, (.atm (.v 0))), (16, .junk), (17, .junk), (18, .junk), (19, .junk)], [], 0, []⟩) (.b (.s (some ⟨1, [(16, .junk), (17, .junk), (18, .junk), (19, .junk), (37, (.atm (.v 0)))], [], 0, []⟩) .z .z)) .z))))) .z)))))
def ir17p0 : IR :=
 (.op (.bin .add false) [(.v 7), (.c (.int .i64 1))]
 (.jump 0 [(.v 10), (.v 11)]))
def ir17p1 : IR :=
 (.ite (.v 10)
  (.op (.conv .u64) [(.v 7)]
  (.op (.bin .shl false) [(.c (.int .u64 1)), (.v 11)]
  (.op (.bin .or false) [(.v 6), (.v 12)]
  (.jump 1 [(.v 13)]))))
 (.jump 1 [(.v 6)]))
def ir17p2 : IR :=
 (.call 25 1 false [] [(.v 0)]
 (.op (.bin .lss false) [(.v 7), (.v 8)]
 (.ite (.v 9)
  (.letj 1
   (.letj 1
    (.call 27 1 false [] [(.v 1), (.v 7)]
    (.ite (.v 10)
     (.jump 2 [(.c (.bool true))])
    (.op (.bin .geq false) [(.v 5), (.c (.int .i64 0))]
    (.ite (.v 11)
     (.op (.conv .u64) [(.v 5)]
     (.op (.bin .shl false) [(.c (.int .i64 1)), (.v 12)]
     (.op (.bin .xor false) [(.v 7), (.v 13)]
     (.call 27 1 false [] [(.v 1), (.v 14)]
     (.jump 2 [(.v 15)])))))
    (.jump 2 [(.c (.bool false))])))))
   ir17p1)
  ir17p0)
 (.ret [(.v 6)]))))
def ir17 : IR :=
 (.call 7 1 false [] [(.v 0)]
 (.op (.un .not) [(.v 3)]
 (.ite (.v 4)
  (.ret [(.c (.int .u64 0))])
 (.call 31 1 false [] [(.v 0), (.v 2)]
 (.loop 2 [(.c (.int .u64 0)), (.c (.int .i64 0))] ir17p2)))))
theorem rd17 : readFn T SG sigs 3000 sg17 Tryd.f47 an17 = some ir17 := by kernel_rfl
def an18 : Ann := .z
def ir18 : IR :=
 (.op (.mk 1 2) [(.c (.str [112])), (.c (.str [113]))]
 (.call 32 5 false [] [(.c (.str [112, 32, 45, 62, 32, 113]))]
 (.call 33 2 true [] [(.v 0), (.v 1), (.v 2), (.v 3)]
 (.call 34 4 false [] [(.v 0), (.c (.int .u64 13))]
 (.call 35 2 false [] [(.v 8), (.v 9), (.v 10)]
 (.op (.bin .eql false) [(.v 5), (.c (.int .i64 0))]
 (.ite (.v 14)
  (.op (.bin .eql false) [(.v 7), (.c (.int .i64 0))]
  (.ite (.v 15)
   (.op (.bin .eql false) [(.v 6), (.c (.int .u64 13))]
   (.ite (.v 16)
    (.op (.bin .eql false) [(.v 11), (.c (.int .i64 0))]
    (.ite (.v 17)
     (.op (.bin .eql false) [(.v 13), (.c (.int .i64 0))]
     (.ite (.v 18)
      (.op (.bin .eql false) [(.v 12), (.c (.str [126, 112, 32, 124, 32, 113]))]
      (.ite (.v 19)
       (.call 16 1 true [] [(.v 0), (.c (.int .u64 8)), (.c (.str [113]))]
       (.op (.bin .eql false) [(.v 20), (.c (.int .u64 10))]
       (.ite (.v 21)
        (.call 8 1 true [] [(.v 0)]
        (.op (.bin .eql false) [(.v 22), (.c (.int .u64 15))]
        (.ite (.v 23)
         (.call 14 1 false [] [(.c (.int .u64 13))]
         (.op (.bin .eql false) [(.v 24), (.c (.int .i64 3))]
         (.ret [(.v 25)])))
        (.ret [(.c (.bool false))]))))
       (.ret [(.c (.bool false))]))))
      (.ret [(.c (.bool false))])))
     (.ret [(.c (.bool false))])))
    (.ret [(.c (.bool false))])))
   (.ret [(.c (.bool false))])))
  (.ret [(.c (.bool false))])))
 (.ret [(.c (.bool false))]))))))))
theorem rd18 : readFn T SG sigs 3000 sg18 Tryd.f32 an18 = some ir18 := by kernel_rfl
def an19 : Ann := .z
def ir19 : IR :=
 (.op .lenL [(.v 0)]
 (.op (.bin .geq false) [(.v 1), (.v 2)]
 (.ite (.v 3)
  (.ret [(.c (.int .i64 0)), (.v 0), (.v 1)])
 (.op (.bin .add false) [(.v 1), (.c (.int .i64 1))]
 (.op (.bin .sub false) [(.v 4), (.c (.int .i64 1))]
 (.op (.row 1) [(.v 0), (.v 5)]
 (.ret [(.v 6), (.v 0), (.v 4)])))))))
theorem rd19 : readFn T SG sigs 3000 sg19 Tryd.f49 an19 = some ir19 := by kernel_rfl
def an20 : Ann := (.s none .z (.s none .z (.s none .z (.s (some ⟨1, [(0, (.atm (.v 0))), (1, .junk), (4, .junk), (5, .junk), (6, .junk), (7, .junk), (8, .junk), (9, .junk)], [], 0, []⟩) .z .z))))
def ir20p0 : IR :=
 (.ret [(.v 4)])
def ir20 : IR :=
 (.op (.bin .lss false) [(.v 1), (.c (.int .i64 1))]
 (.ite (.v 2)
  (.ret [(.c (.int .i64 0))])
 (.op (.bin .rem false) [(.v 0), (.v 1)]
 (.letj 1
  (.op (.bin .lss false) [(.v 3), (.c (.int .i64 0))]
  (.ite (.v 4)
   (.op (.bin .add false) [(.v 3), (.v 1)]
   (.jump 0 [(.v 5)]))
  (.jump 0 [(.v 3)])))
 ir20p0))))
theorem rd20 : readFn T SG sigs 3000 sg20 Tryd.f57 an20 = some ir20 := by kernel_rfl
def an21 : Ann := .z
def ir21 : IR :=
 (.op .lenL [(.v 0)]
 (.call 3 3 false [] [(.v 3), (.v 1), (.v 2)]
 (.op (.row 1) [(.v 0), (.v 4)]
 (.ret [(.v 7), (.v 5), (.v 6)]))))
theorem rd21 : readFn T SG sigs 3000 sg21 Tryd.f62 an21 = some ir21 := by kernel_rfl
def an22 : Ann := (.s none .z (.s none (.s (some ⟨1, [(2, .junk), (12, (.atm (.v 0)))], [], 0, []⟩) .z .z) (.s none (.s none .z (.b (.l ⟨1, [(12, .junk), (13, .junk), (15, (.atm (.v 0)))], [], 0, []⟩ (.s none .z (.s none .z (.s (some ⟨0, [(16, .junk)], [], 0, []⟩) (.b (.s none .z (.s none .z (.b (.s (some ⟨1, [(16, .junk), (17, .junk), (18, .junk), (19, .junk), (20, .junk), (21, (.atm (.v 0)))], [], 0, []⟩) .z (.c .z (.s (some ⟨1, [(3, .junk), (4, .junk), (21, .junk), (28, (.atm (.v 0)))], [], 0, []⟩) .z .z))))))) .z)))))) .z)))
def ir22p0 : IR :=
 (.op (.bin .add false) [(.v 3), (.c (.int .i64 1))]
 (.jump 0 [(.v 5)]))
def ir22p1 : IR :=
 (.ite (.v 7)
  (.jump 1 [])
 (.ret [(.c (.bool false))]))
def ir22p2 : IR :=
 (.ite (.v 6)
  (.jump 1 [])
 (.letj 1
  (.op (.bin .gtr false) [(.v 3), (.c (.int .i64 0))]
  (.ite (.v 7)
   (.op (.bin .geq false) [(.v 5), (.c (.int .u8 48))]
   (.ite (.v 8)
    (.op (.bin .leq false) [(.v 5), (.c (.int .u8 57))]
    (.ite (.v 9)
     (.jump 2 [(.c (.bool true))])
    (.op (.bin .eql false) [(.v 5), (.c (.int .u8 95))]
    (.jump 2 [(.v 10)]))))
   (.op (.bin .eql false) [(.v 5), (.c (.int .u8 95))]
   (.jump 2 [(.v 9)]))))
  (.jump 2 [(.c (.bool false))])))
 ir22p1))
def ir22p3 : IR :=
 (.op (.bin .lss false) [(.v 3), (.v 2)]
 (.ite (.v 4)
  (.letj 0
   (.op .idxS [(.v 0), (.v 3)]
   (.letj 1
    (.op (.bin .geq false) [(.v 5), (.c (.int .u8 97))]
    (.ite (.v 6)
     (.op (.bin .leq false) [(.v 5), (.c (.int .u8 122))]
     (.jump 2 [(.v 7)]))
    (.jump 2 [(.c (.bool false))])))
   ir22p2))
  ir22p0)
 (.ret [(.c (.bool true))])))
def ir22p4 : IR :=
 (.ite (.v 1)
  (.ret [(.c (.bool false))])
 (.op .lenS [(.v 0)]
 (.loop 1 [(.c (.int .i64 0))] ir22p3)))
def ir22 : IR :=
 (.letj 1
  (.op .lenS [(.v 0)]
  (.op (.bin .eql false) [(.v 1), (.c (.int .i64 0))]
  (.ite (.v 2)
   (.jump 0 [(.c (.bool true))])
  (.op .lenS [(.v 0)]
  (.op (.bin .gtr false) [(.v 3), (.c (.int .i64 12))]
  (.jump 0 [(.v 4)]))))))
 ir22p4)
theorem rd22 : readFn T SG sigs 3000 sg22 Tryd.f84 an22 = some ir22 := by kernel_rfl
def an23 : Ann := (.s none .z (.s none (.s (some ⟨1, [(2, .junk), (21, (.atm (.v 0)))], [], 0, []⟩) .z .z) (.s none (.s none .z (.b (.l ⟨1, [(3, (.atm (.v 0))), (21, .junk)], [], 0, []⟩ (.s none .z (.s none (.b (.s (some ⟨1, [(22, .junk), (23, .junk), (24, .junk), (25, .junk), (55, (.atm (.v 0)))], [], 0, []⟩) .z .z)) .z))))) .z)))
def ir23p0 : IR :=
 (.ite (.v 5)
  (.ret [(.c (.bool false))])
 (.op (.bin .add false) [(.v 2), (.c (.int .i64 1))]
 (.jump 0 [(.v 6)])))
def ir23p1 : IR :=
 (.op .lenS [(.v 0)]
 (.op (.bin .lss false) [(.v 2), (.v 3)]
 (.ite (.v 4)
  (.letj 1
   (.op .idxS [(.v 0), (.v 2)]
   (.op (.bin .lss false) [(.v 5), (.c (.int .u8 97))]
   (.ite (.v 6)
    (.op .idxS [(.v 0), (.v 2)]
    (.op (.bin .lss false) [(.v 7), (.c (.int .u8 48))]
    (.ite (.v 8)
     (.op .idxS [(.v 0), (.v 2)]
     (.op (.bin .neq false) [(.v 9), (.c (.int .u8 95))]
     (.jump 1 [(.v 10)])))
    (.op .idxS [(.v 0), (.v 2)]
    (.op (.bin .gtr false) [(.v 9), (.c (.int .u8 57))]
    (.ite (.v 10)
     (.op .idxS [(.v 0), (.v 2)]
     (.op (.bin .neq false) [(.v 11), (.c (.int .u8 95))]
     (.jump 1 [(.v 12)])))
    (.jump 1 [(.c (.bool false))])))))))
   (.op .idxS [(.v 0), (.v 2)]
   (.op (.bin .gtr false) [(.v 7), (.c (.int .u8 122))]
   (.ite (.v 8)
    (.op .idxS [(.v 0), (.v 2)]
    (.op (.bin .lss false) [(.v 9), (.c (.int .u8 48))]
    (.ite (.v 10)
     (.op .idxS [(.v 0), (.v 2)]
     (.op (.bin .neq false) [(.v 11), (.c (.int .u8 95))]
     (.jump 1 [(.v 12)])))
    (.op .idxS [(.v 0), (.v 2)]
    (.op (.bin .gtr false) [(.v 11), (.c (.int .u8 57))]
    (.ite (.v 12)
     (.op .idxS [(.v 0), (.v 2)]
     (.op (.bin .neq false) [(.v 13), (.c (.int .u8 95))]
     (.jump 1 [(.v 14)])))
    (.jump 1 [(.c (.bool false))])))))))
   (.jump 1 [(.c (.bool false))])))))))
  ir23p0)
 (.ret [(.c (.bool true))]))))
def ir23p2 : IR :=
 (.ite (.v 1)
  (.ret [(.c (.bool false))])
 (.loop 1 [(.c (.int .i64 0))] ir23p1))
def ir23 : IR :=
 (.letj 1
  (.op .lenS [(.v 0)]
  (.op (.bin .lss false) [(.v 1), (.c (.int .i64 1))]
  (.ite (.v 2)
   (.jump 0 [(.c (.bool true))])
  (.op .lenS [(.v 0)]
  (.op (.bin .gtr false) [(.v 3), (.c (.int .i64 12))]
  (.ite (.v 4)
   (.jump 0 [(.c (.bool true))])
  (.op .idxS [(.v 0), (.c (.int .i64 0))]
  (.op (.bin .lss false) [(.v 5), (.c (.int .u8 97))]
  (.ite (.v 6)
   (.jump 0 [(.c (.bool true))])
  (.op .idxS [(.v 0), (.c (.int .i64 0))]
  (.op (.bin .gtr false) [(.v 7), (.c (.int .u8 122))]
  (.jump 0 [(.v 8)]))))))))))))
 ir23p2)
theorem rd23 : readFn T SG sigs 3000 sg23 Tryd.f85 an23 = some ir23 := by kernel_rfl
def an24 : Ann := .z
def ir24 : IR :=
 (.op (.bin .shl false) [(.c (.int .u64 1)), (.v 0)]
 (.op (.bin .sub false) [(.c (.int .u64 64)), (.v 1)]
 (.op (.bin .shr false) [(.c (.int .u64 18446744073709551615)), (.v 2)]
 (.ret [(.v 3)]))))
theorem rd24 : readFn T SG sigs 3000 sg24 Tryd.f69 an24 = some ir24 := by kernel_rfl
def an25 : Ann := .z
def ir25 : IR :=
 (.op .lenL [(.v 0)]
 (.op (.conv .u64) [(.v 1)]
 (.op (.bin .shl false) [(.c (.int .i64 1)), (.v 2)]
 (.ret [(.v 3)]))))
theorem rd25 : readFn T SG sigs 3000 sg25 Tryd.f48 an25 = some ir25 := by kernel_rfl
def an27 : Ann := .z
def ir27 : IR :=
 (.op (.conv .u64) [(.v 1)]
 (.op (.bin .shr false) [(.v 0), (.v 2)]
 (.op (.bin .and false) [(.v 3), (.c (.int .u64 1))]
 (.op (.bin .eql false) [(.v 4), (.c (.int .u64 1))]
 (.ret [(.v 5)])))))
theorem rd27 : readFn T SG sigs 3000 sg27 Tryd.f87 an27 = some ir27 := by kernel_rfl
def an28 : Ann := .z
def ir28 : IR :=
 (.op (.bin .shr false) [(.v 0), (.c (.int .u64 1))]
 (.op (.bin .and false) [(.v 1), (.c (.int .u64 6148914691236517205))]
 (.op (.bin .and false) [(.v 0), (.c (.int .u64 6148914691236517205))]
 (.op (.bin .add false) [(.v 2), (.v 3)]
 (.op (.bin .shr false) [(.v 4), (.c (.int .u64 2))]
 (.op (.bin .and false) [(.v 5), (.c (.int .u64 3689348814741910323))]
 (.op (.bin .and false) [(.v 4), (.c (.int .u64 3689348814741910323))]
 (.op (.bin .add false) [(.v 6), (.v 7)]
 (.op (.bin .shr false) [(.v 8), (.c (.int .u64 4))]
 (.op (.bin .add false) [(.v 9), (.v 8)]
 (.op (.bin .and false) [(.v 10), (.c (.int .u64 1085102592571150095))]
 (.op (.bin .shr false) [(.v 11), (.c (.int .u64 8))]
 (.op (.bin .add false) [(.v 11), (.v 12)]
 (.op (.bin .shr false) [(.v 13), (.c (.int .u64 16))]
 (.op (.bin .add false) [(.v 13), (.v 14)]
 (.op (.bin .shr false) [(.v 15), (.c (.int .u64 32))]
 (.op (.bin .add false) [(.v 15), (.v 16)]
 (.op (.conv .i64) [(.v 17)]
 (.op (.bin .and false) [(.v 18), (.c (.int .i64 127))]
 (.ret [(.v 19)]))))))))))))))))))))
theorem rd28 : readFn T SG sigs 3000 sg28 Tryd.f60 an28 = some ir28 := by kernel_rfl
def an29 : Ann := (.s none .z (.s none (.s none .z (.b (.l ⟨1, [(4, .junk), (6, .junk), (8, (.atm (.v 0)))], [], 0, []⟩ .z))) .z))
def ir29p0 : IR :=
 (.op (.bin .lss false) [(.v 3), (.v 2)]
 (.ite (.v 4)
  (.op (.row 1) [(.v 0), (.v 3)]
  (.op (.bin .eql false) [(.v 1), (.v 5)]
  (.ite (.v 6)
   (.ret [(.v 3)])
  (.op (.bin .add false) [(.v 3), (.c (.int .i64 1))]
  (.jump 0 [(.v 7)])))))
 (.ret [(.c (.int .i64 (-1)))])))
def ir29 : IR :=
 (.op .lenL [(.v 0)]
 (.loop 1 [(.c (.int .i64 0))] ir29p0))
theorem rd29 : readFn T SG sigs 3000 sg29 Tryd.f82 an29 = some ir29 := by kernel_rfl
def an30 : Ann := (.s none .z (.s none .z (.s none (.s none .z (.b (.l ⟨2, [(2, .junk), (3, (.atm (.v 0))), (5, (.atm (.v 1)))], [], 0, []⟩ .z))) .z)))
def ir30p0 : IR :=
 (.op (.bin .lss false) [(.v 2), (.c (.int .i64 64))]
 (.ite (.v 3)
  (.op (.bin .shr false) [(.v 2), (.v 0)]
  (.op (.bin .and false) [(.v 4), (.c (.int .i64 1))]
  (.op (.conv .u64) [(.v 5)]
  (.op (.bin .shl false) [(.v 6), (.v 2)]
  (.op (.bin .or false) [(.v 1), (.v 7)]
  (.op (.bin .add false) [(.v 2), (.c (.int .i64 1))]
  (.jump 0 [(.v 8), (.v 9)])))))))
 (.ret [(.v 1)])))
def ir30 : IR :=
 (.loop 2 [(.c (.int .u64 0)), (.c (.int .i64 0))] ir30p0)
theorem rd30 : readFn T SG sigs 3000 sg30 Tryd.f83 an30 = some ir30 := by kernel_rfl
def an31 : Ann := (.s none .z (.s none (.s none .z (.b (.l ⟨1, [(4, .junk), (5, (.atm (.v 0)))], [], 0, []⟩ .z))) .z))
def ir31p0 : IR :=
 (.op .lenL [(.v 0)]
 (.op (.bin .lss false) [(.v 2), (.v 3)]
 (.ite (.v 4)
  (.op (.row 1) [(.v 0), (.v 2)]
  (.op (.bin .eql false) [(.v 5), (.v 1)]
  (.ite (.v 6)
   (.ret [(.v 2)])
  (.op (.bin .add false) [(.v 2), (.c (.int .i64 1))]
  (.jump 0 [(.v 7)])))))
 (.ret [(.c (.int .i64 (-1)))]))))
def ir31 : IR :=
 (.loop 1 [(.c (.int .i64 0))] ir31p0)
theorem rd31 : readFn T SG sigs 3000 sg31 Tryd.f52 an31 = some ir31 := by kernel_rfl
def an32 : Ann := (.s none .z (.s none .z (.s none .z (.s none .z (.s (some ⟨4, [(0, .junk), (3, .junk), (4, .junk), (7, .junk), (8, .junk), (9, .junk), (11, .junk), (12, .junk), (13, .junk), (14, .junk), (15, .junk)], [(1, ⟨false, false, 108, 4, (.c (.sl [])), [[(.atm (.v 0)), (.atm (.v 1)), (.atm (.v 2)), (.atm (.v 3))]]⟩)], 3, []⟩) .z (.s none .z (.s none (.s (some ⟨1, [(5, .junk), (21, .junk), (22, .junk), (23, .junk), (24, .junk), (25, .junk), (44, (.atm (.v 0)))], [], 3, []⟩) .z .z) .z)))))))
def ir32p0 : IR :=
 (.ite (.v 15)
  (.ret [(.c (.int .i64 0)), (.c (.str [])), (.c (.sl [])), (.c (.int .i64 0)), (.c (.int .i64 2))])
 (.ret [(.v 3), (.v 4), (.v 5), (.c (.int .i64 0)), (.c (.int .i64 0))]))
def ir32p1 : IR :=
 (.op (.bin .geq false) [(.v 12), (.c (.int .i64 0))]
 (.ite (.v 14)
  (.ret [(.c (.int .i64 0)), (.c (.str [])), (.c (.sl [])), (.v 12), (.c (.int .i64 3))])
 (.letj 1
  (.ite (.v 13)
   (.jump 0 [(.c (.bool true))])
  (.call 39 1 false [] [(.v 3), (.v 4), (.v 5)]
  (.op (.bin .gtr false) [(.v 15), (.c (.int .i64 600))]
  (.ite (.v 16)
   (.jump 0 [(.c (.bool true))])
  (.call 40 1 false [] [(.v 3), (.v 4), (.v 5)]
  (.op (.bin .gtr false) [(.v 17), (.c (.int .i64 20))]
  (.jump 0 [(.v 18)])))))))
 ir32p0)))
def ir32 : IR :=
 (.op .lenS [(.v 0)]
 (.op (.bin .gtr false) [(.v 1), (.c (.int .i64 4096))]
 (.ite (.v 2)
  (.ret [(.c (.int .i64 0)), (.c (.str [])), (.c (.sl [])), (.c (.int .i64 0)), (.c (.int .i64 2))])
 (.call 36 7 false [] [(.v 0), (.c (.int .i64 0)), (.c (.int .i64 (-1))), (.c (.bool false))]
 (.letj 4
  (.call 37 5 false [] [(.c (.str [])), (.v 6), (.v 7), (.v 8), (.v 9)]
  (.op (.un .not) [(.v 10)]
  (.ite (.v 15)
   (.call 38 7 false [] [(.v 11), (.v 12), (.v 13), (.v 14)]
   (.jump 0 [(.v 19), (.v 20), (.v 21), (.v 22)]))
  (.jump 0 [(.v 11), (.v 12), (.v 13), (.v 14)]))))
 ir32p1)))))
theorem rd32 : readFn T SG sigs 3000 sg32 Tryd.f65 an32 = some ir32 := by kernel_rfl
def an33 : Ann := (.s none .z (.s none .z (.s none .z (.s none (.s none .z (.b (.l ⟨1, [(1, .junk), (4, .junk), (5, .junk), (6, .junk), (9, .junk), (10, .junk), (11, .junk), (12, .junk), (13, .junk), (14, .junk), (15, .junk), (17, .junk), (20, (.atm (.v 0)))], [], 1, []⟩ .z))) .z))))
def ir33p0 : IR :=
 (.op (.bin .lss false) [(.v 10), (.v 9)]
 (.ite (.v 11)
  (.op (.row 1) [(.v 8), (.v 10)]
  (.call 43 1 false [] [(.v 0), (.v 12)]
  (.op (.un .not) [(.v 13)]
  (.ite (.v 14)
   (.ret [(.c (.int .u64 0)), (.c (.int .i64 6))])
  (.op (.bin .add false) [(.v 10), (.c (.int .i64 1))]
  (.jump 0 [(.v 15)]))))))
 (.call 44 1 false [] [(.v 0), (.v 1), (.v 2), (.v 3)]
 (.call 8 1 false [] [(.v 0)]
 (.op (.bin .and false) [(.v 12), (.v 13)]
 (.ret [(.v 14), (.c (.int .i64 0))]))))))
def ir33 : IR :=
 (.call 6 1 false [] [(.v 0)]
 (.op (.un .not) [(.v 4)]
 (.ite (.v 5)
  (.ret [(.c (.int .u64 0)), (.c (.int .i64 1))])
 (.call 41 1 false [] [(.v 1), (.v 2), (.v 3)]
 (.op (.bin .neq false) [(.v 6), (.c (.int .i64 0))]
 (.ite (.v 7)
  (.ret [(.c (.int .u64 0)), (.v 6)])
 (.call 42 1 false [] [(.v 1), (.v 2), (.v 3)]
 (.op .lenL [(.v 8)]
 (.loop 1 [(.c (.int .i64 0))] ir33p0)))))))))
theorem rd33 : readFn T SG sigs 3000 sg33 Tryd.f33 an33 = some ir33 := by kernel_rfl
def an34 : Ann := .z
def ir34 : IR :=
 (.call 6 1 false [] [(.v 0)]
 (.op (.un .not) [(.v 2)]
 (.ite (.v 3)
  (.ret [(.c (.int .i64 0)), (.c (.str [])), (.c (.sl [])), (.c (.int .i64 1))])
 (.call 8 1 false [] [(.v 0)]
 (.op (.bin .and false) [(.v 1), (.v 4)]
 (.call 45 3 false [] [(.v 0), (.v 5)]
 (.ret [(.v 6), (.v 7), (.v 8), (.c (.int .i64 0))])))))))
theorem rd34 : readFn T SG sigs 3000 sg34 Tryd.f29 an34 = some ir34 := by kernel_rfl
def an36 : Ann := .z
def ir36 : IR :=
 (.call 46 7 false [] [(.v 0), (.v 1), (.v 2), (.v 3)]
 (.call 37 5 false [] [(.c (.str [60, 45, 62])), (.v 7), (.v 8), (.v 9), (.v 10)]
 (.op (.un .not) [(.v 11)]
 (.ite (.v 16)
  (.ret [(.v 4), (.v 5), (.v 6), (.v 12), (.v 13), (.v 14), (.v 15)])
 (.call 46 7 false [] [(.v 12), (.v 13), (.v 14), (.v 15)]
 (.op (.mk 3 2) [(.v 4), (.v 5), (.v 6), (.v 17), (.v 18), (.v 19)]
 (.ret [(.c (.int .i64 8)), (.c (.str [])), (.v 24), (.v 20), (.v 21), (.v 22), (.v 23)])))))))
theorem rd36 : readFn T SG sigs 3000 sg36 Tryd.f101 an36 = some ir36 := by kernel_rfl
def an37 : Ann := (.s none .z (.s none .z (.s none (.s (some ⟨1, [(1, .junk), (4, .junk), (6, .junk), (7, .junk), (18, (.atm (.v 0)))], [], 2, []⟩) .z .z) .z)))
def ir37p0 : IR :=
 (.ite (.v 12)
  (.ret [(.c (.bool false)), (.v 8), (.v 9), (.v 10), (.v 11)])
 (.op .lenS [(.v 6)]
 (.op (.bin .add false) [(.v 9), (.v 13)]
 (.ret [(.c (.bool true)), (.v 8), (.v 14), (.v 10), (.v 11)]))))
def ir37 : IR :=
 (.call 47 7 false [] [(.v 1), (.v 2), (.v 3), (.v 4)]
 (.letj 1
  (.op (.bin .geq false) [(.v 10), (.c (.int .i64 0))]
  (.ite (.v 12)
   (.jump 0 [(.c (.bool true))])
  (.op (.bin .neq false) [(.v 5), (.v 0)]
  (.jump 0 [(.v 13)]))))
 ir37p0))
theorem rd37 : readFn T SG sigs 3000 sg37 Tryd.f102 an37 = some ir37 := by kernel_rfl
def an38 : Ann := (.s none .z (.s (some ⟨4, [(0, .junk)], [(0, ⟨false, false, 108, 4, (.c (.sl [])), [[(.atm (.v 0)), (.atm (.v 1)), (.atm (.v 2)), (.atm (.v 3))]]⟩)], 2, []⟩) .z .z))
def ir38p0 : IR :=
 (.ret [(.c (.int .i64 0)), (.c (.str [])), (.c (.sl [])), (.v 4), (.v 5), (.v 6), (.v 7)])
def ir38 : IR :=
 (.letj 4
  (.op (.bin .lss false) [(.v 2), (.c (.int .i64 0))]
  (.ite (.v 4)
   (.call 47 7 false [] [(.v 0), (.v 1), (.v 2), (.v 3)]
   (.jump 0 [(.v 8), (.v 9), (.v 7), (.v 11)]))
  (.jump 0 [(.v 0), (.v 1), (.v 2), (.v 3)])))
 ir38p0)
theorem rd38 : readFn T SG sigs 3000 sg38 Tryd.f103 an38 = some ir38 := by kernel_rfl
def an39 : Ann := (.s none .z (.s none .z (.s none (.s none .z (.b (.l ⟨2, [(0, .junk), (1, .junk), (2, .junk), (3, (.atm (.v 0))), (6, .junk), (9, (.atm (.v 1)))], [], 1, []⟩ .z))) .z)))
def ir39p0 : IR :=
 (.op (.bin .lss false) [(.v 5), (.v 3)]
 (.ite (.v 6)
  (.op (.row 3) [(.v 2), (.v 5)]
  (.call 39 1 false [] [(.v 7), (.v 8), (.v 9)]
  (.op (.bin .add false) [(.v 4), (.v 10)]
  (.op (.bin .add false) [(.v 5), (.c (.int .i64 1))]
  (.jump 0 [(.v 11), (.v 12)])))))
 (.ret [(.v 4)])))
def ir39 : IR :=
 (.op .lenL [(.v 2)]
 (.loop 2 [(.c (.int .i64 1)), (.c (.int .i64 0))] ir39p0))
theorem rd39 : readFn T SG sigs 3000 sg39 Tryd.f70 an39 = some ir39 := by kernel_rfl
def an40 : Ann := (.s none .z (.s none .z (.s none (.s none .z (.b (.l ⟨2, [(0, .junk), (1, .junk), (2, .junk), (3, (.atm (.v 0))), (6, .junk), (9, (.atm (.v 1)))], [], 1, []⟩ .z))) .z)))
def ir40p0 : IR :=
 (.op (.bin .lss false) [(.v 5), (.v 3)]
 (.ite (.v 6)
  (.op (.row 3) [(.v 2), (.v 5)]
  (.call 40 1 false [] [(.v 7), (.v 8), (.v 9)]
  (.op (.bin .add false) [(.c (.int .i64 1)), (.v 10)]
  (.op .max [(.v 4), (.v 11)]
  (.op (.bin .add false) [(.v 5), (.c (.int .i64 1))]
  (.jump 0 [(.v 12), (.v 13)]))))))
 (.ret [(.v 4)])))
def ir40 : IR :=
 (.op .lenL [(.v 2)]
 (.loop 2 [(.c (.int .i64 0)), (.c (.int .i64 0))] ir40p0))
theorem rd40 : readFn T SG sigs 3000 sg40 Tryd.f71 an40 = some ir40 := by kernel_rfl
def an41 : Ann := (.s none .z (.s none (.b (.s (some ⟨1, [(0, .junk), (2, .junk), (3, (.atm (.v 0)))], [], 1, []⟩) .z .z)) .z))
def ir41p0 : IR :=
 (.ite (.v 3)
  (.ret [(.c (.int .i64 2))])
 (.call 48 1 false [] [(.v 0), (.v 1), (.v 2)]
 (.op (.un .not) [(.v 4)]
 (.ite (.v 5)
  (.ret [(.c (.int .i64 4))])
 (.call 49 1 false [] [(.v 0), (.v 1), (.v 2)]
 (.op (.un .not) [(.v 6)]
 (.ite (.v 7)
  (.ret [(.c (.int .i64 3))])
 (.ret [(.c (.int .i64 0))]))))))))
def ir41 : IR :=
 (.letj 1
  (.call 39 1 false [] [(.v 0), (.v 1), (.v 2)]
  (.op (.bin .gtr false) [(.v 3), (.c (.int .i64 600))]
  (.ite (.v 4)
   (.jump 0 [(.c (.bool true))])
  (.call 40 1 false [] [(.v 0), (.v 1), (.v 2)]
  (.op (.bin .gtr false) [(.v 5), (.c (.int .i64 20))]
  (.jump 0 [(.v 6)]))))))
 ir41p0)
theorem rd41 : readFn T SG sigs 3000 sg41 Tryd.f35 an41 = some ir41 := by kernel_rfl
def an43 : Ann := .z
def ir43 : IR :=
 (.call 29 1 false [] [(.v 0), (.v 1)]
 (.op (.bin .geq false) [(.v 2), (.c (.int .i64 0))]
 (.ret [(.v 3)])))
theorem rd43 : readFn T SG sigs 3000 sg43 Tryd.f67 an43 = some ir43 := by kernel_rfl
def an44 : Ann := (.s none .z (.s none (.s none .z (.b (.s none .z (.c .z (.s none .z (.c .z (.s none .z (.c .z (.s none .z (.c .z (.s none .z (.c .z (.s none .z (.c (.s none .z (.s none (.s none .z (.b (.l ⟨2, [(1, .junk), (3, .junk), (4, .junk), (5, (.atm (.v 0))), (11, .junk), (12, .junk), (13, .junk), (14, .junk), (15, .junk), (16, .junk), (22, .junk), (23, .junk), (31, .junk), (32, .junk), (47, .junk), (48, .junk), (63, .junk), (64, .junk), (65, .junk), (68, (.atm (.v 1)))], [], 1, []⟩ .z))) .z)) .z)))))))))))))) (.s none .z (.s none (.s none .z (.b (.l ⟨2, [(1, .junk), (3, .junk), (4, .junk), (8, (.atm (.v 0))), (11, .junk), (12, .junk), (13, .junk), (14, .junk), (15, .junk), (16, .junk), (22, .junk), (23, .junk), (31, .junk), (32, .junk), (47, .junk), (48, .junk), (63, .junk), (64, .junk), (79, .junk), (82, (.atm (.v 1)))], [], 1, []⟩ .z))) .z))))
def ir44p0 : IR :=
 (.op (.bin .lss false) [(.v 12), (.v 10)]
 (.ite (.v 13)
  (.op (.row 3) [(.v 3), (.v 12)]
  (.call 44 1 false [] [(.v 0), (.v 14), (.v 15), (.v 16)]
  (.op (.bin .and false) [(.v 11), (.v 17)]
  (.op (.bin .add false) [(.v 12), (.c (.int .i64 1))]
  (.jump 0 [(.v 18), (.v 19)])))))
 (.ret [(.v 11)])))
def ir44p1 : IR :=
 (.op (.bin .lss false) [(.v 12), (.v 10)]
 (.ite (.v 13)
  (.op (.row 3) [(.v 3), (.v 12)]
  (.call 44 1 false [] [(.v 0), (.v 14), (.v 15), (.v 16)]
  (.op (.bin .or false) [(.v 11), (.v 17)]
  (.op (.bin .add false) [(.v 12), (.c (.int .i64 1))]
  (.jump 0 [(.v 18), (.v 19)])))))
 (.ret [(.v 11)])))
def ir44 : IR :=
 (.op (.bin .eql false) [(.v 1), (.c (.int .i64 1))]
 (.ite (.v 4)
  (.ret [(.c (.int .u64 18446744073709551615))])
 (.op (.bin .eql false) [(.v 1), (.c (.int .i64 3))]
 (.ite (.v 5)
  (.call 29 1 false [] [(.v 0), (.v 2)]
  (.call 30 1 false [] [(.v 6)]
  (.ret [(.v 7)])))
 (.op (.bin .eql false) [(.v 1), (.c (.int .i64 4))]
 (.ite (.v 6)
  (.op (.row 3) [(.v 3), (.c (.int .i64 0))]
  (.call 44 1 false [] [(.v 0), (.v 7), (.v 8), (.v 9)]
  (.op (.un .xor) [(.v 10)]
  (.ret [(.v 11)]))))
 (.op (.bin .eql false) [(.v 1), (.c (.int .i64 7))]
 (.ite (.v 7)
  (.op (.row 3) [(.v 3), (.c (.int .i64 0))]
  (.call 44 1 false [] [(.v 0), (.v 8), (.v 9), (.v 10)]
  (.op (.un .xor) [(.v 11)]
  (.op (.row 3) [(.v 3), (.c (.int .i64 1))]
  (.call 44 1 false [] [(.v 0), (.v 13), (.v 14), (.v 15)]
  (.op (.bin .or false) [(.v 12), (.v 16)]
  (.ret [(.v 17)])))))))
 (.op (.bin .eql false) [(.v 1), (.c (.int .i64 8))]
 (.ite (.v 8)
  (.op (.row 3) [(.v 3), (.c (.int .i64 0))]
  (.call 44 1 false [] [(.v 0), (.v 9), (.v 10), (.v 11)]
  (.op (.row 3) [(.v 3), (.c (.int .i64 1))]
  (.call 44 1 false [] [(.v 0), (.v 13), (.v 14), (.v 15)]
  (.op (.bin .xor false) [(.v 12), (.v 16)]
  (.op (.un .xor) [(.v 17)]
  (.ret [(.v 18)])))))))
 (.op (.bin .eql false) [(.v 1), (.c (.int .i64 5))]
 (.ite (.v 9)
  (.op .lenL [(.v 3)]
  (.loop 2 [(.c (.int .u64 18446744073709551615)), (.c (.int .i64 0))] ir44p0))
 (.op .lenL [(.v 3)]
 (.loop 2 [(.c (.int .u64 0)), (.c (.int .i64 0))] ir44p1))))))))))))))
theorem rd44 : readFn T SG sigs 3000 sg44 Tryd.f68 an44 = some ir44 := by kernel_rfl
def an45 : Ann := (.s none .z (.s none .z (.s none .z (.s none .z (.s none .z (.s none .z (.s none .z (.s none .z (.s none .z (.s none (.b (.s (some ⟨1, [(0, .junk), (1, .junk), (5, .junk), (12, .junk), (13, .junk), (14, .junk), (15, .junk), (16, .junk), (17, .junk), (19, .junk), (20, .junk), (21, .junk), (23, .junk), (24, .junk), (25, .junk), (26, .junk), (27, .junk), (28, .junk), (29, .junk), (30, .junk), (31, .junk), (32, .junk), (36, .junk), (37, .junk), (38, .junk), (39, .junk), (40, .junk), (41, .junk), (42, .junk), (43, .junk), (44, .junk), (45, .junk), (46, .junk), (47, .junk), (48, .junk), (49, (.atm (.v 0)))], [], 4, []⟩) .z (.c .z (.s none .z (.c .z (.s (some ⟨1, [(49, .junk), (58, .junk), (59, .junk), (60, .junk), (61, .junk), (67, (.atm (.v 0)))], [], 4, []⟩) .z .z)))))) .z))))))))))
def ir45p0 : IR :=
 (.ite (.v 18)
  (.ret [(.c (.int .i64 4)), (.c (.str [])), (.v 13)])
 (.op (.bin .eql false) [(.v 8), (.c (.int .u64 0))]
 (.ite (.v 19)
  (.call 45 3 false [] [(.v 7), (.v 9)]
  (.call 51 3 false [] [(.c (.int .i64 5)), (.c (.int .i64 4)), (.c (.str [])), (.v 13), (.v 20), (.v 21), (.v 22)]
  (.ret [(.v 23), (.v 24), (.v 25)])))
 (.op (.bin .eql false) [(.v 9), (.v 15)]
 (.ite (.v 20)
  (.call 45 3 false [] [(.v 7), (.v 8)]
  (.call 51 3 false [] [(.c (.int .i64 6)), (.c (.int .i64 4)), (.c (.str [])), (.v 13), (.v 21), (.v 22), (.v 23)]
  (.ret [(.v 24), (.v 25), (.v 26)])))
 (.op (.bin .eql false) [(.v 9), (.c (.int .u64 0))]
 (.ite (.v 21)
  (.call 45 3 false [] [(.v 7), (.v 8)]
  (.call 51 3 false [] [(.c (.int .i64 5)), (.c (.int .i64 3)), (.v 11), (.c (.sl [])), (.v 22), (.v 23), (.v 24)]
  (.ret [(.v 25), (.v 26), (.v 27)])))
 (.call 45 3 false [] [(.v 7), (.v 8)]
 (.call 51 3 false [] [(.c (.int .i64 5)), (.c (.int .i64 3)), (.v 11), (.c (.sl [])), (.v 22), (.v 23), (.v 24)]
 (.call 45 3 false [] [(.v 7), (.v 9)]
 (.call 51 3 false [] [(.c (.int .i64 5)), (.c (.int .i64 4)), (.c (.str [])), (.v 13), (.v 28), (.v 29), (.v 30)]
 (.call 51 3 false [] [(.c (.int .i64 6)), (.v 25), (.v 26), (.v 27), (.v 31), (.v 32), (.v 33)]
 (.ret [(.v 34), (.v 35), (.v 36)])))))))))))))
def ir45p1 : IR :=
 (.ite (.v 16)
  (.ret [(.c (.int .i64 3)), (.v 11), (.c (.sl []))])
 (.op (.bin .eql false) [(.v 8), (.v 15)]
 (.ite (.v 17)
  (.call 45 3 false [] [(.v 7), (.v 9)]
  (.call 51 3 false [] [(.c (.int .i64 6)), (.c (.int .i64 3)), (.v 11), (.c (.sl [])), (.v 18), (.v 19), (.v 20)]
  (.ret [(.v 21), (.v 22), (.v 23)])))
 (.letj 1
  (.op (.bin .eql false) [(.v 8), (.c (.int .u64 0))]
  (.ite (.v 18)
   (.op (.bin .eql false) [(.v 9), (.v 15)]
   (.jump 0 [(.v 19)]))
  (.jump 0 [(.c (.bool false))])))
 ir45p0))))
def ir45 : IR :=
 (.op .lenL [(.v 0)]
 (.call 24 1 false [] [(.v 2)]
 (.op (.bin .eql false) [(.v 1), (.c (.int .u64 0))]
 (.ite (.v 4)
  (.ret [(.c (.int .i64 2)), (.c (.str [])), (.c (.sl []))])
 (.op (.bin .eql false) [(.v 1), (.v 3)]
 (.ite (.v 5)
  (.ret [(.c (.int .i64 1)), (.c (.str [])), (.c (.sl []))])
 (.op .lenL [(.v 0)]
 (.op (.subL 1) [(.v 0), (.c (.int .i64 1)), (.v 6)]
 (.call 50 2 false [] [(.v 1)]
 (.op (.bin .eql false) [(.v 8), (.v 9)]
 (.ite (.v 10)
  (.call 45 3 false [] [(.v 7), (.v 8)]
  (.ret [(.v 11), (.v 12), (.v 13)]))
 (.op (.row 1) [(.v 0), (.c (.int .i64 0))]
 (.op (.row 1) [(.v 0), (.c (.int .i64 0))]
 (.op (.mk 3 1) [(.c (.int .i64 3)), (.v 12), (.c (.sl []))]
 (.op .lenL [(.v 7)]
 (.call 24 1 false [] [(.v 14)]
 (.letj 1
  (.op (.bin .eql false) [(.v 8), (.v 15)]
  (.ite (.v 16)
   (.op (.bin .eql false) [(.v 9), (.c (.int .u64 0))]
   (.jump 0 [(.v 17)]))
  (.jump 0 [(.c (.bool false))])))
 ir45p1)))))))))))))))))
theorem rd45 : readFn T SG sigs 3000 sg45 Tryd.f63 an45 = some ir45 := by kernel_rfl
def an46 : Ann := .z
def ir46 : IR :=
 (.call 52 7 false [] [(.v 0), (.v 1), (.v 2), (.v 3)]
 (.call 37 5 false [] [(.c (.str [45, 62])), (.v 7), (.v 8), (.v 9), (.v 10)]
 (.op (.un .not) [(.v 11)]
 (.ite (.v 16)
  (.ret [(.v 4), (.v 5), (.v 6), (.v 12), (.v 13), (.v 14), (.v 15)])
 (.call 46 7 false [] [(.v 12), (.v 13), (.v 14), (.v 15)]
 (.op (.mk 3 2) [(.v 4), (.v 5), (.v 6), (.v 17), (.v 18), (.v 19)]
 (.ret [(.c (.int .i64 7)), (.c (.str [])), (.v 24), (.v 20), (.v 21), (.v 22), (.v 23)])))))))
theorem rd46 : readFn T SG sigs 3000 sg46 Tryd.f112 an46 = some ir46 := by kernel_rfl
def an47 : Ann := (.s none .z (.s none (.b (.l ⟨4, [], [(0, ⟨false, false, 108, 4, (.c (.sl [])), [[(.atm (.v 0)), (.atm (.v 1)), (.atm (.v 2)), (.atm (.v 3))]]⟩)], 2, []⟩ (.s none (.s (some ⟨1, [(29, (.atm (.v 0)))], [], 2, []⟩) .z .z) .z))) (.s none .z (.s none .z (.s none .z (.s none (.b (.l ⟨1, [(4, (.atm (.v 0))), (29, .junk), (37, .junk), (38, .junk), (39, .junk), (40, .junk), (41, .junk), (42, .junk), (43, .junk), (44, .junk), (45, .junk), (46, .junk), (47, .junk)], [], 2, []⟩ (.s none (.s (some ⟨1, [(63, (.atm (.v 0)))], [], 2, []⟩) .z .z) .z))) (.s none (.s none .z (.b (.s (some ⟨1, [(63, .junk), (66, .junk), (67, .junk), (68, .junk), (69, (.atm (.v 0)))], [], 2, []⟩) .z .z))) (.s none (.s none .z (.b (.l ⟨1, [(4, .junk), (5, .junk), (69, .junk), (83, .junk), (84, .junk), (85, .junk), (92, .junk), (93, .junk), (94, .junk), (103, (.atm (.v 0)))], [], 3, []⟩ (.s none .z (.s none .z (.s none (.b (.s none .z (.s (some ⟨1, [(104, .junk), (105, .junk), (106, .junk), (119, (.atm (.v 0)))], [], 3, []⟩) .z .z))) .z)))))) .z))))))))
def ir47p0 : IR :=
 (.ite (.v 23)
  (.ret [(.v 22), (.v 22), (.v 5), (.v 4), (.v 5), (.v 6), (.v 7)])
 (.op (.bin .add false) [(.v 20), (.c (.int .i64 1))]
 (.jump 2 [(.v 24)])))
def ir47p1 : IR :=
 (.op (.bin .lss false) [(.v 20), (.v 19)]
 (.ite (.v 21)
  (.op .chk [(.v 18), (.v 20)]
  (.op (.get 0 1) [(.v 18), (.v 20)]
  (.letj 1
   (.op .lenS [(.v 10)]
   (.op .lenS [(.v 22)]
   (.op (.bin .geq false) [(.v 23), (.v 24)]
   (.ite (.v 25)
    (.op .lenS [(.v 22)]
    (.op .subS [(.v 10), (.c (.int .i64 0)), (.v 26)]
    (.op (.bin .eql false) [(.v 27), (.v 22)]
    (.jump 3 [(.v 28)]))))
   (.jump 3 [(.c (.bool false))])))))
  ir47p0)))
 (.ret [(.c (.str [63])), (.c (.str [])), (.v 5), (.v 4), (.v 5), (.v 6), (.v 7)])))
def ir47p2 : IR :=
 (.ite (.v 15)
  (.ret [(.v 14), (.v 14), (.v 5), (.v 4), (.v 5), (.v 6), (.v 7)])
 (.call 22 1 false [] [(.v 14)]
 (.ite (.v 16)
  (.ret [(.c (.str [110, 97, 109, 101])), (.v 14), (.v 5), (.v 4), (.v 5), (.v 6), (.v 7)])
 (.op (.bin .gtr false) [(.v 12), (.c (.int .i64 0))]
 (.ite (.v 17)
  (.ret [(.c (.str [63])), (.v 14), (.v 5), (.v 4), (.v 5), (.v 6), (.v 7)])
 (.op (.mk 1 7) [(.c (.str [60, 45, 62])), (.c (.str [45, 62])), (.c (.str [126])), (.c (.str [38])), (.c (.str [124])), (.c (.str [40])), (.c (.str [41]))]
 (.op .lenL [(.v 18)]
 (.loop 1 [(.c (.int .i64 0))] ir47p1))))))))
def ir47p3 : IR :=
 (.ite (.v 13)
  (.op (.bin .add false) [(.v 12), (.c (.int .i64 1))]
  (.jump 1 [(.v 14)]))
 (.op .subS [(.v 10), (.c (.int .i64 0)), (.v 12)]
 (.letj 1
  (.op (.bin .eql false) [(.v 14), (.c (.str [48]))]
  (.ite (.v 15)
   (.jump 2 [(.c (.bool true))])
  (.op (.bin .eql false) [(.v 14), (.c (.str [49]))]
  (.jump 2 [(.v 16)]))))
 ir47p2)))
def ir47p4 : IR :=
 (.letj 1
  (.op .lenS [(.v 10)]
  (.op (.bin .lss false) [(.v 12), (.v 13)]
  (.ite (.v 14)
   (.op .idxS [(.v 10), (.v 12)]
   (.call 53 1 false [] [(.v 15)]
   (.jump 2 [(.v 16)])))
  (.jump 2 [(.c (.bool false))]))))
 ir47p3)
def ir47p5 : IR :=
 (.ite (.v 8)
  (.op (.bin .add false) [(.v 5), (.c (.int .i64 1))]
  (.jump 0 [(.v 4), (.v 9), (.v 6), (.v 7)]))
 (.op .lenS [(.v 4)]
 (.op .subS [(.v 4), (.v 5), (.v 9)]
 (.op (.bin .eql false) [(.v 10), (.c (.str []))]
 (.ite (.v 11)
  (.op .lenS [(.v 4)]
  (.ret [(.c (.str [])), (.c (.str [])), (.v 12), (.v 4), (.v 5), (.v 6), (.v 7)]))
 (.loop 1 [(.c (.int .i64 0))] ir47p4))))))
def ir47p6 : IR :=
 (.letj 1
  (.op .lenS [(.v 4)]
  (.op (.bin .lss false) [(.v 5), (.v 8)]
  (.ite (.v 9)
   (.op .idxS [(.v 4), (.v 5)]
   (.op (.bin .eql false) [(.v 10), (.c (.int .u8 32))]
   (.jump 1 [(.v 11)])))
  (.jump 1 [(.c (.bool false))]))))
 ir47p5)
def ir47 : IR :=
 (.loop 4 [(.v 0), (.v 1), (.v 2), (.v 3)] ir47p6)
theorem rd47 : readFn T SG sigs 3000 sg47 Tryd.f113 an47 = some ir47 := by kernel_rfl
def an48 : Ann := (.s none .z (.s none .z (.s none (.s none .z (.b (.l ⟨1, [(0, .junk), (2, .junk), (4, .junk), (7, .junk), (8, .junk), (9, .junk), (10, .junk), (11, .junk), (14, (.atm (.v 0)))], [], 1, []⟩ .z))) .z)))
def ir48p0 : IR :=
 (.op (.bin .lss false) [(.v 6), (.v 5)]
 (.ite (.v 7)
  (.op (.row 3) [(.v 2), (.v 6)]
  (.call 48 1 false [] [(.v 8), (.v 9), (.v 10)]
  (.op (.un .not) [(.v 11)]
  (.ite (.v 12)
   (.ret [(.c (.bool false))])
  (.op (.bin .add false) [(.v 6), (.c (.int .i64 1))]
  (.jump 0 [(.v 13)]))))))
 (.ret [(.c (.bool true))])))
def ir48 : IR :=
 (.call 54 1 false [] [(.v 0), (.v 1), (.v 2)]
 (.op (.un .not) [(.v 3)]
 (.ite (.v 4)
  (.ret [(.c (.bool false))])
 (.op .lenL [(.v 2)]
 (.loop 1 [(.c (.int .i64 0))] ir48p0)))))
theorem rd48 : readFn T SG sigs 3000 sg48 Tryd.f72 an48 = some ir48 := by kernel_rfl
def an49 : Ann := (.s none .z (.s none .z (.s none (.s none .z (.b (.l ⟨1, [(0, .junk), (2, .junk), (4, .junk), (7, .junk), (8, .junk), (9, .junk), (10, .junk), (11, .junk), (14, (.atm (.v 0)))], [], 1, []⟩ .z))) .z)))
def ir49p0 : IR :=
 (.op (.bin .lss false) [(.v 6), (.v 5)]
 (.ite (.v 7)
  (.op (.row 3) [(.v 2), (.v 6)]
  (.call 49 1 false [] [(.v 8), (.v 9), (.v 10)]
  (.op (.un .not) [(.v 11)]
  (.ite (.v 12)
   (.ret [(.c (.bool false))])
  (.op (.bin .add false) [(.v 6), (.c (.int .i64 1))]
  (.jump 0 [(.v 13)]))))))
 (.ret [(.c (.bool true))])))
def ir49 : IR :=
 (.call 55 1 false [] [(.v 0), (.v 1), (.v 2)]
 (.op (.un .not) [(.v 3)]
 (.ite (.v 4)
  (.ret [(.c (.bool false))])
 (.op .lenL [(.v 2)]
 (.loop 1 [(.c (.int .i64 0))] ir49p0)))))
theorem rd49 : readFn T SG sigs 3000 sg49 Tryd.f72 an49 = some ir49 := by kernel_rfl
def an50 : Ann := (.s none .z (.s none (.s none .z (.b (.l ⟨3, [(2, (.atm (.v 0))), (3, (.atm (.v 1))), (5, (.atm (.v 2)))], [], 0, []⟩ .z))) .z))
def ir50p0 : IR :=
 (.op (.bin .lss false) [(.v 3), (.c (.int .i64 32))]
 (.ite (.v 4)
  (.op (.bin .mul false) [(.c (.int .i64 2)), (.v 3)]
  (.op (.bin .shr false) [(.v 0), (.v 5)]
  (.op (.bin .and false) [(.v 6), (.c (.int .u64 1))]
  (.op (.bin .shl false) [(.v 7), (.v 3)]
  (.op (.bin .or false) [(.v 2), (.v 8)]
  (.op (.bin .mul false) [(.c (.int .i64 2)), (.v 3)]
  (.op (.bin .add false) [(.v 10), (.c (.int .i64 1))]
  (.op (.bin .shr false) [(.v 0), (.v 11)]
  (.op (.bin .and false) [(.v 12), (.c (.int .u64 1))]
  (.op (.bin .shl false) [(.v 13), (.v 3)]
  (.op (.bin .or false) [(.v 1), (.v 14)]
  (.op (.bin .add false) [(.v 3), (.c (.int .i64 1))]
  (.jump 0 [(.v 15), (.v 9), (.v 16)])))))))))))))
 (.ret [(.v 1), (.v 2)])))
def ir50 : IR :=
 (.loop 3 [(.c (.int .u64 0)), (.c (.int .u64 0)), (.c (.int .i64 0))] ir50p0)
theorem rd50 : readFn T SG sigs 3000 sg50 Tryd.f97 an50 = some ir50 := by kernel_rfl
def an51 : Ann := .z
def ir51 : IR :=
 (.op (.mk 3 2) [(.v 1), (.v 2), (.v 3), (.v 4), (.v 5), (.v 6)]
 (.ret [(.v 0), (.c (.str [])), (.v 7)]))
theorem rd51 : readFn T SG sigs 3000 sg51 Tryd.f98 an51 = some ir51 := by kernel_rfl
def an52 : Ann := .z
def ir52 : IR :=
 (.call 56 7 false [] [(.c (.int .i64 6)), (.c (.str [124])), (.v 0), (.v 1), (.v 2), (.v 3)]
 (.ret [(.v 4), (.v 5), (.v 6), (.v 7), (.v 8), (.v 9), (.v 10)]))
theorem rd52 : readFn T SG sigs 3000 sg52 Tryd.f117 an52 = some ir52 := by kernel_rfl
def an53 : Ann := .z
def ir53 : IR :=
 (.op (.bin .geq false) [(.v 0), (.c (.int .u8 97))]
 (.ite (.v 1)
  (.op (.bin .leq false) [(.v 0), (.c (.int .u8 122))]
  (.ite (.v 2)
   (.ret [(.c (.bool true))])
  (.op (.bin .geq false) [(.v 0), (.c (.int .u8 65))]
  (.ite (.v 3)
   (.op (.bin .leq false) [(.v 0), (.c (.int .u8 90))]
   (.ite (.v 4)
    (.ret [(.c (.bool true))])
   (.op (.bin .geq false) [(.v 0), (.c (.int .u8 48))]
   (.ite (.v 5)
    (.op (.bin .leq false) [(.v 0), (.c (.int .u8 57))]
    (.ite (.v 6)
     (.ret [(.c (.bool true))])
    (.op (.bin .eql false) [(.v 0), (.c (.int .u8 95))]
    (.ret [(.v 7)]))))
   (.op (.bin .eql false) [(.v 0), (.c (.int .u8 95))]
   (.ret [(.v 6)]))))))
  (.op (.bin .geq false) [(.v 0), (.c (.int .u8 48))]
  (.ite (.v 4)
   (.op (.bin .leq false) [(.v 0), (.c (.int .u8 57))]
   (.ite (.v 5)
    (.ret [(.c (.bool true))])
   (.op (.bin .eql false) [(.v 0), (.c (.int .u8 95))]
   (.ret [(.v 6)]))))
  (.op (.bin .eql false) [(.v 0), (.c (.int .u8 95))]
  (.ret [(.v 5)]))))))))
 (.op (.bin .geq false) [(.v 0), (.c (.int .u8 65))]
 (.ite (.v 2)
  (.op (.bin .leq false) [(.v 0), (.c (.int .u8 90))]
  (.ite (.v 3)
   (.ret [(.c (.bool true))])
  (.op (.bin .geq false) [(.v 0), (.c (.int .u8 48))]
  (.ite (.v 4)
   (.op (.bin .leq false) [(.v 0), (.c (.int .u8 57))]
   (.ite (.v 5)
    (.ret [(.c (.bool true))])
   (.op (.bin .eql false) [(.v 0), (.c (.int .u8 95))]
   (.ret [(.v 6)]))))
  (.op (.bin .eql false) [(.v 0), (.c (.int .u8 95))]
  (.ret [(.v 5)]))))))
 (.op (.bin .geq false) [(.v 0), (.c (.int .u8 48))]
 (.ite (.v 3)
  (.op (.bin .leq false) [(.v 0), (.c (.int .u8 57))]
  (.ite (.v 4)
   (.ret [(.c (.bool true))])
  (.op (.bin .eql false) [(.v 0), (.c (.int .u8 95))]
  (.ret [(.v 5)]))))
 (.op (.bin .eql false) [(.v 0), (.c (.int .u8 95))]
 (.ret [(.v 4)]))))))))
theorem rd53 : readFn T SG sigs 3000 sg53 Tryd.f118 an53 = some ir53 := by kernel_rfl
def an54 : Ann := (.s none .z (.s none .z (.s none (.s none .z (.b (.s (some ⟨1, [(0, .junk), (1, .junk), (2, .junk), (4, .junk), (5, .junk), (6, .junk), (7, .junk), (9, (.atm (.v 0)))], [], 1, []⟩) .z (.c .z (.s none .z (.c .z (.s (some ⟨1, [(9, .junk), (15, .junk), (16, .junk), (19, (.atm (.v 0)))], [], 1, []⟩) .z (.c .z (.s (some ⟨1, [(8, .junk), (19, .junk), (28, (.atm (.v 0)))], [], 1, []⟩) .z .z))))))))) .z)))
def ir54p0 : IR :=
 (.ite (.v 7)
  (.op (.bin .eql false) [(.v 3), (.c (.int .i64 2))]
  (.ret [(.v 8)]))
 (.ret [(.c (.bool false))]))
def ir54p1 : IR :=
 (.ite (.v 6)
  (.op (.bin .geq false) [(.v 3), (.c (.int .i64 2))]
  (.ite (.v 7)
   (.op (.bin .leq false) [(.v 3), (.c (.int .i64 6))]
   (.ret [(.v 8)]))
  (.ret [(.c (.bool false))])))
 (.letj 1
  (.op (.bin .eql false) [(.v 0), (.c (.int .i64 7))]
  (.ite (.v 7)
   (.jump 0 [(.c (.bool true))])
  (.op (.bin .eql false) [(.v 0), (.c (.int .i64 8))]
  (.jump 0 [(.v 8)]))))
 ir54p0))
def ir54p2 : IR :=
 (.ite (.v 4)
  (.op (.bin .eql false) [(.v 3), (.c (.int .i64 0))]
  (.ret [(.v 5)]))
 (.op (.bin .eql false) [(.v 0), (.c (.int .i64 4))]
 (.ite (.v 5)
  (.op (.bin .eql false) [(.v 3), (.c (.int .i64 1))]
  (.ret [(.v 6)]))
 (.letj 1
  (.op (.bin .eql false) [(.v 0), (.c (.int .i64 5))]
  (.ite (.v 6)
   (.jump 0 [(.c (.bool true))])
  (.op (.bin .eql false) [(.v 0), (.c (.int .i64 6))]
  (.jump 0 [(.v 7)]))))
 ir54p1))))
def ir54 : IR :=
 (.op .lenL [(.v 2)]
 (.letj 1
  (.op (.bin .eql false) [(.v 0), (.c (.int .i64 1))]
  (.ite (.v 4)
   (.jump 0 [(.c (.bool true))])
  (.op (.bin .eql false) [(.v 0), (.c (.int .i64 2))]
  (.ite (.v 5)
   (.jump 0 [(.c (.bool true))])
  (.op (.bin .eql false) [(.v 0), (.c (.int .i64 3))]
  (.jump 0 [(.v 6)]))))))
 ir54p2))
theorem rd54 : readFn T SG sigs 3000 sg54 Tryd.f73 an54 = some ir54 := by kernel_rfl
def an55 : Ann := .z
def ir55 : IR :=
 (.op (.bin .eql false) [(.v 0), (.c (.int .i64 3))]
 (.ite (.v 3)
  (.call 22 1 false [] [(.v 1)]
  (.ret [(.v 4)]))
 (.op (.bin .eql false) [(.v 1), (.c (.str []))]
 (.ret [(.v 4)]))))
theorem rd55 : readFn T SG sigs 3000 sg55 Tryd.f74 an55 = some ir55 := by kernel_rfl
def an56 : Ann := (.s none .z (.s none .z (.s none .z (.s none .z (.s none (.b (.l ⟨5, [(1, .junk), (9, .junk), (11, .junk), (12, .junk), (13, .junk), (14, .junk), (15, .junk), (16, .junk), (17, .junk), (19, .junk), (20, .junk), (21, .junk), (22, .junk)], [(0, ⟨false, false, 108, 4, (.c (.sl [])), [[(.atm (.v 0)), (.atm (.v 1)), (.atm (.v 2)), (.atm (.v 3))]]⟩), (3, ⟨false, true, 33, 3, (.v 4), []⟩)], 5, []⟩ .z)) (.s (some ⟨4, [(0, .junk), (2, .junk), (3, .junk), (23, .junk), (24, .junk), (25, .junk)], [(0, ⟨false, false, 108, 4, (.c (.sl [])), [[(.atm (.v 0)), (.atm (.v 1)), (.atm (.v 2)), (.atm (.v 3))]]⟩)], 5, []⟩) .z .z))))))
def ir56p0 : IR :=
 (.ret [(.v 0), (.c (.str [])), (.v 26), (.v 32), (.v 33), (.v 34), (.v 35)])
def ir56p1 : IR :=
 (.call 37 5 false [] [(.v 1), (.v 22), (.v 23), (.v 24), (.v 25)]
 (.ite (.v 27)
  (.call 57 7 false [] [(.v 28), (.v 29), (.v 30), (.v 31)]
  (.op (.mk 3 1) [(.v 32), (.v 33), (.v 34)]
  (.op (.app 3 48) [(.v 26), (.v 39)]
  (.jump 0 [(.v 35), (.v 36), (.v 37), (.v 38), (.v 40)]))))
 (.letj 4
  (.ite (.v 31)
   (.jump 1 [(.v 28), (.v 29), (.v 30), (.c (.bool true))])
  (.op .lenL [(.v 26)]
  (.op (.bin .gtr false) [(.v 32), (.c (.int .i64 6))]
  (.jump 1 [(.v 28), (.v 29), (.v 30), (.v 33)]))))
 ir56p0)))
def ir56 : IR :=
 (.call 57 7 false [] [(.v 2), (.v 3), (.v 4), (.v 5)]
 (.call 47 7 false [] [(.v 9), (.v 10), (.v 11), (.v 12)]
 (.op (.bin .neq false) [(.v 13), (.v 1)]
 (.ite (.v 20)
  (.ret [(.v 6), (.v 7), (.v 8), (.v 16), (.v 17), (.v 18), (.v 19)])
 (.op (.mk 3 1) [(.v 6), (.v 7), (.v 8)]
 (.loop 5 [(.v 16), (.v 17), (.v 18), (.v 19), (.v 21)] ir56p1))))))
theorem rd56 : readFn T SG sigs 3000 sg56 Tryd.f131 an56 = some ir56 := by kernel_rfl
def an57 : Ann := .z
def ir57 : IR :=
 (.call 58 7 false [] [(.c (.int .i64 5)), (.c (.str [38])), (.v 0), (.v 1), (.v 2), (.v 3)]
 (.ret [(.v 4), (.v 5), (.v 6), (.v 7), (.v 8), (.v 9), (.v 10)]))
theorem rd57 : readFn T SG sigs 3000 sg57 Tryd.f132 an57 = some ir57 := by kernel_rfl
def an58 : Ann := (.s none .z (.s none .z (.s none .z (.s none .z (.s none (.b (.l ⟨5, [(1, .junk), (9, .junk), (11, .junk), (12, .junk), (13, .junk), (14, .junk), (15, .junk), (16, .junk), (17, .junk), (19, .junk), (20, .junk), (21, .junk), (22, .junk)], [(0, ⟨false, false, 108, 4, (.c (.sl [])), [[(.atm (.v 0)), (.atm (.v 1)), (.atm (.v 2)), (.atm (.v 3))]]⟩), (3, ⟨false, true, 33, 3, (.v 4), []⟩)], 5, []⟩ .z)) (.s (some ⟨4, [(0, .junk), (2, .junk), (3, .junk), (23, .junk), (24, .junk), (25, .junk)], [(0, ⟨false, false, 108, 4, (.c (.sl [])), [[(.atm (.v 0)), (.atm (.v 1)), (.atm (.v 2)), (.atm (.v 3))]]⟩)], 5, []⟩) .z .z))))))
def ir58p0 : IR :=
 (.ret [(.v 0), (.c (.str [])), (.v 26), (.v 32), (.v 33), (.v 34), (.v 35)])
def ir58p1 : IR :=
 (.call 37 5 false [] [(.v 1), (.v 22), (.v 23), (.v 24), (.v 25)]
 (.ite (.v 27)
  (.call 59 7 false [] [(.v 28), (.v 29), (.v 30), (.v 31)]
  (.op (.mk 3 1) [(.v 32), (.v 33), (.v 34)]
  (.op (.app 3 48) [(.v 26), (.v 39)]
  (.jump 0 [(.v 35), (.v 36), (.v 37), (.v 38), (.v 40)]))))
 (.letj 4
  (.ite (.v 31)
   (.jump 1 [(.v 28), (.v 29), (.v 30), (.c (.bool true))])
  (.op .lenL [(.v 26)]
  (.op (.bin .gtr false) [(.v 32), (.c (.int .i64 6))]
  (.jump 1 [(.v 28), (.v 29), (.v 30), (.v 33)]))))
 ir58p0)))
def ir58 : IR :=
 (.call 59 7 false [] [(.v 2), (.v 3), (.v 4), (.v 5)]
 (.call 47 7 false [] [(.v 9), (.v 10), (.v 11), (.v 12)]
 (.op (.bin .neq false) [(.v 13), (.v 1)]
 (.ite (.v 20)
  (.ret [(.v 6), (.v 7), (.v 8), (.v 16), (.v 17), (.v 18), (.v 19)])
 (.op (.mk 3 1) [(.v 6), (.v 7), (.v 8)]
 (.loop 5 [(.v 16), (.v 17), (.v 18), (.v 19), (.v 21)] ir58p1))))))
theorem rd58 : readFn T SG sigs 3000 sg58 Tryd.f131 an58 = some ir58 := by kernel_rfl
def an59 : Ann := .z
def ir59 : IR :=
 (.call 47 7 false [] [(.v 0), (.v 1), (.v 2), (.v 3)]
 (.op (.bin .geq false) [(.v 9), (.c (.int .i64 0))]
 (.ite (.v 11)
  (.ret [(.c (.int .i64 0)), (.c (.str [])), (.c (.sl [])), (.v 7), (.v 8), (.v 9), (.v 10)])
 (.call 37 5 false [] [(.c (.str [110, 97, 109, 101])), (.v 7), (.v 8), (.v 9), (.v 10)]
 (.ite (.v 12)
  (.ret [(.c (.int .i64 3)), (.v 5), (.c (.sl [])), (.v 13), (.v 14), (.v 15), (.v 16)])
 (.call 37 5 false [] [(.c (.str [48])), (.v 13), (.v 14), (.v 15), (.v 16)]
 (.ite (.v 17)
  (.ret [(.c (.int .i64 2)), (.c (.str [])), (.c (.sl [])), (.v 18), (.v 19), (.v 20), (.v 21)])
 (.call 37 5 false [] [(.c (.str [49])), (.v 18), (.v 19), (.v 20), (.v 21)]
 (.ite (.v 22)
  (.ret [(.c (.int .i64 1)), (.c (.str [])), (.c (.sl [])), (.v 23), (.v 24), (.v 25), (.v 26)])
 (.call 37 5 false [] [(.c (.str [126])), (.v 23), (.v 24), (.v 25), (.v 26)]
 (.ite (.v 27)
  (.call 59 7 false [] [(.v 28), (.v 29), (.v 30), (.v 31)]
  (.op (.mk 3 1) [(.v 32), (.v 33), (.v 34)]
  (.ret [(.c (.int .i64 4)), (.c (.str [])), (.v 39), (.v 35), (.v 36), (.v 37), (.v 38)])))
 (.call 37 5 false [] [(.c (.str [40])), (.v 28), (.v 29), (.v 30), (.v 31)]
 (.ite (.v 32)
  (.call 36 7 false [] [(.v 33), (.v 34), (.v 35), (.v 36)]
  (.call 37 5 false [] [(.c (.str [41])), (.v 40), (.v 41), (.v 42), (.v 43)]
  (.op (.un .not) [(.v 44)]
  (.ite (.v 49)
   (.call 38 7 false [] [(.v 45), (.v 46), (.v 47), (.v 48)]
   (.ret [(.v 50), (.v 51), (.v 52), (.v 53), (.v 54), (.v 55), (.v 56)]))
  (.ret [(.v 37), (.v 38), (.v 39), (.v 45), (.v 46), (.v 47), (.v 48)])))))
 (.call 38 7 false [] [(.v 33), (.v 34), (.v 35), (.v 36)]
 (.ret [(.v 37), (.v 38), (.v 39), (.v 40), (.v 41), (.v 42), (.v 43)])))))))))))))))
theorem rd59 : readFn T SG sigs 3000 sg59 Tryd.f139 an59 = some ir59 := by kernel_rfl
end Go.Proofs.YtefkehflmlikmaaDoor

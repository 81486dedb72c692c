/- Plain programs of the functions of the program and lemmas about what they compute. -/
import Derived.Test.YtefkehflmlikmaaGreatDoorAmSe21
import Derived.Test.YtefkehflmlikmaaGreatDoorProg
import Derived.KernelRfl
set_option linter.unusedSimpArgs false
set_option linter.unusedVariables false
set_option linter.unusedSectionVars false
namespace Go.Proofs.YtefkehflmlikmaaGreatDoor
open Go Am
set_option maxRecDepth 100000
abbrev fnD (f : Nat) : D := .raw (.func (.func f) #[] #[])
def T : Tab := [
 (3, ⟨1, 8, true, true, false, none, none, (some .i64), false, false, (some (.int .i64 0)), [], none⟩),
 (4, ⟨1, 1, true, true, false, none, none, none, false, true, (some (.bool false)), [], none⟩),
 (5, ⟨1, 1, true, true, false, none, none, (some .u8), false, false, (some (.int .u8 0)), [], none⟩),
 (9, ⟨1, 16, true, true, false, none, none, none, true, false, (some (.string ⟨⟨[]⟩⟩)), [], none⟩),
 (22, ⟨1, 24, true, true, false, (some 9), none, none, false, false, (some (.slice none 0 0)), [], none⟩),
 (23, ⟨1, 24, true, true, false, (some 3), none, none, false, false, (some (.slice none 0 0)), [], none⟩),
 (24, ⟨1, 8, true, true, false, none, none, (some .u64), false, false, (some (.int .u64 0)), [], none⟩),
 (25, ⟨1, 24, true, true, false, (some 27), none, none, false, false, (some (.slice none 0 0)), [], none⟩),
 (27, ⟨3, 48, true, true, true, none, none, none, false, false, (some (.agg #[(.int .i64 0), (.string ⟨⟨[]⟩⟩), (.slice none 0 0)])), [(0, 3), (1, 9), (2, 25)], (some [(0, 1), (1, 1), (2, 1)])⟩),
 (28, ⟨1, 8, true, true, false, none, none, none, false, false, (some .nilFunc), [], none⟩),
 (30, ⟨1, 8, true, true, false, none, none, none, false, false, (some (.pointer none)), [], none⟩),
 (35, ⟨1, 24, true, true, false, (some 22), none, none, false, false, (some (.slice none 0 0)), [], none⟩),
 (38, ⟨1, 8, true, true, false, none, none, (some .u64), false, false, (some (.int .u64 0)), [], none⟩),
 (39, ⟨1, 8, true, true, false, none, none, (some .i64), false, false, (some (.int .i64 0)), [], none⟩),
 (55, ⟨2, 32, true, true, true, none, none, none, false, false, (some (.agg #[(.slice none 0 0), (.int .i64 0)])), [(0, 23), (1, 3)], (some [(0, 1), (1, 1)])⟩),
 (59, ⟨1, 24, true, true, false, (some 5), none, none, false, false, (some (.slice none 0 0)), [], none⟩),
 (95, ⟨1, 8, true, true, false, none, none, none, false, false, (some (.pointer none)), [], none⟩),
 (97, ⟨4, 40, true, true, true, none, none, none, false, false, (some (.agg #[(.string ⟨⟨[]⟩⟩), (.int .i64 0), (.int .i64 0), (.bool false)])), [(0, 9), (1, 3), (2, 3), (3, 4)], (some [(0, 1), (1, 1), (2, 1), (3, 1)])⟩),
 (98, ⟨1, 8, true, true, false, none, none, none, false, false, (some .nilFunc), [], none⟩),
 (100, ⟨1, 8, true, true, false, none, none, none, false, false, (some (.pointer none)), [], none⟩),
 (102, ⟨2, 32, true, true, true, none, none, none, false, false, (some (.agg #[(.pointer none), (.slice none 0 0)])), [(0, 100), (1, 59)], (some [(0, 1), (1, 1)])⟩),
 (109, ⟨3, 40, true, true, true, none, none, none, false, false, (some (.agg #[(.string ⟨⟨[]⟩⟩), (.string ⟨⟨[]⟩⟩), (.int .i64 0)])), [(0, 9), (1, 9), (2, 3)], (some [(0, 1), (1, 1), (2, 1)])⟩)]
theorem tok : TOK Tryz.prog T := tok_of (by kernel_rfl)
def SG : SGlob := []
def sg0 : Sig := ⟨4, 5, [], [(.atm (.v 0)), (.agg [(.atm (.v 1)), (.atm (.v 2)), (.atm (.v 3))]), (.atm (.v 4))], 1, [], (.atm (.v 0)), false, []⟩
def sg1 : Sig := ⟨21, 1, [], [(.atm (.v 0))], 1, [], (.atm (.v 0)), false, []⟩
def sg2 : Sig := ⟨5, 3, [], [(.agg [(.atm (.v 0)), (.atm (.v 1)), (.atm (.v 2))])], 1, [], (.atm (.v 0)), false, []⟩
def sg3 : Sig := ⟨22, 4, [], [(.agg [(.atm (.v 0)), (.atm (.v 1)), (.atm (.v 2))]), (.atm (.v 3))], 1, [], (.atm (.v 0)), false, []⟩
def sg4 : Sig := ⟨7, 1, [], [(.atm (.v 0))], 2, [⟨false, false, 55, 2, (.c (.sl [])), [[(.atm (.v 0)), (.atm (.v 1))]]⟩], (.ptr 0 0 0), false, []⟩
def sg5 : Sig := ⟨16, 4, [⟨false, false, 55, 2, (.c (.sl [])), [[(.atm (.v 2)), (.atm (.v 3))]]⟩], [(.ptr 0 0 0), (.atm (.v 0)), (.atm (.v 1))], 5, [⟨false, false, 55, 2, (.c (.sl [])), [[(.atm (.v 3)), (.atm (.v 4))]]⟩], (.agg [(.atm (.v 0)), (.atm (.v 1)), (.atm (.v 2))]), true, []⟩
def sg6 : Sig := ⟨12, 1, [], [(.atm (.v 0))], 1, [⟨false, true, 9, 1, (.v 0), []⟩], (.own 0), true, []⟩
def sg7 : Sig := ⟨11, 3, [⟨false, false, 55, 2, (.c (.sl [])), [[(.atm (.v 1)), (.atm (.v 2))]]⟩], [(.ptr 0 0 0), (.atm (.v 0))], 3, [⟨false, false, 55, 2, (.c (.sl [])), [[(.atm (.v 1)), (.atm (.v 2))]]⟩], (.atm (.v 0)), false, []⟩
def sg8 : Sig := ⟨23, 2, [⟨false, false, 55, 2, (.c (.sl [])), [[(.atm (.v 0)), (.atm (.v 1))]]⟩], [(.ptr 0 0 0)], 3, [⟨false, false, 55, 2, (.c (.sl [])), [[(.atm (.v 1)), (.atm (.v 2))]]⟩], (.atm (.v 0)), true, []⟩
def sg9 : Sig := ⟨24, 5, [⟨false, false, 55, 2, (.c (.sl [])), [[(.atm (.v 3)), (.atm (.v 4))]]⟩], [(.ptr 0 0 0), (.agg [(.atm (.v 0)), (.atm (.v 1)), (.atm (.v 2))])], 5, [⟨false, false, 55, 2, (.c (.sl [])), [[(.atm (.v 3)), (.atm (.v 4))]]⟩], (.agg [(.atm (.v 0)), (.atm (.v 1)), (.atm (.v 2))]), true, []⟩
def sg10 : Sig := ⟨25, 4, [], [(.atm (.v 0)), (.agg [(.atm (.v 1)), (.atm (.v 2)), (.atm (.v 3))])], 2, [], (.tup [(.atm (.v 0)), (.atm (.v 1))]), false, []⟩
def sg11 : Sig := ⟨26, 4, [], [(.atm (.v 0)), (.agg [(.atm (.v 1)), (.atm (.v 2)), (.atm (.v 3))])], 2, [], (.tup [(.atm (.v 0)), (.atm (.v 1))]), false, []⟩
def sg12 : Sig := ⟨27, 7, [], [(.atm (.v 0)), (.agg [(.atm (.v 1)), (.atm (.v 2)), (.atm (.v 3))]), (.agg [(.atm (.v 4)), (.atm (.v 5)), (.atm (.v 6))])], 2, [], (.tup [(.atm (.v 0)), (.atm (.v 1))]), false, []⟩
def sg13 : Sig := ⟨28, 7, [], [(.atm (.v 0)), (.agg [(.atm (.v 1)), (.atm (.v 2)), (.atm (.v 3))]), (.agg [(.atm (.v 4)), (.atm (.v 5)), (.atm (.v 6))])], 2, [], (.tup [(.atm (.v 0)), (.atm (.v 1))]), false, []⟩
def sg14 : Sig := ⟨29, 0, [], [], 1, [], (.atm (.v 0)), false, []⟩
def sg15 : Sig := ⟨30, 4, [], [(.agg [(.atm (.v 0)), (.atm (.v 1)), (.atm (.v 2))]), (.atm (.v 3))], 1, [], (.atm (.v 0)), false, []⟩
def sg16 : Sig := ⟨31, 3, [], [(.agg [(.atm (.v 0)), (.atm (.v 1)), (.atm (.v 2))])], 1, [], (.atm (.v 0)), false, []⟩
def sg17 : Sig := ⟨36, 2, [⟨false, false, 55, 2, (.c (.sl [])), [[(.atm (.v 0)), (.atm (.v 1))]]⟩], [(.ptr 0 0 0)], 3, [⟨false, false, 55, 2, (.c (.sl [])), [[(.atm (.v 1)), (.atm (.v 2))]]⟩], (.atm (.v 0)), false, []⟩
def sg18 : Sig := ⟨35, 2, [], [(.atm (.v 0)), (.atm (.v 1))], 1, [], (.atm (.v 0)), false, []⟩
def sg19 : Sig := ⟨49, 3, [⟨false, false, 55, 2, (.c (.sl [])), [[(.atm (.v 1)), (.atm (.v 2))]]⟩], [(.ptr 0 0 0), (.atm (.v 0))], 3, [⟨false, false, 55, 2, (.c (.sl [])), [[(.atm (.v 1)), (.atm (.v 2))]]⟩], (.atm (.v 0)), false, []⟩
def sg20 : Sig := ⟨37, 1, [], [(.atm (.v 0))], 1, [], (.atm (.v 0)), false, []⟩
def sg21 : Sig := ⟨50, 3, [], [(.agg [(.atm (.v 0)), (.atm (.v 1)), (.atm (.v 2))])], 1, [], (.atm (.v 0)), false, []⟩
def sg22 : Sig := ⟨51, 3, [], [(.agg [(.atm (.v 0)), (.atm (.v 1)), (.atm (.v 2))])], 1, [], (.atm (.v 0)), true, []⟩
def sg23 : Sig := ⟨52, 2, [], [(.atm (.v 0)), (.atm (.v 1))], 1, [], (.atm (.v 0)), false, []⟩
def sg24 : Sig := ⟨53, 4, [], [(.atm (.v 0)), (.agg [(.atm (.v 1)), (.atm (.v 2)), (.atm (.v 3))])], 1, [], (.atm (.v 0)), false, []⟩
def sg25 : Sig := ⟨47, 1, [], [(.atm (.v 0))], 1, [], (.atm (.v 0)), false, []⟩
def sg26 : Sig := ⟨40, 1, [], [(.atm (.v 0))], 1, [], (.atm (.v 0)), false, []⟩
def sg27 : Sig := ⟨54, 3, [], [(.agg [(.atm (.v 0)), (.atm (.v 1)), (.atm (.v 2))])], 1, [], (.atm (.v 0)), false, []⟩
def sg28 : Sig := ⟨55, 3, [], [(.agg [(.atm (.v 0)), (.atm (.v 1)), (.atm (.v 2))])], 1, [], (.atm (.v 0)), true, []⟩
def sg29 : Sig := ⟨56, 2, [], [(.atm (.v 0)), (.atm (.v 1))], 1, [], (.atm (.v 0)), false, []⟩
def sg30 : Sig := ⟨57, 1, [], [(.atm (.v 0))], 1, [], (.atm (.v 0)), false, []⟩
def sg31 : Sig := ⟨59, 2, [], [(.atm (.v 0)), (.atm (.v 1))], 1, [], (.atm (.v 0)), true, []⟩
def sg32 : Sig := ⟨58, 4, [], [(.agg [(.atm (.v 0)), (.atm (.v 1)), (.atm (.v 2))]), (.atm (.v 3))], 1, [], (.atm (.v 0)), false, []⟩
def sg33 : Sig := ⟨60, 1, [], [(.atm (.v 0))], 5, [], (.tup [(.agg [(.atm (.v 0)), (.atm (.v 1)), (.atm (.v 2))]), (.atm (.v 3)), (.atm (.v 4))]), true, []⟩
def sg34 : Sig := ⟨61, 2, [], [(.atm (.v 0)), (.atm (.v 1))], 4, [], (.tup [(.agg [(.atm (.v 0)), (.atm (.v 1)), (.atm (.v 2))]), (.atm (.v 3))]), true, []⟩
def sg35 : Sig := ⟨62, 3, [], [(.agg [(.atm (.v 0)), (.atm (.v 1)), (.atm (.v 2))])], 2, [], (.tup [(.atm (.v 0)), (.atm (.v 1))]), false, []⟩
def sg36 : Sig := ⟨63, 3, [], [(.atm (.v 0)), (.atm (.v 1)), (.atm (.v 2))], 1, [], (.atm (.v 0)), false, []⟩
def sg37 : Sig := ⟨64, 1, [], [(.atm (.v 0))], 1, [], (.atm (.v 0)), false, []⟩
def sg38 : Sig := ⟨66, 1, [], [(.atm (.v 0))], 1, [], (.atm (.v 0)), false, []⟩
def sg39 : Sig := ⟨75, 3, [], [(.agg [(.atm (.v 0)), (.atm (.v 1)), (.atm (.v 2))])], 1, [], (.atm (.v 0)), false, []⟩
def sg40 : Sig := ⟨76, 3, [], [(.agg [(.atm (.v 0)), (.atm (.v 1)), (.atm (.v 2))])], 1, [], (.atm (.v 0)), false, []⟩
def sg41 : Sig := ⟨77, 3, [], [(.agg [(.atm (.v 0)), (.atm (.v 1)), (.atm (.v 2))]), (.atm (.c (fnD 78)))], 1, [], (.atm (.v 0)), false, []⟩
def sg42 : Sig := ⟨77, 3, [], [(.agg [(.atm (.v 0)), (.atm (.v 1)), (.atm (.v 2))]), (.atm (.c (fnD 79)))], 1, [], (.atm (.v 0)), false, []⟩
def sg43 : Sig := ⟨83, 2, [], [(.atm (.v 0)), (.atm (.v 1))], 1, [], (.atm (.v 0)), false, []⟩
def sg44 : Sig := ⟨84, 1, [], [(.atm (.v 0))], 1, [], (.atm (.v 0)), false, []⟩
def sg45 : Sig := ⟨74, 1, [], [(.atm (.v 0))], 1, [], (.atm (.v 0)), false, []⟩
def sg46 : Sig := ⟨71, 1, [], [(.atm (.v 0))], 1, [], (.atm (.v 0)), false, []⟩
def sg47 : Sig := ⟨85, 3, [], [(.agg [(.atm (.v 0)), (.atm (.v 1)), (.atm (.v 2))])], 1, [], (.atm (.v 0)), false, []⟩
def sg48 : Sig := ⟨86, 3, [], [(.agg [(.atm (.v 0)), (.atm (.v 1)), (.atm (.v 2))])], 1, [], (.atm (.v 0)), false, []⟩
def sg49 : Sig := ⟨87, 3, [], [(.agg [(.atm (.v 0)), (.atm (.v 1)), (.atm (.v 2))])], 1, [], (.atm (.v 0)), false, []⟩
def sg50 : Sig := ⟨88, 3, [], [(.agg [(.atm (.v 0)), (.atm (.v 1)), (.atm (.v 2))])], 1, [], (.atm (.v 0)), false, []⟩
def sg51 : Sig := ⟨89, 4, [], [(.atm (.v 0)), (.agg [(.atm (.v 1)), (.atm (.v 2)), (.atm (.v 3))])], 1, [], (.atm (.v 0)), true, []⟩
def sg52 : Sig := ⟨90, 4, [], [(.agg [(.atm (.v 0)), (.atm (.v 1)), (.atm (.v 2))]), (.atm (.v 3))], 1, [], (.atm (.v 0)), false, []⟩
def sg53 : Sig := ⟨91, 4, [⟨false, false, 97, 4, (.c (.sl [])), [[(.atm (.v 0)), (.atm (.v 1)), (.atm (.v 2)), (.atm (.v 3))]]⟩], [(.ptr 0 0 0)], 7, [⟨false, false, 97, 4, (.c (.sl [])), [[(.atm (.v 3)), (.atm (.v 4)), (.atm (.v 5)), (.atm (.v 6))]]⟩], (.agg [(.atm (.v 0)), (.atm (.v 1)), (.atm (.v 2))]), true, []⟩
def sg54 : Sig := ⟨92, 5, [⟨false, false, 97, 4, (.c (.sl [])), [[(.atm (.v 1)), (.atm (.v 2)), (.atm (.v 3)), (.atm (.v 4))]]⟩], [(.ptr 0 0 0), (.atm (.v 0))], 5, [⟨false, false, 97, 4, (.c (.sl [])), [[(.atm (.v 1)), (.atm (.v 2)), (.atm (.v 3)), (.atm (.v 4))]]⟩], (.atm (.v 0)), false, []⟩
def sg55 : Sig := ⟨93, 4, [⟨false, false, 97, 4, (.c (.sl [])), [[(.atm (.v 0)), (.atm (.v 1)), (.atm (.v 2)), (.atm (.v 3))]]⟩], [(.ptr 0 0 0)], 7, [⟨false, false, 97, 4, (.c (.sl [])), [[(.atm (.v 3)), (.atm (.v 4)), (.atm (.v 5)), (.atm (.v 6))]]⟩], (.agg [(.atm (.v 0)), (.atm (.v 1)), (.atm (.v 2))]), true, []⟩
def sg56 : Sig := ⟨94, 2, [], [(.atm (.v 0)), (.atm (.v 1))], 3, [], (.agg [(.atm (.v 0)), (.atm (.v 1)), (.atm (.v 2))]), true, []⟩
def sg57 : Sig := ⟨33, 1, [], [(.atm (.v 0))], 1, [], (.atm (.v 0)), false, []⟩
def sg58 : Sig := ⟨78, 3, [], [(.agg [(.atm (.v 0)), (.atm (.v 1)), (.atm (.v 2))])], 1, [], (.atm (.v 0)), false, []⟩
def sg59 : Sig := ⟨79, 3, [], [(.agg [(.atm (.v 0)), (.atm (.v 1)), (.atm (.v 2))])], 1, [], (.atm (.v 0)), false, []⟩
def sg60 : Sig := ⟨103, 2, [], [(.atm (.v 0)), (.atm (.v 1))], 1, [], (.atm (.v 0)), true, []⟩
def sg61 : Sig := ⟨104, 4, [⟨false, false, 97, 4, (.c (.sl [])), [[(.atm (.v 0)), (.atm (.v 1)), (.atm (.v 2)), (.atm (.v 3))]]⟩], [(.ptr 0 0 0)], 7, [⟨false, false, 97, 4, (.c (.sl [])), [[(.atm (.v 3)), (.atm (.v 4)), (.atm (.v 5)), (.atm (.v 6))]]⟩], (.agg [(.atm (.v 0)), (.atm (.v 1)), (.atm (.v 2))]), true, []⟩
def sg62 : Sig := ⟨105, 4, [⟨false, false, 97, 4, (.c (.sl [])), [[(.atm (.v 0)), (.atm (.v 1)), (.atm (.v 2)), (.atm (.v 3))]]⟩], [(.ptr 0 0 0)], 7, [⟨false, false, 97, 4, (.c (.sl [])), [[(.atm (.v 3)), (.atm (.v 4)), (.atm (.v 5)), (.atm (.v 6))]]⟩], (.agg [(.atm (.v 0)), (.atm (.v 1)), (.atm (.v 2))]), false, []⟩
def sg63 : Sig := ⟨106, 1, [], [(.atm (.v 0))], 2, [], (.tup [(.atm (.v 0)), (.atm (.v 1))]), false, []⟩
def sg64 : Sig := ⟨107, 7, [], [(.atm (.v 0)), (.agg [(.atm (.v 1)), (.atm (.v 2)), (.atm (.v 3))]), (.agg [(.atm (.v 4)), (.atm (.v 5)), (.atm (.v 6))])], 3, [], (.agg [(.atm (.v 0)), (.atm (.v 1)), (.atm (.v 2))]), true, []⟩
def sg65 : Sig := ⟨126, 4, [⟨false, false, 97, 4, (.c (.sl [])), [[(.atm (.v 0)), (.atm (.v 1)), (.atm (.v 2)), (.atm (.v 3))]]⟩], [(.ptr 0 0 0)], 7, [⟨false, false, 97, 4, (.c (.sl [])), [[(.atm (.v 3)), (.atm (.v 4)), (.atm (.v 5)), (.atm (.v 6))]]⟩], (.agg [(.atm (.v 0)), (.atm (.v 1)), (.atm (.v 2))]), true, []⟩
def sg66 : Sig := ⟨127, 1, [], [(.atm (.v 0))], 1, [], (.atm (.v 0)), false, []⟩
def sg67 : Sig := ⟨136, 6, [⟨false, false, 97, 4, (.c (.sl [])), [[(.atm (.v 2)), (.atm (.v 3)), (.atm (.v 4)), (.atm (.v 5))]]⟩], [(.ptr 0 0 0), (.atm (.v 0)), (.atm (.v 1)), (.clo 137 [(.ptr 0 0 0)] [])], 7, [⟨false, false, 97, 4, (.c (.sl [])), [[(.atm (.v 3)), (.atm (.v 4)), (.atm (.v 5)), (.atm (.v 6))]]⟩], (.agg [(.atm (.v 0)), (.atm (.v 1)), (.atm (.v 2))]), true, []⟩
def sg68 : Sig := ⟨137, 4, [⟨false, false, 97, 4, (.c (.sl [])), [[(.atm (.v 0)), (.atm (.v 1)), (.atm (.v 2)), (.atm (.v 3))]]⟩], [(.ptr 0 0 0)], 7, [⟨false, false, 97, 4, (.c (.sl [])), [[(.atm (.v 3)), (.atm (.v 4)), (.atm (.v 5)), (.atm (.v 6))]]⟩], (.agg [(.atm (.v 0)), (.atm (.v 1)), (.atm (.v 2))]), true, []⟩
def sg69 : Sig := ⟨136, 6, [⟨false, false, 97, 4, (.c (.sl [])), [[(.atm (.v 2)), (.atm (.v 3)), (.atm (.v 4)), (.atm (.v 5))]]⟩], [(.ptr 0 0 0), (.atm (.v 0)), (.atm (.v 1)), (.clo 140 [(.ptr 0 0 0)] [])], 7, [⟨false, false, 97, 4, (.c (.sl [])), [[(.atm (.v 3)), (.atm (.v 4)), (.atm (.v 5)), (.atm (.v 6))]]⟩], (.agg [(.atm (.v 0)), (.atm (.v 1)), (.atm (.v 2))]), true, []⟩
def sg70 : Sig := ⟨140, 4, [⟨false, false, 97, 4, (.c (.sl [])), [[(.atm (.v 0)), (.atm (.v 1)), (.atm (.v 2)), (.atm (.v 3))]]⟩], [(.ptr 0 0 0)], 7, [⟨false, false, 97, 4, (.c (.sl [])), [[(.atm (.v 3)), (.atm (.v 4)), (.atm (.v 5)), (.atm (.v 6))]]⟩], (.agg [(.atm (.v 0)), (.atm (.v 1)), (.atm (.v 2))]), true, []⟩
def sigs : List Sig := [sg0, sg1, sg2, sg3, sg4, sg5, sg6, sg7, sg8, sg9, sg10, sg11, sg12, sg13, sg14, sg15, sg16, sg17, sg18, sg19, sg20, sg21, sg22, sg23, sg24, sg25, sg26, sg27, sg28, sg29, sg30, sg31, sg32, sg33, sg34, sg35, sg36, sg37, sg38, sg39, sg40, sg41, sg42, sg43, sg44, sg45, sg46, sg47, sg48, sg49, sg50, sg51, sg52, sg53, sg54, sg55, sg56, sg57, sg58, sg59, sg60, sg61, sg62, sg63, sg64, sg65, sg66, sg67, sg68, sg69, sg70]
def an0 : Ann := (.s none .z (.s none (.s (some ⟨1, [(1, .junk), (6, .junk), (38, (.atm (.v 0)))], [], 1, []⟩) .z .z) (.s none .z (.s none .z (.s none (.s none .z (.b (.l ⟨3, [(0, .junk), (2, .junk), (38, .junk), (39, .junk), (40, .junk), (41, .junk), (42, .junk), (43, .junk), (44, .junk), (45, .junk), (46, .junk), (47, .junk), (48, .junk), (49, .junk), (50, .junk), (51, .junk), (54, (.atm (.v 0)))], [(1, ⟨false, false, 55, 2, (.c (.sl [])), [[(.atm (.v 1)), (.atm (.v 2))]]⟩)], 7, []⟩ (.s none .z (.s none .z (.s none (.b (.s none .z (.s none .z (.b (.l ⟨1, [(55, .junk), (56, .junk), (57, .junk), (58, .junk), (59, .junk), (60, .junk), (61, .junk), (62, .junk), (65, (.atm (.v 0)))], [], 13, []⟩ (.s none .z (.s none .z (.s none (.b (.s none .z (.s none .z (.s none .z (.s none .z (.s none .z (.s none .z (.s none .z (.s (some ⟨1, [(13, .junk), (14, .junk), (15, .junk), (16, .junk), (17, .junk), (18, .junk), (19, .junk), (20, .junk), (21, .junk), (22, .junk), (23, .junk), (24, .junk), (25, .junk), (66, .junk), (67, .junk), (68, .junk), (69, .junk), (70, .junk), (71, .junk), (72, .junk), (73, .junk), (74, .junk), (75, .junk), (76, .junk), (77, .junk), (78, .junk), (79, .junk), (80, .junk), (81, .junk), (82, .junk), (83, .junk), (84, .junk), (85, .junk), (86, .junk), (87, .junk), (88, .junk), (89, .junk), (90, .junk), (91, .junk), (92, .junk), (93, .junk), (94, .junk), (95, .junk), (96, .junk), (97, .junk), (98, .junk), (99, .junk), (100, .junk), (101, .junk), (102, .junk), (103, .junk), (104, .junk), (105, .junk), (106, .junk), (107, .junk), (108, .junk), (136, (.atm (.v 0)))], [], 14, []⟩) .z .z))))))))) .z)))))))) .z)))))) .z)))))
def ir0p0 : IR :=
 (.ite (.v 57)
  (.ret [(.c (.bool false))])
 (.op (.bin .add false) [(.v 40), (.c (.int .i64 1))]
 (.jump 1 [(.v 58)])))
def ir0p1 : IR :=
 (.op (.bin .lss false) [(.v 40), (.v 39)]
 (.ite (.v 41)
  (.op .chk [(.v 38), (.v 40)]
  (.op (.get 0 3) [(.v 38), (.v 40)]
  (.call 10 2 false [] [(.v 32), (.v 42), (.v 43), (.v 44)]
  (.call 11 2 false [] [(.v 32), (.v 42), (.v 43), (.v 44)]
  (.call 12 2 false [] [(.v 32), (.v 42), (.v 43), (.v 44), (.v 13), (.v 14), (.v 15)]
  (.call 13 2 false [] [(.v 32), (.v 42), (.v 43), (.v 44), (.v 13), (.v 14), (.v 15)]
  (.call 12 2 false [] [(.v 32), (.v 13), (.v 14), (.v 15), (.v 42), (.v 43), (.v 44)]
  (.call 13 2 false [] [(.v 32), (.v 13), (.v 14), (.v 15), (.v 42), (.v 43), (.v 44)]
  (.letj 1
   (.op (.bin .neq false) [(.v 45), (.v 47)]
   (.ite (.v 57)
    (.jump 2 [(.c (.bool true))])
   (.op (.bin .neq false) [(.v 46), (.v 48)]
   (.ite (.v 58)
    (.jump 2 [(.c (.bool true))])
   (.op (.bin .neq true) [(.v 49), (.v 51)]
   (.ite (.v 59)
    (.jump 2 [(.c (.bool true))])
   (.op (.bin .neq false) [(.v 50), (.v 52)]
   (.ite (.v 60)
    (.jump 2 [(.c (.bool true))])
   (.op (.bin .neq true) [(.v 53), (.v 55)]
   (.ite (.v 61)
    (.jump 2 [(.c (.bool true))])
   (.op (.bin .neq false) [(.v 54), (.v 56)]
   (.jump 2 [(.v 62)]))))))))))))
  ir0p0)))))))))
 (.op (.bin .add false) [(.v 28), (.c (.int .i64 1))]
 (.jump 0 [(.v 42), (.v 36), (.v 37)]))))
def ir0p2 : IR :=
 (.op (.bin .lss false) [(.v 28), (.v 27)]
 (.ite (.v 31)
  (.op .chk [(.v 26), (.v 28)]
  (.op (.get 0 1) [(.v 26), (.v 28)]
  (.call 9 5 false [] [(.v 8), (.v 9), (.v 10), (.v 29), (.v 30)]
  (.op (.mk 3 3) [(.v 1), (.v 2), (.v 3), (.v 8), (.v 9), (.v 10), (.v 33), (.v 34), (.v 35)]
  (.op .lenL [(.v 38)]
  (.loop 1 [(.c (.int .i64 0))] ir0p1))))))
 (.call 14 1 false [] []
 (.ret [(.v 32)]))))
def ir0p3 : IR :=
 (.ite (.v 5)
  (.ret [(.c (.bool true))])
 (.call 4 2 false [] [(.v 4)]
 (.call 5 5 false [] [(.c (.int .i64 4)), (.c (.int .i64 3)), (.v 6), (.v 7)]
 (.call 5 5 false [] [(.c (.int .i64 3)), (.c (.int .i64 3)), (.v 11), (.v 12)]
 (.call 6 1 false [0] [(.c (.int .i64 4))]
 (.call 7 3 false [] [(.c (.int .i64 7)), (.v 16), (.v 17)]
 (.call 6 1 false [0] [(.v 19)]
 (.call 8 3 false [] [(.v 20), (.v 21)]
 (.op (.mk 1 4) [(.v 0), (.v 18), (.v 22), (.v 23)]
 (.op .lenL [(.v 26)]
 (.loop 3 [(.c (.int .i64 0)), (.v 24), (.v 25)] ir0p2)))))))))))
def ir0 : IR :=
 (.letj 1
  (.call 1 1 false [] [(.v 0)]
  (.op (.un .not) [(.v 5)]
  (.ite (.v 6)
   (.jump 0 [(.c (.bool true))])
  (.call 2 1 false [] [(.v 1), (.v 2), (.v 3)]
  (.op (.un .not) [(.v 7)]
  (.ite (.v 8)
   (.jump 0 [(.c (.bool true))])
  (.call 3 1 false [] [(.v 1), (.v 2), (.v 3), (.c (.int .i64 100))]
  (.op (.bin .gtr false) [(.v 9), (.c (.int .i64 100))]
  (.jump 0 [(.v 10)])))))))))
 ir0p3)
theorem rd0 : readFn T SG sigs 3000 sg0 Tryz.f4 an0 = some ir0 := by kernel_rfl
def an1 : Ann := (.s none .z (.s none (.s none .z (.b (.l ⟨1, [(2, .junk), (4, .junk), (6, (.atm (.v 0)))], [], 0, []⟩ .z))) .z))
def ir1p0 : IR :=
 (.op (.bin .lss false) [(.v 2), (.v 1)]
 (.ite (.v 3)
  (.op (.row 1) [(.v 0), (.v 2)]
  (.op .lenS [(.v 4)]
  (.op (.bin .gtr false) [(.v 5), (.c (.int .i64 60))]
  (.ite (.v 6)
   (.ret [(.c (.bool false))])
  (.op (.bin .add false) [(.v 2), (.c (.int .i64 1))]
  (.jump 0 [(.v 7)]))))))
 (.op .lenL [(.v 0)]
 (.op (.bin .leq false) [(.v 4), (.c (.int .i64 12))]
 (.ret [(.v 5)])))))
def ir1 : IR :=
 (.op .lenL [(.v 0)]
 (.loop 1 [(.c (.int .i64 0))] ir1p0))
theorem rd1 : readFn T SG sigs 3000 sg1 Tryz.f21 an1 = some ir1 := by kernel_rfl
def an2 : Ann := .z
def ir2 : IR :=
 (.call 3 1 false [] [(.v 0), (.v 1), (.v 2), (.c (.int .i64 800))]
 (.op (.bin .leq false) [(.v 3), (.c (.int .i64 800))]
 (.ite (.v 4)
  (.call 15 1 false [] [(.v 0), (.v 1), (.v 2), (.c (.int .i64 30))]
  (.op (.bin .leq false) [(.v 5), (.c (.int .i64 30))]
  (.ite (.v 6)
   (.call 16 1 false [] [(.v 0), (.v 1), (.v 2)]
   (.ret [(.v 7)]))
  (.ret [(.c (.bool false))]))))
 (.ret [(.c (.bool false))]))))
theorem rd2 : readFn T SG sigs 3000 sg2 Tryz.f5 an2 = some ir2 := by kernel_rfl
def an3 : Ann := (.s none .z (.s none .z (.s none (.s none .z (.b (.l ⟨2, [(0, .junk), (4, .junk), (5, (.atm (.v 0))), (7, .junk), (8, .junk), (10, (.atm (.v 1)))], [], 1, []⟩ .z))) .z)))
def ir3p0 : IR :=
 (.op (.bin .lss false) [(.v 6), (.v 4)]
 (.ite (.v 7)
  (.op (.bin .gtr false) [(.v 5), (.v 3)]
  (.ite (.v 8)
   (.ret [(.v 5)])
  (.op (.row 3) [(.v 2), (.v 6)]
  (.op (.bin .sub false) [(.v 3), (.v 5)]
  (.call 3 1 false [] [(.v 9), (.v 10), (.v 11), (.v 12)]
  (.op (.bin .add false) [(.v 5), (.v 13)]
  (.op (.bin .add false) [(.v 6), (.c (.int .i64 1))]
  (.jump 0 [(.v 14), (.v 15)]))))))))
 (.ret [(.v 5)])))
def ir3 : IR :=
 (.op .lenL [(.v 2)]
 (.loop 2 [(.c (.int .i64 1)), (.c (.int .i64 0))] ir3p0))
theorem rd3 : readFn T SG sigs 3000 sg3 Tryz.f22 an3 = some ir3 := by kernel_rfl
def an4 : Ann := .z
def ir4 : IR :=
 (.op .lenL [(.v 0)]
 (.op .min [(.v 1), (.c (.int .i64 2000))]
 (.op (.subL 1) [(.v 0), (.c (.int .i64 0)), (.v 2)]
 (.ret [(.v 3), (.c (.int .i64 0))]))))
theorem rd4 : readFn T SG sigs 3000 sg4 Tryz.f7 an4 = some ir4 := by kernel_rfl
def an5 : Ann := (.s none .z (.s none .z (.s none (.s (some ⟨1, [(11, .junk), (12, .junk), (18, (.atm (.v 0)))], [], 2, []⟩) .z .z) (.s none .z (.s none .z (.s (some ⟨3, [(7, .junk), (9, (.atm (.v 0))), (18, .junk), (34, .junk), (35, .junk), (36, .junk), (37, .junk), (38, .junk), (39, .junk)], [(0, ⟨false, false, 55, 2, (.c (.sl [])), [[(.atm (.v 1)), (.atm (.v 2))]]⟩)], 4, []⟩) (.s none .z (.b (.s none .z (.c .z (.s (some ⟨1, [(7, .junk), (18, .junk), (34, .junk), (35, .junk), (36, .junk), (37, .junk), (38, .junk), (39, .junk), (40, .junk), (41, .junk), (42, .junk), (43, .junk), (44, (.atm (.v 0)))], [], 4, []⟩) .z .z))))) (.s none (.s none .z (.b (.l ⟨4, [(10, (.atm (.v 0)))], [(0, ⟨false, false, 55, 2, (.c (.sl [])), [[(.atm (.v 1)), (.atm (.v 2))]]⟩), (4, ⟨false, true, 27, 3, (.v 3), []⟩)], 5, [⟨some (3, 0, 2), 0, 27, 3⟩]⟩ .z))) .z)))))))
def ir5p0 : IR :=
 (.op (.bin .lss false) [(.v 14), (.v 11)]
 (.ite (.v 18)
  (.op (.bin .sub false) [(.v 1), (.c (.int .i64 1))]
  (.call 5 5 false [] [(.v 0), (.v 19), (.v 15), (.v 16)]
  (.op (.mk 3 1) [(.v 20), (.v 21), (.v 22)]
  (.op (.app 3 48) [(.v 17), (.v 25)]
  (.op (.bin .add false) [(.v 14), (.c (.int .i64 1))]
  (.jump 0 [(.v 27), (.v 23), (.v 24), (.v 26)]))))))
 (.ret [(.v 10), (.c (.str [])), (.v 17), (.v 15), (.v 16)])))
def ir5p1 : IR :=
 (.loop 4 [(.c (.int .i64 0)), (.v 12), (.v 13), (.c (.sl []))] ir5p0)
def ir5p2 : IR :=
 (.ite (.v 12)
  (.call 7 3 false [] [(.c (.int .i64 2)), (.v 5), (.v 6)]
  (.op (.bin .add false) [(.c (.int .i64 2)), (.v 13)]
  (.jump 0 [(.v 16), (.v 14), (.v 15)])))
 (.jump 0 [(.c (.int .i64 2)), (.v 5), (.v 6)]))
def ir5p3 : IR :=
 (.ite (.v 7)
  (.op (.bin .eql false) [(.v 4), (.c (.int .i64 0))]
  (.ite (.v 8)
   (.call 7 3 false [] [(.c (.int .i64 2)), (.v 5), (.v 6)]
   (.op (.bin .add false) [(.c (.int .i64 1)), (.v 9)]
   (.ret [(.v 12), (.c (.str [])), (.c (.sl [])), (.v 10), (.v 11)])))
  (.call 7 3 false [] [(.v 0), (.v 5), (.v 6)]
  (.op (.bin .add false) [(.c (.int .i64 97)), (.v 9)]
  (.op (.conv .u8) [(.v 12)]
  (.op (.mk 1 1) [(.v 13)]
  (.op .toS [(.v 14)]
  (.ret [(.c (.int .i64 3)), (.v 15), (.c (.sl [])), (.v 10), (.v 11)]))))))))
 (.op (.mk 1 8) [(.c (.int .i64 4)), (.c (.int .i64 4)), (.c (.int .i64 5)), (.c (.int .i64 5)), (.c (.int .i64 6)), (.c (.int .i64 6)), (.c (.int .i64 7)), (.c (.int .i64 8))]
 (.op (.bin .sub false) [(.v 4), (.c (.int .i64 4))]
 (.op .chk [(.v 8), (.v 9)]
 (.op (.get 0 1) [(.v 8), (.v 9)]
 (.letj 3
  (.op (.bin .eql false) [(.v 10), (.c (.int .i64 4))]
  (.ite (.v 11)
   (.jump 0 [(.c (.int .i64 1)), (.v 5), (.v 6)])
  (.letj 1
   (.op (.bin .eql false) [(.v 10), (.c (.int .i64 5))]
   (.ite (.v 12)
    (.jump 1 [(.c (.bool true))])
   (.op (.bin .eql false) [(.v 10), (.c (.int .i64 6))]
   (.jump 1 [(.v 13)]))))
  ir5p2)))
 ir5p1))))))
def ir5 : IR :=
 (.call 7 3 false [] [(.c (.int .i64 12)), (.v 2), (.v 3)]
 (.letj 1
  (.op (.bin .lss false) [(.v 1), (.c (.int .i64 1))]
  (.ite (.v 7)
   (.jump 0 [(.c (.bool true))])
  (.op (.bin .lss false) [(.v 4), (.c (.int .i64 4))]
  (.jump 0 [(.v 8)]))))
 ir5p3))
theorem rd5 : readFn T SG sigs 3000 sg5 Tryz.f16 an5 = some ir5 := by kernel_rfl
def an6 : Ann := (.s none .z (.s none .z (.s none (.s none .z (.b (.l ⟨2, [(2, .junk), (4, (.atm (.v 0)))], [(0, ⟨false, true, 9, 1, (.v 1), []⟩)], 1, [⟨none, 3, 9, 1⟩]⟩ .z))) .z)))
def ir6p0 : IR :=
 (.op (.bin .lss false) [(.v 1), (.v 0)]
 (.ite (.v 3)
  (.op (.bin .add false) [(.c (.int .i64 97)), (.v 1)]
  (.op (.conv .u8) [(.v 4)]
  (.op (.mk 1 1) [(.v 5)]
  (.op .toS [(.v 6)]
  (.op (.mk 1 1) [(.v 7)]
  (.op (.app 1 16) [(.v 2), (.v 8)]
  (.op (.bin .add false) [(.v 1), (.c (.int .i64 1))]
  (.jump 0 [(.v 10), (.v 9)]))))))))
 (.ret [(.v 2)])))
def ir6 : IR :=
 (.loop 2 [(.c (.int .i64 0)), (.c (.sl []))] ir6p0)
theorem rd6 : readFn T SG sigs 3000 sg6 Tryz.f12 an6 = some ir6 := by kernel_rfl
def an7 : Ann := .z
def ir7 : IR :=
 (.call 17 3 false [] [(.v 1), (.v 2)]
 (.call 18 1 false [] [(.v 3), (.v 0)]
 (.ret [(.v 6), (.v 4), (.v 5)])))
theorem rd7 : readFn T SG sigs 3000 sg7 Tryz.f11 an7 = some ir7 := by kernel_rfl
def an8 : Ann := (.s none .z (.s none .z (.s (some ⟨3, [(0, .junk), (2, .junk), (4, .junk), (5, .junk), (6, .junk)], [(0, ⟨false, false, 55, 2, (.c (.sl [])), [[(.atm (.v 0)), (.atm (.v 1))]]⟩), (1, ⟨false, true, 9, 1, (.v 2), []⟩)], 2, []⟩) .z .z)))
def ir8p0 : IR :=
 (.ret [(.v 8), (.v 6), (.v 7)])
def ir8 : IR :=
 (.call 7 3 false [] [(.c (.int .i64 9)), (.v 0), (.v 1)]
 (.call 6 1 false [0] [(.v 2)]
 (.letj 3
  (.op .lenL [(.v 5)]
  (.op (.bin .gtr false) [(.v 6), (.c (.int .i64 0))]
  (.ite (.v 7)
   (.op .lenL [(.v 5)]
   (.call 7 3 false [] [(.v 8), (.v 3), (.v 4)]
   (.op (.mk 1 5) [(.c (.str [97])), (.c (.str [])), (.c (.str [65])), (.c (.str [122, 122])), (.c (.str [98]))]
   (.call 19 3 false [] [(.v 12), (.v 10), (.v 11)]
   (.op .chk [(.v 5), (.v 9)]
   (.op (.set 0 1) [(.v 5), (.v 9), (.v 13)]
   (.jump 0 [(.v 14), (.v 15), (.v 16)])))))))
  (.jump 0 [(.v 3), (.v 4), (.v 5)]))))
 ir8p0)))
theorem rd8 : readFn T SG sigs 3000 sg8 Tryz.f23 an8 = some ir8 := by kernel_rfl
def an9 : Ann := (.s none .z (.s none .z (.s none (.s (some ⟨3, [(1, .junk), (3, .junk), (7, .junk), (8, .junk), (9, .junk), (10, .junk), (12, .junk), (13, .junk), (14, .junk), (15, .junk), (24, (.atm (.v 0)))], [(0, ⟨false, false, 55, 2, (.c (.sl [])), [[(.atm (.v 1)), (.atm (.v 2))]]⟩)], 13, []⟩) .z .z) (.s (some ⟨6, [(0, .junk), (24, .junk)], [(0, ⟨false, false, 55, 2, (.c (.sl [])), [[(.atm (.v 0)), (.atm (.v 1))]]⟩), (7, ⟨true, true, 27, 3, (.v 2), []⟩), (12, ⟨false, false, 27, 3, (.c (.sl [])), [[(.atm (.v 3)), (.atm (.v 4)), (.atm (.v 5))]]⟩)], 13, []⟩) .z .z))))
def ir9p0 : IR :=
 (.ret [(.v 12), (.v 13), (.v 14), (.v 9), (.v 10)])
def ir9p1 : IR :=
 (.ite (.v 6)
  (.op .lenL [(.v 5)]
  (.call 7 3 false [] [(.v 9), (.v 7), (.v 8)]
  (.op .chk [(.v 5), (.v 10)]
  (.op (.get 0 3) [(.v 5), (.v 10)]
  (.call 9 5 false [] [(.v 13), (.v 14), (.v 15), (.v 11), (.v 12)]
  (.op .chk [(.v 5), (.v 10)]
  (.op (.set 0 3) [(.v 5), (.v 10), (.v 16), (.v 17), (.v 18)]
  (.ret [(.v 0), (.v 1), (.v 21), (.v 19), (.v 20)]))))))))
 (.letj 6
  (.call 7 3 false [] [(.c (.int .i64 5)), (.v 7), (.v 8)]
  (.op (.bin .eql false) [(.v 9), (.c (.int .i64 0))]
  (.ite (.v 12)
   (.call 7 3 false [] [(.c (.int .i64 11)), (.v 10), (.v 11)]
   (.op (.bin .sub false) [(.v 13), (.c (.int .i64 1))]
   (.jump 0 [(.v 14), (.v 15), (.v 5), (.v 16), (.v 1), (.v 5)])))
  (.op (.bin .eql false) [(.v 9), (.c (.int .i64 1))]
  (.ite (.v 13)
   (.op (.mk 1 4) [(.c (.str [97])), (.c (.str [65])), (.c (.str [])), (.c (.str [95]))]
   (.call 19 3 false [] [(.v 14), (.v 10), (.v 11)]
   (.op (.bin .add false) [(.v 1), (.v 15)]
   (.jump 0 [(.v 16), (.v 17), (.v 5), (.v 0), (.v 18), (.v 5)]))))
  (.op (.bin .eql false) [(.v 9), (.c (.int .i64 2))]
  (.ite (.v 14)
   (.call 5 5 false [] [(.c (.int .i64 3)), (.c (.int .i64 1)), (.v 10), (.v 11)]
   (.op (.mk 3 1) [(.v 15), (.v 16), (.v 17)]
   (.op (.app 3 48) [(.v 5), (.v 20)]
   (.jump 0 [(.v 18), (.v 19), (.v 21), (.v 0), (.v 1), (.v 21)]))))
  (.op (.bin .eql false) [(.v 9), (.c (.int .i64 3))]
  (.ite (.v 15)
   (.op .lenL [(.v 5)]
   (.op (.bin .gtr false) [(.v 16), (.c (.int .i64 0))]
   (.ite (.v 17)
    (.op .lenL [(.v 5)]
    (.op (.subL 3) [(.v 5), (.c (.int .i64 1)), (.v 18)]
    (.jump 0 [(.v 10), (.v 11), (.v 5), (.v 0), (.v 1), (.v 19)])))
   (.jump 0 [(.v 10), (.v 11), (.v 5), (.v 0), (.v 1), (.v 5)]))))
  (.jump 0 [(.v 10), (.v 11), (.v 5), (.v 0), (.c (.str [])), (.v 5)]))))))))))
 ir9p0))
def ir9 : IR :=
 (.op (.app 3 48) [(.c (.sl [])), (.v 2)]
 (.letj 3
  (.op .lenL [(.v 5)]
  (.op (.bin .gtr false) [(.v 6), (.c (.int .i64 0))]
  (.ite (.v 7)
   (.call 7 3 false [] [(.c (.int .i64 3)), (.v 3), (.v 4)]
   (.op (.bin .gtr false) [(.v 8), (.c (.int .i64 0))]
   (.jump 0 [(.v 11), (.v 9), (.v 10)])))
  (.jump 0 [(.c (.bool false)), (.v 3), (.v 4)]))))
 ir9p1))
theorem rd9 : readFn T SG sigs 3000 sg9 Tryz.f24 an9 = some ir9 := by kernel_rfl
def an10 : Ann := (.s none .z (.s none .z (.s none .z (.s none (.s none .z (.b (.l ⟨1, [(1, .junk), (4, .junk), (5, .junk), (6, .junk), (9, .junk), (10, .junk), (11, .junk), (12, .junk), (13, .junk), (14, .junk), (15, .junk), (17, .junk), (20, (.atm (.v 0)))], [], 1, []⟩ .z))) .z))))
def ir10p0 : IR :=
 (.op (.bin .lss false) [(.v 10), (.v 9)]
 (.ite (.v 11)
  (.op (.row 1) [(.v 8), (.v 10)]
  (.call 23 1 false [] [(.v 0), (.v 12)]
  (.op (.un .not) [(.v 13)]
  (.ite (.v 14)
   (.ret [(.c (.int .u64 0)), (.c (.int .i64 6))])
  (.op (.bin .add false) [(.v 10), (.c (.int .i64 1))]
  (.jump 0 [(.v 15)]))))))
 (.call 24 1 false [] [(.v 0), (.v 1), (.v 2), (.v 3)]
 (.call 25 1 false [] [(.v 0)]
 (.op (.bin .and false) [(.v 12), (.v 13)]
 (.ret [(.v 14), (.c (.int .i64 0))]))))))
def ir10 : IR :=
 (.call 20 1 false [] [(.v 0)]
 (.op (.un .not) [(.v 4)]
 (.ite (.v 5)
  (.ret [(.c (.int .u64 0)), (.c (.int .i64 1))])
 (.call 21 1 false [] [(.v 1), (.v 2), (.v 3)]
 (.op (.bin .neq false) [(.v 6), (.c (.int .i64 0))]
 (.ite (.v 7)
  (.ret [(.c (.int .u64 0)), (.v 6)])
 (.call 22 1 false [] [(.v 1), (.v 2), (.v 3)]
 (.op .lenL [(.v 8)]
 (.loop 1 [(.c (.int .i64 0))] ir10p0)))))))))
theorem rd10 : readFn T SG sigs 3000 sg10 Tryz.f25 an10 = some ir10 := by kernel_rfl
def an11 : Ann := (.s none .z (.s none .z (.s none .z (.s none .z (.s none (.s none .z (.b (.l ⟨1, [(1, .junk), (4, .junk), (5, .junk), (6, .junk), (8, (.atm (.v 0))), (11, .junk), (12, .junk), (13, .junk), (14, .junk), (15, .junk), (16, .junk), (17, .junk), (19, .junk), (20, .junk)], [], 1, []⟩ .z))) (.s none .z (.s none (.s none .z (.b (.l ⟨2, [(7, .junk), (8, .junk), (9, (.atm (.v 0))), (10, (.atm (.v 1))), (21, .junk), (22, .junk), (23, .junk), (24, .junk)], [], 1, []⟩ (.s none .z (.s (some ⟨1, [(9, (.atm (.v 0))), (34, .junk), (35, .junk), (36, .junk), (37, .junk)], [], 1, []⟩) .z .z))))) .z)))))))
def ir11p0 : IR :=
 (.op (.bin .add false) [(.v 13), (.c (.int .i64 1))]
 (.jump 1 [(.v 16), (.v 17)]))
def ir11p1 : IR :=
 (.call 30 1 false [] [(.v 0)]
 (.op (.bin .lss false) [(.v 13), (.v 14)]
 (.ite (.v 15)
  (.letj 1
   (.call 31 1 false [] [(.v 0), (.v 13)]
   (.call 32 1 false [] [(.v 1), (.v 2), (.v 3), (.v 16)]
   (.ite (.v 17)
    (.op (.conv .u64) [(.v 13)]
    (.op (.bin .shl false) [(.c (.int .u64 1)), (.v 18)]
    (.op (.bin .or false) [(.v 12), (.v 19)]
    (.jump 2 [(.v 20)]))))
   (.jump 2 [(.v 12)]))))
  ir11p0)
 (.ret [(.v 12), (.c (.int .i64 0))]))))
def ir11p2 : IR :=
 (.op .lenL [(.v 8)]
 (.op (.bin .lss false) [(.v 9), (.v 10)]
 (.ite (.v 11)
  (.op (.row 1) [(.v 8), (.v 9)]
  (.call 29 1 false [] [(.v 0), (.v 12)]
  (.op (.bin .lss false) [(.v 13), (.c (.int .i64 0))]
  (.ite (.v 14)
   (.ret [(.c (.int .u64 0)), (.c (.int .i64 6))])
  (.op (.bin .add false) [(.v 9), (.c (.int .i64 1))]
  (.jump 0 [(.v 15)]))))))
 (.loop 2 [(.c (.int .u64 0)), (.c (.int .i64 0))] ir11p1))))
def ir11 : IR :=
 (.call 26 1 false [] [(.v 0)]
 (.op (.un .not) [(.v 4)]
 (.ite (.v 5)
  (.ret [(.c (.int .u64 0)), (.c (.int .i64 1))])
 (.call 27 1 false [] [(.v 1), (.v 2), (.v 3)]
 (.op (.bin .neq false) [(.v 6), (.c (.int .i64 0))]
 (.ite (.v 7)
  (.ret [(.c (.int .u64 0)), (.v 6)])
 (.call 28 1 false [] [(.v 1), (.v 2), (.v 3)]
 (.loop 1 [(.c (.int .i64 0))] ir11p2))))))))
theorem rd11 : readFn T SG sigs 3000 sg11 Tryz.f26 an11 = some ir11 := by kernel_rfl
def an12 : Ann := .z
def ir12 : IR :=
 (.call 10 2 false [] [(.v 0), (.v 1), (.v 2), (.v 3)]
 (.op (.bin .neq false) [(.v 8), (.c (.int .i64 0))]
 (.ite (.v 9)
  (.ret [(.c (.bool false)), (.v 8)])
 (.call 10 2 false [] [(.v 0), (.v 4), (.v 5), (.v 6)]
 (.op (.bin .neq false) [(.v 11), (.c (.int .i64 0))]
 (.ite (.v 12)
  (.ret [(.c (.bool false)), (.v 11)])
 (.op (.bin .andNot false) [(.v 7), (.v 10)]
 (.op (.bin .eql false) [(.v 13), (.c (.int .u64 0))]
 (.ret [(.v 14), (.c (.int .i64 0))])))))))))
theorem rd12 : readFn T SG sigs 3000 sg12 Tryz.f27 an12 = some ir12 := by kernel_rfl
def an13 : Ann := .z
def ir13 : IR :=
 (.call 11 2 false [] [(.v 0), (.v 1), (.v 2), (.v 3)]
 (.op (.bin .neq false) [(.v 8), (.c (.int .i64 0))]
 (.ite (.v 9)
  (.ret [(.c (.bool false)), (.v 8)])
 (.call 11 2 false [] [(.v 0), (.v 4), (.v 5), (.v 6)]
 (.op (.bin .neq false) [(.v 11), (.c (.int .i64 0))]
 (.ite (.v 12)
  (.ret [(.c (.bool false)), (.v 11)])
 (.op (.bin .andNot false) [(.v 7), (.v 10)]
 (.op (.bin .eql false) [(.v 13), (.c (.int .u64 0))]
 (.ret [(.v 14), (.c (.int .i64 0))])))))))))
theorem rd13 : readFn T SG sigs 3000 sg13 Tryz.f28 an13 = some ir13 := by kernel_rfl
def an14 : Ann := .z
def ir14 : IR :=
 (.op (.mk 1 2) [(.c (.str [112])), (.c (.str [113]))]
 (.call 33 5 false [] [(.c (.str [112, 32, 45, 62, 32, 113]))]
 (.call 10 2 true [] [(.v 0), (.v 1), (.v 2), (.v 3)]
 (.call 34 4 false [] [(.v 0), (.c (.int .u64 13))]
 (.call 35 2 false [] [(.v 8), (.v 9), (.v 10)]
 (.op (.bin .eql false) [(.v 5), (.c (.int .i64 0))]
 (.ite (.v 14)
  (.op (.bin .eql false) [(.v 7), (.c (.int .i64 0))]
  (.ite (.v 15)
   (.op (.bin .eql false) [(.v 6), (.c (.int .u64 13))]
   (.ite (.v 16)
    (.op (.bin .eql false) [(.v 11), (.c (.int .i64 0))]
    (.ite (.v 17)
     (.op (.bin .eql false) [(.v 13), (.c (.int .i64 0))]
     (.ite (.v 18)
      (.op (.bin .eql false) [(.v 12), (.c (.str [126, 112, 32, 124, 32, 113]))]
      (.ite (.v 19)
       (.call 36 1 true [] [(.v 0), (.c (.int .u64 8)), (.c (.str [113]))]
       (.op (.bin .eql false) [(.v 20), (.c (.int .u64 10))]
       (.ite (.v 21)
        (.call 25 1 true [] [(.v 0)]
        (.op (.bin .eql false) [(.v 22), (.c (.int .u64 15))]
        (.ite (.v 23)
         (.call 37 1 false [] [(.c (.int .u64 13))]
         (.op (.bin .eql false) [(.v 24), (.c (.int .i64 3))]
         (.ret [(.v 25)])))
        (.ret [(.c (.bool false))]))))
       (.ret [(.c (.bool false))]))))
      (.ret [(.c (.bool false))])))
     (.ret [(.c (.bool false))])))
    (.ret [(.c (.bool false))])))
   (.ret [(.c (.bool false))])))
  (.ret [(.c (.bool false))])))
 (.ret [(.c (.bool false))]))))))))
theorem rd14 : readFn T SG sigs 3000 sg14 Tryz.f29 an14 = some ir14 := by kernel_rfl
def an15 : Ann := (.s none .z (.s none .z (.s none .z (.s none (.s none .z (.b (.l ⟨2, [(0, .junk), (4, .junk), (5, (.atm (.v 0))), (7, .junk), (8, .junk), (9, .junk), (10, .junk), (12, (.atm (.v 1)))], [], 1, []⟩ .z))) .z))))
def ir15p0 : IR :=
 (.op (.bin .lss false) [(.v 7), (.v 5)]
 (.ite (.v 8)
  (.op (.row 3) [(.v 2), (.v 7)]
  (.op (.bin .sub false) [(.v 3), (.c (.int .i64 1))]
  (.call 15 1 false [] [(.v 9), (.v 10), (.v 11), (.v 12)]
  (.op (.bin .add false) [(.c (.int .i64 1)), (.v 13)]
  (.op .max [(.v 6), (.v 14)]
  (.op (.bin .add false) [(.v 7), (.c (.int .i64 1))]
  (.jump 0 [(.v 15), (.v 16)])))))))
 (.ret [(.v 6)])))
def ir15 : IR :=
 (.op (.bin .lss false) [(.v 3), (.c (.int .i64 0))]
 (.ite (.v 4)
  (.ret [(.c (.int .i64 0))])
 (.op .lenL [(.v 2)]
 (.loop 2 [(.c (.int .i64 0)), (.c (.int .i64 0))] ir15p0))))
theorem rd15 : readFn T SG sigs 3000 sg15 Tryz.f30 an15 = some ir15 := by kernel_rfl
def an16 : Ann := (.s none .z (.s none .z (.s none (.s none .z (.b (.l ⟨1, [(0, .junk), (2, .junk), (4, .junk), (5, .junk), (6, .junk), (7, .junk), (8, .junk), (9, .junk), (11, (.atm (.v 0)))], [], 1, []⟩ .z))) .z)))
def ir16p0 : IR :=
 (.op (.bin .lss false) [(.v 6), (.v 5)]
 (.ite (.v 7)
  (.op (.row 3) [(.v 2), (.v 6)]
  (.call 16 1 false [] [(.v 8), (.v 9), (.v 10)]
  (.op (.un .not) [(.v 11)]
  (.ite (.v 12)
   (.ret [(.c (.bool false))])
  (.op (.bin .add false) [(.v 6), (.c (.int .i64 1))]
  (.jump 0 [(.v 13)]))))))
 (.ret [(.c (.bool true))])))
def ir16 : IR :=
 (.op .lenS [(.v 1)]
 (.op (.bin .gtr false) [(.v 3), (.c (.int .i64 100))]
 (.ite (.v 4)
  (.ret [(.c (.bool false))])
 (.op .lenL [(.v 2)]
 (.loop 1 [(.c (.int .i64 0))] ir16p0)))))
theorem rd16 : readFn T SG sigs 3000 sg16 Tryz.f31 an16 = some ir16 := by kernel_rfl
def an17 : Ann := .z
def ir17 : IR :=
 (.op .lenL [(.v 0)]
 (.op (.bin .geq false) [(.v 1), (.v 2)]
 (.ite (.v 3)
  (.ret [(.c (.int .i64 0)), (.v 0), (.v 1)])
 (.op (.bin .add false) [(.v 1), (.c (.int .i64 1))]
 (.op (.bin .sub false) [(.v 4), (.c (.int .i64 1))]
 (.op (.row 1) [(.v 0), (.v 5)]
 (.ret [(.v 6), (.v 0), (.v 4)])))))))
theorem rd17 : readFn T SG sigs 3000 sg17 Tryz.f36 an17 = some ir17 := by kernel_rfl
def an18 : Ann := (.s none .z (.s none .z (.s none .z (.s (some ⟨1, [(0, (.atm (.v 0))), (1, .junk), (4, .junk), (5, .junk), (6, .junk), (7, .junk), (8, .junk), (9, .junk)], [], 0, []⟩) .z .z))))
def ir18p0 : IR :=
 (.ret [(.v 4)])
def ir18 : IR :=
 (.op (.bin .lss false) [(.v 1), (.c (.int .i64 1))]
 (.ite (.v 2)
  (.ret [(.c (.int .i64 0))])
 (.op (.bin .rem false) [(.v 0), (.v 1)]
 (.letj 1
  (.op (.bin .lss false) [(.v 3), (.c (.int .i64 0))]
  (.ite (.v 4)
   (.op (.bin .add false) [(.v 3), (.v 1)]
   (.jump 0 [(.v 5)]))
  (.jump 0 [(.v 3)])))
 ir18p0))))
theorem rd18 : readFn T SG sigs 3000 sg18 Tryz.f35 an18 = some ir18 := by kernel_rfl
def an19 : Ann := .z
def ir19 : IR :=
 (.op .lenL [(.v 0)]
 (.call 7 3 false [] [(.v 3), (.v 1), (.v 2)]
 (.op (.row 1) [(.v 0), (.v 4)]
 (.ret [(.v 7), (.v 5), (.v 6)]))))
theorem rd19 : readFn T SG sigs 3000 sg19 Tryz.f49 an19 = some ir19 := by kernel_rfl
def an20 : Ann := (.s none .z (.s none .z (.s none (.s none .z (.b (.l ⟨1, [(2, .junk), (5, .junk), (6, .junk), (7, .junk), (10, (.atm (.v 0)))], [], 0, []⟩ (.s none .z (.s none .z (.s none (.b (.s none .z (.s (some ⟨1, [(3, .junk), (4, .junk), (11, .junk), (12, .junk), (13, .junk), (14, .junk), (30, (.atm (.v 0)))], [], 0, []⟩) .z .z))) .z)))))) .z)))
def ir20p0 : IR :=
 (.ite (.v 7)
  (.ret [(.c (.bool false))])
 (.op (.bin .add false) [(.v 4), (.c (.int .i64 1))]
 (.jump 0 [(.v 8)])))
def ir20p1 : IR :=
 (.op (.bin .lss false) [(.v 4), (.v 3)]
 (.ite (.v 5)
  (.op (.row 1) [(.v 0), (.v 4)]
  (.letj 1
   (.call 38 1 false [] [(.v 6)]
   (.op (.un .not) [(.v 7)]
   (.ite (.v 8)
    (.jump 1 [(.c (.bool true))])
   (.op (.bin .gtr false) [(.v 4), (.c (.int .i64 0))]
   (.ite (.v 9)
    (.op (.bin .sub false) [(.v 4), (.c (.int .i64 1))]
    (.op (.row 1) [(.v 0), (.v 10)]
    (.op (.bin .geq false) [(.v 11), (.v 6)]
    (.jump 1 [(.v 12)]))))
   (.jump 1 [(.c (.bool false))]))))))
  ir20p0))
 (.ret [(.c (.bool true))])))
def ir20 : IR :=
 (.op .lenL [(.v 0)]
 (.op (.bin .gtr false) [(.v 1), (.c (.int .i64 6))]
 (.ite (.v 2)
  (.ret [(.c (.bool false))])
 (.op .lenL [(.v 0)]
 (.loop 1 [(.c (.int .i64 0))] ir20p1)))))
theorem rd20 : readFn T SG sigs 3000 sg20 Tryz.f37 an20 = some ir20 := by kernel_rfl
def an21 : Ann := (.s none .z (.s none (.b (.s (some ⟨1, [(0, .junk), (2, .junk), (3, (.atm (.v 0)))], [], 1, []⟩) .z .z)) .z))
def ir21p0 : IR :=
 (.ite (.v 3)
  (.ret [(.c (.int .i64 2))])
 (.call 41 1 false [] [(.v 0), (.v 1), (.v 2)]
 (.op (.un .not) [(.v 4)]
 (.ite (.v 5)
  (.ret [(.c (.int .i64 4))])
 (.call 42 1 false [] [(.v 0), (.v 1), (.v 2)]
 (.op (.un .not) [(.v 6)]
 (.ite (.v 7)
  (.ret [(.c (.int .i64 3))])
 (.ret [(.c (.int .i64 0))]))))))))
def ir21 : IR :=
 (.letj 1
  (.call 39 1 false [] [(.v 0), (.v 1), (.v 2)]
  (.op (.bin .gtr false) [(.v 3), (.c (.int .i64 600))]
  (.ite (.v 4)
   (.jump 0 [(.c (.bool true))])
  (.call 40 1 false [] [(.v 0), (.v 1), (.v 2)]
  (.op (.bin .gtr false) [(.v 5), (.c (.int .i64 20))]
  (.jump 0 [(.v 6)]))))))
 ir21p0)
theorem rd21 : readFn T SG sigs 3000 sg21 Tryz.f50 an21 = some ir21 := by kernel_rfl
def an23 : Ann := .z
def ir23 : IR :=
 (.call 43 1 false [] [(.v 0), (.v 1)]
 (.op (.bin .geq false) [(.v 2), (.c (.int .i64 0))]
 (.ret [(.v 3)])))
theorem rd23 : readFn T SG sigs 3000 sg23 Tryz.f52 an23 = some ir23 := by kernel_rfl
def an24 : Ann := (.s none .z (.s none (.s none .z (.b (.s none .z (.c .z (.s none .z (.c .z (.s none .z (.c .z (.s none .z (.c .z (.s none .z (.c .z (.s none .z (.c (.s none .z (.s none (.s none .z (.b (.l ⟨2, [(1, .junk), (3, .junk), (4, .junk), (5, (.atm (.v 0))), (11, .junk), (12, .junk), (13, .junk), (14, .junk), (15, .junk), (16, .junk), (22, .junk), (23, .junk), (31, .junk), (32, .junk), (47, .junk), (48, .junk), (63, .junk), (64, .junk), (65, .junk), (68, (.atm (.v 1)))], [], 1, []⟩ .z))) .z)) .z)))))))))))))) (.s none .z (.s none (.s none .z (.b (.l ⟨2, [(1, .junk), (3, .junk), (4, .junk), (8, (.atm (.v 0))), (11, .junk), (12, .junk), (13, .junk), (14, .junk), (15, .junk), (16, .junk), (22, .junk), (23, .junk), (31, .junk), (32, .junk), (47, .junk), (48, .junk), (63, .junk), (64, .junk), (79, .junk), (82, (.atm (.v 1)))], [], 1, []⟩ .z))) .z))))
def ir24p0 : IR :=
 (.op (.bin .lss false) [(.v 12), (.v 10)]
 (.ite (.v 13)
  (.op (.row 3) [(.v 3), (.v 12)]
  (.call 24 1 false [] [(.v 0), (.v 14), (.v 15), (.v 16)]
  (.op (.bin .and false) [(.v 11), (.v 17)]
  (.op (.bin .add false) [(.v 12), (.c (.int .i64 1))]
  (.jump 0 [(.v 18), (.v 19)])))))
 (.ret [(.v 11)])))
def ir24p1 : IR :=
 (.op (.bin .lss false) [(.v 12), (.v 10)]
 (.ite (.v 13)
  (.op (.row 3) [(.v 3), (.v 12)]
  (.call 24 1 false [] [(.v 0), (.v 14), (.v 15), (.v 16)]
  (.op (.bin .or false) [(.v 11), (.v 17)]
  (.op (.bin .add false) [(.v 12), (.c (.int .i64 1))]
  (.jump 0 [(.v 18), (.v 19)])))))
 (.ret [(.v 11)])))
def ir24 : IR :=
 (.op (.bin .eql false) [(.v 1), (.c (.int .i64 1))]
 (.ite (.v 4)
  (.ret [(.c (.int .u64 18446744073709551615))])
 (.op (.bin .eql false) [(.v 1), (.c (.int .i64 3))]
 (.ite (.v 5)
  (.call 43 1 false [] [(.v 0), (.v 2)]
  (.call 44 1 false [] [(.v 6)]
  (.ret [(.v 7)])))
 (.op (.bin .eql false) [(.v 1), (.c (.int .i64 4))]
 (.ite (.v 6)
  (.op (.row 3) [(.v 3), (.c (.int .i64 0))]
  (.call 24 1 false [] [(.v 0), (.v 7), (.v 8), (.v 9)]
  (.op (.un .xor) [(.v 10)]
  (.ret [(.v 11)]))))
 (.op (.bin .eql false) [(.v 1), (.c (.int .i64 7))]
 (.ite (.v 7)
  (.op (.row 3) [(.v 3), (.c (.int .i64 0))]
  (.call 24 1 false [] [(.v 0), (.v 8), (.v 9), (.v 10)]
  (.op (.un .xor) [(.v 11)]
  (.op (.row 3) [(.v 3), (.c (.int .i64 1))]
  (.call 24 1 false [] [(.v 0), (.v 13), (.v 14), (.v 15)]
  (.op (.bin .or false) [(.v 12), (.v 16)]
  (.ret [(.v 17)])))))))
 (.op (.bin .eql false) [(.v 1), (.c (.int .i64 8))]
 (.ite (.v 8)
  (.op (.row 3) [(.v 3), (.c (.int .i64 0))]
  (.call 24 1 false [] [(.v 0), (.v 9), (.v 10), (.v 11)]
  (.op (.row 3) [(.v 3), (.c (.int .i64 1))]
  (.call 24 1 false [] [(.v 0), (.v 13), (.v 14), (.v 15)]
  (.op (.bin .xor false) [(.v 12), (.v 16)]
  (.op (.un .xor) [(.v 17)]
  (.ret [(.v 18)])))))))
 (.op (.bin .eql false) [(.v 1), (.c (.int .i64 5))]
 (.ite (.v 9)
  (.op .lenL [(.v 3)]
  (.loop 2 [(.c (.int .u64 18446744073709551615)), (.c (.int .i64 0))] ir24p0))
 (.op .lenL [(.v 3)]
 (.loop 2 [(.c (.int .u64 0)), (.c (.int .i64 0))] ir24p1))))))))))))))
theorem rd24 : readFn T SG sigs 3000 sg24 Tryz.f53 an24 = some ir24 := by kernel_rfl
def an25 : Ann := .z
def ir25 : IR :=
 (.call 20 1 false [] [(.v 0)]
 (.op (.un .not) [(.v 1)]
 (.ite (.v 2)
  (.ret [(.c (.int .u64 0))])
 (.op .lenL [(.v 0)]
 (.call 45 1 false [] [(.v 3)]
 (.ret [(.v 4)]))))))
theorem rd25 : readFn T SG sigs 3000 sg25 Tryz.f47 an25 = some ir25 := by kernel_rfl
def an26 : Ann := (.s none .z (.s none (.s none .z (.b (.l ⟨1, [(2, .junk), (3, (.atm (.v 0)))], [], 0, []⟩ (.s none .z (.s none (.b (.s (some ⟨1, [(4, .junk), (5, .junk), (6, .junk), (7, .junk), (31, (.atm (.v 0)))], [], 0, []⟩) .z .z)) .z))))) .z))
def ir26p0 : IR :=
 (.ite (.v 4)
  (.ret [(.c (.bool false))])
 (.op (.bin .add false) [(.v 1), (.c (.int .i64 1))]
 (.jump 0 [(.v 5)])))
def ir26p1 : IR :=
 (.op .lenL [(.v 0)]
 (.op (.bin .lss false) [(.v 1), (.v 2)]
 (.ite (.v 3)
  (.letj 1
   (.op (.row 1) [(.v 0), (.v 1)]
   (.call 46 1 false [] [(.v 4)]
   (.op (.un .not) [(.v 5)]
   (.ite (.v 6)
    (.jump 1 [(.c (.bool true))])
   (.op (.bin .gtr false) [(.v 1), (.c (.int .i64 0))]
   (.ite (.v 7)
    (.op (.row 1) [(.v 0), (.v 1)]
    (.op (.bin .sub false) [(.v 1), (.c (.int .i64 1))]
    (.op (.row 1) [(.v 0), (.v 9)]
    (.op (.bin .leq false) [(.v 8), (.v 10)]
    (.jump 1 [(.v 11)])))))
   (.jump 1 [(.c (.bool false))])))))))
  ir26p0)
 (.op .lenL [(.v 0)]
 (.op (.bin .leq false) [(.v 4), (.c (.int .i64 6))]
 (.ret [(.v 5)]))))))
def ir26 : IR :=
 (.loop 1 [(.c (.int .i64 0))] ir26p1)
theorem rd26 : readFn T SG sigs 3000 sg26 Tryz.f40 an26 = some ir26 := by kernel_rfl
def an27 : Ann := (.s none .z (.s none (.s (some ⟨1, [(0, .junk), (2, .junk), (10, (.atm (.v 0)))], [], 1, []⟩) .z .z) .z))
def ir27p0 : IR :=
 (.ite (.v 3)
  (.ret [(.c (.int .i64 2))])
 (.call 49 1 false [] [(.v 0), (.v 1), (.v 2)]
 (.op (.un .not) [(.v 4)]
 (.ite (.v 5)
  (.ret [(.c (.int .i64 4))])
 (.call 50 1 false [] [(.v 0), (.v 1), (.v 2)]
 (.op (.un .not) [(.v 6)]
 (.ite (.v 7)
  (.ret [(.c (.int .i64 3))])
 (.ret [(.c (.int .i64 0))]))))))))
def ir27 : IR :=
 (.letj 1
  (.call 47 1 false [] [(.v 0), (.v 1), (.v 2)]
  (.op (.bin .gtr false) [(.v 3), (.c (.int .i64 600))]
  (.ite (.v 4)
   (.jump 0 [(.c (.bool true))])
  (.call 48 1 false [] [(.v 0), (.v 1), (.v 2)]
  (.op (.bin .gtr false) [(.v 5), (.c (.int .i64 20))]
  (.jump 0 [(.v 6)]))))))
 ir27p0)
theorem rd27 : readFn T SG sigs 3000 sg27 Tryz.f54 an27 = some ir27 := by kernel_rfl
def an28 : Ann := .z
def ir28 : IR :=
 (.call 51 1 false [] [(.c (.sl [])), (.v 0), (.v 1), (.v 2)]
 (.ret [(.v 3)]))
theorem rd28 : readFn T SG sigs 3000 sg28 Tryz.f55 an28 = some ir28 := by kernel_rfl
def an29 : Ann := (.s none .z (.s none (.s none .z (.b (.l ⟨1, [(4, .junk), (5, (.atm (.v 0)))], [], 0, []⟩ .z))) .z))
def ir29p0 : IR :=
 (.op .lenL [(.v 0)]
 (.op (.bin .lss false) [(.v 2), (.v 3)]
 (.ite (.v 4)
  (.op (.row 1) [(.v 0), (.v 2)]
  (.op (.bin .eql false) [(.v 5), (.v 1)]
  (.ite (.v 6)
   (.ret [(.v 2)])
  (.op (.bin .add false) [(.v 2), (.c (.int .i64 1))]
  (.jump 0 [(.v 7)])))))
 (.ret [(.c (.int .i64 (-1)))]))))
def ir29 : IR :=
 (.loop 1 [(.c (.int .i64 0))] ir29p0)
theorem rd29 : readFn T SG sigs 3000 sg29 Tryz.f56 an29 = some ir29 := by kernel_rfl
def an30 : Ann := .z
def ir30 : IR :=
 (.op .lenL [(.v 0)]
 (.op (.conv .u64) [(.v 1)]
 (.op (.bin .shl false) [(.c (.int .i64 1)), (.v 2)]
 (.ret [(.v 3)]))))
theorem rd30 : readFn T SG sigs 3000 sg30 Tryz.f57 an30 = some ir30 := by kernel_rfl
def an31 : Ann := (.s none .z (.s none .z (.s none (.s none .z (.b (.l ⟨2, [(4, .junk), (6, (.atm (.v 0)))], [(0, ⟨false, true, 9, 1, (.v 1), []⟩)], 1, [⟨none, 5, 9, 1⟩]⟩ (.s none .z (.s (some ⟨1, [(7, .junk), (8, .junk), (9, .junk), (10, .junk)], [(0, ⟨false, true, 9, 1, (.v 0), []⟩)], 1, []⟩) .z .z))))) .z)))
def ir31p0 : IR :=
 (.op (.bin .add false) [(.v 2), (.c (.int .i64 1))]
 (.jump 0 [(.v 7), (.v 6)]))
def ir31p1 : IR :=
 (.op .lenL [(.v 0)]
 (.op (.bin .lss false) [(.v 2), (.v 4)]
 (.ite (.v 5)
  (.letj 1
   (.op (.conv .u64) [(.v 2)]
   (.op (.bin .shr false) [(.v 1), (.v 6)]
   (.op (.bin .and false) [(.v 7), (.c (.int .i64 1))]
   (.op (.bin .eql false) [(.v 8), (.c (.int .i64 1))]
   (.ite (.v 9)
    (.op (.row 1) [(.v 0), (.v 2)]
    (.op (.mk 1 1) [(.v 10)]
    (.op (.app 1 16) [(.v 3), (.v 11)]
    (.jump 1 [(.v 12)]))))
   (.jump 1 [(.v 3)]))))))
  ir31p0)
 (.ret [(.v 3)]))))
def ir31 : IR :=
 (.loop 2 [(.c (.int .i64 0)), (.c (.sl []))] ir31p1)
theorem rd31 : readFn T SG sigs 3000 sg31 Tryz.f59 an31 = some ir31 := by kernel_rfl
def an32 : Ann := .z
def ir32 : IR :=
 (.call 49 1 false [] [(.v 0), (.v 1), (.v 2)]
 (.ite (.v 4)
  (.call 50 1 false [] [(.v 0), (.v 1), (.v 2)]
  (.ite (.v 5)
   (.call 52 1 false [] [(.v 0), (.v 1), (.v 2), (.v 3)]
   (.ret [(.v 6)]))
  (.ret [(.c (.bool false))])))
 (.ret [(.c (.bool false))])))
theorem rd32 : readFn T SG sigs 3000 sg32 Tryz.f58 an32 = some ir32 := by kernel_rfl
def an33 : Ann := (.s none .z (.s none .z (.s none .z (.s none .z (.s (some ⟨4, [(0, .junk), (3, .junk), (4, .junk), (7, .junk), (8, .junk), (9, .junk), (11, .junk), (12, .junk), (13, .junk), (14, .junk), (15, .junk)], [(1, ⟨false, false, 97, 4, (.c (.sl [])), [[(.atm (.v 0)), (.atm (.v 1)), (.atm (.v 2)), (.atm (.v 3))]]⟩)], 3, []⟩) .z (.s none .z (.s none (.s (some ⟨1, [(5, .junk), (21, .junk), (22, .junk), (23, .junk), (24, .junk), (25, .junk), (44, (.atm (.v 0)))], [], 3, []⟩) .z .z) .z)))))))
def ir33p0 : IR :=
 (.ite (.v 15)
  (.ret [(.c (.int .i64 0)), (.c (.str [])), (.c (.sl [])), (.c (.int .i64 0)), (.c (.int .i64 2))])
 (.ret [(.v 3), (.v 4), (.v 5), (.c (.int .i64 0)), (.c (.int .i64 0))]))
def ir33p1 : IR :=
 (.op (.bin .geq false) [(.v 12), (.c (.int .i64 0))]
 (.ite (.v 14)
  (.ret [(.c (.int .i64 0)), (.c (.str [])), (.c (.sl [])), (.v 12), (.c (.int .i64 3))])
 (.letj 1
  (.ite (.v 13)
   (.jump 0 [(.c (.bool true))])
  (.call 39 1 false [] [(.v 3), (.v 4), (.v 5)]
  (.op (.bin .gtr false) [(.v 15), (.c (.int .i64 600))]
  (.ite (.v 16)
   (.jump 0 [(.c (.bool true))])
  (.call 40 1 false [] [(.v 3), (.v 4), (.v 5)]
  (.op (.bin .gtr false) [(.v 17), (.c (.int .i64 20))]
  (.jump 0 [(.v 18)])))))))
 ir33p0)))
def ir33 : IR :=
 (.op .lenS [(.v 0)]
 (.op (.bin .gtr false) [(.v 1), (.c (.int .i64 4096))]
 (.ite (.v 2)
  (.ret [(.c (.int .i64 0)), (.c (.str [])), (.c (.sl [])), (.c (.int .i64 0)), (.c (.int .i64 2))])
 (.call 53 7 false [] [(.v 0), (.c (.int .i64 0)), (.c (.int .i64 (-1))), (.c (.bool false))]
 (.letj 4
  (.call 54 5 false [] [(.c (.str [])), (.v 6), (.v 7), (.v 8), (.v 9)]
  (.op (.un .not) [(.v 10)]
  (.ite (.v 15)
   (.call 55 7 false [] [(.v 11), (.v 12), (.v 13), (.v 14)]
   (.jump 0 [(.v 19), (.v 20), (.v 21), (.v 22)]))
  (.jump 0 [(.v 11), (.v 12), (.v 13), (.v 14)]))))
 ir33p1)))))
theorem rd33 : readFn T SG sigs 3000 sg33 Tryz.f60 an33 = some ir33 := by kernel_rfl
def an34 : Ann := .z
def ir34 : IR :=
 (.call 20 1 false [] [(.v 0)]
 (.op (.un .not) [(.v 2)]
 (.ite (.v 3)
  (.ret [(.c (.int .i64 0)), (.c (.str [])), (.c (.sl [])), (.c (.int .i64 1))])
 (.call 25 1 false [] [(.v 0)]
 (.op (.bin .and false) [(.v 1), (.v 4)]
 (.call 56 3 false [] [(.v 0), (.v 5)]
 (.ret [(.v 6), (.v 7), (.v 8), (.c (.int .i64 0))])))))))
theorem rd34 : readFn T SG sigs 3000 sg34 Tryz.f61 an34 = some ir34 := by kernel_rfl
def an36 : Ann := (.s none .z (.s none .z (.s none .z (.s none (.s (some ⟨1, [(0, .junk), (2, .junk), (6, .junk), (9, .junk), (10, .junk), (11, .junk), (12, .junk), (13, .junk), (14, .junk), (15, .junk), (21, (.atm (.v 0)))], [], 0, []⟩) .z .z) .z))))
def ir36p0 : IR :=
 (.ite (.v 6)
  (.ret [(.v 4)])
 (.call 44 1 false [] [(.v 5)]
 (.op (.bin .and false) [(.v 4), (.v 7)]
 (.op (.bin .shl false) [(.c (.int .u64 1)), (.v 5)]
 (.op (.bin .shr false) [(.v 8), (.v 9)]
 (.op (.bin .or false) [(.v 4), (.v 10)]
 (.op (.bin .andNot false) [(.v 4), (.v 7)]
 (.op (.bin .shl false) [(.c (.int .u64 1)), (.v 5)]
 (.op (.bin .shl false) [(.v 12), (.v 13)]
 (.op (.bin .or false) [(.v 11), (.v 14)]
 (.ret [(.v 15)])))))))))))
def ir36 : IR :=
 (.call 25 1 false [] [(.v 0)]
 (.op (.bin .and false) [(.v 1), (.v 3)]
 (.call 43 1 false [] [(.v 0), (.v 2)]
 (.letj 1
  (.op (.bin .lss false) [(.v 5), (.c (.int .i64 0))]
  (.ite (.v 6)
   (.jump 0 [(.c (.bool true))])
  (.op (.bin .eql false) [(.v 4), (.c (.int .u64 0))]
  (.jump 0 [(.v 7)]))))
 ir36p0))))
theorem rd36 : readFn T SG sigs 3000 sg36 Tryz.f63 an36 = some ir36 := by kernel_rfl
def an37 : Ann := .z
def ir37 : IR :=
 (.call 57 1 false [] [(.v 0)]
 (.ret [(.v 1)]))
theorem rd37 : readFn T SG sigs 3000 sg37 Tryz.f64 an37 = some ir37 := by kernel_rfl
def an38 : Ann := (.s none .z (.s none (.s (some ⟨1, [(2, .junk), (12, (.atm (.v 0)))], [], 0, []⟩) .z .z) (.s none (.s none .z (.b (.l ⟨1, [(12, .junk), (13, .junk), (15, (.atm (.v 0)))], [], 0, []⟩ (.s none .z (.s none .z (.s (some ⟨0, [(16, .junk)], [], 0, []⟩) (.b (.s none .z (.s none .z (.b (.s (some ⟨1, [(16, .junk), (17, .junk), (18, .junk), (19, .junk), (20, .junk), (21, (.atm (.v 0)))], [], 0, []⟩) .z (.c .z (.s (some ⟨1, [(3, .junk), (4, .junk), (21, .junk), (28, (.atm (.v 0)))], [], 0, []⟩) .z .z))))))) .z)))))) .z)))
def ir38p0 : IR :=
 (.op (.bin .add false) [(.v 3), (.c (.int .i64 1))]
 (.jump 0 [(.v 5)]))
def ir38p1 : IR :=
 (.ite (.v 7)
  (.jump 1 [])
 (.ret [(.c (.bool false))]))
def ir38p2 : IR :=
 (.ite (.v 6)
  (.jump 1 [])
 (.letj 1
  (.op (.bin .gtr false) [(.v 3), (.c (.int .i64 0))]
  (.ite (.v 7)
   (.op (.bin .geq false) [(.v 5), (.c (.int .u8 48))]
   (.ite (.v 8)
    (.op (.bin .leq false) [(.v 5), (.c (.int .u8 57))]
    (.ite (.v 9)
     (.jump 2 [(.c (.bool true))])
    (.op (.bin .eql false) [(.v 5), (.c (.int .u8 95))]
    (.jump 2 [(.v 10)]))))
   (.op (.bin .eql false) [(.v 5), (.c (.int .u8 95))]
   (.jump 2 [(.v 9)]))))
  (.jump 2 [(.c (.bool false))])))
 ir38p1))
def ir38p3 : IR :=
 (.op (.bin .lss false) [(.v 3), (.v 2)]
 (.ite (.v 4)
  (.letj 0
   (.op .idxS [(.v 0), (.v 3)]
   (.letj 1
    (.op (.bin .geq false) [(.v 5), (.c (.int .u8 97))]
    (.ite (.v 6)
     (.op (.bin .leq false) [(.v 5), (.c (.int .u8 122))]
     (.jump 2 [(.v 7)]))
    (.jump 2 [(.c (.bool false))])))
   ir38p2))
  ir38p0)
 (.ret [(.c (.bool true))])))
def ir38p4 : IR :=
 (.ite (.v 1)
  (.ret [(.c (.bool false))])
 (.op .lenS [(.v 0)]
 (.loop 1 [(.c (.int .i64 0))] ir38p3)))
def ir38 : IR :=
 (.letj 1
  (.op .lenS [(.v 0)]
  (.op (.bin .eql false) [(.v 1), (.c (.int .i64 0))]
  (.ite (.v 2)
   (.jump 0 [(.c (.bool true))])
  (.op .lenS [(.v 0)]
  (.op (.bin .gtr false) [(.v 3), (.c (.int .i64 12))]
  (.jump 0 [(.v 4)]))))))
 ir38p4)
theorem rd38 : readFn T SG sigs 3000 sg38 Tryz.f66 an38 = some ir38 := by kernel_rfl
def an39 : Ann := (.s none .z (.s none .z (.s none (.s none .z (.b (.l ⟨2, [(0, .junk), (1, .junk), (2, .junk), (3, (.atm (.v 0))), (6, .junk), (9, (.atm (.v 1)))], [], 1, []⟩ .z))) .z)))
def ir39p0 : IR :=
 (.op (.bin .lss false) [(.v 5), (.v 3)]
 (.ite (.v 6)
  (.op (.row 3) [(.v 2), (.v 5)]
  (.call 39 1 false [] [(.v 7), (.v 8), (.v 9)]
  (.op (.bin .add false) [(.v 4), (.v 10)]
  (.op (.bin .add false) [(.v 5), (.c (.int .i64 1))]
  (.jump 0 [(.v 11), (.v 12)])))))
 (.ret [(.v 4)])))
def ir39 : IR :=
 (.op .lenL [(.v 2)]
 (.loop 2 [(.c (.int .i64 1)), (.c (.int .i64 0))] ir39p0))
theorem rd39 : readFn T SG sigs 3000 sg39 Tryz.f75 an39 = some ir39 := by kernel_rfl
def an40 : Ann := (.s none .z (.s none .z (.s none (.s none .z (.b (.l ⟨2, [(0, .junk), (1, .junk), (2, .junk), (3, (.atm (.v 0))), (6, .junk), (9, (.atm (.v 1)))], [], 1, []⟩ .z))) .z)))
def ir40p0 : IR :=
 (.op (.bin .lss false) [(.v 5), (.v 3)]
 (.ite (.v 6)
  (.op (.row 3) [(.v 2), (.v 5)]
  (.call 40 1 false [] [(.v 7), (.v 8), (.v 9)]
  (.op (.bin .add false) [(.c (.int .i64 1)), (.v 10)]
  (.op .max [(.v 4), (.v 11)]
  (.op (.bin .add false) [(.v 5), (.c (.int .i64 1))]
  (.jump 0 [(.v 12), (.v 13)]))))))
 (.ret [(.v 4)])))
def ir40 : IR :=
 (.op .lenL [(.v 2)]
 (.loop 2 [(.c (.int .i64 0)), (.c (.int .i64 0))] ir40p0))
theorem rd40 : readFn T SG sigs 3000 sg40 Tryz.f76 an40 = some ir40 := by kernel_rfl
def an41 : Ann := (.s none .z (.s none .z (.s none (.s none .z (.b (.l ⟨1, [(0, .junk), (2, .junk), (4, .junk), (7, .junk), (8, .junk), (9, .junk), (10, .junk), (11, .junk), (14, (.atm (.v 0)))], [], 1, []⟩ .z))) .z)))
def ir41p0 : IR :=
 (.op (.bin .lss false) [(.v 6), (.v 5)]
 (.ite (.v 7)
  (.op (.row 3) [(.v 2), (.v 6)]
  (.call 41 1 false [] [(.v 8), (.v 9), (.v 10)]
  (.op (.un .not) [(.v 11)]
  (.ite (.v 12)
   (.ret [(.c (.bool false))])
  (.op (.bin .add false) [(.v 6), (.c (.int .i64 1))]
  (.jump 0 [(.v 13)]))))))
 (.ret [(.c (.bool true))])))
def ir41 : IR :=
 (.call 58 1 false [] [(.v 0), (.v 1), (.v 2)]
 (.op (.un .not) [(.v 3)]
 (.ite (.v 4)
  (.ret [(.c (.bool false))])
 (.op .lenL [(.v 2)]
 (.loop 1 [(.c (.int .i64 0))] ir41p0)))))
theorem rd41 : readFn T SG sigs 3000 sg41 Tryz.f77 an41 = some ir41 := by kernel_rfl
def an42 : Ann := (.s none .z (.s none .z (.s none (.s none .z (.b (.l ⟨1, [(0, .junk), (2, .junk), (4, .junk), (7, .junk), (8, .junk), (9, .junk), (10, .junk), (11, .junk), (14, (.atm (.v 0)))], [], 1, []⟩ .z))) .z)))
def ir42p0 : IR :=
 (.op (.bin .lss false) [(.v 6), (.v 5)]
 (.ite (.v 7)
  (.op (.row 3) [(.v 2), (.v 6)]
  (.call 42 1 false [] [(.v 8), (.v 9), (.v 10)]
  (.op (.un .not) [(.v 11)]
  (.ite (.v 12)
   (.ret [(.c (.bool false))])
  (.op (.bin .add false) [(.v 6), (.c (.int .i64 1))]
  (.jump 0 [(.v 13)]))))))
 (.ret [(.c (.bool true))])))
def ir42 : IR :=
 (.call 59 1 false [] [(.v 0), (.v 1), (.v 2)]
 (.op (.un .not) [(.v 3)]
 (.ite (.v 4)
  (.ret [(.c (.bool false))])
 (.op .lenL [(.v 2)]
 (.loop 1 [(.c (.int .i64 0))] ir42p0)))))
theorem rd42 : readFn T SG sigs 3000 sg42 Tryz.f77 an42 = some ir42 := by kernel_rfl
def an43 : Ann := (.s none .z (.s none (.s none .z (.b (.l ⟨1, [(4, .junk), (6, .junk), (8, (.atm (.v 0)))], [], 0, []⟩ .z))) .z))
def ir43p0 : IR :=
 (.op (.bin .lss false) [(.v 3), (.v 2)]
 (.ite (.v 4)
  (.op (.row 1) [(.v 0), (.v 3)]
  (.op (.bin .eql false) [(.v 1), (.v 5)]
  (.ite (.v 6)
   (.ret [(.v 3)])
  (.op (.bin .add false) [(.v 3), (.c (.int .i64 1))]
  (.jump 0 [(.v 7)])))))
 (.ret [(.c (.int .i64 (-1)))])))
def ir43 : IR :=
 (.op .lenL [(.v 0)]
 (.loop 1 [(.c (.int .i64 0))] ir43p0))
theorem rd43 : readFn T SG sigs 3000 sg43 Tryz.f83 an43 = some ir43 := by kernel_rfl
def an44 : Ann := (.s none .z (.s none .z (.s none (.s none .z (.b (.l ⟨2, [(2, .junk), (3, (.atm (.v 0))), (5, (.atm (.v 1)))], [], 0, []⟩ .z))) .z)))
def ir44p0 : IR :=
 (.op (.bin .lss false) [(.v 2), (.c (.int .i64 64))]
 (.ite (.v 3)
  (.op (.bin .shr false) [(.v 2), (.v 0)]
  (.op (.bin .and false) [(.v 4), (.c (.int .i64 1))]
  (.op (.conv .u64) [(.v 5)]
  (.op (.bin .shl false) [(.v 6), (.v 2)]
  (.op (.bin .or false) [(.v 1), (.v 7)]
  (.op (.bin .add false) [(.v 2), (.c (.int .i64 1))]
  (.jump 0 [(.v 8), (.v 9)])))))))
 (.ret [(.v 1)])))
def ir44 : IR :=
 (.loop 2 [(.c (.int .u64 0)), (.c (.int .i64 0))] ir44p0)
theorem rd44 : readFn T SG sigs 3000 sg44 Tryz.f84 an44 = some ir44 := by kernel_rfl
def an45 : Ann := .z
def ir45 : IR :=
 (.op (.bin .shl false) [(.c (.int .u64 1)), (.v 0)]
 (.op (.bin .sub false) [(.c (.int .u64 64)), (.v 1)]
 (.op (.bin .shr false) [(.c (.int .u64 18446744073709551615)), (.v 2)]
 (.ret [(.v 3)]))))
theorem rd45 : readFn T SG sigs 3000 sg45 Tryz.f74 an45 = some ir45 := by kernel_rfl
def an46 : Ann := (.s none .z (.s none (.s (some ⟨1, [(2, .junk), (21, (.atm (.v 0)))], [], 0, []⟩) .z .z) (.s none (.s none .z (.b (.l ⟨1, [(3, (.atm (.v 0))), (21, .junk)], [], 0, []⟩ (.s none .z (.s none (.b (.s (some ⟨1, [(22, .junk), (23, .junk), (24, .junk), (25, .junk), (55, (.atm (.v 0)))], [], 0, []⟩) .z .z)) .z))))) .z)))
def ir46p0 : IR :=
 (.ite (.v 5)
  (.ret [(.c (.bool false))])
 (.op (.bin .add false) [(.v 2), (.c (.int .i64 1))]
 (.jump 0 [(.v 6)])))
def ir46p1 : IR :=
 (.op .lenS [(.v 0)]
 (.op (.bin .lss false) [(.v 2), (.v 3)]
 (.ite (.v 4)
  (.letj 1
   (.op .idxS [(.v 0), (.v 2)]
   (.op (.bin .lss false) [(.v 5), (.c (.int .u8 97))]
   (.ite (.v 6)
    (.op .idxS [(.v 0), (.v 2)]
    (.op (.bin .lss false) [(.v 7), (.c (.int .u8 48))]
    (.ite (.v 8)
     (.op .idxS [(.v 0), (.v 2)]
     (.op (.bin .neq false) [(.v 9), (.c (.int .u8 95))]
     (.jump 1 [(.v 10)])))
    (.op .idxS [(.v 0), (.v 2)]
    (.op (.bin .gtr false) [(.v 9), (.c (.int .u8 57))]
    (.ite (.v 10)
     (.op .idxS [(.v 0), (.v 2)]
     (.op (.bin .neq false) [(.v 11), (.c (.int .u8 95))]
     (.jump 1 [(.v 12)])))
    (.jump 1 [(.c (.bool false))])))))))
   (.op .idxS [(.v 0), (.v 2)]
   (.op (.bin .gtr false) [(.v 7), (.c (.int .u8 122))]
   (.ite (.v 8)
    (.op .idxS [(.v 0), (.v 2)]
    (.op (.bin .lss false) [(.v 9), (.c (.int .u8 48))]
    (.ite (.v 10)
     (.op .idxS [(.v 0), (.v 2)]
     (.op (.bin .neq false) [(.v 11), (.c (.int .u8 95))]
     (.jump 1 [(.v 12)])))
    (.op .idxS [(.v 0), (.v 2)]
    (.op (.bin .gtr false) [(.v 11), (.c (.int .u8 57))]
    (.ite (.v 12)
     (.op .idxS [(.v 0), (.v 2)]
     (.op (.bin .neq false) [(.v 13), (.c (.int .u8 95))]
     (.jump 1 [(.v 14)])))
    (.jump 1 [(.c (.bool false))])))))))
   (.jump 1 [(.c (.bool false))])))))))
  ir46p0)
 (.ret [(.c (.bool true))]))))
def ir46p2 : IR :=
 (.ite (.v 1)
  (.ret [(.c (.bool false))])
 (.loop 1 [(.c (.int .i64 0))] ir46p1))
def ir46 : IR :=
 (.letj 1
  (.op .lenS [(.v 0)]
  (.op (.bin .lss false) [(.v 1), (.c (.int .i64 1))]
  (.ite (.v 2)
   (.jump 0 [(.c (.bool true))])
  (.op .lenS [(.v 0)]
  (.op (.bin .gtr false) [(.v 3), (.c (.int .i64 12))]
  (.ite (.v 4)
   (.jump 0 [(.c (.bool true))])
  (.op .idxS [(.v 0), (.c (.int .i64 0))]
  (.op (.bin .lss false) [(.v 5), (.c (.int .u8 97))]
  (.ite (.v 6)
   (.jump 0 [(.c (.bool true))])
  (.op .idxS [(.v 0), (.c (.int .i64 0))]
  (.op (.bin .gtr false) [(.v 7), (.c (.int .u8 122))]
  (.jump 0 [(.v 8)]))))))))))))
 ir46p2)
theorem rd46 : readFn T SG sigs 3000 sg46 Tryz.f71 an46 = some ir46 := by kernel_rfl
def an47 : Ann := (.s none .z (.s none .z (.s none (.s none .z (.b (.l ⟨2, [(0, .junk), (2, .junk), (3, (.atm (.v 0))), (4, (.atm (.v 1)))], [], 1, []⟩ .z))) .z)))
def ir47p0 : IR :=
 (.op .lenL [(.v 2)]
 (.op (.bin .lss false) [(.v 4), (.v 5)]
 (.ite (.v 6)
  (.op (.row 3) [(.v 2), (.v 4)]
  (.call 47 1 false [] [(.v 7), (.v 8), (.v 9)]
  (.op (.bin .add false) [(.v 3), (.v 10)]
  (.op (.bin .add false) [(.v 4), (.c (.int .i64 1))]
  (.jump 0 [(.v 11), (.v 12)])))))
 (.ret [(.v 3)]))))
def ir47 : IR :=
 (.loop 2 [(.c (.int .i64 1)), (.c (.int .i64 0))] ir47p0)
theorem rd47 : readFn T SG sigs 3000 sg47 Tryz.f85 an47 = some ir47 := by kernel_rfl
def an48 : Ann := (.s none .z (.s none .z (.s none (.s none .z (.b (.l ⟨2, [(0, .junk), (2, .junk), (3, (.atm (.v 0))), (4, (.atm (.v 1)))], [], 1, []⟩ .z))) .z)))
def ir48p0 : IR :=
 (.op .lenL [(.v 2)]
 (.op (.bin .lss false) [(.v 4), (.v 5)]
 (.ite (.v 6)
  (.op (.row 3) [(.v 2), (.v 4)]
  (.call 48 1 false [] [(.v 7), (.v 8), (.v 9)]
  (.op (.bin .add false) [(.c (.int .i64 1)), (.v 10)]
  (.op .max [(.v 3), (.v 11)]
  (.op (.bin .add false) [(.v 4), (.c (.int .i64 1))]
  (.jump 0 [(.v 12), (.v 13)]))))))
 (.ret [(.v 3)]))))
def ir48 : IR :=
 (.loop 2 [(.c (.int .i64 0)), (.c (.int .i64 0))] ir48p0)
theorem rd48 : readFn T SG sigs 3000 sg48 Tryz.f86 an48 = some ir48 := by kernel_rfl
def an49 : Ann := (.s none .z (.s none .z (.s none .z (.s (some ⟨1, [(0, .junk), (2, .junk), (4, (.atm (.v 0))), (6, .junk), (7, .junk), (8, .junk)], [], 1, []⟩) (.s none .z (.b (.s (some ⟨1, [(0, .junk), (2, .junk), (6, .junk), (7, .junk), (8, .junk), (9, .junk), (11, (.atm (.v 0)))], [], 1, []⟩) .z (.c .z (.s none .z (.c .z (.s (some ⟨1, [(11, .junk), (17, .junk), (18, .junk), (21, (.atm (.v 0)))], [], 1, []⟩) .z (.c .z (.s (some ⟨1, [(10, .junk), (21, .junk), (30, (.atm (.v 0)))], [], 1, []⟩) .z .z))))))))) (.s none (.s none .z (.b (.l ⟨2, [(4, (.atm (.v 0))), (5, (.atm (.v 1)))], [], 1, []⟩ (.s none .z (.s (some ⟨1, [(4, (.atm (.v 0))), (35, .junk), (36, .junk), (37, .junk)], [], 1, []⟩) .z .z))))) .z)))))
def ir49p0 : IR :=
 (.op (.bin .add false) [(.v 6), (.c (.int .i64 1))]
 (.jump 0 [(.v 8), (.v 9)]))
def ir49p1 : IR :=
 (.op (.bin .lss false) [(.v 6), (.v 3)]
 (.ite (.v 7)
  (.letj 1
   (.ite (.v 5)
    (.op (.row 3) [(.v 2), (.v 6)]
    (.call 49 1 false [] [(.v 8), (.v 9), (.v 10)]
    (.jump 1 [(.v 11)])))
   (.jump 1 [(.c (.bool false))]))
  ir49p0)
 (.ret [(.v 5)])))
def ir49p2 : IR :=
 (.loop 2 [(.v 4), (.c (.int .i64 0))] ir49p1)
def ir49p3 : IR :=
 (.ite (.v 7)
  (.op (.bin .eql false) [(.v 3), (.c (.int .i64 2))]
  (.jump 0 [(.v 8)]))
 (.jump 0 [(.c (.bool false))]))
def ir49p4 : IR :=
 (.ite (.v 6)
  (.op (.bin .geq false) [(.v 3), (.c (.int .i64 2))]
  (.ite (.v 7)
   (.op (.bin .leq false) [(.v 3), (.c (.int .i64 6))]
   (.jump 0 [(.v 8)]))
  (.jump 0 [(.c (.bool false))])))
 (.letj 1
  (.op (.bin .eql false) [(.v 0), (.c (.int .i64 7))]
  (.ite (.v 7)
   (.jump 1 [(.c (.bool true))])
  (.op (.bin .eql false) [(.v 0), (.c (.int .i64 8))]
  (.jump 1 [(.v 8)]))))
 ir49p3))
def ir49p5 : IR :=
 (.ite (.v 4)
  (.op (.bin .eql false) [(.v 3), (.c (.int .i64 0))]
  (.jump 0 [(.v 5)]))
 (.op (.bin .eql false) [(.v 0), (.c (.int .i64 4))]
 (.ite (.v 5)
  (.op (.bin .eql false) [(.v 3), (.c (.int .i64 1))]
  (.jump 0 [(.v 6)]))
 (.letj 1
  (.op (.bin .eql false) [(.v 0), (.c (.int .i64 5))]
  (.ite (.v 6)
   (.jump 1 [(.c (.bool true))])
  (.op (.bin .eql false) [(.v 0), (.c (.int .i64 6))]
  (.jump 1 [(.v 7)]))))
 ir49p4))))
def ir49 : IR :=
 (.op .lenL [(.v 2)]
 (.letj 1
  (.letj 1
   (.op (.bin .eql false) [(.v 0), (.c (.int .i64 1))]
   (.ite (.v 4)
    (.jump 1 [(.c (.bool true))])
   (.op (.bin .eql false) [(.v 0), (.c (.int .i64 2))]
   (.ite (.v 5)
    (.jump 1 [(.c (.bool true))])
   (.op (.bin .eql false) [(.v 0), (.c (.int .i64 3))]
   (.jump 1 [(.v 6)]))))))
  ir49p5)
 ir49p2))
theorem rd49 : readFn T SG sigs 3000 sg49 Tryz.f87 an49 = some ir49 := by kernel_rfl
def an50 : Ann := (.s none .z (.s none .z (.s (some ⟨1, [(0, .junk), (2, .junk), (3, (.atm (.v 0))), (5, .junk), (6, .junk), (7, .junk)], [], 1, []⟩) .z (.s none (.s none .z (.b (.l ⟨2, [(3, (.atm (.v 0))), (4, (.atm (.v 1)))], [], 1, []⟩ (.s none .z (.s (some ⟨1, [(3, (.atm (.v 0))), (14, .junk), (15, .junk), (16, .junk), (17, .junk), (18, .junk)], [], 1, []⟩) .z .z))))) .z))))
def ir50p0 : IR :=
 (.op (.bin .add false) [(.v 6), (.c (.int .i64 1))]
 (.jump 0 [(.v 9), (.v 10)]))
def ir50p1 : IR :=
 (.op .lenL [(.v 2)]
 (.op (.bin .lss false) [(.v 6), (.v 7)]
 (.ite (.v 8)
  (.letj 1
   (.ite (.v 5)
    (.op (.row 3) [(.v 2), (.v 6)]
    (.call 50 1 false [] [(.v 9), (.v 10), (.v 11)]
    (.jump 1 [(.v 12)])))
   (.jump 1 [(.c (.bool false))]))
  ir50p0)
 (.ret [(.v 5)]))))
def ir50p2 : IR :=
 (.loop 2 [(.v 4), (.c (.int .i64 0))] ir50p1)
def ir50 : IR :=
 (.op (.bin .eql false) [(.v 1), (.c (.str []))]
 (.letj 1
  (.op (.bin .eql false) [(.v 0), (.c (.int .i64 3))]
  (.ite (.v 4)
   (.call 46 1 false [] [(.v 1)]
   (.jump 0 [(.v 5)]))
  (.jump 0 [(.v 3)])))
 ir50p2))
theorem rd50 : readFn T SG sigs 3000 sg50 Tryz.f88 an50 = some ir50 := by kernel_rfl
def an51 : Ann := (.s none .z (.s (some ⟨1, [(0, (.atm (.v 0))), (1, .junk), (4, .junk)], [], 1, []⟩) (.s (some ⟨1, [(1, .junk), (4, .junk), (14, (.atm (.v 0)))], [], 1, []⟩) .z .z) (.s none (.s none .z (.b (.l ⟨2, [(0, (.atm (.v 0))), (5, (.atm (.v 1)))], [], 1, []⟩ .z))) .z)))
def ir51p0 : IR :=
 (.op .lenL [(.v 3)]
 (.op (.bin .lss false) [(.v 6), (.v 7)]
 (.ite (.v 8)
  (.op (.row 3) [(.v 3), (.v 6)]
  (.call 51 1 false [] [(.v 5), (.v 9), (.v 10), (.v 11)]
  (.op (.bin .add false) [(.v 6), (.c (.int .i64 1))]
  (.jump 0 [(.v 12), (.v 13)]))))
 (.ret [(.v 5)]))))
def ir51p1 : IR :=
 (.loop 2 [(.v 4), (.c (.int .i64 0))] ir51p0)
def ir51p2 : IR :=
 (.ite (.v 4)
  (.call 60 1 false [] [(.v 0), (.v 2)]
  (.jump 0 [(.v 5)]))
 (.jump 0 [(.v 0)]))
def ir51 : IR :=
 (.letj 1
  (.letj 1
   (.op (.bin .eql false) [(.v 1), (.c (.int .i64 3))]
   (.ite (.v 4)
    (.op .lenL [(.v 3)]
    (.op (.bin .eql false) [(.v 5), (.c (.int .i64 0))]
    (.jump 1 [(.v 6)])))
   (.jump 1 [(.c (.bool false))])))
  ir51p2)
 ir51p1)
theorem rd51 : readFn T SG sigs 3000 sg51 Tryz.f89 an51 = some ir51 := by kernel_rfl
def an52 : Ann := (.s none .z (.s none (.s none .z (.b (.s none .z (.c .z (.s none .z (.c (.s none (.s none .z (.b (.l ⟨1, [(0, .junk), (4, .junk), (5, (.atm (.v 0))), (8, .junk), (9, .junk), (10, .junk), (11, .junk), (12, .junk), (13, .junk)], [], 1, []⟩ .z))) .z) (.s none .z (.c .z (.s none .z (.c (.s none (.s none .z (.b (.l ⟨1, [(0, .junk), (4, .junk), (6, (.atm (.v 0))), (8, .junk), (9, .junk), (10, .junk), (11, .junk), (12, .junk), (13, .junk), (27, .junk), (28, .junk), (36, .junk), (37, .junk)], [], 1, []⟩ .z))) .z) (.s none .z (.c (.s none (.s none .z (.b (.l ⟨1, [(0, .junk), (4, .junk), (7, (.atm (.v 0))), (8, .junk), (9, .junk), (10, .junk), (11, .junk), (12, .junk), (13, .junk), (27, .junk), (28, .junk), (36, .junk), (37, .junk), (53, .junk), (54, .junk)], [], 1, []⟩ .z))) .z) .z)))))))))))) .z))
def ir52p0 : IR :=
 (.op .lenL [(.v 3)]
 (.op (.bin .lss false) [(.v 6), (.v 7)]
 (.ite (.v 8)
  (.op (.row 1) [(.v 3), (.v 6)]
  (.op (.bin .eql false) [(.v 9), (.v 1)]
  (.ite (.v 10)
   (.ret [(.c (.bool true))])
  (.op (.bin .add false) [(.v 6), (.c (.int .i64 1))]
  (.jump 0 [(.v 11)])))))
 (.ret [(.c (.bool false))]))))
def ir52p1 : IR :=
 (.op .lenL [(.v 2)]
 (.op (.bin .lss false) [(.v 8), (.v 9)]
 (.ite (.v 10)
  (.op (.row 3) [(.v 2), (.v 8)]
  (.call 52 1 false [] [(.v 11), (.v 12), (.v 13), (.v 3)]
  (.op (.un .not) [(.v 14)]
  (.ite (.v 15)
   (.ret [(.c (.bool false))])
  (.op (.bin .add false) [(.v 8), (.c (.int .i64 1))]
  (.jump 0 [(.v 16)]))))))
 (.ret [(.c (.bool true))]))))
def ir52p2 : IR :=
 (.op .lenL [(.v 2)]
 (.op (.bin .lss false) [(.v 9), (.v 10)]
 (.ite (.v 11)
  (.op (.row 3) [(.v 2), (.v 9)]
  (.call 52 1 false [] [(.v 12), (.v 13), (.v 14), (.v 3)]
  (.ite (.v 15)
   (.ret [(.c (.bool true))])
  (.op (.bin .add false) [(.v 9), (.c (.int .i64 1))]
  (.jump 0 [(.v 16)])))))
 (.ret [(.c (.bool false))]))))
def ir52 : IR :=
 (.op (.bin .eql false) [(.v 0), (.c (.int .i64 1))]
 (.ite (.v 4)
  (.ret [(.c (.bool true))])
 (.op (.bin .eql false) [(.v 0), (.c (.int .i64 3))]
 (.ite (.v 5)
  (.loop 1 [(.c (.int .i64 0))] ir52p0)
 (.op (.bin .eql false) [(.v 0), (.c (.int .i64 4))]
 (.ite (.v 6)
  (.op (.row 3) [(.v 2), (.c (.int .i64 0))]
  (.call 52 1 false [] [(.v 7), (.v 8), (.v 9), (.v 3)]
  (.op (.un .not) [(.v 10)]
  (.ret [(.v 11)]))))
 (.op (.bin .eql false) [(.v 0), (.c (.int .i64 5))]
 (.ite (.v 7)
  (.loop 1 [(.c (.int .i64 0))] ir52p1)
 (.op (.bin .eql false) [(.v 0), (.c (.int .i64 6))]
 (.ite (.v 8)
  (.loop 1 [(.c (.int .i64 0))] ir52p2)
 (.op (.bin .eql false) [(.v 0), (.c (.int .i64 7))]
 (.ite (.v 9)
  (.op (.row 3) [(.v 2), (.c (.int .i64 0))]
  (.call 52 1 false [] [(.v 10), (.v 11), (.v 12), (.v 3)]
  (.op (.un .not) [(.v 13)]
  (.ite (.v 14)
   (.ret [(.c (.bool true))])
  (.op (.row 3) [(.v 2), (.c (.int .i64 1))]
  (.call 52 1 false [] [(.v 15), (.v 16), (.v 17), (.v 3)]
  (.ret [(.v 18)])))))))
 (.op (.bin .eql false) [(.v 0), (.c (.int .i64 8))]
 (.ite (.v 10)
  (.op (.row 3) [(.v 2), (.c (.int .i64 0))]
  (.call 52 1 false [] [(.v 11), (.v 12), (.v 13), (.v 3)]
  (.op (.row 3) [(.v 2), (.c (.int .i64 1))]
  (.call 52 1 false [] [(.v 15), (.v 16), (.v 17), (.v 3)]
  (.op (.bin .eql true) [(.v 14), (.v 18)]
  (.ret [(.v 19)]))))))
 (.ret [(.c (.bool false))])))))))))))))))
theorem rd52 : readFn T SG sigs 3000 sg52 Tryz.f90 an52 = some ir52 := by kernel_rfl
def an53 : Ann := .z
def ir53 : IR :=
 (.call 61 7 false [] [(.v 0), (.v 1), (.v 2), (.v 3)]
 (.call 54 5 false [] [(.c (.str [60, 45, 62])), (.v 7), (.v 8), (.v 9), (.v 10)]
 (.op (.un .not) [(.v 11)]
 (.ite (.v 16)
  (.ret [(.v 4), (.v 5), (.v 6), (.v 12), (.v 13), (.v 14), (.v 15)])
 (.call 61 7 false [] [(.v 12), (.v 13), (.v 14), (.v 15)]
 (.op (.mk 3 2) [(.v 4), (.v 5), (.v 6), (.v 17), (.v 18), (.v 19)]
 (.ret [(.c (.int .i64 8)), (.c (.str [])), (.v 24), (.v 20), (.v 21), (.v 22), (.v 23)])))))))
theorem rd53 : readFn T SG sigs 3000 sg53 Tryz.f91 an53 = some ir53 := by kernel_rfl
def an54 : Ann := (.s none .z (.s none .z (.s none (.s (some ⟨1, [(1, .junk), (4, .junk), (6, .junk), (7, .junk), (18, (.atm (.v 0)))], [], 2, []⟩) .z .z) .z)))
def ir54p0 : IR :=
 (.ite (.v 12)
  (.ret [(.c (.bool false)), (.v 8), (.v 9), (.v 10), (.v 11)])
 (.op .lenS [(.v 6)]
 (.op (.bin .add false) [(.v 9), (.v 13)]
 (.ret [(.c (.bool true)), (.v 8), (.v 14), (.v 10), (.v 11)]))))
def ir54 : IR :=
 (.call 62 7 false [] [(.v 1), (.v 2), (.v 3), (.v 4)]
 (.letj 1
  (.op (.bin .geq false) [(.v 10), (.c (.int .i64 0))]
  (.ite (.v 12)
   (.jump 0 [(.c (.bool true))])
  (.op (.bin .neq false) [(.v 5), (.v 0)]
  (.jump 0 [(.v 13)]))))
 ir54p0))
theorem rd54 : readFn T SG sigs 3000 sg54 Tryz.f92 an54 = some ir54 := by kernel_rfl
def an55 : Ann := (.s none .z (.s (some ⟨4, [(0, .junk)], [(0, ⟨false, false, 97, 4, (.c (.sl [])), [[(.atm (.v 0)), (.atm (.v 1)), (.atm (.v 2)), (.atm (.v 3))]]⟩)], 2, []⟩) .z .z))
def ir55p0 : IR :=
 (.ret [(.c (.int .i64 0)), (.c (.str [])), (.c (.sl [])), (.v 4), (.v 5), (.v 6), (.v 7)])
def ir55 : IR :=
 (.letj 4
  (.op (.bin .lss false) [(.v 2), (.c (.int .i64 0))]
  (.ite (.v 4)
   (.call 62 7 false [] [(.v 0), (.v 1), (.v 2), (.v 3)]
   (.jump 0 [(.v 8), (.v 9), (.v 7), (.v 11)]))
  (.jump 0 [(.v 0), (.v 1), (.v 2), (.v 3)])))
 ir55p0)
theorem rd55 : readFn T SG sigs 3000 sg55 Tryz.f93 an55 = some ir55 := by kernel_rfl
def an56 : Ann := (.s none .z (.s none .z (.s none .z (.s none .z (.s none .z (.s none .z (.s none .z (.s none .z (.s none .z (.s none (.b (.s (some ⟨1, [(0, .junk), (1, .junk), (5, .junk), (12, .junk), (13, .junk), (14, .junk), (15, .junk), (16, .junk), (17, .junk), (19, .junk), (20, .junk), (21, .junk), (23, .junk), (24, .junk), (25, .junk), (26, .junk), (27, .junk), (28, .junk), (29, .junk), (30, .junk), (31, .junk), (32, .junk), (36, .junk), (37, .junk), (38, .junk), (39, .junk), (40, .junk), (41, .junk), (42, .junk), (43, .junk), (44, .junk), (45, .junk), (46, .junk), (47, .junk), (48, .junk), (49, (.atm (.v 0)))], [], 4, []⟩) .z (.c .z (.s none .z (.c .z (.s (some ⟨1, [(49, .junk), (58, .junk), (59, .junk), (60, .junk), (61, .junk), (67, (.atm (.v 0)))], [], 4, []⟩) .z .z)))))) .z))))))))))
def ir56p0 : IR :=
 (.ite (.v 18)
  (.ret [(.c (.int .i64 4)), (.c (.str [])), (.v 13)])
 (.op (.bin .eql false) [(.v 8), (.c (.int .u64 0))]
 (.ite (.v 19)
  (.call 56 3 false [] [(.v 7), (.v 9)]
  (.call 64 3 false [] [(.c (.int .i64 5)), (.c (.int .i64 4)), (.c (.str [])), (.v 13), (.v 20), (.v 21), (.v 22)]
  (.ret [(.v 23), (.v 24), (.v 25)])))
 (.op (.bin .eql false) [(.v 9), (.v 15)]
 (.ite (.v 20)
  (.call 56 3 false [] [(.v 7), (.v 8)]
  (.call 64 3 false [] [(.c (.int .i64 6)), (.c (.int .i64 4)), (.c (.str [])), (.v 13), (.v 21), (.v 22), (.v 23)]
  (.ret [(.v 24), (.v 25), (.v 26)])))
 (.op (.bin .eql false) [(.v 9), (.c (.int .u64 0))]
 (.ite (.v 21)
  (.call 56 3 false [] [(.v 7), (.v 8)]
  (.call 64 3 false [] [(.c (.int .i64 5)), (.c (.int .i64 3)), (.v 11), (.c (.sl [])), (.v 22), (.v 23), (.v 24)]
  (.ret [(.v 25), (.v 26), (.v 27)])))
 (.call 56 3 false [] [(.v 7), (.v 8)]
 (.call 64 3 false [] [(.c (.int .i64 5)), (.c (.int .i64 3)), (.v 11), (.c (.sl [])), (.v 22), (.v 23), (.v 24)]
 (.call 56 3 false [] [(.v 7), (.v 9)]
 (.call 64 3 false [] [(.c (.int .i64 5)), (.c (.int .i64 4)), (.c (.str [])), (.v 13), (.v 28), (.v 29), (.v 30)]
 (.call 64 3 false [] [(.c (.int .i64 6)), (.v 25), (.v 26), (.v 27), (.v 31), (.v 32), (.v 33)]
 (.ret [(.v 34), (.v 35), (.v 36)])))))))))))))
def ir56p1 : IR :=
 (.ite (.v 16)
  (.ret [(.c (.int .i64 3)), (.v 11), (.c (.sl []))])
 (.op (.bin .eql false) [(.v 8), (.v 15)]
 (.ite (.v 17)
  (.call 56 3 false [] [(.v 7), (.v 9)]
  (.call 64 3 false [] [(.c (.int .i64 6)), (.c (.int .i64 3)), (.v 11), (.c (.sl [])), (.v 18), (.v 19), (.v 20)]
  (.ret [(.v 21), (.v 22), (.v 23)])))
 (.letj 1
  (.op (.bin .eql false) [(.v 8), (.c (.int .u64 0))]
  (.ite (.v 18)
   (.op (.bin .eql false) [(.v 9), (.v 15)]
   (.jump 0 [(.v 19)]))
  (.jump 0 [(.c (.bool false))])))
 ir56p0))))
def ir56 : IR :=
 (.op .lenL [(.v 0)]
 (.call 45 1 false [] [(.v 2)]
 (.op (.bin .eql false) [(.v 1), (.c (.int .u64 0))]
 (.ite (.v 4)
  (.ret [(.c (.int .i64 2)), (.c (.str [])), (.c (.sl []))])
 (.op (.bin .eql false) [(.v 1), (.v 3)]
 (.ite (.v 5)
  (.ret [(.c (.int .i64 1)), (.c (.str [])), (.c (.sl []))])
 (.op .lenL [(.v 0)]
 (.op (.subL 1) [(.v 0), (.c (.int .i64 1)), (.v 6)]
 (.call 63 2 false [] [(.v 1)]
 (.op (.bin .eql false) [(.v 8), (.v 9)]
 (.ite (.v 10)
  (.call 56 3 false [] [(.v 7), (.v 8)]
  (.ret [(.v 11), (.v 12), (.v 13)]))
 (.op (.row 1) [(.v 0), (.c (.int .i64 0))]
 (.op (.row 1) [(.v 0), (.c (.int .i64 0))]
 (.op (.mk 3 1) [(.c (.int .i64 3)), (.v 12), (.c (.sl []))]
 (.op .lenL [(.v 7)]
 (.call 45 1 false [] [(.v 14)]
 (.letj 1
  (.op (.bin .eql false) [(.v 8), (.v 15)]
  (.ite (.v 16)
   (.op (.bin .eql false) [(.v 9), (.c (.int .u64 0))]
   (.jump 0 [(.v 17)]))
  (.jump 0 [(.c (.bool false))])))
 ir56p1)))))))))))))))))
theorem rd56 : readFn T SG sigs 3000 sg56 Tryz.f94 an56 = some ir56 := by kernel_rfl
def an57 : Ann := .z
def ir57 : IR :=
 (.op (.bin .shr false) [(.v 0), (.c (.int .u64 1))]
 (.op (.bin .and false) [(.v 1), (.c (.int .u64 6148914691236517205))]
 (.op (.bin .and false) [(.v 0), (.c (.int .u64 6148914691236517205))]
 (.op (.bin .add false) [(.v 2), (.v 3)]
 (.op (.bin .shr false) [(.v 4), (.c (.int .u64 2))]
 (.op (.bin .and false) [(.v 5), (.c (.int .u64 3689348814741910323))]
 (.op (.bin .and false) [(.v 4), (.c (.int .u64 3689348814741910323))]
 (.op (.bin .add false) [(.v 6), (.v 7)]
 (.op (.bin .shr false) [(.v 8), (.c (.int .u64 4))]
 (.op (.bin .add false) [(.v 9), (.v 8)]
 (.op (.bin .and false) [(.v 10), (.c (.int .u64 1085102592571150095))]
 (.op (.bin .shr false) [(.v 11), (.c (.int .u64 8))]
 (.op (.bin .add false) [(.v 11), (.v 12)]
 (.op (.bin .shr false) [(.v 13), (.c (.int .u64 16))]
 (.op (.bin .add false) [(.v 13), (.v 14)]
 (.op (.bin .shr false) [(.v 15), (.c (.int .u64 32))]
 (.op (.bin .add false) [(.v 15), (.v 16)]
 (.op (.conv .i64) [(.v 17)]
 (.op (.bin .and false) [(.v 18), (.c (.int .i64 127))]
 (.ret [(.v 19)]))))))))))))))))))))
theorem rd57 : readFn T SG sigs 3000 sg57 Tryz.f33 an57 = some ir57 := by kernel_rfl
def an58 : Ann := (.s none .z (.s none .z (.s none (.s none .z (.b (.s (some ⟨1, [(0, .junk), (1, .junk), (2, .junk), (4, .junk), (5, .junk), (6, .junk), (7, .junk), (9, (.atm (.v 0)))], [], 1, []⟩) .z (.c .z (.s none .z (.c .z (.s (some ⟨1, [(9, .junk), (15, .junk), (16, .junk), (19, (.atm (.v 0)))], [], 1, []⟩) .z (.c .z (.s (some ⟨1, [(8, .junk), (19, .junk), (28, (.atm (.v 0)))], [], 1, []⟩) .z .z))))))))) .z)))
def ir58p0 : IR :=
 (.ite (.v 7)
  (.op (.bin .eql false) [(.v 3), (.c (.int .i64 2))]
  (.ret [(.v 8)]))
 (.ret [(.c (.bool false))]))
def ir58p1 : IR :=
 (.ite (.v 6)
  (.op (.bin .geq false) [(.v 3), (.c (.int .i64 2))]
  (.ite (.v 7)
   (.op (.bin .leq false) [(.v 3), (.c (.int .i64 6))]
   (.ret [(.v 8)]))
  (.ret [(.c (.bool false))])))
 (.letj 1
  (.op (.bin .eql false) [(.v 0), (.c (.int .i64 7))]
  (.ite (.v 7)
   (.jump 0 [(.c (.bool true))])
  (.op (.bin .eql false) [(.v 0), (.c (.int .i64 8))]
  (.jump 0 [(.v 8)]))))
 ir58p0))
def ir58p2 : IR :=
 (.ite (.v 4)
  (.op (.bin .eql false) [(.v 3), (.c (.int .i64 0))]
  (.ret [(.v 5)]))
 (.op (.bin .eql false) [(.v 0), (.c (.int .i64 4))]
 (.ite (.v 5)
  (.op (.bin .eql false) [(.v 3), (.c (.int .i64 1))]
  (.ret [(.v 6)]))
 (.letj 1
  (.op (.bin .eql false) [(.v 0), (.c (.int .i64 5))]
  (.ite (.v 6)
   (.jump 0 [(.c (.bool true))])
  (.op (.bin .eql false) [(.v 0), (.c (.int .i64 6))]
  (.jump 0 [(.v 7)]))))
 ir58p1))))
def ir58 : IR :=
 (.op .lenL [(.v 2)]
 (.letj 1
  (.op (.bin .eql false) [(.v 0), (.c (.int .i64 1))]
  (.ite (.v 4)
   (.jump 0 [(.c (.bool true))])
  (.op (.bin .eql false) [(.v 0), (.c (.int .i64 2))]
  (.ite (.v 5)
   (.jump 0 [(.c (.bool true))])
  (.op (.bin .eql false) [(.v 0), (.c (.int .i64 3))]
  (.jump 0 [(.v 6)]))))))
 ir58p2))
theorem rd58 : readFn T SG sigs 3000 sg58 Tryz.f78 an58 = some ir58 := by kernel_rfl
def an59 : Ann := .z
def ir59 : IR :=
 (.op (.bin .eql false) [(.v 0), (.c (.int .i64 3))]
 (.ite (.v 3)
  (.call 38 1 false [] [(.v 1)]
  (.ret [(.v 4)]))
 (.op (.bin .eql false) [(.v 1), (.c (.str []))]
 (.ret [(.v 4)]))))
theorem rd59 : readFn T SG sigs 3000 sg59 Tryz.f79 an59 = some ir59 := by kernel_rfl
def an60 : Ann := (.s none .z (.s none .z (.s none (.b (.l ⟨1, [(4, .junk), (5, (.atm (.v 0)))], [], 0, []⟩ (.s none (.s (some ⟨1, [(18, (.atm (.v 0)))], [], 0, []⟩) .z .z) .z))) (.s none (.s (some ⟨1, [(18, .junk), (32, (.atm (.v 0)))], [], 0, []⟩) .z .z) .z))))
def ir60p0 : IR :=
 (.ite (.v 4)
  (.ret [(.v 0)])
 (.op (.subL 1) [(.v 0), (.c (.int .i64 0)), (.v 2)]
 (.op (.app 1 16) [(.c (.sl [])), (.v 5)]
 (.op (.mk 1 1) [(.v 1)]
 (.op (.app 1 16) [(.v 6), (.v 7)]
 (.op .lenL [(.v 0)]
 (.op (.subL 1) [(.v 0), (.v 2), (.v 9)]
 (.op (.app 1 16) [(.v 8), (.v 10)]
 (.ret [(.v 11)])))))))))
def ir60p1 : IR :=
 (.ite (.v 3)
  (.op (.bin .add false) [(.v 2), (.c (.int .i64 1))]
  (.jump 0 [(.v 4)]))
 (.letj 1
  (.op .lenL [(.v 0)]
  (.op (.bin .lss false) [(.v 2), (.v 4)]
  (.ite (.v 5)
   (.op (.row 1) [(.v 0), (.v 2)]
   (.op (.bin .eql false) [(.v 6), (.v 1)]
   (.jump 1 [(.v 7)])))
  (.jump 1 [(.c (.bool false))]))))
 ir60p0))
def ir60p2 : IR :=
 (.letj 1
  (.op .lenL [(.v 0)]
  (.op (.bin .lss false) [(.v 2), (.v 3)]
  (.ite (.v 4)
   (.op (.row 1) [(.v 0), (.v 2)]
   (.op (.bin .lss false) [(.v 5), (.v 1)]
   (.jump 1 [(.v 6)])))
  (.jump 1 [(.c (.bool false))]))))
 ir60p1)
def ir60 : IR :=
 (.loop 1 [(.c (.int .i64 0))] ir60p2)
theorem rd60 : readFn T SG sigs 3000 sg60 Tryz.f103 an60 = some ir60 := by kernel_rfl
def an61 : Ann := .z
def ir61 : IR :=
 (.call 65 7 false [] [(.v 0), (.v 1), (.v 2), (.v 3)]
 (.call 54 5 false [] [(.c (.str [45, 62])), (.v 7), (.v 8), (.v 9), (.v 10)]
 (.op (.un .not) [(.v 11)]
 (.ite (.v 16)
  (.ret [(.v 4), (.v 5), (.v 6), (.v 12), (.v 13), (.v 14), (.v 15)])
 (.call 61 7 false [] [(.v 12), (.v 13), (.v 14), (.v 15)]
 (.op (.mk 3 2) [(.v 4), (.v 5), (.v 6), (.v 17), (.v 18), (.v 19)]
 (.ret [(.c (.int .i64 7)), (.c (.str [])), (.v 24), (.v 20), (.v 21), (.v 22), (.v 23)])))))))
theorem rd61 : readFn T SG sigs 3000 sg61 Tryz.f104 an61 = some ir61 := by kernel_rfl
def an62 : Ann := (.s none .z (.s none (.b (.l ⟨4, [], [(0, ⟨false, false, 97, 4, (.c (.sl [])), [[(.atm (.v 0)), (.atm (.v 1)), (.atm (.v 2)), (.atm (.v 3))]]⟩)], 2, []⟩ (.s none (.s (some ⟨1, [(29, (.atm (.v 0)))], [], 2, []⟩) .z .z) .z))) (.s none .z (.s none .z (.s none .z (.s none (.b (.l ⟨1, [(4, (.atm (.v 0))), (29, .junk), (37, .junk), (38, .junk), (39, .junk), (40, .junk), (41, .junk), (42, .junk), (43, .junk), (44, .junk), (45, .junk), (46, .junk), (47, .junk)], [], 2, []⟩ (.s none (.s (some ⟨1, [(63, (.atm (.v 0)))], [], 2, []⟩) .z .z) .z))) (.s none (.s none .z (.b (.s (some ⟨1, [(63, .junk), (66, .junk), (67, .junk), (68, .junk), (69, (.atm (.v 0)))], [], 2, []⟩) .z .z))) (.s none (.s none .z (.b (.l ⟨1, [(4, .junk), (5, .junk), (69, .junk), (83, .junk), (84, .junk), (85, .junk), (92, .junk), (93, .junk), (94, .junk), (103, (.atm (.v 0)))], [], 3, []⟩ (.s none .z (.s none .z (.s none (.b (.s none .z (.s (some ⟨1, [(104, .junk), (105, .junk), (106, .junk), (119, (.atm (.v 0)))], [], 3, []⟩) .z .z))) .z)))))) .z))))))))
def ir62p0 : IR :=
 (.ite (.v 23)
  (.ret [(.v 22), (.v 22), (.v 5), (.v 4), (.v 5), (.v 6), (.v 7)])
 (.op (.bin .add false) [(.v 20), (.c (.int .i64 1))]
 (.jump 2 [(.v 24)])))
def ir62p1 : IR :=
 (.op (.bin .lss false) [(.v 20), (.v 19)]
 (.ite (.v 21)
  (.op .chk [(.v 18), (.v 20)]
  (.op (.get 0 1) [(.v 18), (.v 20)]
  (.letj 1
   (.op .lenS [(.v 10)]
   (.op .lenS [(.v 22)]
   (.op (.bin .geq false) [(.v 23), (.v 24)]
   (.ite (.v 25)
    (.op .lenS [(.v 22)]
    (.op .subS [(.v 10), (.c (.int .i64 0)), (.v 26)]
    (.op (.bin .eql false) [(.v 27), (.v 22)]
    (.jump 3 [(.v 28)]))))
   (.jump 3 [(.c (.bool false))])))))
  ir62p0)))
 (.ret [(.c (.str [63])), (.c (.str [])), (.v 5), (.v 4), (.v 5), (.v 6), (.v 7)])))
def ir62p2 : IR :=
 (.ite (.v 15)
  (.ret [(.v 14), (.v 14), (.v 5), (.v 4), (.v 5), (.v 6), (.v 7)])
 (.call 38 1 false [] [(.v 14)]
 (.ite (.v 16)
  (.ret [(.c (.str [110, 97, 109, 101])), (.v 14), (.v 5), (.v 4), (.v 5), (.v 6), (.v 7)])
 (.op (.bin .gtr false) [(.v 12), (.c (.int .i64 0))]
 (.ite (.v 17)
  (.ret [(.c (.str [63])), (.v 14), (.v 5), (.v 4), (.v 5), (.v 6), (.v 7)])
 (.op (.mk 1 7) [(.c (.str [60, 45, 62])), (.c (.str [45, 62])), (.c (.str [126])), (.c (.str [38])), (.c (.str [124])), (.c (.str [40])), (.c (.str [41]))]
 (.op .lenL [(.v 18)]
 (.loop 1 [(.c (.int .i64 0))] ir62p1))))))))
def ir62p3 : IR :=
 (.ite (.v 13)
  (.op (.bin .add false) [(.v 12), (.c (.int .i64 1))]
  (.jump 1 [(.v 14)]))
 (.op .subS [(.v 10), (.c (.int .i64 0)), (.v 12)]
 (.letj 1
  (.op (.bin .eql false) [(.v 14), (.c (.str [48]))]
  (.ite (.v 15)
   (.jump 2 [(.c (.bool true))])
  (.op (.bin .eql false) [(.v 14), (.c (.str [49]))]
  (.jump 2 [(.v 16)]))))
 ir62p2)))
def ir62p4 : IR :=
 (.letj 1
  (.op .lenS [(.v 10)]
  (.op (.bin .lss false) [(.v 12), (.v 13)]
  (.ite (.v 14)
   (.op .idxS [(.v 10), (.v 12)]
   (.call 66 1 false [] [(.v 15)]
   (.jump 2 [(.v 16)])))
  (.jump 2 [(.c (.bool false))]))))
 ir62p3)
def ir62p5 : IR :=
 (.ite (.v 8)
  (.op (.bin .add false) [(.v 5), (.c (.int .i64 1))]
  (.jump 0 [(.v 4), (.v 9), (.v 6), (.v 7)]))
 (.op .lenS [(.v 4)]
 (.op .subS [(.v 4), (.v 5), (.v 9)]
 (.op (.bin .eql false) [(.v 10), (.c (.str []))]
 (.ite (.v 11)
  (.op .lenS [(.v 4)]
  (.ret [(.c (.str [])), (.c (.str [])), (.v 12), (.v 4), (.v 5), (.v 6), (.v 7)]))
 (.loop 1 [(.c (.int .i64 0))] ir62p4))))))
def ir62p6 : IR :=
 (.letj 1
  (.op .lenS [(.v 4)]
  (.op (.bin .lss false) [(.v 5), (.v 8)]
  (.ite (.v 9)
   (.op .idxS [(.v 4), (.v 5)]
   (.op (.bin .eql false) [(.v 10), (.c (.int .u8 32))]
   (.jump 1 [(.v 11)])))
  (.jump 1 [(.c (.bool false))]))))
 ir62p5)
def ir62 : IR :=
 (.loop 4 [(.v 0), (.v 1), (.v 2), (.v 3)] ir62p6)
theorem rd62 : readFn T SG sigs 3000 sg62 Tryz.f105 an62 = some ir62 := by kernel_rfl
def an63 : Ann := (.s none .z (.s none (.s none .z (.b (.l ⟨3, [(2, (.atm (.v 0))), (3, (.atm (.v 1))), (5, (.atm (.v 2)))], [], 0, []⟩ .z))) .z))
def ir63p0 : IR :=
 (.op (.bin .lss false) [(.v 3), (.c (.int .i64 32))]
 (.ite (.v 4)
  (.op (.bin .mul false) [(.c (.int .i64 2)), (.v 3)]
  (.op (.bin .shr false) [(.v 0), (.v 5)]
  (.op (.bin .and false) [(.v 6), (.c (.int .u64 1))]
  (.op (.bin .shl false) [(.v 7), (.v 3)]
  (.op (.bin .or false) [(.v 2), (.v 8)]
  (.op (.bin .mul false) [(.c (.int .i64 2)), (.v 3)]
  (.op (.bin .add false) [(.v 10), (.c (.int .i64 1))]
  (.op (.bin .shr false) [(.v 0), (.v 11)]
  (.op (.bin .and false) [(.v 12), (.c (.int .u64 1))]
  (.op (.bin .shl false) [(.v 13), (.v 3)]
  (.op (.bin .or false) [(.v 1), (.v 14)]
  (.op (.bin .add false) [(.v 3), (.c (.int .i64 1))]
  (.jump 0 [(.v 15), (.v 9), (.v 16)])))))))))))))
 (.ret [(.v 1), (.v 2)])))
def ir63 : IR :=
 (.loop 3 [(.c (.int .u64 0)), (.c (.int .u64 0)), (.c (.int .i64 0))] ir63p0)
theorem rd63 : readFn T SG sigs 3000 sg63 Tryz.f106 an63 = some ir63 := by kernel_rfl
def an64 : Ann := .z
def ir64 : IR :=
 (.op (.mk 3 2) [(.v 1), (.v 2), (.v 3), (.v 4), (.v 5), (.v 6)]
 (.ret [(.v 0), (.c (.str [])), (.v 7)]))
theorem rd64 : readFn T SG sigs 3000 sg64 Tryz.f107 an64 = some ir64 := by kernel_rfl
def an65 : Ann := .z
def ir65 : IR :=
 (.call 67 7 false [] [(.c (.int .i64 6)), (.c (.str [124])), (.v 0), (.v 1), (.v 2), (.v 3)]
 (.ret [(.v 4), (.v 5), (.v 6), (.v 7), (.v 8), (.v 9), (.v 10)]))
theorem rd65 : readFn T SG sigs 3000 sg65 Tryz.f126 an65 = some ir65 := by kernel_rfl
def an66 : Ann := .z
def ir66 : IR :=
 (.op (.bin .geq false) [(.v 0), (.c (.int .u8 97))]
 (.ite (.v 1)
  (.op (.bin .leq false) [(.v 0), (.c (.int .u8 122))]
  (.ite (.v 2)
   (.ret [(.c (.bool true))])
  (.op (.bin .geq false) [(.v 0), (.c (.int .u8 65))]
  (.ite (.v 3)
   (.op (.bin .leq false) [(.v 0), (.c (.int .u8 90))]
   (.ite (.v 4)
    (.ret [(.c (.bool true))])
   (.op (.bin .geq false) [(.v 0), (.c (.int .u8 48))]
   (.ite (.v 5)
    (.op (.bin .leq false) [(.v 0), (.c (.int .u8 57))]
    (.ite (.v 6)
     (.ret [(.c (.bool true))])
    (.op (.bin .eql false) [(.v 0), (.c (.int .u8 95))]
    (.ret [(.v 7)]))))
   (.op (.bin .eql false) [(.v 0), (.c (.int .u8 95))]
   (.ret [(.v 6)]))))))
  (.op (.bin .geq false) [(.v 0), (.c (.int .u8 48))]
  (.ite (.v 4)
   (.op (.bin .leq false) [(.v 0), (.c (.int .u8 57))]
   (.ite (.v 5)
    (.ret [(.c (.bool true))])
   (.op (.bin .eql false) [(.v 0), (.c (.int .u8 95))]
   (.ret [(.v 6)]))))
  (.op (.bin .eql false) [(.v 0), (.c (.int .u8 95))]
  (.ret [(.v 5)]))))))))
 (.op (.bin .geq false) [(.v 0), (.c (.int .u8 65))]
 (.ite (.v 2)
  (.op (.bin .leq false) [(.v 0), (.c (.int .u8 90))]
  (.ite (.v 3)
   (.ret [(.c (.bool true))])
  (.op (.bin .geq false) [(.v 0), (.c (.int .u8 48))]
  (.ite (.v 4)
   (.op (.bin .leq false) [(.v 0), (.c (.int .u8 57))]
   (.ite (.v 5)
    (.ret [(.c (.bool true))])
   (.op (.bin .eql false) [(.v 0), (.c (.int .u8 95))]
   (.ret [(.v 6)]))))
  (.op (.bin .eql false) [(.v 0), (.c (.int .u8 95))]
  (.ret [(.v 5)]))))))
 (.op (.bin .geq false) [(.v 0), (.c (.int .u8 48))]
 (.ite (.v 3)
  (.op (.bin .leq false) [(.v 0), (.c (.int .u8 57))]
  (.ite (.v 4)
   (.ret [(.c (.bool true))])
  (.op (.bin .eql false) [(.v 0), (.c (.int .u8 95))]
  (.ret [(.v 5)]))))
 (.op (.bin .eql false) [(.v 0), (.c (.int .u8 95))]
 (.ret [(.v 4)]))))))))
theorem rd66 : readFn T SG sigs 3000 sg66 Tryz.f127 an66 = some ir66 := by kernel_rfl
def an67 : Ann := (.s none .z (.s none .z (.s none .z (.s none .z (.s none (.b (.l ⟨5, [(1, .junk), (9, .junk), (11, .junk), (12, .junk), (13, .junk), (14, .junk), (15, .junk), (16, .junk), (17, .junk), (19, .junk), (20, .junk), (21, .junk), (22, .junk)], [(0, ⟨false, false, 97, 4, (.c (.sl [])), [[(.atm (.v 0)), (.atm (.v 1)), (.atm (.v 2)), (.atm (.v 3))]]⟩), (3, ⟨false, true, 27, 3, (.v 4), []⟩)], 5, []⟩ .z)) (.s (some ⟨4, [(0, .junk), (2, .junk), (3, .junk), (23, .junk), (24, .junk), (25, .junk)], [(0, ⟨false, false, 97, 4, (.c (.sl [])), [[(.atm (.v 0)), (.atm (.v 1)), (.atm (.v 2)), (.atm (.v 3))]]⟩)], 5, []⟩) .z .z))))))
def ir67p0 : IR :=
 (.ret [(.v 0), (.c (.str [])), (.v 26), (.v 32), (.v 33), (.v 34), (.v 35)])
def ir67p1 : IR :=
 (.call 54 5 false [] [(.v 1), (.v 22), (.v 23), (.v 24), (.v 25)]
 (.ite (.v 27)
  (.call 68 7 false [] [(.v 28), (.v 29), (.v 30), (.v 31)]
  (.op (.mk 3 1) [(.v 32), (.v 33), (.v 34)]
  (.op (.app 3 48) [(.v 26), (.v 39)]
  (.jump 0 [(.v 35), (.v 36), (.v 37), (.v 38), (.v 40)]))))
 (.letj 4
  (.ite (.v 31)
   (.jump 1 [(.v 28), (.v 29), (.v 30), (.c (.bool true))])
  (.op .lenL [(.v 26)]
  (.op (.bin .gtr false) [(.v 32), (.c (.int .i64 6))]
  (.jump 1 [(.v 28), (.v 29), (.v 30), (.v 33)]))))
 ir67p0)))
def ir67 : IR :=
 (.call 68 7 false [] [(.v 2), (.v 3), (.v 4), (.v 5)]
 (.call 62 7 false [] [(.v 9), (.v 10), (.v 11), (.v 12)]
 (.op (.bin .neq false) [(.v 13), (.v 1)]
 (.ite (.v 20)
  (.ret [(.v 6), (.v 7), (.v 8), (.v 16), (.v 17), (.v 18), (.v 19)])
 (.op (.mk 3 1) [(.v 6), (.v 7), (.v 8)]
 (.loop 5 [(.v 16), (.v 17), (.v 18), (.v 19), (.v 21)] ir67p1))))))
theorem rd67 : readFn T SG sigs 3000 sg67 Tryz.f136 an67 = some ir67 := by kernel_rfl
def an68 : Ann := .z
def ir68 : IR :=
 (.call 69 7 false [] [(.c (.int .i64 5)), (.c (.str [38])), (.v 0), (.v 1), (.v 2), (.v 3)]
 (.ret [(.v 4), (.v 5), (.v 6), (.v 7), (.v 8), (.v 9), (.v 10)]))
theorem rd68 : readFn T SG sigs 3000 sg68 Tryz.f137 an68 = some ir68 := by kernel_rfl
def an69 : Ann := (.s none .z (.s none .z (.s none .z (.s none .z (.s none (.b (.l ⟨5, [(1, .junk), (9, .junk), (11, .junk), (12, .junk), (13, .junk), (14, .junk), (15, .junk), (16, .junk), (17, .junk), (19, .junk), (20, .junk), (21, .junk), (22, .junk)], [(0, ⟨false, false, 97, 4, (.c (.sl [])), [[(.atm (.v 0)), (.atm (.v 1)), (.atm (.v 2)), (.atm (.v 3))]]⟩), (3, ⟨false, true, 27, 3, (.v 4), []⟩)], 5, []⟩ .z)) (.s (some ⟨4, [(0, .junk), (2, .junk), (3, .junk), (23, .junk), (24, .junk), (25, .junk)], [(0, ⟨false, false, 97, 4, (.c (.sl [])), [[(.atm (.v 0)), (.atm (.v 1)), (.atm (.v 2)), (.atm (.v 3))]]⟩)], 5, []⟩) .z .z))))))
def ir69p0 : IR :=
 (.ret [(.v 0), (.c (.str [])), (.v 26), (.v 32), (.v 33), (.v 34), (.v 35)])
def ir69p1 : IR :=
 (.call 54 5 false [] [(.v 1), (.v 22), (.v 23), (.v 24), (.v 25)]
 (.ite (.v 27)
  (.call 70 7 false [] [(.v 28), (.v 29), (.v 30), (.v 31)]
  (.op (.mk 3 1) [(.v 32), (.v 33), (.v 34)]
  (.op (.app 3 48) [(.v 26), (.v 39)]
  (.jump 0 [(.v 35), (.v 36), (.v 37), (.v 38), (.v 40)]))))
 (.letj 4
  (.ite (.v 31)
   (.jump 1 [(.v 28), (.v 29), (.v 30), (.c (.bool true))])
  (.op .lenL [(.v 26)]
  (.op (.bin .gtr false) [(.v 32), (.c (.int .i64 6))]
  (.jump 1 [(.v 28), (.v 29), (.v 30), (.v 33)]))))
 ir69p0)))
def ir69 : IR :=
 (.call 70 7 false [] [(.v 2), (.v 3), (.v 4), (.v 5)]
 (.call 62 7 false [] [(.v 9), (.v 10), (.v 11), (.v 12)]
 (.op (.bin .neq false) [(.v 13), (.v 1)]
 (.ite (.v 20)
  (.ret [(.v 6), (.v 7), (.v 8), (.v 16), (.v 17), (.v 18), (.v 19)])
 (.op (.mk 3 1) [(.v 6), (.v 7), (.v 8)]
 (.loop 5 [(.v 16), (.v 17), (.v 18), (.v 19), (.v 21)] ir69p1))))))
theorem rd69 : readFn T SG sigs 3000 sg69 Tryz.f136 an69 = some ir69 := by kernel_rfl
def an70 : Ann := .z
def ir70 : IR :=
 (.call 62 7 false [] [(.v 0), (.v 1), (.v 2), (.v 3)]
 (.op (.bin .geq false) [(.v 9), (.c (.int .i64 0))]
 (.ite (.v 11)
  (.ret [(.c (.int .i64 0)), (.c (.str [])), (.c (.sl [])), (.v 7), (.v 8), (.v 9), (.v 10)])
 (.call 54 5 false [] [(.c (.str [110, 97, 109, 101])), (.v 7), (.v 8), (.v 9), (.v 10)]
 (.ite (.v 12)
  (.ret [(.c (.int .i64 3)), (.v 5), (.c (.sl [])), (.v 13), (.v 14), (.v 15), (.v 16)])
 (.call 54 5 false [] [(.c (.str [48])), (.v 13), (.v 14), (.v 15), (.v 16)]
 (.ite (.v 17)
  (.ret [(.c (.int .i64 2)), (.c (.str [])), (.c (.sl [])), (.v 18), (.v 19), (.v 20), (.v 21)])
 (.call 54 5 false [] [(.c (.str [49])), (.v 18), (.v 19), (.v 20), (.v 21)]
 (.ite (.v 22)
  (.ret [(.c (.int .i64 1)), (.c (.str [])), (.c (.sl [])), (.v 23), (.v 24), (.v 25), (.v 26)])
 (.call 54 5 false [] [(.c (.str [126])), (.v 23), (.v 24), (.v 25), (.v 26)]
 (.ite (.v 27)
  (.call 70 7 false [] [(.v 28), (.v 29), (.v 30), (.v 31)]
  (.op (.mk 3 1) [(.v 32), (.v 33), (.v 34)]
  (.ret [(.c (.int .i64 4)), (.c (.str [])), (.v 39), (.v 35), (.v 36), (.v 37), (.v 38)])))
 (.call 54 5 false [] [(.c (.str [40])), (.v 28), (.v 29), (.v 30), (.v 31)]
 (.ite (.v 32)
  (.call 53 7 false [] [(.v 33), (.v 34), (.v 35), (.v 36)]
  (.call 54 5 false [] [(.c (.str [41])), (.v 40), (.v 41), (.v 42), (.v 43)]
  (.op (.un .not) [(.v 44)]
  (.ite (.v 49)
   (.call 55 7 false [] [(.v 45), (.v 46), (.v 47), (.v 48)]
   (.ret [(.v 50), (.v 51), (.v 52), (.v 53), (.v 54), (.v 55), (.v 56)]))
  (.ret [(.v 37), (.v 38), (.v 39), (.v 45), (.v 46), (.v 47), (.v 48)])))))
 (.call 55 7 false [] [(.v 33), (.v 34), (.v 35), (.v 36)]
 (.ret [(.v 37), (.v 38), (.v 39), (.v 40), (.v 41), (.v 42), (.v 43)])))))))))))))))
theorem rd70 : readFn T SG sigs 3000 sg70 Tryz.f140 an70 = some ir70 := by kernel_rfl
end Go.Proofs.YtefkehflmlikmaaGreatDoor

/- Plain programs of the functions of the program and lemmas about what they compute. -/
import Derived.Test.YtefkehflmlikmaaGreatDoorAmSe21
import Derived.Test.YtefkehflmlikmaaGreatDoorProg
import Derived.KernelRfl
set_option linter.unusedSimpArgs false
set_option linter.unusedVariables false
set_option linter.unusedSectionVars false
namespace Go.Proofs.YtefkehflmlikmaaGreatDoor
open Go Am
set_option maxRecDepth 100000
abbrev fnD (f : Nat) : D := .raw (.func (.func f) #[] #[])
def T : Tab := [
 (3, ⟨1, 8, true, true, false, none, none, (some .i64), false, false, (some (.int .i64 0)), [], none⟩),
 (4, ⟨1, 1, true, true, false, none, none, none, false, true, (some (.bool false)), [], none⟩),
 (5, ⟨1, 1, true, true, false, none, none, (some .u8), false, false, (some (.int .u8 0)), [], none⟩),
 (9, ⟨1, 16, true, true, false, none, none, none, true, false, (some (.string ⟨⟨[]⟩⟩)), [], none⟩),
 (22, ⟨1, 24, true, true, false, (some 9), none, none, false, false, (some (.slice none 0 0)), [], none⟩),
 (23, ⟨1, 24, true, true, false, (some 3), none, none, false, false, (some (.slice none 0 0)), [], none⟩),
 (24, ⟨1, 8, true, true, false, none, none, (some .u64), false, false, (some (.int .u64 0)), [], none⟩),
 (25, ⟨1, 24, true, true, false, (some 27), none, none, false, false, (some (.slice none 0 0)), [], none⟩),
 (27, ⟨3, 48, true, true, true, none, none, none, false, false, (some (.agg #[(.int .i64 0), (.string ⟨⟨[]⟩⟩), (.slice none 0 0)])), [(0, 3), (1, 9), (2, 25)], (some [(0, 1), (1, 1), (2, 1)])⟩),
 (28, ⟨1, 8, true, true, false, none, none, none, false, false, (some .nilFunc), [], none⟩),
 (30, ⟨1, 8, true, true, false, none, none, none, false, false, (some (.pointer none)), [], none⟩),
 (35, ⟨1, 24, true, true, false, (some 22), none, none, false, false, (some (.slice none 0 0)), [], none⟩),
 (37, ⟨1, 24, true, true, false, (some 24), none, none, false, false, (some (.slice none 0 0)), [], none⟩),
 (38, ⟨1, 8, true, true, false, none, none, (some .u64), false, false, (some (.int .u64 0)), [], none⟩),
 (39, ⟨1, 8, true, true, false, none, none, (some .i64), false, false, (some (.int .i64 0)), [], none⟩),
 (55, ⟨2, 32, true, true, true, none, none, none, false, false, (some (.agg #[(.slice none 0 0), (.int .i64 0)])), [(0, 23), (1, 3)], (some [(0, 1), (1, 1)])⟩),
 (59, ⟨1, 24, true, true, false, (some 5), none, none, false, false, (some (.slice none 0 0)), [], none⟩),
 (60, ⟨1, 8, true, true, false, none, none, none, false, false, (some .nilFunc), [], none⟩),
 (123, ⟨64, 64, true, true, true, none, (some (64, 5)), none, false, false, (some (.agg #[(.int .u8 0), (.int .u8 0), (.int .u8 0), (.int .u8 0), (.int .u8 0), (.int .u8 0), (.int .u8 0), (.int .u8 0), (.int .u8 0), (.int .u8 0), (.int .u8 0), (.int .u8 0), (.int .u8 0), (.int .u8 0), (.int .u8 0), (.int .u8 0), (.int .u8 0), (.int .u8 0), (.int .u8 0), (.int .u8 0), (.int .u8 0), (.int .u8 0), (.int .u8 0), (.int .u8 0), (.int .u8 0), (.int .u8 0), (.int .u8 0), (.int .u8 0), (.int .u8 0), (.int .u8 0), (.int .u8 0), (.int .u8 0), (.int .u8 0), (.int .u8 0), (.int .u8 0), (.int .u8 0), (.int .u8 0), (.int .u8 0), (.int .u8 0), (.int .u8 0), (.int .u8 0), (.int .u8 0), (.int .u8 0), (.int .u8 0), (.int .u8 0), (.int .u8 0), (.int .u8 0), (.int .u8 0), (.int .u8 0), (.int .u8 0), (.int .u8 0), (.int .u8 0), (.int .u8 0), (.int .u8 0), (.int .u8 0), (.int .u8 0), (.int .u8 0), (.int .u8 0), (.int .u8 0), (.int .u8 0), (.int .u8 0), (.int .u8 0), (.int .u8 0), (.int .u8 0)])), [], none⟩)]
theorem tok : TOK Tryz.prog T := tok_of (by kernel_rfl)
def SG : SGlob := []
def sg0 : Sig := ⟨3, 9, [], [(.atm (.v 0)), (.atm (.v 1)), (.atm (.v 2)), (.agg [(.atm (.v 3)), (.atm (.v 4)), (.atm (.v 5))]), (.atm (.v 6)), (.atm (.v 7)), (.atm (.v 8))], 1, [], (.atm (.v 0)), false, []⟩
def sg1 : Sig := ⟨5, 3, [], [(.agg [(.atm (.v 0)), (.atm (.v 1)), (.atm (.v 2))])], 1, [], (.atm (.v 0)), false, []⟩
def sg2 : Sig := ⟨6, 0, [], [], 1, [], (.atm (.v 0)), false, []⟩
def sg3 : Sig := ⟨7, 1, [], [(.atm (.v 0))], 2, [⟨false, false, 55, 2, (.c (.sl [])), [[(.atm (.v 0)), (.atm (.v 1))]]⟩], (.ptr 0 0 0), false, []⟩
def sg4 : Sig := ⟨8, 4, [⟨false, false, 55, 2, (.c (.sl [])), [[(.atm (.v 2)), (.atm (.v 3))]]⟩], [(.ptr 0 0 0), (.atm (.v 0)), (.atm (.v 1))], 3, [⟨false, false, 55, 2, (.c (.sl [])), [[(.atm (.v 1)), (.atm (.v 2))]]⟩], (.atm (.v 0)), false, []⟩
def sg5 : Sig := ⟨9, 2, [], [(.atm (.v 0)), (.atm (.v 1))], 1, [], (.atm (.v 0)), false, []⟩
def sg6 : Sig := ⟨10, 2, [], [(.atm (.v 0)), (.atm (.v 1))], 1, [], (.atm (.v 0)), false, []⟩
def sg7 : Sig := ⟨11, 3, [⟨false, false, 55, 2, (.c (.sl [])), [[(.atm (.v 1)), (.atm (.v 2))]]⟩], [(.ptr 0 0 0), (.atm (.v 0))], 3, [⟨false, false, 55, 2, (.c (.sl [])), [[(.atm (.v 1)), (.atm (.v 2))]]⟩], (.atm (.v 0)), false, []⟩
def sg8 : Sig := ⟨12, 1, [], [(.atm (.v 0))], 1, [], (.atm (.v 0)), true, []⟩
def sg9 : Sig := ⟨13, 2, [⟨false, false, 55, 2, (.c (.sl [])), [[(.atm (.v 0)), (.atm (.v 1))]]⟩], [(.ptr 0 0 0)], 3, [⟨false, false, 55, 2, (.c (.sl [])), [[(.atm (.v 1)), (.atm (.v 2))]]⟩], (.atm (.v 0)), false, []⟩
def sg10 : Sig := ⟨14, 4, [], [(.atm (.v 0)), (.atm (.v 1)), (.atm (.v 2)), (.atm (.v 3))], 2, [], (.tup [(.atm (.v 0)), (.atm (.v 1))]), false, []⟩
def sg11 : Sig := ⟨15, 4, [], [(.atm (.v 0)), (.atm (.v 1)), (.atm (.v 2)), (.atm (.v 3))], 2, [], (.tup [(.atm (.v 0)), (.atm (.v 1))]), false, []⟩
def sg12 : Sig := ⟨16, 4, [⟨false, false, 55, 2, (.c (.sl [])), [[(.atm (.v 2)), (.atm (.v 3))]]⟩], [(.ptr 0 0 0), (.atm (.v 0)), (.atm (.v 1))], 5, [⟨false, false, 55, 2, (.c (.sl [])), [[(.atm (.v 3)), (.atm (.v 4))]]⟩], (.agg [(.atm (.v 0)), (.atm (.v 1)), (.atm (.v 2))]), true, []⟩
def sg13 : Sig := ⟨17, 6, [], [(.atm (.v 0)), (.atm (.v 1)), (.agg [(.atm (.v 2)), (.atm (.v 3)), (.atm (.v 4))]), (.atm (.v 5))], 2, [], (.tup [(.atm (.v 0)), (.atm (.v 1))]), false, []⟩
def sg14 : Sig := ⟨18, 6, [], [(.atm (.v 0)), (.atm (.v 1)), (.agg [(.atm (.v 2)), (.atm (.v 3)), (.atm (.v 4))]), (.atm (.v 5))], 2, [], (.tup [(.atm (.v 0)), (.atm (.v 1))]), false, []⟩
def sg15 : Sig := ⟨19, 6, [], [(.atm (.v 0)), (.atm (.v 1)), (.agg [(.atm (.v 2)), (.atm (.v 3)), (.atm (.v 4))]), (.atm (.v 5))], 2, [], (.tup [(.atm (.v 0)), (.atm (.v 1))]), false, []⟩
def sg16 : Sig := ⟨20, 6, [], [(.atm (.v 0)), (.atm (.v 1)), (.agg [(.atm (.v 2)), (.atm (.v 3)), (.atm (.v 4))]), (.atm (.v 5))], 2, [], (.tup [(.atm (.v 0)), (.atm (.v 1))]), false, []⟩
def sg17 : Sig := ⟨22, 4, [], [(.agg [(.atm (.v 0)), (.atm (.v 1)), (.atm (.v 2))]), (.atm (.v 3))], 1, [], (.atm (.v 0)), false, []⟩
def sg18 : Sig := ⟨30, 4, [], [(.agg [(.atm (.v 0)), (.atm (.v 1)), (.atm (.v 2))]), (.atm (.v 3))], 1, [], (.atm (.v 0)), false, []⟩
def sg19 : Sig := ⟨31, 3, [], [(.agg [(.atm (.v 0)), (.atm (.v 1)), (.atm (.v 2))])], 1, [], (.atm (.v 0)), false, []⟩
def sg20 : Sig := ⟨32, 2, [], [(.atm (.v 0)), (.atm (.v 1))], 3, [], (.agg [(.atm (.v 0)), (.atm (.v 1)), (.atm (.v 2))]), true, []⟩
def sg21 : Sig := ⟨34, 2, [], [(.atm (.v 0)), (.atm (.v 1))], 1, [], (.atm (.v 0)), false, []⟩
def sg22 : Sig := ⟨33, 1, [], [(.atm (.v 0))], 1, [], (.atm (.v 0)), false, []⟩
def sg23 : Sig := ⟨36, 2, [⟨false, false, 55, 2, (.c (.sl [])), [[(.atm (.v 0)), (.atm (.v 1))]]⟩], [(.ptr 0 0 0)], 3, [⟨false, false, 55, 2, (.c (.sl [])), [[(.atm (.v 1)), (.atm (.v 2))]]⟩], (.atm (.v 0)), false, []⟩
def sg24 : Sig := ⟨35, 2, [], [(.atm (.v 0)), (.atm (.v 1))], 1, [], (.atm (.v 0)), false, []⟩
def sg25 : Sig := ⟨37, 1, [], [(.atm (.v 0))], 1, [], (.atm (.v 0)), false, []⟩
def sg26 : Sig := ⟨38, 1, [], [(.atm (.v 0))], 2, [], (.tup [(.atm (.v 0)), (.atm (.v 1))]), false, []⟩
def sg27 : Sig := ⟨39, 4, [], [(.atm (.v 0)), (.atm (.v 1)), (.atm (.v 2)), (.atm (.v 3))], 1, [], (.atm (.v 0)), false, []⟩
def sg28 : Sig := ⟨40, 1, [], [(.atm (.v 0))], 1, [], (.atm (.v 0)), false, []⟩
def sg29 : Sig := ⟨41, 1, [], [(.atm (.v 0))], 1, [], (.atm (.v 0)), false, []⟩
def sg30 : Sig := ⟨42, 4, [], [(.atm (.v 0)), (.atm (.v 1)), (.atm (.v 2)), (.atm (.v 3))], 1, [], (.atm (.v 0)), false, []⟩
def sg31 : Sig := ⟨43, 5, [], [(.atm (.v 0)), (.agg [(.atm (.v 1)), (.atm (.v 2)), (.atm (.v 3))]), (.atm (.v 4))], 2, [], (.tup [(.atm (.v 0)), (.atm (.v 1))]), false, []⟩
def sg32 : Sig := ⟨44, 4, [], [(.atm (.v 0)), (.atm (.v 1)), (.atm (.v 2)), (.atm (.v 3))], 1, [], (.atm (.v 0)), false, []⟩
def sg33 : Sig := ⟨45, 5, [], [(.atm (.v 0)), (.agg [(.atm (.v 1)), (.atm (.v 2)), (.atm (.v 3))]), (.atm (.v 4))], 2, [], (.tup [(.atm (.v 0)), (.atm (.v 1))]), false, []⟩
def sg34 : Sig := ⟨46, 4, [], [(.atm (.v 0)), (.atm (.v 1)), (.atm (.v 2)), (.atm (.v 3))], 1, [], (.atm (.v 0)), false, []⟩
def sg35 : Sig := ⟨47, 1, [], [(.atm (.v 0))], 1, [], (.atm (.v 0)), false, []⟩
def sg36 : Sig := ⟨48, 1, [], [(.atm (.v 0))], 1, [], (.atm (.v 0)), false, []⟩
def sg37 : Sig := ⟨65, 2, [], [(.atm (.v 0)), (.atm (.v 1))], 4, [], (.tup [(.agg [(.atm (.v 0)), (.atm (.v 1)), (.atm (.v 2))]), (.atm (.v 3))]), true, []⟩
def sg38 : Sig := ⟨66, 1, [], [(.atm (.v 0))], 1, [], (.atm (.v 0)), false, []⟩
def sg39 : Sig := ⟨70, 2, [], [(.atm (.v 0)), (.atm (.v 1))], 1, [], (.atm (.v 0)), true, []⟩
def sg40 : Sig := ⟨67, 2, [], [(.atm (.v 0)), (.atm (.v 1))], 1, [], (.atm (.v 0)), false, []⟩
def sg41 : Sig := ⟨68, 2, [], [(.atm (.v 0)), (.atm (.v 1))], 1, [], (.atm (.v 0)), false, []⟩
def sg42 : Sig := ⟨69, 2, [], [(.atm (.v 0)), (.atm (.v 1))], 1, [], (.atm (.v 0)), false, []⟩
def sg43 : Sig := ⟨71, 1, [], [(.atm (.v 0))], 1, [], (.atm (.v 0)), false, []⟩
def sg44 : Sig := ⟨72, 2, [], [(.atm (.v 0)), (.atm (.v 1))], 1, [], (.atm (.v 0)), false, []⟩
def sg45 : Sig := ⟨73, 4, [], [(.atm (.v 0)), (.atm (.v 1)), (.atm (.v 2)), (.atm (.v 3))], 1, [], (.atm (.v 0)), false, []⟩
def sg46 : Sig := ⟨25, 4, [], [(.atm (.v 0)), (.agg [(.atm (.v 1)), (.atm (.v 2)), (.atm (.v 3))])], 2, [], (.tup [(.atm (.v 0)), (.atm (.v 1))]), false, []⟩
def sg47 : Sig := ⟨26, 4, [], [(.atm (.v 0)), (.agg [(.atm (.v 1)), (.atm (.v 2)), (.atm (.v 3))])], 2, [], (.tup [(.atm (.v 0)), (.atm (.v 1))]), false, []⟩
def sg48 : Sig := ⟨74, 1, [], [(.atm (.v 0))], 1, [], (.atm (.v 0)), false, []⟩
def sg49 : Sig := ⟨57, 1, [], [(.atm (.v 0))], 1, [], (.atm (.v 0)), false, []⟩
def sg50 : Sig := ⟨98, 2, [], [(.atm (.v 0)), (.atm (.v 1))], 3, [], (.agg [(.atm (.v 0)), (.atm (.v 1)), (.atm (.v 2))]), true, []⟩
def sg51 : Sig := ⟨99, 1, [], [(.atm (.v 0))], 1, [], (.atm (.v 0)), false, []⟩
def sg52 : Sig := ⟨50, 3, [], [(.agg [(.atm (.v 0)), (.atm (.v 1)), (.atm (.v 2))])], 1, [], (.atm (.v 0)), false, []⟩
def sg53 : Sig := ⟨51, 3, [], [(.agg [(.atm (.v 0)), (.atm (.v 1)), (.atm (.v 2))])], 1, [], (.atm (.v 0)), true, []⟩
def sg54 : Sig := ⟨52, 2, [], [(.atm (.v 0)), (.atm (.v 1))], 1, [], (.atm (.v 0)), false, []⟩
def sg55 : Sig := ⟨53, 4, [], [(.atm (.v 0)), (.agg [(.atm (.v 1)), (.atm (.v 2)), (.atm (.v 3))])], 1, [], (.atm (.v 0)), false, []⟩
def sg56 : Sig := ⟨54, 3, [], [(.agg [(.atm (.v 0)), (.atm (.v 1)), (.atm (.v 2))])], 1, [], (.atm (.v 0)), false, []⟩
def sg57 : Sig := ⟨55, 3, [], [(.agg [(.atm (.v 0)), (.atm (.v 1)), (.atm (.v 2))])], 1, [], (.atm (.v 0)), true, []⟩
def sg58 : Sig := ⟨56, 2, [], [(.atm (.v 0)), (.atm (.v 1))], 1, [], (.atm (.v 0)), false, []⟩
def sg59 : Sig := ⟨59, 2, [], [(.atm (.v 0)), (.atm (.v 1))], 1, [], (.atm (.v 0)), true, []⟩
def sg60 : Sig := ⟨58, 4, [], [(.agg [(.atm (.v 0)), (.atm (.v 1)), (.atm (.v 2))]), (.atm (.v 3))], 1, [], (.atm (.v 0)), false, []⟩
def sg61 : Sig := ⟨112, 3, [], [(.atm (.v 0)), (.atm (.v 1)), (.atm (.v 2))], 1, [], (.atm (.v 0)), false, []⟩
def sg62 : Sig := ⟨113, 6, [], [(.agg [(.atm (.v 0)), (.atm (.v 1)), (.atm (.v 2))]), (.agg [(.atm (.v 3)), (.atm (.v 4)), (.atm (.v 5))])], 1, [], (.atm (.v 0)), false, []⟩
def sg63 : Sig := ⟨114, 7, [], [(.atm (.v 0)), (.agg [(.atm (.v 1)), (.atm (.v 2)), (.atm (.v 3))]), (.agg [(.atm (.v 4)), (.atm (.v 5)), (.atm (.v 6))])], 3, [], (.agg [(.atm (.v 0)), (.atm (.v 1)), (.atm (.v 2))]), true, []⟩
def sg64 : Sig := ⟨75, 3, [], [(.agg [(.atm (.v 0)), (.atm (.v 1)), (.atm (.v 2))])], 1, [], (.atm (.v 0)), false, []⟩
def sg65 : Sig := ⟨76, 3, [], [(.agg [(.atm (.v 0)), (.atm (.v 1)), (.atm (.v 2))])], 1, [], (.atm (.v 0)), false, []⟩
def sg66 : Sig := ⟨77, 3, [], [(.agg [(.atm (.v 0)), (.atm (.v 1)), (.atm (.v 2))]), (.atm (.c (fnD 78)))], 1, [], (.atm (.v 0)), false, []⟩
def sg67 : Sig := ⟨77, 3, [], [(.agg [(.atm (.v 0)), (.atm (.v 1)), (.atm (.v 2))]), (.atm (.c (fnD 79)))], 1, [], (.atm (.v 0)), false, []⟩
def sg68 : Sig := ⟨83, 2, [], [(.atm (.v 0)), (.atm (.v 1))], 1, [], (.atm (.v 0)), false, []⟩
def sg69 : Sig := ⟨84, 1, [], [(.atm (.v 0))], 1, [], (.atm (.v 0)), false, []⟩
def sg70 : Sig := ⟨85, 3, [], [(.agg [(.atm (.v 0)), (.atm (.v 1)), (.atm (.v 2))])], 1, [], (.atm (.v 0)), false, []⟩
def sg71 : Sig := ⟨86, 3, [], [(.agg [(.atm (.v 0)), (.atm (.v 1)), (.atm (.v 2))])], 1, [], (.atm (.v 0)), false, []⟩
def sg72 : Sig := ⟨87, 3, [], [(.agg [(.atm (.v 0)), (.atm (.v 1)), (.atm (.v 2))])], 1, [], (.atm (.v 0)), false, []⟩
def sg73 : Sig := ⟨88, 3, [], [(.agg [(.atm (.v 0)), (.atm (.v 1)), (.atm (.v 2))])], 1, [], (.atm (.v 0)), false, []⟩
def sg74 : Sig := ⟨89, 4, [], [(.atm (.v 0)), (.agg [(.atm (.v 1)), (.atm (.v 2)), (.atm (.v 3))])], 1, [], (.atm (.v 0)), true, []⟩
def sg75 : Sig := ⟨90, 4, [], [(.agg [(.atm (.v 0)), (.atm (.v 1)), (.atm (.v 2))]), (.atm (.v 3))], 1, [], (.atm (.v 0)), false, []⟩
def sg76 : Sig := ⟨129, 2, [], [(.atm (.v 0)), (.atm (.v 1))], 1, [], (.atm (.v 0)), false, []⟩
def sg77 : Sig := ⟨78, 3, [], [(.agg [(.atm (.v 0)), (.atm (.v 1)), (.atm (.v 2))])], 1, [], (.atm (.v 0)), false, []⟩
def sg78 : Sig := ⟨79, 3, [], [(.agg [(.atm (.v 0)), (.atm (.v 1)), (.atm (.v 2))])], 1, [], (.atm (.v 0)), false, []⟩
def sg79 : Sig := ⟨103, 2, [], [(.atm (.v 0)), (.atm (.v 1))], 1, [], (.atm (.v 0)), true, []⟩
def sigs : List Sig := [sg0, sg1, sg2, sg3, sg4, sg5, sg6, sg7, sg8, sg9, sg10, sg11, sg12, sg13, sg14, sg15, sg16, sg17, sg18, sg19, sg20, sg21, sg22, sg23, sg24, sg25, sg26, sg27, sg28, sg29, sg30, sg31, sg32, sg33, sg34, sg35, sg36, sg37, sg38, sg39, sg40, sg41, sg42, sg43, sg44, sg45, sg46, sg47, sg48, sg49, sg50, sg51, sg52, sg53, sg54, sg55, sg56, sg57, sg58, sg59, sg60, sg61, sg62, sg63, sg64, sg65, sg66, sg67, sg68, sg69, sg70, sg71, sg72, sg73, sg74, sg75, sg76, sg77, sg78, sg79]
def an0 : Ann := (.s none .z (.s none (.s (some ⟨1, [(3, .junk), (14, .junk), (47, (.atm (.v 0)))], [], 1, []⟩) .z .z) (.s none .z (.s none .z (.s none (.s (some ⟨3, [(1, .junk), (5, .junk), (47, .junk), (49, .junk), (50, .junk), (51, .junk), (52, .junk), (67, (.atm (.v 0)))], [(1, ⟨false, false, 55, 2, (.c (.sl [])), [[(.atm (.v 1)), (.atm (.v 2))]]⟩)], 2, []⟩) .z .z) (.s none (.s none .z (.b (.l ⟨3, [(0, .junk), (67, .junk), (68, .junk), (69, .junk), (70, .junk), (73, (.atm (.v 0)))], [(1, ⟨false, false, 55, 2, (.c (.sl [])), [[(.atm (.v 1)), (.atm (.v 2))]]⟩)], 3, []⟩ (.s none .z (.s none .z (.s none (.b (.s none .z (.s none .z (.b (.l ⟨3, [(74, .junk), (75, .junk), (76, .junk), (77, .junk), (78, .junk), (79, .junk), (82, (.atm (.v 0)))], [(1, ⟨false, false, 55, 2, (.c (.sl [])), [[(.atm (.v 1)), (.atm (.v 2))]]⟩)], 4, []⟩ (.s none .z (.s none .z (.s none (.b (.s none .z (.s none .z (.b (.l ⟨3, [(83, .junk), (84, .junk), (85, .junk), (86, .junk), (87, .junk), (88, .junk), (91, (.atm (.v 0)))], [(1, ⟨false, false, 55, 2, (.c (.sl [])), [[(.atm (.v 1)), (.atm (.v 2))]]⟩)], 5, []⟩ (.s none .z (.s none .z (.s none (.b (.s none .z (.s none .z (.s none (.s none .z (.b (.l ⟨1, [(23, .junk), (92, .junk), (93, .junk), (94, .junk), (95, .junk), (96, .junk), (97, .junk), (98, .junk), (99, .junk), (100, .junk), (101, .junk), (104, (.atm (.v 0)))], [], 6, []⟩ (.s none .z (.s none .z (.s none (.b (.s none .z (.s none .z (.s none .z (.s (some ⟨1, [(25, .junk), (26, .junk), (27, .junk), (28, .junk), (29, .junk), (105, .junk), (106, .junk), (107, .junk), (108, .junk), (109, .junk), (110, .junk), (111, .junk), (112, .junk), (113, .junk), (114, .junk), (115, .junk), (116, .junk), (117, .junk), (118, .junk), (119, .junk), (120, .junk), (121, .junk), (122, .junk), (123, .junk), (131, (.atm (.v 0)))], [], 6, []⟩) .z .z))))) .z)))))) (.s none .z (.b (.l ⟨1, [(102, .junk), (103, .junk), (104, .junk), (105, .junk), (133, .junk), (134, .junk), (135, .junk), (136, .junk), (137, .junk), (140, (.atm (.v 0)))], [], 12, []⟩ (.s none .z (.s none .z (.s none (.b (.s none .z (.s none .z (.s none .z (.s none .z (.s none .z (.s (some ⟨1, [(31, .junk), (32, .junk), (33, .junk), (34, .junk), (35, .junk), (36, .junk), (37, .junk), (38, .junk), (39, .junk), (141, .junk), (142, .junk), (143, .junk), (144, .junk), (145, .junk), (146, .junk), (147, .junk), (148, .junk), (149, .junk), (150, .junk), (151, .junk), (152, .junk), (153, .junk), (154, .junk), (155, .junk), (156, .junk), (157, .junk), (158, .junk), (159, .junk), (160, .junk), (161, .junk), (162, .junk), (163, .junk), (164, .junk), (165, .junk), (166, .junk), (167, .junk), (168, .junk), (169, .junk), (170, .junk), (171, .junk), (172, .junk), (173, .junk), (174, .junk), (175, .junk), (193, (.atm (.v 0)))], [], 13, []⟩) .z .z))))))) .z)))))))))) .z)))))))) .z)))))))) .z)))))) .z))))))
def ir0p0 : IR :=
 (.ite (.v 60)
  (.ret [(.c (.bool false))])
 (.op (.bin .add false) [(.v 53), (.c (.int .i64 1))]
 (.jump 3 [(.v 61)])))
def ir0p1 : IR :=
 (.ite (.v 76)
  (.ret [(.c (.bool false))])
 (.op (.bin .add false) [(.v 63), (.c (.int .i64 1))]
 (.jump 4 [(.v 77)])))
def ir0p2 : IR :=
 (.op (.bin .lss false) [(.v 63), (.v 62)]
 (.ite (.v 64)
  (.op .chk [(.v 61), (.v 63)]
  (.op (.get 0 3) [(.v 61), (.v 63)]
  (.call 13 2 false [] [(.v 25), (.v 45), (.v 65), (.v 66), (.v 67), (.v 35)]
  (.call 14 2 false [] [(.v 25), (.v 45), (.v 65), (.v 66), (.v 67), (.v 35)]
  (.call 15 2 false [] [(.v 25), (.v 45), (.v 65), (.v 66), (.v 67), (.v 35)]
  (.call 16 2 false [] [(.v 25), (.v 45), (.v 65), (.v 66), (.v 67), (.v 35)]
  (.letj 1
   (.op (.bin .neq false) [(.v 68), (.v 70)]
   (.ite (.v 76)
    (.jump 5 [(.c (.bool true))])
   (.op (.bin .neq false) [(.v 69), (.v 71)]
   (.ite (.v 77)
    (.jump 5 [(.c (.bool true))])
   (.op (.bin .neq false) [(.v 72), (.v 74)]
   (.ite (.v 78)
    (.jump 5 [(.c (.bool true))])
   (.op (.bin .neq false) [(.v 73), (.v 75)]
   (.jump 5 [(.v 79)]))))))))
  ir0p1)))))))
 (.op (.bin .add false) [(.v 41), (.c (.int .i64 1))]
 (.jump 2 [(.v 65), (.v 59), (.v 60)]))))
def ir0p3 : IR :=
 (.op (.bin .lss false) [(.v 53), (.v 52)]
 (.ite (.v 54)
  (.op .chk [(.v 51), (.v 53)]
  (.op (.get 0 1) [(.v 51), (.v 53)]
  (.call 10 2 false [] [(.v 25), (.v 55), (.v 45), (.v 35)]
  (.call 11 2 false [] [(.v 25), (.v 55), (.v 45), (.v 35)]
  (.letj 1
   (.op (.bin .neq false) [(.v 56), (.v 58)]
   (.ite (.v 60)
    (.jump 4 [(.c (.bool true))])
   (.op (.bin .neq false) [(.v 57), (.v 59)]
   (.jump 4 [(.v 61)]))))
  ir0p0)))))
 (.op .max [(.v 12), (.c (.int .i64 1))]
 (.call 12 5 false [] [(.v 55), (.c (.int .i64 3)), (.v 49), (.v 50)]
 (.op (.mk 3 2) [(.v 3), (.v 4), (.v 5), (.v 56), (.v 57), (.v 58)]
 (.op .lenL [(.v 61)]
 (.loop 1 [(.c (.int .i64 0))] ir0p2)))))))
def ir0p4 : IR :=
 (.op (.bin .lss false) [(.v 41), (.v 40)]
 (.ite (.v 44)
  (.op .chk [(.v 39), (.v 41)]
  (.op (.get 0 1) [(.v 39), (.v 41)]
  (.op (.conv .u64) [(.v 12)]
  (.op (.bin .shl false) [(.c (.int .i64 1)), (.v 46)]
  (.call 7 3 false [] [(.v 47), (.v 42), (.v 43)]
  (.op (.mk 1 2) [(.v 6), (.v 48)]
  (.op .lenL [(.v 51)]
  (.loop 1 [(.c (.int .i64 0))] ir0p3))))))))
 (.op (.bin .add false) [(.v 31), (.c (.int .i64 1))]
 (.jump 1 [(.v 45), (.v 42), (.v 43)]))))
def ir0p5 : IR :=
 (.op (.bin .lss false) [(.v 31), (.v 30)]
 (.ite (.v 34)
  (.op .chk [(.v 29), (.v 31)]
  (.op (.get 0 1) [(.v 29), (.v 31)]
  (.call 9 3 false [] [(.v 32), (.v 33)]
  (.op (.mk 1 2) [(.v 2), (.v 36)]
  (.op .lenL [(.v 39)]
  (.loop 3 [(.c (.int .i64 0)), (.v 37), (.v 38)] ir0p4))))))
 (.op (.bin .add false) [(.v 21), (.c (.int .i64 1))]
 (.jump 0 [(.v 35), (.v 32), (.v 33)]))))
def ir0p6 : IR :=
 (.op (.bin .lss false) [(.v 21), (.v 20)]
 (.ite (.v 24)
  (.op .chk [(.v 19), (.v 21)]
  (.op (.get 0 1) [(.v 19), (.v 21)]
  (.call 4 3 false [] [(.c (.int .i64 1)), (.c (.int .i64 3)), (.v 22), (.v 23)]
  (.op (.mk 1 2) [(.v 8), (.v 26)]
  (.op .lenL [(.v 29)]
  (.loop 3 [(.c (.int .i64 0)), (.v 27), (.v 28)] ir0p5))))))
 (.call 2 1 false [] []
 (.ret [(.v 25)]))))
def ir0p7 : IR :=
 (.ite (.v 15)
  (.ret [(.c (.bool false))])
 (.call 8 1 false [] [(.v 12)]
 (.op (.mk 1 2) [(.v 0), (.v 18)]
 (.op .lenL [(.v 19)]
 (.loop 3 [(.c (.int .i64 0)), (.v 16), (.v 17)] ir0p6)))))
def ir0p8 : IR :=
 (.ite (.v 9)
  (.call 2 1 false [] []
  (.ret [(.v 10)]))
 (.call 3 2 false [] [(.v 1)]
 (.call 4 3 false [] [(.c (.int .i64 0)), (.c (.int .i64 3)), (.v 10), (.v 11)]
 (.letj 3
  (.call 5 1 false [] [(.v 6), (.v 7)]
  (.call 6 1 false [] [(.v 6), (.v 7)]
  (.op (.bin .neq false) [(.v 15), (.v 16)]
  (.ite (.v 17)
   (.jump 0 [(.c (.bool true)), (.v 13), (.v 14)])
  (.call 7 3 false [] [(.c (.int .i64 64)), (.v 13), (.v 14)]
  (.call 7 3 false [] [(.c (.int .i64 64)), (.v 19), (.v 20)]
  (.call 5 1 false [] [(.v 18), (.v 21)]
  (.op (.bin .lss false) [(.v 24), (.c (.int .i64 0))]
  (.jump 0 [(.v 25), (.v 22), (.v 23)])))))))))
 ir0p7))))
def ir0 : IR :=
 (.letj 1
  (.op .lenL [(.v 0)]
  (.op (.bin .gtr false) [(.v 9), (.c (.int .i64 10))]
  (.ite (.v 10)
   (.jump 0 [(.c (.bool true))])
  (.call 1 1 false [] [(.v 3), (.v 4), (.v 5)]
  (.op (.un .not) [(.v 11)]
  (.jump 0 [(.v 12)]))))))
 ir0p8)
theorem rd0 : readFn T SG sigs 3000 sg0 Tryz.f3 an0 = some ir0 := by kernel_rfl
def an1 : Ann := .z
def ir1 : IR :=
 (.call 17 1 false [] [(.v 0), (.v 1), (.v 2), (.c (.int .i64 800))]
 (.op (.bin .leq false) [(.v 3), (.c (.int .i64 800))]
 (.ite (.v 4)
  (.call 18 1 false [] [(.v 0), (.v 1), (.v 2), (.c (.int .i64 30))]
  (.op (.bin .leq false) [(.v 5), (.c (.int .i64 30))]
  (.ite (.v 6)
   (.call 19 1 false [] [(.v 0), (.v 1), (.v 2)]
   (.ret [(.v 7)]))
  (.ret [(.c (.bool false))]))))
 (.ret [(.c (.bool false))]))))
theorem rd1 : readFn T SG sigs 3000 sg1 Tryz.f5 an1 = some ir1 := by kernel_rfl
def an2 : Ann := .z
def ir2 : IR :=
 (.call 8 1 false [] [(.c (.int .i64 2))]
 (.call 20 3 false [] [(.c (.int .i64 2)), (.c (.int .u64 10))]
 (.call 13 2 false [] [(.v 0), (.c (.int .u64 9)), (.v 1), (.v 2), (.v 3), (.c (.int .i64 1))]
 (.call 8 1 false [] [(.c (.int .i64 3))]
 (.call 20 3 false [] [(.c (.int .i64 3)), (.c (.int .u64 66))]
 (.call 13 2 false [] [(.v 6), (.c (.int .u64 1)), (.v 7), (.v 8), (.v 9), (.c (.int .i64 1))]
 (.call 8 1 false [] [(.c (.int .i64 3))]
 (.call 20 3 false [] [(.c (.int .i64 3)), (.c (.int .u64 66))]
 (.call 13 2 false [] [(.v 12), (.c (.int .u64 1)), (.v 13), (.v 14), (.v 15), (.c (.int .i64 2))]
 (.op (.bin .eql false) [(.v 5), (.c (.int .i64 0))]
 (.ite (.v 18)
  (.op (.bin .eql false) [(.v 11), (.c (.int .i64 0))]
  (.ite (.v 19)
   (.op (.bin .eql false) [(.v 17), (.c (.int .i64 0))]
   (.ite (.v 20)
    (.op (.bin .eql false) [(.v 4), (.c (.int .u64 10))]
    (.ite (.v 21)
     (.op (.bin .eql false) [(.v 10), (.c (.int .u64 2))]
     (.ite (.v 22)
      (.op (.bin .eql false) [(.v 16), (.c (.int .u64 66))]
      (.ret [(.v 23)]))
     (.ret [(.c (.bool false))])))
    (.ret [(.c (.bool false))])))
   (.ret [(.c (.bool false))])))
  (.ret [(.c (.bool false))])))
 (.ret [(.c (.bool false))]))))))))))))
theorem rd2 : readFn T SG sigs 3000 sg2 Tryz.f6 an2 = some ir2 := by kernel_rfl
def an3 : Ann := .z
def ir3 : IR :=
 (.op .lenL [(.v 0)]
 (.op .min [(.v 1), (.c (.int .i64 2000))]
 (.op (.subL 1) [(.v 0), (.c (.int .i64 0)), (.v 2)]
 (.ret [(.v 3), (.c (.int .i64 0))]))))
theorem rd3 : readFn T SG sigs 3000 sg3 Tryz.f7 an3 = some ir3 := by kernel_rfl
def an4 : Ann := .z
def ir4 : IR :=
 (.op (.bin .sub false) [(.v 1), (.v 0)]
 (.op (.bin .add false) [(.v 4), (.c (.int .i64 1))]
 (.call 7 3 false [] [(.v 5), (.v 2), (.v 3)]
 (.op (.bin .add false) [(.v 0), (.v 6)]
 (.ret [(.v 9), (.v 7), (.v 8)])))))
theorem rd4 : readFn T SG sigs 3000 sg4 Tryz.f8 an4 = some ir4 := by kernel_rfl
def an5 : Ann := .z
def ir5 : IR :=
 (.call 21 1 false [] [(.v 0), (.v 1)]
 (.call 22 1 false [] [(.v 2)]
 (.ret [(.v 3)])))
theorem rd5 : readFn T SG sigs 3000 sg5 Tryz.f9 an5 = some ir5 := by kernel_rfl
def an6 : Ann := (.s none .z (.s none .z (.s none (.s none .z (.b (.l ⟨2, [(4, .junk), (5, (.atm (.v 0))), (6, (.atm (.v 1)))], [], 0, []⟩ (.s none .z (.s (some ⟨1, [(5, (.atm (.v 0))), (7, .junk), (8, .junk)], [], 0, []⟩) .z .z))))) .z)))
def ir6p0 : IR :=
 (.op (.bin .add false) [(.v 3), (.c (.int .i64 1))]
 (.jump 0 [(.v 5), (.v 6)]))
def ir6p1 : IR :=
 (.op (.bin .lss false) [(.v 3), (.c (.int .i64 6))]
 (.ite (.v 4)
  (.letj 1
   (.op (.conv .u64) [(.v 3)]
   (.op (.bin .shr false) [(.v 0), (.v 5)]
   (.op (.bin .and false) [(.v 6), (.c (.int .i64 1))]
   (.op (.conv .u64) [(.v 3)]
   (.op (.bin .shr false) [(.v 1), (.v 8)]
   (.op (.bin .and false) [(.v 9), (.c (.int .i64 1))]
   (.op (.bin .neq false) [(.v 7), (.v 10)]
   (.ite (.v 11)
    (.op (.bin .add false) [(.v 2), (.c (.int .i64 1))]
    (.jump 1 [(.v 12)]))
   (.jump 1 [(.v 2)])))))))))
  ir6p0)
 (.ret [(.v 2)])))
def ir6 : IR :=
 (.loop 2 [(.c (.int .i64 0)), (.c (.int .i64 0))] ir6p1)
theorem rd6 : readFn T SG sigs 3000 sg6 Tryz.f10 an6 = some ir6 := by kernel_rfl
def an7 : Ann := .z
def ir7 : IR :=
 (.call 23 3 false [] [(.v 1), (.v 2)]
 (.call 24 1 false [] [(.v 3), (.v 0)]
 (.ret [(.v 6), (.v 4), (.v 5)])))
theorem rd7 : readFn T SG sigs 3000 sg7 Tryz.f11 an7 = some ir7 := by kernel_rfl
def an8 : Ann := (.s none .z (.s none .z (.s none (.s none .z (.b (.l ⟨2, [(2, .junk), (4, (.atm (.v 0)))], [(0, ⟨false, true, 9, 1, (.v 1), []⟩)], 1, [⟨none, 3, 9, 1⟩]⟩ .z))) .z)))
def ir8p0 : IR :=
 (.op (.bin .lss false) [(.v 1), (.v 0)]
 (.ite (.v 3)
  (.op (.bin .add false) [(.c (.int .i64 97)), (.v 1)]
  (.op (.conv .u8) [(.v 4)]
  (.op (.mk 1 1) [(.v 5)]
  (.op .toS [(.v 6)]
  (.op (.mk 1 1) [(.v 7)]
  (.op (.app 1 16) [(.v 2), (.v 8)]
  (.op (.bin .add false) [(.v 1), (.c (.int .i64 1))]
  (.jump 0 [(.v 10), (.v 9)]))))))))
 (.ret [(.v 2)])))
def ir8 : IR :=
 (.loop 2 [(.c (.int .i64 0)), (.c (.sl []))] ir8p0)
theorem rd8 : readFn T SG sigs 3000 sg8 Tryz.f12 an8 = some ir8 := by kernel_rfl
def an9 : Ann := .z
def ir9 : IR :=
 (.call 7 3 false [] [(.c (.int .i64 4)), (.v 0), (.v 1)]
 (.op (.bin .eql false) [(.v 2), (.c (.int .i64 0))]
 (.ite (.v 5)
  (.call 23 3 false [] [(.v 3), (.v 4)]
  (.op (.conv .u64) [(.v 6)]
  (.ret [(.v 9), (.v 7), (.v 8)])))
 (.op (.bin .eql false) [(.v 2), (.c (.int .i64 1))]
 (.ite (.v 6)
  (.call 23 3 false [] [(.v 3), (.v 4)]
  (.op (.conv .u64) [(.v 7)]
  (.call 23 3 false [] [(.v 8), (.v 9)]
  (.op (.conv .u64) [(.v 11)]
  (.op (.bin .and false) [(.v 10), (.v 14)]
  (.ret [(.v 15), (.v 12), (.v 13)]))))))
 (.op (.bin .eql false) [(.v 2), (.c (.int .i64 2))]
 (.ite (.v 7)
  (.call 7 3 false [] [(.c (.int .i64 64)), (.v 3), (.v 4)]
  (.op (.conv .u64) [(.v 8)]
  (.op (.bin .shl false) [(.c (.int .u64 1)), (.v 11)]
  (.call 7 3 false [] [(.c (.int .i64 64)), (.v 9), (.v 10)]
  (.op (.conv .u64) [(.v 13)]
  (.op (.bin .shl false) [(.c (.int .u64 1)), (.v 16)]
  (.op (.bin .or false) [(.v 12), (.v 17)]
  (.ret [(.v 18), (.v 14), (.v 15)]))))))))
 (.call 23 3 false [] [(.v 3), (.v 4)]
 (.op (.conv .u64) [(.v 8)]
 (.op (.bin .mul false) [(.v 11), (.c (.int .u64 11400714819323198485))]
 (.call 23 3 false [] [(.v 9), (.v 10)]
 (.op (.conv .u64) [(.v 13)]
 (.op (.bin .xor false) [(.v 12), (.v 16)]
 (.ret [(.v 17), (.v 14), (.v 15)]))))))))))))))
theorem rd9 : readFn T SG sigs 3000 sg9 Tryz.f13 an9 = some ir9 := by kernel_rfl
def an10 : Ann := (.s none .z (.s none (.s (some ⟨1, [(8, .junk), (9, .junk), (25, (.atm (.v 0)))], [], 0, []⟩) .z .z) .z))
def ir10p0 : IR :=
 (.ite (.v 4)
  (.ret [(.c (.int .u64 0)), (.c (.int .i64 1))])
 (.call 26 2 false [] [(.v 3)]
 (.op (.un .not) [(.v 6)]
 (.ite (.v 7)
  (.ret [(.c (.int .u64 0)), (.c (.int .i64 4))])
 (.call 27 1 false [] [(.v 0), (.v 1), (.v 2), (.v 5)]
 (.ret [(.v 8), (.c (.int .i64 0))]))))))
def ir10 : IR :=
 (.letj 1
  (.call 25 1 false [] [(.v 0)]
  (.op (.un .not) [(.v 4)]
  (.ite (.v 5)
   (.jump 0 [(.c (.bool true))])
  (.op (.bin .lss false) [(.v 1), (.c (.int .i64 0))]
  (.ite (.v 6)
   (.jump 0 [(.c (.bool true))])
  (.op .lenL [(.v 0)]
  (.op (.bin .shl false) [(.c (.int .i64 1)), (.v 7)]
  (.op (.bin .geq false) [(.v 1), (.v 8)]
  (.jump 0 [(.v 9)])))))))))
 ir10p0)
theorem rd10 : readFn T SG sigs 3000 sg10 Tryz.f14 an10 = some ir10 := by kernel_rfl
def an11 : Ann := (.s none .z (.s none (.s (some ⟨1, [(8, .junk), (9, .junk), (24, (.atm (.v 0)))], [], 0, []⟩) .z .z) .z))
def ir11p0 : IR :=
 (.ite (.v 4)
  (.ret [(.c (.int .u64 0)), (.c (.int .i64 1))])
 (.call 29 1 false [] [(.v 3)]
 (.op (.un .not) [(.v 5)]
 (.ite (.v 6)
  (.ret [(.c (.int .u64 0)), (.c (.int .i64 4))])
 (.op .lenL [(.v 0)]
 (.op (.conv .u64) [(.v 7)]
 (.op (.bin .shl false) [(.c (.int .i64 1)), (.v 8)]
 (.call 30 1 false [] [(.v 9), (.v 1), (.v 2), (.v 3)]
 (.ret [(.v 10), (.c (.int .i64 0))])))))))))
def ir11 : IR :=
 (.letj 1
  (.call 28 1 false [] [(.v 0)]
  (.op (.un .not) [(.v 4)]
  (.ite (.v 5)
   (.jump 0 [(.c (.bool true))])
  (.op (.bin .lss false) [(.v 1), (.c (.int .i64 0))]
  (.ite (.v 6)
   (.jump 0 [(.c (.bool true))])
  (.op .lenL [(.v 0)]
  (.op (.conv .u64) [(.v 7)]
  (.op (.bin .shl false) [(.c (.int .i64 1)), (.v 8)]
  (.op (.bin .geq false) [(.v 1), (.v 9)]
  (.jump 0 [(.v 10)]))))))))))
 ir11p0)
theorem rd11 : readFn T SG sigs 3000 sg11 Tryz.f15 an11 = some ir11 := by kernel_rfl
def an12 : Ann := (.s none .z (.s none .z (.s none (.s (some ⟨1, [(11, .junk), (12, .junk), (18, (.atm (.v 0)))], [], 2, []⟩) .z .z) (.s none .z (.s none .z (.s (some ⟨3, [(7, .junk), (9, (.atm (.v 0))), (18, .junk), (34, .junk), (35, .junk), (36, .junk), (37, .junk), (38, .junk), (39, .junk)], [(0, ⟨false, false, 55, 2, (.c (.sl [])), [[(.atm (.v 1)), (.atm (.v 2))]]⟩)], 4, []⟩) (.s none .z (.b (.s none .z (.c .z (.s (some ⟨1, [(7, .junk), (18, .junk), (34, .junk), (35, .junk), (36, .junk), (37, .junk), (38, .junk), (39, .junk), (40, .junk), (41, .junk), (42, .junk), (43, .junk), (44, (.atm (.v 0)))], [], 4, []⟩) .z .z))))) (.s none (.s none .z (.b (.l ⟨4, [(10, (.atm (.v 0)))], [(0, ⟨false, false, 55, 2, (.c (.sl [])), [[(.atm (.v 1)), (.atm (.v 2))]]⟩), (4, ⟨false, true, 27, 3, (.v 3), []⟩)], 5, [⟨some (3, 0, 2), 0, 27, 3⟩]⟩ .z))) .z)))))))
def ir12p0 : IR :=
 (.op (.bin .lss false) [(.v 14), (.v 11)]
 (.ite (.v 18)
  (.op (.bin .sub false) [(.v 1), (.c (.int .i64 1))]
  (.call 12 5 false [] [(.v 0), (.v 19), (.v 15), (.v 16)]
  (.op (.mk 3 1) [(.v 20), (.v 21), (.v 22)]
  (.op (.app 3 48) [(.v 17), (.v 25)]
  (.op (.bin .add false) [(.v 14), (.c (.int .i64 1))]
  (.jump 0 [(.v 27), (.v 23), (.v 24), (.v 26)]))))))
 (.ret [(.v 10), (.c (.str [])), (.v 17), (.v 15), (.v 16)])))
def ir12p1 : IR :=
 (.loop 4 [(.c (.int .i64 0)), (.v 12), (.v 13), (.c (.sl []))] ir12p0)
def ir12p2 : IR :=
 (.ite (.v 12)
  (.call 7 3 false [] [(.c (.int .i64 2)), (.v 5), (.v 6)]
  (.op (.bin .add false) [(.c (.int .i64 2)), (.v 13)]
  (.jump 0 [(.v 16), (.v 14), (.v 15)])))
 (.jump 0 [(.c (.int .i64 2)), (.v 5), (.v 6)]))
def ir12p3 : IR :=
 (.ite (.v 7)
  (.op (.bin .eql false) [(.v 4), (.c (.int .i64 0))]
  (.ite (.v 8)
   (.call 7 3 false [] [(.c (.int .i64 2)), (.v 5), (.v 6)]
   (.op (.bin .add false) [(.c (.int .i64 1)), (.v 9)]
   (.ret [(.v 12), (.c (.str [])), (.c (.sl [])), (.v 10), (.v 11)])))
  (.call 7 3 false [] [(.v 0), (.v 5), (.v 6)]
  (.op (.bin .add false) [(.c (.int .i64 97)), (.v 9)]
  (.op (.conv .u8) [(.v 12)]
  (.op (.mk 1 1) [(.v 13)]
  (.op .toS [(.v 14)]
  (.ret [(.c (.int .i64 3)), (.v 15), (.c (.sl [])), (.v 10), (.v 11)]))))))))
 (.op (.mk 1 8) [(.c (.int .i64 4)), (.c (.int .i64 4)), (.c (.int .i64 5)), (.c (.int .i64 5)), (.c (.int .i64 6)), (.c (.int .i64 6)), (.c (.int .i64 7)), (.c (.int .i64 8))]
 (.op (.bin .sub false) [(.v 4), (.c (.int .i64 4))]
 (.op .chk [(.v 8), (.v 9)]
 (.op (.get 0 1) [(.v 8), (.v 9)]
 (.letj 3
  (.op (.bin .eql false) [(.v 10), (.c (.int .i64 4))]
  (.ite (.v 11)
   (.jump 0 [(.c (.int .i64 1)), (.v 5), (.v 6)])
  (.letj 1
   (.op (.bin .eql false) [(.v 10), (.c (.int .i64 5))]
   (.ite (.v 12)
    (.jump 1 [(.c (.bool true))])
   (.op (.bin .eql false) [(.v 10), (.c (.int .i64 6))]
   (.jump 1 [(.v 13)]))))
  ir12p2)))
 ir12p1))))))
def ir12 : IR :=
 (.call 7 3 false [] [(.c (.int .i64 12)), (.v 2), (.v 3)]
 (.letj 1
  (.op (.bin .lss false) [(.v 1), (.c (.int .i64 1))]
  (.ite (.v 7)
   (.jump 0 [(.c (.bool true))])
  (.op (.bin .lss false) [(.v 4), (.c (.int .i64 4))]
  (.jump 0 [(.v 8)]))))
 ir12p3))
theorem rd12 : readFn T SG sigs 3000 sg12 Tryz.f16 an12 = some ir12 := by kernel_rfl
def an13 : Ann := .z
def ir13 : IR :=
 (.call 31 2 false [] [(.v 0), (.v 2), (.v 3), (.v 4), (.v 5)]
 (.op (.bin .neq false) [(.v 7), (.c (.int .i64 0))]
 (.ite (.v 8)
  (.ret [(.c (.int .u64 0)), (.v 7)])
 (.call 32 1 false [] [(.v 0), (.v 1), (.v 6), (.v 5)]
 (.ret [(.v 9), (.c (.int .i64 0))])))))
theorem rd13 : readFn T SG sigs 3000 sg13 Tryz.f17 an13 = some ir13 := by kernel_rfl
def an14 : Ann := .z
def ir14 : IR :=
 (.call 33 2 false [] [(.v 0), (.v 2), (.v 3), (.v 4), (.v 5)]
 (.op (.bin .neq false) [(.v 7), (.c (.int .i64 0))]
 (.ite (.v 8)
  (.ret [(.c (.int .u64 0)), (.v 7)])
 (.call 34 1 false [] [(.v 0), (.v 1), (.v 6), (.v 5)]
 (.ret [(.v 9), (.c (.int .i64 0))])))))
theorem rd14 : readFn T SG sigs 3000 sg14 Tryz.f18 an14 = some ir14 := by kernel_rfl
def an15 : Ann := .z
def ir15 : IR :=
 (.call 31 2 false [] [(.v 0), (.v 2), (.v 3), (.v 4), (.v 5)]
 (.op (.bin .neq false) [(.v 7), (.c (.int .i64 0))]
 (.ite (.v 8)
  (.ret [(.c (.int .u64 0)), (.v 7)])
 (.call 35 1 false [] [(.v 0)]
 (.op (.bin .and false) [(.v 1), (.v 9)]
 (.op (.bin .andNot false) [(.v 9), (.v 6)]
 (.call 32 1 false [] [(.v 0), (.v 1), (.v 11), (.v 5)]
 (.op (.bin .or false) [(.v 10), (.v 12)]
 (.ret [(.v 13), (.c (.int .i64 0))])))))))))
theorem rd15 : readFn T SG sigs 3000 sg15 Tryz.f19 an15 = some ir15 := by kernel_rfl
def an16 : Ann := .z
def ir16 : IR :=
 (.call 33 2 false [] [(.v 0), (.v 2), (.v 3), (.v 4), (.v 5)]
 (.op (.bin .neq false) [(.v 7), (.c (.int .i64 0))]
 (.ite (.v 8)
  (.ret [(.c (.int .u64 0)), (.v 7)])
 (.call 36 1 false [] [(.v 0)]
 (.op (.bin .and false) [(.v 1), (.v 9)]
 (.op (.bin .andNot false) [(.v 9), (.v 6)]
 (.call 34 1 false [] [(.v 0), (.v 1), (.v 11), (.v 5)]
 (.op (.bin .or false) [(.v 10), (.v 12)]
 (.ret [(.v 13), (.c (.int .i64 0))])))))))))
theorem rd16 : readFn T SG sigs 3000 sg16 Tryz.f20 an16 = some ir16 := by kernel_rfl
def an17 : Ann := (.s none .z (.s none .z (.s none (.s none .z (.b (.l ⟨2, [(0, .junk), (4, .junk), (5, (.atm (.v 0))), (7, .junk), (8, .junk), (10, (.atm (.v 1)))], [], 1, []⟩ .z))) .z)))
def ir17p0 : IR :=
 (.op (.bin .lss false) [(.v 6), (.v 4)]
 (.ite (.v 7)
  (.op (.bin .gtr false) [(.v 5), (.v 3)]
  (.ite (.v 8)
   (.ret [(.v 5)])
  (.op (.row 3) [(.v 2), (.v 6)]
  (.op (.bin .sub false) [(.v 3), (.v 5)]
  (.call 17 1 false [] [(.v 9), (.v 10), (.v 11), (.v 12)]
  (.op (.bin .add false) [(.v 5), (.v 13)]
  (.op (.bin .add false) [(.v 6), (.c (.int .i64 1))]
  (.jump 0 [(.v 14), (.v 15)]))))))))
 (.ret [(.v 5)])))
def ir17 : IR :=
 (.op .lenL [(.v 2)]
 (.loop 2 [(.c (.int .i64 1)), (.c (.int .i64 0))] ir17p0))
theorem rd17 : readFn T SG sigs 3000 sg17 Tryz.f22 an17 = some ir17 := by kernel_rfl
def an18 : Ann := (.s none .z (.s none .z (.s none .z (.s none (.s none .z (.b (.l ⟨2, [(0, .junk), (4, .junk), (5, (.atm (.v 0))), (7, .junk), (8, .junk), (9, .junk), (10, .junk), (12, (.atm (.v 1)))], [], 1, []⟩ .z))) .z))))
def ir18p0 : IR :=
 (.op (.bin .lss false) [(.v 7), (.v 5)]
 (.ite (.v 8)
  (.op (.row 3) [(.v 2), (.v 7)]
  (.op (.bin .sub false) [(.v 3), (.c (.int .i64 1))]
  (.call 18 1 false [] [(.v 9), (.v 10), (.v 11), (.v 12)]
  (.op (.bin .add false) [(.c (.int .i64 1)), (.v 13)]
  (.op .max [(.v 6), (.v 14)]
  (.op (.bin .add false) [(.v 7), (.c (.int .i64 1))]
  (.jump 0 [(.v 15), (.v 16)])))))))
 (.ret [(.v 6)])))
def ir18 : IR :=
 (.op (.bin .lss false) [(.v 3), (.c (.int .i64 0))]
 (.ite (.v 4)
  (.ret [(.c (.int .i64 0))])
 (.op .lenL [(.v 2)]
 (.loop 2 [(.c (.int .i64 0)), (.c (.int .i64 0))] ir18p0))))
theorem rd18 : readFn T SG sigs 3000 sg18 Tryz.f30 an18 = some ir18 := by kernel_rfl
def an19 : Ann := (.s none .z (.s none .z (.s none (.s none .z (.b (.l ⟨1, [(0, .junk), (2, .junk), (4, .junk), (5, .junk), (6, .junk), (7, .junk), (8, .junk), (9, .junk), (11, (.atm (.v 0)))], [], 1, []⟩ .z))) .z)))
def ir19p0 : IR :=
 (.op (.bin .lss false) [(.v 6), (.v 5)]
 (.ite (.v 7)
  (.op (.row 3) [(.v 2), (.v 6)]
  (.call 19 1 false [] [(.v 8), (.v 9), (.v 10)]
  (.op (.un .not) [(.v 11)]
  (.ite (.v 12)
   (.ret [(.c (.bool false))])
  (.op (.bin .add false) [(.v 6), (.c (.int .i64 1))]
  (.jump 0 [(.v 13)]))))))
 (.ret [(.c (.bool true))])))
def ir19 : IR :=
 (.op .lenS [(.v 1)]
 (.op (.bin .gtr false) [(.v 3), (.c (.int .i64 100))]
 (.ite (.v 4)
  (.ret [(.c (.bool false))])
 (.op .lenL [(.v 2)]
 (.loop 1 [(.c (.int .i64 0))] ir19p0)))))
theorem rd19 : readFn T SG sigs 3000 sg19 Tryz.f31 an19 = some ir19 := by kernel_rfl
def an20 : Ann := .z
def ir20 : IR :=
 (.call 8 1 false [] [(.v 0)]
 (.call 8 1 false [] [(.v 0)]
 (.call 36 1 false [] [(.v 3)]
 (.op (.bin .and false) [(.v 1), (.v 4)]
 (.call 37 4 false [] [(.v 2), (.v 5)]
 (.ret [(.v 6), (.v 7), (.v 8)]))))))
theorem rd20 : readFn T SG sigs 3000 sg20 Tryz.f32 an20 = some ir20 := by kernel_rfl
def an21 : Ann := .z
def ir21 : IR :=
 (.op (.bin .xor false) [(.v 0), (.v 1)]
 (.op (.conv .u64) [(.v 2)]
 (.op (.bin .and false) [(.v 3), (.c (.int .u64 63))]
 (.ret [(.v 4)]))))
theorem rd21 : readFn T SG sigs 3000 sg21 Tryz.f34 an21 = some ir21 := by kernel_rfl
def an22 : Ann := .z
def ir22 : IR :=
 (.op (.bin .shr false) [(.v 0), (.c (.int .u64 1))]
 (.op (.bin .and false) [(.v 1), (.c (.int .u64 6148914691236517205))]
 (.op (.bin .and false) [(.v 0), (.c (.int .u64 6148914691236517205))]
 (.op (.bin .add false) [(.v 2), (.v 3)]
 (.op (.bin .shr false) [(.v 4), (.c (.int .u64 2))]
 (.op (.bin .and false) [(.v 5), (.c (.int .u64 3689348814741910323))]
 (.op (.bin .and false) [(.v 4), (.c (.int .u64 3689348814741910323))]
 (.op (.bin .add false) [(.v 6), (.v 7)]
 (.op (.bin .shr false) [(.v 8), (.c (.int .u64 4))]
 (.op (.bin .add false) [(.v 9), (.v 8)]
 (.op (.bin .and false) [(.v 10), (.c (.int .u64 1085102592571150095))]
 (.op (.bin .shr false) [(.v 11), (.c (.int .u64 8))]
 (.op (.bin .add false) [(.v 11), (.v 12)]
 (.op (.bin .shr false) [(.v 13), (.c (.int .u64 16))]
 (.op (.bin .add false) [(.v 13), (.v 14)]
 (.op (.bin .shr false) [(.v 15), (.c (.int .u64 32))]
 (.op (.bin .add false) [(.v 15), (.v 16)]
 (.op (.conv .i64) [(.v 17)]
 (.op (.bin .and false) [(.v 18), (.c (.int .i64 127))]
 (.ret [(.v 19)]))))))))))))))))))))
theorem rd22 : readFn T SG sigs 3000 sg22 Tryz.f33 an22 = some ir22 := by kernel_rfl
def an23 : Ann := .z
def ir23 : IR :=
 (.op .lenL [(.v 0)]
 (.op (.bin .geq false) [(.v 1), (.v 2)]
 (.ite (.v 3)
  (.ret [(.c (.int .i64 0)), (.v 0), (.v 1)])
 (.op (.bin .add false) [(.v 1), (.c (.int .i64 1))]
 (.op (.bin .sub false) [(.v 4), (.c (.int .i64 1))]
 (.op (.row 1) [(.v 0), (.v 5)]
 (.ret [(.v 6), (.v 0), (.v 4)])))))))
theorem rd23 : readFn T SG sigs 3000 sg23 Tryz.f36 an23 = some ir23 := by kernel_rfl
def an24 : Ann := (.s none .z (.s none .z (.s none .z (.s (some ⟨1, [(0, (.atm (.v 0))), (1, .junk), (4, .junk), (5, .junk), (6, .junk), (7, .junk), (8, .junk), (9, .junk)], [], 0, []⟩) .z .z))))
def ir24p0 : IR :=
 (.ret [(.v 4)])
def ir24 : IR :=
 (.op (.bin .lss false) [(.v 1), (.c (.int .i64 1))]
 (.ite (.v 2)
  (.ret [(.c (.int .i64 0))])
 (.op (.bin .rem false) [(.v 0), (.v 1)]
 (.letj 1
  (.op (.bin .lss false) [(.v 3), (.c (.int .i64 0))]
  (.ite (.v 4)
   (.op (.bin .add false) [(.v 3), (.v 1)]
   (.jump 0 [(.v 5)]))
  (.jump 0 [(.v 3)])))
 ir24p0))))
theorem rd24 : readFn T SG sigs 3000 sg24 Tryz.f35 an24 = some ir24 := by kernel_rfl
def an25 : Ann := (.s none .z (.s none .z (.s none (.s none .z (.b (.l ⟨1, [(2, .junk), (5, .junk), (6, .junk), (7, .junk), (10, (.atm (.v 0)))], [], 0, []⟩ (.s none .z (.s none .z (.s none (.b (.s none .z (.s (some ⟨1, [(3, .junk), (4, .junk), (11, .junk), (12, .junk), (13, .junk), (14, .junk), (30, (.atm (.v 0)))], [], 0, []⟩) .z .z))) .z)))))) .z)))
def ir25p0 : IR :=
 (.ite (.v 7)
  (.ret [(.c (.bool false))])
 (.op (.bin .add false) [(.v 4), (.c (.int .i64 1))]
 (.jump 0 [(.v 8)])))
def ir25p1 : IR :=
 (.op (.bin .lss false) [(.v 4), (.v 3)]
 (.ite (.v 5)
  (.op (.row 1) [(.v 0), (.v 4)]
  (.letj 1
   (.call 38 1 false [] [(.v 6)]
   (.op (.un .not) [(.v 7)]
   (.ite (.v 8)
    (.jump 1 [(.c (.bool true))])
   (.op (.bin .gtr false) [(.v 4), (.c (.int .i64 0))]
   (.ite (.v 9)
    (.op (.bin .sub false) [(.v 4), (.c (.int .i64 1))]
    (.op (.row 1) [(.v 0), (.v 10)]
    (.op (.bin .geq false) [(.v 11), (.v 6)]
    (.jump 1 [(.v 12)]))))
   (.jump 1 [(.c (.bool false))]))))))
  ir25p0))
 (.ret [(.c (.bool true))])))
def ir25 : IR :=
 (.op .lenL [(.v 0)]
 (.op (.bin .gtr false) [(.v 1), (.c (.int .i64 6))]
 (.ite (.v 2)
  (.ret [(.c (.bool false))])
 (.op .lenL [(.v 0)]
 (.loop 1 [(.c (.int .i64 0))] ir25p1)))))
theorem rd25 : readFn T SG sigs 3000 sg25 Tryz.f37 an25 = some ir25 := by kernel_rfl
def an26 : Ann := .z
def ir26 : IR :=
 (.op (.bin .eql false) [(.v 0), (.c (.int .i64 1))]
 (.ite (.v 1)
  (.ret [(.c (fnD 67)), (.c (.bool true))])
 (.op (.bin .eql false) [(.v 0), (.c (.int .i64 2))]
 (.ite (.v 2)
  (.ret [(.c (fnD 68)), (.c (.bool true))])
 (.op (.bin .eql false) [(.v 0), (.c (.int .i64 3))]
 (.ite (.v 3)
  (.ret [(.c (fnD 69)), (.c (.bool true))])
 (.ret [(.c (.raw .nilFunc)), (.c (.bool false))])))))))
theorem rd26 : readFn T SG sigs 3000 sg26 Tryz.f38 an26 = some ir26 := by kernel_rfl
def an27 : Ann := (.f [67, 68, 69] (.s none .z (.s none .z (.s none .z (.s none .z (.s none (.s none .z (.b (.l ⟨3, [(0, .junk), (2, .junk), (3, (.atm (.v 0))), (8, .junk), (10, (.atm (.v 1))), (15, .junk), (16, .junk), (17, .junk), (20, (.atm (.v 2)))], [], 0, []⟩ (.s none .z (.s none .z (.s (some ⟨2, [(3, (.atm (.v 0))), (10, (.atm (.v 1))), (21, .junk)], [], 0, []⟩) (.b (.s none .z (.s none (.s none .z (.b (.l ⟨2, [(3, (.atm (.v 0))), (21, .junk), (22, .junk), (23, .junk), (26, (.atm (.v 1)))], [], 0, []⟩ (.s none .z (.s none .z (.s none (.b (.s none .z (.s (some ⟨2, [(3, (.atm (.v 0))), (14, .junk), (27, .junk), (28, .junk), (29, .junk), (37, (.atm (.v 1)))], [], 0, []⟩) .z .z))) .z)))))) .z))) .z)))))) .z))))))
def ir27p0 : IR :=
 (.op (.bin .add false) [(.v 8), (.c (.int .i64 1))]
 (.jump 0 [(.v 10), (.v 11), (.v 12)]))
def ir27p1 : IR :=
 (.ite (.v 17)
  (.jump 1 [(.v 16), (.v 7)])
 (.op (.bin .add false) [(.v 13), (.c (.int .i64 1))]
 (.jump 2 [(.v 16), (.v 18)])))
def ir27p2 : IR :=
 (.op (.bin .lss false) [(.v 13), (.v 11)]
 (.ite (.v 14)
  (.op (.row 1) [(.v 4), (.v 13)]
  (.letj 2
   (.call 21 1 false [] [(.v 1), (.v 15)]
   (.call 21 1 false [] [(.v 1), (.v 10)]
   (.isf (.v 12) 67
    (.call 40 1 false [] [(.v 16), (.v 17)]
    (.jump 3 [(.c (fnD 67)), (.v 18)]))
   (.isf (.v 12) 68
    (.call 41 1 false [] [(.v 16), (.v 17)]
    (.jump 3 [(.c (fnD 68)), (.v 18)]))
   (.isf (.v 12) 69
    (.call 42 1 false [] [(.v 16), (.v 17)]
    (.jump 3 [(.c (fnD 69)), (.v 18)]))
   .fail)))))
  ir27p1))
 (.op (.conv .u64) [(.v 10)]
 (.op (.bin .shl false) [(.c (.int .u64 1)), (.v 15)]
 (.op (.bin .or false) [(.v 7), (.v 16)]
 (.jump 1 [(.v 12), (.v 17)]))))))
def ir27p3 : IR :=
 (.op (.bin .lss false) [(.v 8), (.v 5)]
 (.ite (.v 9)
  (.letj 2
   (.op (.row 1) [(.v 4), (.v 8)]
   (.op .lenL [(.v 4)]
   (.loop 2 [(.v 6), (.c (.int .i64 0))] ir27p2)))
  ir27p0)
 (.ret [(.v 7)])))
def ir27 : IR :=
 (.call 39 1 false [] [(.v 0), (.v 2)]
 (.op .lenL [(.v 4)]
 (.loop 3 [(.v 3), (.c (.int .u64 0)), (.c (.int .i64 0))] ir27p3)))
theorem rd27 : readFn T SG sigs 3000 sg27 Tryz.f39 an27 = some ir27 := by kernel_rfl
def an28 : Ann := (.s none .z (.s none (.s none .z (.b (.l ⟨1, [(2, .junk), (3, (.atm (.v 0)))], [], 0, []⟩ (.s none .z (.s none (.b (.s (some ⟨1, [(4, .junk), (5, .junk), (6, .junk), (7, .junk), (31, (.atm (.v 0)))], [], 0, []⟩) .z .z)) .z))))) .z))
def ir28p0 : IR :=
 (.ite (.v 4)
  (.ret [(.c (.bool false))])
 (.op (.bin .add false) [(.v 1), (.c (.int .i64 1))]
 (.jump 0 [(.v 5)])))
def ir28p1 : IR :=
 (.op .lenL [(.v 0)]
 (.op (.bin .lss false) [(.v 1), (.v 2)]
 (.ite (.v 3)
  (.letj 1
   (.op (.row 1) [(.v 0), (.v 1)]
   (.call 43 1 false [] [(.v 4)]
   (.op (.un .not) [(.v 5)]
   (.ite (.v 6)
    (.jump 1 [(.c (.bool true))])
   (.op (.bin .gtr false) [(.v 1), (.c (.int .i64 0))]
   (.ite (.v 7)
    (.op (.row 1) [(.v 0), (.v 1)]
    (.op (.bin .sub false) [(.v 1), (.c (.int .i64 1))]
    (.op (.row 1) [(.v 0), (.v 9)]
    (.op (.bin .leq false) [(.v 8), (.v 10)]
    (.jump 1 [(.v 11)])))))
   (.jump 1 [(.c (.bool false))])))))))
  ir28p0)
 (.op .lenL [(.v 0)]
 (.op (.bin .leq false) [(.v 4), (.c (.int .i64 6))]
 (.ret [(.v 5)]))))))
def ir28 : IR :=
 (.loop 1 [(.c (.int .i64 0))] ir28p1)
theorem rd28 : readFn T SG sigs 3000 sg28 Tryz.f40 an28 = some ir28 := by kernel_rfl
def an29 : Ann := .z
def ir29 : IR :=
 (.op (.bin .geq false) [(.v 0), (.c (.int .i64 1))]
 (.ite (.v 1)
  (.op (.bin .leq false) [(.v 0), (.c (.int .i64 3))]
  (.ret [(.v 2)]))
 (.ret [(.c (.bool false))])))
theorem rd29 : readFn T SG sigs 3000 sg29 Tryz.f41 an29 = some ir29 := by kernel_rfl
def an30 : Ann := (.s none .z (.s none .z (.s none (.s none .z (.b (.l ⟨2, [(8, .junk), (9, (.atm (.v 0))), (10, (.atm (.v 1)))], [], 0, []⟩ (.s none .z (.s (some ⟨1, [(9, (.atm (.v 0))), (13, .junk), (14, .junk), (15, .junk)], [], 0, []⟩) (.b (.s none .z (.s none (.s none .z (.b (.l ⟨2, [(11, (.atm (.v 0))), (12, (.atm (.v 1))), (13, .junk), (14, .junk), (15, .junk), (18, .junk), (19, .junk), (20, .junk)], [], 0, []⟩ (.s none (.s (some ⟨1, [(26, (.atm (.v 0)))], [], 0, []⟩) .z .z) (.s (some ⟨1, [(11, (.atm (.v 0))), (26, .junk)], [], 0, []⟩) .z .z))))) .z))) .z))))) .z)))
def ir30p0 : IR :=
 (.op (.bin .add false) [(.v 5), (.c (.int .i64 1))]
 (.jump 0 [(.v 7), (.v 8)]))
def ir30p1 : IR :=
 (.op (.bin .add false) [(.v 9), (.c (.int .i64 1))]
 (.jump 2 [(.v 11), (.v 12)]))
def ir30p2 : IR :=
 (.ite (.v 10)
  (.letj 1
   (.call 44 1 false [] [(.v 2), (.v 9)]
   (.op (.un .not) [(.v 11)]
   (.ite (.v 12)
    (.jump 3 [(.c (.bool true))])
   (.call 45 1 false [] [(.v 1), (.v 9), (.v 5), (.v 3)]
   (.op (.un .not) [(.v 13)]
   (.jump 3 [(.v 14)]))))))
  ir30p1)
 (.ite (.v 8)
  (.op (.conv .u64) [(.v 5)]
  (.op (.bin .shl false) [(.c (.int .u64 1)), (.v 11)]
  (.op (.bin .or false) [(.v 4), (.v 12)]
  (.jump 1 [(.v 13)]))))
 (.jump 1 [(.v 4)])))
def ir30p3 : IR :=
 (.letj 1
  (.op (.bin .lss false) [(.v 9), (.v 0)]
  (.ite (.v 10)
   (.jump 3 [(.v 8)])
  (.jump 3 [(.c (.bool false))])))
 ir30p2)
def ir30p4 : IR :=
 (.op (.bin .lss false) [(.v 5), (.v 0)]
 (.ite (.v 6)
  (.letj 1
   (.call 44 1 false [] [(.v 2), (.v 5)]
   (.loop 2 [(.v 7), (.c (.int .i64 0))] ir30p3))
  ir30p0)
 (.ret [(.v 4)])))
def ir30 : IR :=
 (.loop 2 [(.c (.int .u64 0)), (.c (.int .i64 0))] ir30p4)
theorem rd30 : readFn T SG sigs 3000 sg30 Tryz.f42 an30 = some ir30 := by kernel_rfl
def an31 : Ann := .z
def ir31 : IR :=
 (.call 25 1 false [] [(.v 0)]
 (.op (.un .not) [(.v 5)]
 (.ite (.v 6)
  (.ret [(.c (.int .u64 0)), (.c (.int .i64 1))])
 (.call 26 2 false [] [(.v 4)]
 (.op (.un .not) [(.v 8)]
 (.ite (.v 9)
  (.ret [(.c (.int .u64 0)), (.c (.int .i64 4))])
 (.call 46 2 false [] [(.v 0), (.v 1), (.v 2), (.v 3)]
 (.ret [(.v 10), (.v 11)]))))))))
theorem rd31 : readFn T SG sigs 3000 sg31 Tryz.f43 an31 = some ir31 := by kernel_rfl
def an32 : Ann := (.s none .z (.s none .z (.s none .z (.s none (.s none .z (.b (.l ⟨2, [(1, .junk), (3, .junk), (8, .junk), (10, .junk), (11, (.atm (.v 0))), (14, .junk), (15, .junk), (16, .junk), (17, .junk), (18, .junk), (19, .junk), (20, .junk), (23, (.atm (.v 1)))], [], 0, []⟩ .z))) .z))))
def ir32p0 : IR :=
 (.op (.bin .lss false) [(.v 9), (.v 7)]
 (.ite (.v 10)
  (.op (.row 1) [(.v 6), (.v 9)]
  (.call 27 1 false [] [(.v 0), (.v 11), (.v 2), (.v 4)]
  (.op (.bin .or false) [(.v 8), (.v 12)]
  (.op (.bin .add false) [(.v 9), (.c (.int .i64 1))]
  (.jump 0 [(.v 13), (.v 14)])))))
 (.ret [(.v 8)])))
def ir32 : IR :=
 (.call 26 2 false [] [(.v 3)]
 (.call 39 1 false [] [(.v 0), (.v 1)]
 (.op .lenL [(.v 6)]
 (.loop 2 [(.c (.int .u64 0)), (.c (.int .i64 0))] ir32p0))))
theorem rd32 : readFn T SG sigs 3000 sg32 Tryz.f44 an32 = some ir32 := by kernel_rfl
def an33 : Ann := .z
def ir33 : IR :=
 (.call 28 1 false [] [(.v 0)]
 (.op (.un .not) [(.v 5)]
 (.ite (.v 6)
  (.ret [(.c (.int .u64 0)), (.c (.int .i64 1))])
 (.call 29 1 false [] [(.v 4)]
 (.op (.un .not) [(.v 7)]
 (.ite (.v 8)
  (.ret [(.c (.int .u64 0)), (.c (.int .i64 4))])
 (.call 47 2 false [] [(.v 0), (.v 1), (.v 2), (.v 3)]
 (.ret [(.v 9), (.v 10)]))))))))
theorem rd33 : readFn T SG sigs 3000 sg33 Tryz.f45 an33 = some ir33 := by kernel_rfl
def an34 : Ann := (.s none .z (.s none .z (.s none .z (.s none (.s none .z (.b (.l ⟨2, [(0, .junk), (8, .junk), (10, (.atm (.v 0))), (11, (.atm (.v 1))), (12, .junk), (13, .junk), (14, .junk), (15, .junk)], [], 0, []⟩ (.s none .z (.s (some ⟨1, [(10, (.atm (.v 0))), (16, .junk), (17, .junk), (18, .junk)], [], 0, []⟩) .z .z))))) .z))))
def ir34p0 : IR :=
 (.op (.bin .add false) [(.v 8), (.c (.int .i64 1))]
 (.jump 0 [(.v 10), (.v 11)]))
def ir34p1 : IR :=
 (.op (.bin .lss false) [(.v 8), (.v 6)]
 (.ite (.v 9)
  (.letj 1
   (.call 44 1 false [] [(.v 1), (.v 8)]
   (.ite (.v 10)
    (.call 30 1 false [] [(.v 6), (.v 8), (.v 2), (.v 3)]
    (.op (.bin .or false) [(.v 7), (.v 11)]
    (.jump 1 [(.v 12)])))
   (.jump 1 [(.v 7)])))
  ir34p0)
 (.ret [(.v 7)])))
def ir34 : IR :=
 (.op .lenL [(.v 0)]
 (.op (.conv .u64) [(.v 4)]
 (.op (.bin .shl false) [(.c (.int .i64 1)), (.v 5)]
 (.loop 2 [(.c (.int .u64 0)), (.c (.int .i64 0))] ir34p1))))
theorem rd34 : readFn T SG sigs 3000 sg34 Tryz.f46 an34 = some ir34 := by kernel_rfl
def an35 : Ann := .z
def ir35 : IR :=
 (.call 25 1 false [] [(.v 0)]
 (.op (.un .not) [(.v 1)]
 (.ite (.v 2)
  (.ret [(.c (.int .u64 0))])
 (.op .lenL [(.v 0)]
 (.call 48 1 false [] [(.v 3)]
 (.ret [(.v 4)]))))))
theorem rd35 : readFn T SG sigs 3000 sg35 Tryz.f47 an35 = some ir35 := by kernel_rfl
def an36 : Ann := (.s none .z (.s none .z (.s none .z (.s none (.s none .z (.b (.l ⟨2, [(2, .junk), (3, (.atm (.v 0))), (4, (.atm (.v 1))), (5, .junk), (6, .junk), (7, .junk)], [], 0, []⟩ .z))) .z))))
def ir36p0 : IR :=
 (.call 49 1 false [] [(.v 0)]
 (.op (.bin .lss false) [(.v 4), (.v 5)]
 (.ite (.v 6)
  (.op (.conv .u64) [(.v 4)]
  (.op (.bin .shl false) [(.c (.int .u64 1)), (.v 7)]
  (.op (.bin .or false) [(.v 3), (.v 8)]
  (.op (.bin .add false) [(.v 4), (.c (.int .i64 1))]
  (.jump 0 [(.v 9), (.v 10)])))))
 (.ret [(.v 3)]))))
def ir36 : IR :=
 (.call 28 1 false [] [(.v 0)]
 (.op (.un .not) [(.v 1)]
 (.ite (.v 2)
  (.ret [(.c (.int .u64 0))])
 (.loop 2 [(.c (.int .u64 0)), (.c (.int .i64 0))] ir36p0))))
theorem rd36 : readFn T SG sigs 3000 sg36 Tryz.f48 an36 = some ir36 := by kernel_rfl
def an37 : Ann := .z
def ir37 : IR :=
 (.call 28 1 false [] [(.v 0)]
 (.op (.un .not) [(.v 2)]
 (.ite (.v 3)
  (.ret [(.c (.int .i64 0)), (.c (.str [])), (.c (.sl [])), (.c (.int .i64 1))])
 (.call 50 3 false [] [(.v 0), (.v 1)]
 (.ret [(.v 4), (.v 5), (.v 6), (.c (.int .i64 0))])))))
theorem rd37 : readFn T SG sigs 3000 sg37 Tryz.f65 an37 = some ir37 := by kernel_rfl
def an38 : Ann := (.s none .z (.s none (.s (some ⟨1, [(2, .junk), (12, (.atm (.v 0)))], [], 0, []⟩) .z .z) (.s none (.s none .z (.b (.l ⟨1, [(12, .junk), (13, .junk), (15, (.atm (.v 0)))], [], 0, []⟩ (.s none .z (.s none .z (.s (some ⟨0, [(16, .junk)], [], 0, []⟩) (.b (.s none .z (.s none .z (.b (.s (some ⟨1, [(16, .junk), (17, .junk), (18, .junk), (19, .junk), (20, .junk), (21, (.atm (.v 0)))], [], 0, []⟩) .z (.c .z (.s (some ⟨1, [(3, .junk), (4, .junk), (21, .junk), (28, (.atm (.v 0)))], [], 0, []⟩) .z .z))))))) .z)))))) .z)))
def ir38p0 : IR :=
 (.op (.bin .add false) [(.v 3), (.c (.int .i64 1))]
 (.jump 0 [(.v 5)]))
def ir38p1 : IR :=
 (.ite (.v 7)
  (.jump 1 [])
 (.ret [(.c (.bool false))]))
def ir38p2 : IR :=
 (.ite (.v 6)
  (.jump 1 [])
 (.letj 1
  (.op (.bin .gtr false) [(.v 3), (.c (.int .i64 0))]
  (.ite (.v 7)
   (.op (.bin .geq false) [(.v 5), (.c (.int .u8 48))]
   (.ite (.v 8)
    (.op (.bin .leq false) [(.v 5), (.c (.int .u8 57))]
    (.ite (.v 9)
     (.jump 2 [(.c (.bool true))])
    (.op (.bin .eql false) [(.v 5), (.c (.int .u8 95))]
    (.jump 2 [(.v 10)]))))
   (.op (.bin .eql false) [(.v 5), (.c (.int .u8 95))]
   (.jump 2 [(.v 9)]))))
  (.jump 2 [(.c (.bool false))])))
 ir38p1))
def ir38p3 : IR :=
 (.op (.bin .lss false) [(.v 3), (.v 2)]
 (.ite (.v 4)
  (.letj 0
   (.op .idxS [(.v 0), (.v 3)]
   (.letj 1
    (.op (.bin .geq false) [(.v 5), (.c (.int .u8 97))]
    (.ite (.v 6)
     (.op (.bin .leq false) [(.v 5), (.c (.int .u8 122))]
     (.jump 2 [(.v 7)]))
    (.jump 2 [(.c (.bool false))])))
   ir38p2))
  ir38p0)
 (.ret [(.c (.bool true))])))
def ir38p4 : IR :=
 (.ite (.v 1)
  (.ret [(.c (.bool false))])
 (.op .lenS [(.v 0)]
 (.loop 1 [(.c (.int .i64 0))] ir38p3)))
def ir38 : IR :=
 (.letj 1
  (.op .lenS [(.v 0)]
  (.op (.bin .eql false) [(.v 1), (.c (.int .i64 0))]
  (.ite (.v 2)
   (.jump 0 [(.c (.bool true))])
  (.op .lenS [(.v 0)]
  (.op (.bin .gtr false) [(.v 3), (.c (.int .i64 12))]
  (.jump 0 [(.v 4)]))))))
 ir38p4)
theorem rd38 : readFn T SG sigs 3000 sg38 Tryz.f66 an38 = some ir38 := by kernel_rfl
def an39 : Ann := (.s none .z (.s none .z (.s none (.s none .z (.b (.l ⟨2, [(0, .junk), (1, (.atm (.v 0))), (4, .junk), (6, .junk), (7, .junk), (8, .junk), (9, .junk)], [(0, ⟨false, true, 3, 1, (.v 1), []⟩)], 1, [⟨none, 5, 3, 1⟩]⟩ .z))) .z)))
def ir39p0 : IR :=
 (.op (.bin .neq false) [(.v 4), (.c (.int .u64 0))]
 (.ite (.v 6)
  (.call 51 1 false [] [(.v 4)]
  (.op (.mk 1 1) [(.v 7)]
  (.op (.app 1 8) [(.v 5), (.v 8)]
  (.op (.bin .sub false) [(.v 4), (.c (.int .u64 1))]
  (.op (.bin .and false) [(.v 4), (.v 10)]
  (.jump 0 [(.v 11), (.v 9)]))))))
 (.ret [(.v 5)])))
def ir39 : IR :=
 (.call 35 1 false [] [(.v 0)]
 (.op (.bin .and false) [(.v 1), (.v 2)]
 (.loop 2 [(.v 3), (.c (.sl []))] ir39p0)))
theorem rd39 : readFn T SG sigs 3000 sg39 Tryz.f70 an39 = some ir39 := by kernel_rfl
def an40 : Ann := .z
def ir40 : IR :=
 (.call 22 1 false [] [(.v 0)]
 (.call 22 1 false [] [(.v 1)]
 (.op (.bin .lss false) [(.v 2), (.v 3)]
 (.ret [(.v 4)]))))
theorem rd40 : readFn T SG sigs 3000 sg40 Tryz.f67 an40 = some ir40 := by kernel_rfl
def an41 : Ann := .z
def ir41 : IR :=
 (.op (.bin .andNot false) [(.v 0), (.v 1)]
 (.op (.bin .eql false) [(.v 2), (.c (.int .u64 0))]
 (.ite (.v 3)
  (.op (.bin .neq false) [(.v 0), (.v 1)]
  (.ret [(.v 4)]))
 (.ret [(.c (.bool false))]))))
theorem rd41 : readFn T SG sigs 3000 sg41 Tryz.f68 an41 = some ir41 := by kernel_rfl
def an42 : Ann := .z
def ir42 : IR :=
 (.op (.bin .eql false) [(.v 0), (.c (.int .u64 0))]
 (.ite (.v 2)
  (.op (.bin .neq false) [(.v 1), (.c (.int .u64 0))]
  (.ret [(.v 3)]))
 (.ret [(.c (.bool false))])))
theorem rd42 : readFn T SG sigs 3000 sg42 Tryz.f69 an42 = some ir42 := by kernel_rfl
def an43 : Ann := (.s none .z (.s none (.s (some ⟨1, [(2, .junk), (21, (.atm (.v 0)))], [], 0, []⟩) .z .z) (.s none (.s none .z (.b (.l ⟨1, [(3, (.atm (.v 0))), (21, .junk)], [], 0, []⟩ (.s none .z (.s none (.b (.s (some ⟨1, [(22, .junk), (23, .junk), (24, .junk), (25, .junk), (55, (.atm (.v 0)))], [], 0, []⟩) .z .z)) .z))))) .z)))
def ir43p0 : IR :=
 (.ite (.v 5)
  (.ret [(.c (.bool false))])
 (.op (.bin .add false) [(.v 2), (.c (.int .i64 1))]
 (.jump 0 [(.v 6)])))
def ir43p1 : IR :=
 (.op .lenS [(.v 0)]
 (.op (.bin .lss false) [(.v 2), (.v 3)]
 (.ite (.v 4)
  (.letj 1
   (.op .idxS [(.v 0), (.v 2)]
   (.op (.bin .lss false) [(.v 5), (.c (.int .u8 97))]
   (.ite (.v 6)
    (.op .idxS [(.v 0), (.v 2)]
    (.op (.bin .lss false) [(.v 7), (.c (.int .u8 48))]
    (.ite (.v 8)
     (.op .idxS [(.v 0), (.v 2)]
     (.op (.bin .neq false) [(.v 9), (.c (.int .u8 95))]
     (.jump 1 [(.v 10)])))
    (.op .idxS [(.v 0), (.v 2)]
    (.op (.bin .gtr false) [(.v 9), (.c (.int .u8 57))]
    (.ite (.v 10)
     (.op .idxS [(.v 0), (.v 2)]
     (.op (.bin .neq false) [(.v 11), (.c (.int .u8 95))]
     (.jump 1 [(.v 12)])))
    (.jump 1 [(.c (.bool false))])))))))
   (.op .idxS [(.v 0), (.v 2)]
   (.op (.bin .gtr false) [(.v 7), (.c (.int .u8 122))]
   (.ite (.v 8)
    (.op .idxS [(.v 0), (.v 2)]
    (.op (.bin .lss false) [(.v 9), (.c (.int .u8 48))]
    (.ite (.v 10)
     (.op .idxS [(.v 0), (.v 2)]
     (.op (.bin .neq false) [(.v 11), (.c (.int .u8 95))]
     (.jump 1 [(.v 12)])))
    (.op .idxS [(.v 0), (.v 2)]
    (.op (.bin .gtr false) [(.v 11), (.c (.int .u8 57))]
    (.ite (.v 12)
     (.op .idxS [(.v 0), (.v 2)]
     (.op (.bin .neq false) [(.v 13), (.c (.int .u8 95))]
     (.jump 1 [(.v 14)])))
    (.jump 1 [(.c (.bool false))])))))))
   (.jump 1 [(.c (.bool false))])))))))
  ir43p0)
 (.ret [(.c (.bool true))]))))
def ir43p2 : IR :=
 (.ite (.v 1)
  (.ret [(.c (.bool false))])
 (.loop 1 [(.c (.int .i64 0))] ir43p1))
def ir43 : IR :=
 (.letj 1
  (.op .lenS [(.v 0)]
  (.op (.bin .lss false) [(.v 1), (.c (.int .i64 1))]
  (.ite (.v 2)
   (.jump 0 [(.c (.bool true))])
  (.op .lenS [(.v 0)]
  (.op (.bin .gtr false) [(.v 3), (.c (.int .i64 12))]
  (.ite (.v 4)
   (.jump 0 [(.c (.bool true))])
  (.op .idxS [(.v 0), (.c (.int .i64 0))]
  (.op (.bin .lss false) [(.v 5), (.c (.int .u8 97))]
  (.ite (.v 6)
   (.jump 0 [(.c (.bool true))])
  (.op .idxS [(.v 0), (.c (.int .i64 0))]
  (.op (.bin .gtr false) [(.v 7), (.c (.int .u8 122))]
  (.jump 0 [(.v 8)]))))))))))))
 ir43p2)
theorem rd43 : readFn T SG sigs 3000 sg43 Tryz.f71 an43 = some ir43 := by kernel_rfl
def an44 : Ann := .z
def ir44 : IR :=
 (.op (.conv .u64) [(.v 1)]
 (.op (.bin .shr false) [(.v 0), (.v 2)]
 (.op (.bin .and false) [(.v 3), (.c (.int .u64 1))]
 (.op (.bin .eql false) [(.v 4), (.c (.int .u64 1))]
 (.ret [(.v 5)])))))
theorem rd44 : readFn T SG sigs 3000 sg44 Tryz.f72 an44 = some ir44 := by kernel_rfl
def an45 : Ann := .z
def ir45 : IR :=
 (.op (.bin .eql false) [(.v 3), (.c (.int .i64 1))]
 (.ite (.v 4)
  (.call 6 1 false [] [(.v 0), (.v 1)]
  (.call 6 1 false [] [(.v 0), (.v 2)]
  (.op (.bin .lss false) [(.v 5), (.v 6)]
  (.ret [(.v 7)]))))
 (.op (.bin .eql false) [(.v 3), (.c (.int .i64 2))]
 (.ite (.v 5)
  (.op (.bin .xor false) [(.v 0), (.v 1)]
  (.op (.bin .xor false) [(.v 0), (.v 2)]
  (.op (.bin .neq false) [(.v 6), (.v 7)]
  (.ite (.v 8)
   (.op (.bin .andNot false) [(.v 6), (.v 7)]
   (.op (.bin .eql false) [(.v 9), (.c (.int .i64 0))]
   (.ret [(.v 10)])))
  (.ret [(.c (.bool false))])))))
 (.op (.bin .eql false) [(.v 1), (.v 0)]
 (.ite (.v 6)
  (.op (.bin .neq false) [(.v 2), (.v 0)]
  (.ret [(.v 7)]))
 (.ret [(.c (.bool false))])))))))
theorem rd45 : readFn T SG sigs 3000 sg45 Tryz.f73 an45 = some ir45 := by kernel_rfl
def an46 : Ann := (.s none .z (.s none .z (.s none .z (.s none (.s none .z (.b (.l ⟨1, [(1, .junk), (4, .junk), (5, .junk), (6, .junk), (9, .junk), (10, .junk), (11, .junk), (12, .junk), (13, .junk), (14, .junk), (15, .junk), (17, .junk), (20, (.atm (.v 0)))], [], 1, []⟩ .z))) .z))))
def ir46p0 : IR :=
 (.op (.bin .lss false) [(.v 10), (.v 9)]
 (.ite (.v 11)
  (.op (.row 1) [(.v 8), (.v 10)]
  (.call 54 1 false [] [(.v 0), (.v 12)]
  (.op (.un .not) [(.v 13)]
  (.ite (.v 14)
   (.ret [(.c (.int .u64 0)), (.c (.int .i64 6))])
  (.op (.bin .add false) [(.v 10), (.c (.int .i64 1))]
  (.jump 0 [(.v 15)]))))))
 (.call 55 1 false [] [(.v 0), (.v 1), (.v 2), (.v 3)]
 (.call 35 1 false [] [(.v 0)]
 (.op (.bin .and false) [(.v 12), (.v 13)]
 (.ret [(.v 14), (.c (.int .i64 0))]))))))
def ir46 : IR :=
 (.call 25 1 false [] [(.v 0)]
 (.op (.un .not) [(.v 4)]
 (.ite (.v 5)
  (.ret [(.c (.int .u64 0)), (.c (.int .i64 1))])
 (.call 52 1 false [] [(.v 1), (.v 2), (.v 3)]
 (.op (.bin .neq false) [(.v 6), (.c (.int .i64 0))]
 (.ite (.v 7)
  (.ret [(.c (.int .u64 0)), (.v 6)])
 (.call 53 1 false [] [(.v 1), (.v 2), (.v 3)]
 (.op .lenL [(.v 8)]
 (.loop 1 [(.c (.int .i64 0))] ir46p0)))))))))
theorem rd46 : readFn T SG sigs 3000 sg46 Tryz.f25 an46 = some ir46 := by kernel_rfl
def an47 : Ann := (.s none .z (.s none .z (.s none .z (.s none .z (.s none (.s none .z (.b (.l ⟨1, [(1, .junk), (4, .junk), (5, .junk), (6, .junk), (8, (.atm (.v 0))), (11, .junk), (12, .junk), (13, .junk), (14, .junk), (15, .junk), (16, .junk), (17, .junk), (19, .junk), (20, .junk)], [], 1, []⟩ .z))) (.s none .z (.s none (.s none .z (.b (.l ⟨2, [(7, .junk), (8, .junk), (9, (.atm (.v 0))), (10, (.atm (.v 1))), (21, .junk), (22, .junk), (23, .junk), (24, .junk)], [], 1, []⟩ (.s none .z (.s (some ⟨1, [(9, (.atm (.v 0))), (34, .junk), (35, .junk), (36, .junk), (37, .junk)], [], 1, []⟩) .z .z))))) .z)))))))
def ir47p0 : IR :=
 (.op (.bin .add false) [(.v 13), (.c (.int .i64 1))]
 (.jump 1 [(.v 16), (.v 17)]))
def ir47p1 : IR :=
 (.call 49 1 false [] [(.v 0)]
 (.op (.bin .lss false) [(.v 13), (.v 14)]
 (.ite (.v 15)
  (.letj 1
   (.call 59 1 false [] [(.v 0), (.v 13)]
   (.call 60 1 false [] [(.v 1), (.v 2), (.v 3), (.v 16)]
   (.ite (.v 17)
    (.op (.conv .u64) [(.v 13)]
    (.op (.bin .shl false) [(.c (.int .u64 1)), (.v 18)]
    (.op (.bin .or false) [(.v 12), (.v 19)]
    (.jump 2 [(.v 20)]))))
   (.jump 2 [(.v 12)]))))
  ir47p0)
 (.ret [(.v 12), (.c (.int .i64 0))]))))
def ir47p2 : IR :=
 (.op .lenL [(.v 8)]
 (.op (.bin .lss false) [(.v 9), (.v 10)]
 (.ite (.v 11)
  (.op (.row 1) [(.v 8), (.v 9)]
  (.call 58 1 false [] [(.v 0), (.v 12)]
  (.op (.bin .lss false) [(.v 13), (.c (.int .i64 0))]
  (.ite (.v 14)
   (.ret [(.c (.int .u64 0)), (.c (.int .i64 6))])
  (.op (.bin .add false) [(.v 9), (.c (.int .i64 1))]
  (.jump 0 [(.v 15)]))))))
 (.loop 2 [(.c (.int .u64 0)), (.c (.int .i64 0))] ir47p1))))
def ir47 : IR :=
 (.call 28 1 false [] [(.v 0)]
 (.op (.un .not) [(.v 4)]
 (.ite (.v 5)
  (.ret [(.c (.int .u64 0)), (.c (.int .i64 1))])
 (.call 56 1 false [] [(.v 1), (.v 2), (.v 3)]
 (.op (.bin .neq false) [(.v 6), (.c (.int .i64 0))]
 (.ite (.v 7)
  (.ret [(.c (.int .u64 0)), (.v 6)])
 (.call 57 1 false [] [(.v 1), (.v 2), (.v 3)]
 (.loop 1 [(.c (.int .i64 0))] ir47p2))))))))
theorem rd47 : readFn T SG sigs 3000 sg47 Tryz.f26 an47 = some ir47 := by kernel_rfl
def an48 : Ann := .z
def ir48 : IR :=
 (.op (.bin .shl false) [(.c (.int .u64 1)), (.v 0)]
 (.op (.bin .sub false) [(.c (.int .u64 64)), (.v 1)]
 (.op (.bin .shr false) [(.c (.int .u64 18446744073709551615)), (.v 2)]
 (.ret [(.v 3)]))))
theorem rd48 : readFn T SG sigs 3000 sg48 Tryz.f74 an48 = some ir48 := by kernel_rfl
def an49 : Ann := .z
def ir49 : IR :=
 (.op .lenL [(.v 0)]
 (.op (.conv .u64) [(.v 1)]
 (.op (.bin .shl false) [(.c (.int .i64 1)), (.v 2)]
 (.ret [(.v 3)]))))
theorem rd49 : readFn T SG sigs 3000 sg49 Tryz.f57 an49 = some ir49 := by kernel_rfl
def an50 : Ann := (.s none .z (.s none .z (.s none .z (.s none .z (.s none .z (.s none .z (.s none (.b (.s none .z (.c .z (.s (some ⟨1, [(0, .junk), (1, .junk), (9, .junk), (10, .junk), (11, .junk), (12, .junk), (13, .junk), (15, .junk), (16, .junk), (17, .junk), (18, .junk), (19, .junk), (20, .junk), (21, .junk), (23, .junk), (24, .junk), (25, .junk), (26, .junk), (27, .junk), (28, .junk), (29, .junk), (30, .junk), (31, .junk), (32, .junk), (33, .junk), (34, .junk), (35, .junk), (36, .junk), (37, .junk), (38, .junk), (39, .junk), (40, .junk), (41, .junk), (42, .junk), (43, .junk), (44, .junk), (45, .junk), (47, (.atm (.v 0)))], [], 18, []⟩) .z (.c .z (.s none .z (.c .z (.s (some ⟨1, [(47, .junk), (57, .junk), (58, .junk), (59, .junk), (60, .junk), (64, (.atm (.v 0)))], [], 18, []⟩) .z .z)))))))) .z)))))))
def ir50p0 : IR :=
 (.ite (.v 26)
  (.ret [(.c (.int .i64 4)), (.c (.str [])), (.v 10)])
 (.op (.bin .eql false) [(.v 14), (.c (.int .i64 2))]
 (.ite (.v 27)
  (.call 63 3 false [] [(.c (.int .i64 5)), (.c (.int .i64 4)), (.c (.str [])), (.v 10), (.v 20), (.v 21), (.v 22)]
  (.ret [(.v 28), (.v 29), (.v 30)]))
 (.op (.bin .eql false) [(.v 20), (.c (.int .i64 1))]
 (.ite (.v 28)
  (.call 63 3 false [] [(.c (.int .i64 6)), (.c (.int .i64 4)), (.c (.str [])), (.v 10), (.v 14), (.v 15), (.v 16)]
  (.ret [(.v 29), (.v 30), (.v 31)]))
 (.op (.bin .eql false) [(.v 20), (.c (.int .i64 2))]
 (.ite (.v 29)
  (.call 63 3 false [] [(.c (.int .i64 5)), (.c (.int .i64 3)), (.v 9), (.c (.sl [])), (.v 14), (.v 15), (.v 16)]
  (.ret [(.v 30), (.v 31), (.v 32)]))
 (.call 63 3 false [] [(.c (.int .i64 5)), (.c (.int .i64 3)), (.v 9), (.c (.sl [])), (.v 14), (.v 15), (.v 16)]
 (.call 63 3 false [] [(.c (.int .i64 5)), (.c (.int .i64 4)), (.c (.str [])), (.v 10), (.v 20), (.v 21), (.v 22)]
 (.call 63 3 false [] [(.c (.int .i64 6)), (.v 30), (.v 31), (.v 32), (.v 33), (.v 34), (.v 35)]
 (.ret [(.v 36), (.v 37), (.v 38)])))))))))))
def ir50p1 : IR :=
 (.ite (.v 24)
  (.ret [(.c (.int .i64 3)), (.v 9), (.c (.sl []))])
 (.op (.bin .eql false) [(.v 14), (.c (.int .i64 1))]
 (.ite (.v 25)
  (.call 63 3 false [] [(.c (.int .i64 6)), (.c (.int .i64 3)), (.v 9), (.c (.sl [])), (.v 20), (.v 21), (.v 22)]
  (.ret [(.v 26), (.v 27), (.v 28)]))
 (.letj 1
  (.op (.bin .eql false) [(.v 14), (.c (.int .i64 2))]
  (.ite (.v 26)
   (.op (.bin .eql false) [(.v 20), (.c (.int .i64 1))]
   (.jump 0 [(.v 27)]))
  (.jump 0 [(.c (.bool false))])))
 ir50p0))))
def ir50 : IR :=
 (.call 36 1 false [] [(.v 0)]
 (.op (.bin .and false) [(.v 1), (.v 2)]
 (.op (.bin .eql false) [(.v 3), (.c (.int .u64 0))]
 (.ite (.v 4)
  (.ret [(.c (.int .i64 2)), (.c (.str [])), (.c (.sl []))])
 (.call 36 1 false [] [(.v 0)]
 (.op (.bin .and false) [(.v 1), (.v 5)]
 (.call 36 1 false [] [(.v 0)]
 (.op (.bin .eql false) [(.v 6), (.v 7)]
 (.ite (.v 8)
  (.ret [(.c (.int .i64 1)), (.c (.str [])), (.c (.sl []))])
 (.op (.row 1) [(.v 0), (.c (.int .i64 0))]
 (.op (.mk 3 1) [(.c (.int .i64 3)), (.v 9), (.c (.sl []))]
 (.op .lenL [(.v 0)]
 (.op (.subL 1) [(.v 0), (.c (.int .i64 1)), (.v 11)]
 (.call 61 1 false [] [(.v 0), (.v 1), (.c (.int .i64 1))]
 (.call 50 3 false [] [(.v 12), (.v 13)]
 (.op .lenL [(.v 0)]
 (.op (.subL 1) [(.v 0), (.c (.int .i64 1)), (.v 17)]
 (.call 61 1 false [] [(.v 0), (.v 1), (.c (.int .i64 0))]
 (.call 50 3 false [] [(.v 18), (.v 19)]
 (.call 62 1 false [] [(.v 14), (.v 15), (.v 16), (.v 20), (.v 21), (.v 22)]
 (.ite (.v 23)
  (.ret [(.v 14), (.v 15), (.v 16)])
 (.letj 1
  (.op (.bin .eql false) [(.v 14), (.c (.int .i64 1))]
  (.ite (.v 24)
   (.op (.bin .eql false) [(.v 20), (.c (.int .i64 2))]
   (.jump 0 [(.v 25)]))
  (.jump 0 [(.c (.bool false))])))
 ir50p1))))))))))))))))))))))
theorem rd50 : readFn T SG sigs 3000 sg50 Tryz.f98 an50 = some ir50 := by kernel_rfl
def an52 : Ann := (.s none .z (.s none (.b (.s (some ⟨1, [(0, .junk), (2, .junk), (3, (.atm (.v 0)))], [], 1, []⟩) .z .z)) .z))
def ir52p0 : IR :=
 (.ite (.v 3)
  (.ret [(.c (.int .i64 2))])
 (.call 66 1 false [] [(.v 0), (.v 1), (.v 2)]
 (.op (.un .not) [(.v 4)]
 (.ite (.v 5)
  (.ret [(.c (.int .i64 4))])
 (.call 67 1 false [] [(.v 0), (.v 1), (.v 2)]
 (.op (.un .not) [(.v 6)]
 (.ite (.v 7)
  (.ret [(.c (.int .i64 3))])
 (.ret [(.c (.int .i64 0))]))))))))
def ir52 : IR :=
 (.letj 1
  (.call 64 1 false [] [(.v 0), (.v 1), (.v 2)]
  (.op (.bin .gtr false) [(.v 3), (.c (.int .i64 600))]
  (.ite (.v 4)
   (.jump 0 [(.c (.bool true))])
  (.call 65 1 false [] [(.v 0), (.v 1), (.v 2)]
  (.op (.bin .gtr false) [(.v 5), (.c (.int .i64 20))]
  (.jump 0 [(.v 6)]))))))
 ir52p0)
theorem rd52 : readFn T SG sigs 3000 sg52 Tryz.f50 an52 = some ir52 := by kernel_rfl
def an54 : Ann := .z
def ir54 : IR :=
 (.call 68 1 false [] [(.v 0), (.v 1)]
 (.op (.bin .geq false) [(.v 2), (.c (.int .i64 0))]
 (.ret [(.v 3)])))
theorem rd54 : readFn T SG sigs 3000 sg54 Tryz.f52 an54 = some ir54 := by kernel_rfl
def an55 : Ann := (.s none .z (.s none (.s none .z (.b (.s none .z (.c .z (.s none .z (.c .z (.s none .z (.c .z (.s none .z (.c .z (.s none .z (.c .z (.s none .z (.c (.s none .z (.s none (.s none .z (.b (.l ⟨2, [(1, .junk), (3, .junk), (4, .junk), (5, (.atm (.v 0))), (11, .junk), (12, .junk), (13, .junk), (14, .junk), (15, .junk), (16, .junk), (22, .junk), (23, .junk), (31, .junk), (32, .junk), (47, .junk), (48, .junk), (63, .junk), (64, .junk), (65, .junk), (68, (.atm (.v 1)))], [], 1, []⟩ .z))) .z)) .z)))))))))))))) (.s none .z (.s none (.s none .z (.b (.l ⟨2, [(1, .junk), (3, .junk), (4, .junk), (8, (.atm (.v 0))), (11, .junk), (12, .junk), (13, .junk), (14, .junk), (15, .junk), (16, .junk), (22, .junk), (23, .junk), (31, .junk), (32, .junk), (47, .junk), (48, .junk), (63, .junk), (64, .junk), (79, .junk), (82, (.atm (.v 1)))], [], 1, []⟩ .z))) .z))))
def ir55p0 : IR :=
 (.op (.bin .lss false) [(.v 12), (.v 10)]
 (.ite (.v 13)
  (.op (.row 3) [(.v 3), (.v 12)]
  (.call 55 1 false [] [(.v 0), (.v 14), (.v 15), (.v 16)]
  (.op (.bin .and false) [(.v 11), (.v 17)]
  (.op (.bin .add false) [(.v 12), (.c (.int .i64 1))]
  (.jump 0 [(.v 18), (.v 19)])))))
 (.ret [(.v 11)])))
def ir55p1 : IR :=
 (.op (.bin .lss false) [(.v 12), (.v 10)]
 (.ite (.v 13)
  (.op (.row 3) [(.v 3), (.v 12)]
  (.call 55 1 false [] [(.v 0), (.v 14), (.v 15), (.v 16)]
  (.op (.bin .or false) [(.v 11), (.v 17)]
  (.op (.bin .add false) [(.v 12), (.c (.int .i64 1))]
  (.jump 0 [(.v 18), (.v 19)])))))
 (.ret [(.v 11)])))
def ir55 : IR :=
 (.op (.bin .eql false) [(.v 1), (.c (.int .i64 1))]
 (.ite (.v 4)
  (.ret [(.c (.int .u64 18446744073709551615))])
 (.op (.bin .eql false) [(.v 1), (.c (.int .i64 3))]
 (.ite (.v 5)
  (.call 68 1 false [] [(.v 0), (.v 2)]
  (.call 69 1 false [] [(.v 6)]
  (.ret [(.v 7)])))
 (.op (.bin .eql false) [(.v 1), (.c (.int .i64 4))]
 (.ite (.v 6)
  (.op (.row 3) [(.v 3), (.c (.int .i64 0))]
  (.call 55 1 false [] [(.v 0), (.v 7), (.v 8), (.v 9)]
  (.op (.un .xor) [(.v 10)]
  (.ret [(.v 11)]))))
 (.op (.bin .eql false) [(.v 1), (.c (.int .i64 7))]
 (.ite (.v 7)
  (.op (.row 3) [(.v 3), (.c (.int .i64 0))]
  (.call 55 1 false [] [(.v 0), (.v 8), (.v 9), (.v 10)]
  (.op (.un .xor) [(.v 11)]
  (.op (.row 3) [(.v 3), (.c (.int .i64 1))]
  (.call 55 1 false [] [(.v 0), (.v 13), (.v 14), (.v 15)]
  (.op (.bin .or false) [(.v 12), (.v 16)]
  (.ret [(.v 17)])))))))
 (.op (.bin .eql false) [(.v 1), (.c (.int .i64 8))]
 (.ite (.v 8)
  (.op (.row 3) [(.v 3), (.c (.int .i64 0))]
  (.call 55 1 false [] [(.v 0), (.v 9), (.v 10), (.v 11)]
  (.op (.row 3) [(.v 3), (.c (.int .i64 1))]
  (.call 55 1 false [] [(.v 0), (.v 13), (.v 14), (.v 15)]
  (.op (.bin .xor false) [(.v 12), (.v 16)]
  (.op (.un .xor) [(.v 17)]
  (.ret [(.v 18)])))))))
 (.op (.bin .eql false) [(.v 1), (.c (.int .i64 5))]
 (.ite (.v 9)
  (.op .lenL [(.v 3)]
  (.loop 2 [(.c (.int .u64 18446744073709551615)), (.c (.int .i64 0))] ir55p0))
 (.op .lenL [(.v 3)]
 (.loop 2 [(.c (.int .u64 0)), (.c (.int .i64 0))] ir55p1))))))))))))))
theorem rd55 : readFn T SG sigs 3000 sg55 Tryz.f53 an55 = some ir55 := by kernel_rfl
def an56 : Ann := (.s none .z (.s none (.s (some ⟨1, [(0, .junk), (2, .junk), (10, (.atm (.v 0)))], [], 1, []⟩) .z .z) .z))
def ir56p0 : IR :=
 (.ite (.v 3)
  (.ret [(.c (.int .i64 2))])
 (.call 72 1 false [] [(.v 0), (.v 1), (.v 2)]
 (.op (.un .not) [(.v 4)]
 (.ite (.v 5)
  (.ret [(.c (.int .i64 4))])
 (.call 73 1 false [] [(.v 0), (.v 1), (.v 2)]
 (.op (.un .not) [(.v 6)]
 (.ite (.v 7)
  (.ret [(.c (.int .i64 3))])
 (.ret [(.c (.int .i64 0))]))))))))
def ir56 : IR :=
 (.letj 1
  (.call 70 1 false [] [(.v 0), (.v 1), (.v 2)]
  (.op (.bin .gtr false) [(.v 3), (.c (.int .i64 600))]
  (.ite (.v 4)
   (.jump 0 [(.c (.bool true))])
  (.call 71 1 false [] [(.v 0), (.v 1), (.v 2)]
  (.op (.bin .gtr false) [(.v 5), (.c (.int .i64 20))]
  (.jump 0 [(.v 6)]))))))
 ir56p0)
theorem rd56 : readFn T SG sigs 3000 sg56 Tryz.f54 an56 = some ir56 := by kernel_rfl
def an57 : Ann := .z
def ir57 : IR :=
 (.call 74 1 false [] [(.c (.sl [])), (.v 0), (.v 1), (.v 2)]
 (.ret [(.v 3)]))
theorem rd57 : readFn T SG sigs 3000 sg57 Tryz.f55 an57 = some ir57 := by kernel_rfl
def an58 : Ann := (.s none .z (.s none (.s none .z (.b (.l ⟨1, [(4, .junk), (5, (.atm (.v 0)))], [], 0, []⟩ .z))) .z))
def ir58p0 : IR :=
 (.op .lenL [(.v 0)]
 (.op (.bin .lss false) [(.v 2), (.v 3)]
 (.ite (.v 4)
  (.op (.row 1) [(.v 0), (.v 2)]
  (.op (.bin .eql false) [(.v 5), (.v 1)]
  (.ite (.v 6)
   (.ret [(.v 2)])
  (.op (.bin .add false) [(.v 2), (.c (.int .i64 1))]
  (.jump 0 [(.v 7)])))))
 (.ret [(.c (.int .i64 (-1)))]))))
def ir58 : IR :=
 (.loop 1 [(.c (.int .i64 0))] ir58p0)
theorem rd58 : readFn T SG sigs 3000 sg58 Tryz.f56 an58 = some ir58 := by kernel_rfl
def an59 : Ann := (.s none .z (.s none .z (.s none (.s none .z (.b (.l ⟨2, [(4, .junk), (6, (.atm (.v 0)))], [(0, ⟨false, true, 9, 1, (.v 1), []⟩)], 1, [⟨none, 5, 9, 1⟩]⟩ (.s none .z (.s (some ⟨1, [(7, .junk), (8, .junk), (9, .junk), (10, .junk)], [(0, ⟨false, true, 9, 1, (.v 0), []⟩)], 1, []⟩) .z .z))))) .z)))
def ir59p0 : IR :=
 (.op (.bin .add false) [(.v 2), (.c (.int .i64 1))]
 (.jump 0 [(.v 7), (.v 6)]))
def ir59p1 : IR :=
 (.op .lenL [(.v 0)]
 (.op (.bin .lss false) [(.v 2), (.v 4)]
 (.ite (.v 5)
  (.letj 1
   (.op (.conv .u64) [(.v 2)]
   (.op (.bin .shr false) [(.v 1), (.v 6)]
   (.op (.bin .and false) [(.v 7), (.c (.int .i64 1))]
   (.op (.bin .eql false) [(.v 8), (.c (.int .i64 1))]
   (.ite (.v 9)
    (.op (.row 1) [(.v 0), (.v 2)]
    (.op (.mk 1 1) [(.v 10)]
    (.op (.app 1 16) [(.v 3), (.v 11)]
    (.jump 1 [(.v 12)]))))
   (.jump 1 [(.v 3)]))))))
  ir59p0)
 (.ret [(.v 3)]))))
def ir59 : IR :=
 (.loop 2 [(.c (.int .i64 0)), (.c (.sl []))] ir59p1)
theorem rd59 : readFn T SG sigs 3000 sg59 Tryz.f59 an59 = some ir59 := by kernel_rfl
def an60 : Ann := .z
def ir60 : IR :=
 (.call 72 1 false [] [(.v 0), (.v 1), (.v 2)]
 (.ite (.v 4)
  (.call 73 1 false [] [(.v 0), (.v 1), (.v 2)]
  (.ite (.v 5)
   (.call 75 1 false [] [(.v 0), (.v 1), (.v 2), (.v 3)]
   (.ret [(.v 6)]))
  (.ret [(.c (.bool false))])))
 (.ret [(.c (.bool false))])))
theorem rd60 : readFn T SG sigs 3000 sg60 Tryz.f58 an60 = some ir60 := by kernel_rfl
def an61 : Ann := (.s none .z (.s none .z (.s none (.s none .z (.b (.l ⟨2, [(6, .junk), (7, (.atm (.v 0))), (8, (.atm (.v 1)))], [], 0, []⟩ (.s none .z (.s (some ⟨1, [(7, (.atm (.v 0))), (9, .junk), (10, .junk), (11, .junk), (12, .junk)], [], 0, []⟩) (.b (.s (some ⟨1, [(9, .junk), (10, .junk), (11, .junk), (12, .junk), (23, (.atm (.v 0)))], [], 0, []⟩) .z .z)) .z))))) .z)))
def ir61p0 : IR :=
 (.op (.bin .add false) [(.v 4), (.c (.int .i64 1))]
 (.jump 0 [(.v 7), (.v 8)]))
def ir61p1 : IR :=
 (.ite (.v 7)
  (.op (.bin .shr false) [(.v 4), (.c (.int .u64 1))]
  (.op (.conv .u64) [(.v 8)]
  (.op (.bin .shl false) [(.c (.int .u64 1)), (.v 9)]
  (.op (.bin .or false) [(.v 3), (.v 10)]
  (.jump 1 [(.v 11)])))))
 (.jump 1 [(.v 3)]))
def ir61p2 : IR :=
 (.call 49 1 false [] [(.v 0)]
 (.op (.bin .lss false) [(.v 4), (.v 5)]
 (.ite (.v 6)
  (.letj 1
   (.letj 1
    (.call 76 1 false [] [(.v 1), (.v 4)]
    (.ite (.v 7)
     (.op (.bin .and false) [(.v 4), (.c (.int .i64 1))]
     (.op (.bin .eql false) [(.v 8), (.v 2)]
     (.jump 2 [(.v 9)])))
    (.jump 2 [(.c (.bool false))])))
   ir61p1)
  ir61p0)
 (.ret [(.v 3)]))))
def ir61 : IR :=
 (.loop 2 [(.c (.int .u64 0)), (.c (.int .i64 0))] ir61p2)
theorem rd61 : readFn T SG sigs 3000 sg61 Tryz.f112 an61 = some ir61 := by kernel_rfl
def an62 : Ann := (.s none .z (.s none (.s (some ⟨1, [(0, .junk), (1, .junk), (4, .junk), (26, (.atm (.v 0)))], [], 2, []⟩) .z .z) (.s none (.s none .z (.b (.l ⟨1, [(5, (.atm (.v 0))), (26, .junk)], [], 2, []⟩ .z))) .z)))
def ir62p0 : IR :=
 (.op .lenL [(.v 2)]
 (.op (.bin .lss false) [(.v 7), (.v 8)]
 (.ite (.v 9)
  (.op (.row 3) [(.v 2), (.v 7)]
  (.op (.row 3) [(.v 5), (.v 7)]
  (.call 62 1 false [] [(.v 10), (.v 11), (.v 12), (.v 13), (.v 14), (.v 15)]
  (.op (.un .not) [(.v 16)]
  (.ite (.v 17)
   (.ret [(.c (.bool false))])
  (.op (.bin .add false) [(.v 7), (.c (.int .i64 1))]
  (.jump 0 [(.v 18)])))))))
 (.ret [(.c (.bool true))]))))
def ir62p1 : IR :=
 (.ite (.v 6)
  (.ret [(.c (.bool false))])
 (.loop 1 [(.c (.int .i64 0))] ir62p0))
def ir62 : IR :=
 (.letj 1
  (.op (.bin .neq false) [(.v 0), (.v 3)]
  (.ite (.v 6)
   (.jump 0 [(.c (.bool true))])
  (.op (.bin .neq false) [(.v 1), (.v 4)]
  (.ite (.v 7)
   (.jump 0 [(.c (.bool true))])
  (.op .lenL [(.v 2)]
  (.op .lenL [(.v 5)]
  (.op (.bin .neq false) [(.v 8), (.v 9)]
  (.jump 0 [(.v 10)]))))))))
 ir62p1)
theorem rd62 : readFn T SG sigs 3000 sg62 Tryz.f113 an62 = some ir62 := by kernel_rfl
def an63 : Ann := .z
def ir63 : IR :=
 (.op (.mk 3 2) [(.v 1), (.v 2), (.v 3), (.v 4), (.v 5), (.v 6)]
 (.ret [(.v 0), (.c (.str [])), (.v 7)]))
theorem rd63 : readFn T SG sigs 3000 sg63 Tryz.f114 an63 = some ir63 := by kernel_rfl
def an64 : Ann := (.s none .z (.s none .z (.s none (.s none .z (.b (.l ⟨2, [(0, .junk), (1, .junk), (2, .junk), (3, (.atm (.v 0))), (6, .junk), (9, (.atm (.v 1)))], [], 1, []⟩ .z))) .z)))
def ir64p0 : IR :=
 (.op (.bin .lss false) [(.v 5), (.v 3)]
 (.ite (.v 6)
  (.op (.row 3) [(.v 2), (.v 5)]
  (.call 64 1 false [] [(.v 7), (.v 8), (.v 9)]
  (.op (.bin .add false) [(.v 4), (.v 10)]
  (.op (.bin .add false) [(.v 5), (.c (.int .i64 1))]
  (.jump 0 [(.v 11), (.v 12)])))))
 (.ret [(.v 4)])))
def ir64 : IR :=
 (.op .lenL [(.v 2)]
 (.loop 2 [(.c (.int .i64 1)), (.c (.int .i64 0))] ir64p0))
theorem rd64 : readFn T SG sigs 3000 sg64 Tryz.f75 an64 = some ir64 := by kernel_rfl
def an65 : Ann := (.s none .z (.s none .z (.s none (.s none .z (.b (.l ⟨2, [(0, .junk), (1, .junk), (2, .junk), (3, (.atm (.v 0))), (6, .junk), (9, (.atm (.v 1)))], [], 1, []⟩ .z))) .z)))
def ir65p0 : IR :=
 (.op (.bin .lss false) [(.v 5), (.v 3)]
 (.ite (.v 6)
  (.op (.row 3) [(.v 2), (.v 5)]
  (.call 65 1 false [] [(.v 7), (.v 8), (.v 9)]
  (.op (.bin .add false) [(.c (.int .i64 1)), (.v 10)]
  (.op .max [(.v 4), (.v 11)]
  (.op (.bin .add false) [(.v 5), (.c (.int .i64 1))]
  (.jump 0 [(.v 12), (.v 13)]))))))
 (.ret [(.v 4)])))
def ir65 : IR :=
 (.op .lenL [(.v 2)]
 (.loop 2 [(.c (.int .i64 0)), (.c (.int .i64 0))] ir65p0))
theorem rd65 : readFn T SG sigs 3000 sg65 Tryz.f76 an65 = some ir65 := by kernel_rfl
def an66 : Ann := (.s none .z (.s none .z (.s none (.s none .z (.b (.l ⟨1, [(0, .junk), (2, .junk), (4, .junk), (7, .junk), (8, .junk), (9, .junk), (10, .junk), (11, .junk), (14, (.atm (.v 0)))], [], 1, []⟩ .z))) .z)))
def ir66p0 : IR :=
 (.op (.bin .lss false) [(.v 6), (.v 5)]
 (.ite (.v 7)
  (.op (.row 3) [(.v 2), (.v 6)]
  (.call 66 1 false [] [(.v 8), (.v 9), (.v 10)]
  (.op (.un .not) [(.v 11)]
  (.ite (.v 12)
   (.ret [(.c (.bool false))])
  (.op (.bin .add false) [(.v 6), (.c (.int .i64 1))]
  (.jump 0 [(.v 13)]))))))
 (.ret [(.c (.bool true))])))
def ir66 : IR :=
 (.call 77 1 false [] [(.v 0), (.v 1), (.v 2)]
 (.op (.un .not) [(.v 3)]
 (.ite (.v 4)
  (.ret [(.c (.bool false))])
 (.op .lenL [(.v 2)]
 (.loop 1 [(.c (.int .i64 0))] ir66p0)))))
theorem rd66 : readFn T SG sigs 3000 sg66 Tryz.f77 an66 = some ir66 := by kernel_rfl
def an67 : Ann := (.s none .z (.s none .z (.s none (.s none .z (.b (.l ⟨1, [(0, .junk), (2, .junk), (4, .junk), (7, .junk), (8, .junk), (9, .junk), (10, .junk), (11, .junk), (14, (.atm (.v 0)))], [], 1, []⟩ .z))) .z)))
def ir67p0 : IR :=
 (.op (.bin .lss false) [(.v 6), (.v 5)]
 (.ite (.v 7)
  (.op (.row 3) [(.v 2), (.v 6)]
  (.call 67 1 false [] [(.v 8), (.v 9), (.v 10)]
  (.op (.un .not) [(.v 11)]
  (.ite (.v 12)
   (.ret [(.c (.bool false))])
  (.op (.bin .add false) [(.v 6), (.c (.int .i64 1))]
  (.jump 0 [(.v 13)]))))))
 (.ret [(.c (.bool true))])))
def ir67 : IR :=
 (.call 78 1 false [] [(.v 0), (.v 1), (.v 2)]
 (.op (.un .not) [(.v 3)]
 (.ite (.v 4)
  (.ret [(.c (.bool false))])
 (.op .lenL [(.v 2)]
 (.loop 1 [(.c (.int .i64 0))] ir67p0)))))
theorem rd67 : readFn T SG sigs 3000 sg67 Tryz.f77 an67 = some ir67 := by kernel_rfl
def an68 : Ann := (.s none .z (.s none (.s none .z (.b (.l ⟨1, [(4, .junk), (6, .junk), (8, (.atm (.v 0)))], [], 0, []⟩ .z))) .z))
def ir68p0 : IR :=
 (.op (.bin .lss false) [(.v 3), (.v 2)]
 (.ite (.v 4)
  (.op (.row 1) [(.v 0), (.v 3)]
  (.op (.bin .eql false) [(.v 1), (.v 5)]
  (.ite (.v 6)
   (.ret [(.v 3)])
  (.op (.bin .add false) [(.v 3), (.c (.int .i64 1))]
  (.jump 0 [(.v 7)])))))
 (.ret [(.c (.int .i64 (-1)))])))
def ir68 : IR :=
 (.op .lenL [(.v 0)]
 (.loop 1 [(.c (.int .i64 0))] ir68p0))
theorem rd68 : readFn T SG sigs 3000 sg68 Tryz.f83 an68 = some ir68 := by kernel_rfl
def an69 : Ann := (.s none .z (.s none .z (.s none (.s none .z (.b (.l ⟨2, [(2, .junk), (3, (.atm (.v 0))), (5, (.atm (.v 1)))], [], 0, []⟩ .z))) .z)))
def ir69p0 : IR :=
 (.op (.bin .lss false) [(.v 2), (.c (.int .i64 64))]
 (.ite (.v 3)
  (.op (.bin .shr false) [(.v 2), (.v 0)]
  (.op (.bin .and false) [(.v 4), (.c (.int .i64 1))]
  (.op (.conv .u64) [(.v 5)]
  (.op (.bin .shl false) [(.v 6), (.v 2)]
  (.op (.bin .or false) [(.v 1), (.v 7)]
  (.op (.bin .add false) [(.v 2), (.c (.int .i64 1))]
  (.jump 0 [(.v 8), (.v 9)])))))))
 (.ret [(.v 1)])))
def ir69 : IR :=
 (.loop 2 [(.c (.int .u64 0)), (.c (.int .i64 0))] ir69p0)
theorem rd69 : readFn T SG sigs 3000 sg69 Tryz.f84 an69 = some ir69 := by kernel_rfl
def an70 : Ann := (.s none .z (.s none .z (.s none (.s none .z (.b (.l ⟨2, [(0, .junk), (2, .junk), (3, (.atm (.v 0))), (4, (.atm (.v 1)))], [], 1, []⟩ .z))) .z)))
def ir70p0 : IR :=
 (.op .lenL [(.v 2)]
 (.op (.bin .lss false) [(.v 4), (.v 5)]
 (.ite (.v 6)
  (.op (.row 3) [(.v 2), (.v 4)]
  (.call 70 1 false [] [(.v 7), (.v 8), (.v 9)]
  (.op (.bin .add false) [(.v 3), (.v 10)]
  (.op (.bin .add false) [(.v 4), (.c (.int .i64 1))]
  (.jump 0 [(.v 11), (.v 12)])))))
 (.ret [(.v 3)]))))
def ir70 : IR :=
 (.loop 2 [(.c (.int .i64 1)), (.c (.int .i64 0))] ir70p0)
theorem rd70 : readFn T SG sigs 3000 sg70 Tryz.f85 an70 = some ir70 := by kernel_rfl
def an71 : Ann := (.s none .z (.s none .z (.s none (.s none .z (.b (.l ⟨2, [(0, .junk), (2, .junk), (3, (.atm (.v 0))), (4, (.atm (.v 1)))], [], 1, []⟩ .z))) .z)))
def ir71p0 : IR :=
 (.op .lenL [(.v 2)]
 (.op (.bin .lss false) [(.v 4), (.v 5)]
 (.ite (.v 6)
  (.op (.row 3) [(.v 2), (.v 4)]
  (.call 71 1 false [] [(.v 7), (.v 8), (.v 9)]
  (.op (.bin .add false) [(.c (.int .i64 1)), (.v 10)]
  (.op .max [(.v 3), (.v 11)]
  (.op (.bin .add false) [(.v 4), (.c (.int .i64 1))]
  (.jump 0 [(.v 12), (.v 13)]))))))
 (.ret [(.v 3)]))))
def ir71 : IR :=
 (.loop 2 [(.c (.int .i64 0)), (.c (.int .i64 0))] ir71p0)
theorem rd71 : readFn T SG sigs 3000 sg71 Tryz.f86 an71 = some ir71 := by kernel_rfl
def an72 : Ann := (.s none .z (.s none .z (.s none .z (.s (some ⟨1, [(0, .junk), (2, .junk), (4, (.atm (.v 0))), (6, .junk), (7, .junk), (8, .junk)], [], 1, []⟩) (.s none .z (.b (.s (some ⟨1, [(0, .junk), (2, .junk), (6, .junk), (7, .junk), (8, .junk), (9, .junk), (11, (.atm (.v 0)))], [], 1, []⟩) .z (.c .z (.s none .z (.c .z (.s (some ⟨1, [(11, .junk), (17, .junk), (18, .junk), (21, (.atm (.v 0)))], [], 1, []⟩) .z (.c .z (.s (some ⟨1, [(10, .junk), (21, .junk), (30, (.atm (.v 0)))], [], 1, []⟩) .z .z))))))))) (.s none (.s none .z (.b (.l ⟨2, [(4, (.atm (.v 0))), (5, (.atm (.v 1)))], [], 1, []⟩ (.s none .z (.s (some ⟨1, [(4, (.atm (.v 0))), (35, .junk), (36, .junk), (37, .junk)], [], 1, []⟩) .z .z))))) .z)))))
def ir72p0 : IR :=
 (.op (.bin .add false) [(.v 6), (.c (.int .i64 1))]
 (.jump 0 [(.v 8), (.v 9)]))
def ir72p1 : IR :=
 (.op (.bin .lss false) [(.v 6), (.v 3)]
 (.ite (.v 7)
  (.letj 1
   (.ite (.v 5)
    (.op (.row 3) [(.v 2), (.v 6)]
    (.call 72 1 false [] [(.v 8), (.v 9), (.v 10)]
    (.jump 1 [(.v 11)])))
   (.jump 1 [(.c (.bool false))]))
  ir72p0)
 (.ret [(.v 5)])))
def ir72p2 : IR :=
 (.loop 2 [(.v 4), (.c (.int .i64 0))] ir72p1)
def ir72p3 : IR :=
 (.ite (.v 7)
  (.op (.bin .eql false) [(.v 3), (.c (.int .i64 2))]
  (.jump 0 [(.v 8)]))
 (.jump 0 [(.c (.bool false))]))
def ir72p4 : IR :=
 (.ite (.v 6)
  (.op (.bin .geq false) [(.v 3), (.c (.int .i64 2))]
  (.ite (.v 7)
   (.op (.bin .leq false) [(.v 3), (.c (.int .i64 6))]
   (.jump 0 [(.v 8)]))
  (.jump 0 [(.c (.bool false))])))
 (.letj 1
  (.op (.bin .eql false) [(.v 0), (.c (.int .i64 7))]
  (.ite (.v 7)
   (.jump 1 [(.c (.bool true))])
  (.op (.bin .eql false) [(.v 0), (.c (.int .i64 8))]
  (.jump 1 [(.v 8)]))))
 ir72p3))
def ir72p5 : IR :=
 (.ite (.v 4)
  (.op (.bin .eql false) [(.v 3), (.c (.int .i64 0))]
  (.jump 0 [(.v 5)]))
 (.op (.bin .eql false) [(.v 0), (.c (.int .i64 4))]
 (.ite (.v 5)
  (.op (.bin .eql false) [(.v 3), (.c (.int .i64 1))]
  (.jump 0 [(.v 6)]))
 (.letj 1
  (.op (.bin .eql false) [(.v 0), (.c (.int .i64 5))]
  (.ite (.v 6)
   (.jump 1 [(.c (.bool true))])
  (.op (.bin .eql false) [(.v 0), (.c (.int .i64 6))]
  (.jump 1 [(.v 7)]))))
 ir72p4))))
def ir72 : IR :=
 (.op .lenL [(.v 2)]
 (.letj 1
  (.letj 1
   (.op (.bin .eql false) [(.v 0), (.c (.int .i64 1))]
   (.ite (.v 4)
    (.jump 1 [(.c (.bool true))])
   (.op (.bin .eql false) [(.v 0), (.c (.int .i64 2))]
   (.ite (.v 5)
    (.jump 1 [(.c (.bool true))])
   (.op (.bin .eql false) [(.v 0), (.c (.int .i64 3))]
   (.jump 1 [(.v 6)]))))))
  ir72p5)
 ir72p2))
theorem rd72 : readFn T SG sigs 3000 sg72 Tryz.f87 an72 = some ir72 := by kernel_rfl
def an73 : Ann := (.s none .z (.s none .z (.s (some ⟨1, [(0, .junk), (2, .junk), (3, (.atm (.v 0))), (5, .junk), (6, .junk), (7, .junk)], [], 1, []⟩) .z (.s none (.s none .z (.b (.l ⟨2, [(3, (.atm (.v 0))), (4, (.atm (.v 1)))], [], 1, []⟩ (.s none .z (.s (some ⟨1, [(3, (.atm (.v 0))), (14, .junk), (15, .junk), (16, .junk), (17, .junk), (18, .junk)], [], 1, []⟩) .z .z))))) .z))))
def ir73p0 : IR :=
 (.op (.bin .add false) [(.v 6), (.c (.int .i64 1))]
 (.jump 0 [(.v 9), (.v 10)]))
def ir73p1 : IR :=
 (.op .lenL [(.v 2)]
 (.op (.bin .lss false) [(.v 6), (.v 7)]
 (.ite (.v 8)
  (.letj 1
   (.ite (.v 5)
    (.op (.row 3) [(.v 2), (.v 6)]
    (.call 73 1 false [] [(.v 9), (.v 10), (.v 11)]
    (.jump 1 [(.v 12)])))
   (.jump 1 [(.c (.bool false))]))
  ir73p0)
 (.ret [(.v 5)]))))
def ir73p2 : IR :=
 (.loop 2 [(.v 4), (.c (.int .i64 0))] ir73p1)
def ir73 : IR :=
 (.op (.bin .eql false) [(.v 1), (.c (.str []))]
 (.letj 1
  (.op (.bin .eql false) [(.v 0), (.c (.int .i64 3))]
  (.ite (.v 4)
   (.call 43 1 false [] [(.v 1)]
   (.jump 0 [(.v 5)]))
  (.jump 0 [(.v 3)])))
 ir73p2))
theorem rd73 : readFn T SG sigs 3000 sg73 Tryz.f88 an73 = some ir73 := by kernel_rfl
def an74 : Ann := (.s none .z (.s (some ⟨1, [(0, (.atm (.v 0))), (1, .junk), (4, .junk)], [], 1, []⟩) (.s (some ⟨1, [(1, .junk), (4, .junk), (14, (.atm (.v 0)))], [], 1, []⟩) .z .z) (.s none (.s none .z (.b (.l ⟨2, [(0, (.atm (.v 0))), (5, (.atm (.v 1)))], [], 1, []⟩ .z))) .z)))
def ir74p0 : IR :=
 (.op .lenL [(.v 3)]
 (.op (.bin .lss false) [(.v 6), (.v 7)]
 (.ite (.v 8)
  (.op (.row 3) [(.v 3), (.v 6)]
  (.call 74 1 false [] [(.v 5), (.v 9), (.v 10), (.v 11)]
  (.op (.bin .add false) [(.v 6), (.c (.int .i64 1))]
  (.jump 0 [(.v 12), (.v 13)]))))
 (.ret [(.v 5)]))))
def ir74p1 : IR :=
 (.loop 2 [(.v 4), (.c (.int .i64 0))] ir74p0)
def ir74p2 : IR :=
 (.ite (.v 4)
  (.call 79 1 false [] [(.v 0), (.v 2)]
  (.jump 0 [(.v 5)]))
 (.jump 0 [(.v 0)]))
def ir74 : IR :=
 (.letj 1
  (.letj 1
   (.op (.bin .eql false) [(.v 1), (.c (.int .i64 3))]
   (.ite (.v 4)
    (.op .lenL [(.v 3)]
    (.op (.bin .eql false) [(.v 5), (.c (.int .i64 0))]
    (.jump 1 [(.v 6)])))
   (.jump 1 [(.c (.bool false))])))
  ir74p2)
 ir74p1)
theorem rd74 : readFn T SG sigs 3000 sg74 Tryz.f89 an74 = some ir74 := by kernel_rfl
def an75 : Ann := (.s none .z (.s none (.s none .z (.b (.s none .z (.c .z (.s none .z (.c (.s none (.s none .z (.b (.l ⟨1, [(0, .junk), (4, .junk), (5, (.atm (.v 0))), (8, .junk), (9, .junk), (10, .junk), (11, .junk), (12, .junk), (13, .junk)], [], 1, []⟩ .z))) .z) (.s none .z (.c .z (.s none .z (.c (.s none (.s none .z (.b (.l ⟨1, [(0, .junk), (4, .junk), (6, (.atm (.v 0))), (8, .junk), (9, .junk), (10, .junk), (11, .junk), (12, .junk), (13, .junk), (27, .junk), (28, .junk), (36, .junk), (37, .junk)], [], 1, []⟩ .z))) .z) (.s none .z (.c (.s none (.s none .z (.b (.l ⟨1, [(0, .junk), (4, .junk), (7, (.atm (.v 0))), (8, .junk), (9, .junk), (10, .junk), (11, .junk), (12, .junk), (13, .junk), (27, .junk), (28, .junk), (36, .junk), (37, .junk), (53, .junk), (54, .junk)], [], 1, []⟩ .z))) .z) .z)))))))))))) .z))
def ir75p0 : IR :=
 (.op .lenL [(.v 3)]
 (.op (.bin .lss false) [(.v 6), (.v 7)]
 (.ite (.v 8)
  (.op (.row 1) [(.v 3), (.v 6)]
  (.op (.bin .eql false) [(.v 9), (.v 1)]
  (.ite (.v 10)
   (.ret [(.c (.bool true))])
  (.op (.bin .add false) [(.v 6), (.c (.int .i64 1))]
  (.jump 0 [(.v 11)])))))
 (.ret [(.c (.bool false))]))))
def ir75p1 : IR :=
 (.op .lenL [(.v 2)]
 (.op (.bin .lss false) [(.v 8), (.v 9)]
 (.ite (.v 10)
  (.op (.row 3) [(.v 2), (.v 8)]
  (.call 75 1 false [] [(.v 11), (.v 12), (.v 13), (.v 3)]
  (.op (.un .not) [(.v 14)]
  (.ite (.v 15)
   (.ret [(.c (.bool false))])
  (.op (.bin .add false) [(.v 8), (.c (.int .i64 1))]
  (.jump 0 [(.v 16)]))))))
 (.ret [(.c (.bool true))]))))
def ir75p2 : IR :=
 (.op .lenL [(.v 2)]
 (.op (.bin .lss false) [(.v 9), (.v 10)]
 (.ite (.v 11)
  (.op (.row 3) [(.v 2), (.v 9)]
  (.call 75 1 false [] [(.v 12), (.v 13), (.v 14), (.v 3)]
  (.ite (.v 15)
   (.ret [(.c (.bool true))])
  (.op (.bin .add false) [(.v 9), (.c (.int .i64 1))]
  (.jump 0 [(.v 16)])))))
 (.ret [(.c (.bool false))]))))
def ir75 : IR :=
 (.op (.bin .eql false) [(.v 0), (.c (.int .i64 1))]
 (.ite (.v 4)
  (.ret [(.c (.bool true))])
 (.op (.bin .eql false) [(.v 0), (.c (.int .i64 3))]
 (.ite (.v 5)
  (.loop 1 [(.c (.int .i64 0))] ir75p0)
 (.op (.bin .eql false) [(.v 0), (.c (.int .i64 4))]
 (.ite (.v 6)
  (.op (.row 3) [(.v 2), (.c (.int .i64 0))]
  (.call 75 1 false [] [(.v 7), (.v 8), (.v 9), (.v 3)]
  (.op (.un .not) [(.v 10)]
  (.ret [(.v 11)]))))
 (.op (.bin .eql false) [(.v 0), (.c (.int .i64 5))]
 (.ite (.v 7)
  (.loop 1 [(.c (.int .i64 0))] ir75p1)
 (.op (.bin .eql false) [(.v 0), (.c (.int .i64 6))]
 (.ite (.v 8)
  (.loop 1 [(.c (.int .i64 0))] ir75p2)
 (.op (.bin .eql false) [(.v 0), (.c (.int .i64 7))]
 (.ite (.v 9)
  (.op (.row 3) [(.v 2), (.c (.int .i64 0))]
  (.call 75 1 false [] [(.v 10), (.v 11), (.v 12), (.v 3)]
  (.op (.un .not) [(.v 13)]
  (.ite (.v 14)
   (.ret [(.c (.bool true))])
  (.op (.row 3) [(.v 2), (.c (.int .i64 1))]
  (.call 75 1 false [] [(.v 15), (.v 16), (.v 17), (.v 3)]
  (.ret [(.v 18)])))))))
 (.op (.bin .eql false) [(.v 0), (.c (.int .i64 8))]
 (.ite (.v 10)
  (.op (.row 3) [(.v 2), (.c (.int .i64 0))]
  (.call 75 1 false [] [(.v 11), (.v 12), (.v 13), (.v 3)]
  (.op (.row 3) [(.v 2), (.c (.int .i64 1))]
  (.call 75 1 false [] [(.v 15), (.v 16), (.v 17), (.v 3)]
  (.op (.bin .eql true) [(.v 14), (.v 18)]
  (.ret [(.v 19)]))))))
 (.ret [(.c (.bool false))])))))))))))))))
theorem rd75 : readFn T SG sigs 3000 sg75 Tryz.f90 an75 = some ir75 := by kernel_rfl
def an76 : Ann := .z
def ir76 : IR :=
 (.op (.conv .u64) [(.v 1)]
 (.op (.bin .shr false) [(.v 0), (.v 2)]
 (.op (.bin .and false) [(.v 3), (.c (.int .u64 1))]
 (.op (.bin .eql false) [(.v 4), (.c (.int .u64 1))]
 (.ret [(.v 5)])))))
theorem rd76 : readFn T SG sigs 3000 sg76 Tryz.f129 an76 = some ir76 := by kernel_rfl
def an77 : Ann := (.s none .z (.s none .z (.s none (.s none .z (.b (.s (some ⟨1, [(0, .junk), (1, .junk), (2, .junk), (4, .junk), (5, .junk), (6, .junk), (7, .junk), (9, (.atm (.v 0)))], [], 1, []⟩) .z (.c .z (.s none .z (.c .z (.s (some ⟨1, [(9, .junk), (15, .junk), (16, .junk), (19, (.atm (.v 0)))], [], 1, []⟩) .z (.c .z (.s (some ⟨1, [(8, .junk), (19, .junk), (28, (.atm (.v 0)))], [], 1, []⟩) .z .z))))))))) .z)))
def ir77p0 : IR :=
 (.ite (.v 7)
  (.op (.bin .eql false) [(.v 3), (.c (.int .i64 2))]
  (.ret [(.v 8)]))
 (.ret [(.c (.bool false))]))
def ir77p1 : IR :=
 (.ite (.v 6)
  (.op (.bin .geq false) [(.v 3), (.c (.int .i64 2))]
  (.ite (.v 7)
   (.op (.bin .leq false) [(.v 3), (.c (.int .i64 6))]
   (.ret [(.v 8)]))
  (.ret [(.c (.bool false))])))
 (.letj 1
  (.op (.bin .eql false) [(.v 0), (.c (.int .i64 7))]
  (.ite (.v 7)
   (.jump 0 [(.c (.bool true))])
  (.op (.bin .eql false) [(.v 0), (.c (.int .i64 8))]
  (.jump 0 [(.v 8)]))))
 ir77p0))
def ir77p2 : IR :=
 (.ite (.v 4)
  (.op (.bin .eql false) [(.v 3), (.c (.int .i64 0))]
  (.ret [(.v 5)]))
 (.op (.bin .eql false) [(.v 0), (.c (.int .i64 4))]
 (.ite (.v 5)
  (.op (.bin .eql false) [(.v 3), (.c (.int .i64 1))]
  (.ret [(.v 6)]))
 (.letj 1
  (.op (.bin .eql false) [(.v 0), (.c (.int .i64 5))]
  (.ite (.v 6)
   (.jump 0 [(.c (.bool true))])
  (.op (.bin .eql false) [(.v 0), (.c (.int .i64 6))]
  (.jump 0 [(.v 7)]))))
 ir77p1))))
def ir77 : IR :=
 (.op .lenL [(.v 2)]
 (.letj 1
  (.op (.bin .eql false) [(.v 0), (.c (.int .i64 1))]
  (.ite (.v 4)
   (.jump 0 [(.c (.bool true))])
  (.op (.bin .eql false) [(.v 0), (.c (.int .i64 2))]
  (.ite (.v 5)
   (.jump 0 [(.c (.bool true))])
  (.op (.bin .eql false) [(.v 0), (.c (.int .i64 3))]
  (.jump 0 [(.v 6)]))))))
 ir77p2))
theorem rd77 : readFn T SG sigs 3000 sg77 Tryz.f78 an77 = some ir77 := by kernel_rfl
def an78 : Ann := .z
def ir78 : IR :=
 (.op (.bin .eql false) [(.v 0), (.c (.int .i64 3))]
 (.ite (.v 3)
  (.call 38 1 false [] [(.v 1)]
  (.ret [(.v 4)]))
 (.op (.bin .eql false) [(.v 1), (.c (.str []))]
 (.ret [(.v 4)]))))
theorem rd78 : readFn T SG sigs 3000 sg78 Tryz.f79 an78 = some ir78 := by kernel_rfl
def an79 : Ann := (.s none .z (.s none .z (.s none (.b (.l ⟨1, [(4, .junk), (5, (.atm (.v 0)))], [], 0, []⟩ (.s none (.s (some ⟨1, [(18, (.atm (.v 0)))], [], 0, []⟩) .z .z) .z))) (.s none (.s (some ⟨1, [(18, .junk), (32, (.atm (.v 0)))], [], 0, []⟩) .z .z) .z))))
def ir79p0 : IR :=
 (.ite (.v 4)
  (.ret [(.v 0)])
 (.op (.subL 1) [(.v 0), (.c (.int .i64 0)), (.v 2)]
 (.op (.app 1 16) [(.c (.sl [])), (.v 5)]
 (.op (.mk 1 1) [(.v 1)]
 (.op (.app 1 16) [(.v 6), (.v 7)]
 (.op .lenL [(.v 0)]
 (.op (.subL 1) [(.v 0), (.v 2), (.v 9)]
 (.op (.app 1 16) [(.v 8), (.v 10)]
 (.ret [(.v 11)])))))))))
def ir79p1 : IR :=
 (.ite (.v 3)
  (.op (.bin .add false) [(.v 2), (.c (.int .i64 1))]
  (.jump 0 [(.v 4)]))
 (.letj 1
  (.op .lenL [(.v 0)]
  (.op (.bin .lss false) [(.v 2), (.v 4)]
  (.ite (.v 5)
   (.op (.row 1) [(.v 0), (.v 2)]
   (.op (.bin .eql false) [(.v 6), (.v 1)]
   (.jump 1 [(.v 7)])))
  (.jump 1 [(.c (.bool false))]))))
 ir79p0))
def ir79p2 : IR :=
 (.letj 1
  (.op .lenL [(.v 0)]
  (.op (.bin .lss false) [(.v 2), (.v 3)]
  (.ite (.v 4)
   (.op (.row 1) [(.v 0), (.v 2)]
   (.op (.bin .lss false) [(.v 5), (.v 1)]
   (.jump 1 [(.v 6)])))
  (.jump 1 [(.c (.bool false))]))))
 ir79p1)
def ir79 : IR :=
 (.loop 1 [(.c (.int .i64 0))] ir79p2)
theorem rd79 : readFn T SG sigs 3000 sg79 Tryz.f103 an79 = some ir79 := by kernel_rfl
end Go.Proofs.YtefkehflmlikmaaGreatDoor

/- Plain programs of the functions of the program and lemmas about what they compute. -/
import Derived.Test.YtejddbdoioppgaaGreatDoorAmSe21
import Derived.Test.YtejddbdoioppgaaGreatDoorProg
import Derived.KernelRfl
set_option linter.unusedSimpArgs false
set_option linter.unusedVariables false
set_option linter.unusedSectionVars false
namespace Go.Proofs.YtejddbdoioppgaaGreatDoor
open Go Am
set_option maxRecDepth 100000
abbrev fnD (f : Nat) : D := .raw (.func (.func f) #[] #[])
def T : Tab := [
 (3, ⟨1, 8, true, true, false, none, none, (some .i64), false, false, (some (.int .i64 0)), [], none⟩),
 (4, ⟨1, 1, true, true, false, none, none, none, false, true, (some (.bool false)), [], none⟩),
 (5, ⟨1, 1, true, true, false, none, none, (some .u8), false, false, (some (.int .u8 0)), [], none⟩),
 (9, ⟨1, 16, true, true, false, none, none, none, true, false, (some (.string ⟨⟨[]⟩⟩)), [], none⟩),
 (22, ⟨1, 24, true, true, false, (some 3), none, none, false, false, (some (.slice none 0 0)), [], none⟩),
 (23, ⟨1, 8, true, true, false, none, none, none, false, false, (some (.pointer none)), [], none⟩),
 (26, ⟨1, 24, true, true, false, (some 9), none, none, false, false, (some (.slice none 0 0)), [], none⟩),
 (28, ⟨1, 24, true, true, false, (some 39), none, none, false, false, (some (.slice none 0 0)), [], none⟩),
 (29, ⟨1, 24, true, true, false, (some 32), none, none, false, false, (some (.slice none 0 0)), [], none⟩),
 (32, ⟨1, 8, true, true, false, none, none, (some .u64), false, false, (some (.int .u64 0)), [], none⟩),
 (35, ⟨1, 8, true, true, false, none, none, (some .i64), false, false, (some (.int .i64 0)), [], none⟩),
 (39, ⟨3, 48, true, true, true, none, none, none, false, false, (some (.agg #[(.int .i64 0), (.string ⟨⟨[]⟩⟩), (.slice none 0 0)])), [(0, 3), (1, 9), (2, 28)], (some [(0, 1), (1, 1), (2, 1)])⟩),
 (44, ⟨1, 8, true, true, false, none, none, none, false, false, (some .nilFunc), [], none⟩),
 (49, ⟨1, 8, true, true, false, none, none, (some .u64), false, false, (some (.int .u64 0)), [], none⟩),
 (54, ⟨2, 48, true, true, true, none, none, none, false, false, (some (.agg #[(.slice none 0 0), (.slice none 0 0)])), [(0, 26), (1, 22)], (some [(0, 1), (1, 1)])⟩),
 (62, ⟨2, 32, true, true, true, none, none, none, false, false, (some (.agg #[(.slice none 0 0), (.int .i64 0)])), [(0, 22), (1, 3)], (some [(0, 1), (1, 1)])⟩),
 (63, ⟨1, 24, true, true, false, (some 5), none, none, false, false, (some (.slice none 0 0)), [], none⟩),
 (112, ⟨1, 8, true, true, false, none, none, none, false, false, (some .nilFunc), [], none⟩),
 (118, ⟨1, 24, true, true, false, (some 4), none, none, false, false, (some (.slice none 0 0)), [], none⟩),
 (137, ⟨64, 64, true, true, true, none, (some (64, 5)), none, false, false, (some (.agg #[(.int .u8 0), (.int .u8 0), (.int .u8 0), (.int .u8 0), (.int .u8 0), (.int .u8 0), (.int .u8 0), (.int .u8 0), (.int .u8 0), (.int .u8 0), (.int .u8 0), (.int .u8 0), (.int .u8 0), (.int .u8 0), (.int .u8 0), (.int .u8 0), (.int .u8 0), (.int .u8 0), (.int .u8 0), (.int .u8 0), (.int .u8 0), (.int .u8 0), (.int .u8 0), (.int .u8 0), (.int .u8 0), (.int .u8 0), (.int .u8 0), (.int .u8 0), (.int .u8 0), (.int .u8 0), (.int .u8 0), (.int .u8 0), (.int .u8 0), (.int .u8 0), (.int .u8 0), (.int .u8 0), (.int .u8 0), (.int .u8 0), (.int .u8 0), (.int .u8 0), (.int .u8 0), (.int .u8 0), (.int .u8 0), (.int .u8 0), (.int .u8 0), (.int .u8 0), (.int .u8 0), (.int .u8 0), (.int .u8 0), (.int .u8 0), (.int .u8 0), (.int .u8 0), (.int .u8 0), (.int .u8 0), (.int .u8 0), (.int .u8 0), (.int .u8 0), (.int .u8 0), (.int .u8 0), (.int .u8 0), (.int .u8 0), (.int .u8 0), (.int .u8 0), (.int .u8 0)])), [], none⟩)]
theorem tok : TOK Tryz.prog T := tok_of (by kernel_rfl)
def SG : SGlob := []
def sg0 : Sig := ⟨3, 1, [], [(.atm (.v 0))], 1, [], (.atm (.v 0)), false, []⟩
def sg1 : Sig := ⟨4, 1, [], [(.atm (.v 0))], 1, [], (.atm (.v 0)), false, []⟩
def sg2 : Sig := ⟨5, 1, [], [(.atm (.v 0))], 1, [], (.atm (.v 0)), false, []⟩
def sg3 : Sig := ⟨6, 1, [], [(.atm (.v 0))], 1, [], (.atm (.v 0)), false, []⟩
def sg4 : Sig := ⟨8, 1, [], [(.atm (.v 0))], 1, [], (.atm (.v 0)), false, []⟩
def sg5 : Sig := ⟨9, 1, [], [(.atm (.v 0))], 2, [⟨false, false, 62, 2, (.c (.sl [])), [[(.atm (.v 0)), (.atm (.v 1))]]⟩], (.ptr 0 0 0), false, []⟩
def sg6 : Sig := ⟨10, 4, [⟨false, false, 62, 2, (.c (.sl [])), [[(.atm (.v 2)), (.atm (.v 3))]]⟩], [(.ptr 0 0 0), (.atm (.v 0)), (.atm (.v 1))], 3, [⟨false, false, 62, 2, (.c (.sl [])), [[(.atm (.v 1)), (.atm (.v 2))]]⟩], (.atm (.v 0)), false, []⟩
def sg7 : Sig := ⟨11, 1, [], [(.atm (.v 0))], 1, [], (.atm (.v 0)), true, []⟩
def sg8 : Sig := ⟨12, 4, [⟨false, false, 62, 2, (.c (.sl [])), [[(.atm (.v 2)), (.atm (.v 3))]]⟩], [(.ptr 0 0 0), (.atm (.v 0)), (.atm (.v 1))], 4, [⟨false, false, 62, 2, (.c (.sl [])), [[(.atm (.v 2)), (.atm (.v 3))]]⟩], (.tup [(.atm (.v 0)), (.atm (.v 1))]), true, []⟩
def sg9 : Sig := ⟨13, 1, [], [(.atm (.v 0))], 1, [], (.atm (.v 0)), false, []⟩
def sg10 : Sig := ⟨14, 2, [⟨false, false, 62, 2, (.c (.sl [])), [[(.atm (.v 0)), (.atm (.v 1))]]⟩], [(.ptr 0 0 0)], 3, [⟨false, false, 62, 2, (.c (.sl [])), [[(.atm (.v 1)), (.atm (.v 2))]]⟩], (.atm (.v 0)), false, []⟩
def sg11 : Sig := ⟨16, 2, [], [(.atm (.v 0)), (.atm (.v 1))], 3, [], (.agg [(.atm (.v 0)), (.atm (.v 1)), (.atm (.v 2))]), true, []⟩
def sg12 : Sig := ⟨15, 6, [], [(.atm (.v 0)), (.atm (.v 1)), (.agg [(.atm (.v 2)), (.atm (.v 3)), (.atm (.v 4))]), (.atm (.v 5))], 2, [], (.tup [(.atm (.v 0)), (.atm (.v 1))]), false, []⟩
def sg13 : Sig := ⟨17, 0, [], [], 1, [], (.atm (.v 0)), false, []⟩
def sg14 : Sig := ⟨18, 3, [⟨false, false, 62, 2, (.c (.sl [])), [[(.atm (.v 1)), (.atm (.v 2))]]⟩], [(.ptr 0 0 0), (.atm (.v 0))], 3, [⟨false, false, 62, 2, (.c (.sl [])), [[(.atm (.v 1)), (.atm (.v 2))]]⟩], (.atm (.v 0)), false, []⟩
def sg15 : Sig := ⟨25, 3, [], [(.atm (.v 0)), (.atm (.v 1)), (.atm (.v 2))], 3, [], (.tup [(.agg [(.atm (.v 0)), (.atm (.v 1))]), (.atm (.v 2))]), true, []⟩
def sg16 : Sig := ⟨21, 3, [⟨false, false, 62, 2, (.c (.sl [])), [[(.atm (.v 1)), (.atm (.v 2))]]⟩], [(.ptr 0 0 0), (.atm (.v 0))], 3, [⟨false, false, 62, 2, (.c (.sl [])), [[(.atm (.v 1)), (.atm (.v 2))]]⟩], (.atm (.v 0)), false, []⟩
def sg17 : Sig := ⟨22, 4, [], [(.atm (.v 0)), (.atm (.v 1)), (.atm (.v 2)), (.atm (.v 3))], 2, [], (.tup [(.atm (.v 0)), (.atm (.v 1))]), true, []⟩
def sg18 : Sig := ⟨29, 2, [], [(.atm (.v 0)), (.atm (.v 1))], 1, [], (.atm (.v 0)), false, []⟩
def sg19 : Sig := ⟨30, 2, [], [(.atm (.v 0)), (.atm (.v 1))], 1, [], (.atm (.v 0)), false, []⟩
def sg20 : Sig := ⟨31, 2, [], [(.atm (.v 0)), (.atm (.v 1))], 1, [], (.atm (.v 0)), false, []⟩
def sg21 : Sig := ⟨32, 1, [], [(.atm (.v 0))], 1, [], (.atm (.v 0)), false, []⟩
def sg22 : Sig := ⟨33, 1, [], [(.atm (.v 0))], 1, [], (.atm (.v 0)), false, []⟩
def sg23 : Sig := ⟨34, 2, [⟨false, false, 62, 2, (.c (.sl [])), [[(.atm (.v 0)), (.atm (.v 1))]]⟩], [(.ptr 0 0 0)], 3, [⟨false, false, 62, 2, (.c (.sl [])), [[(.atm (.v 1)), (.atm (.v 2))]]⟩], (.atm (.v 0)), false, []⟩
def sg24 : Sig := ⟨37, 2, [], [(.atm (.v 0)), (.atm (.v 1))], 4, [], (.tup [(.agg [(.atm (.v 0)), (.atm (.v 1)), (.atm (.v 2))]), (.atm (.v 3))]), true, []⟩
def sg25 : Sig := ⟨35, 4, [], [(.atm (.v 0)), (.agg [(.atm (.v 1)), (.atm (.v 2)), (.atm (.v 3))])], 2, [], (.tup [(.atm (.v 0)), (.atm (.v 1))]), false, []⟩
def sg26 : Sig := ⟨36, 3, [], [(.agg [(.atm (.v 0)), (.atm (.v 1))]), (.atm (.v 2))], 1, [], (.atm (.v 0)), false, []⟩
def sg27 : Sig := ⟨42, 3, [], [(.atm (.v 0)), (.atm (.v 1)), (.atm (.v 2))], 2, [], (.tup [(.atm (.v 0)), (.atm (.v 1))]), true, []⟩
def sg28 : Sig := ⟨46, 3, [], [(.atm (.v 0)), (.atm (.v 1)), (.atm (.v 2))], 3, [], (.tup [(.agg [(.atm (.v 0)), (.atm (.v 1))]), (.atm (.v 2))]), true, []⟩
def sg29 : Sig := ⟨41, 2, [], [(.atm (.v 0)), (.atm (.v 1))], 1, [], (.atm (.v 0)), false, []⟩
def sg30 : Sig := ⟨43, 4, [], [(.atm (.v 0)), (.atm (.v 1)), (.atm (.v 2)), (.atm (.v 3))], 1, [⟨false, true, 3, 1, (.v 0), []⟩], (.own 0), true, []⟩
def sg31 : Sig := ⟨52, 1, [], [(.atm (.v 0))], 1, [], (.atm (.v 0)), false, []⟩
def sg32 : Sig := ⟨60, 2, [], [(.atm (.v 0)), (.atm (.v 1))], 3, [], (.agg [(.atm (.v 0)), (.atm (.v 1)), (.atm (.v 2))]), true, []⟩
def sg33 : Sig := ⟨53, 1, [], [(.atm (.v 0))], 1, [], (.atm (.v 0)), false, []⟩
def sg34 : Sig := ⟨54, 3, [], [(.agg [(.atm (.v 0)), (.atm (.v 1)), (.atm (.v 2))])], 1, [], (.atm (.v 0)), false, []⟩
def sg35 : Sig := ⟨55, 3, [], [(.agg [(.atm (.v 0)), (.atm (.v 1)), (.atm (.v 2))])], 1, [], (.atm (.v 0)), true, []⟩
def sg36 : Sig := ⟨56, 2, [], [(.atm (.v 0)), (.atm (.v 1))], 1, [], (.atm (.v 0)), false, []⟩
def sg37 : Sig := ⟨57, 4, [], [(.atm (.v 0)), (.agg [(.atm (.v 1)), (.atm (.v 2)), (.atm (.v 3))])], 1, [], (.atm (.v 0)), false, []⟩
def sg38 : Sig := ⟨58, 1, [], [(.atm (.v 0))], 1, [], (.atm (.v 0)), false, []⟩
def sg39 : Sig := ⟨59, 2, [], [(.agg [(.atm (.v 0)), (.atm (.v 1))])], 1, [], (.atm (.v 0)), true, []⟩
def sg40 : Sig := ⟨61, 2, [], [(.atm (.v 0)), (.atm (.v 1))], 1, [], (.atm (.v 0)), false, []⟩
def sg41 : Sig := ⟨63, 2, [⟨false, true, 3, 1, (.v 1), []⟩], [(.own 0), (.atm (.v 0))], 2, [⟨false, true, 3, 1, (.v 1), []⟩], (.atm (.v 0)), false, []⟩
def sg42 : Sig := ⟨64, 2, [], [(.atm (.v 0)), (.atm (.v 1))], 3, [], (.tup [(.agg [(.atm (.v 0)), (.atm (.v 1))]), (.atm (.v 2))]), true, []⟩
def sg43 : Sig := ⟨62, 4, [], [(.atm (.v 0)), (.atm (.v 1)), (.atm (.v 2)), (.atm (.v 3))], 1, [], (.atm (.v 0)), false, []⟩
def sg44 : Sig := ⟨88, 3, [], [(.atm (.v 0)), (.atm (.v 1)), (.atm (.v 2))], 1, [], (.atm (.v 0)), false, []⟩
def sg45 : Sig := ⟨89, 6, [], [(.agg [(.atm (.v 0)), (.atm (.v 1)), (.atm (.v 2))]), (.agg [(.atm (.v 3)), (.atm (.v 4)), (.atm (.v 5))])], 1, [], (.atm (.v 0)), false, []⟩
def sg46 : Sig := ⟨90, 7, [], [(.atm (.v 0)), (.agg [(.atm (.v 1)), (.atm (.v 2)), (.atm (.v 3))]), (.agg [(.atm (.v 4)), (.atm (.v 5)), (.atm (.v 6))])], 3, [], (.agg [(.atm (.v 0)), (.atm (.v 1)), (.atm (.v 2))]), true, []⟩
def sg47 : Sig := ⟨74, 1, [], [(.atm (.v 0))], 1, [], (.atm (.v 0)), false, []⟩
def sg48 : Sig := ⟨75, 3, [], [(.agg [(.atm (.v 0)), (.atm (.v 1)), (.atm (.v 2))])], 1, [], (.atm (.v 0)), false, []⟩
def sg49 : Sig := ⟨76, 3, [], [(.agg [(.atm (.v 0)), (.atm (.v 1)), (.atm (.v 2))])], 1, [], (.atm (.v 0)), false, []⟩
def sg50 : Sig := ⟨77, 3, [], [(.agg [(.atm (.v 0)), (.atm (.v 1)), (.atm (.v 2))]), (.atm (.c (fnD 78)))], 1, [], (.atm (.v 0)), false, []⟩
def sg51 : Sig := ⟨77, 3, [], [(.agg [(.atm (.v 0)), (.atm (.v 1)), (.atm (.v 2))]), (.atm (.c (fnD 79)))], 1, [], (.atm (.v 0)), false, []⟩
def sg52 : Sig := ⟨83, 2, [], [(.atm (.v 0)), (.atm (.v 1))], 1, [], (.atm (.v 0)), false, []⟩
def sg53 : Sig := ⟨84, 1, [], [(.atm (.v 0))], 1, [], (.atm (.v 0)), false, []⟩
def sg54 : Sig := ⟨85, 1, [], [(.atm (.v 0))], 1, [], (.atm (.v 0)), false, []⟩
def sg55 : Sig := ⟨86, 2, [], [(.agg [(.atm (.v 0)), (.atm (.v 1))])], 1, [], (.atm (.v 0)), false, []⟩
def sg56 : Sig := ⟨87, 1, [], [(.atm (.v 0))], 1, [], (.atm (.v 0)), false, []⟩
def sg57 : Sig := ⟨91, 2, [], [(.atm (.v 0)), (.atm (.v 1))], 1, [], (.atm (.v 0)), false, []⟩
def sg58 : Sig := ⟨94, 1, [⟨false, true, 3, 1, (.v 0), []⟩], [(.own 0)], 1, [⟨false, true, 3, 1, (.v 0), []⟩], (.tup []), false, [0]⟩
def sg59 : Sig := ⟨95, 1, [⟨false, true, 3, 1, (.v 0), []⟩], [(.own 0)], 1, [⟨false, true, 3, 1, (.v 0), []⟩], (.tup []), false, [0]⟩
def sg60 : Sig := ⟨98, 1, [], [(.atm (.v 0))], 1, [⟨false, false, 22, 1, (.c (.sl [])), [[(.atm (.v 0))]]⟩], (.clo 117 [] [(.ptr 0 0 0)]), false, []⟩
def sg61 : Sig := ⟨97, 1, [⟨false, false, 22, 1, (.c (.sl [])), [[(.atm (.v 0))]]⟩], [(.clo 117 [] [(.ptr 0 0 0)])], 2, [⟨false, false, 22, 1, (.c (.sl [])), [[(.atm (.v 1))]]⟩, ⟨false, true, 3, 1, (.v 0), []⟩], (.own 1), true, []⟩
def sg62 : Sig := ⟨96, 1, [⟨false, true, 3, 1, (.v 0), []⟩], [(.own 0)], 2, [⟨true, true, 3, 1, (.v 1), []⟩], (.atm (.v 0)), true, []⟩
def sg63 : Sig := ⟨99, 1, [], [(.atm (.v 0))], 1, [⟨false, true, 9, 1, (.v 0), []⟩], (.own 0), true, []⟩
def sg64 : Sig := ⟨100, 2, [], [(.atm (.v 0)), (.atm (.v 1))], 2, [], (.tup [(.atm (.v 0)), (.atm (.v 1))]), false, []⟩
def sg65 : Sig := ⟨92, 2, [], [(.atm (.v 0)), (.atm (.v 1))], 1, [], (.atm (.v 0)), true, []⟩
def sg66 : Sig := ⟨93, 2, [], [(.atm (.v 0)), (.atm (.v 1))], 1, [], (.atm (.v 0)), false, []⟩
def sg67 : Sig := ⟨111, 2, [], [(.atm (.v 0)), (.atm (.v 1))], 1, [], (.atm (.v 0)), false, []⟩
def sg68 : Sig := ⟨78, 3, [], [(.agg [(.atm (.v 0)), (.atm (.v 1)), (.atm (.v 2))])], 1, [], (.atm (.v 0)), false, []⟩
def sg69 : Sig := ⟨79, 3, [], [(.agg [(.atm (.v 0)), (.atm (.v 1)), (.atm (.v 2))])], 1, [], (.atm (.v 0)), false, []⟩
def sg70 : Sig := ⟨110, 2, [], [(.atm (.v 0)), (.atm (.v 1))], 1, [], (.atm (.v 0)), false, []⟩
def sg71 : Sig := ⟨116, 1, [⟨false, false, 22, 1, (.c (.sl [])), [[(.atm (.v 0))]]⟩], [(.clo 117 [] [(.ptr 0 0 0)])], 2, [⟨false, false, 22, 1, (.c (.sl [])), [[(.atm (.v 1))]]⟩, ⟨false, true, 3, 1, (.v 0), []⟩], (.own 1), true, []⟩
def sg72 : Sig := ⟨118, 2, [], [(.atm (.v 0)), (.atm (.v 1))], 1, [], (.atm (.v 0)), false, []⟩
def sg73 : Sig := ⟨119, 1, [], [(.atm (.v 0))], 1, [], (.atm (.v 0)), false, []⟩
def sg74 : Sig := ⟨112, 1, [], [(.atm (.v 0))], 1, [], (.atm (.v 0)), false, []⟩
def sg75 : Sig := ⟨114, 2, [], [(.atm (.v 0)), (.atm (.v 1))], 1, [], (.atm (.v 0)), false, []⟩
def sg76 : Sig := ⟨113, 1, [], [(.atm (.v 0))], 1, [], (.atm (.v 0)), false, []⟩
def sg77 : Sig := ⟨132, 2, [], [(.atm (.v 0)), (.atm (.v 1))], 1, [], (.atm (.v 0)), false, []⟩
def sg78 : Sig := ⟨142, 1, [], [(.atm (.v 0))], 1, [], (.atm (.v 0)), false, []⟩
def sigs : List Sig := [sg0, sg1, sg2, sg3, sg4, sg5, sg6, sg7, sg8, sg9, sg10, sg11, sg12, sg13, sg14, sg15, sg16, sg17, sg18, sg19, sg20, sg21, sg22, sg23, sg24, sg25, sg26, sg27, sg28, sg29, sg30, sg31, sg32, sg33, sg34, sg35, sg36, sg37, sg38, sg39, sg40, sg41, sg42, sg43, sg44, sg45, sg46, sg47, sg48, sg49, sg50, sg51, sg52, sg53, sg54, sg55, sg56, sg57, sg58, sg59, sg60, sg61, sg62, sg63, sg64, sg65, sg66, sg67, sg68, sg69, sg70, sg71, sg72, sg73, sg74, sg75, sg76, sg77, sg78]
def an0 : Ann := (.s none .z (.s none .z (.s none .z (.s none .z (.s none .z (.s none .z (.s none .z (.s none .z (.s none .z (.s none (.s (some ⟨1, [(0, .junk), (2, .junk), (3, .junk), (9, .junk), (13, .junk), (15, .junk), (22, .junk), (23, .junk), (24, .junk), (25, .junk), (26, .junk), (27, .junk), (28, .junk), (29, .junk), (30, .junk), (31, .junk), (32, .junk), (33, .junk), (34, .junk), (35, .junk), (36, .junk), (37, .junk), (38, .junk), (39, .junk), (40, .junk), (41, .junk), (42, .junk), (43, .junk), (44, .junk), (45, .junk), (46, .junk), (47, .junk), (48, .junk), (49, .junk), (50, .junk), (51, .junk), (52, .junk), (53, .junk), (54, .junk), (55, .junk), (56, .junk), (57, .junk), (58, .junk), (59, .junk), (60, .junk), (61, .junk), (62, .junk), (63, .junk), (64, .junk), (65, .junk), (66, .junk), (67, .junk), (86, (.atm (.v 0)))], [], 1, []⟩) .z .z) (.s none .z (.s none .z (.s none (.s none .z (.b (.l ⟨3, [(16, (.atm (.v 0))), (17, (.atm (.v 1))), (18, (.atm (.v 2))), (86, .junk), (87, .junk)], [(1, ⟨true, true, 39, 3, (.c (.sl [])), []⟩)], 2, [⟨none, 17, 39, 3⟩]⟩ .z))) .z)))))))))))))
def ir0p0 : IR :=
 (.op .lenL [(.v 11)]
 (.op (.bin .lss false) [(.v 37), (.v 38)]
 (.ite (.v 39)
  (.op (.row 1) [(.v 11), (.v 37)]
  (.op (.bin .and false) [(.v 35), (.v 40)]
  (.op (.row 3) [(.v 10), (.v 37)]
  (.op (.mk 3 2) [(.v 42), (.v 43), (.v 44), (.v 42), (.v 43), (.v 44)]
  (.op (.mk 3 1) [(.c (.int .i64 5)), (.c (.str [])), (.v 45)]
  (.op (.app 3 48) [(.v 46), (.v 36)]
  (.op (.bin .add false) [(.v 37), (.c (.int .i64 1))]
  (.jump 0 [(.v 41), (.v 47), (.v 48)]))))))))
 (.call 11 3 false [] [(.v 3), (.v 18)]
 (.call 12 2 false [] [(.v 6), (.v 36), (.v 40), (.v 41), (.v 42), (.v 7)]
 (.op (.bin .eql false) [(.v 44), (.c (.int .i64 0))]
 (.ite (.v 45)
  (.op (.bin .eql false) [(.v 43), (.v 26)]
  (.ite (.v 46)
   (.op (.bin .eql false) [(.v 35), (.c (.int .u64 0))]
   (.ite (.v 47)
    (.op (.bin .and false) [(.v 26), (.v 22)]
    (.op (.bin .eql false) [(.v 48), (.c (.int .u64 0))]
    (.ite (.v 49)
     (.call 13 1 false [] []
     (.ret [(.v 50)]))
    (.op (.bin .and false) [(.v 26), (.v 22)]
    (.op (.bin .eql false) [(.v 32), (.v 50)]
    (.ite (.v 51)
     (.call 13 1 false [] []
     (.ret [(.v 52)]))
    (.ret [(.c (.bool false))])))))))
   (.op (.bin .eql false) [(.v 26), (.v 35)]
   (.ite (.v 48)
    (.op (.bin .and false) [(.v 26), (.v 22)]
    (.op (.bin .eql false) [(.v 49), (.c (.int .u64 0))]
    (.ite (.v 50)
     (.call 13 1 false [] []
     (.ret [(.v 51)]))
    (.op (.bin .and false) [(.v 26), (.v 22)]
    (.op (.bin .eql false) [(.v 32), (.v 51)]
    (.ite (.v 52)
     (.call 13 1 false [] []
     (.ret [(.v 53)]))
    (.ret [(.c (.bool false))])))))))
   (.ret [(.c (.bool false))])))))
  (.ret [(.c (.bool false))])))
 (.ret [(.c (.bool false))]))))))))
def ir0p1 : IR :=
 (.ite (.v 34)
  (.ret [(.c (.bool false))])
 (.loop 3 [(.v 18), (.c (.sl [])), (.c (.int .i64 0))] ir0p0))
def ir0 : IR :=
 (.call 5 2 false [] [(.v 0)]
 (.call 6 3 false [] [(.c (.int .i64 1)), (.c (.int .i64 3)), (.v 1), (.v 2)]
 (.call 7 1 false [] [(.v 3)]
 (.call 6 3 false [] [(.c (.int .i64 1)), (.c (.int .i64 4)), (.v 4), (.v 5)]
 (.call 8 4 false [] [(.c (.int .i64 4)), (.v 3), (.v 8), (.v 9)]
 (.call 9 1 false [] [(.v 6)]
 (.call 10 3 false [] [(.v 12), (.v 13)]
 (.op (.bin .and false) [(.v 15), (.v 14)]
 (.call 10 3 false [] [(.v 16), (.v 17)]
 (.op (.bin .and false) [(.v 19), (.v 14)]
 (.call 11 3 false [] [(.v 3), (.v 18)]
 (.call 12 2 false [] [(.v 6), (.v 10), (.v 23), (.v 24), (.v 25), (.v 7)]
 (.op (.bin .and false) [(.v 18), (.v 22)]
 (.call 11 3 false [] [(.v 3), (.v 28)]
 (.call 12 2 false [] [(.v 6), (.v 10), (.v 29), (.v 30), (.v 31), (.v 7)]
 (.letj 1
  (.op (.bin .neq false) [(.v 27), (.c (.int .i64 0))]
  (.ite (.v 34)
   (.jump 0 [(.c (.bool true))])
  (.op (.bin .neq false) [(.v 33), (.c (.int .i64 0))]
  (.ite (.v 35)
   (.jump 0 [(.c (.bool true))])
  (.op (.bin .andNot false) [(.v 26), (.v 18)]
  (.op (.bin .neq false) [(.v 36), (.c (.int .u64 0))]
  (.ite (.v 37)
   (.jump 0 [(.c (.bool true))])
  (.op (.bin .eql false) [(.v 26), (.c (.int .u64 0))]
  (.op (.bin .eql false) [(.v 18), (.c (.int .u64 0))]
  (.op (.bin .neq true) [(.v 38), (.v 39)]
  (.jump 0 [(.v 40)])))))))))))
 ir0p1))))))))))))))))
theorem rd0 : readFn T SG sigs 3000 sg0 Tryz.f3 an0 = some ir0 := by kernel_rfl
def an1 : Ann := (.s none .z (.s none .z (.s none .z (.s none .z (.s none .z (.s none .z (.s none .z (.s none .z (.s none .z (.s none .z (.s none (.s (some ⟨1, [(0, .junk), (2, .junk), (3, .junk), (4, .junk), (5, .junk), (7, .junk), (8, .junk), (9, .junk), (10, .junk), (11, .junk), (13, .junk), (15, .junk), (17, .junk), (18, .junk), (19, .junk), (20, .junk), (21, .junk), (22, .junk), (23, .junk), (24, .junk), (25, .junk), (26, .junk), (27, .junk), (28, .junk), (29, .junk), (30, .junk), (31, .junk), (32, .junk), (33, .junk), (34, .junk), (35, .junk), (36, .junk), (37, .junk), (38, .junk), (39, .junk), (40, .junk), (41, .junk), (42, .junk), (43, .junk), (44, .junk), (45, .junk), (46, .junk), (47, .junk), (48, .junk), (49, .junk), (50, .junk), (51, .junk), (52, .junk), (53, .junk), (54, .junk), (55, .junk), (56, .junk), (57, .junk), (58, .junk), (59, .junk), (61, .junk), (63, .junk), (64, .junk), (65, .junk), (66, .junk), (67, .junk), (68, .junk), (69, .junk), (79, (.atm (.v 0)))], [], 4, []⟩) .z .z) .z)))))))))))
def ir1p0 : IR :=
 (.ite (.v 32)
  (.ret [(.c (.bool false))])
 (.op (.bin .and false) [(.v 24), (.v 26)]
 (.op (.bin .andNot false) [(.v 33), (.v 30)]
 (.op (.bin .eql false) [(.v 34), (.c (.int .u64 0))]
 (.ite (.v 35)
  (.op (.bin .eql false) [(.v 7), (.c (.int .i64 3))]
  (.ite (.v 36)
   (.call 13 1 false [] []
   (.ret [(.v 37)]))
  (.op (.bin .and false) [(.v 24), (.v 26)]
  (.op (.bin .eql false) [(.v 37), (.c (.int .u64 0))]
  (.ite (.v 38)
   (.call 13 1 false [] []
   (.ret [(.v 39)]))
  (.op (.bin .and false) [(.v 24), (.v 26)]
  (.op (.bin .eql false) [(.v 30), (.v 39)]
  (.ite (.v 40)
   (.call 13 1 false [] []
   (.ret [(.v 41)]))
  (.ret [(.c (.bool false))])))))))))
 (.ret [(.c (.bool false))]))))))
def ir1 : IR :=
 (.call 5 2 false [] [(.v 0)]
 (.call 6 3 false [] [(.c (.int .i64 1)), (.c (.int .i64 3)), (.v 1), (.v 2)]
 (.call 7 1 false [] [(.v 3)]
 (.call 6 3 false [] [(.c (.int .i64 1)), (.c (.int .i64 4)), (.v 4), (.v 5)]
 (.call 8 4 false [] [(.c (.int .i64 3)), (.v 3), (.v 8), (.v 9)]
 (.call 8 4 false [] [(.c (.int .i64 3)), (.v 3), (.v 12), (.v 13)]
 (.call 10 3 false [] [(.v 16), (.v 17)]
 (.call 11 3 false [] [(.v 3), (.v 18)]
 (.call 12 2 false [] [(.v 6), (.v 10), (.v 21), (.v 22), (.v 23), (.v 7)]
 (.call 12 2 false [] [(.v 6), (.v 14), (.v 21), (.v 22), (.v 23), (.v 7)]
 (.op (.app 3 48) [(.c (.sl [])), (.v 10)]
 (.op (.app 3 48) [(.v 28), (.v 14)]
 (.call 12 2 true [] [(.v 6), (.v 29), (.v 21), (.v 22), (.v 23), (.v 7)]
 (.letj 1
  (.op (.bin .neq false) [(.v 25), (.c (.int .i64 0))]
  (.ite (.v 32)
   (.jump 0 [(.c (.bool true))])
  (.op (.bin .neq false) [(.v 27), (.c (.int .i64 0))]
  (.ite (.v 33)
   (.jump 0 [(.c (.bool true))])
  (.op (.bin .neq false) [(.v 31), (.c (.int .i64 0))]
  (.jump 0 [(.v 34)]))))))
 ir1p0))))))))))))))
theorem rd1 : readFn T SG sigs 3000 sg1 Tryz.f4 an1 = some ir1 := by kernel_rfl
def an2 : Ann := .z
def ir2 : IR :=
 (.call 5 2 false [] [(.v 0)]
 (.call 6 3 false [] [(.c (.int .i64 1)), (.c (.int .i64 3)), (.v 1), (.v 2)]
 (.call 14 3 false [] [(.v 3), (.v 4), (.v 5)]
 (.call 14 3 false [] [(.v 3), (.v 7), (.v 8)]
 (.op (.bin .or false) [(.v 6), (.v 9)]
 (.call 10 3 false [] [(.v 10), (.v 11)]
 (.call 7 1 false [] [(.v 3)]
 (.call 9 1 false [] [(.v 16)]
 (.op (.bin .and false) [(.v 13), (.v 17)]
 (.op (.bin .or false) [(.v 12), (.v 18)]
 (.call 6 3 false [] [(.c (.int .i64 1)), (.c (.int .i64 4)), (.v 14), (.v 15)]
 (.call 7 1 false [] [(.v 3)]
 (.call 11 3 false [] [(.v 3), (.v 6)]
 (.call 11 3 false [] [(.v 3), (.v 9)]
 (.op (.mk 3 2) [(.v 24), (.v 25), (.v 26), (.v 27), (.v 28), (.v 29)]
 (.call 11 3 false [] [(.v 3), (.v 19)]
 (.call 12 2 true [] [(.v 23), (.v 30), (.v 31), (.v 32), (.v 33), (.v 20)]
 (.op (.bin .eql false) [(.v 35), (.c (.int .i64 0))]
 (.ite (.v 36)
  (.op (.bin .and false) [(.v 34), (.v 6)]
  (.op (.bin .eql false) [(.v 37), (.c (.int .u64 0))]
  (.op (.bin .and false) [(.v 34), (.v 9)]
  (.op (.bin .eql false) [(.v 39), (.c (.int .u64 0))]
  (.op (.bin .eql true) [(.v 38), (.v 40)]
  (.ite (.v 41)
   (.call 13 1 false [] []
   (.ret [(.v 42)]))
  (.ret [(.c (.bool false))])))))))
 (.ret [(.c (.bool false))]))))))))))))))))))))
theorem rd2 : readFn T SG sigs 3000 sg2 Tryz.f5 an2 = some ir2 := by kernel_rfl
def an3 : Ann := (.s none .z (.s none .z (.s none .z (.s none .z (.s none .z (.s none .z (.s none (.b (.l ⟨1, [(0, .junk), (2, .junk), (6, .junk), (18, .junk), (19, .junk), (20, .junk), (21, .junk), (22, .junk), (23, .junk), (24, .junk), (25, .junk), (26, .junk), (27, .junk), (28, .junk), (29, .junk), (30, .junk), (31, .junk)], [(1, ⟨false, true, 39, 3, (.v 0), []⟩)], 2, []⟩ .z)) (.s none .z (.s none (.s none .z (.b (.l ⟨1, [(3, .junk), (32, .junk), (33, .junk), (34, .junk), (41, .junk), (42, .junk), (43, .junk), (44, .junk), (45, .junk), (48, (.atm (.v 0)))], [], 3, []⟩ (.s none .z (.s none .z (.s none (.b (.s none .z (.s none .z (.s (some ⟨1, [(11, .junk), (12, .junk), (13, .junk), (49, .junk), (50, .junk), (51, .junk), (52, .junk), (53, .junk), (54, .junk), (55, .junk), (56, .junk), (57, .junk), (58, .junk), (59, .junk), (60, .junk), (61, .junk), (75, (.atm (.v 0)))], [], 3, []⟩) .z .z)))) .z)))))) (.f [8] .z))))))))))
def ir3p0 : IR :=
 (.ite (.v 32)
  (.ret [(.c (.bool false))])
 (.op (.bin .add false) [(.v 24), (.c (.int .i64 1))]
 (.jump 1 [(.v 33)])))
def ir3p1 : IR :=
 (.op (.bin .lss false) [(.v 24), (.v 23)]
 (.ite (.v 25)
  (.op .chk [(.v 22), (.v 24)]
  (.op (.get 0 1) [(.v 22), (.v 24)]
  (.call 11 3 false [] [(.c (.int .i64 1)), (.v 21)]
  (.call 12 2 true [] [(.v 3), (.v 14), (.v 27), (.v 28), (.v 29), (.v 26)]
  (.letj 1
   (.op (.bin .neq false) [(.v 31), (.c (.int .i64 0))]
   (.ite (.v 32)
    (.jump 2 [(.c (.bool true))])
   (.op (.bin .and false) [(.v 21), (.v 7)]
   (.op (.bin .neq false) [(.v 33), (.c (.int .u64 0))]
   (.ite (.v 34)
    (.op (.bin .andNot false) [(.v 30), (.v 7)]
    (.op (.bin .neq false) [(.v 35), (.c (.int .u64 0))]
    (.jump 2 [(.v 36)])))
   (.jump 2 [(.c (.bool false))]))))))
  ir3p0)))))
 (.op (.subL 3) [(.v 14), (.c (.int .i64 0)), (.c (.int .i64 2))]
 (.call 11 3 false [] [(.c (.int .i64 1)), (.v 21)]
 (.call 12 2 false [] [(.v 3), (.v 26), (.v 27), (.v 28), (.v 29), (.c (.int .i64 3))]
 (.call 11 3 false [] [(.c (.int .i64 1)), (.v 21)]
 (.call 12 2 false [] [(.v 3), (.v 14), (.v 32), (.v 33), (.v 34), (.c (.int .i64 3))]
 (.op (.bin .eql false) [(.v 31), (.c (.int .i64 0))]
 (.ite (.v 37)
  (.op (.bin .eql false) [(.v 36), (.c (.int .i64 0))]
  (.ite (.v 38)
   (.op (.bin .eql false) [(.v 30), (.v 35)]
   (.ite (.v 39)
    (.call 13 1 false [] []
    (.ret [(.v 40)]))
   (.ret [(.c (.bool false))])))
  (.ret [(.c (.bool false))])))
 (.ret [(.c (.bool false))]))))))))))
def ir3p2 : IR :=
 (.op .lenL [(.v 14)]
 (.op (.bin .lss false) [(.v 15), (.c (.int .i64 8))]
 (.ite (.v 16)
  (.call 11 3 false [] [(.c (.int .i64 1)), (.v 7)]
  (.op (.mk 3 1) [(.v 17), (.v 18), (.v 19)]
  (.op (.app 3 48) [(.v 14), (.v 20)]
  (.jump 0 [(.v 21)]))))
 (.call 10 3 false [] [(.v 8), (.v 9)]
 (.call 9 1 false [] [(.v 3)]
 (.op (.bin .and false) [(.v 17), (.v 20)]
 (.op (.mk 1 2) [(.c (.int .i64 1)), (.c (.int .i64 4))]
 (.op .lenL [(.v 22)]
 (.loop 1 [(.c (.int .i64 0))] ir3p1)))))))))
def ir3 : IR :=
 (.call 5 2 false [] [(.v 0)]
 (.call 7 1 false [] [(.c (.int .i64 1))]
 (.call 14 3 false [] [(.c (.int .i64 1)), (.v 1), (.v 2)]
 (.call 14 3 false [] [(.c (.int .i64 1)), (.v 5), (.v 6)]
 (.call 11 3 false [] [(.c (.int .i64 1)), (.v 4)]
 (.op (.mk 3 1) [(.v 10), (.v 11), (.v 12)]
 (.loop 1 [(.v 13)] ir3p2)))))))
theorem rd3 : readFn T SG sigs 3000 sg3 Tryz.f6 an3 = some ir3 := by kernel_rfl
def an4 : Ann := (.s none .z (.s none .z (.s none .z (.s none .z (.s none .z (.s none .z (.s none (.s (some ⟨1, [(0, .junk), (2, .junk), (8, .junk), (10, .junk), (26, .junk), (27, .junk), (28, .junk), (29, .junk), (30, .junk), (31, .junk), (32, .junk), (33, .junk), (34, .junk), (35, .junk), (36, .junk), (37, .junk), (38, .junk), (39, .junk), (40, .junk), (41, .junk), (42, .junk), (43, .junk), (44, .junk), (45, .junk), (46, .junk), (57, (.atm (.v 0)))], [], 2, []⟩) .z .z) (.s none .z (.s none .z (.s none .z (.s none (.s (some ⟨1, [(7, .junk), (14, .junk), (16, .junk), (57, .junk), (58, .junk), (59, .junk), (60, .junk), (61, .junk), (62, .junk), (63, .junk), (64, .junk), (65, .junk), (66, .junk), (67, .junk), (68, .junk), (69, .junk), (70, .junk), (71, .junk), (72, .junk), (73, .junk), (74, .junk), (75, .junk), (76, .junk), (77, .junk), (78, .junk), (79, .junk), (80, .junk), (81, .junk), (82, .junk), (83, .junk), (103, (.atm (.v 0)))], [], 2, []⟩) .z .z) (.s none .z (.s none .z (.s none .z (.s none .z (.s none (.s none .z (.b (.l ⟨3, [(3, .junk), (5, .junk), (6, .junk), (9, .junk), (11, .junk), (12, .junk), (13, .junk), (15, .junk), (21, (.atm (.v 0))), (22, (.atm (.v 1))), (23, (.atm (.v 2))), (103, .junk), (104, .junk), (105, .junk), (106, .junk), (107, .junk), (108, .junk), (109, .junk), (110, .junk), (111, .junk), (112, .junk), (113, .junk), (114, .junk), (115, .junk), (116, .junk), (117, .junk), (118, .junk), (119, .junk), (120, .junk), (121, .junk), (122, .junk), (123, .junk), (124, .junk), (125, .junk), (126, .junk), (127, .junk), (128, .junk), (129, .junk), (130, .junk), (131, .junk), (132, .junk), (133, .junk), (134, .junk), (135, .junk), (136, .junk), (137, .junk), (138, .junk), (139, .junk), (140, .junk)], [], 3, []⟩ (.s none .z (.s none (.b (.s none .z (.b (.l ⟨3, [(21, (.atm (.v 0))), (22, (.atm (.v 1))), (24, (.atm (.v 2))), (141, .junk), (142, .junk), (143, .junk), (144, .junk), (145, .junk)], [], 3, []⟩ (.s none .z (.s (some ⟨2, [(21, (.atm (.v 0))), (22, (.atm (.v 1))), (148, .junk), (149, .junk), (150, .junk), (151, .junk), (152, .junk)], [], 3, []⟩) (.b (.s none (.s (some ⟨1, [(148, .junk), (149, .junk), (150, .junk), (151, .junk), (152, .junk), (164, (.atm (.v 0)))], [], 3, []⟩) .z .z) .z)) .z)))))) .z))))) .z))))))))))))))))
def ir4p0 : IR :=
 (.op (.bin .add false) [(.v 63), (.c (.int .i64 1))]
 (.jump 1 [(.v 67), (.v 68), (.v 69)]))
def ir4p1 : IR :=
 (.ite (.v 67)
  (.jump 2 [(.v 61), (.v 62)])
 (.call 20 1 false [] [(.v 57), (.v 63)]
 (.op (.bin .lss false) [(.v 68), (.v 61)]
 (.ite (.v 69)
  (.op (.conv .u64) [(.v 57)]
  (.op (.bin .shl false) [(.c (.int .u64 1)), (.v 70)]
  (.jump 2 [(.v 68), (.v 71)])))
 (.op (.bin .eql false) [(.v 68), (.v 61)]
 (.ite (.v 70)
  (.op (.conv .u64) [(.v 57)]
  (.op (.bin .shl false) [(.c (.int .u64 1)), (.v 71)]
  (.op (.bin .or false) [(.v 62), (.v 72)]
  (.jump 2 [(.v 61), (.v 73)]))))
 (.jump 2 [(.v 61), (.v 62)])))))))
def ir4p2 : IR :=
 (.op (.conv .u64) [(.v 3)]
 (.op (.bin .shl false) [(.c (.int .i64 1)), (.v 64)]
 (.op (.bin .lss false) [(.v 63), (.v 65)]
 (.ite (.v 66)
  (.letj 2
   (.letj 1
    (.call 19 1 false [] [(.v 43), (.v 57)]
    (.op (.un .not) [(.v 67)]
    (.ite (.v 68)
     (.jump 3 [(.c (.bool true))])
    (.call 19 1 false [] [(.v 40), (.v 63)]
    (.op (.un .not) [(.v 69)]
    (.jump 3 [(.v 70)]))))))
   ir4p1)
  ir4p0)
 (.op (.bin .add false) [(.v 57), (.c (.int .i64 1))]
 (.jump 0 [(.v 61), (.v 62), (.v 67)]))))))
def ir4p3 : IR :=
 (.op (.conv .u64) [(.v 3)]
 (.op (.bin .shl false) [(.c (.int .i64 1)), (.v 58)]
 (.op (.bin .lss false) [(.v 57), (.v 59)]
 (.ite (.v 60)
  (.loop 3 [(.v 55), (.v 56), (.c (.int .i64 0))] ir4p2)
 (.op (.bin .eql false) [(.v 54), (.c (.int .i64 0))]
 (.ite (.v 61)
  (.op (.bin .eql false) [(.v 53), (.v 56)]
  (.ite (.v 62)
   (.call 13 1 false [] []
   (.ret [(.v 63)]))
  (.ret [(.c (.bool false))])))
 (.ret [(.c (.bool false))])))))))
def ir4p4 : IR :=
 (.ite (.v 32)
  (.ret [(.c (.bool false))])
 (.call 18 1 false [] [(.v 28), (.v 7)]
 (.call 18 1 false [] [(.v 30), (.v 7)]
 (.op (.bin .lss false) [(.v 33), (.v 34)]
 (.op (.row 1) [(.v 15), (.v 20)]
 (.op (.row 1) [(.v 15), (.v 25)]
 (.op (.bin .lss false) [(.v 36), (.v 37)]
 (.op (.bin .neq true) [(.v 35), (.v 38)]
 (.ite (.v 39)
  (.ret [(.c (.bool false))])
 (.call 14 3 false [] [(.v 3), (.v 26), (.v 27)]
 (.call 14 3 false [] [(.v 3), (.v 41), (.v 42)]
 (.call 11 3 false [] [(.v 3), (.v 40)]
 (.op (.mk 3 1) [(.v 46), (.v 47), (.v 48)]
 (.call 11 3 false [] [(.v 3), (.v 43)]
 (.call 12 2 true [] [(.v 6), (.v 49), (.v 50), (.v 51), (.v 52), (.c (.int .i64 1))]
 (.loop 3 [(.c (.int .i64 100)), (.c (.int .u64 0)), (.c (.int .i64 0))] ir4p3))))))))))))))))
def ir4p5 : IR :=
 (.ite (.v 17)
  (.ret [(.c (.bool false))])
 (.op (.conv .u64) [(.v 3)]
 (.op (.bin .shl false) [(.c (.int .i64 1)), (.v 18)]
 (.call 16 3 false [] [(.v 19), (.v 12), (.v 13)]
 (.op (.conv .u64) [(.v 3)]
 (.op (.bin .shl false) [(.c (.int .i64 1)), (.v 23)]
 (.call 16 3 false [] [(.v 24), (.v 21), (.v 22)]
 (.call 17 2 false [] [(.v 6), (.v 10), (.v 20), (.v 7)]
 (.call 17 2 false [] [(.v 6), (.v 10), (.v 25), (.v 7)]
 (.letj 1
  (.op (.bin .neq false) [(.v 29), (.c (.int .i64 0))]
  (.ite (.v 32)
   (.jump 0 [(.c (.bool true))])
  (.op (.bin .neq false) [(.v 31), (.c (.int .i64 0))]
  (.ite (.v 33)
   (.jump 0 [(.c (.bool true))])
  (.op .lenL [(.v 28)]
  (.op .lenL [(.v 10)]
  (.op (.bin .neq false) [(.v 34), (.v 35)]
  (.ite (.v 36)
   (.jump 0 [(.c (.bool true))])
  (.op .lenL [(.v 30)]
  (.op .lenL [(.v 10)]
  (.op (.bin .neq false) [(.v 37), (.v 38)]
  (.jump 0 [(.v 39)]))))))))))))
 ir4p4))))))))))
def ir4 : IR :=
 (.call 5 2 false [] [(.v 0)]
 (.call 6 3 false [] [(.c (.int .i64 1)), (.c (.int .i64 3)), (.v 1), (.v 2)]
 (.call 7 1 false [] [(.v 3)]
 (.call 6 3 false [] [(.c (.int .i64 1)), (.c (.int .i64 4)), (.v 4), (.v 5)]
 (.call 8 4 false [] [(.c (.int .i64 4)), (.v 3), (.v 8), (.v 9)]
 (.call 15 3 false [] [(.v 6), (.v 10), (.v 7)]
 (.letj 1
  (.op (.bin .neq false) [(.v 16), (.c (.int .i64 0))]
  (.ite (.v 17)
   (.jump 0 [(.c (.bool true))])
  (.op .lenL [(.v 15)]
  (.op (.conv .u64) [(.v 3)]
  (.op (.bin .shl false) [(.c (.int .i64 1)), (.v 19)]
  (.op (.bin .neq false) [(.v 18), (.v 20)]
  (.jump 0 [(.v 21)])))))))
 ir4p5)))))))
theorem rd4 : readFn T SG sigs 3000 sg4 Tryz.f8 an4 = some ir4 := by kernel_rfl
def an5 : Ann := .z
def ir5 : IR :=
 (.op .lenL [(.v 0)]
 (.op .min [(.v 1), (.c (.int .i64 2000))]
 (.op (.subL 1) [(.v 0), (.c (.int .i64 0)), (.v 2)]
 (.ret [(.v 3), (.c (.int .i64 0))]))))
theorem rd5 : readFn T SG sigs 3000 sg5 Tryz.f9 an5 = some ir5 := by kernel_rfl
def an6 : Ann := .z
def ir6 : IR :=
 (.op (.bin .sub false) [(.v 1), (.v 0)]
 (.op (.bin .add false) [(.v 4), (.c (.int .i64 1))]
 (.call 16 3 false [] [(.v 5), (.v 2), (.v 3)]
 (.op (.bin .add false) [(.v 0), (.v 6)]
 (.ret [(.v 9), (.v 7), (.v 8)])))))
theorem rd6 : readFn T SG sigs 3000 sg6 Tryz.f10 an6 = some ir6 := by kernel_rfl
def an7 : Ann := (.s none .z (.s none .z (.s none (.s none .z (.b (.l ⟨2, [(2, .junk), (4, (.atm (.v 0)))], [(0, ⟨false, true, 9, 1, (.v 1), []⟩)], 1, [⟨none, 3, 9, 1⟩]⟩ .z))) .z)))
def ir7p0 : IR :=
 (.op (.bin .lss false) [(.v 1), (.v 0)]
 (.ite (.v 3)
  (.op (.bin .add false) [(.c (.int .i64 97)), (.v 1)]
  (.op (.conv .u8) [(.v 4)]
  (.op (.mk 1 1) [(.v 5)]
  (.op .toS [(.v 6)]
  (.op (.mk 1 1) [(.v 7)]
  (.op (.app 1 16) [(.v 2), (.v 8)]
  (.op (.bin .add false) [(.v 1), (.c (.int .i64 1))]
  (.jump 0 [(.v 10), (.v 9)]))))))))
 (.ret [(.v 2)])))
def ir7 : IR :=
 (.loop 2 [(.c (.int .i64 0)), (.c (.sl []))] ir7p0)
theorem rd7 : readFn T SG sigs 3000 sg7 Tryz.f11 an7 = some ir7 := by kernel_rfl
def an8 : Ann := (.s none .z (.s none .z (.s none .z (.s none (.s none .z (.b (.l ⟨5, [(1, .junk), (6, .junk), (7, .junk), (10, (.atm (.v 0))), (12, .junk), (13, .junk), (14, .junk), (15, .junk)], [(0, ⟨false, false, 62, 2, (.c (.sl [])), [[(.atm (.v 1)), (.atm (.v 2))]]⟩), (1, ⟨false, true, 39, 3, (.v 3), []⟩), (2, ⟨false, true, 32, 1, (.v 4), []⟩)], 3, [⟨none, 8, 39, 3⟩, ⟨none, 9, 32, 1⟩]⟩ .z))) .z))))
def ir8p0 : IR :=
 (.op (.bin .gtr false) [(.v 8), (.c (.int .i64 0))]
 (.ite (.v 13)
  (.call 14 3 false [] [(.v 1), (.v 9), (.v 10)]
  (.call 11 3 false [] [(.v 1), (.v 14)]
  (.op (.mk 3 1) [(.v 17), (.v 18), (.v 19)]
  (.op (.app 3 48) [(.v 11), (.v 20)]
  (.op (.mk 1 1) [(.v 14)]
  (.op (.app 1 8) [(.v 12), (.v 22)]
  (.op (.bin .sub false) [(.v 8), (.c (.int .i64 1))]
  (.jump 0 [(.v 24), (.v 15), (.v 16), (.v 21), (.v 23)]))))))))
 (.ret [(.v 11), (.v 12), (.v 9), (.v 10)])))
def ir8 : IR :=
 (.op (.bin .add false) [(.v 0), (.c (.int .i64 1))]
 (.call 16 3 false [] [(.v 4), (.v 2), (.v 3)]
 (.loop 5 [(.v 5), (.v 6), (.v 7), (.c (.sl [])), (.c (.sl []))] ir8p0)))
theorem rd8 : readFn T SG sigs 3000 sg8 Tryz.f12 an8 = some ir8 := by kernel_rfl
def an9 : Ann := (.s none .z (.s none .z (.s none .z (.s none (.s none .z (.b (.l ⟨2, [(2, .junk), (3, (.atm (.v 0))), (4, (.atm (.v 1))), (5, .junk), (6, .junk), (7, .junk)], [], 0, []⟩ .z))) .z))))
def ir9p0 : IR :=
 (.call 22 1 false [] [(.v 0)]
 (.op (.bin .lss false) [(.v 4), (.v 5)]
 (.ite (.v 6)
  (.op (.conv .u64) [(.v 4)]
  (.op (.bin .shl false) [(.c (.int .u64 1)), (.v 7)]
  (.op (.bin .or false) [(.v 3), (.v 8)]
  (.op (.bin .add false) [(.v 4), (.c (.int .i64 1))]
  (.jump 0 [(.v 9), (.v 10)])))))
 (.ret [(.v 3)]))))
def ir9 : IR :=
 (.call 21 1 false [] [(.v 0)]
 (.op (.un .not) [(.v 1)]
 (.ite (.v 2)
  (.ret [(.c (.int .u64 0))])
 (.loop 2 [(.c (.int .u64 0)), (.c (.int .i64 0))] ir9p0))))
theorem rd9 : readFn T SG sigs 3000 sg9 Tryz.f13 an9 = some ir9 := by kernel_rfl
def an10 : Ann := .z
def ir10 : IR :=
 (.call 16 3 false [] [(.c (.int .i64 4)), (.v 0), (.v 1)]
 (.op (.bin .eql false) [(.v 2), (.c (.int .i64 0))]
 (.ite (.v 5)
  (.call 23 3 false [] [(.v 3), (.v 4)]
  (.op (.conv .u64) [(.v 6)]
  (.ret [(.v 9), (.v 7), (.v 8)])))
 (.op (.bin .eql false) [(.v 2), (.c (.int .i64 1))]
 (.ite (.v 6)
  (.call 23 3 false [] [(.v 3), (.v 4)]
  (.op (.conv .u64) [(.v 7)]
  (.call 23 3 false [] [(.v 8), (.v 9)]
  (.op (.conv .u64) [(.v 11)]
  (.op (.bin .and false) [(.v 10), (.v 14)]
  (.ret [(.v 15), (.v 12), (.v 13)]))))))
 (.op (.bin .eql false) [(.v 2), (.c (.int .i64 2))]
 (.ite (.v 7)
  (.call 16 3 false [] [(.c (.int .i64 64)), (.v 3), (.v 4)]
  (.op (.conv .u64) [(.v 8)]
  (.op (.bin .shl false) [(.c (.int .u64 1)), (.v 11)]
  (.call 16 3 false [] [(.c (.int .i64 64)), (.v 9), (.v 10)]
  (.op (.conv .u64) [(.v 13)]
  (.op (.bin .shl false) [(.c (.int .u64 1)), (.v 16)]
  (.op (.bin .or false) [(.v 12), (.v 17)]
  (.ret [(.v 18), (.v 14), (.v 15)]))))))))
 (.call 23 3 false [] [(.v 3), (.v 4)]
 (.op (.conv .u64) [(.v 8)]
 (.op (.bin .mul false) [(.v 11), (.c (.int .u64 11400714819323198485))]
 (.call 23 3 false [] [(.v 9), (.v 10)]
 (.op (.conv .u64) [(.v 13)]
 (.op (.bin .xor false) [(.v 12), (.v 16)]
 (.ret [(.v 17), (.v 14), (.v 15)]))))))))))))))
theorem rd10 : readFn T SG sigs 3000 sg10 Tryz.f14 an10 = some ir10 := by kernel_rfl
def an11 : Ann := .z
def ir11 : IR :=
 (.call 7 1 false [] [(.v 0)]
 (.call 7 1 false [] [(.v 0)]
 (.call 9 1 false [] [(.v 3)]
 (.op (.bin .and false) [(.v 1), (.v 4)]
 (.call 24 4 false [] [(.v 2), (.v 5)]
 (.ret [(.v 6), (.v 7), (.v 8)]))))))
theorem rd11 : readFn T SG sigs 3000 sg11 Tryz.f16 an11 = some ir11 := by kernel_rfl
def an12 : Ann := .z
def ir12 : IR :=
 (.call 15 3 false [] [(.v 0), (.v 1), (.v 5)]
 (.op (.bin .neq false) [(.v 8), (.c (.int .i64 0))]
 (.ite (.v 9)
  (.ret [(.c (.int .u64 0)), (.v 8)])
 (.call 25 2 false [] [(.v 0), (.v 2), (.v 3), (.v 4)]
 (.op (.bin .neq false) [(.v 11), (.c (.int .i64 0))]
 (.ite (.v 12)
  (.ret [(.c (.int .u64 0)), (.v 11)])
 (.call 26 1 false [] [(.v 6), (.v 7), (.v 10)]
 (.ret [(.v 13), (.c (.int .i64 0))]))))))))
theorem rd12 : readFn T SG sigs 3000 sg12 Tryz.f15 an12 = some ir12 := by kernel_rfl
def an13 : Ann := .z
def ir13 : IR :=
 (.call 11 3 false [] [(.c (.int .i64 2)), (.c (.int .u64 8))]
 (.call 11 3 false [] [(.c (.int .i64 2)), (.c (.int .u64 8))]
 (.call 11 3 false [] [(.c (.int .i64 2)), (.c (.int .u64 1))]
 (.op (.mk 3 3) [(.v 0), (.v 1), (.v 2), (.v 3), (.v 4), (.v 5), (.v 6), (.v 7), (.v 8)]
 (.call 7 1 false [] [(.c (.int .i64 2))]
 (.call 11 3 false [] [(.c (.int .i64 2)), (.c (.int .u64 15))]
 (.call 12 2 true [] [(.v 10), (.v 9), (.v 11), (.v 12), (.v 13), (.c (.int .i64 1))]
 (.call 7 1 false [] [(.c (.int .i64 2))]
 (.call 11 3 false [] [(.c (.int .i64 2)), (.c (.int .u64 15))]
 (.call 12 2 true [] [(.v 16), (.v 9), (.v 17), (.v 18), (.v 19), (.c (.int .i64 3))]
 (.call 7 1 false [] [(.c (.int .i64 2))]
 (.call 11 3 false [] [(.c (.int .i64 2)), (.c (.int .u64 15))]
 (.call 12 2 true [] [(.v 22), (.v 9), (.v 23), (.v 24), (.v 25), (.c (.int .i64 2))]
 (.call 7 1 false [] [(.c (.int .i64 2))]
 (.call 11 3 false [] [(.c (.int .i64 2)), (.c (.int .u64 15))]
 (.call 12 2 true [] [(.v 28), (.v 9), (.v 29), (.v 30), (.v 31), (.c (.int .i64 4))]
 (.op (.bin .eql false) [(.v 15), (.c (.int .i64 0))]
 (.ite (.v 34)
  (.op (.bin .eql false) [(.v 21), (.c (.int .i64 0))]
  (.ite (.v 35)
   (.op (.bin .eql false) [(.v 27), (.c (.int .i64 0))]
   (.ite (.v 36)
    (.op (.bin .eql false) [(.v 33), (.c (.int .i64 0))]
    (.ite (.v 37)
     (.op (.bin .eql false) [(.v 14), (.c (.int .u64 8))]
     (.ite (.v 38)
      (.op (.bin .eql false) [(.v 20), (.c (.int .u64 6))]
      (.ite (.v 39)
       (.op (.bin .eql false) [(.v 26), (.c (.int .u64 6))]
       (.ite (.v 40)
        (.op (.bin .eql false) [(.v 32), (.c (.int .u64 8))]
        (.ret [(.v 41)]))
       (.ret [(.c (.bool false))])))
      (.ret [(.c (.bool false))])))
     (.ret [(.c (.bool false))])))
    (.ret [(.c (.bool false))])))
   (.ret [(.c (.bool false))])))
  (.ret [(.c (.bool false))])))
 (.ret [(.c (.bool false))])))))))))))))))))))
theorem rd13 : readFn T SG sigs 3000 sg13 Tryz.f17 an13 = some ir13 := by kernel_rfl
def an14 : Ann := .z
def ir14 : IR :=
 (.op (.conv .u64) [(.v 0)]
 (.op (.bin .shl false) [(.c (.int .i64 1)), (.v 3)]
 (.call 16 3 false [] [(.v 4), (.v 1), (.v 2)]
 (.op (.conv .u64) [(.v 5)]
 (.op (.bin .shl false) [(.c (.int .u64 1)), (.v 8)]
 (.call 10 3 false [] [(.v 6), (.v 7)]
 (.call 10 3 false [] [(.v 11), (.v 12)]
 (.op (.bin .and false) [(.v 10), (.v 13)]
 (.op (.bin .or false) [(.v 16), (.v 9)]
 (.call 7 1 false [] [(.v 0)]
 (.call 9 1 false [] [(.v 18)]
 (.op (.bin .and false) [(.v 17), (.v 19)]
 (.ret [(.v 20), (.v 14), (.v 15)])))))))))))))
theorem rd14 : readFn T SG sigs 3000 sg14 Tryz.f18 an14 = some ir14 := by kernel_rfl
def an15 : Ann := .z
def ir15 : IR :=
 (.call 27 2 false [] [(.v 0), (.v 1), (.v 2)]
 (.op (.bin .neq false) [(.v 4), (.c (.int .i64 0))]
 (.ite (.v 5)
  (.ret [(.c (.sl [])), (.c (.sl [])), (.v 4)])
 (.call 28 3 false [] [(.v 0), (.v 3), (.v 2)]
 (.ret [(.v 6), (.v 7), (.v 8)])))))
theorem rd15 : readFn T SG sigs 3000 sg15 Tryz.f25 an15 = some ir15 := by kernel_rfl
def an16 : Ann := .z
def ir16 : IR :=
 (.call 23 3 false [] [(.v 1), (.v 2)]
 (.call 29 1 false [] [(.v 3), (.v 0)]
 (.ret [(.v 6), (.v 4), (.v 5)])))
theorem rd16 : readFn T SG sigs 3000 sg16 Tryz.f21 an16 = some ir16 := by kernel_rfl
def an17 : Ann := (.s none .z (.s none .z (.s none (.b (.s none .z (.c .z (.s (some ⟨1, [(1, .junk), (8, .junk), (9, .junk), (11, .junk), (12, .junk), (13, .junk), (14, .junk), (15, .junk), (16, .junk), (17, .junk), (18, .junk), (19, .junk), (20, .junk), (21, .junk), (23, (.atm (.v 0)))], [], 0, []⟩) .z .z)))) .z)))
def ir17p0 : IR :=
 (.ite (.v 7)
  (.ret [(.c (.sl [])), (.c (.int .i64 1))])
 (.call 30 1 false [0] [(.v 0), (.v 4), (.v 2), (.v 3)]
 (.ret [(.v 8), (.c (.int .i64 0))])))
def ir17 : IR :=
 (.call 27 2 false [] [(.v 0), (.v 1), (.v 3)]
 (.op (.bin .neq false) [(.v 5), (.c (.int .i64 0))]
 (.ite (.v 6)
  (.ret [(.c (.sl [])), (.v 5)])
 (.letj 1
  (.op (.bin .lss false) [(.v 2), (.c (.int .i64 0))]
  (.ite (.v 7)
   (.jump 0 [(.c (.bool true))])
  (.op .lenL [(.v 0)]
  (.op (.bin .shl false) [(.c (.int .i64 1)), (.v 8)]
  (.op (.bin .geq false) [(.v 2), (.v 9)]
  (.jump 0 [(.v 10)]))))))
 ir17p0))))
theorem rd17 : readFn T SG sigs 3000 sg17 Tryz.f22 an17 = some ir17 := by kernel_rfl
def an18 : Ann := (.s none .z (.s none .z (.s none .z (.s none (.s none .z (.b (.l ⟨4, [(0, .junk), (4, .junk), (6, (.atm (.v 0))), (7, (.atm (.v 1))), (8, (.atm (.v 2))), (11, .junk), (12, .junk)], [(0, ⟨false, true, 3, 1, (.v 3), []⟩)], 1, []⟩ (.s none .z (.s none (.b (.s none (.s none .z (.b (.l ⟨2, [(9, (.atm (.v 0))), (13, .junk), (14, .junk), (15, .junk), (16, .junk), (19, .junk), (20, .junk)], [(0, ⟨false, true, 3, 1, (.v 1), []⟩)], 1, []⟩ (.s none .z (.s (some ⟨1, [(21, .junk), (22, .junk), (23, .junk), (24, .junk)], [(0, ⟨false, true, 3, 1, (.v 0), []⟩)], 1, []⟩) .z .z))))) .z)) .z))))) .z))))
def ir18p0 : IR :=
 (.op (.bin .add false) [(.v 10), (.c (.int .i64 1))]
 (.jump 1 [(.v 15), (.v 14)]))
def ir18p1 : IR :=
 (.op .lenL [(.v 11)]
 (.op (.bin .lss false) [(.v 10), (.v 12)]
 (.ite (.v 13)
  (.letj 1
   (.op .chk [(.v 11), (.v 10)]
   (.op (.get 0 1) [(.v 11), (.v 10)]
   (.op .chk [(.v 11), (.v 5)]
   (.op (.get 0 1) [(.v 11), (.v 5)]
   (.op (.bin .gtr false) [(.v 14), (.v 15)]
   (.ite (.v 16)
    (.op .chk [(.v 11), (.v 10)]
    (.op (.get 0 1) [(.v 11), (.v 10)]
    (.op .chk [(.v 11), (.v 5)]
    (.op (.get 0 1) [(.v 11), (.v 5)]
    (.op .chk [(.v 11), (.v 5)]
    (.op (.set 0 1) [(.v 11), (.v 5), (.v 17)]
    (.op .chk [(.v 19), (.v 10)]
    (.op (.set 0 1) [(.v 19), (.v 10), (.v 18)]
    (.jump 2 [(.v 20)])))))))))
   (.jump 2 [(.v 11)])))))))
  ir18p0)
 (.op (.bin .mul false) [(.v 3), (.c (.int .i64 7))]
 (.op .chk [(.v 11), (.v 5)]
 (.op (.get 0 1) [(.v 11), (.v 5)]
 (.call 29 1 false [] [(.v 15), (.c (.int .i64 7))]
 (.op (.bin .add false) [(.v 14), (.v 16)]
 (.op .chk [(.v 11), (.v 5)]
 (.op (.get 0 1) [(.v 11), (.v 5)]
 (.op (.bin .add false) [(.v 4), (.v 18)]
 (.op (.bin .add false) [(.v 5), (.c (.int .i64 1))]
 (.jump 0 [(.v 17), (.v 19), (.v 20), (.v 11)])))))))))))))
def ir18p2 : IR :=
 (.op .lenL [(.v 6)]
 (.op (.bin .lss false) [(.v 5), (.v 7)]
 (.ite (.v 8)
  (.op (.bin .add false) [(.v 5), (.c (.int .i64 1))]
  (.loop 2 [(.v 9), (.v 6)] ir18p1))
 (.op (.bin .eql false) [(.v 1), (.c (.int .i64 2))]
 (.ite (.v 9)
  (.ret [(.v 3)])
 (.op (.bin .neq false) [(.v 1), (.c (.int .i64 3))]
 (.ite (.v 10)
  (.ret [(.v 4)])
 (.op .lenL [(.v 6)]
 (.op (.bin .eql false) [(.v 11), (.c (.int .i64 0))]
 (.ite (.v 12)
  (.ret [(.c (.int .i64 0))])
 (.op .chk [(.v 6), (.c (.int .i64 0))]
 (.op (.get 0 1) [(.v 6), (.c (.int .i64 0))]
 (.ret [(.v 13)])))))))))))))
def ir18 : IR :=
 (.op (.app 1 8) [(.c (.sl [])), (.v 0)]
 (.loop 4 [(.c (.int .i64 0)), (.c (.int .i64 0)), (.c (.int .i64 0)), (.v 2)] ir18p2))
theorem rd18 : readFn T SG sigs 3000 sg18 Tryz.f29 an18 = some ir18 := by kernel_rfl
def an19 : Ann := .z
def ir19 : IR :=
 (.op (.conv .u64) [(.v 1)]
 (.op (.bin .shr false) [(.v 0), (.v 2)]
 (.op (.bin .and false) [(.v 3), (.c (.int .u64 1))]
 (.op (.bin .eql false) [(.v 4), (.c (.int .u64 1))]
 (.ret [(.v 5)])))))
theorem rd19 : readFn T SG sigs 3000 sg19 Tryz.f30 an19 = some ir19 := by kernel_rfl
def an20 : Ann := (.s none .z (.s none .z (.s none (.s none .z (.b (.l ⟨2, [(4, .junk), (5, (.atm (.v 0))), (6, (.atm (.v 1)))], [], 0, []⟩ (.s none .z (.s (some ⟨1, [(5, (.atm (.v 0))), (7, .junk), (8, .junk)], [], 0, []⟩) .z .z))))) .z)))
def ir20p0 : IR :=
 (.op (.bin .add false) [(.v 3), (.c (.int .i64 1))]
 (.jump 0 [(.v 5), (.v 6)]))
def ir20p1 : IR :=
 (.op (.bin .lss false) [(.v 3), (.c (.int .i64 6))]
 (.ite (.v 4)
  (.letj 1
   (.op (.conv .u64) [(.v 3)]
   (.op (.bin .shr false) [(.v 0), (.v 5)]
   (.op (.bin .and false) [(.v 6), (.c (.int .i64 1))]
   (.op (.conv .u64) [(.v 3)]
   (.op (.bin .shr false) [(.v 1), (.v 8)]
   (.op (.bin .and false) [(.v 9), (.c (.int .i64 1))]
   (.op (.bin .neq false) [(.v 7), (.v 10)]
   (.ite (.v 11)
    (.op (.bin .add false) [(.v 2), (.c (.int .i64 1))]
    (.jump 1 [(.v 12)]))
   (.jump 1 [(.v 2)])))))))))
  ir20p0)
 (.ret [(.v 2)])))
def ir20 : IR :=
 (.loop 2 [(.c (.int .i64 0)), (.c (.int .i64 0))] ir20p1)
theorem rd20 : readFn T SG sigs 3000 sg20 Tryz.f31 an20 = some ir20 := by kernel_rfl
def an21 : Ann := (.s none .z (.s none (.s none .z (.b (.l ⟨1, [(2, .junk), (3, (.atm (.v 0)))], [], 0, []⟩ (.s none .z (.s none (.b (.s (some ⟨1, [(4, .junk), (5, .junk), (6, .junk), (7, .junk), (31, (.atm (.v 0)))], [], 0, []⟩) .z .z)) .z))))) .z))
def ir21p0 : IR :=
 (.ite (.v 4)
  (.ret [(.c (.bool false))])
 (.op (.bin .add false) [(.v 1), (.c (.int .i64 1))]
 (.jump 0 [(.v 5)])))
def ir21p1 : IR :=
 (.op .lenL [(.v 0)]
 (.op (.bin .lss false) [(.v 1), (.v 2)]
 (.ite (.v 3)
  (.letj 1
   (.op (.row 1) [(.v 0), (.v 1)]
   (.call 31 1 false [] [(.v 4)]
   (.op (.un .not) [(.v 5)]
   (.ite (.v 6)
    (.jump 1 [(.c (.bool true))])
   (.op (.bin .gtr false) [(.v 1), (.c (.int .i64 0))]
   (.ite (.v 7)
    (.op (.row 1) [(.v 0), (.v 1)]
    (.op (.bin .sub false) [(.v 1), (.c (.int .i64 1))]
    (.op (.row 1) [(.v 0), (.v 9)]
    (.op (.bin .leq false) [(.v 8), (.v 10)]
    (.jump 1 [(.v 11)])))))
   (.jump 1 [(.c (.bool false))])))))))
  ir21p0)
 (.op .lenL [(.v 0)]
 (.op (.bin .leq false) [(.v 4), (.c (.int .i64 6))]
 (.ret [(.v 5)]))))))
def ir21 : IR :=
 (.loop 1 [(.c (.int .i64 0))] ir21p1)
theorem rd21 : readFn T SG sigs 3000 sg21 Tryz.f32 an21 = some ir21 := by kernel_rfl
def an22 : Ann := .z
def ir22 : IR :=
 (.op .lenL [(.v 0)]
 (.op (.conv .u64) [(.v 1)]
 (.op (.bin .shl false) [(.c (.int .i64 1)), (.v 2)]
 (.ret [(.v 3)]))))
theorem rd22 : readFn T SG sigs 3000 sg22 Tryz.f33 an22 = some ir22 := by kernel_rfl
def an23 : Ann := .z
def ir23 : IR :=
 (.op .lenL [(.v 0)]
 (.op (.bin .geq false) [(.v 1), (.v 2)]
 (.ite (.v 3)
  (.ret [(.c (.int .i64 0)), (.v 0), (.v 1)])
 (.op (.bin .add false) [(.v 1), (.c (.int .i64 1))]
 (.op (.bin .sub false) [(.v 4), (.c (.int .i64 1))]
 (.op (.row 1) [(.v 0), (.v 5)]
 (.ret [(.v 6), (.v 0), (.v 4)])))))))
theorem rd23 : readFn T SG sigs 3000 sg23 Tryz.f34 an23 = some ir23 := by kernel_rfl
def an24 : Ann := .z
def ir24 : IR :=
 (.call 21 1 false [] [(.v 0)]
 (.op (.un .not) [(.v 2)]
 (.ite (.v 3)
  (.ret [(.c (.int .i64 0)), (.c (.str [])), (.c (.sl [])), (.c (.int .i64 1))])
 (.call 32 3 false [] [(.v 0), (.v 1)]
 (.ret [(.v 4), (.v 5), (.v 6), (.c (.int .i64 0))])))))
theorem rd24 : readFn T SG sigs 3000 sg24 Tryz.f37 an24 = some ir24 := by kernel_rfl
def an25 : Ann := (.s none .z (.s none .z (.s none .z (.s none (.s none .z (.b (.l ⟨1, [(1, .junk), (4, .junk), (5, .junk), (6, .junk), (9, .junk), (10, .junk), (11, .junk), (12, .junk), (13, .junk), (14, .junk), (15, .junk), (17, .junk), (20, (.atm (.v 0)))], [], 1, []⟩ .z))) .z))))
def ir25p0 : IR :=
 (.op (.bin .lss false) [(.v 10), (.v 9)]
 (.ite (.v 11)
  (.op (.row 1) [(.v 8), (.v 10)]
  (.call 36 1 false [] [(.v 0), (.v 12)]
  (.op (.un .not) [(.v 13)]
  (.ite (.v 14)
   (.ret [(.c (.int .u64 0)), (.c (.int .i64 6))])
  (.op (.bin .add false) [(.v 10), (.c (.int .i64 1))]
  (.jump 0 [(.v 15)]))))))
 (.call 37 1 false [] [(.v 0), (.v 1), (.v 2), (.v 3)]
 (.call 38 1 false [] [(.v 0)]
 (.op (.bin .and false) [(.v 12), (.v 13)]
 (.ret [(.v 14), (.c (.int .i64 0))]))))))
def ir25 : IR :=
 (.call 33 1 false [] [(.v 0)]
 (.op (.un .not) [(.v 4)]
 (.ite (.v 5)
  (.ret [(.c (.int .u64 0)), (.c (.int .i64 1))])
 (.call 34 1 false [] [(.v 1), (.v 2), (.v 3)]
 (.op (.bin .neq false) [(.v 6), (.c (.int .i64 0))]
 (.ite (.v 7)
  (.ret [(.c (.int .u64 0)), (.v 6)])
 (.call 35 1 false [] [(.v 1), (.v 2), (.v 3)]
 (.op .lenL [(.v 8)]
 (.loop 1 [(.c (.int .i64 0))] ir25p0)))))))))
theorem rd25 : readFn T SG sigs 3000 sg25 Tryz.f35 an25 = some ir25 := by kernel_rfl
def an26 : Ann := (.s none .z (.s none (.s none .z (.b (.l ⟨1, [(0, .junk), (2, .junk), (4, .junk), (7, .junk), (10, (.atm (.v 0)))], [], 1, []⟩ .z))) .z))
def ir26p0 : IR :=
 (.op (.bin .lss false) [(.v 5), (.v 4)]
 (.ite (.v 6)
  (.op (.row 1) [(.v 3), (.v 5)]
  (.op (.bin .and false) [(.v 7), (.v 2)]
  (.op (.bin .neq false) [(.v 8), (.c (.int .u64 0))]
  (.ite (.v 9)
   (.op (.bin .and false) [(.v 7), (.v 2)]
   (.ret [(.v 10)]))
  (.op (.bin .add false) [(.v 5), (.c (.int .i64 1))]
  (.jump 0 [(.v 10)]))))))
 (.ret [(.c (.int .u64 0))])))
def ir26 : IR :=
 (.call 39 1 false [] [(.v 0), (.v 1)]
 (.op .lenL [(.v 3)]
 (.loop 1 [(.c (.int .i64 0))] ir26p0)))
theorem rd26 : readFn T SG sigs 3000 sg26 Tryz.f36 an26 = some ir26 := by kernel_rfl
def an27 : Ann := (.s none .z (.s none (.b (.s none .z (.c .z (.s (some ⟨1, [(2, .junk), (6, .junk), (7, .junk), (13, .junk), (14, .junk), (15, .junk), (16, .junk), (17, (.atm (.v 0)))], [], 0, []⟩) .z .z)))) (.s none .z (.s none (.s none .z (.b (.l ⟨2, [(1, .junk), (17, .junk), (24, .junk), (25, .junk), (26, .junk), (27, .junk), (30, (.atm (.v 0)))], [(0, ⟨false, true, 32, 1, (.v 1), []⟩)], 1, [⟨none, 8, 32, 1⟩]⟩ .z))) .z))))
def ir27p0 : IR :=
 (.op (.bin .lss false) [(.v 9), (.v 8)]
 (.ite (.v 11)
  (.op (.row 3) [(.v 1), (.v 9)]
  (.call 25 2 false [] [(.v 0), (.v 12), (.v 13), (.v 14)]
  (.op (.bin .neq false) [(.v 16), (.c (.int .i64 0))]
  (.ite (.v 17)
   (.ret [(.c (.sl [])), (.v 16)])
  (.op (.mk 1 1) [(.v 15)]
  (.op (.app 1 8) [(.v 10), (.v 18)]
  (.op (.bin .add false) [(.v 9), (.c (.int .i64 1))]
  (.jump 0 [(.v 20), (.v 19)]))))))))
 (.call 40 1 true [] [(.v 10), (.c (.int .u64 0))]
 (.ite (.v 12)
  (.ret [(.c (.sl [])), (.c (.int .i64 7))])
 (.ret [(.v 10), (.c (.int .i64 0))])))))
def ir27p1 : IR :=
 (.ite (.v 5)
  (.ret [(.c (.sl [])), (.c (.int .i64 4))])
 (.op .lenL [(.v 1)]
 (.op (.bin .gtr false) [(.v 6), (.c (.int .i64 8))]
 (.ite (.v 7)
  (.ret [(.c (.sl [])), (.c (.int .i64 2))])
 (.op .lenL [(.v 1)]
 (.loop 2 [(.c (.int .i64 0)), (.c (.sl []))] ir27p0))))))
def ir27 : IR :=
 (.call 33 1 false [] [(.v 0)]
 (.op (.un .not) [(.v 3)]
 (.ite (.v 4)
  (.ret [(.c (.sl [])), (.c (.int .i64 1))])
 (.letj 1
  (.op (.bin .lss false) [(.v 2), (.c (.int .i64 1))]
  (.ite (.v 5)
   (.jump 0 [(.c (.bool true))])
  (.op (.bin .gtr false) [(.v 2), (.c (.int .i64 4))]
  (.jump 0 [(.v 6)]))))
 ir27p1))))
theorem rd27 : readFn T SG sigs 3000 sg27 Tryz.f42 an27 = some ir27 := by kernel_rfl
def an28 : Ann := (.s none .z (.s none .z (.s none (.s none .z (.b (.l ⟨2, [(7, .junk), (10, .junk), (11, .junk), (12, .junk), (13, .junk), (14, .junk), (16, (.atm (.v 0)))], [(1, ⟨false, true, 3, 1, (.v 1), []⟩)], 2, []⟩ .z))) .z)))
def ir28p0 : IR :=
 (.op (.bin .lss false) [(.v 7), (.v 6)]
 (.ite (.v 9)
  (.call 30 1 false [0] [(.v 0), (.v 1), (.v 7), (.v 2)]
  (.call 41 2 false [1] [(.v 2), (.v 10)]
  (.op .chk [(.v 8), (.v 7)]
  (.op (.set 0 1) [(.v 8), (.v 7), (.v 11)]
  (.op (.bin .add false) [(.v 7), (.c (.int .i64 1))]
  (.jump 0 [(.v 14), (.v 13)]))))))
 (.call 42 3 false [] [(.v 0), (.v 8)]
 (.ret [(.v 10), (.v 11), (.v 12)]))))
def ir28 : IR :=
 (.op .lenL [(.v 0)]
 (.op (.bin .shl false) [(.c (.int .i64 1)), (.v 3)]
 (.op (.mkL 8 [(.int .i64 0)]) [(.v 4)]
 (.op .lenL [(.v 5)]
 (.loop 2 [(.c (.int .i64 0)), (.v 5)] ir28p0)))))
theorem rd28 : readFn T SG sigs 3000 sg28 Tryz.f46 an28 = some ir28 := by kernel_rfl
def an29 : Ann := (.s none .z (.s none .z (.s none .z (.s (some ⟨1, [(0, (.atm (.v 0))), (1, .junk), (4, .junk), (5, .junk), (6, .junk), (7, .junk), (8, .junk), (9, .junk)], [], 0, []⟩) .z .z))))
def ir29p0 : IR :=
 (.ret [(.v 4)])
def ir29 : IR :=
 (.op (.bin .lss false) [(.v 1), (.c (.int .i64 1))]
 (.ite (.v 2)
  (.ret [(.c (.int .i64 0))])
 (.op (.bin .rem false) [(.v 0), (.v 1)]
 (.letj 1
  (.op (.bin .lss false) [(.v 3), (.c (.int .i64 0))]
  (.ite (.v 4)
   (.op (.bin .add false) [(.v 3), (.v 1)]
   (.jump 0 [(.v 5)]))
  (.jump 0 [(.v 3)])))
 ir29p0))))
theorem rd29 : readFn T SG sigs 3000 sg29 Tryz.f41 an29 = some ir29 := by kernel_rfl
def an30 : Ann := (.s none .z (.s none .z (.s none (.s none .z (.b (.l ⟨2, [(1, .junk), (8, .junk), (14, (.atm (.v 0)))], [(0, ⟨false, true, 3, 1, (.v 1), []⟩)], 1, [⟨none, 9, 3, 1⟩]⟩ .z))) .z)))
def ir30p0 : IR :=
 (.op (.bin .lss false) [(.v 5), (.v 4)]
 (.ite (.v 7)
  (.op (.row 1) [(.v 1), (.v 5)]
  (.call 43 1 false [] [(.v 0), (.v 8), (.v 2), (.v 3)]
  (.op (.mk 1 1) [(.v 9)]
  (.op (.app 1 8) [(.v 6), (.v 10)]
  (.op (.bin .add false) [(.v 5), (.c (.int .i64 1))]
  (.jump 0 [(.v 12), (.v 11)]))))))
 (.ret [(.v 6)])))
def ir30 : IR :=
 (.op .lenL [(.v 1)]
 (.loop 2 [(.c (.int .i64 0)), (.c (.sl []))] ir30p0))
theorem rd30 : readFn T SG sigs 3000 sg30 Tryz.f43 an30 = some ir30 := by kernel_rfl
def an31 : Ann := (.s none .z (.s none (.s (some ⟨1, [(2, .junk), (21, (.atm (.v 0)))], [], 0, []⟩) .z .z) (.s none (.s none .z (.b (.l ⟨1, [(3, (.atm (.v 0))), (21, .junk)], [], 0, []⟩ (.s none .z (.s none (.b (.s (some ⟨1, [(22, .junk), (23, .junk), (24, .junk), (25, .junk), (55, (.atm (.v 0)))], [], 0, []⟩) .z .z)) .z))))) .z)))
def ir31p0 : IR :=
 (.ite (.v 5)
  (.ret [(.c (.bool false))])
 (.op (.bin .add false) [(.v 2), (.c (.int .i64 1))]
 (.jump 0 [(.v 6)])))
def ir31p1 : IR :=
 (.op .lenS [(.v 0)]
 (.op (.bin .lss false) [(.v 2), (.v 3)]
 (.ite (.v 4)
  (.letj 1
   (.op .idxS [(.v 0), (.v 2)]
   (.op (.bin .lss false) [(.v 5), (.c (.int .u8 97))]
   (.ite (.v 6)
    (.op .idxS [(.v 0), (.v 2)]
    (.op (.bin .lss false) [(.v 7), (.c (.int .u8 48))]
    (.ite (.v 8)
     (.op .idxS [(.v 0), (.v 2)]
     (.op (.bin .neq false) [(.v 9), (.c (.int .u8 95))]
     (.jump 1 [(.v 10)])))
    (.op .idxS [(.v 0), (.v 2)]
    (.op (.bin .gtr false) [(.v 9), (.c (.int .u8 57))]
    (.ite (.v 10)
     (.op .idxS [(.v 0), (.v 2)]
     (.op (.bin .neq false) [(.v 11), (.c (.int .u8 95))]
     (.jump 1 [(.v 12)])))
    (.jump 1 [(.c (.bool false))])))))))
   (.op .idxS [(.v 0), (.v 2)]
   (.op (.bin .gtr false) [(.v 7), (.c (.int .u8 122))]
   (.ite (.v 8)
    (.op .idxS [(.v 0), (.v 2)]
    (.op (.bin .lss false) [(.v 9), (.c (.int .u8 48))]
    (.ite (.v 10)
     (.op .idxS [(.v 0), (.v 2)]
     (.op (.bin .neq false) [(.v 11), (.c (.int .u8 95))]
     (.jump 1 [(.v 12)])))
    (.op .idxS [(.v 0), (.v 2)]
    (.op (.bin .gtr false) [(.v 11), (.c (.int .u8 57))]
    (.ite (.v 12)
     (.op .idxS [(.v 0), (.v 2)]
     (.op (.bin .neq false) [(.v 13), (.c (.int .u8 95))]
     (.jump 1 [(.v 14)])))
    (.jump 1 [(.c (.bool false))])))))))
   (.jump 1 [(.c (.bool false))])))))))
  ir31p0)
 (.ret [(.c (.bool true))]))))
def ir31p2 : IR :=
 (.ite (.v 1)
  (.ret [(.c (.bool false))])
 (.loop 1 [(.c (.int .i64 0))] ir31p1))
def ir31 : IR :=
 (.letj 1
  (.op .lenS [(.v 0)]
  (.op (.bin .lss false) [(.v 1), (.c (.int .i64 1))]
  (.ite (.v 2)
   (.jump 0 [(.c (.bool true))])
  (.op .lenS [(.v 0)]
  (.op (.bin .gtr false) [(.v 3), (.c (.int .i64 12))]
  (.ite (.v 4)
   (.jump 0 [(.c (.bool true))])
  (.op .idxS [(.v 0), (.c (.int .i64 0))]
  (.op (.bin .lss false) [(.v 5), (.c (.int .u8 97))]
  (.ite (.v 6)
   (.jump 0 [(.c (.bool true))])
  (.op .idxS [(.v 0), (.c (.int .i64 0))]
  (.op (.bin .gtr false) [(.v 7), (.c (.int .u8 122))]
  (.jump 0 [(.v 8)]))))))))))))
 ir31p2)
theorem rd31 : readFn T SG sigs 3000 sg31 Tryz.f52 an31 = some ir31 := by kernel_rfl
def an32 : Ann := (.s none .z (.s none .z (.s none .z (.s none .z (.s none .z (.s none .z (.s none (.b (.s none .z (.c .z (.s (some ⟨1, [(0, .junk), (1, .junk), (9, .junk), (10, .junk), (11, .junk), (12, .junk), (13, .junk), (15, .junk), (16, .junk), (17, .junk), (18, .junk), (19, .junk), (20, .junk), (21, .junk), (23, .junk), (24, .junk), (25, .junk), (26, .junk), (27, .junk), (28, .junk), (29, .junk), (30, .junk), (31, .junk), (32, .junk), (33, .junk), (34, .junk), (35, .junk), (36, .junk), (37, .junk), (38, .junk), (39, .junk), (40, .junk), (41, .junk), (42, .junk), (43, .junk), (44, .junk), (45, .junk), (47, (.atm (.v 0)))], [], 18, []⟩) .z (.c .z (.s none .z (.c .z (.s (some ⟨1, [(47, .junk), (57, .junk), (58, .junk), (59, .junk), (60, .junk), (64, (.atm (.v 0)))], [], 18, []⟩) .z .z)))))))) .z)))))))
def ir32p0 : IR :=
 (.ite (.v 26)
  (.ret [(.c (.int .i64 4)), (.c (.str [])), (.v 10)])
 (.op (.bin .eql false) [(.v 14), (.c (.int .i64 2))]
 (.ite (.v 27)
  (.call 46 3 false [] [(.c (.int .i64 5)), (.c (.int .i64 4)), (.c (.str [])), (.v 10), (.v 20), (.v 21), (.v 22)]
  (.ret [(.v 28), (.v 29), (.v 30)]))
 (.op (.bin .eql false) [(.v 20), (.c (.int .i64 1))]
 (.ite (.v 28)
  (.call 46 3 false [] [(.c (.int .i64 6)), (.c (.int .i64 4)), (.c (.str [])), (.v 10), (.v 14), (.v 15), (.v 16)]
  (.ret [(.v 29), (.v 30), (.v 31)]))
 (.op (.bin .eql false) [(.v 20), (.c (.int .i64 2))]
 (.ite (.v 29)
  (.call 46 3 false [] [(.c (.int .i64 5)), (.c (.int .i64 3)), (.v 9), (.c (.sl [])), (.v 14), (.v 15), (.v 16)]
  (.ret [(.v 30), (.v 31), (.v 32)]))
 (.call 46 3 false [] [(.c (.int .i64 5)), (.c (.int .i64 3)), (.v 9), (.c (.sl [])), (.v 14), (.v 15), (.v 16)]
 (.call 46 3 false [] [(.c (.int .i64 5)), (.c (.int .i64 4)), (.c (.str [])), (.v 10), (.v 20), (.v 21), (.v 22)]
 (.call 46 3 false [] [(.c (.int .i64 6)), (.v 30), (.v 31), (.v 32), (.v 33), (.v 34), (.v 35)]
 (.ret [(.v 36), (.v 37), (.v 38)])))))))))))
def ir32p1 : IR :=
 (.ite (.v 24)
  (.ret [(.c (.int .i64 3)), (.v 9), (.c (.sl []))])
 (.op (.bin .eql false) [(.v 14), (.c (.int .i64 1))]
 (.ite (.v 25)
  (.call 46 3 false [] [(.c (.int .i64 6)), (.c (.int .i64 3)), (.v 9), (.c (.sl [])), (.v 20), (.v 21), (.v 22)]
  (.ret [(.v 26), (.v 27), (.v 28)]))
 (.letj 1
  (.op (.bin .eql false) [(.v 14), (.c (.int .i64 2))]
  (.ite (.v 26)
   (.op (.bin .eql false) [(.v 20), (.c (.int .i64 1))]
   (.jump 0 [(.v 27)]))
  (.jump 0 [(.c (.bool false))])))
 ir32p0))))
def ir32 : IR :=
 (.call 9 1 false [] [(.v 0)]
 (.op (.bin .and false) [(.v 1), (.v 2)]
 (.op (.bin .eql false) [(.v 3), (.c (.int .u64 0))]
 (.ite (.v 4)
  (.ret [(.c (.int .i64 2)), (.c (.str [])), (.c (.sl []))])
 (.call 9 1 false [] [(.v 0)]
 (.op (.bin .and false) [(.v 1), (.v 5)]
 (.call 9 1 false [] [(.v 0)]
 (.op (.bin .eql false) [(.v 6), (.v 7)]
 (.ite (.v 8)
  (.ret [(.c (.int .i64 1)), (.c (.str [])), (.c (.sl []))])
 (.op (.row 1) [(.v 0), (.c (.int .i64 0))]
 (.op (.mk 3 1) [(.c (.int .i64 3)), (.v 9), (.c (.sl []))]
 (.op .lenL [(.v 0)]
 (.op (.subL 1) [(.v 0), (.c (.int .i64 1)), (.v 11)]
 (.call 44 1 false [] [(.v 0), (.v 1), (.c (.int .i64 1))]
 (.call 32 3 false [] [(.v 12), (.v 13)]
 (.op .lenL [(.v 0)]
 (.op (.subL 1) [(.v 0), (.c (.int .i64 1)), (.v 17)]
 (.call 44 1 false [] [(.v 0), (.v 1), (.c (.int .i64 0))]
 (.call 32 3 false [] [(.v 18), (.v 19)]
 (.call 45 1 false [] [(.v 14), (.v 15), (.v 16), (.v 20), (.v 21), (.v 22)]
 (.ite (.v 23)
  (.ret [(.v 14), (.v 15), (.v 16)])
 (.letj 1
  (.op (.bin .eql false) [(.v 14), (.c (.int .i64 1))]
  (.ite (.v 24)
   (.op (.bin .eql false) [(.v 20), (.c (.int .i64 2))]
   (.jump 0 [(.v 25)]))
  (.jump 0 [(.c (.bool false))])))
 ir32p1))))))))))))))))))))))
theorem rd32 : readFn T SG sigs 3000 sg32 Tryz.f60 an32 = some ir32 := by kernel_rfl
def an33 : Ann := (.s none .z (.s none .z (.s none (.s none .z (.b (.l ⟨1, [(2, .junk), (5, .junk), (6, .junk), (7, .junk), (10, (.atm (.v 0)))], [], 0, []⟩ (.s none .z (.s none .z (.s none (.b (.s none .z (.s (some ⟨1, [(3, .junk), (4, .junk), (11, .junk), (12, .junk), (13, .junk), (14, .junk), (30, (.atm (.v 0)))], [], 0, []⟩) .z .z))) .z)))))) .z)))
def ir33p0 : IR :=
 (.ite (.v 7)
  (.ret [(.c (.bool false))])
 (.op (.bin .add false) [(.v 4), (.c (.int .i64 1))]
 (.jump 0 [(.v 8)])))
def ir33p1 : IR :=
 (.op (.bin .lss false) [(.v 4), (.v 3)]
 (.ite (.v 5)
  (.op (.row 1) [(.v 0), (.v 4)]
  (.letj 1
   (.call 47 1 false [] [(.v 6)]
   (.op (.un .not) [(.v 7)]
   (.ite (.v 8)
    (.jump 1 [(.c (.bool true))])
   (.op (.bin .gtr false) [(.v 4), (.c (.int .i64 0))]
   (.ite (.v 9)
    (.op (.bin .sub false) [(.v 4), (.c (.int .i64 1))]
    (.op (.row 1) [(.v 0), (.v 10)]
    (.op (.bin .geq false) [(.v 11), (.v 6)]
    (.jump 1 [(.v 12)]))))
   (.jump 1 [(.c (.bool false))]))))))
  ir33p0))
 (.ret [(.c (.bool true))])))
def ir33 : IR :=
 (.op .lenL [(.v 0)]
 (.op (.bin .gtr false) [(.v 1), (.c (.int .i64 6))]
 (.ite (.v 2)
  (.ret [(.c (.bool false))])
 (.op .lenL [(.v 0)]
 (.loop 1 [(.c (.int .i64 0))] ir33p1)))))
theorem rd33 : readFn T SG sigs 3000 sg33 Tryz.f53 an33 = some ir33 := by kernel_rfl
def an34 : Ann := (.s none .z (.s none (.b (.s (some ⟨1, [(0, .junk), (2, .junk), (3, (.atm (.v 0)))], [], 1, []⟩) .z .z)) .z))
def ir34p0 : IR :=
 (.ite (.v 3)
  (.ret [(.c (.int .i64 2))])
 (.call 50 1 false [] [(.v 0), (.v 1), (.v 2)]
 (.op (.un .not) [(.v 4)]
 (.ite (.v 5)
  (.ret [(.c (.int .i64 4))])
 (.call 51 1 false [] [(.v 0), (.v 1), (.v 2)]
 (.op (.un .not) [(.v 6)]
 (.ite (.v 7)
  (.ret [(.c (.int .i64 3))])
 (.ret [(.c (.int .i64 0))]))))))))
def ir34 : IR :=
 (.letj 1
  (.call 48 1 false [] [(.v 0), (.v 1), (.v 2)]
  (.op (.bin .gtr false) [(.v 3), (.c (.int .i64 600))]
  (.ite (.v 4)
   (.jump 0 [(.c (.bool true))])
  (.call 49 1 false [] [(.v 0), (.v 1), (.v 2)]
  (.op (.bin .gtr false) [(.v 5), (.c (.int .i64 20))]
  (.jump 0 [(.v 6)]))))))
 ir34p0)
theorem rd34 : readFn T SG sigs 3000 sg34 Tryz.f54 an34 = some ir34 := by kernel_rfl
def an36 : Ann := .z
def ir36 : IR :=
 (.call 52 1 false [] [(.v 0), (.v 1)]
 (.op (.bin .geq false) [(.v 2), (.c (.int .i64 0))]
 (.ret [(.v 3)])))
theorem rd36 : readFn T SG sigs 3000 sg36 Tryz.f56 an36 = some ir36 := by kernel_rfl
def an37 : Ann := (.s none .z (.s none (.s none .z (.b (.s none .z (.c .z (.s none .z (.c .z (.s none .z (.c .z (.s none .z (.c .z (.s none .z (.c .z (.s none .z (.c (.s none .z (.s none (.s none .z (.b (.l ⟨2, [(1, .junk), (3, .junk), (4, .junk), (5, (.atm (.v 0))), (11, .junk), (12, .junk), (13, .junk), (14, .junk), (15, .junk), (16, .junk), (22, .junk), (23, .junk), (31, .junk), (32, .junk), (47, .junk), (48, .junk), (63, .junk), (64, .junk), (65, .junk), (68, (.atm (.v 1)))], [], 1, []⟩ .z))) .z)) .z)))))))))))))) (.s none .z (.s none (.s none .z (.b (.l ⟨2, [(1, .junk), (3, .junk), (4, .junk), (8, (.atm (.v 0))), (11, .junk), (12, .junk), (13, .junk), (14, .junk), (15, .junk), (16, .junk), (22, .junk), (23, .junk), (31, .junk), (32, .junk), (47, .junk), (48, .junk), (63, .junk), (64, .junk), (79, .junk), (82, (.atm (.v 1)))], [], 1, []⟩ .z))) .z))))
def ir37p0 : IR :=
 (.op (.bin .lss false) [(.v 12), (.v 10)]
 (.ite (.v 13)
  (.op (.row 3) [(.v 3), (.v 12)]
  (.call 37 1 false [] [(.v 0), (.v 14), (.v 15), (.v 16)]
  (.op (.bin .and false) [(.v 11), (.v 17)]
  (.op (.bin .add false) [(.v 12), (.c (.int .i64 1))]
  (.jump 0 [(.v 18), (.v 19)])))))
 (.ret [(.v 11)])))
def ir37p1 : IR :=
 (.op (.bin .lss false) [(.v 12), (.v 10)]
 (.ite (.v 13)
  (.op (.row 3) [(.v 3), (.v 12)]
  (.call 37 1 false [] [(.v 0), (.v 14), (.v 15), (.v 16)]
  (.op (.bin .or false) [(.v 11), (.v 17)]
  (.op (.bin .add false) [(.v 12), (.c (.int .i64 1))]
  (.jump 0 [(.v 18), (.v 19)])))))
 (.ret [(.v 11)])))
def ir37 : IR :=
 (.op (.bin .eql false) [(.v 1), (.c (.int .i64 1))]
 (.ite (.v 4)
  (.ret [(.c (.int .u64 18446744073709551615))])
 (.op (.bin .eql false) [(.v 1), (.c (.int .i64 3))]
 (.ite (.v 5)
  (.call 52 1 false [] [(.v 0), (.v 2)]
  (.call 53 1 false [] [(.v 6)]
  (.ret [(.v 7)])))
 (.op (.bin .eql false) [(.v 1), (.c (.int .i64 4))]
 (.ite (.v 6)
  (.op (.row 3) [(.v 3), (.c (.int .i64 0))]
  (.call 37 1 false [] [(.v 0), (.v 7), (.v 8), (.v 9)]
  (.op (.un .xor) [(.v 10)]
  (.ret [(.v 11)]))))
 (.op (.bin .eql false) [(.v 1), (.c (.int .i64 7))]
 (.ite (.v 7)
  (.op (.row 3) [(.v 3), (.c (.int .i64 0))]
  (.call 37 1 false [] [(.v 0), (.v 8), (.v 9), (.v 10)]
  (.op (.un .xor) [(.v 11)]
  (.op (.row 3) [(.v 3), (.c (.int .i64 1))]
  (.call 37 1 false [] [(.v 0), (.v 13), (.v 14), (.v 15)]
  (.op (.bin .or false) [(.v 12), (.v 16)]
  (.ret [(.v 17)])))))))
 (.op (.bin .eql false) [(.v 1), (.c (.int .i64 8))]
 (.ite (.v 8)
  (.op (.row 3) [(.v 3), (.c (.int .i64 0))]
  (.call 37 1 false [] [(.v 0), (.v 9), (.v 10), (.v 11)]
  (.op (.row 3) [(.v 3), (.c (.int .i64 1))]
  (.call 37 1 false [] [(.v 0), (.v 13), (.v 14), (.v 15)]
  (.op (.bin .xor false) [(.v 12), (.v 16)]
  (.op (.un .xor) [(.v 17)]
  (.ret [(.v 18)])))))))
 (.op (.bin .eql false) [(.v 1), (.c (.int .i64 5))]
 (.ite (.v 9)
  (.op .lenL [(.v 3)]
  (.loop 2 [(.c (.int .u64 18446744073709551615)), (.c (.int .i64 0))] ir37p0))
 (.op .lenL [(.v 3)]
 (.loop 2 [(.c (.int .u64 0)), (.c (.int .i64 0))] ir37p1))))))))))))))
theorem rd37 : readFn T SG sigs 3000 sg37 Tryz.f57 an37 = some ir37 := by kernel_rfl
def an38 : Ann := .z
def ir38 : IR :=
 (.call 33 1 false [] [(.v 0)]
 (.op (.un .not) [(.v 1)]
 (.ite (.v 2)
  (.ret [(.c (.int .u64 0))])
 (.op .lenL [(.v 0)]
 (.call 54 1 false [] [(.v 3)]
 (.ret [(.v 4)]))))))
theorem rd38 : readFn T SG sigs 3000 sg38 Tryz.f58 an38 = some ir38 := by kernel_rfl
def an39 : Ann := (.s none .z (.s none .z (.s none .z (.s none (.s none .z (.b (.l ⟨2, [(0, .junk), (1, .junk), (2, .junk), (6, .junk), (7, .junk), (8, .junk), (9, .junk), (10, .junk), (11, .junk), (12, .junk), (13, .junk), (14, .junk), (17, (.atm (.v 0)))], [(1, ⟨false, true, 32, 1, (.v 1), []⟩)], 2, []⟩ .z))) .z))))
def ir39p0 : IR :=
 (.op (.bin .lss false) [(.v 8), (.v 7)]
 (.ite (.v 10)
  (.op (.row 1) [(.v 1), (.v 8)]
  (.op .chk [(.v 9), (.v 11)]
  (.op (.get 0 1) [(.v 9), (.v 11)]
  (.op (.conv .u64) [(.v 8)]
  (.op (.bin .shl false) [(.c (.int .u64 1)), (.v 13)]
  (.op (.bin .or false) [(.v 12), (.v 14)]
  (.op .chk [(.v 9), (.v 11)]
  (.op (.set 0 1) [(.v 9), (.v 11), (.v 15)]
  (.op (.bin .add false) [(.v 8), (.c (.int .i64 1))]
  (.jump 0 [(.v 17), (.v 16)]))))))))))
 (.ret [(.v 9)])))
def ir39 : IR :=
 (.call 55 1 false [] [(.v 0), (.v 1)]
 (.op (.bin .neq false) [(.v 2), (.c (.int .i64 0))]
 (.ite (.v 3)
  (.ret [(.c (.sl []))])
 (.call 56 1 false [] [(.v 1)]
 (.op (.bin .add false) [(.v 4), (.c (.int .i64 1))]
 (.op (.mkL 8 [(.int .u64 0)]) [(.v 5)]
 (.op .lenL [(.v 1)]
 (.loop 2 [(.c (.int .i64 0)), (.v 6)] ir39p0))))))))
theorem rd39 : readFn T SG sigs 3000 sg39 Tryz.f59 an39 = some ir39 := by kernel_rfl
def an40 : Ann := .z
def ir40 : IR :=
 (.call 57 1 false [] [(.v 0), (.v 1)]
 (.op (.bin .geq false) [(.v 2), (.c (.int .i64 0))]
 (.ret [(.v 3)])))
theorem rd40 : readFn T SG sigs 3000 sg40 Tryz.f61 an40 = some ir40 := by kernel_rfl
def an41 : Ann := (.s none .z (.s none .z (.s none .z (.s none .z (.s none (.s none .z (.b (.l ⟨2, [(4, .junk), (5, (.atm (.v 0))), (8, .junk), (9, .junk), (10, .junk), (11, .junk), (14, (.atm (.v 1)))], [], 1, []⟩ (.s none .z (.s none .z (.s (some ⟨1, [(5, (.atm (.v 0))), (15, .junk)], [], 1, []⟩) .z .z)))))) .z)))))
def ir41p0 : IR :=
 (.op (.bin .add false) [(.v 6), (.c (.int .i64 1))]
 (.jump 0 [(.v 8), (.v 9)]))
def ir41p1 : IR :=
 (.op (.bin .lss false) [(.v 6), (.v 4)]
 (.ite (.v 7)
  (.letj 1
   (.op .chk [(.v 3), (.v 6)]
   (.op (.get 0 1) [(.v 3), (.v 6)]
   (.op (.bin .eql false) [(.v 0), (.c (.int .i64 3))]
   (.ite (.v 9)
    (.op .max [(.v 5), (.v 8)]
    (.jump 1 [(.v 10)]))
   (.op (.bin .eql false) [(.v 0), (.c (.int .i64 2))]
   (.ite (.v 10)
    (.op (.bin .mul false) [(.v 5), (.c (.int .i64 7))]
    (.op .chk [(.v 3), (.v 6)]
    (.op (.get 0 1) [(.v 3), (.v 6)]
    (.op (.bin .add false) [(.v 11), (.v 12)]
    (.jump 1 [(.v 13)])))))
   (.op (.bin .add false) [(.v 5), (.v 8)]
   (.jump 1 [(.v 11)]))))))))
  ir41p0)
 (.ret [(.v 5), (.v 3)])))
def ir41 : IR :=
 (.call 58 1 false [0] [(.v 1)]
 (.call 59 1 false [0] [(.v 2)]
 (.op .lenL [(.v 3)]
 (.loop 2 [(.c (.int .i64 0)), (.c (.int .i64 0))] ir41p1))))
theorem rd41 : readFn T SG sigs 3000 sg41 Tryz.f63 an41 = some ir41 := by kernel_rfl
def an42 : Ann := (.s none .z (.s none (.s (some ⟨1, [(5, .junk), (22, (.atm (.v 0)))], [], 1, []⟩) .z .z) (.s none .z (.s none .z (.s none (.s none .z (.b (.l ⟨2, [(0, .junk), (1, .junk), (22, .junk), (24, .junk), (25, .junk), (27, .junk), (28, .junk), (29, .junk), (30, .junk), (33, (.atm (.v 0)))], [(5, ⟨false, true, 3, 1, (.v 1), []⟩)], 6, [⟨some (4, 0, 1), 0, 3, 1⟩]⟩ .z))) .z)))))
def ir42p0 : IR :=
 (.op (.bin .lss false) [(.v 10), (.v 9)]
 (.ite (.v 12)
  (.op (.row 1) [(.v 1), (.v 10)]
  (.call 64 2 false [] [(.v 6), (.v 13)]
  (.op (.mk 1 1) [(.v 14)]
  (.op (.app 1 8) [(.v 11), (.v 16)]
  (.op (.bin .add false) [(.v 10), (.c (.int .i64 1))]
  (.jump 0 [(.v 18), (.v 17)]))))))
 (.ret [(.v 8), (.v 11), (.c (.int .i64 0))])))
def ir42p1 : IR :=
 (.ite (.v 2)
  (.ret [(.c (.sl [])), (.c (.sl [])), (.c (.int .i64 1))])
 (.call 60 1 false [] [(.v 1)]
 (.call 61 2 false [0] [(.v 3)]
 (.call 62 2 false [1] [(.v 4)]
 (.call 63 1 false [0] [(.v 0)]
 (.op .lenL [(.v 1)]
 (.loop 2 [(.c (.int .i64 0)), (.c (.sl []))] ir42p0)))))))
def ir42 : IR :=
 (.letj 1
  (.call 33 1 false [] [(.v 0)]
  (.op (.un .not) [(.v 2)]
  (.ite (.v 3)
   (.jump 0 [(.c (.bool true))])
  (.op .lenL [(.v 1)]
  (.op .lenL [(.v 0)]
  (.op (.bin .shl false) [(.c (.int .i64 1)), (.v 5)]
  (.op (.bin .neq false) [(.v 4), (.v 6)]
  (.jump 0 [(.v 7)]))))))))
 ir42p1)
theorem rd42 : readFn T SG sigs 3000 sg42 Tryz.f64 an42 = some ir42 := by kernel_rfl
def an43 : Ann := (.s none .z (.s none .z (.s none (.s none .z (.b (.l ⟨2, [(0, .junk), (1, .junk), (8, .junk), (9, (.atm (.v 0))), (13, .junk), (14, .junk), (17, (.atm (.v 1)))], [], 0, []⟩ (.s none .z (.s none .z (.s none (.b (.s none .z (.s none .z (.s (some ⟨1, [(11, .junk), (12, (.atm (.v 0))), (18, .junk), (19, .junk), (20, .junk), (21, .junk), (22, .junk), (23, .junk)], [], 0, []⟩) .z .z)))) .z)))))) .z)))
def ir43p0 : IR :=
 (.op .min [(.v 6), (.v 11)]
 (.op (.bin .add false) [(.v 7), (.c (.int .i64 1))]
 (.jump 0 [(.v 12), (.v 13)])))
def ir43p1 : IR :=
 (.op (.bin .lss false) [(.v 7), (.v 5)]
 (.ite (.v 8)
  (.op (.row 1) [(.v 4), (.v 7)]
  (.call 66 1 false [] [(.v 9), (.v 2)]
  (.letj 1
   (.op (.bin .eql false) [(.v 3), (.c (.int .i64 4))]
   (.ite (.v 11)
    (.op .min [(.v 10), (.c (.int .i64 1))]
    (.jump 1 [(.v 12)]))
   (.jump 1 [(.v 10)])))
  ir43p0)))
 (.ret [(.v 6)])))
def ir43 : IR :=
 (.call 65 1 false [] [(.v 0), (.v 1)]
 (.op .lenL [(.v 4)]
 (.loop 2 [(.c (.int .i64 7)), (.c (.int .i64 0))] ir43p1)))
theorem rd43 : readFn T SG sigs 3000 sg43 Tryz.f62 an43 = some ir43 := by kernel_rfl
def an44 : Ann := (.s none .z (.s none .z (.s none (.s none .z (.b (.l ⟨2, [(6, .junk), (7, (.atm (.v 0))), (8, (.atm (.v 1)))], [], 0, []⟩ (.s none .z (.s (some ⟨1, [(7, (.atm (.v 0))), (9, .junk), (10, .junk), (11, .junk), (12, .junk)], [], 0, []⟩) (.b (.s (some ⟨1, [(9, .junk), (10, .junk), (11, .junk), (12, .junk), (23, (.atm (.v 0)))], [], 0, []⟩) .z .z)) .z))))) .z)))
def ir44p0 : IR :=
 (.op (.bin .add false) [(.v 4), (.c (.int .i64 1))]
 (.jump 0 [(.v 7), (.v 8)]))
def ir44p1 : IR :=
 (.ite (.v 7)
  (.op (.bin .shr false) [(.v 4), (.c (.int .u64 1))]
  (.op (.conv .u64) [(.v 8)]
  (.op (.bin .shl false) [(.c (.int .u64 1)), (.v 9)]
  (.op (.bin .or false) [(.v 3), (.v 10)]
  (.jump 1 [(.v 11)])))))
 (.jump 1 [(.v 3)]))
def ir44p2 : IR :=
 (.call 22 1 false [] [(.v 0)]
 (.op (.bin .lss false) [(.v 4), (.v 5)]
 (.ite (.v 6)
  (.letj 1
   (.letj 1
    (.call 67 1 false [] [(.v 1), (.v 4)]
    (.ite (.v 7)
     (.op (.bin .and false) [(.v 4), (.c (.int .i64 1))]
     (.op (.bin .eql false) [(.v 8), (.v 2)]
     (.jump 2 [(.v 9)])))
    (.jump 2 [(.c (.bool false))])))
   ir44p1)
  ir44p0)
 (.ret [(.v 3)]))))
def ir44 : IR :=
 (.loop 2 [(.c (.int .u64 0)), (.c (.int .i64 0))] ir44p2)
theorem rd44 : readFn T SG sigs 3000 sg44 Tryz.f88 an44 = some ir44 := by kernel_rfl
def an45 : Ann := (.s none .z (.s none (.s (some ⟨1, [(0, .junk), (1, .junk), (4, .junk), (26, (.atm (.v 0)))], [], 2, []⟩) .z .z) (.s none (.s none .z (.b (.l ⟨1, [(5, (.atm (.v 0))), (26, .junk)], [], 2, []⟩ .z))) .z)))
def ir45p0 : IR :=
 (.op .lenL [(.v 2)]
 (.op (.bin .lss false) [(.v 7), (.v 8)]
 (.ite (.v 9)
  (.op (.row 3) [(.v 2), (.v 7)]
  (.op (.row 3) [(.v 5), (.v 7)]
  (.call 45 1 false [] [(.v 10), (.v 11), (.v 12), (.v 13), (.v 14), (.v 15)]
  (.op (.un .not) [(.v 16)]
  (.ite (.v 17)
   (.ret [(.c (.bool false))])
  (.op (.bin .add false) [(.v 7), (.c (.int .i64 1))]
  (.jump 0 [(.v 18)])))))))
 (.ret [(.c (.bool true))]))))
def ir45p1 : IR :=
 (.ite (.v 6)
  (.ret [(.c (.bool false))])
 (.loop 1 [(.c (.int .i64 0))] ir45p0))
def ir45 : IR :=
 (.letj 1
  (.op (.bin .neq false) [(.v 0), (.v 3)]
  (.ite (.v 6)
   (.jump 0 [(.c (.bool true))])
  (.op (.bin .neq false) [(.v 1), (.v 4)]
  (.ite (.v 7)
   (.jump 0 [(.c (.bool true))])
  (.op .lenL [(.v 2)]
  (.op .lenL [(.v 5)]
  (.op (.bin .neq false) [(.v 8), (.v 9)]
  (.jump 0 [(.v 10)]))))))))
 ir45p1)
theorem rd45 : readFn T SG sigs 3000 sg45 Tryz.f89 an45 = some ir45 := by kernel_rfl
def an46 : Ann := .z
def ir46 : IR :=
 (.op (.mk 3 2) [(.v 1), (.v 2), (.v 3), (.v 4), (.v 5), (.v 6)]
 (.ret [(.v 0), (.c (.str [])), (.v 7)]))
theorem rd46 : readFn T SG sigs 3000 sg46 Tryz.f90 an46 = some ir46 := by kernel_rfl
def an47 : Ann := (.s none .z (.s none (.s (some ⟨1, [(2, .junk), (12, (.atm (.v 0)))], [], 0, []⟩) .z .z) (.s none (.s none .z (.b (.l ⟨1, [(12, .junk), (13, .junk), (15, (.atm (.v 0)))], [], 0, []⟩ (.s none .z (.s none .z (.s (some ⟨0, [(16, .junk)], [], 0, []⟩) (.b (.s none .z (.s none .z (.b (.s (some ⟨1, [(16, .junk), (17, .junk), (18, .junk), (19, .junk), (20, .junk), (21, (.atm (.v 0)))], [], 0, []⟩) .z (.c .z (.s (some ⟨1, [(3, .junk), (4, .junk), (21, .junk), (28, (.atm (.v 0)))], [], 0, []⟩) .z .z))))))) .z)))))) .z)))
def ir47p0 : IR :=
 (.op (.bin .add false) [(.v 3), (.c (.int .i64 1))]
 (.jump 0 [(.v 5)]))
def ir47p1 : IR :=
 (.ite (.v 7)
  (.jump 1 [])
 (.ret [(.c (.bool false))]))
def ir47p2 : IR :=
 (.ite (.v 6)
  (.jump 1 [])
 (.letj 1
  (.op (.bin .gtr false) [(.v 3), (.c (.int .i64 0))]
  (.ite (.v 7)
   (.op (.bin .geq false) [(.v 5), (.c (.int .u8 48))]
   (.ite (.v 8)
    (.op (.bin .leq false) [(.v 5), (.c (.int .u8 57))]
    (.ite (.v 9)
     (.jump 2 [(.c (.bool true))])
    (.op (.bin .eql false) [(.v 5), (.c (.int .u8 95))]
    (.jump 2 [(.v 10)]))))
   (.op (.bin .eql false) [(.v 5), (.c (.int .u8 95))]
   (.jump 2 [(.v 9)]))))
  (.jump 2 [(.c (.bool false))])))
 ir47p1))
def ir47p3 : IR :=
 (.op (.bin .lss false) [(.v 3), (.v 2)]
 (.ite (.v 4)
  (.letj 0
   (.op .idxS [(.v 0), (.v 3)]
   (.letj 1
    (.op (.bin .geq false) [(.v 5), (.c (.int .u8 97))]
    (.ite (.v 6)
     (.op (.bin .leq false) [(.v 5), (.c (.int .u8 122))]
     (.jump 2 [(.v 7)]))
    (.jump 2 [(.c (.bool false))])))
   ir47p2))
  ir47p0)
 (.ret [(.c (.bool true))])))
def ir47p4 : IR :=
 (.ite (.v 1)
  (.ret [(.c (.bool false))])
 (.op .lenS [(.v 0)]
 (.loop 1 [(.c (.int .i64 0))] ir47p3)))
def ir47 : IR :=
 (.letj 1
  (.op .lenS [(.v 0)]
  (.op (.bin .eql false) [(.v 1), (.c (.int .i64 0))]
  (.ite (.v 2)
   (.jump 0 [(.c (.bool true))])
  (.op .lenS [(.v 0)]
  (.op (.bin .gtr false) [(.v 3), (.c (.int .i64 12))]
  (.jump 0 [(.v 4)]))))))
 ir47p4)
theorem rd47 : readFn T SG sigs 3000 sg47 Tryz.f74 an47 = some ir47 := by kernel_rfl
def an48 : Ann := (.s none .z (.s none .z (.s none (.s none .z (.b (.l ⟨2, [(0, .junk), (1, .junk), (2, .junk), (3, (.atm (.v 0))), (6, .junk), (9, (.atm (.v 1)))], [], 1, []⟩ .z))) .z)))
def ir48p0 : IR :=
 (.op (.bin .lss false) [(.v 5), (.v 3)]
 (.ite (.v 6)
  (.op (.row 3) [(.v 2), (.v 5)]
  (.call 48 1 false [] [(.v 7), (.v 8), (.v 9)]
  (.op (.bin .add false) [(.v 4), (.v 10)]
  (.op (.bin .add false) [(.v 5), (.c (.int .i64 1))]
  (.jump 0 [(.v 11), (.v 12)])))))
 (.ret [(.v 4)])))
def ir48 : IR :=
 (.op .lenL [(.v 2)]
 (.loop 2 [(.c (.int .i64 1)), (.c (.int .i64 0))] ir48p0))
theorem rd48 : readFn T SG sigs 3000 sg48 Tryz.f75 an48 = some ir48 := by kernel_rfl
def an49 : Ann := (.s none .z (.s none .z (.s none (.s none .z (.b (.l ⟨2, [(0, .junk), (1, .junk), (2, .junk), (3, (.atm (.v 0))), (6, .junk), (9, (.atm (.v 1)))], [], 1, []⟩ .z))) .z)))
def ir49p0 : IR :=
 (.op (.bin .lss false) [(.v 5), (.v 3)]
 (.ite (.v 6)
  (.op (.row 3) [(.v 2), (.v 5)]
  (.call 49 1 false [] [(.v 7), (.v 8), (.v 9)]
  (.op (.bin .add false) [(.c (.int .i64 1)), (.v 10)]
  (.op .max [(.v 4), (.v 11)]
  (.op (.bin .add false) [(.v 5), (.c (.int .i64 1))]
  (.jump 0 [(.v 12), (.v 13)]))))))
 (.ret [(.v 4)])))
def ir49 : IR :=
 (.op .lenL [(.v 2)]
 (.loop 2 [(.c (.int .i64 0)), (.c (.int .i64 0))] ir49p0))
theorem rd49 : readFn T SG sigs 3000 sg49 Tryz.f76 an49 = some ir49 := by kernel_rfl
def an50 : Ann := (.s none .z (.s none .z (.s none (.s none .z (.b (.l ⟨1, [(0, .junk), (2, .junk), (4, .junk), (7, .junk), (8, .junk), (9, .junk), (10, .junk), (11, .junk), (14, (.atm (.v 0)))], [], 1, []⟩ .z))) .z)))
def ir50p0 : IR :=
 (.op (.bin .lss false) [(.v 6), (.v 5)]
 (.ite (.v 7)
  (.op (.row 3) [(.v 2), (.v 6)]
  (.call 50 1 false [] [(.v 8), (.v 9), (.v 10)]
  (.op (.un .not) [(.v 11)]
  (.ite (.v 12)
   (.ret [(.c (.bool false))])
  (.op (.bin .add false) [(.v 6), (.c (.int .i64 1))]
  (.jump 0 [(.v 13)]))))))
 (.ret [(.c (.bool true))])))
def ir50 : IR :=
 (.call 68 1 false [] [(.v 0), (.v 1), (.v 2)]
 (.op (.un .not) [(.v 3)]
 (.ite (.v 4)
  (.ret [(.c (.bool false))])
 (.op .lenL [(.v 2)]
 (.loop 1 [(.c (.int .i64 0))] ir50p0)))))
theorem rd50 : readFn T SG sigs 3000 sg50 Tryz.f77 an50 = some ir50 := by kernel_rfl
def an51 : Ann := (.s none .z (.s none .z (.s none (.s none .z (.b (.l ⟨1, [(0, .junk), (2, .junk), (4, .junk), (7, .junk), (8, .junk), (9, .junk), (10, .junk), (11, .junk), (14, (.atm (.v 0)))], [], 1, []⟩ .z))) .z)))
def ir51p0 : IR :=
 (.op (.bin .lss false) [(.v 6), (.v 5)]
 (.ite (.v 7)
  (.op (.row 3) [(.v 2), (.v 6)]
  (.call 51 1 false [] [(.v 8), (.v 9), (.v 10)]
  (.op (.un .not) [(.v 11)]
  (.ite (.v 12)
   (.ret [(.c (.bool false))])
  (.op (.bin .add false) [(.v 6), (.c (.int .i64 1))]
  (.jump 0 [(.v 13)]))))))
 (.ret [(.c (.bool true))])))
def ir51 : IR :=
 (.call 69 1 false [] [(.v 0), (.v 1), (.v 2)]
 (.op (.un .not) [(.v 3)]
 (.ite (.v 4)
  (.ret [(.c (.bool false))])
 (.op .lenL [(.v 2)]
 (.loop 1 [(.c (.int .i64 0))] ir51p0)))))
theorem rd51 : readFn T SG sigs 3000 sg51 Tryz.f77 an51 = some ir51 := by kernel_rfl
def an52 : Ann := (.s none .z (.s none (.s none .z (.b (.l ⟨1, [(4, .junk), (6, .junk), (8, (.atm (.v 0)))], [], 0, []⟩ .z))) .z))
def ir52p0 : IR :=
 (.op (.bin .lss false) [(.v 3), (.v 2)]
 (.ite (.v 4)
  (.op (.row 1) [(.v 0), (.v 3)]
  (.op (.bin .eql false) [(.v 1), (.v 5)]
  (.ite (.v 6)
   (.ret [(.v 3)])
  (.op (.bin .add false) [(.v 3), (.c (.int .i64 1))]
  (.jump 0 [(.v 7)])))))
 (.ret [(.c (.int .i64 (-1)))])))
def ir52 : IR :=
 (.op .lenL [(.v 0)]
 (.loop 1 [(.c (.int .i64 0))] ir52p0))
theorem rd52 : readFn T SG sigs 3000 sg52 Tryz.f83 an52 = some ir52 := by kernel_rfl
def an53 : Ann := (.s none .z (.s none .z (.s none (.s none .z (.b (.l ⟨2, [(2, .junk), (3, (.atm (.v 0))), (5, (.atm (.v 1)))], [], 0, []⟩ .z))) .z)))
def ir53p0 : IR :=
 (.op (.bin .lss false) [(.v 2), (.c (.int .i64 64))]
 (.ite (.v 3)
  (.op (.bin .shr false) [(.v 2), (.v 0)]
  (.op (.bin .and false) [(.v 4), (.c (.int .i64 1))]
  (.op (.conv .u64) [(.v 5)]
  (.op (.bin .shl false) [(.v 6), (.v 2)]
  (.op (.bin .or false) [(.v 1), (.v 7)]
  (.op (.bin .add false) [(.v 2), (.c (.int .i64 1))]
  (.jump 0 [(.v 8), (.v 9)])))))))
 (.ret [(.v 1)])))
def ir53 : IR :=
 (.loop 2 [(.c (.int .u64 0)), (.c (.int .i64 0))] ir53p0)
theorem rd53 : readFn T SG sigs 3000 sg53 Tryz.f84 an53 = some ir53 := by kernel_rfl
def an54 : Ann := .z
def ir54 : IR :=
 (.op (.bin .shl false) [(.c (.int .u64 1)), (.v 0)]
 (.op (.bin .sub false) [(.c (.int .u64 64)), (.v 1)]
 (.op (.bin .shr false) [(.c (.int .u64 18446744073709551615)), (.v 2)]
 (.ret [(.v 3)]))))
theorem rd54 : readFn T SG sigs 3000 sg54 Tryz.f85 an54 = some ir54 := by kernel_rfl
def an55 : Ann := (.s none .z (.s none (.s (some ⟨1, [(0, .junk), (2, .junk), (20, (.atm (.v 0)))], [], 1, []⟩) .z .z) (.s none .z (.s none .z (.s none (.s none .z (.b (.l ⟨3, [(1, .junk), (4, (.atm (.v 0))), (20, .junk), (21, .junk), (22, .junk), (23, .junk), (24, .junk), (25, .junk), (28, (.atm (.v 1)))], [(1, ⟨false, true, 4, 1, (.v 2), []⟩)], 2, []⟩ (.s none .z (.s none .z (.s none (.b (.s none .z (.s none (.s (some ⟨1, [(29, .junk), (30, .junk), (31, .junk), (39, (.atm (.v 0)))], [], 2, []⟩) .z .z) .z))) .z)))))) .z)))))
def ir55p0 : IR :=
 (.ite (.v 11)
  (.ret [(.c (.int .i64 8))])
 (.op .max [(.v 6), (.v 10)]
 (.op .chk [(.v 8), (.v 10)]
 (.op (.set 0 1) [(.v 8), (.v 10), (.c (.bool true))]
 (.op (.bin .add false) [(.v 7), (.c (.int .i64 1))]
 (.jump 0 [(.v 12), (.v 14), (.v 13)]))))))
def ir55p1 : IR :=
 (.op (.bin .lss false) [(.v 7), (.v 5)]
 (.ite (.v 9)
  (.op (.row 1) [(.v 1), (.v 7)]
  (.letj 1
   (.op (.bin .lss false) [(.v 10), (.c (.int .i64 0))]
   (.ite (.v 11)
    (.jump 1 [(.c (.bool true))])
   (.op .lenL [(.v 8)]
   (.op (.bin .geq false) [(.v 10), (.v 12)]
   (.jump 1 [(.v 13)])))))
  ir55p0))
 (.op (.subL 1) [(.v 8), (.c (.int .i64 0)), (.v 6)]
 (.call 70 1 false [] [(.v 10), (.c (.bool false))]
 (.ite (.v 11)
  (.ret [(.c (.int .i64 8))])
 (.ret [(.c (.int .i64 0))]))))))
def ir55p2 : IR :=
 (.ite (.v 2)
  (.ret [(.c (.int .i64 1))])
 (.op .lenL [(.v 1)]
 (.op (.mkL 1 [(.bool false)]) [(.v 3)]
 (.op .lenL [(.v 1)]
 (.loop 3 [(.c (.int .i64 0)), (.c (.int .i64 0)), (.v 4)] ir55p1)))))
def ir55 : IR :=
 (.letj 1
  (.call 33 1 false [] [(.v 0)]
  (.op (.un .not) [(.v 2)]
  (.ite (.v 3)
   (.jump 0 [(.c (.bool true))])
  (.op .lenL [(.v 1)]
  (.op .lenL [(.v 0)]
  (.op (.bin .shl false) [(.c (.int .i64 1)), (.v 5)]
  (.op (.bin .neq false) [(.v 4), (.v 6)]
  (.jump 0 [(.v 7)]))))))))
 ir55p2)
theorem rd55 : readFn T SG sigs 3000 sg55 Tryz.f86 an55 = some ir55 := by kernel_rfl
def an56 : Ann := (.s none .z (.s none .z (.s none .z (.s none (.s none .z (.b (.l ⟨2, [(2, .junk), (3, (.atm (.v 0))), (4, (.atm (.v 1))), (5, .junk), (6, .junk), (7, .junk), (9, .junk), (10, .junk), (11, .junk)], [], 0, []⟩ .z))) .z))))
def ir56p0 : IR :=
 (.op .lenL [(.v 0)]
 (.op (.bin .lss false) [(.v 5), (.v 6)]
 (.ite (.v 7)
  (.op (.row 1) [(.v 0), (.v 5)]
  (.op .max [(.v 4), (.v 8)]
  (.op (.bin .add false) [(.v 5), (.c (.int .i64 1))]
  (.jump 0 [(.v 9), (.v 10)]))))
 (.ret [(.v 4)]))))
def ir56 : IR :=
 (.op .lenL [(.v 0)]
 (.op (.bin .lss false) [(.v 1), (.c (.int .i64 1))]
 (.ite (.v 2)
  .fail
 (.op (.row 1) [(.v 0), (.c (.int .i64 0))]
 (.loop 2 [(.v 3), (.c (.int .i64 1))] ir56p0)))))
theorem rd56 : readFn T SG sigs 3000 sg56 Tryz.f87 an56 = some ir56 := by kernel_rfl
def an57 : Ann := (.s none .z (.s none (.s none .z (.b (.l ⟨1, [(4, .junk), (6, .junk), (8, (.atm (.v 0)))], [], 0, []⟩ .z))) .z))
def ir57p0 : IR :=
 (.op (.bin .lss false) [(.v 3), (.v 2)]
 (.ite (.v 4)
  (.op (.row 1) [(.v 0), (.v 3)]
  (.op (.bin .eql false) [(.v 1), (.v 5)]
  (.ite (.v 6)
   (.ret [(.v 3)])
  (.op (.bin .add false) [(.v 3), (.c (.int .i64 1))]
  (.jump 0 [(.v 7)])))))
 (.ret [(.c (.int .i64 (-1)))])))
def ir57 : IR :=
 (.op .lenL [(.v 0)]
 (.loop 1 [(.c (.int .i64 0))] ir57p0))
theorem rd57 : readFn T SG sigs 3000 sg57 Tryz.f91 an57 = some ir57 := by kernel_rfl
def an61 : Ann := .z
def ir61 : IR :=
 (.call 71 2 false [0] [(.v 0)]
 (.call 58 1 false [0] [(.v 1)]
 (.ret [(.v 3), (.v 2)])))
theorem rd61 : readFn T SG sigs 3000 sg61 Tryz.f97 an61 = some ir61 := by kernel_rfl
def an64 : Ann := (.s none .z (.s none .z (.s none .z (.s none (.b (.l ⟨2, [(4, .junk), (5, .junk), (7, (.atm (.v 0))), (8, (.atm (.v 1))), (10, .junk), (11, .junk), (12, .junk)], [], 0, []⟩ .z)) .z))))
def ir64p0 : IR :=
 (.op (.bin .lss false) [(.v 3), (.v 4)]
 (.ite (.v 5)
  (.op (.bin .add false) [(.v 3), (.v 4)]
  (.op (.conv .u64) [(.v 6)]
  (.op (.bin .shr false) [(.v 7), (.c (.int .u64 1))]
  (.op (.conv .i64) [(.v 8)]
  (.op (.row 1) [(.v 0), (.v 9)]
  (.call 72 1 false [] [(.v 10), (.v 1)]
  (.ite (.v 11)
   (.op (.bin .add false) [(.v 9), (.c (.int .i64 1))]
   (.jump 0 [(.v 12), (.v 4)]))
  (.jump 0 [(.v 3), (.v 9)]))))))))
 (.op (.bin .lss false) [(.v 3), (.v 2)]
 (.ite (.v 6)
  (.op (.row 1) [(.v 0), (.v 3)]
  (.op (.bin .eql false) [(.v 7), (.v 1)]
  (.ite (.v 8)
   (.ret [(.v 3), (.c (.bool true))])
  (.op (.row 1) [(.v 0), (.v 3)]
  (.call 73 1 false [] [(.v 9)]
  (.ite (.v 10)
   (.call 73 1 false [] [(.v 1)]
   (.ret [(.v 3), (.v 11)]))
  (.ret [(.v 3), (.c (.bool false))])))))))
 (.ret [(.v 3), (.c (.bool false))])))))
def ir64 : IR :=
 (.op .lenL [(.v 0)]
 (.loop 2 [(.c (.int .i64 0)), (.v 2)] ir64p0))
theorem rd64 : readFn T SG sigs 3000 sg64 Tryz.f100 an64 = some ir64 := by kernel_rfl
def an65 : Ann := (.s none .z (.s none .z (.s none (.s none .z (.b (.l ⟨2, [(0, .junk), (1, (.atm (.v 0))), (4, .junk), (6, .junk), (7, .junk), (8, .junk), (9, .junk)], [(0, ⟨false, true, 3, 1, (.v 1), []⟩)], 1, [⟨none, 5, 3, 1⟩]⟩ .z))) .z)))
def ir65p0 : IR :=
 (.op (.bin .neq false) [(.v 4), (.c (.int .u64 0))]
 (.ite (.v 6)
  (.call 74 1 false [] [(.v 4)]
  (.op (.mk 1 1) [(.v 7)]
  (.op (.app 1 8) [(.v 5), (.v 8)]
  (.op (.bin .sub false) [(.v 4), (.c (.int .u64 1))]
  (.op (.bin .and false) [(.v 4), (.v 10)]
  (.jump 0 [(.v 11), (.v 9)]))))))
 (.ret [(.v 5)])))
def ir65 : IR :=
 (.call 38 1 false [] [(.v 0)]
 (.op (.bin .and false) [(.v 1), (.v 2)]
 (.loop 2 [(.v 3), (.c (.sl []))] ir65p0)))
theorem rd65 : readFn T SG sigs 3000 sg65 Tryz.f92 an65 = some ir65 := by kernel_rfl
def an66 : Ann := .z
def ir66 : IR :=
 (.call 75 1 false [] [(.v 0), (.v 1)]
 (.call 76 1 false [] [(.v 2)]
 (.ret [(.v 3)])))
theorem rd66 : readFn T SG sigs 3000 sg66 Tryz.f93 an66 = some ir66 := by kernel_rfl
def an67 : Ann := .z
def ir67 : IR :=
 (.op (.conv .u64) [(.v 1)]
 (.op (.bin .shr false) [(.v 0), (.v 2)]
 (.op (.bin .and false) [(.v 3), (.c (.int .u64 1))]
 (.op (.bin .eql false) [(.v 4), (.c (.int .u64 1))]
 (.ret [(.v 5)])))))
theorem rd67 : readFn T SG sigs 3000 sg67 Tryz.f111 an67 = some ir67 := by kernel_rfl
def an68 : Ann := (.s none .z (.s none .z (.s none (.s none .z (.b (.s (some ⟨1, [(0, .junk), (1, .junk), (2, .junk), (4, .junk), (5, .junk), (6, .junk), (7, .junk), (9, (.atm (.v 0)))], [], 1, []⟩) .z (.c .z (.s none .z (.c .z (.s (some ⟨1, [(9, .junk), (15, .junk), (16, .junk), (19, (.atm (.v 0)))], [], 1, []⟩) .z (.c .z (.s (some ⟨1, [(8, .junk), (19, .junk), (28, (.atm (.v 0)))], [], 1, []⟩) .z .z))))))))) .z)))
def ir68p0 : IR :=
 (.ite (.v 7)
  (.op (.bin .eql false) [(.v 3), (.c (.int .i64 2))]
  (.ret [(.v 8)]))
 (.ret [(.c (.bool false))]))
def ir68p1 : IR :=
 (.ite (.v 6)
  (.op (.bin .geq false) [(.v 3), (.c (.int .i64 2))]
  (.ite (.v 7)
   (.op (.bin .leq false) [(.v 3), (.c (.int .i64 6))]
   (.ret [(.v 8)]))
  (.ret [(.c (.bool false))])))
 (.letj 1
  (.op (.bin .eql false) [(.v 0), (.c (.int .i64 7))]
  (.ite (.v 7)
   (.jump 0 [(.c (.bool true))])
  (.op (.bin .eql false) [(.v 0), (.c (.int .i64 8))]
  (.jump 0 [(.v 8)]))))
 ir68p0))
def ir68p2 : IR :=
 (.ite (.v 4)
  (.op (.bin .eql false) [(.v 3), (.c (.int .i64 0))]
  (.ret [(.v 5)]))
 (.op (.bin .eql false) [(.v 0), (.c (.int .i64 4))]
 (.ite (.v 5)
  (.op (.bin .eql false) [(.v 3), (.c (.int .i64 1))]
  (.ret [(.v 6)]))
 (.letj 1
  (.op (.bin .eql false) [(.v 0), (.c (.int .i64 5))]
  (.ite (.v 6)
   (.jump 0 [(.c (.bool true))])
  (.op (.bin .eql false) [(.v 0), (.c (.int .i64 6))]
  (.jump 0 [(.v 7)]))))
 ir68p1))))
def ir68 : IR :=
 (.op .lenL [(.v 2)]
 (.letj 1
  (.op (.bin .eql false) [(.v 0), (.c (.int .i64 1))]
  (.ite (.v 4)
   (.jump 0 [(.c (.bool true))])
  (.op (.bin .eql false) [(.v 0), (.c (.int .i64 2))]
  (.ite (.v 5)
   (.jump 0 [(.c (.bool true))])
  (.op (.bin .eql false) [(.v 0), (.c (.int .i64 3))]
  (.jump 0 [(.v 6)]))))))
 ir68p2))
theorem rd68 : readFn T SG sigs 3000 sg68 Tryz.f78 an68 = some ir68 := by kernel_rfl
def an69 : Ann := .z
def ir69 : IR :=
 (.op (.bin .eql false) [(.v 0), (.c (.int .i64 3))]
 (.ite (.v 3)
  (.call 47 1 false [] [(.v 1)]
  (.ret [(.v 4)]))
 (.op (.bin .eql false) [(.v 1), (.c (.str []))]
 (.ret [(.v 4)]))))
theorem rd69 : readFn T SG sigs 3000 sg69 Tryz.f79 an69 = some ir69 := by kernel_rfl
def an70 : Ann := .z
def ir70 : IR :=
 (.call 77 1 false [] [(.v 0), (.v 1)]
 (.op (.bin .geq false) [(.v 2), (.c (.int .i64 0))]
 (.ret [(.v 3)])))
theorem rd70 : readFn T SG sigs 3000 sg70 Tryz.f110 an70 = some ir70 := by kernel_rfl
def an72 : Ann := .z
def ir72 : IR :=
 (.call 78 1 false [] [(.v 0)]
 (.ite (.v 2)
  (.call 78 1 false [] [(.v 1)]
  (.op (.un .not) [(.v 3)]
  (.ite (.v 4)
   (.ret [(.c (.bool true))])
  (.op (.bin .lss false) [(.v 0), (.v 1)]
  (.ret [(.v 5)])))))
 (.op (.bin .lss false) [(.v 0), (.v 1)]
 (.ret [(.v 3)]))))
theorem rd72 : readFn T SG sigs 3000 sg72 Tryz.f118 an72 = some ir72 := by kernel_rfl
def an73 : Ann := .z
def ir73 : IR :=
 (.op (.bin .neq false) [(.v 0), (.v 0)]
 (.ret [(.v 1)]))
theorem rd73 : readFn T SG sigs 3000 sg73 Tryz.f119 an73 = some ir73 := by kernel_rfl
def an75 : Ann := .z
def ir75 : IR :=
 (.op (.bin .xor false) [(.v 0), (.v 1)]
 (.op (.conv .u64) [(.v 2)]
 (.op (.bin .and false) [(.v 3), (.c (.int .u64 63))]
 (.ret [(.v 4)]))))
theorem rd75 : readFn T SG sigs 3000 sg75 Tryz.f114 an75 = some ir75 := by kernel_rfl
def an76 : Ann := .z
def ir76 : IR :=
 (.op (.bin .shr false) [(.v 0), (.c (.int .u64 1))]
 (.op (.bin .and false) [(.v 1), (.c (.int .u64 6148914691236517205))]
 (.op (.bin .and false) [(.v 0), (.c (.int .u64 6148914691236517205))]
 (.op (.bin .add false) [(.v 2), (.v 3)]
 (.op (.bin .shr false) [(.v 4), (.c (.int .u64 2))]
 (.op (.bin .and false) [(.v 5), (.c (.int .u64 3689348814741910323))]
 (.op (.bin .and false) [(.v 4), (.c (.int .u64 3689348814741910323))]
 (.op (.bin .add false) [(.v 6), (.v 7)]
 (.op (.bin .shr false) [(.v 8), (.c (.int .u64 4))]
 (.op (.bin .add false) [(.v 9), (.v 8)]
 (.op (.bin .and false) [(.v 10), (.c (.int .u64 1085102592571150095))]
 (.op (.bin .shr false) [(.v 11), (.c (.int .u64 8))]
 (.op (.bin .add false) [(.v 11), (.v 12)]
 (.op (.bin .shr false) [(.v 13), (.c (.int .u64 16))]
 (.op (.bin .add false) [(.v 13), (.v 14)]
 (.op (.bin .shr false) [(.v 15), (.c (.int .u64 32))]
 (.op (.bin .add false) [(.v 15), (.v 16)]
 (.op (.conv .i64) [(.v 17)]
 (.op (.bin .and false) [(.v 18), (.c (.int .i64 127))]
 (.ret [(.v 19)]))))))))))))))))))))
theorem rd76 : readFn T SG sigs 3000 sg76 Tryz.f113 an76 = some ir76 := by kernel_rfl
def an77 : Ann := (.s none .z (.s none (.s none .z (.b (.l ⟨1, [(4, .junk), (6, .junk), (8, (.atm (.v 0)))], [], 0, []⟩ .z))) .z))
def ir77p0 : IR :=
 (.op (.bin .lss false) [(.v 3), (.v 2)]
 (.ite (.v 4)
  (.op (.row 1) [(.v 0), (.v 3)]
  (.op (.bin .eql true) [(.v 1), (.v 5)]
  (.ite (.v 6)
   (.ret [(.v 3)])
  (.op (.bin .add false) [(.v 3), (.c (.int .i64 1))]
  (.jump 0 [(.v 7)])))))
 (.ret [(.c (.int .i64 (-1)))])))
def ir77 : IR :=
 (.op .lenL [(.v 0)]
 (.loop 1 [(.c (.int .i64 0))] ir77p0))
theorem rd77 : readFn T SG sigs 3000 sg77 Tryz.f132 an77 = some ir77 := by kernel_rfl
def an78 : Ann := .z
def ir78 : IR :=
 (.op (.bin .neq false) [(.v 0), (.v 0)]
 (.ret [(.v 1)]))
theorem rd78 : readFn T SG sigs 3000 sg78 Tryz.f142 an78 = some ir78 := by kernel_rfl
end Go.Proofs.YtejddbdoioppgaaGreatDoor

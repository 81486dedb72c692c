/- What functions of the program compute: lemmas. -/
import Derived.Test.YtejddbdoioppgaaGreatDoorAmSe21
import Derived.Test.YtejddbdoioppgaaGreatDoorProg
import Derived.KernelRfl
set_option linter.unusedSimpArgs false
set_option linter.unusedVariables false
set_option linter.unusedSectionVars false
namespace Go.Proofs.YtejddbdoioppgaaGreatDoor
open Go Am
set_option maxRecDepth 100000
abbrev fnD (f : Nat) : D := .raw (.func (.func f) #[] #[])
def T : Tab := [
 (3, ⟨1, 8, true, true, false, none, none, (some .i64), false, false, (some (.int .i64 0)), [], none⟩),
 (4, ⟨1, 1, true, true, false, none, none, none, false, true, (some (.bool false)), [], none⟩),
 (5, ⟨1, 1, true, true, false, none, none, (some .u8), false, false, (some (.int .u8 0)), [], none⟩),
 (9, ⟨1, 16, true, true, false, none, none, none, true, false, (some (.string ⟨⟨[]⟩⟩)), [], none⟩),
 (22, ⟨1, 24, true, true, false, (some 3), none, none, false, false, (some (.slice none 0 0)), [], none⟩),
 (23, ⟨1, 8, true, true, false, none, none, none, false, false, (some (.pointer none)), [], none⟩),
 (26, ⟨1, 24, true, true, false, (some 9), none, none, false, false, (some (.slice none 0 0)), [], none⟩),
 (28, ⟨1, 24, true, true, false, (some 39), none, none, false, false, (some (.slice none 0 0)), [], none⟩),
 (29, ⟨1, 24, true, true, false, (some 32), none, none, false, false, (some (.slice none 0 0)), [], none⟩),
 (32, ⟨1, 8, true, true, false, none, none, (some .u64), false, false, (some (.int .u64 0)), [], none⟩),
 (35, ⟨1, 8, true, true, false, none, none, (some .i64), false, false, (some (.int .i64 0)), [], none⟩),
 (39, ⟨3, 48, true, true, true, none, none, none, false, false, (some (.agg #[(.int .i64 0), (.string ⟨⟨[]⟩⟩), (.slice none 0 0)])), [(0, 3), (1, 9), (2, 28)], (some [(0, 1), (1, 1), (2, 1)])⟩),
 (44, ⟨1, 8, true, true, false, none, none, none, false, false, (some .nilFunc), [], none⟩),
 (46, ⟨1, 24, true, true, false, (some 26), none, none, false, false, (some (.slice none 0 0)), [], none⟩),
 (47, ⟨1, 24, true, true, false, (some 28), none, none, false, false, (some (.slice none 0 0)), [], none⟩),
 (49, ⟨1, 8, true, true, false, none, none, (some .u64), false, false, (some (.int .u64 0)), [], none⟩),
 (54, ⟨2, 48, true, true, true, none, none, none, false, false, (some (.agg #[(.slice none 0 0), (.slice none 0 0)])), [(0, 26), (1, 22)], (some [(0, 1), (1, 1)])⟩),
 (62, ⟨2, 32, true, true, true, none, none, none, false, false, (some (.agg #[(.slice none 0 0), (.int .i64 0)])), [(0, 22), (1, 3)], (some [(0, 1), (1, 1)])⟩),
 (63, ⟨1, 24, true, true, false, (some 5), none, none, false, false, (some (.slice none 0 0)), [], none⟩),
 (88, ⟨7, 56, true, true, true, none, (some (7, 3)), none, false, false, (some (.agg #[(.int .i64 0), (.int .i64 0), (.int .i64 0), (.int .i64 0), (.int .i64 0), (.int .i64 0), (.int .i64 0)])), [], (some [(0, 1), (1, 1), (2, 1), (3, 1), (4, 1), (5, 1), (6, 1)])⟩),
 (112, ⟨1, 8, true, true, false, none, none, none, false, false, (some .nilFunc), [], none⟩),
 (118, ⟨1, 24, true, true, false, (some 4), none, none, false, false, (some (.slice none 0 0)), [], none⟩),
 (137, ⟨64, 64, true, true, true, none, (some (64, 5)), none, false, false, (some (.agg #[(.int .u8 0), (.int .u8 0), (.int .u8 0), (.int .u8 0), (.int .u8 0), (.int .u8 0), (.int .u8 0), (.int .u8 0), (.int .u8 0), (.int .u8 0), (.int .u8 0), (.int .u8 0), (.int .u8 0), (.int .u8 0), (.int .u8 0), (.int .u8 0), (.int .u8 0), (.int .u8 0), (.int .u8 0), (.int .u8 0), (.int .u8 0), (.int .u8 0), (.int .u8 0), (.int .u8 0), (.int .u8 0), (.int .u8 0), (.int .u8 0), (.int .u8 0), (.int .u8 0), (.int .u8 0), (.int .u8 0), (.int .u8 0), (.int .u8 0), (.int .u8 0), (.int .u8 0), (.int .u8 0), (.int .u8 0), (.int .u8 0), (.int .u8 0), (.int .u8 0), (.int .u8 0), (.int .u8 0), (.int .u8 0), (.int .u8 0), (.int .u8 0), (.int .u8 0), (.int .u8 0), (.int .u8 0), (.int .u8 0), (.int .u8 0), (.int .u8 0), (.int .u8 0), (.int .u8 0), (.int .u8 0), (.int .u8 0), (.int .u8 0), (.int .u8 0), (.int .u8 0), (.int .u8 0), (.int .u8 0), (.int .u8 0), (.int .u8 0), (.int .u8 0), (.int .u8 0)])), [], none⟩)]
theorem tok : TOK Tryz.prog T := tok_of (by kernel_rfl)
def SG : SGlob := []
def sg0 : Sig := ⟨7, 8, [], [(.atm (.v 0)), (.atm (.v 1)), (.agg [(.atm (.v 2)), (.atm (.v 3)), (.atm (.v 4))]), (.atm (.v 5)), (.atm (.v 6)), (.atm (.v 7))], 1, [], (.atm (.v 0)), false, []⟩
def sg1 : Sig := ⟨19, 3, [], [(.agg [(.atm (.v 0)), (.atm (.v 1)), (.atm (.v 2))])], 1, [], (.atm (.v 0)), false, []⟩
def sg2 : Sig := ⟨17, 0, [], [], 1, [], (.atm (.v 0)), false, []⟩
def sg3 : Sig := ⟨9, 1, [], [(.atm (.v 0))], 2, [⟨false, false, 62, 2, (.c (.sl [])), [[(.atm (.v 0)), (.atm (.v 1))]]⟩], (.ptr 0 0 0), false, []⟩
def sg4 : Sig := ⟨10, 4, [⟨false, false, 62, 2, (.c (.sl [])), [[(.atm (.v 2)), (.atm (.v 3))]]⟩], [(.ptr 0 0 0), (.atm (.v 0)), (.atm (.v 1))], 3, [⟨false, false, 62, 2, (.c (.sl [])), [[(.atm (.v 1)), (.atm (.v 2))]]⟩], (.atm (.v 0)), false, []⟩
def sg5 : Sig := ⟨12, 4, [⟨false, false, 62, 2, (.c (.sl [])), [[(.atm (.v 2)), (.atm (.v 3))]]⟩], [(.ptr 0 0 0), (.atm (.v 0)), (.atm (.v 1))], 4, [⟨false, false, 62, 2, (.c (.sl [])), [[(.atm (.v 2)), (.atm (.v 3))]]⟩], (.tup [(.atm (.v 0)), (.atm (.v 1))]), true, []⟩
def sg6 : Sig := ⟨20, 4, [⟨false, false, 62, 2, (.c (.sl [])), [[(.atm (.v 2)), (.atm (.v 3))]]⟩], [(.ptr 0 0 0), (.atm (.v 0)), (.atm (.v 1))], 5, [⟨false, false, 62, 2, (.c (.sl [])), [[(.atm (.v 3)), (.atm (.v 4))]]⟩], (.agg [(.atm (.v 0)), (.atm (.v 1)), (.atm (.v 2))]), true, []⟩
def sg7 : Sig := ⟨11, 1, [], [(.atm (.v 0))], 1, [], (.atm (.v 0)), true, []⟩
def sg8 : Sig := ⟨21, 3, [⟨false, false, 62, 2, (.c (.sl [])), [[(.atm (.v 1)), (.atm (.v 2))]]⟩], [(.ptr 0 0 0), (.atm (.v 0))], 3, [⟨false, false, 62, 2, (.c (.sl [])), [[(.atm (.v 1)), (.atm (.v 2))]]⟩], (.atm (.v 0)), false, []⟩
def sg9 : Sig := ⟨22, 4, [], [(.atm (.v 0)), (.atm (.v 1)), (.atm (.v 2)), (.atm (.v 3))], 2, [], (.tup [(.atm (.v 0)), (.atm (.v 1))]), true, []⟩
def sg10 : Sig := ⟨23, 4, [], [(.atm (.v 0)), (.atm (.v 1)), (.atm (.v 2)), (.atm (.v 3))], 2, [], (.tup [(.atm (.v 0)), (.atm (.v 1))]), true, []⟩
def sg11 : Sig := ⟨24, 2, [], [(.atm (.v 0)), (.atm (.v 1))], 1, [], (.atm (.v 0)), false, []⟩
def sg12 : Sig := ⟨25, 3, [], [(.atm (.v 0)), (.atm (.v 1)), (.atm (.v 2))], 3, [], (.tup [(.agg [(.atm (.v 0)), (.atm (.v 1))]), (.atm (.v 2))]), true, []⟩
def sg13 : Sig := ⟨26, 3, [], [(.atm (.v 0)), (.atm (.v 1)), (.atm (.v 2))], 3, [], (.tup [(.agg [(.atm (.v 0)), (.atm (.v 1))]), (.atm (.v 2))]), true, []⟩
def sg14 : Sig := ⟨27, 4, [], [(.agg [(.atm (.v 0)), (.atm (.v 1))]), (.agg [(.atm (.v 2)), (.atm (.v 3))])], 1, [], (.atm (.v 0)), false, []⟩
def sg15 : Sig := ⟨14, 2, [⟨false, false, 62, 2, (.c (.sl [])), [[(.atm (.v 0)), (.atm (.v 1))]]⟩], [(.ptr 0 0 0)], 3, [⟨false, false, 62, 2, (.c (.sl [])), [[(.atm (.v 1)), (.atm (.v 2))]]⟩], (.atm (.v 0)), false, []⟩
def sg16 : Sig := ⟨16, 2, [], [(.atm (.v 0)), (.atm (.v 1))], 3, [], (.agg [(.atm (.v 0)), (.atm (.v 1)), (.atm (.v 2))]), true, []⟩
def sg17 : Sig := ⟨15, 6, [], [(.atm (.v 0)), (.atm (.v 1)), (.agg [(.atm (.v 2)), (.atm (.v 3)), (.atm (.v 4))]), (.atm (.v 5))], 2, [], (.tup [(.atm (.v 0)), (.atm (.v 1))]), false, []⟩
def sg18 : Sig := ⟨28, 6, [], [(.atm (.v 0)), (.atm (.v 1)), (.agg [(.atm (.v 2)), (.atm (.v 3)), (.atm (.v 4))]), (.atm (.v 5))], 2, [], (.tup [(.atm (.v 0)), (.atm (.v 1))]), false, []⟩
def sg19 : Sig := ⟨38, 4, [], [(.agg [(.atm (.v 0)), (.atm (.v 1)), (.atm (.v 2))]), (.atm (.v 3))], 1, [], (.atm (.v 0)), false, []⟩
def sg20 : Sig := ⟨39, 4, [], [(.agg [(.atm (.v 0)), (.atm (.v 1)), (.atm (.v 2))]), (.atm (.v 3))], 1, [], (.atm (.v 0)), false, []⟩
def sg21 : Sig := ⟨40, 3, [], [(.agg [(.atm (.v 0)), (.atm (.v 1)), (.atm (.v 2))])], 1, [], (.atm (.v 0)), false, []⟩
def sg22 : Sig := ⟨18, 3, [⟨false, false, 62, 2, (.c (.sl [])), [[(.atm (.v 1)), (.atm (.v 2))]]⟩], [(.ptr 0 0 0), (.atm (.v 0))], 3, [⟨false, false, 62, 2, (.c (.sl [])), [[(.atm (.v 1)), (.atm (.v 2))]]⟩], (.atm (.v 0)), false, []⟩
def sg23 : Sig := ⟨34, 2, [⟨false, false, 62, 2, (.c (.sl [])), [[(.atm (.v 0)), (.atm (.v 1))]]⟩], [(.ptr 0 0 0)], 3, [⟨false, false, 62, 2, (.c (.sl [])), [[(.atm (.v 1)), (.atm (.v 2))]]⟩], (.atm (.v 0)), false, []⟩
def sg24 : Sig := ⟨41, 2, [], [(.atm (.v 0)), (.atm (.v 1))], 1, [], (.atm (.v 0)), false, []⟩
def sg25 : Sig := ⟨42, 3, [], [(.atm (.v 0)), (.atm (.v 1)), (.atm (.v 2))], 2, [], (.tup [(.atm (.v 0)), (.atm (.v 1))]), true, []⟩
def sg26 : Sig := ⟨43, 4, [], [(.atm (.v 0)), (.atm (.v 1)), (.atm (.v 2)), (.atm (.v 3))], 1, [⟨false, true, 3, 1, (.v 0), []⟩], (.own 0), true, []⟩
def sg27 : Sig := ⟨44, 3, [], [(.atm (.v 0)), (.atm (.v 1)), (.atm (.v 2))], 2, [], (.tup [(.atm (.v 0)), (.atm (.v 1))]), true, []⟩
def sg28 : Sig := ⟨45, 4, [], [(.atm (.v 0)), (.atm (.v 1)), (.atm (.v 2)), (.atm (.v 3))], 1, [], (.atm (.v 0)), true, []⟩
def sg29 : Sig := ⟨46, 3, [], [(.atm (.v 0)), (.atm (.v 1)), (.atm (.v 2))], 3, [], (.tup [(.agg [(.atm (.v 0)), (.atm (.v 1))]), (.atm (.v 2))]), true, []⟩
def sg30 : Sig := ⟨47, 2, [], [(.atm (.v 0)), (.atm (.v 1))], 1, [], (.atm (.v 0)), false, []⟩
def sg31 : Sig := ⟨48, 2, [], [(.atm (.v 0)), (.atm (.v 1))], 3, [], (.tup [(.agg [(.atm (.v 0)), (.atm (.v 1))]), (.atm (.v 2))]), true, []⟩
def sg32 : Sig := ⟨49, 2, [], [(.atm (.v 0)), (.atm (.v 1))], 1, [], (.atm (.v 0)), false, []⟩
def sg33 : Sig := ⟨13, 1, [], [(.atm (.v 0))], 1, [], (.atm (.v 0)), false, []⟩
def sg34 : Sig := ⟨37, 2, [], [(.atm (.v 0)), (.atm (.v 1))], 4, [], (.tup [(.agg [(.atm (.v 0)), (.atm (.v 1)), (.atm (.v 2))]), (.atm (.v 3))]), true, []⟩
def sg35 : Sig := ⟨35, 4, [], [(.atm (.v 0)), (.agg [(.atm (.v 1)), (.atm (.v 2)), (.atm (.v 3))])], 2, [], (.tup [(.atm (.v 0)), (.atm (.v 1))]), false, []⟩
def sg36 : Sig := ⟨36, 3, [], [(.agg [(.atm (.v 0)), (.atm (.v 1))]), (.atm (.v 2))], 1, [], (.atm (.v 0)), false, []⟩
def sg37 : Sig := ⟨50, 4, [], [(.atm (.v 0)), (.agg [(.atm (.v 1)), (.atm (.v 2)), (.atm (.v 3))])], 2, [], (.tup [(.atm (.v 0)), (.atm (.v 1))]), false, []⟩
def sg38 : Sig := ⟨51, 3, [], [(.agg [(.atm (.v 0)), (.atm (.v 1))]), (.atm (.v 2))], 1, [], (.atm (.v 0)), false, []⟩
def sg39 : Sig := ⟨53, 1, [], [(.atm (.v 0))], 1, [], (.atm (.v 0)), false, []⟩
def sg40 : Sig := ⟨61, 2, [], [(.atm (.v 0)), (.atm (.v 1))], 1, [], (.atm (.v 0)), false, []⟩
def sg41 : Sig := ⟨62, 4, [], [(.atm (.v 0)), (.atm (.v 1)), (.atm (.v 2)), (.atm (.v 3))], 1, [], (.atm (.v 0)), false, []⟩
def sg42 : Sig := ⟨32, 1, [], [(.atm (.v 0))], 1, [], (.atm (.v 0)), false, []⟩
def sg43 : Sig := ⟨30, 2, [], [(.atm (.v 0)), (.atm (.v 1))], 1, [], (.atm (.v 0)), false, []⟩
def sg44 : Sig := ⟨31, 2, [], [(.atm (.v 0)), (.atm (.v 1))], 1, [], (.atm (.v 0)), false, []⟩
def sg45 : Sig := ⟨63, 2, [⟨false, true, 3, 1, (.v 1), []⟩], [(.own 0), (.atm (.v 0))], 2, [⟨false, true, 3, 1, (.v 1), []⟩], (.atm (.v 0)), false, []⟩
def sg46 : Sig := ⟨64, 2, [], [(.atm (.v 0)), (.atm (.v 1))], 3, [], (.tup [(.agg [(.atm (.v 0)), (.atm (.v 1))]), (.atm (.v 2))]), true, []⟩
def sg47 : Sig := ⟨65, 2, [], [(.atm (.v 0)), (.atm (.v 1))], 1, [], (.atm (.v 0)), false, []⟩
def sg48 : Sig := ⟨33, 1, [], [(.atm (.v 0))], 1, [], (.atm (.v 0)), false, []⟩
def sg49 : Sig := ⟨60, 2, [], [(.atm (.v 0)), (.atm (.v 1))], 3, [], (.agg [(.atm (.v 0)), (.atm (.v 1)), (.atm (.v 2))]), true, []⟩
def sg50 : Sig := ⟨54, 3, [], [(.agg [(.atm (.v 0)), (.atm (.v 1)), (.atm (.v 2))])], 1, [], (.atm (.v 0)), false, []⟩
def sg51 : Sig := ⟨55, 3, [], [(.agg [(.atm (.v 0)), (.atm (.v 1)), (.atm (.v 2))])], 1, [], (.atm (.v 0)), true, []⟩
def sg52 : Sig := ⟨56, 2, [], [(.atm (.v 0)), (.atm (.v 1))], 1, [], (.atm (.v 0)), false, []⟩
def sg53 : Sig := ⟨57, 4, [], [(.atm (.v 0)), (.agg [(.atm (.v 1)), (.atm (.v 2)), (.atm (.v 3))])], 1, [], (.atm (.v 0)), false, []⟩
def sg54 : Sig := ⟨58, 1, [], [(.atm (.v 0))], 1, [], (.atm (.v 0)), false, []⟩
def sg55 : Sig := ⟨59, 2, [], [(.agg [(.atm (.v 0)), (.atm (.v 1))])], 1, [], (.atm (.v 0)), true, []⟩
def sg56 : Sig := ⟨66, 3, [], [(.agg [(.atm (.v 0)), (.atm (.v 1)), (.atm (.v 2))])], 1, [], (.atm (.v 0)), false, []⟩
def sg57 : Sig := ⟨67, 3, [], [(.agg [(.atm (.v 0)), (.atm (.v 1)), (.atm (.v 2))])], 1, [], (.atm (.v 0)), true, []⟩
def sg58 : Sig := ⟨68, 2, [], [(.atm (.v 0)), (.atm (.v 1))], 1, [], (.atm (.v 0)), false, []⟩
def sg59 : Sig := ⟨70, 2, [], [(.atm (.v 0)), (.atm (.v 1))], 1, [], (.atm (.v 0)), true, []⟩
def sg60 : Sig := ⟨69, 4, [], [(.agg [(.atm (.v 0)), (.atm (.v 1)), (.atm (.v 2))]), (.atm (.v 3))], 1, [], (.atm (.v 0)), false, []⟩
def sg61 : Sig := ⟨71, 2, [], [(.agg [(.atm (.v 0)), (.atm (.v 1))])], 1, [], (.atm (.v 0)), false, []⟩
def sg62 : Sig := ⟨72, 2, [], [(.agg [(.atm (.v 0)), (.atm (.v 1))])], 1, [], (.atm (.v 0)), false, []⟩
def sg63 : Sig := ⟨73, 4, [], [(.agg [(.atm (.v 0)), (.atm (.v 1))]), (.atm (.v 2)), (.atm (.v 3))], 1, [], (.atm (.v 0)), false, []⟩
def sg64 : Sig := ⟨74, 1, [], [(.atm (.v 0))], 1, [], (.atm (.v 0)), false, []⟩
def sg65 : Sig := ⟨91, 2, [], [(.atm (.v 0)), (.atm (.v 1))], 1, [], (.atm (.v 0)), false, []⟩
def sg66 : Sig := ⟨92, 2, [], [(.atm (.v 0)), (.atm (.v 1))], 1, [], (.atm (.v 0)), true, []⟩
def sg67 : Sig := ⟨93, 2, [], [(.atm (.v 0)), (.atm (.v 1))], 1, [], (.atm (.v 0)), false, []⟩
def sg68 : Sig := ⟨52, 1, [], [(.atm (.v 0))], 1, [], (.atm (.v 0)), false, []⟩
def sg69 : Sig := ⟨94, 1, [⟨false, true, 3, 1, (.v 0), []⟩], [(.own 0)], 1, [⟨false, true, 3, 1, (.v 0), []⟩], (.tup []), false, [0]⟩
def sg70 : Sig := ⟨95, 1, [⟨false, true, 3, 1, (.v 0), []⟩], [(.own 0)], 1, [⟨false, true, 3, 1, (.v 0), []⟩], (.tup []), false, [0]⟩
def sg71 : Sig := ⟨98, 1, [], [(.atm (.v 0))], 1, [⟨false, false, 22, 1, (.c (.sl [])), [[(.atm (.v 0))]]⟩], (.clo 117 [] [(.ptr 0 0 0)]), false, []⟩
def sg72 : Sig := ⟨97, 1, [⟨false, false, 22, 1, (.c (.sl [])), [[(.atm (.v 0))]]⟩], [(.clo 117 [] [(.ptr 0 0 0)])], 2, [⟨false, false, 22, 1, (.c (.sl [])), [[(.atm (.v 1))]]⟩, ⟨false, true, 3, 1, (.v 0), []⟩], (.own 1), true, []⟩
def sg73 : Sig := ⟨96, 1, [⟨false, true, 3, 1, (.v 0), []⟩], [(.own 0)], 2, [⟨true, true, 3, 1, (.v 1), []⟩], (.atm (.v 0)), true, []⟩
def sg74 : Sig := ⟨99, 1, [], [(.atm (.v 0))], 1, [⟨false, true, 9, 1, (.v 0), []⟩], (.own 0), true, []⟩
def sg75 : Sig := ⟨100, 2, [], [(.atm (.v 0)), (.atm (.v 1))], 2, [], (.tup [(.atm (.v 0)), (.atm (.v 1))]), false, []⟩
def sg76 : Sig := ⟨88, 3, [], [(.atm (.v 0)), (.atm (.v 1)), (.atm (.v 2))], 1, [], (.atm (.v 0)), false, []⟩
def sg77 : Sig := ⟨89, 6, [], [(.agg [(.atm (.v 0)), (.atm (.v 1)), (.atm (.v 2))]), (.agg [(.atm (.v 3)), (.atm (.v 4)), (.atm (.v 5))])], 1, [], (.atm (.v 0)), false, []⟩
def sg78 : Sig := ⟨90, 7, [], [(.atm (.v 0)), (.agg [(.atm (.v 1)), (.atm (.v 2)), (.atm (.v 3))]), (.agg [(.atm (.v 4)), (.atm (.v 5)), (.atm (.v 6))])], 3, [], (.agg [(.atm (.v 0)), (.atm (.v 1)), (.atm (.v 2))]), true, []⟩
def sg79 : Sig := ⟨75, 3, [], [(.agg [(.atm (.v 0)), (.atm (.v 1)), (.atm (.v 2))])], 1, [], (.atm (.v 0)), false, []⟩
def sg80 : Sig := ⟨76, 3, [], [(.agg [(.atm (.v 0)), (.atm (.v 1)), (.atm (.v 2))])], 1, [], (.atm (.v 0)), false, []⟩
def sg81 : Sig := ⟨77, 3, [], [(.agg [(.atm (.v 0)), (.atm (.v 1)), (.atm (.v 2))]), (.atm (.c (fnD 78)))], 1, [], (.atm (.v 0)), false, []⟩
def sg82 : Sig := ⟨77, 3, [], [(.agg [(.atm (.v 0)), (.atm (.v 1)), (.atm (.v 2))]), (.atm (.c (fnD 79)))], 1, [], (.atm (.v 0)), false, []⟩
def sg83 : Sig := ⟨83, 2, [], [(.atm (.v 0)), (.atm (.v 1))], 1, [], (.atm (.v 0)), false, []⟩
def sg84 : Sig := ⟨84, 1, [], [(.atm (.v 0))], 1, [], (.atm (.v 0)), false, []⟩
def sg85 : Sig := ⟨85, 1, [], [(.atm (.v 0))], 1, [], (.atm (.v 0)), false, []⟩
def sg86 : Sig := ⟨86, 2, [], [(.agg [(.atm (.v 0)), (.atm (.v 1))])], 1, [], (.atm (.v 0)), false, []⟩
def sg87 : Sig := ⟨87, 1, [], [(.atm (.v 0))], 1, [], (.atm (.v 0)), false, []⟩
def sg88 : Sig := ⟨101, 3, [], [(.agg [(.atm (.v 0)), (.atm (.v 1)), (.atm (.v 2))])], 1, [], (.atm (.v 0)), false, []⟩
def sg89 : Sig := ⟨102, 3, [], [(.agg [(.atm (.v 0)), (.atm (.v 1)), (.atm (.v 2))])], 1, [], (.atm (.v 0)), false, []⟩
def sg90 : Sig := ⟨103, 3, [], [(.agg [(.atm (.v 0)), (.atm (.v 1)), (.atm (.v 2))])], 1, [], (.atm (.v 0)), false, []⟩
def sg91 : Sig := ⟨104, 3, [], [(.agg [(.atm (.v 0)), (.atm (.v 1)), (.atm (.v 2))])], 1, [], (.atm (.v 0)), false, []⟩
def sg92 : Sig := ⟨105, 4, [], [(.atm (.v 0)), (.agg [(.atm (.v 1)), (.atm (.v 2)), (.atm (.v 3))])], 1, [], (.atm (.v 0)), true, []⟩
def sg93 : Sig := ⟨106, 4, [], [(.agg [(.atm (.v 0)), (.atm (.v 1)), (.atm (.v 2))]), (.atm (.v 3))], 1, [], (.atm (.v 0)), false, []⟩
def sg94 : Sig := ⟨112, 1, [], [(.atm (.v 0))], 1, [], (.atm (.v 0)), false, []⟩
def sg95 : Sig := ⟨114, 2, [], [(.atm (.v 0)), (.atm (.v 1))], 1, [], (.atm (.v 0)), false, []⟩
def sg96 : Sig := ⟨113, 1, [], [(.atm (.v 0))], 1, [], (.atm (.v 0)), false, []⟩
def sg97 : Sig := ⟨116, 1, [⟨false, false, 22, 1, (.c (.sl [])), [[(.atm (.v 0))]]⟩], [(.clo 117 [] [(.ptr 0 0 0)])], 2, [⟨false, false, 22, 1, (.c (.sl [])), [[(.atm (.v 1))]]⟩, ⟨false, true, 3, 1, (.v 0), []⟩], (.own 1), true, []⟩
def sg98 : Sig := ⟨118, 2, [], [(.atm (.v 0)), (.atm (.v 1))], 1, [], (.atm (.v 0)), false, []⟩
def sg99 : Sig := ⟨119, 1, [], [(.atm (.v 0))], 1, [], (.atm (.v 0)), false, []⟩
def sg100 : Sig := ⟨111, 2, [], [(.atm (.v 0)), (.atm (.v 1))], 1, [], (.atm (.v 0)), false, []⟩
def sg101 : Sig := ⟨78, 3, [], [(.agg [(.atm (.v 0)), (.atm (.v 1)), (.atm (.v 2))])], 1, [], (.atm (.v 0)), false, []⟩
def sg102 : Sig := ⟨79, 3, [], [(.agg [(.atm (.v 0)), (.atm (.v 1)), (.atm (.v 2))])], 1, [], (.atm (.v 0)), false, []⟩
def sg103 : Sig := ⟨110, 2, [], [(.atm (.v 0)), (.atm (.v 1))], 1, [], (.atm (.v 0)), false, []⟩
def sg104 : Sig := ⟨120, 2, [], [(.atm (.v 0)), (.atm (.v 1))], 1, [], (.atm (.v 0)), true, []⟩
def sg105 : Sig := ⟨142, 1, [], [(.atm (.v 0))], 1, [], (.atm (.v 0)), false, []⟩
def sg106 : Sig := ⟨132, 2, [], [(.atm (.v 0)), (.atm (.v 1))], 1, [], (.atm (.v 0)), false, []⟩
def sigs : List Sig := [sg0, sg1, sg2, sg3, sg4, sg5, sg6, sg7, sg8, sg9, sg10, sg11, sg12, sg13, sg14, sg15, sg16, sg17, sg18, sg19, sg20, sg21, sg22, sg23, sg24, sg25, sg26, sg27, sg28, sg29, sg30, sg31, sg32, sg33, sg34, sg35, sg36, sg37, sg38, sg39, sg40, sg41, sg42, sg43, sg44, sg45, sg46, sg47, sg48, sg49, sg50, sg51, sg52, sg53, sg54, sg55, sg56, sg57, sg58, sg59, sg60, sg61, sg62, sg63, sg64, sg65, sg66, sg67, sg68, sg69, sg70, sg71, sg72, sg73, sg74, sg75, sg76, sg77, sg78, sg79, sg80, sg81, sg82, sg83, sg84, sg85, sg86, sg87, sg88, sg89, sg90, sg91, sg92, sg93, sg94, sg95, sg96, sg97, sg98, sg99, sg100, sg101, sg102, sg103, sg104, sg105, sg106]
def an0 : Ann := (.s none .z (.s none (.s (some ⟨1, [(2, .junk), (12, .junk), (53, (.atm (.v 0)))], [], 1, []⟩) .z .z) (.s none (.s none .z (.b (.l ⟨1, [(13, (.atm (.v 0))), (53, .junk)], [], 1, []⟩ .z))) (.s none .z (.s none .z (.s none .z (.s none .z (.s none (.s none .z (.f [18] (.b (.l ⟨3, [(0, .junk), (3, .junk), (13, .junk), (17, .junk), (55, .junk), (56, .junk), (57, .junk), (58, .junk), (68, .junk), (69, .junk), (70, .junk), (71, .junk), (72, .junk), (73, .junk), (74, .junk), (75, .junk), (76, .junk), (77, .junk), (79, .junk), (81, .junk), (82, .junk), (83, .junk), (84, .junk), (85, .junk), (86, .junk), (87, .junk), (88, .junk), (89, .junk), (92, (.atm (.v 0)))], [(1, ⟨false, false, 62, 2, (.c (.sl [])), [[(.atm (.v 1)), (.atm (.v 2))]]⟩)], 5, []⟩ (.s none .z (.s none .z (.s none (.b (.s none .z (.s none .z (.b (.l ⟨3, [(93, .junk), (94, .junk), (95, .junk), (96, .junk), (97, .junk), (98, .junk), (101, (.atm (.v 0)))], [(1, ⟨false, false, 62, 2, (.c (.sl [])), [[(.atm (.v 1)), (.atm (.v 2))]]⟩)], 6, []⟩ (.s none .z (.s none .z (.s none (.b (.s none .z (.s none .z (.b (.l ⟨3, [(102, .junk), (103, .junk), (104, .junk), (105, .junk), (106, .junk), (107, .junk), (110, (.atm (.v 0)))], [(1, ⟨false, false, 62, 2, (.c (.sl [])), [[(.atm (.v 1)), (.atm (.v 2))]]⟩)], 7, []⟩ (.s none .z (.s none .z (.s none (.b (.s none .z (.s none (.s none .z (.b (.l ⟨1, [(111, .junk), (112, .junk), (113, .junk), (114, .junk), (115, .junk), (116, .junk), (117, .junk), (118, .junk), (119, .junk), (122, (.atm (.v 0)))], [], 8, []⟩ (.s none .z (.s none .z (.s none (.b (.s none .z (.s none .z (.s none .z (.s (some ⟨1, [(26, .junk), (27, .junk), (28, .junk), (29, .junk), (30, .junk), (123, .junk), (124, .junk), (125, .junk), (126, .junk), (127, .junk), (128, .junk), (129, .junk), (130, .junk), (131, .junk), (132, .junk), (133, .junk), (134, .junk), (135, .junk), (136, .junk), (137, .junk), (138, .junk), (139, .junk), (140, .junk), (141, .junk), (150, (.atm (.v 0)))], [], 8, []⟩) .z .z))))) .z)))))) (.s none .z (.s none .z (.s none (.s (some ⟨1, [(31, .junk), (32, .junk), (33, .junk), (34, .junk), (120, .junk), (121, .junk), (122, .junk), (123, .junk), (152, .junk), (153, .junk), (154, .junk), (155, .junk), (156, .junk), (157, .junk), (158, .junk), (159, .junk), (160, .junk), (161, .junk), (162, .junk), (163, .junk), (164, .junk), (165, .junk), (174, (.atm (.v 0)))], [], 10, []⟩) .z .z) (.s none .z (.b (.l ⟨1, [(174, .junk), (175, .junk), (176, .junk), (177, .junk), (178, .junk), (179, .junk), (182, (.atm (.v 0)))], [], 16, []⟩ (.s none .z (.s none .z (.s none (.b (.s none .z (.s none .z (.s none .z (.s (some ⟨1, [(36, .junk), (37, .junk), (38, .junk), (39, .junk), (40, .junk), (183, .junk), (184, .junk), (185, .junk), (186, .junk), (187, .junk), (188, .junk), (189, .junk), (190, .junk), (191, .junk), (192, .junk), (193, .junk), (194, .junk), (195, .junk), (196, .junk), (197, .junk), (198, .junk), (199, .junk), (200, .junk), (201, .junk), (209, (.atm (.v 0)))], [], 17, []⟩) .z .z))))) .z)))))))))))) .z)))))))) .z)))))))) .z))))))) .z))))))))
def ir0p0 : IR :=
 (.ite (.v 69)
  (.ret [(.c (.bool false))])
 (.op (.bin .add false) [(.v 62), (.c (.int .i64 1))]
 (.jump 4 [(.v 70)])))
def ir0p1 : IR :=
 (.ite (.v 88)
  (.ret [(.c (.bool false))])
 (.op (.bin .add false) [(.v 79), (.c (.int .i64 1))]
 (.jump 5 [(.v 89)])))
def ir0p2 : IR :=
 (.op (.bin .lss false) [(.v 79), (.v 78)]
 (.ite (.v 80)
  (.op .chk [(.v 77), (.v 79)]
  (.op (.get 0 3) [(.v 77), (.v 79)]
  (.call 17 2 false [] [(.v 37), (.v 44), (.v 81), (.v 82), (.v 83), (.v 54)]
  (.call 18 2 false [] [(.v 37), (.v 44), (.v 81), (.v 82), (.v 83), (.v 54)]
  (.letj 1
   (.op (.bin .neq false) [(.v 84), (.v 86)]
   (.ite (.v 88)
    (.jump 6 [(.c (.bool true))])
   (.op (.bin .neq false) [(.v 85), (.v 87)]
   (.jump 6 [(.v 89)]))))
  ir0p1)))))
 (.op (.bin .add false) [(.v 50), (.c (.int .i64 1))]
 (.jump 3 [(.v 81), (.v 72), (.v 73)]))))
def ir0p3 : IR :=
 (.ite (.v 70)
  (.ret [(.c (.bool false))])
 (.call 15 3 false [] [(.v 58), (.v 59)]
 (.call 16 3 false [] [(.v 14), (.v 71)]
 (.op (.mk 3 2) [(.v 2), (.v 3), (.v 4), (.v 74), (.v 75), (.v 76)]
 (.op .lenL [(.v 77)]
 (.loop 1 [(.c (.int .i64 0))] ir0p2))))))
def ir0p4 : IR :=
 (.op (.bin .lss false) [(.v 62), (.v 61)]
 (.ite (.v 63)
  (.op .chk [(.v 60), (.v 62)]
  (.op (.get 0 1) [(.v 60), (.v 62)]
  (.call 9 2 false [] [(.v 37), (.v 44), (.v 64), (.v 54)]
  (.call 10 2 false [] [(.v 37), (.v 44), (.v 64), (.v 54)]
  (.letj 1
   (.op (.bin .neq false) [(.v 66), (.v 68)]
   (.ite (.v 69)
    (.jump 5 [(.c (.bool true))])
   (.call 11 1 false [] [(.v 65), (.v 67)]
   (.op (.un .not) [(.v 70)]
   (.jump 5 [(.v 71)])))))
  ir0p0)))))
 (.call 12 3 false [] [(.v 37), (.v 44), (.v 54)]
 (.call 13 3 false [] [(.v 37), (.v 44), (.v 54)]
 (.letj 1
  (.op (.bin .neq false) [(.v 66), (.v 69)]
  (.ite (.v 70)
   (.jump 5 [(.c (.bool true))])
  (.call 14 1 false [] [(.v 64), (.v 65), (.v 67), (.v 68)]
  (.op (.un .not) [(.v 71)]
  (.jump 5 [(.v 72)])))))
 ir0p3)))))
def ir0p5 : IR :=
 (.op (.bin .lss false) [(.v 50), (.v 49)]
 (.ite (.v 53)
  (.op .chk [(.v 48), (.v 50)]
  (.op (.get 0 1) [(.v 48), (.v 50)]
  (.op (.conv .u64) [(.v 14)]
  (.op (.bin .shl false) [(.c (.int .i64 1)), (.v 55)]
  (.call 8 3 false [] [(.v 56), (.v 51), (.v 52)]
  (.op (.mk 1 2) [(.v 6), (.v 57)]
  (.op .lenL [(.v 60)]
  (.loop 1 [(.c (.int .i64 0))] ir0p4))))))))
 (.op (.bin .add false) [(.v 40), (.c (.int .i64 1))]
 (.jump 2 [(.v 54), (.v 51), (.v 52)]))))
def ir0p6 : IR :=
 (.op (.bin .lss false) [(.v 40), (.v 39)]
 (.ite (.v 43)
  (.op .chk [(.v 38), (.v 40)]
  (.op (.get 0 1) [(.v 38), (.v 40)]
  (.call 4 3 false [] [(.c (.int .i64 1)), (.c (.int .i64 4)), (.v 41), (.v 42)]
  (.op (.mk 1 2) [(.v 7), (.v 45)]
  (.op .lenL [(.v 48)]
  (.loop 3 [(.c (.int .i64 0)), (.v 46), (.v 47)] ir0p5))))))
 (.op (.bin .add false) [(.v 33), (.c (.int .i64 1))]
 (.jump 1 [(.v 44), (.v 41), (.v 42)]))))
def ir0p7 : IR :=
 (.op (.bin .lss false) [(.v 33), (.v 32)]
 (.ite (.v 36)
  (.op .chk [(.v 31), (.v 33)]
  (.op (.get 0 1) [(.v 31), (.v 33)]
  (.op (.mk 1 3) [(.v 1), (.v 17), (.v 29)]
  (.op .lenL [(.v 38)]
  (.loop 3 [(.c (.int .i64 0)), (.v 34), (.v 35)] ir0p6)))))
 (.call 2 1 false [] []
 (.ret [(.v 37)]))))
def ir0p8 : IR :=
 (.op .lenL [(.v 1)]
 (.op (.bin .lss false) [(.v 9), (.v 10)]
 (.ite (.v 11)
  (.op (.row 3) [(.v 1), (.v 9)]
  (.call 1 1 false [] [(.v 12), (.v 13), (.v 14)]
  (.op (.un .not) [(.v 15)]
  (.ite (.v 16)
   (.call 2 1 false [] []
   (.ret [(.v 17)]))
  (.op (.bin .add false) [(.v 9), (.c (.int .i64 1))]
  (.jump 0 [(.v 17)]))))))
 (.call 3 2 false [] [(.v 5)]
 (.call 4 3 false [] [(.c (.int .i64 0)), (.c (.int .i64 3)), (.v 12), (.v 13)]
 (.call 5 4 false [] [(.c (.int .i64 4)), (.v 14), (.v 15), (.v 16)]
 (.op (.app 3 48) [(.c (.sl [])), (.v 17)]
 (.op .max [(.v 14), (.c (.int .i64 1))]
 (.call 6 5 false [] [(.v 22), (.c (.int .i64 2)), (.v 19), (.v 20)]
 (.op (.mk 3 1) [(.v 23), (.v 24), (.v 25)]
 (.op (.app 3 48) [(.v 21), (.v 28)]
 (.call 7 1 false [] [(.v 14)]
 (.op (.mk 1 2) [(.v 0), (.v 30)]
 (.op .lenL [(.v 31)]
 (.loop 3 [(.c (.int .i64 0)), (.v 26), (.v 27)] ir0p7)))))))))))))))
def ir0p9 : IR :=
 (.ite (.v 8)
  (.call 2 1 false [] []
  (.ret [(.v 9)]))
 (.loop 1 [(.c (.int .i64 0))] ir0p8))
def ir0 : IR :=
 (.letj 1
  (.op .lenL [(.v 0)]
  (.op (.bin .gtr false) [(.v 8), (.c (.int .i64 10))]
  (.ite (.v 9)
   (.jump 0 [(.c (.bool true))])
  (.op .lenL [(.v 1)]
  (.op (.bin .gtr false) [(.v 10), (.c (.int .i64 12))]
  (.ite (.v 11)
   (.jump 0 [(.c (.bool true))])
  (.call 1 1 false [] [(.v 2), (.v 3), (.v 4)]
  (.op (.un .not) [(.v 12)]
  (.jump 0 [(.v 13)])))))))))
 ir0p9)
theorem rd0 : readFn T SG sigs 3000 sg0 Tryz.f7 an0 = some ir0 := by kernel_rfl
def an1 : Ann := .z
def ir1 : IR :=
 (.call 19 1 false [] [(.v 0), (.v 1), (.v 2), (.c (.int .i64 800))]
 (.op (.bin .leq false) [(.v 3), (.c (.int .i64 800))]
 (.ite (.v 4)
  (.call 20 1 false [] [(.v 0), (.v 1), (.v 2), (.c (.int .i64 30))]
  (.op (.bin .leq false) [(.v 5), (.c (.int .i64 30))]
  (.ite (.v 6)
   (.call 21 1 false [] [(.v 0), (.v 1), (.v 2)]
   (.ret [(.v 7)]))
  (.ret [(.c (.bool false))]))))
 (.ret [(.c (.bool false))]))))
theorem rd1 : readFn T SG sigs 3000 sg1 Tryz.f19 an1 = some ir1 := by kernel_rfl
def an2 : Ann := .z
def ir2 : IR :=
 (.call 16 3 false [] [(.c (.int .i64 2)), (.c (.int .u64 8))]
 (.call 16 3 false [] [(.c (.int .i64 2)), (.c (.int .u64 8))]
 (.call 16 3 false [] [(.c (.int .i64 2)), (.c (.int .u64 1))]
 (.op (.mk 3 3) [(.v 0), (.v 1), (.v 2), (.v 3), (.v 4), (.v 5), (.v 6), (.v 7), (.v 8)]
 (.call 7 1 false [] [(.c (.int .i64 2))]
 (.call 16 3 false [] [(.c (.int .i64 2)), (.c (.int .u64 15))]
 (.call 17 2 true [] [(.v 10), (.v 9), (.v 11), (.v 12), (.v 13), (.c (.int .i64 1))]
 (.call 7 1 false [] [(.c (.int .i64 2))]
 (.call 16 3 false [] [(.c (.int .i64 2)), (.c (.int .u64 15))]
 (.call 17 2 true [] [(.v 16), (.v 9), (.v 17), (.v 18), (.v 19), (.c (.int .i64 3))]
 (.call 7 1 false [] [(.c (.int .i64 2))]
 (.call 16 3 false [] [(.c (.int .i64 2)), (.c (.int .u64 15))]
 (.call 17 2 true [] [(.v 22), (.v 9), (.v 23), (.v 24), (.v 25), (.c (.int .i64 2))]
 (.call 7 1 false [] [(.c (.int .i64 2))]
 (.call 16 3 false [] [(.c (.int .i64 2)), (.c (.int .u64 15))]
 (.call 17 2 true [] [(.v 28), (.v 9), (.v 29), (.v 30), (.v 31), (.c (.int .i64 4))]
 (.op (.bin .eql false) [(.v 15), (.c (.int .i64 0))]
 (.ite (.v 34)
  (.op (.bin .eql false) [(.v 21), (.c (.int .i64 0))]
  (.ite (.v 35)
   (.op (.bin .eql false) [(.v 27), (.c (.int .i64 0))]
   (.ite (.v 36)
    (.op (.bin .eql false) [(.v 33), (.c (.int .i64 0))]
    (.ite (.v 37)
     (.op (.bin .eql false) [(.v 14), (.c (.int .u64 8))]
     (.ite (.v 38)
      (.op (.bin .eql false) [(.v 20), (.c (.int .u64 6))]
      (.ite (.v 39)
       (.op (.bin .eql false) [(.v 26), (.c (.int .u64 6))]
       (.ite (.v 40)
        (.op (.bin .eql false) [(.v 32), (.c (.int .u64 8))]
        (.ret [(.v 41)]))
       (.ret [(.c (.bool false))])))
      (.ret [(.c (.bool false))])))
     (.ret [(.c (.bool false))])))
    (.ret [(.c (.bool false))])))
   (.ret [(.c (.bool false))])))
  (.ret [(.c (.bool false))])))
 (.ret [(.c (.bool false))])))))))))))))))))))
theorem rd2 : readFn T SG sigs 3000 sg2 Tryz.f17 an2 = some ir2 := by kernel_rfl
def an3 : Ann := .z
def ir3 : IR :=
 (.op .lenL [(.v 0)]
 (.op .min [(.v 1), (.c (.int .i64 2000))]
 (.op (.subL 1) [(.v 0), (.c (.int .i64 0)), (.v 2)]
 (.ret [(.v 3), (.c (.int .i64 0))]))))
theorem rd3 : readFn T SG sigs 3000 sg3 Tryz.f9 an3 = some ir3 := by kernel_rfl
def an4 : Ann := .z
def ir4 : IR :=
 (.op (.bin .sub false) [(.v 1), (.v 0)]
 (.op (.bin .add false) [(.v 4), (.c (.int .i64 1))]
 (.call 8 3 false [] [(.v 5), (.v 2), (.v 3)]
 (.op (.bin .add false) [(.v 0), (.v 6)]
 (.ret [(.v 9), (.v 7), (.v 8)])))))
theorem rd4 : readFn T SG sigs 3000 sg4 Tryz.f10 an4 = some ir4 := by kernel_rfl
def an5 : Ann := (.s none .z (.s none .z (.s none .z (.s none (.s none .z (.b (.l ⟨5, [(1, .junk), (6, .junk), (7, .junk), (10, (.atm (.v 0))), (12, .junk), (13, .junk), (14, .junk), (15, .junk)], [(0, ⟨false, false, 62, 2, (.c (.sl [])), [[(.atm (.v 1)), (.atm (.v 2))]]⟩), (1, ⟨false, true, 39, 3, (.v 3), []⟩), (2, ⟨false, true, 32, 1, (.v 4), []⟩)], 3, [⟨none, 8, 39, 3⟩, ⟨none, 9, 32, 1⟩]⟩ .z))) .z))))
def ir5p0 : IR :=
 (.op (.bin .gtr false) [(.v 8), (.c (.int .i64 0))]
 (.ite (.v 13)
  (.call 22 3 false [] [(.v 1), (.v 9), (.v 10)]
  (.call 16 3 false [] [(.v 1), (.v 14)]
  (.op (.mk 3 1) [(.v 17), (.v 18), (.v 19)]
  (.op (.app 3 48) [(.v 11), (.v 20)]
  (.op (.mk 1 1) [(.v 14)]
  (.op (.app 1 8) [(.v 12), (.v 22)]
  (.op (.bin .sub false) [(.v 8), (.c (.int .i64 1))]
  (.jump 0 [(.v 24), (.v 15), (.v 16), (.v 21), (.v 23)]))))))))
 (.ret [(.v 11), (.v 12), (.v 9), (.v 10)])))
def ir5 : IR :=
 (.op (.bin .add false) [(.v 0), (.c (.int .i64 1))]
 (.call 8 3 false [] [(.v 4), (.v 2), (.v 3)]
 (.loop 5 [(.v 5), (.v 6), (.v 7), (.c (.sl [])), (.c (.sl []))] ir5p0)))
theorem rd5 : readFn T SG sigs 3000 sg5 Tryz.f12 an5 = some ir5 := by kernel_rfl
def an6 : Ann := (.s none .z (.s none .z (.s none (.s (some ⟨1, [(11, .junk), (12, .junk), (18, (.atm (.v 0)))], [], 2, []⟩) .z .z) (.s none .z (.s none .z (.s (some ⟨3, [(7, .junk), (9, (.atm (.v 0))), (18, .junk), (34, .junk), (35, .junk), (36, .junk), (37, .junk), (38, .junk), (39, .junk)], [(0, ⟨false, false, 62, 2, (.c (.sl [])), [[(.atm (.v 1)), (.atm (.v 2))]]⟩)], 4, []⟩) (.s none .z (.b (.s none .z (.c .z (.s (some ⟨1, [(7, .junk), (18, .junk), (34, .junk), (35, .junk), (36, .junk), (37, .junk), (38, .junk), (39, .junk), (40, .junk), (41, .junk), (42, .junk), (43, .junk), (44, (.atm (.v 0)))], [], 4, []⟩) .z .z))))) (.s none (.s none .z (.b (.l ⟨4, [(10, (.atm (.v 0)))], [(0, ⟨false, false, 62, 2, (.c (.sl [])), [[(.atm (.v 1)), (.atm (.v 2))]]⟩), (4, ⟨false, true, 39, 3, (.v 3), []⟩)], 5, [⟨some (3, 0, 2), 0, 39, 3⟩]⟩ .z))) .z)))))))
def ir6p0 : IR :=
 (.op (.bin .lss false) [(.v 14), (.v 11)]
 (.ite (.v 18)
  (.op (.bin .sub false) [(.v 1), (.c (.int .i64 1))]
  (.call 6 5 false [] [(.v 0), (.v 19), (.v 15), (.v 16)]
  (.op (.mk 3 1) [(.v 20), (.v 21), (.v 22)]
  (.op (.app 3 48) [(.v 17), (.v 25)]
  (.op (.bin .add false) [(.v 14), (.c (.int .i64 1))]
  (.jump 0 [(.v 27), (.v 23), (.v 24), (.v 26)]))))))
 (.ret [(.v 10), (.c (.str [])), (.v 17), (.v 15), (.v 16)])))
def ir6p1 : IR :=
 (.loop 4 [(.c (.int .i64 0)), (.v 12), (.v 13), (.c (.sl []))] ir6p0)
def ir6p2 : IR :=
 (.ite (.v 12)
  (.call 8 3 false [] [(.c (.int .i64 2)), (.v 5), (.v 6)]
  (.op (.bin .add false) [(.c (.int .i64 2)), (.v 13)]
  (.jump 0 [(.v 16), (.v 14), (.v 15)])))
 (.jump 0 [(.c (.int .i64 2)), (.v 5), (.v 6)]))
def ir6p3 : IR :=
 (.ite (.v 7)
  (.op (.bin .eql false) [(.v 4), (.c (.int .i64 0))]
  (.ite (.v 8)
   (.call 8 3 false [] [(.c (.int .i64 2)), (.v 5), (.v 6)]
   (.op (.bin .add false) [(.c (.int .i64 1)), (.v 9)]
   (.ret [(.v 12), (.c (.str [])), (.c (.sl [])), (.v 10), (.v 11)])))
  (.call 8 3 false [] [(.v 0), (.v 5), (.v 6)]
  (.op (.bin .add false) [(.c (.int .i64 97)), (.v 9)]
  (.op (.conv .u8) [(.v 12)]
  (.op (.mk 1 1) [(.v 13)]
  (.op .toS [(.v 14)]
  (.ret [(.c (.int .i64 3)), (.v 15), (.c (.sl [])), (.v 10), (.v 11)]))))))))
 (.op (.mk 1 8) [(.c (.int .i64 4)), (.c (.int .i64 4)), (.c (.int .i64 5)), (.c (.int .i64 5)), (.c (.int .i64 6)), (.c (.int .i64 6)), (.c (.int .i64 7)), (.c (.int .i64 8))]
 (.op (.bin .sub false) [(.v 4), (.c (.int .i64 4))]
 (.op .chk [(.v 8), (.v 9)]
 (.op (.get 0 1) [(.v 8), (.v 9)]
 (.letj 3
  (.op (.bin .eql false) [(.v 10), (.c (.int .i64 4))]
  (.ite (.v 11)
   (.jump 0 [(.c (.int .i64 1)), (.v 5), (.v 6)])
  (.letj 1
   (.op (.bin .eql false) [(.v 10), (.c (.int .i64 5))]
   (.ite (.v 12)
    (.jump 1 [(.c (.bool true))])
   (.op (.bin .eql false) [(.v 10), (.c (.int .i64 6))]
   (.jump 1 [(.v 13)]))))
  ir6p2)))
 ir6p1))))))
def ir6 : IR :=
 (.call 8 3 false [] [(.c (.int .i64 12)), (.v 2), (.v 3)]
 (.letj 1
  (.op (.bin .lss false) [(.v 1), (.c (.int .i64 1))]
  (.ite (.v 7)
   (.jump 0 [(.c (.bool true))])
  (.op (.bin .lss false) [(.v 4), (.c (.int .i64 4))]
  (.jump 0 [(.v 8)]))))
 ir6p3))
theorem rd6 : readFn T SG sigs 3000 sg6 Tryz.f20 an6 = some ir6 := by kernel_rfl
def an7 : Ann := (.s none .z (.s none .z (.s none (.s none .z (.b (.l ⟨2, [(2, .junk), (4, (.atm (.v 0)))], [(0, ⟨false, true, 9, 1, (.v 1), []⟩)], 1, [⟨none, 3, 9, 1⟩]⟩ .z))) .z)))
def ir7p0 : IR :=
 (.op (.bin .lss false) [(.v 1), (.v 0)]
 (.ite (.v 3)
  (.op (.bin .add false) [(.c (.int .i64 97)), (.v 1)]
  (.op (.conv .u8) [(.v 4)]
  (.op (.mk 1 1) [(.v 5)]
  (.op .toS [(.v 6)]
  (.op (.mk 1 1) [(.v 7)]
  (.op (.app 1 16) [(.v 2), (.v 8)]
  (.op (.bin .add false) [(.v 1), (.c (.int .i64 1))]
  (.jump 0 [(.v 10), (.v 9)]))))))))
 (.ret [(.v 2)])))
def ir7 : IR :=
 (.loop 2 [(.c (.int .i64 0)), (.c (.sl []))] ir7p0)
theorem rd7 : readFn T SG sigs 3000 sg7 Tryz.f11 an7 = some ir7 := by kernel_rfl
def an8 : Ann := .z
def ir8 : IR :=
 (.call 23 3 false [] [(.v 1), (.v 2)]
 (.call 24 1 false [] [(.v 3), (.v 0)]
 (.ret [(.v 6), (.v 4), (.v 5)])))
theorem rd8 : readFn T SG sigs 3000 sg8 Tryz.f21 an8 = some ir8 := by kernel_rfl
def an9 : Ann := (.s none .z (.s none .z (.s none (.b (.s none .z (.c .z (.s (some ⟨1, [(1, .junk), (8, .junk), (9, .junk), (11, .junk), (12, .junk), (13, .junk), (14, .junk), (15, .junk), (16, .junk), (17, .junk), (18, .junk), (19, .junk), (20, .junk), (21, .junk), (23, (.atm (.v 0)))], [], 0, []⟩) .z .z)))) .z)))
def ir9p0 : IR :=
 (.ite (.v 7)
  (.ret [(.c (.sl [])), (.c (.int .i64 1))])
 (.call 26 1 false [0] [(.v 0), (.v 4), (.v 2), (.v 3)]
 (.ret [(.v 8), (.c (.int .i64 0))])))
def ir9 : IR :=
 (.call 25 2 false [] [(.v 0), (.v 1), (.v 3)]
 (.op (.bin .neq false) [(.v 5), (.c (.int .i64 0))]
 (.ite (.v 6)
  (.ret [(.c (.sl [])), (.v 5)])
 (.letj 1
  (.op (.bin .lss false) [(.v 2), (.c (.int .i64 0))]
  (.ite (.v 7)
   (.jump 0 [(.c (.bool true))])
  (.op .lenL [(.v 0)]
  (.op (.bin .shl false) [(.c (.int .i64 1)), (.v 8)]
  (.op (.bin .geq false) [(.v 2), (.v 9)]
  (.jump 0 [(.v 10)]))))))
 ir9p0))))
theorem rd9 : readFn T SG sigs 3000 sg9 Tryz.f22 an9 = some ir9 := by kernel_rfl
def an10 : Ann := (.s none .z (.s none .z (.s none .z (.s none (.s (some ⟨1, [(1, .junk), (8, .junk), (9, .junk), (11, .junk), (12, .junk), (13, .junk), (14, .junk), (15, .junk), (16, .junk), (17, .junk), (18, .junk), (19, .junk), (20, .junk), (31, (.atm (.v 0)))], [], 0, []⟩) .z .z) .z))))
def ir10p0 : IR :=
 (.ite (.v 7)
  (.ret [(.c (.sl [])), (.c (.int .i64 1))])
 (.op .lenL [(.v 0)]
 (.op (.conv .u64) [(.v 8)]
 (.op (.bin .shl false) [(.c (.int .i64 1)), (.v 9)]
 (.call 28 1 false [] [(.v 10), (.v 4), (.v 2), (.v 3)]
 (.ret [(.v 11), (.c (.int .i64 0))]))))))
def ir10 : IR :=
 (.call 27 2 false [] [(.v 0), (.v 1), (.v 3)]
 (.op (.bin .neq false) [(.v 5), (.c (.int .i64 0))]
 (.ite (.v 6)
  (.ret [(.c (.sl [])), (.v 5)])
 (.letj 1
  (.op (.bin .lss false) [(.v 2), (.c (.int .i64 0))]
  (.ite (.v 7)
   (.jump 0 [(.c (.bool true))])
  (.op .lenL [(.v 0)]
  (.op (.conv .u64) [(.v 8)]
  (.op (.bin .shl false) [(.c (.int .i64 1)), (.v 9)]
  (.op (.bin .geq false) [(.v 2), (.v 10)]
  (.jump 0 [(.v 11)])))))))
 ir10p0))))
theorem rd10 : readFn T SG sigs 3000 sg10 Tryz.f23 an10 = some ir10 := by kernel_rfl
def an11 : Ann := (.s none .z (.s none .z (.s none (.s none .z (.b (.l ⟨1, [(4, .junk), (6, .junk), (7, .junk), (8, .junk), (9, .junk), (10, .junk), (11, .junk), (13, (.atm (.v 0)))], [], 0, []⟩ .z))) .z)))
def ir11p0 : IR :=
 (.op (.bin .lss false) [(.v 6), (.v 5)]
 (.ite (.v 7)
  (.op (.row 1) [(.v 0), (.v 6)]
  (.op (.row 1) [(.v 1), (.v 6)]
  (.op (.bin .neq false) [(.v 8), (.v 9)]
  (.ite (.v 10)
   (.ret [(.c (.bool false))])
  (.op (.bin .add false) [(.v 6), (.c (.int .i64 1))]
  (.jump 0 [(.v 11)]))))))
 (.ret [(.c (.bool true))])))
def ir11 : IR :=
 (.op .lenL [(.v 0)]
 (.op .lenL [(.v 1)]
 (.op (.bin .neq false) [(.v 2), (.v 3)]
 (.ite (.v 4)
  (.ret [(.c (.bool false))])
 (.op .lenL [(.v 0)]
 (.loop 1 [(.c (.int .i64 0))] ir11p0))))))
theorem rd11 : readFn T SG sigs 3000 sg11 Tryz.f24 an11 = some ir11 := by kernel_rfl
def an12 : Ann := .z
def ir12 : IR :=
 (.call 25 2 false [] [(.v 0), (.v 1), (.v 2)]
 (.op (.bin .neq false) [(.v 4), (.c (.int .i64 0))]
 (.ite (.v 5)
  (.ret [(.c (.sl [])), (.c (.sl [])), (.v 4)])
 (.call 29 3 false [] [(.v 0), (.v 3), (.v 2)]
 (.ret [(.v 6), (.v 7), (.v 8)])))))
theorem rd12 : readFn T SG sigs 3000 sg12 Tryz.f25 an12 = some ir12 := by kernel_rfl
def an13 : Ann := (.s none .z (.s none .z (.s none .z (.s none .z (.s none .z (.s none (.s none .z (.b (.l ⟨2, [(1, .junk), (7, .junk), (9, .junk), (12, (.atm (.v 0))), (13, .junk), (14, .junk), (15, .junk), (16, .junk), (17, .junk), (18, .junk), (19, .junk), (20, .junk), (21, .junk), (24, .junk), (25, .junk), (26, .junk), (27, .junk), (28, .junk), (29, .junk)], [(1, ⟨false, true, 3, 1, (.v 1), []⟩)], 2, []⟩ .z))) .z))))))
def ir13p0 : IR :=
 (.op (.bin .lss false) [(.v 10), (.v 8)]
 (.ite (.v 12)
  (.call 28 1 false [] [(.v 8), (.v 3), (.v 10), (.v 2)]
  (.call 30 1 false [] [(.v 13), (.v 2)]
  (.op .chk [(.v 11), (.v 10)]
  (.op (.set 0 1) [(.v 11), (.v 10), (.v 14)]
  (.op (.bin .add false) [(.v 10), (.c (.int .i64 1))]
  (.jump 0 [(.v 16), (.v 15)]))))))
 (.call 31 3 false [] [(.v 0), (.v 11)]
 (.ret [(.v 13), (.v 14), (.v 15)]))))
def ir13 : IR :=
 (.call 27 2 false [] [(.v 0), (.v 1), (.v 2)]
 (.op (.bin .neq false) [(.v 4), (.c (.int .i64 0))]
 (.ite (.v 5)
  (.ret [(.c (.sl [])), (.c (.sl [])), (.v 4)])
 (.op .lenL [(.v 0)]
 (.op (.conv .u64) [(.v 6)]
 (.op (.bin .shl false) [(.c (.int .i64 1)), (.v 7)]
 (.op (.mkL 8 [(.int .i64 0)]) [(.v 8)]
 (.loop 2 [(.c (.int .i64 0)), (.v 9)] ir13p0))))))))
theorem rd13 : readFn T SG sigs 3000 sg13 Tryz.f26 an13 = some ir13 := by kernel_rfl
def an14 : Ann := .z
def ir14 : IR :=
 (.call 32 1 false [] [(.v 0), (.v 2)]
 (.ite (.v 4)
  (.call 11 1 false [] [(.v 1), (.v 3)]
  (.ret [(.v 5)]))
 (.ret [(.c (.bool false))])))
theorem rd14 : readFn T SG sigs 3000 sg14 Tryz.f27 an14 = some ir14 := by kernel_rfl
def an15 : Ann := .z
def ir15 : IR :=
 (.call 8 3 false [] [(.c (.int .i64 4)), (.v 0), (.v 1)]
 (.op (.bin .eql false) [(.v 2), (.c (.int .i64 0))]
 (.ite (.v 5)
  (.call 23 3 false [] [(.v 3), (.v 4)]
  (.op (.conv .u64) [(.v 6)]
  (.ret [(.v 9), (.v 7), (.v 8)])))
 (.op (.bin .eql false) [(.v 2), (.c (.int .i64 1))]
 (.ite (.v 6)
  (.call 23 3 false [] [(.v 3), (.v 4)]
  (.op (.conv .u64) [(.v 7)]
  (.call 23 3 false [] [(.v 8), (.v 9)]
  (.op (.conv .u64) [(.v 11)]
  (.op (.bin .and false) [(.v 10), (.v 14)]
  (.ret [(.v 15), (.v 12), (.v 13)]))))))
 (.op (.bin .eql false) [(.v 2), (.c (.int .i64 2))]
 (.ite (.v 7)
  (.call 8 3 false [] [(.c (.int .i64 64)), (.v 3), (.v 4)]
  (.op (.conv .u64) [(.v 8)]
  (.op (.bin .shl false) [(.c (.int .u64 1)), (.v 11)]
  (.call 8 3 false [] [(.c (.int .i64 64)), (.v 9), (.v 10)]
  (.op (.conv .u64) [(.v 13)]
  (.op (.bin .shl false) [(.c (.int .u64 1)), (.v 16)]
  (.op (.bin .or false) [(.v 12), (.v 17)]
  (.ret [(.v 18), (.v 14), (.v 15)]))))))))
 (.call 23 3 false [] [(.v 3), (.v 4)]
 (.op (.conv .u64) [(.v 8)]
 (.op (.bin .mul false) [(.v 11), (.c (.int .u64 11400714819323198485))]
 (.call 23 3 false [] [(.v 9), (.v 10)]
 (.op (.conv .u64) [(.v 13)]
 (.op (.bin .xor false) [(.v 12), (.v 16)]
 (.ret [(.v 17), (.v 14), (.v 15)]))))))))))))))
theorem rd15 : readFn T SG sigs 3000 sg15 Tryz.f14 an15 = some ir15 := by kernel_rfl
def an16 : Ann := .z
def ir16 : IR :=
 (.call 7 1 false [] [(.v 0)]
 (.call 7 1 false [] [(.v 0)]
 (.call 33 1 false [] [(.v 3)]
 (.op (.bin .and false) [(.v 1), (.v 4)]
 (.call 34 4 false [] [(.v 2), (.v 5)]
 (.ret [(.v 6), (.v 7), (.v 8)]))))))
theorem rd16 : readFn T SG sigs 3000 sg16 Tryz.f16 an16 = some ir16 := by kernel_rfl
def an17 : Ann := .z
def ir17 : IR :=
 (.call 12 3 false [] [(.v 0), (.v 1), (.v 5)]
 (.op (.bin .neq false) [(.v 8), (.c (.int .i64 0))]
 (.ite (.v 9)
  (.ret [(.c (.int .u64 0)), (.v 8)])
 (.call 35 2 false [] [(.v 0), (.v 2), (.v 3), (.v 4)]
 (.op (.bin .neq false) [(.v 11), (.c (.int .i64 0))]
 (.ite (.v 12)
  (.ret [(.c (.int .u64 0)), (.v 11)])
 (.call 36 1 false [] [(.v 6), (.v 7), (.v 10)]
 (.ret [(.v 13), (.c (.int .i64 0))]))))))))
theorem rd17 : readFn T SG sigs 3000 sg17 Tryz.f15 an17 = some ir17 := by kernel_rfl
def an18 : Ann := .z
def ir18 : IR :=
 (.call 13 3 false [] [(.v 0), (.v 1), (.v 5)]
 (.op (.bin .neq false) [(.v 8), (.c (.int .i64 0))]
 (.ite (.v 9)
  (.ret [(.c (.int .u64 0)), (.v 8)])
 (.call 37 2 false [] [(.v 0), (.v 2), (.v 3), (.v 4)]
 (.op (.bin .neq false) [(.v 11), (.c (.int .i64 0))]
 (.ite (.v 12)
  (.ret [(.c (.int .u64 0)), (.v 11)])
 (.call 38 1 false [] [(.v 6), (.v 7), (.v 10)]
 (.ret [(.v 13), (.c (.int .i64 0))]))))))))
theorem rd18 : readFn T SG sigs 3000 sg18 Tryz.f28 an18 = some ir18 := by kernel_rfl
def an19 : Ann := (.s none .z (.s none .z (.s none (.s none .z (.b (.l ⟨2, [(0, .junk), (4, .junk), (5, (.atm (.v 0))), (7, .junk), (8, .junk), (10, (.atm (.v 1)))], [], 1, []⟩ .z))) .z)))
def ir19p0 : IR :=
 (.op (.bin .lss false) [(.v 6), (.v 4)]
 (.ite (.v 7)
  (.op (.bin .gtr false) [(.v 5), (.v 3)]
  (.ite (.v 8)
   (.ret [(.v 5)])
  (.op (.row 3) [(.v 2), (.v 6)]
  (.op (.bin .sub false) [(.v 3), (.v 5)]
  (.call 19 1 false [] [(.v 9), (.v 10), (.v 11), (.v 12)]
  (.op (.bin .add false) [(.v 5), (.v 13)]
  (.op (.bin .add false) [(.v 6), (.c (.int .i64 1))]
  (.jump 0 [(.v 14), (.v 15)]))))))))
 (.ret [(.v 5)])))
def ir19 : IR :=
 (.op .lenL [(.v 2)]
 (.loop 2 [(.c (.int .i64 1)), (.c (.int .i64 0))] ir19p0))
theorem rd19 : readFn T SG sigs 3000 sg19 Tryz.f38 an19 = some ir19 := by kernel_rfl
def an20 : Ann := (.s none .z (.s none .z (.s none .z (.s none (.s none .z (.b (.l ⟨2, [(0, .junk), (4, .junk), (5, (.atm (.v 0))), (7, .junk), (8, .junk), (9, .junk), (10, .junk), (12, (.atm (.v 1)))], [], 1, []⟩ .z))) .z))))
def ir20p0 : IR :=
 (.op (.bin .lss false) [(.v 7), (.v 5)]
 (.ite (.v 8)
  (.op (.row 3) [(.v 2), (.v 7)]
  (.op (.bin .sub false) [(.v 3), (.c (.int .i64 1))]
  (.call 20 1 false [] [(.v 9), (.v 10), (.v 11), (.v 12)]
  (.op (.bin .add false) [(.c (.int .i64 1)), (.v 13)]
  (.op .max [(.v 6), (.v 14)]
  (.op (.bin .add false) [(.v 7), (.c (.int .i64 1))]
  (.jump 0 [(.v 15), (.v 16)])))))))
 (.ret [(.v 6)])))
def ir20 : IR :=
 (.op (.bin .lss false) [(.v 3), (.c (.int .i64 0))]
 (.ite (.v 4)
  (.ret [(.c (.int .i64 0))])
 (.op .lenL [(.v 2)]
 (.loop 2 [(.c (.int .i64 0)), (.c (.int .i64 0))] ir20p0))))
theorem rd20 : readFn T SG sigs 3000 sg20 Tryz.f39 an20 = some ir20 := by kernel_rfl
def an21 : Ann := (.s none .z (.s none .z (.s none (.s none .z (.b (.l ⟨1, [(0, .junk), (2, .junk), (4, .junk), (5, .junk), (6, .junk), (7, .junk), (8, .junk), (9, .junk), (11, (.atm (.v 0)))], [], 1, []⟩ .z))) .z)))
def ir21p0 : IR :=
 (.op (.bin .lss false) [(.v 6), (.v 5)]
 (.ite (.v 7)
  (.op (.row 3) [(.v 2), (.v 6)]
  (.call 21 1 false [] [(.v 8), (.v 9), (.v 10)]
  (.op (.un .not) [(.v 11)]
  (.ite (.v 12)
   (.ret [(.c (.bool false))])
  (.op (.bin .add false) [(.v 6), (.c (.int .i64 1))]
  (.jump 0 [(.v 13)]))))))
 (.ret [(.c (.bool true))])))
def ir21 : IR :=
 (.op .lenS [(.v 1)]
 (.op (.bin .gtr false) [(.v 3), (.c (.int .i64 100))]
 (.ite (.v 4)
  (.ret [(.c (.bool false))])
 (.op .lenL [(.v 2)]
 (.loop 1 [(.c (.int .i64 0))] ir21p0)))))
theorem rd21 : readFn T SG sigs 3000 sg21 Tryz.f40 an21 = some ir21 := by kernel_rfl
def an22 : Ann := .z
def ir22 : IR :=
 (.op (.conv .u64) [(.v 0)]
 (.op (.bin .shl false) [(.c (.int .i64 1)), (.v 3)]
 (.call 8 3 false [] [(.v 4), (.v 1), (.v 2)]
 (.op (.conv .u64) [(.v 5)]
 (.op (.bin .shl false) [(.c (.int .u64 1)), (.v 8)]
 (.call 15 3 false [] [(.v 6), (.v 7)]
 (.call 15 3 false [] [(.v 11), (.v 12)]
 (.op (.bin .and false) [(.v 10), (.v 13)]
 (.op (.bin .or false) [(.v 16), (.v 9)]
 (.call 7 1 false [] [(.v 0)]
 (.call 33 1 false [] [(.v 18)]
 (.op (.bin .and false) [(.v 17), (.v 19)]
 (.ret [(.v 20), (.v 14), (.v 15)])))))))))))))
theorem rd22 : readFn T SG sigs 3000 sg22 Tryz.f18 an22 = some ir22 := by kernel_rfl
def an23 : Ann := .z
def ir23 : IR :=
 (.op .lenL [(.v 0)]
 (.op (.bin .geq false) [(.v 1), (.v 2)]
 (.ite (.v 3)
  (.ret [(.c (.int .i64 0)), (.v 0), (.v 1)])
 (.op (.bin .add false) [(.v 1), (.c (.int .i64 1))]
 (.op (.bin .sub false) [(.v 4), (.c (.int .i64 1))]
 (.op (.row 1) [(.v 0), (.v 5)]
 (.ret [(.v 6), (.v 0), (.v 4)])))))))
theorem rd23 : readFn T SG sigs 3000 sg23 Tryz.f34 an23 = some ir23 := by kernel_rfl
def an24 : Ann := (.s none .z (.s none .z (.s none .z (.s (some ⟨1, [(0, (.atm (.v 0))), (1, .junk), (4, .junk), (5, .junk), (6, .junk), (7, .junk), (8, .junk), (9, .junk)], [], 0, []⟩) .z .z))))
def ir24p0 : IR :=
 (.ret [(.v 4)])
def ir24 : IR :=
 (.op (.bin .lss false) [(.v 1), (.c (.int .i64 1))]
 (.ite (.v 2)
  (.ret [(.c (.int .i64 0))])
 (.op (.bin .rem false) [(.v 0), (.v 1)]
 (.letj 1
  (.op (.bin .lss false) [(.v 3), (.c (.int .i64 0))]
  (.ite (.v 4)
   (.op (.bin .add false) [(.v 3), (.v 1)]
   (.jump 0 [(.v 5)]))
  (.jump 0 [(.v 3)])))
 ir24p0))))
theorem rd24 : readFn T SG sigs 3000 sg24 Tryz.f41 an24 = some ir24 := by kernel_rfl
def an25 : Ann := (.s none .z (.s none (.b (.s none .z (.c .z (.s (some ⟨1, [(2, .junk), (6, .junk), (7, .junk), (13, .junk), (14, .junk), (15, .junk), (16, .junk), (17, (.atm (.v 0)))], [], 0, []⟩) .z .z)))) (.s none .z (.s none (.s none .z (.b (.l ⟨2, [(1, .junk), (17, .junk), (24, .junk), (25, .junk), (26, .junk), (27, .junk), (30, (.atm (.v 0)))], [(0, ⟨false, true, 32, 1, (.v 1), []⟩)], 1, [⟨none, 8, 32, 1⟩]⟩ .z))) .z))))
def ir25p0 : IR :=
 (.op (.bin .lss false) [(.v 9), (.v 8)]
 (.ite (.v 11)
  (.op (.row 3) [(.v 1), (.v 9)]
  (.call 35 2 false [] [(.v 0), (.v 12), (.v 13), (.v 14)]
  (.op (.bin .neq false) [(.v 16), (.c (.int .i64 0))]
  (.ite (.v 17)
   (.ret [(.c (.sl [])), (.v 16)])
  (.op (.mk 1 1) [(.v 15)]
  (.op (.app 1 8) [(.v 10), (.v 18)]
  (.op (.bin .add false) [(.v 9), (.c (.int .i64 1))]
  (.jump 0 [(.v 20), (.v 19)]))))))))
 (.call 40 1 true [] [(.v 10), (.c (.int .u64 0))]
 (.ite (.v 12)
  (.ret [(.c (.sl [])), (.c (.int .i64 7))])
 (.ret [(.v 10), (.c (.int .i64 0))])))))
def ir25p1 : IR :=
 (.ite (.v 5)
  (.ret [(.c (.sl [])), (.c (.int .i64 4))])
 (.op .lenL [(.v 1)]
 (.op (.bin .gtr false) [(.v 6), (.c (.int .i64 8))]
 (.ite (.v 7)
  (.ret [(.c (.sl [])), (.c (.int .i64 2))])
 (.op .lenL [(.v 1)]
 (.loop 2 [(.c (.int .i64 0)), (.c (.sl []))] ir25p0))))))
def ir25 : IR :=
 (.call 39 1 false [] [(.v 0)]
 (.op (.un .not) [(.v 3)]
 (.ite (.v 4)
  (.ret [(.c (.sl [])), (.c (.int .i64 1))])
 (.letj 1
  (.op (.bin .lss false) [(.v 2), (.c (.int .i64 1))]
  (.ite (.v 5)
   (.jump 0 [(.c (.bool true))])
  (.op (.bin .gtr false) [(.v 2), (.c (.int .i64 4))]
  (.jump 0 [(.v 6)]))))
 ir25p1))))
theorem rd25 : readFn T SG sigs 3000 sg25 Tryz.f42 an25 = some ir25 := by kernel_rfl
def an26 : Ann := (.s none .z (.s none .z (.s none (.s none .z (.b (.l ⟨2, [(1, .junk), (8, .junk), (14, (.atm (.v 0)))], [(0, ⟨false, true, 3, 1, (.v 1), []⟩)], 1, [⟨none, 9, 3, 1⟩]⟩ .z))) .z)))
def ir26p0 : IR :=
 (.op (.bin .lss false) [(.v 5), (.v 4)]
 (.ite (.v 7)
  (.op (.row 1) [(.v 1), (.v 5)]
  (.call 41 1 false [] [(.v 0), (.v 8), (.v 2), (.v 3)]
  (.op (.mk 1 1) [(.v 9)]
  (.op (.app 1 8) [(.v 6), (.v 10)]
  (.op (.bin .add false) [(.v 5), (.c (.int .i64 1))]
  (.jump 0 [(.v 12), (.v 11)]))))))
 (.ret [(.v 6)])))
def ir26 : IR :=
 (.op .lenL [(.v 1)]
 (.loop 2 [(.c (.int .i64 0)), (.c (.sl []))] ir26p0))
theorem rd26 : readFn T SG sigs 3000 sg26 Tryz.f43 an26 = some ir26 := by kernel_rfl
def an27 : Ann := (.s none .z (.s none .z (.s none (.s (some ⟨1, [(2, .junk), (6, .junk), (7, .junk), (13, .junk), (14, .junk), (15, .junk), (21, (.atm (.v 0)))], [], 0, []⟩) .z .z) (.s none .z (.s none .z (.s none (.s none .z (.b (.l ⟨2, [(9, (.atm (.v 0))), (21, .junk), (22, .junk), (23, .junk), (24, .junk)], [(0, ⟨false, true, 32, 1, (.v 1), []⟩)], 1, [⟨none, 8, 32, 1⟩]⟩ .z))) (.s none (.s none .z (.b (.l ⟨1, [(0, .junk), (1, .junk), (9, .junk), (12, (.atm (.v 0))), (25, .junk), (26, .junk), (27, .junk), (28, .junk)], [], 1, []⟩ .z))) .z)))))))
def ir27p0 : IR :=
 (.op .lenL [(.v 9)]
 (.op (.bin .lss false) [(.v 12), (.v 13)]
 (.ite (.v 14)
  (.op .chk [(.v 9), (.v 12)]
  (.op (.get 0 1) [(.v 9), (.v 12)]
  (.op (.bin .eql false) [(.v 15), (.c (.int .u64 0))]
  (.ite (.v 16)
   (.ret [(.c (.sl [])), (.c (.int .i64 7))])
  (.op (.bin .add false) [(.v 12), (.c (.int .i64 1))]
  (.jump 1 [(.v 17)]))))))
 (.ret [(.v 9), (.c (.int .i64 0))]))))
def ir27p1 : IR :=
 (.op .lenL [(.v 1)]
 (.op (.bin .lss false) [(.v 8), (.v 10)]
 (.ite (.v 11)
  (.op (.row 3) [(.v 1), (.v 8)]
  (.call 37 2 false [] [(.v 0), (.v 12), (.v 13), (.v 14)]
  (.op (.bin .neq false) [(.v 16), (.c (.int .i64 0))]
  (.ite (.v 17)
   (.ret [(.c (.sl [])), (.v 16)])
  (.op (.mk 1 1) [(.v 15)]
  (.op (.app 1 8) [(.v 9), (.v 18)]
  (.op (.bin .add false) [(.v 8), (.c (.int .i64 1))]
  (.jump 0 [(.v 20), (.v 19)]))))))))
 (.loop 1 [(.c (.int .i64 0))] ir27p0))))
def ir27p2 : IR :=
 (.ite (.v 5)
  (.ret [(.c (.sl [])), (.c (.int .i64 4))])
 (.op .lenL [(.v 1)]
 (.op (.bin .gtr false) [(.v 6), (.c (.int .i64 8))]
 (.ite (.v 7)
  (.ret [(.c (.sl [])), (.c (.int .i64 2))])
 (.loop 2 [(.c (.int .i64 0)), (.c (.sl []))] ir27p1)))))
def ir27 : IR :=
 (.call 42 1 false [] [(.v 0)]
 (.op (.un .not) [(.v 3)]
 (.ite (.v 4)
  (.ret [(.c (.sl [])), (.c (.int .i64 1))])
 (.letj 1
  (.op (.bin .lss false) [(.v 2), (.c (.int .i64 1))]
  (.ite (.v 5)
   (.jump 0 [(.c (.bool true))])
  (.op (.bin .gtr false) [(.v 2), (.c (.int .i64 4))]
  (.jump 0 [(.v 6)]))))
 ir27p2))))
theorem rd27 : readFn T SG sigs 3000 sg27 Tryz.f44 an27 = some ir27 := by kernel_rfl
def an28 : Ann := (.s none .z (.s none .z (.s none (.s none .z (.b (.l ⟨2, [(8, .junk), (10, (.atm (.v 0)))], [(0, ⟨false, true, 3, 1, (.v 1), []⟩)], 1, [⟨none, 9, 3, 1⟩]⟩ (.s none .z (.s none (.b (.s none .z (.s none (.s none .z (.b (.l ⟨2, [(11, (.atm (.v 0))), (12, (.atm (.v 1))), (13, .junk), (14, .junk), (15, .junk), (16, .junk)], [], 1, []⟩ (.s none .z (.s (some ⟨1, [(11, (.atm (.v 0))), (19, .junk), (20, .junk), (21, .junk)], [], 1, []⟩) .z .z))))) (.s (some ⟨1, [(11, (.atm (.v 0))), (12, .junk), (19, .junk), (20, .junk), (21, .junk)], [], 1, []⟩) .z .z)))) .z))))) .z)))
def ir28p0 : IR :=
 (.op (.bin .add false) [(.v 9), (.c (.int .i64 1))]
 (.jump 1 [(.v 11), (.v 12)]))
def ir28p1 : IR :=
 (.op (.mk 1 1) [(.v 11)]
 (.op (.app 1 8) [(.v 5), (.v 12)]
 (.op (.bin .add false) [(.v 4), (.c (.int .i64 1))]
 (.jump 0 [(.v 14), (.v 13)]))))
def ir28p2 : IR :=
 (.op (.bin .lss false) [(.v 9), (.v 0)]
 (.ite (.v 10)
  (.letj 1
   (.op (.row 1) [(.v 1), (.v 4)]
   (.call 43 1 false [] [(.v 11), (.v 9)]
   (.ite (.v 12)
    (.call 44 1 false [] [(.v 9), (.v 2)]
    (.op .min [(.v 8), (.v 13)]
    (.jump 2 [(.v 14)])))
   (.jump 2 [(.v 8)]))))
  ir28p0)
 (.letj 1
  (.op (.bin .eql false) [(.v 3), (.c (.int .i64 4))]
  (.ite (.v 11)
   (.op .min [(.v 8), (.c (.int .i64 1))]
   (.jump 2 [(.v 12)]))
  (.jump 2 [(.v 8)])))
 ir28p1)))
def ir28p3 : IR :=
 (.op .lenL [(.v 1)]
 (.op (.bin .lss false) [(.v 4), (.v 6)]
 (.ite (.v 7)
  (.loop 2 [(.c (.int .i64 100)), (.c (.int .i64 0))] ir28p2)
 (.ret [(.v 5)]))))
def ir28 : IR :=
 (.loop 2 [(.c (.int .i64 0)), (.c (.sl []))] ir28p3)
theorem rd28 : readFn T SG sigs 3000 sg28 Tryz.f45 an28 = some ir28 := by kernel_rfl
def an29 : Ann := (.s none .z (.s none .z (.s none (.s none .z (.b (.l ⟨2, [(7, .junk), (10, .junk), (11, .junk), (12, .junk), (13, .junk), (14, .junk), (16, (.atm (.v 0)))], [(1, ⟨false, true, 3, 1, (.v 1), []⟩)], 2, []⟩ .z))) .z)))
def ir29p0 : IR :=
 (.op (.bin .lss false) [(.v 7), (.v 6)]
 (.ite (.v 9)
  (.call 26 1 false [0] [(.v 0), (.v 1), (.v 7), (.v 2)]
  (.call 45 2 false [1] [(.v 2), (.v 10)]
  (.op .chk [(.v 8), (.v 7)]
  (.op (.set 0 1) [(.v 8), (.v 7), (.v 11)]
  (.op (.bin .add false) [(.v 7), (.c (.int .i64 1))]
  (.jump 0 [(.v 14), (.v 13)]))))))
 (.call 46 3 false [] [(.v 0), (.v 8)]
 (.ret [(.v 10), (.v 11), (.v 12)]))))
def ir29 : IR :=
 (.op .lenL [(.v 0)]
 (.op (.bin .shl false) [(.c (.int .i64 1)), (.v 3)]
 (.op (.mkL 8 [(.int .i64 0)]) [(.v 4)]
 (.op .lenL [(.v 5)]
 (.loop 2 [(.c (.int .i64 0)), (.v 5)] ir29p0)))))
theorem rd29 : readFn T SG sigs 3000 sg29 Tryz.f46 an29 = some ir29 := by kernel_rfl
def an31 : Ann := (.s none .z (.s none (.s (some ⟨1, [(5, .junk), (21, (.atm (.v 0)))], [], 1, []⟩) .z .z) (.s none .z (.s none (.s none .z (.b (.l ⟨2, [(0, .junk), (7, (.atm (.v 0))), (21, .junk), (24, .junk), (25, .junk), (26, .junk), (27, .junk), (28, .junk), (29, .junk)], [(6, ⟨false, true, 3, 1, (.v 1), []⟩)], 9, []⟩ (.s none .z (.s none (.b (.s none .z (.s none (.s none .z (.b (.l ⟨2, [(9, (.atm (.v 0))), (30, .junk), (31, .junk), (32, .junk), (33, .junk)], [(9, ⟨false, true, 3, 1, (.v 1), []⟩)], 10, [⟨none, 8, 3, 1⟩]⟩ (.s none .z (.s (some ⟨1, [(36, .junk), (37, .junk), (38, .junk), (39, .junk)], [(9, ⟨false, true, 3, 1, (.v 0), []⟩)], 10, []⟩) (.b (.s (some ⟨1, [(36, .junk), (37, .junk), (38, .junk), (39, .junk), (59, (.atm (.v 0)))], [], 10, []⟩) .z .z)) .z))))) .z))) .z))))) .z))))
def ir31p0 : IR :=
 (.op (.bin .add false) [(.v 10), (.c (.int .i64 1))]
 (.jump 1 [(.v 15), (.v 14)]))
def ir31p1 : IR :=
 (.ite (.v 14)
  (.op (.row 1) [(.v 1), (.v 10)]
  (.op (.mk 1 1) [(.v 15)]
  (.op (.app 1 8) [(.v 11), (.v 16)]
  (.jump 2 [(.v 17)]))))
 (.jump 2 [(.v 11)]))
def ir31p2 : IR :=
 (.op .lenL [(.v 1)]
 (.op (.bin .lss false) [(.v 10), (.v 12)]
 (.ite (.v 13)
  (.letj 1
   (.letj 1
    (.op (.row 1) [(.v 1), (.v 10)]
    (.op (.row 1) [(.v 1), (.v 6)]
    (.op (.bin .lss false) [(.v 14), (.v 15)]
    (.ite (.v 16)
     (.op (.row 1) [(.v 1), (.v 10)]
     (.call 47 1 true [] [(.v 11), (.v 17)]
     (.op (.un .not) [(.v 18)]
     (.jump 3 [(.v 19)]))))
    (.jump 3 [(.c (.bool false))])))))
   ir31p1)
  ir31p0)
 (.op .lenL [(.v 11)]
 (.op .chk [(.v 7), (.v 6)]
 (.op (.set 0 1) [(.v 7), (.v 6), (.v 14)]
 (.op (.bin .add false) [(.v 6), (.c (.int .i64 1))]
 (.jump 0 [(.v 16), (.v 15)]))))))))
def ir31p3 : IR :=
 (.op .lenL [(.v 1)]
 (.op (.bin .lss false) [(.v 6), (.v 8)]
 (.ite (.v 9)
  (.loop 2 [(.c (.int .i64 0)), (.c (.sl []))] ir31p2)
 (.ret [(.v 3), (.v 7), (.c (.int .i64 0))]))))
def ir31p4 : IR :=
 (.ite (.v 2)
  (.ret [(.c (.sl [])), (.c (.sl [])), (.c (.int .i64 1))])
 (.op (.app 1 16) [(.c (.sl [])), (.v 0)]
 (.op .lenL [(.v 1)]
 (.op (.mkL 8 [(.int .i64 0)]) [(.v 4)]
 (.loop 2 [(.c (.int .i64 0)), (.v 5)] ir31p3)))))
def ir31 : IR :=
 (.letj 1
  (.call 42 1 false [] [(.v 0)]
  (.op (.un .not) [(.v 2)]
  (.ite (.v 3)
   (.jump 0 [(.c (.bool true))])
  (.op .lenL [(.v 1)]
  (.op .lenL [(.v 0)]
  (.op (.conv .u64) [(.v 5)]
  (.op (.bin .shl false) [(.c (.int .i64 1)), (.v 6)]
  (.op (.bin .neq false) [(.v 4), (.v 7)]
  (.jump 0 [(.v 8)])))))))))
 ir31p4)
theorem rd31 : readFn T SG sigs 3000 sg31 Tryz.f48 an31 = some ir31 := by kernel_rfl
def an32 : Ann := (.s none .z (.s none .z (.s none (.s none .z (.b (.l ⟨1, [(4, .junk), (5, (.atm (.v 0))), (6, .junk), (7, .junk), (8, .junk), (9, .junk), (10, .junk)], [], 0, []⟩ .z))) .z)))
def ir32p0 : IR :=
 (.op .lenL [(.v 0)]
 (.op (.bin .lss false) [(.v 5), (.v 6)]
 (.ite (.v 7)
  (.op (.row 1) [(.v 0), (.v 5)]
  (.op (.row 1) [(.v 1), (.v 5)]
  (.op (.bin .neq false) [(.v 8), (.v 9)]
  (.ite (.v 10)
   (.ret [(.c (.bool false))])
  (.op (.bin .add false) [(.v 5), (.c (.int .i64 1))]
  (.jump 0 [(.v 11)]))))))
 (.ret [(.c (.bool true))]))))
def ir32 : IR :=
 (.op .lenL [(.v 0)]
 (.op .lenL [(.v 1)]
 (.op (.bin .neq false) [(.v 2), (.v 3)]
 (.ite (.v 4)
  (.ret [(.c (.bool false))])
 (.loop 1 [(.c (.int .i64 0))] ir32p0)))))
theorem rd32 : readFn T SG sigs 3000 sg32 Tryz.f49 an32 = some ir32 := by kernel_rfl
def an33 : Ann := (.s none .z (.s none .z (.s none .z (.s none (.s none .z (.b (.l ⟨2, [(2, .junk), (3, (.atm (.v 0))), (4, (.atm (.v 1))), (5, .junk), (6, .junk), (7, .junk)], [], 0, []⟩ .z))) .z))))
def ir33p0 : IR :=
 (.call 48 1 false [] [(.v 0)]
 (.op (.bin .lss false) [(.v 4), (.v 5)]
 (.ite (.v 6)
  (.op (.conv .u64) [(.v 4)]
  (.op (.bin .shl false) [(.c (.int .u64 1)), (.v 7)]
  (.op (.bin .or false) [(.v 3), (.v 8)]
  (.op (.bin .add false) [(.v 4), (.c (.int .i64 1))]
  (.jump 0 [(.v 9), (.v 10)])))))
 (.ret [(.v 3)]))))
def ir33 : IR :=
 (.call 42 1 false [] [(.v 0)]
 (.op (.un .not) [(.v 1)]
 (.ite (.v 2)
  (.ret [(.c (.int .u64 0))])
 (.loop 2 [(.c (.int .u64 0)), (.c (.int .i64 0))] ir33p0))))
theorem rd33 : readFn T SG sigs 3000 sg33 Tryz.f13 an33 = some ir33 := by kernel_rfl
def an34 : Ann := .z
def ir34 : IR :=
 (.call 42 1 false [] [(.v 0)]
 (.op (.un .not) [(.v 2)]
 (.ite (.v 3)
  (.ret [(.c (.int .i64 0)), (.c (.str [])), (.c (.sl [])), (.c (.int .i64 1))])
 (.call 49 3 false [] [(.v 0), (.v 1)]
 (.ret [(.v 4), (.v 5), (.v 6), (.c (.int .i64 0))])))))
theorem rd34 : readFn T SG sigs 3000 sg34 Tryz.f37 an34 = some ir34 := by kernel_rfl
def an35 : Ann := (.s none .z (.s none .z (.s none .z (.s none (.s none .z (.b (.l ⟨1, [(1, .junk), (4, .junk), (5, .junk), (6, .junk), (9, .junk), (10, .junk), (11, .junk), (12, .junk), (13, .junk), (14, .junk), (15, .junk), (17, .junk), (20, (.atm (.v 0)))], [], 1, []⟩ .z))) .z))))
def ir35p0 : IR :=
 (.op (.bin .lss false) [(.v 10), (.v 9)]
 (.ite (.v 11)
  (.op (.row 1) [(.v 8), (.v 10)]
  (.call 52 1 false [] [(.v 0), (.v 12)]
  (.op (.un .not) [(.v 13)]
  (.ite (.v 14)
   (.ret [(.c (.int .u64 0)), (.c (.int .i64 6))])
  (.op (.bin .add false) [(.v 10), (.c (.int .i64 1))]
  (.jump 0 [(.v 15)]))))))
 (.call 53 1 false [] [(.v 0), (.v 1), (.v 2), (.v 3)]
 (.call 54 1 false [] [(.v 0)]
 (.op (.bin .and false) [(.v 12), (.v 13)]
 (.ret [(.v 14), (.c (.int .i64 0))]))))))
def ir35 : IR :=
 (.call 39 1 false [] [(.v 0)]
 (.op (.un .not) [(.v 4)]
 (.ite (.v 5)
  (.ret [(.c (.int .u64 0)), (.c (.int .i64 1))])
 (.call 50 1 false [] [(.v 1), (.v 2), (.v 3)]
 (.op (.bin .neq false) [(.v 6), (.c (.int .i64 0))]
 (.ite (.v 7)
  (.ret [(.c (.int .u64 0)), (.v 6)])
 (.call 51 1 false [] [(.v 1), (.v 2), (.v 3)]
 (.op .lenL [(.v 8)]
 (.loop 1 [(.c (.int .i64 0))] ir35p0)))))))))
theorem rd35 : readFn T SG sigs 3000 sg35 Tryz.f35 an35 = some ir35 := by kernel_rfl
def an36 : Ann := (.s none .z (.s none (.s none .z (.b (.l ⟨1, [(0, .junk), (2, .junk), (4, .junk), (7, .junk), (10, (.atm (.v 0)))], [], 1, []⟩ .z))) .z))
def ir36p0 : IR :=
 (.op (.bin .lss false) [(.v 5), (.v 4)]
 (.ite (.v 6)
  (.op (.row 1) [(.v 3), (.v 5)]
  (.op (.bin .and false) [(.v 7), (.v 2)]
  (.op (.bin .neq false) [(.v 8), (.c (.int .u64 0))]
  (.ite (.v 9)
   (.op (.bin .and false) [(.v 7), (.v 2)]
   (.ret [(.v 10)]))
  (.op (.bin .add false) [(.v 5), (.c (.int .i64 1))]
  (.jump 0 [(.v 10)]))))))
 (.ret [(.c (.int .u64 0))])))
def ir36 : IR :=
 (.call 55 1 false [] [(.v 0), (.v 1)]
 (.op .lenL [(.v 3)]
 (.loop 1 [(.c (.int .i64 0))] ir36p0)))
theorem rd36 : readFn T SG sigs 3000 sg36 Tryz.f36 an36 = some ir36 := by kernel_rfl
def an37 : Ann := (.s none .z (.s none .z (.s none .z (.s none .z (.s none (.s none .z (.b (.l ⟨1, [(1, .junk), (4, .junk), (5, .junk), (6, .junk), (8, (.atm (.v 0))), (11, .junk), (12, .junk), (13, .junk), (14, .junk), (15, .junk), (16, .junk), (17, .junk), (19, .junk), (20, .junk)], [], 1, []⟩ .z))) (.s none .z (.s none (.s none .z (.b (.l ⟨2, [(7, .junk), (8, .junk), (9, (.atm (.v 0))), (10, (.atm (.v 1))), (21, .junk), (22, .junk), (23, .junk), (24, .junk)], [], 1, []⟩ (.s none .z (.s (some ⟨1, [(9, (.atm (.v 0))), (34, .junk), (35, .junk), (36, .junk), (37, .junk)], [], 1, []⟩) .z .z))))) .z)))))))
def ir37p0 : IR :=
 (.op (.bin .add false) [(.v 13), (.c (.int .i64 1))]
 (.jump 1 [(.v 16), (.v 17)]))
def ir37p1 : IR :=
 (.call 48 1 false [] [(.v 0)]
 (.op (.bin .lss false) [(.v 13), (.v 14)]
 (.ite (.v 15)
  (.letj 1
   (.call 59 1 false [] [(.v 0), (.v 13)]
   (.call 60 1 false [] [(.v 1), (.v 2), (.v 3), (.v 16)]
   (.ite (.v 17)
    (.op (.conv .u64) [(.v 13)]
    (.op (.bin .shl false) [(.c (.int .u64 1)), (.v 18)]
    (.op (.bin .or false) [(.v 12), (.v 19)]
    (.jump 2 [(.v 20)]))))
   (.jump 2 [(.v 12)]))))
  ir37p0)
 (.ret [(.v 12), (.c (.int .i64 0))]))))
def ir37p2 : IR :=
 (.op .lenL [(.v 8)]
 (.op (.bin .lss false) [(.v 9), (.v 10)]
 (.ite (.v 11)
  (.op (.row 1) [(.v 8), (.v 9)]
  (.call 58 1 false [] [(.v 0), (.v 12)]
  (.op (.bin .lss false) [(.v 13), (.c (.int .i64 0))]
  (.ite (.v 14)
   (.ret [(.c (.int .u64 0)), (.c (.int .i64 6))])
  (.op (.bin .add false) [(.v 9), (.c (.int .i64 1))]
  (.jump 0 [(.v 15)]))))))
 (.loop 2 [(.c (.int .u64 0)), (.c (.int .i64 0))] ir37p1))))
def ir37 : IR :=
 (.call 42 1 false [] [(.v 0)]
 (.op (.un .not) [(.v 4)]
 (.ite (.v 5)
  (.ret [(.c (.int .u64 0)), (.c (.int .i64 1))])
 (.call 56 1 false [] [(.v 1), (.v 2), (.v 3)]
 (.op (.bin .neq false) [(.v 6), (.c (.int .i64 0))]
 (.ite (.v 7)
  (.ret [(.c (.int .u64 0)), (.v 6)])
 (.call 57 1 false [] [(.v 1), (.v 2), (.v 3)]
 (.loop 1 [(.c (.int .i64 0))] ir37p2))))))))
theorem rd37 : readFn T SG sigs 3000 sg37 Tryz.f50 an37 = some ir37 := by kernel_rfl
def an38 : Ann := (.s none .z (.s none .z (.s none (.s none .z (.b (.l ⟨1, [(0, .junk), (4, .junk), (5, (.atm (.v 0))), (7, .junk), (8, .junk), (9, .junk)], [], 1, []⟩ .z))) .z)))
def ir38p0 : IR :=
 (.call 62 1 false [] [(.v 0), (.v 1)]
 (.op (.bin .leq false) [(.v 5), (.v 6)]
 (.ite (.v 7)
  (.call 63 1 false [] [(.v 0), (.v 1), (.v 5), (.v 5)]
  (.op (.bin .and false) [(.v 8), (.v 2)]
  (.op (.bin .neq false) [(.v 9), (.c (.int .u64 0))]
  (.ite (.v 10)
   (.ret [(.v 9)])
  (.op (.bin .add false) [(.v 5), (.c (.int .i64 1))]
  (.jump 0 [(.v 11)]))))))
 (.ret [(.c (.int .u64 0))]))))
def ir38 : IR :=
 (.call 61 1 false [] [(.v 0), (.v 1)]
 (.op (.bin .neq false) [(.v 3), (.c (.int .i64 0))]
 (.ite (.v 4)
  (.ret [(.c (.int .u64 0))])
 (.loop 1 [(.c (.int .i64 0))] ir38p0))))
theorem rd38 : readFn T SG sigs 3000 sg38 Tryz.f51 an38 = some ir38 := by kernel_rfl
def an39 : Ann := (.s none .z (.s none .z (.s none (.s none .z (.b (.l ⟨1, [(2, .junk), (5, .junk), (6, .junk), (7, .junk), (10, (.atm (.v 0)))], [], 0, []⟩ (.s none .z (.s none .z (.s none (.b (.s none .z (.s (some ⟨1, [(3, .junk), (4, .junk), (11, .junk), (12, .junk), (13, .junk), (14, .junk), (30, (.atm (.v 0)))], [], 0, []⟩) .z .z))) .z)))))) .z)))
def ir39p0 : IR :=
 (.ite (.v 7)
  (.ret [(.c (.bool false))])
 (.op (.bin .add false) [(.v 4), (.c (.int .i64 1))]
 (.jump 0 [(.v 8)])))
def ir39p1 : IR :=
 (.op (.bin .lss false) [(.v 4), (.v 3)]
 (.ite (.v 5)
  (.op (.row 1) [(.v 0), (.v 4)]
  (.letj 1
   (.call 64 1 false [] [(.v 6)]
   (.op (.un .not) [(.v 7)]
   (.ite (.v 8)
    (.jump 1 [(.c (.bool true))])
   (.op (.bin .gtr false) [(.v 4), (.c (.int .i64 0))]
   (.ite (.v 9)
    (.op (.bin .sub false) [(.v 4), (.c (.int .i64 1))]
    (.op (.row 1) [(.v 0), (.v 10)]
    (.op (.bin .geq false) [(.v 11), (.v 6)]
    (.jump 1 [(.v 12)]))))
   (.jump 1 [(.c (.bool false))]))))))
  ir39p0))
 (.ret [(.c (.bool true))])))
def ir39 : IR :=
 (.op .lenL [(.v 0)]
 (.op (.bin .gtr false) [(.v 1), (.c (.int .i64 6))]
 (.ite (.v 2)
  (.ret [(.c (.bool false))])
 (.op .lenL [(.v 0)]
 (.loop 1 [(.c (.int .i64 0))] ir39p1)))))
theorem rd39 : readFn T SG sigs 3000 sg39 Tryz.f53 an39 = some ir39 := by kernel_rfl
def an40 : Ann := .z
def ir40 : IR :=
 (.call 65 1 false [] [(.v 0), (.v 1)]
 (.op (.bin .geq false) [(.v 2), (.c (.int .i64 0))]
 (.ret [(.v 3)])))
theorem rd40 : readFn T SG sigs 3000 sg40 Tryz.f61 an40 = some ir40 := by kernel_rfl
def an41 : Ann := (.s none .z (.s none .z (.s none (.s none .z (.b (.l ⟨2, [(0, .junk), (1, .junk), (8, .junk), (9, (.atm (.v 0))), (13, .junk), (14, .junk), (17, (.atm (.v 1)))], [], 0, []⟩ (.s none .z (.s none .z (.s none (.b (.s none .z (.s none .z (.s (some ⟨1, [(11, .junk), (12, (.atm (.v 0))), (18, .junk), (19, .junk), (20, .junk), (21, .junk), (22, .junk), (23, .junk)], [], 0, []⟩) .z .z)))) .z)))))) .z)))
def ir41p0 : IR :=
 (.op .min [(.v 6), (.v 11)]
 (.op (.bin .add false) [(.v 7), (.c (.int .i64 1))]
 (.jump 0 [(.v 12), (.v 13)])))
def ir41p1 : IR :=
 (.op (.bin .lss false) [(.v 7), (.v 5)]
 (.ite (.v 8)
  (.op (.row 1) [(.v 4), (.v 7)]
  (.call 67 1 false [] [(.v 9), (.v 2)]
  (.letj 1
   (.op (.bin .eql false) [(.v 3), (.c (.int .i64 4))]
   (.ite (.v 11)
    (.op .min [(.v 10), (.c (.int .i64 1))]
    (.jump 1 [(.v 12)]))
   (.jump 1 [(.v 10)])))
  ir41p0)))
 (.ret [(.v 6)])))
def ir41 : IR :=
 (.call 66 1 false [] [(.v 0), (.v 1)]
 (.op .lenL [(.v 4)]
 (.loop 2 [(.c (.int .i64 7)), (.c (.int .i64 0))] ir41p1)))
theorem rd41 : readFn T SG sigs 3000 sg41 Tryz.f62 an41 = some ir41 := by kernel_rfl
def an42 : Ann := (.s none .z (.s none (.s none .z (.b (.l ⟨1, [(2, .junk), (3, (.atm (.v 0)))], [], 0, []⟩ (.s none .z (.s none (.b (.s (some ⟨1, [(4, .junk), (5, .junk), (6, .junk), (7, .junk), (31, (.atm (.v 0)))], [], 0, []⟩) .z .z)) .z))))) .z))
def ir42p0 : IR :=
 (.ite (.v 4)
  (.ret [(.c (.bool false))])
 (.op (.bin .add false) [(.v 1), (.c (.int .i64 1))]
 (.jump 0 [(.v 5)])))
def ir42p1 : IR :=
 (.op .lenL [(.v 0)]
 (.op (.bin .lss false) [(.v 1), (.v 2)]
 (.ite (.v 3)
  (.letj 1
   (.op (.row 1) [(.v 0), (.v 1)]
   (.call 68 1 false [] [(.v 4)]
   (.op (.un .not) [(.v 5)]
   (.ite (.v 6)
    (.jump 1 [(.c (.bool true))])
   (.op (.bin .gtr false) [(.v 1), (.c (.int .i64 0))]
   (.ite (.v 7)
    (.op (.row 1) [(.v 0), (.v 1)]
    (.op (.bin .sub false) [(.v 1), (.c (.int .i64 1))]
    (.op (.row 1) [(.v 0), (.v 9)]
    (.op (.bin .leq false) [(.v 8), (.v 10)]
    (.jump 1 [(.v 11)])))))
   (.jump 1 [(.c (.bool false))])))))))
  ir42p0)
 (.op .lenL [(.v 0)]
 (.op (.bin .leq false) [(.v 4), (.c (.int .i64 6))]
 (.ret [(.v 5)]))))))
def ir42 : IR :=
 (.loop 1 [(.c (.int .i64 0))] ir42p1)
theorem rd42 : readFn T SG sigs 3000 sg42 Tryz.f32 an42 = some ir42 := by kernel_rfl
def an43 : Ann := .z
def ir43 : IR :=
 (.op (.conv .u64) [(.v 1)]
 (.op (.bin .shr false) [(.v 0), (.v 2)]
 (.op (.bin .and false) [(.v 3), (.c (.int .u64 1))]
 (.op (.bin .eql false) [(.v 4), (.c (.int .u64 1))]
 (.ret [(.v 5)])))))
theorem rd43 : readFn T SG sigs 3000 sg43 Tryz.f30 an43 = some ir43 := by kernel_rfl
def an44 : Ann := (.s none .z (.s none .z (.s none (.s none .z (.b (.l ⟨2, [(4, .junk), (5, (.atm (.v 0))), (6, (.atm (.v 1)))], [], 0, []⟩ (.s none .z (.s (some ⟨1, [(5, (.atm (.v 0))), (7, .junk), (8, .junk)], [], 0, []⟩) .z .z))))) .z)))
def ir44p0 : IR :=
 (.op (.bin .add false) [(.v 3), (.c (.int .i64 1))]
 (.jump 0 [(.v 5), (.v 6)]))
def ir44p1 : IR :=
 (.op (.bin .lss false) [(.v 3), (.c (.int .i64 6))]
 (.ite (.v 4)
  (.letj 1
   (.op (.conv .u64) [(.v 3)]
   (.op (.bin .shr false) [(.v 0), (.v 5)]
   (.op (.bin .and false) [(.v 6), (.c (.int .i64 1))]
   (.op (.conv .u64) [(.v 3)]
   (.op (.bin .shr false) [(.v 1), (.v 8)]
   (.op (.bin .and false) [(.v 9), (.c (.int .i64 1))]
   (.op (.bin .neq false) [(.v 7), (.v 10)]
   (.ite (.v 11)
    (.op (.bin .add false) [(.v 2), (.c (.int .i64 1))]
    (.jump 1 [(.v 12)]))
   (.jump 1 [(.v 2)])))))))))
  ir44p0)
 (.ret [(.v 2)])))
def ir44 : IR :=
 (.loop 2 [(.c (.int .i64 0)), (.c (.int .i64 0))] ir44p1)
theorem rd44 : readFn T SG sigs 3000 sg44 Tryz.f31 an44 = some ir44 := by kernel_rfl
def an45 : Ann := (.s none .z (.s none .z (.s none .z (.s none .z (.s none (.s none .z (.b (.l ⟨2, [(4, .junk), (5, (.atm (.v 0))), (8, .junk), (9, .junk), (10, .junk), (11, .junk), (14, (.atm (.v 1)))], [], 1, []⟩ (.s none .z (.s none .z (.s (some ⟨1, [(5, (.atm (.v 0))), (15, .junk)], [], 1, []⟩) .z .z)))))) .z)))))
def ir45p0 : IR :=
 (.op (.bin .add false) [(.v 6), (.c (.int .i64 1))]
 (.jump 0 [(.v 8), (.v 9)]))
def ir45p1 : IR :=
 (.op (.bin .lss false) [(.v 6), (.v 4)]
 (.ite (.v 7)
  (.letj 1
   (.op .chk [(.v 3), (.v 6)]
   (.op (.get 0 1) [(.v 3), (.v 6)]
   (.op (.bin .eql false) [(.v 0), (.c (.int .i64 3))]
   (.ite (.v 9)
    (.op .max [(.v 5), (.v 8)]
    (.jump 1 [(.v 10)]))
   (.op (.bin .eql false) [(.v 0), (.c (.int .i64 2))]
   (.ite (.v 10)
    (.op (.bin .mul false) [(.v 5), (.c (.int .i64 7))]
    (.op .chk [(.v 3), (.v 6)]
    (.op (.get 0 1) [(.v 3), (.v 6)]
    (.op (.bin .add false) [(.v 11), (.v 12)]
    (.jump 1 [(.v 13)])))))
   (.op (.bin .add false) [(.v 5), (.v 8)]
   (.jump 1 [(.v 11)]))))))))
  ir45p0)
 (.ret [(.v 5), (.v 3)])))
def ir45 : IR :=
 (.call 69 1 false [0] [(.v 1)]
 (.call 70 1 false [0] [(.v 2)]
 (.op .lenL [(.v 3)]
 (.loop 2 [(.c (.int .i64 0)), (.c (.int .i64 0))] ir45p1))))
theorem rd45 : readFn T SG sigs 3000 sg45 Tryz.f63 an45 = some ir45 := by kernel_rfl
def an46 : Ann := (.s none .z (.s none (.s (some ⟨1, [(5, .junk), (22, (.atm (.v 0)))], [], 1, []⟩) .z .z) (.s none .z (.s none .z (.s none (.s none .z (.b (.l ⟨2, [(0, .junk), (1, .junk), (22, .junk), (24, .junk), (25, .junk), (27, .junk), (28, .junk), (29, .junk), (30, .junk), (33, (.atm (.v 0)))], [(5, ⟨false, true, 3, 1, (.v 1), []⟩)], 6, [⟨some (4, 0, 1), 0, 3, 1⟩]⟩ .z))) .z)))))
def ir46p0 : IR :=
 (.op (.bin .lss false) [(.v 10), (.v 9)]
 (.ite (.v 12)
  (.op (.row 1) [(.v 1), (.v 10)]
  (.call 75 2 false [] [(.v 6), (.v 13)]
  (.op (.mk 1 1) [(.v 14)]
  (.op (.app 1 8) [(.v 11), (.v 16)]
  (.op (.bin .add false) [(.v 10), (.c (.int .i64 1))]
  (.jump 0 [(.v 18), (.v 17)]))))))
 (.ret [(.v 8), (.v 11), (.c (.int .i64 0))])))
def ir46p1 : IR :=
 (.ite (.v 2)
  (.ret [(.c (.sl [])), (.c (.sl [])), (.c (.int .i64 1))])
 (.call 71 1 false [] [(.v 1)]
 (.call 72 2 false [0] [(.v 3)]
 (.call 73 2 false [1] [(.v 4)]
 (.call 74 1 false [0] [(.v 0)]
 (.op .lenL [(.v 1)]
 (.loop 2 [(.c (.int .i64 0)), (.c (.sl []))] ir46p0)))))))
def ir46 : IR :=
 (.letj 1
  (.call 39 1 false [] [(.v 0)]
  (.op (.un .not) [(.v 2)]
  (.ite (.v 3)
   (.jump 0 [(.c (.bool true))])
  (.op .lenL [(.v 1)]
  (.op .lenL [(.v 0)]
  (.op (.bin .shl false) [(.c (.int .i64 1)), (.v 5)]
  (.op (.bin .neq false) [(.v 4), (.v 6)]
  (.jump 0 [(.v 7)]))))))))
 ir46p1)
theorem rd46 : readFn T SG sigs 3000 sg46 Tryz.f64 an46 = some ir46 := by kernel_rfl
def an47 : Ann := (.s none .z (.s none (.s none .z (.b (.l ⟨1, [(4, .junk), (6, .junk), (8, (.atm (.v 0)))], [], 0, []⟩ .z))) .z))
def ir47p0 : IR :=
 (.op (.bin .lss false) [(.v 3), (.v 2)]
 (.ite (.v 4)
  (.op (.row 1) [(.v 0), (.v 3)]
  (.op (.bin .eql false) [(.v 5), (.v 1)]
  (.ite (.v 6)
   (.ret [(.c (.bool true))])
  (.op (.bin .add false) [(.v 3), (.c (.int .i64 1))]
  (.jump 0 [(.v 7)])))))
 (.ret [(.c (.bool false))])))
def ir47 : IR :=
 (.op .lenL [(.v 0)]
 (.loop 1 [(.c (.int .i64 0))] ir47p0))
theorem rd47 : readFn T SG sigs 3000 sg47 Tryz.f65 an47 = some ir47 := by kernel_rfl
def an48 : Ann := .z
def ir48 : IR :=
 (.op .lenL [(.v 0)]
 (.op (.conv .u64) [(.v 1)]
 (.op (.bin .shl false) [(.c (.int .i64 1)), (.v 2)]
 (.ret [(.v 3)]))))
theorem rd48 : readFn T SG sigs 3000 sg48 Tryz.f33 an48 = some ir48 := by kernel_rfl
def an49 : Ann := (.s none .z (.s none .z (.s none .z (.s none .z (.s none .z (.s none .z (.s none (.b (.s none .z (.c .z (.s (some ⟨1, [(0, .junk), (1, .junk), (9, .junk), (10, .junk), (11, .junk), (12, .junk), (13, .junk), (15, .junk), (16, .junk), (17, .junk), (18, .junk), (19, .junk), (20, .junk), (21, .junk), (23, .junk), (24, .junk), (25, .junk), (26, .junk), (27, .junk), (28, .junk), (29, .junk), (30, .junk), (31, .junk), (32, .junk), (33, .junk), (34, .junk), (35, .junk), (36, .junk), (37, .junk), (38, .junk), (39, .junk), (40, .junk), (41, .junk), (42, .junk), (43, .junk), (44, .junk), (45, .junk), (47, (.atm (.v 0)))], [], 18, []⟩) .z (.c .z (.s none .z (.c .z (.s (some ⟨1, [(47, .junk), (57, .junk), (58, .junk), (59, .junk), (60, .junk), (64, (.atm (.v 0)))], [], 18, []⟩) .z .z)))))))) .z)))))))
def ir49p0 : IR :=
 (.ite (.v 26)
  (.ret [(.c (.int .i64 4)), (.c (.str [])), (.v 10)])
 (.op (.bin .eql false) [(.v 14), (.c (.int .i64 2))]
 (.ite (.v 27)
  (.call 78 3 false [] [(.c (.int .i64 5)), (.c (.int .i64 4)), (.c (.str [])), (.v 10), (.v 20), (.v 21), (.v 22)]
  (.ret [(.v 28), (.v 29), (.v 30)]))
 (.op (.bin .eql false) [(.v 20), (.c (.int .i64 1))]
 (.ite (.v 28)
  (.call 78 3 false [] [(.c (.int .i64 6)), (.c (.int .i64 4)), (.c (.str [])), (.v 10), (.v 14), (.v 15), (.v 16)]
  (.ret [(.v 29), (.v 30), (.v 31)]))
 (.op (.bin .eql false) [(.v 20), (.c (.int .i64 2))]
 (.ite (.v 29)
  (.call 78 3 false [] [(.c (.int .i64 5)), (.c (.int .i64 3)), (.v 9), (.c (.sl [])), (.v 14), (.v 15), (.v 16)]
  (.ret [(.v 30), (.v 31), (.v 32)]))
 (.call 78 3 false [] [(.c (.int .i64 5)), (.c (.int .i64 3)), (.v 9), (.c (.sl [])), (.v 14), (.v 15), (.v 16)]
 (.call 78 3 false [] [(.c (.int .i64 5)), (.c (.int .i64 4)), (.c (.str [])), (.v 10), (.v 20), (.v 21), (.v 22)]
 (.call 78 3 false [] [(.c (.int .i64 6)), (.v 30), (.v 31), (.v 32), (.v 33), (.v 34), (.v 35)]
 (.ret [(.v 36), (.v 37), (.v 38)])))))))))))
def ir49p1 : IR :=
 (.ite (.v 24)
  (.ret [(.c (.int .i64 3)), (.v 9), (.c (.sl []))])
 (.op (.bin .eql false) [(.v 14), (.c (.int .i64 1))]
 (.ite (.v 25)
  (.call 78 3 false [] [(.c (.int .i64 6)), (.c (.int .i64 3)), (.v 9), (.c (.sl [])), (.v 20), (.v 21), (.v 22)]
  (.ret [(.v 26), (.v 27), (.v 28)]))
 (.letj 1
  (.op (.bin .eql false) [(.v 14), (.c (.int .i64 2))]
  (.ite (.v 26)
   (.op (.bin .eql false) [(.v 20), (.c (.int .i64 1))]
   (.jump 0 [(.v 27)]))
  (.jump 0 [(.c (.bool false))])))
 ir49p0))))
def ir49 : IR :=
 (.call 33 1 false [] [(.v 0)]
 (.op (.bin .and false) [(.v 1), (.v 2)]
 (.op (.bin .eql false) [(.v 3), (.c (.int .u64 0))]
 (.ite (.v 4)
  (.ret [(.c (.int .i64 2)), (.c (.str [])), (.c (.sl []))])
 (.call 33 1 false [] [(.v 0)]
 (.op (.bin .and false) [(.v 1), (.v 5)]
 (.call 33 1 false [] [(.v 0)]
 (.op (.bin .eql false) [(.v 6), (.v 7)]
 (.ite (.v 8)
  (.ret [(.c (.int .i64 1)), (.c (.str [])), (.c (.sl []))])
 (.op (.row 1) [(.v 0), (.c (.int .i64 0))]
 (.op (.mk 3 1) [(.c (.int .i64 3)), (.v 9), (.c (.sl []))]
 (.op .lenL [(.v 0)]
 (.op (.subL 1) [(.v 0), (.c (.int .i64 1)), (.v 11)]
 (.call 76 1 false [] [(.v 0), (.v 1), (.c (.int .i64 1))]
 (.call 49 3 false [] [(.v 12), (.v 13)]
 (.op .lenL [(.v 0)]
 (.op (.subL 1) [(.v 0), (.c (.int .i64 1)), (.v 17)]
 (.call 76 1 false [] [(.v 0), (.v 1), (.c (.int .i64 0))]
 (.call 49 3 false [] [(.v 18), (.v 19)]
 (.call 77 1 false [] [(.v 14), (.v 15), (.v 16), (.v 20), (.v 21), (.v 22)]
 (.ite (.v 23)
  (.ret [(.v 14), (.v 15), (.v 16)])
 (.letj 1
  (.op (.bin .eql false) [(.v 14), (.c (.int .i64 1))]
  (.ite (.v 24)
   (.op (.bin .eql false) [(.v 20), (.c (.int .i64 2))]
   (.jump 0 [(.v 25)]))
  (.jump 0 [(.c (.bool false))])))
 ir49p1))))))))))))))))))))))
theorem rd49 : readFn T SG sigs 3000 sg49 Tryz.f60 an49 = some ir49 := by kernel_rfl
def an50 : Ann := (.s none .z (.s none (.b (.s (some ⟨1, [(0, .junk), (2, .junk), (3, (.atm (.v 0)))], [], 1, []⟩) .z .z)) .z))
def ir50p0 : IR :=
 (.ite (.v 3)
  (.ret [(.c (.int .i64 2))])
 (.call 81 1 false [] [(.v 0), (.v 1), (.v 2)]
 (.op (.un .not) [(.v 4)]
 (.ite (.v 5)
  (.ret [(.c (.int .i64 4))])
 (.call 82 1 false [] [(.v 0), (.v 1), (.v 2)]
 (.op (.un .not) [(.v 6)]
 (.ite (.v 7)
  (.ret [(.c (.int .i64 3))])
 (.ret [(.c (.int .i64 0))]))))))))
def ir50 : IR :=
 (.letj 1
  (.call 79 1 false [] [(.v 0), (.v 1), (.v 2)]
  (.op (.bin .gtr false) [(.v 3), (.c (.int .i64 600))]
  (.ite (.v 4)
   (.jump 0 [(.c (.bool true))])
  (.call 80 1 false [] [(.v 0), (.v 1), (.v 2)]
  (.op (.bin .gtr false) [(.v 5), (.c (.int .i64 20))]
  (.jump 0 [(.v 6)]))))))
 ir50p0)
theorem rd50 : readFn T SG sigs 3000 sg50 Tryz.f54 an50 = some ir50 := by kernel_rfl
def an52 : Ann := .z
def ir52 : IR :=
 (.call 83 1 false [] [(.v 0), (.v 1)]
 (.op (.bin .geq false) [(.v 2), (.c (.int .i64 0))]
 (.ret [(.v 3)])))
theorem rd52 : readFn T SG sigs 3000 sg52 Tryz.f56 an52 = some ir52 := by kernel_rfl
def an53 : Ann := (.s none .z (.s none (.s none .z (.b (.s none .z (.c .z (.s none .z (.c .z (.s none .z (.c .z (.s none .z (.c .z (.s none .z (.c .z (.s none .z (.c (.s none .z (.s none (.s none .z (.b (.l ⟨2, [(1, .junk), (3, .junk), (4, .junk), (5, (.atm (.v 0))), (11, .junk), (12, .junk), (13, .junk), (14, .junk), (15, .junk), (16, .junk), (22, .junk), (23, .junk), (31, .junk), (32, .junk), (47, .junk), (48, .junk), (63, .junk), (64, .junk), (65, .junk), (68, (.atm (.v 1)))], [], 1, []⟩ .z))) .z)) .z)))))))))))))) (.s none .z (.s none (.s none .z (.b (.l ⟨2, [(1, .junk), (3, .junk), (4, .junk), (8, (.atm (.v 0))), (11, .junk), (12, .junk), (13, .junk), (14, .junk), (15, .junk), (16, .junk), (22, .junk), (23, .junk), (31, .junk), (32, .junk), (47, .junk), (48, .junk), (63, .junk), (64, .junk), (79, .junk), (82, (.atm (.v 1)))], [], 1, []⟩ .z))) .z))))
def ir53p0 : IR :=
 (.op (.bin .lss false) [(.v 12), (.v 10)]
 (.ite (.v 13)
  (.op (.row 3) [(.v 3), (.v 12)]
  (.call 53 1 false [] [(.v 0), (.v 14), (.v 15), (.v 16)]
  (.op (.bin .and false) [(.v 11), (.v 17)]
  (.op (.bin .add false) [(.v 12), (.c (.int .i64 1))]
  (.jump 0 [(.v 18), (.v 19)])))))
 (.ret [(.v 11)])))
def ir53p1 : IR :=
 (.op (.bin .lss false) [(.v 12), (.v 10)]
 (.ite (.v 13)
  (.op (.row 3) [(.v 3), (.v 12)]
  (.call 53 1 false [] [(.v 0), (.v 14), (.v 15), (.v 16)]
  (.op (.bin .or false) [(.v 11), (.v 17)]
  (.op (.bin .add false) [(.v 12), (.c (.int .i64 1))]
  (.jump 0 [(.v 18), (.v 19)])))))
 (.ret [(.v 11)])))
def ir53 : IR :=
 (.op (.bin .eql false) [(.v 1), (.c (.int .i64 1))]
 (.ite (.v 4)
  (.ret [(.c (.int .u64 18446744073709551615))])
 (.op (.bin .eql false) [(.v 1), (.c (.int .i64 3))]
 (.ite (.v 5)
  (.call 83 1 false [] [(.v 0), (.v 2)]
  (.call 84 1 false [] [(.v 6)]
  (.ret [(.v 7)])))
 (.op (.bin .eql false) [(.v 1), (.c (.int .i64 4))]
 (.ite (.v 6)
  (.op (.row 3) [(.v 3), (.c (.int .i64 0))]
  (.call 53 1 false [] [(.v 0), (.v 7), (.v 8), (.v 9)]
  (.op (.un .xor) [(.v 10)]
  (.ret [(.v 11)]))))
 (.op (.bin .eql false) [(.v 1), (.c (.int .i64 7))]
 (.ite (.v 7)
  (.op (.row 3) [(.v 3), (.c (.int .i64 0))]
  (.call 53 1 false [] [(.v 0), (.v 8), (.v 9), (.v 10)]
  (.op (.un .xor) [(.v 11)]
  (.op (.row 3) [(.v 3), (.c (.int .i64 1))]
  (.call 53 1 false [] [(.v 0), (.v 13), (.v 14), (.v 15)]
  (.op (.bin .or false) [(.v 12), (.v 16)]
  (.ret [(.v 17)])))))))
 (.op (.bin .eql false) [(.v 1), (.c (.int .i64 8))]
 (.ite (.v 8)
  (.op (.row 3) [(.v 3), (.c (.int .i64 0))]
  (.call 53 1 false [] [(.v 0), (.v 9), (.v 10), (.v 11)]
  (.op (.row 3) [(.v 3), (.c (.int .i64 1))]
  (.call 53 1 false [] [(.v 0), (.v 13), (.v 14), (.v 15)]
  (.op (.bin .xor false) [(.v 12), (.v 16)]
  (.op (.un .xor) [(.v 17)]
  (.ret [(.v 18)])))))))
 (.op (.bin .eql false) [(.v 1), (.c (.int .i64 5))]
 (.ite (.v 9)
  (.op .lenL [(.v 3)]
  (.loop 2 [(.c (.int .u64 18446744073709551615)), (.c (.int .i64 0))] ir53p0))
 (.op .lenL [(.v 3)]
 (.loop 2 [(.c (.int .u64 0)), (.c (.int .i64 0))] ir53p1))))))))))))))
theorem rd53 : readFn T SG sigs 3000 sg53 Tryz.f57 an53 = some ir53 := by kernel_rfl
def an54 : Ann := .z
def ir54 : IR :=
 (.call 39 1 false [] [(.v 0)]
 (.op (.un .not) [(.v 1)]
 (.ite (.v 2)
  (.ret [(.c (.int .u64 0))])
 (.op .lenL [(.v 0)]
 (.call 85 1 false [] [(.v 3)]
 (.ret [(.v 4)]))))))
theorem rd54 : readFn T SG sigs 3000 sg54 Tryz.f58 an54 = some ir54 := by kernel_rfl
def an55 : Ann := (.s none .z (.s none .z (.s none .z (.s none (.s none .z (.b (.l ⟨2, [(0, .junk), (1, .junk), (2, .junk), (6, .junk), (7, .junk), (8, .junk), (9, .junk), (10, .junk), (11, .junk), (12, .junk), (13, .junk), (14, .junk), (17, (.atm (.v 0)))], [(1, ⟨false, true, 32, 1, (.v 1), []⟩)], 2, []⟩ .z))) .z))))
def ir55p0 : IR :=
 (.op (.bin .lss false) [(.v 8), (.v 7)]
 (.ite (.v 10)
  (.op (.row 1) [(.v 1), (.v 8)]
  (.op .chk [(.v 9), (.v 11)]
  (.op (.get 0 1) [(.v 9), (.v 11)]
  (.op (.conv .u64) [(.v 8)]
  (.op (.bin .shl false) [(.c (.int .u64 1)), (.v 13)]
  (.op (.bin .or false) [(.v 12), (.v 14)]
  (.op .chk [(.v 9), (.v 11)]
  (.op (.set 0 1) [(.v 9), (.v 11), (.v 15)]
  (.op (.bin .add false) [(.v 8), (.c (.int .i64 1))]
  (.jump 0 [(.v 17), (.v 16)]))))))))))
 (.ret [(.v 9)])))
def ir55 : IR :=
 (.call 86 1 false [] [(.v 0), (.v 1)]
 (.op (.bin .neq false) [(.v 2), (.c (.int .i64 0))]
 (.ite (.v 3)
  (.ret [(.c (.sl []))])
 (.call 87 1 false [] [(.v 1)]
 (.op (.bin .add false) [(.v 4), (.c (.int .i64 1))]
 (.op (.mkL 8 [(.int .u64 0)]) [(.v 5)]
 (.op .lenL [(.v 1)]
 (.loop 2 [(.c (.int .i64 0)), (.v 6)] ir55p0))))))))
theorem rd55 : readFn T SG sigs 3000 sg55 Tryz.f59 an55 = some ir55 := by kernel_rfl
def an56 : Ann := (.s none .z (.s none (.s (some ⟨1, [(0, .junk), (2, .junk), (10, (.atm (.v 0)))], [], 1, []⟩) .z .z) .z))
def ir56p0 : IR :=
 (.ite (.v 3)
  (.ret [(.c (.int .i64 2))])
 (.call 90 1 false [] [(.v 0), (.v 1), (.v 2)]
 (.op (.un .not) [(.v 4)]
 (.ite (.v 5)
  (.ret [(.c (.int .i64 4))])
 (.call 91 1 false [] [(.v 0), (.v 1), (.v 2)]
 (.op (.un .not) [(.v 6)]
 (.ite (.v 7)
  (.ret [(.c (.int .i64 3))])
 (.ret [(.c (.int .i64 0))]))))))))
def ir56 : IR :=
 (.letj 1
  (.call 88 1 false [] [(.v 0), (.v 1), (.v 2)]
  (.op (.bin .gtr false) [(.v 3), (.c (.int .i64 600))]
  (.ite (.v 4)
   (.jump 0 [(.c (.bool true))])
  (.call 89 1 false [] [(.v 0), (.v 1), (.v 2)]
  (.op (.bin .gtr false) [(.v 5), (.c (.int .i64 20))]
  (.jump 0 [(.v 6)]))))))
 ir56p0)
theorem rd56 : readFn T SG sigs 3000 sg56 Tryz.f66 an56 = some ir56 := by kernel_rfl
def an57 : Ann := .z
def ir57 : IR :=
 (.call 92 1 false [] [(.c (.sl [])), (.v 0), (.v 1), (.v 2)]
 (.ret [(.v 3)]))
theorem rd57 : readFn T SG sigs 3000 sg57 Tryz.f67 an57 = some ir57 := by kernel_rfl
def an58 : Ann := (.s none .z (.s none (.s none .z (.b (.l ⟨1, [(4, .junk), (5, (.atm (.v 0)))], [], 0, []⟩ .z))) .z))
def ir58p0 : IR :=
 (.op .lenL [(.v 0)]
 (.op (.bin .lss false) [(.v 2), (.v 3)]
 (.ite (.v 4)
  (.op (.row 1) [(.v 0), (.v 2)]
  (.op (.bin .eql false) [(.v 5), (.v 1)]
  (.ite (.v 6)
   (.ret [(.v 2)])
  (.op (.bin .add false) [(.v 2), (.c (.int .i64 1))]
  (.jump 0 [(.v 7)])))))
 (.ret [(.c (.int .i64 (-1)))]))))
def ir58 : IR :=
 (.loop 1 [(.c (.int .i64 0))] ir58p0)
theorem rd58 : readFn T SG sigs 3000 sg58 Tryz.f68 an58 = some ir58 := by kernel_rfl
def an59 : Ann := (.s none .z (.s none .z (.s none (.s none .z (.b (.l ⟨2, [(4, .junk), (6, (.atm (.v 0)))], [(0, ⟨false, true, 9, 1, (.v 1), []⟩)], 1, [⟨none, 5, 9, 1⟩]⟩ (.s none .z (.s (some ⟨1, [(7, .junk), (8, .junk), (9, .junk), (10, .junk)], [(0, ⟨false, true, 9, 1, (.v 0), []⟩)], 1, []⟩) .z .z))))) .z)))
def ir59p0 : IR :=
 (.op (.bin .add false) [(.v 2), (.c (.int .i64 1))]
 (.jump 0 [(.v 7), (.v 6)]))
def ir59p1 : IR :=
 (.op .lenL [(.v 0)]
 (.op (.bin .lss false) [(.v 2), (.v 4)]
 (.ite (.v 5)
  (.letj 1
   (.op (.conv .u64) [(.v 2)]
   (.op (.bin .shr false) [(.v 1), (.v 6)]
   (.op (.bin .and false) [(.v 7), (.c (.int .i64 1))]
   (.op (.bin .eql false) [(.v 8), (.c (.int .i64 1))]
   (.ite (.v 9)
    (.op (.row 1) [(.v 0), (.v 2)]
    (.op (.mk 1 1) [(.v 10)]
    (.op (.app 1 16) [(.v 3), (.v 11)]
    (.jump 1 [(.v 12)]))))
   (.jump 1 [(.v 3)]))))))
  ir59p0)
 (.ret [(.v 3)]))))
def ir59 : IR :=
 (.loop 2 [(.c (.int .i64 0)), (.c (.sl []))] ir59p1)
theorem rd59 : readFn T SG sigs 3000 sg59 Tryz.f70 an59 = some ir59 := by kernel_rfl
def an60 : Ann := .z
def ir60 : IR :=
 (.call 90 1 false [] [(.v 0), (.v 1), (.v 2)]
 (.ite (.v 4)
  (.call 91 1 false [] [(.v 0), (.v 1), (.v 2)]
  (.ite (.v 5)
   (.call 93 1 false [] [(.v 0), (.v 1), (.v 2), (.v 3)]
   (.ret [(.v 6)]))
  (.ret [(.c (.bool false))])))
 (.ret [(.c (.bool false))])))
theorem rd60 : readFn T SG sigs 3000 sg60 Tryz.f69 an60 = some ir60 := by kernel_rfl
def an61 : Ann := (.s none .z (.s none (.s (some ⟨1, [(0, .junk), (2, .junk), (20, (.atm (.v 0)))], [], 1, []⟩) .z .z) (.s none .z (.s none (.s none .z (.b (.l ⟨2, [(3, (.atm (.v 0))), (4, (.atm (.v 1))), (20, .junk)], [], 1, []⟩ (.s none .z (.s none (.b (.s none (.s (some ⟨1, [(21, .junk), (22, .junk), (23, .junk), (24, .junk), (25, .junk), (44, (.atm (.v 0)))], [], 1, []⟩) .z .z) .z)) .z))))) (.s none (.s none .z (.b (.l ⟨1, [(4, .junk), (5, (.atm (.v 0))), (21, .junk), (22, .junk), (23, .junk), (24, .junk), (25, .junk)], [], 1, []⟩ .z))) .z)))))
def ir61p0 : IR :=
 (.ite (.v 7)
  (.ret [(.c (.int .i64 8))])
 (.op (.row 1) [(.v 1), (.v 4)]
 (.op .max [(.v 3), (.v 8)]
 (.op (.bin .add false) [(.v 4), (.c (.int .i64 1))]
 (.jump 0 [(.v 9), (.v 10)])))))
def ir61p1 : IR :=
 (.op (.bin .lss false) [(.v 7), (.v 3)]
 (.ite (.v 8)
  (.call 47 1 false [] [(.v 1), (.v 7)]
  (.op (.un .not) [(.v 9)]
  (.ite (.v 10)
   (.ret [(.c (.int .i64 8))])
  (.op (.bin .add false) [(.v 7), (.c (.int .i64 1))]
  (.jump 1 [(.v 11)])))))
 (.ret [(.c (.int .i64 0))])))
def ir61p2 : IR :=
 (.op .lenL [(.v 1)]
 (.op (.bin .lss false) [(.v 4), (.v 5)]
 (.ite (.v 6)
  (.letj 1
   (.op (.row 1) [(.v 1), (.v 4)]
   (.op (.bin .lss false) [(.v 7), (.c (.int .i64 0))]
   (.ite (.v 8)
    (.jump 1 [(.c (.bool true))])
   (.op (.row 1) [(.v 1), (.v 4)]
   (.op .lenL [(.v 1)]
   (.op (.bin .geq false) [(.v 9), (.v 10)]
   (.jump 1 [(.v 11)])))))))
  ir61p0)
 (.loop 1 [(.c (.int .i64 0))] ir61p1))))
def ir61p3 : IR :=
 (.ite (.v 2)
  (.ret [(.c (.int .i64 1))])
 (.loop 2 [(.c (.int .i64 0)), (.c (.int .i64 0))] ir61p2))
def ir61 : IR :=
 (.letj 1
  (.call 42 1 false [] [(.v 0)]
  (.op (.un .not) [(.v 2)]
  (.ite (.v 3)
   (.jump 0 [(.c (.bool true))])
  (.op .lenL [(.v 1)]
  (.op .lenL [(.v 0)]
  (.op (.conv .u64) [(.v 5)]
  (.op (.bin .shl false) [(.c (.int .i64 1)), (.v 6)]
  (.op (.bin .neq false) [(.v 4), (.v 7)]
  (.jump 0 [(.v 8)])))))))))
 ir61p3)
theorem rd61 : readFn T SG sigs 3000 sg61 Tryz.f71 an61 = some ir61 := by kernel_rfl
def an62 : Ann := (.s none .z (.s none .z (.s none (.s none .z (.b (.l ⟨2, [(0, .junk), (2, .junk), (3, (.atm (.v 0))), (4, (.atm (.v 1)))], [], 1, []⟩ .z))) .z)))
def ir62p0 : IR :=
 (.op .lenL [(.v 1)]
 (.op (.bin .lss false) [(.v 3), (.v 4)]
 (.ite (.v 5)
  (.op (.row 1) [(.v 1), (.v 3)]
  (.op .max [(.v 2), (.v 6)]
  (.op (.bin .add false) [(.v 3), (.c (.int .i64 1))]
  (.jump 0 [(.v 7), (.v 8)]))))
 (.ret [(.v 2)]))))
def ir62 : IR :=
 (.loop 2 [(.c (.int .i64 0)), (.c (.int .i64 0))] ir62p0)
theorem rd62 : readFn T SG sigs 3000 sg62 Tryz.f72 an62 = some ir62 := by kernel_rfl
def an63 : Ann := (.s none .z (.s none .z (.s none (.s none .z (.b (.l ⟨2, [(0, .junk), (6, .junk), (7, (.atm (.v 0))), (8, (.atm (.v 1)))], [], 1, []⟩ (.s none .z (.s (some ⟨1, [(7, (.atm (.v 0))), (9, .junk), (10, .junk), (11, .junk), (12, .junk), (13, .junk)], [], 1, []⟩) (.b (.s (some ⟨1, [(9, .junk), (10, .junk), (11, .junk), (12, .junk), (13, .junk), (31, (.atm (.v 0)))], [], 1, []⟩) .z .z)) .z))))) .z)))
def ir63p0 : IR :=
 (.op (.bin .add false) [(.v 5), (.c (.int .i64 1))]
 (.jump 0 [(.v 8), (.v 9)]))
def ir63p1 : IR :=
 (.ite (.v 8)
  (.op (.conv .u64) [(.v 5)]
  (.op (.bin .shl false) [(.c (.int .u64 1)), (.v 9)]
  (.op (.bin .or false) [(.v 4), (.v 10)]
  (.jump 1 [(.v 11)]))))
 (.jump 1 [(.v 4)]))
def ir63p2 : IR :=
 (.op .lenL [(.v 1)]
 (.op (.bin .lss false) [(.v 5), (.v 6)]
 (.ite (.v 7)
  (.letj 1
   (.letj 1
    (.op (.row 1) [(.v 1), (.v 5)]
    (.op (.bin .geq false) [(.v 8), (.v 2)]
    (.ite (.v 9)
     (.op (.row 1) [(.v 1), (.v 5)]
     (.op (.bin .leq false) [(.v 10), (.v 3)]
     (.jump 2 [(.v 11)])))
    (.jump 2 [(.c (.bool false))]))))
   ir63p1)
  ir63p0)
 (.ret [(.v 4)]))))
def ir63 : IR :=
 (.loop 2 [(.c (.int .u64 0)), (.c (.int .i64 0))] ir63p2)
theorem rd63 : readFn T SG sigs 3000 sg63 Tryz.f73 an63 = some ir63 := by kernel_rfl
def an64 : Ann := (.s none .z (.s none (.s (some ⟨1, [(2, .junk), (12, (.atm (.v 0)))], [], 0, []⟩) .z .z) (.s none (.s none .z (.b (.l ⟨1, [(12, .junk), (13, .junk), (15, (.atm (.v 0)))], [], 0, []⟩ (.s none .z (.s none .z (.s (some ⟨0, [(16, .junk)], [], 0, []⟩) (.b (.s none .z (.s none .z (.b (.s (some ⟨1, [(16, .junk), (17, .junk), (18, .junk), (19, .junk), (20, .junk), (21, (.atm (.v 0)))], [], 0, []⟩) .z (.c .z (.s (some ⟨1, [(3, .junk), (4, .junk), (21, .junk), (28, (.atm (.v 0)))], [], 0, []⟩) .z .z))))))) .z)))))) .z)))
def ir64p0 : IR :=
 (.op (.bin .add false) [(.v 3), (.c (.int .i64 1))]
 (.jump 0 [(.v 5)]))
def ir64p1 : IR :=
 (.ite (.v 7)
  (.jump 1 [])
 (.ret [(.c (.bool false))]))
def ir64p2 : IR :=
 (.ite (.v 6)
  (.jump 1 [])
 (.letj 1
  (.op (.bin .gtr false) [(.v 3), (.c (.int .i64 0))]
  (.ite (.v 7)
   (.op (.bin .geq false) [(.v 5), (.c (.int .u8 48))]
   (.ite (.v 8)
    (.op (.bin .leq false) [(.v 5), (.c (.int .u8 57))]
    (.ite (.v 9)
     (.jump 2 [(.c (.bool true))])
    (.op (.bin .eql false) [(.v 5), (.c (.int .u8 95))]
    (.jump 2 [(.v 10)]))))
   (.op (.bin .eql false) [(.v 5), (.c (.int .u8 95))]
   (.jump 2 [(.v 9)]))))
  (.jump 2 [(.c (.bool false))])))
 ir64p1))
def ir64p3 : IR :=
 (.op (.bin .lss false) [(.v 3), (.v 2)]
 (.ite (.v 4)
  (.letj 0
   (.op .idxS [(.v 0), (.v 3)]
   (.letj 1
    (.op (.bin .geq false) [(.v 5), (.c (.int .u8 97))]
    (.ite (.v 6)
     (.op (.bin .leq false) [(.v 5), (.c (.int .u8 122))]
     (.jump 2 [(.v 7)]))
    (.jump 2 [(.c (.bool false))])))
   ir64p2))
  ir64p0)
 (.ret [(.c (.bool true))])))
def ir64p4 : IR :=
 (.ite (.v 1)
  (.ret [(.c (.bool false))])
 (.op .lenS [(.v 0)]
 (.loop 1 [(.c (.int .i64 0))] ir64p3)))
def ir64 : IR :=
 (.letj 1
  (.op .lenS [(.v 0)]
  (.op (.bin .eql false) [(.v 1), (.c (.int .i64 0))]
  (.ite (.v 2)
   (.jump 0 [(.c (.bool true))])
  (.op .lenS [(.v 0)]
  (.op (.bin .gtr false) [(.v 3), (.c (.int .i64 12))]
  (.jump 0 [(.v 4)]))))))
 ir64p4)
theorem rd64 : readFn T SG sigs 3000 sg64 Tryz.f74 an64 = some ir64 := by kernel_rfl
def an65 : Ann := (.s none .z (.s none (.s none .z (.b (.l ⟨1, [(4, .junk), (6, .junk), (8, (.atm (.v 0)))], [], 0, []⟩ .z))) .z))
def ir65p0 : IR :=
 (.op (.bin .lss false) [(.v 3), (.v 2)]
 (.ite (.v 4)
  (.op (.row 1) [(.v 0), (.v 3)]
  (.op (.bin .eql false) [(.v 1), (.v 5)]
  (.ite (.v 6)
   (.ret [(.v 3)])
  (.op (.bin .add false) [(.v 3), (.c (.int .i64 1))]
  (.jump 0 [(.v 7)])))))
 (.ret [(.c (.int .i64 (-1)))])))
def ir65 : IR :=
 (.op .lenL [(.v 0)]
 (.loop 1 [(.c (.int .i64 0))] ir65p0))
theorem rd65 : readFn T SG sigs 3000 sg65 Tryz.f91 an65 = some ir65 := by kernel_rfl
def an66 : Ann := (.s none .z (.s none .z (.s none (.s none .z (.b (.l ⟨2, [(0, .junk), (1, (.atm (.v 0))), (4, .junk), (6, .junk), (7, .junk), (8, .junk), (9, .junk)], [(0, ⟨false, true, 3, 1, (.v 1), []⟩)], 1, [⟨none, 5, 3, 1⟩]⟩ .z))) .z)))
def ir66p0 : IR :=
 (.op (.bin .neq false) [(.v 4), (.c (.int .u64 0))]
 (.ite (.v 6)
  (.call 94 1 false [] [(.v 4)]
  (.op (.mk 1 1) [(.v 7)]
  (.op (.app 1 8) [(.v 5), (.v 8)]
  (.op (.bin .sub false) [(.v 4), (.c (.int .u64 1))]
  (.op (.bin .and false) [(.v 4), (.v 10)]
  (.jump 0 [(.v 11), (.v 9)]))))))
 (.ret [(.v 5)])))
def ir66 : IR :=
 (.call 54 1 false [] [(.v 0)]
 (.op (.bin .and false) [(.v 1), (.v 2)]
 (.loop 2 [(.v 3), (.c (.sl []))] ir66p0)))
theorem rd66 : readFn T SG sigs 3000 sg66 Tryz.f92 an66 = some ir66 := by kernel_rfl
def an67 : Ann := .z
def ir67 : IR :=
 (.call 95 1 false [] [(.v 0), (.v 1)]
 (.call 96 1 false [] [(.v 2)]
 (.ret [(.v 3)])))
theorem rd67 : readFn T SG sigs 3000 sg67 Tryz.f93 an67 = some ir67 := by kernel_rfl
def an68 : Ann := (.s none .z (.s none (.s (some ⟨1, [(2, .junk), (21, (.atm (.v 0)))], [], 0, []⟩) .z .z) (.s none (.s none .z (.b (.l ⟨1, [(3, (.atm (.v 0))), (21, .junk)], [], 0, []⟩ (.s none .z (.s none (.b (.s (some ⟨1, [(22, .junk), (23, .junk), (24, .junk), (25, .junk), (55, (.atm (.v 0)))], [], 0, []⟩) .z .z)) .z))))) .z)))
def ir68p0 : IR :=
 (.ite (.v 5)
  (.ret [(.c (.bool false))])
 (.op (.bin .add false) [(.v 2), (.c (.int .i64 1))]
 (.jump 0 [(.v 6)])))
def ir68p1 : IR :=
 (.op .lenS [(.v 0)]
 (.op (.bin .lss false) [(.v 2), (.v 3)]
 (.ite (.v 4)
  (.letj 1
   (.op .idxS [(.v 0), (.v 2)]
   (.op (.bin .lss false) [(.v 5), (.c (.int .u8 97))]
   (.ite (.v 6)
    (.op .idxS [(.v 0), (.v 2)]
    (.op (.bin .lss false) [(.v 7), (.c (.int .u8 48))]
    (.ite (.v 8)
     (.op .idxS [(.v 0), (.v 2)]
     (.op (.bin .neq false) [(.v 9), (.c (.int .u8 95))]
     (.jump 1 [(.v 10)])))
    (.op .idxS [(.v 0), (.v 2)]
    (.op (.bin .gtr false) [(.v 9), (.c (.int .u8 57))]
    (.ite (.v 10)
     (.op .idxS [(.v 0), (.v 2)]
     (.op (.bin .neq false) [(.v 11), (.c (.int .u8 95))]
     (.jump 1 [(.v 12)])))
    (.jump 1 [(.c (.bool false))])))))))
   (.op .idxS [(.v 0), (.v 2)]
   (.op (.bin .gtr false) [(.v 7), (.c (.int .u8 122))]
   (.ite (.v 8)
    (.op .idxS [(.v 0), (.v 2)]
    (.op (.bin .lss false) [(.v 9), (.c (.int .u8 48))]
    (.ite (.v 10)
     (.op .idxS [(.v 0), (.v 2)]
     (.op (.bin .neq false) [(.v 11), (.c (.int .u8 95))]
     (.jump 1 [(.v 12)])))
    (.op .idxS [(.v 0), (.v 2)]
    (.op (.bin .gtr false) [(.v 11), (.c (.int .u8 57))]
    (.ite (.v 12)
     (.op .idxS [(.v 0), (.v 2)]
     (.op (.bin .neq false) [(.v 13), (.c (.int .u8 95))]
     (.jump 1 [(.v 14)])))
    (.jump 1 [(.c (.bool false))])))))))
   (.jump 1 [(.c (.bool false))])))))))
  ir68p0)
 (.ret [(.c (.bool true))]))))
def ir68p2 : IR :=
 (.ite (.v 1)
  (.ret [(.c (.bool false))])
 (.loop 1 [(.c (.int .i64 0))] ir68p1))
def ir68 : IR :=
 (.letj 1
  (.op .lenS [(.v 0)]
  (.op (.bin .lss false) [(.v 1), (.c (.int .i64 1))]
  (.ite (.v 2)
   (.jump 0 [(.c (.bool true))])
  (.op .lenS [(.v 0)]
  (.op (.bin .gtr false) [(.v 3), (.c (.int .i64 12))]
  (.ite (.v 4)
   (.jump 0 [(.c (.bool true))])
  (.op .idxS [(.v 0), (.c (.int .i64 0))]
  (.op (.bin .lss false) [(.v 5), (.c (.int .u8 97))]
  (.ite (.v 6)
   (.jump 0 [(.c (.bool true))])
  (.op .idxS [(.v 0), (.c (.int .i64 0))]
  (.op (.bin .gtr false) [(.v 7), (.c (.int .u8 122))]
  (.jump 0 [(.v 8)]))))))))))))
 ir68p2)
theorem rd68 : readFn T SG sigs 3000 sg68 Tryz.f52 an68 = some ir68 := by kernel_rfl
def an72 : Ann := .z
def ir72 : IR :=
 (.call 97 2 false [0] [(.v 0)]
 (.call 69 1 false [0] [(.v 1)]
 (.ret [(.v 3), (.v 2)])))
theorem rd72 : readFn T SG sigs 3000 sg72 Tryz.f97 an72 = some ir72 := by kernel_rfl
def an75 : Ann := (.s none .z (.s none .z (.s none .z (.s none (.b (.l ⟨2, [(4, .junk), (5, .junk), (7, (.atm (.v 0))), (8, (.atm (.v 1))), (10, .junk), (11, .junk), (12, .junk)], [], 0, []⟩ .z)) .z))))
def ir75p0 : IR :=
 (.op (.bin .lss false) [(.v 3), (.v 4)]
 (.ite (.v 5)
  (.op (.bin .add false) [(.v 3), (.v 4)]
  (.op (.conv .u64) [(.v 6)]
  (.op (.bin .shr false) [(.v 7), (.c (.int .u64 1))]
  (.op (.conv .i64) [(.v 8)]
  (.op (.row 1) [(.v 0), (.v 9)]
  (.call 98 1 false [] [(.v 10), (.v 1)]
  (.ite (.v 11)
   (.op (.bin .add false) [(.v 9), (.c (.int .i64 1))]
   (.jump 0 [(.v 12), (.v 4)]))
  (.jump 0 [(.v 3), (.v 9)]))))))))
 (.op (.bin .lss false) [(.v 3), (.v 2)]
 (.ite (.v 6)
  (.op (.row 1) [(.v 0), (.v 3)]
  (.op (.bin .eql false) [(.v 7), (.v 1)]
  (.ite (.v 8)
   (.ret [(.v 3), (.c (.bool true))])
  (.op (.row 1) [(.v 0), (.v 3)]
  (.call 99 1 false [] [(.v 9)]
  (.ite (.v 10)
   (.call 99 1 false [] [(.v 1)]
   (.ret [(.v 3), (.v 11)]))
  (.ret [(.v 3), (.c (.bool false))])))))))
 (.ret [(.v 3), (.c (.bool false))])))))
def ir75 : IR :=
 (.op .lenL [(.v 0)]
 (.loop 2 [(.c (.int .i64 0)), (.v 2)] ir75p0))
theorem rd75 : readFn T SG sigs 3000 sg75 Tryz.f100 an75 = some ir75 := by kernel_rfl
def an76 : Ann := (.s none .z (.s none .z (.s none (.s none .z (.b (.l ⟨2, [(6, .junk), (7, (.atm (.v 0))), (8, (.atm (.v 1)))], [], 0, []⟩ (.s none .z (.s (some ⟨1, [(7, (.atm (.v 0))), (9, .junk), (10, .junk), (11, .junk), (12, .junk)], [], 0, []⟩) (.b (.s (some ⟨1, [(9, .junk), (10, .junk), (11, .junk), (12, .junk), (23, (.atm (.v 0)))], [], 0, []⟩) .z .z)) .z))))) .z)))
def ir76p0 : IR :=
 (.op (.bin .add false) [(.v 4), (.c (.int .i64 1))]
 (.jump 0 [(.v 7), (.v 8)]))
def ir76p1 : IR :=
 (.ite (.v 7)
  (.op (.bin .shr false) [(.v 4), (.c (.int .u64 1))]
  (.op (.conv .u64) [(.v 8)]
  (.op (.bin .shl false) [(.c (.int .u64 1)), (.v 9)]
  (.op (.bin .or false) [(.v 3), (.v 10)]
  (.jump 1 [(.v 11)])))))
 (.jump 1 [(.v 3)]))
def ir76p2 : IR :=
 (.call 48 1 false [] [(.v 0)]
 (.op (.bin .lss false) [(.v 4), (.v 5)]
 (.ite (.v 6)
  (.letj 1
   (.letj 1
    (.call 100 1 false [] [(.v 1), (.v 4)]
    (.ite (.v 7)
     (.op (.bin .and false) [(.v 4), (.c (.int .i64 1))]
     (.op (.bin .eql false) [(.v 8), (.v 2)]
     (.jump 2 [(.v 9)])))
    (.jump 2 [(.c (.bool false))])))
   ir76p1)
  ir76p0)
 (.ret [(.v 3)]))))
def ir76 : IR :=
 (.loop 2 [(.c (.int .u64 0)), (.c (.int .i64 0))] ir76p2)
theorem rd76 : readFn T SG sigs 3000 sg76 Tryz.f88 an76 = some ir76 := by kernel_rfl
def an77 : Ann := (.s none .z (.s none (.s (some ⟨1, [(0, .junk), (1, .junk), (4, .junk), (26, (.atm (.v 0)))], [], 2, []⟩) .z .z) (.s none (.s none .z (.b (.l ⟨1, [(5, (.atm (.v 0))), (26, .junk)], [], 2, []⟩ .z))) .z)))
def ir77p0 : IR :=
 (.op .lenL [(.v 2)]
 (.op (.bin .lss false) [(.v 7), (.v 8)]
 (.ite (.v 9)
  (.op (.row 3) [(.v 2), (.v 7)]
  (.op (.row 3) [(.v 5), (.v 7)]
  (.call 77 1 false [] [(.v 10), (.v 11), (.v 12), (.v 13), (.v 14), (.v 15)]
  (.op (.un .not) [(.v 16)]
  (.ite (.v 17)
   (.ret [(.c (.bool false))])
  (.op (.bin .add false) [(.v 7), (.c (.int .i64 1))]
  (.jump 0 [(.v 18)])))))))
 (.ret [(.c (.bool true))]))))
def ir77p1 : IR :=
 (.ite (.v 6)
  (.ret [(.c (.bool false))])
 (.loop 1 [(.c (.int .i64 0))] ir77p0))
def ir77 : IR :=
 (.letj 1
  (.op (.bin .neq false) [(.v 0), (.v 3)]
  (.ite (.v 6)
   (.jump 0 [(.c (.bool true))])
  (.op (.bin .neq false) [(.v 1), (.v 4)]
  (.ite (.v 7)
   (.jump 0 [(.c (.bool true))])
  (.op .lenL [(.v 2)]
  (.op .lenL [(.v 5)]
  (.op (.bin .neq false) [(.v 8), (.v 9)]
  (.jump 0 [(.v 10)]))))))))
 ir77p1)
theorem rd77 : readFn T SG sigs 3000 sg77 Tryz.f89 an77 = some ir77 := by kernel_rfl
def an78 : Ann := .z
def ir78 : IR :=
 (.op (.mk 3 2) [(.v 1), (.v 2), (.v 3), (.v 4), (.v 5), (.v 6)]
 (.ret [(.v 0), (.c (.str [])), (.v 7)]))
theorem rd78 : readFn T SG sigs 3000 sg78 Tryz.f90 an78 = some ir78 := by kernel_rfl
def an79 : Ann := (.s none .z (.s none .z (.s none (.s none .z (.b (.l ⟨2, [(0, .junk), (1, .junk), (2, .junk), (3, (.atm (.v 0))), (6, .junk), (9, (.atm (.v 1)))], [], 1, []⟩ .z))) .z)))
def ir79p0 : IR :=
 (.op (.bin .lss false) [(.v 5), (.v 3)]
 (.ite (.v 6)
  (.op (.row 3) [(.v 2), (.v 5)]
  (.call 79 1 false [] [(.v 7), (.v 8), (.v 9)]
  (.op (.bin .add false) [(.v 4), (.v 10)]
  (.op (.bin .add false) [(.v 5), (.c (.int .i64 1))]
  (.jump 0 [(.v 11), (.v 12)])))))
 (.ret [(.v 4)])))
def ir79 : IR :=
 (.op .lenL [(.v 2)]
 (.loop 2 [(.c (.int .i64 1)), (.c (.int .i64 0))] ir79p0))
theorem rd79 : readFn T SG sigs 3000 sg79 Tryz.f75 an79 = some ir79 := by kernel_rfl
def an80 : Ann := (.s none .z (.s none .z (.s none (.s none .z (.b (.l ⟨2, [(0, .junk), (1, .junk), (2, .junk), (3, (.atm (.v 0))), (6, .junk), (9, (.atm (.v 1)))], [], 1, []⟩ .z))) .z)))
def ir80p0 : IR :=
 (.op (.bin .lss false) [(.v 5), (.v 3)]
 (.ite (.v 6)
  (.op (.row 3) [(.v 2), (.v 5)]
  (.call 80 1 false [] [(.v 7), (.v 8), (.v 9)]
  (.op (.bin .add false) [(.c (.int .i64 1)), (.v 10)]
  (.op .max [(.v 4), (.v 11)]
  (.op (.bin .add false) [(.v 5), (.c (.int .i64 1))]
  (.jump 0 [(.v 12), (.v 13)]))))))
 (.ret [(.v 4)])))
def ir80 : IR :=
 (.op .lenL [(.v 2)]
 (.loop 2 [(.c (.int .i64 0)), (.c (.int .i64 0))] ir80p0))
theorem rd80 : readFn T SG sigs 3000 sg80 Tryz.f76 an80 = some ir80 := by kernel_rfl
def an81 : Ann := (.s none .z (.s none .z (.s none (.s none .z (.b (.l ⟨1, [(0, .junk), (2, .junk), (4, .junk), (7, .junk), (8, .junk), (9, .junk), (10, .junk), (11, .junk), (14, (.atm (.v 0)))], [], 1, []⟩ .z))) .z)))
def ir81p0 : IR :=
 (.op (.bin .lss false) [(.v 6), (.v 5)]
 (.ite (.v 7)
  (.op (.row 3) [(.v 2), (.v 6)]
  (.call 81 1 false [] [(.v 8), (.v 9), (.v 10)]
  (.op (.un .not) [(.v 11)]
  (.ite (.v 12)
   (.ret [(.c (.bool false))])
  (.op (.bin .add false) [(.v 6), (.c (.int .i64 1))]
  (.jump 0 [(.v 13)]))))))
 (.ret [(.c (.bool true))])))
def ir81 : IR :=
 (.call 101 1 false [] [(.v 0), (.v 1), (.v 2)]
 (.op (.un .not) [(.v 3)]
 (.ite (.v 4)
  (.ret [(.c (.bool false))])
 (.op .lenL [(.v 2)]
 (.loop 1 [(.c (.int .i64 0))] ir81p0)))))
theorem rd81 : readFn T SG sigs 3000 sg81 Tryz.f77 an81 = some ir81 := by kernel_rfl
def an82 : Ann := (.s none .z (.s none .z (.s none (.s none .z (.b (.l ⟨1, [(0, .junk), (2, .junk), (4, .junk), (7, .junk), (8, .junk), (9, .junk), (10, .junk), (11, .junk), (14, (.atm (.v 0)))], [], 1, []⟩ .z))) .z)))
def ir82p0 : IR :=
 (.op (.bin .lss false) [(.v 6), (.v 5)]
 (.ite (.v 7)
  (.op (.row 3) [(.v 2), (.v 6)]
  (.call 82 1 false [] [(.v 8), (.v 9), (.v 10)]
  (.op (.un .not) [(.v 11)]
  (.ite (.v 12)
   (.ret [(.c (.bool false))])
  (.op (.bin .add false) [(.v 6), (.c (.int .i64 1))]
  (.jump 0 [(.v 13)]))))))
 (.ret [(.c (.bool true))])))
def ir82 : IR :=
 (.call 102 1 false [] [(.v 0), (.v 1), (.v 2)]
 (.op (.un .not) [(.v 3)]
 (.ite (.v 4)
  (.ret [(.c (.bool false))])
 (.op .lenL [(.v 2)]
 (.loop 1 [(.c (.int .i64 0))] ir82p0)))))
theorem rd82 : readFn T SG sigs 3000 sg82 Tryz.f77 an82 = some ir82 := by kernel_rfl
def an83 : Ann := (.s none .z (.s none (.s none .z (.b (.l ⟨1, [(4, .junk), (6, .junk), (8, (.atm (.v 0)))], [], 0, []⟩ .z))) .z))
def ir83p0 : IR :=
 (.op (.bin .lss false) [(.v 3), (.v 2)]
 (.ite (.v 4)
  (.op (.row 1) [(.v 0), (.v 3)]
  (.op (.bin .eql false) [(.v 1), (.v 5)]
  (.ite (.v 6)
   (.ret [(.v 3)])
  (.op (.bin .add false) [(.v 3), (.c (.int .i64 1))]
  (.jump 0 [(.v 7)])))))
 (.ret [(.c (.int .i64 (-1)))])))
def ir83 : IR :=
 (.op .lenL [(.v 0)]
 (.loop 1 [(.c (.int .i64 0))] ir83p0))
theorem rd83 : readFn T SG sigs 3000 sg83 Tryz.f83 an83 = some ir83 := by kernel_rfl
def an84 : Ann := (.s none .z (.s none .z (.s none (.s none .z (.b (.l ⟨2, [(2, .junk), (3, (.atm (.v 0))), (5, (.atm (.v 1)))], [], 0, []⟩ .z))) .z)))
def ir84p0 : IR :=
 (.op (.bin .lss false) [(.v 2), (.c (.int .i64 64))]
 (.ite (.v 3)
  (.op (.bin .shr false) [(.v 2), (.v 0)]
  (.op (.bin .and false) [(.v 4), (.c (.int .i64 1))]
  (.op (.conv .u64) [(.v 5)]
  (.op (.bin .shl false) [(.v 6), (.v 2)]
  (.op (.bin .or false) [(.v 1), (.v 7)]
  (.op (.bin .add false) [(.v 2), (.c (.int .i64 1))]
  (.jump 0 [(.v 8), (.v 9)])))))))
 (.ret [(.v 1)])))
def ir84 : IR :=
 (.loop 2 [(.c (.int .u64 0)), (.c (.int .i64 0))] ir84p0)
theorem rd84 : readFn T SG sigs 3000 sg84 Tryz.f84 an84 = some ir84 := by kernel_rfl
def an85 : Ann := .z
def ir85 : IR :=
 (.op (.bin .shl false) [(.c (.int .u64 1)), (.v 0)]
 (.op (.bin .sub false) [(.c (.int .u64 64)), (.v 1)]
 (.op (.bin .shr false) [(.c (.int .u64 18446744073709551615)), (.v 2)]
 (.ret [(.v 3)]))))
theorem rd85 : readFn T SG sigs 3000 sg85 Tryz.f85 an85 = some ir85 := by kernel_rfl
def an86 : Ann := (.s none .z (.s none (.s (some ⟨1, [(0, .junk), (2, .junk), (20, (.atm (.v 0)))], [], 1, []⟩) .z .z) (.s none .z (.s none .z (.s none (.s none .z (.b (.l ⟨3, [(1, .junk), (4, (.atm (.v 0))), (20, .junk), (21, .junk), (22, .junk), (23, .junk), (24, .junk), (25, .junk), (28, (.atm (.v 1)))], [(1, ⟨false, true, 4, 1, (.v 2), []⟩)], 2, []⟩ (.s none .z (.s none .z (.s none (.b (.s none .z (.s none (.s (some ⟨1, [(29, .junk), (30, .junk), (31, .junk), (39, (.atm (.v 0)))], [], 2, []⟩) .z .z) .z))) .z)))))) .z)))))
def ir86p0 : IR :=
 (.ite (.v 11)
  (.ret [(.c (.int .i64 8))])
 (.op .max [(.v 6), (.v 10)]
 (.op .chk [(.v 8), (.v 10)]
 (.op (.set 0 1) [(.v 8), (.v 10), (.c (.bool true))]
 (.op (.bin .add false) [(.v 7), (.c (.int .i64 1))]
 (.jump 0 [(.v 12), (.v 14), (.v 13)]))))))
def ir86p1 : IR :=
 (.op (.bin .lss false) [(.v 7), (.v 5)]
 (.ite (.v 9)
  (.op (.row 1) [(.v 1), (.v 7)]
  (.letj 1
   (.op (.bin .lss false) [(.v 10), (.c (.int .i64 0))]
   (.ite (.v 11)
    (.jump 1 [(.c (.bool true))])
   (.op .lenL [(.v 8)]
   (.op (.bin .geq false) [(.v 10), (.v 12)]
   (.jump 1 [(.v 13)])))))
  ir86p0))
 (.op (.subL 1) [(.v 8), (.c (.int .i64 0)), (.v 6)]
 (.call 103 1 false [] [(.v 10), (.c (.bool false))]
 (.ite (.v 11)
  (.ret [(.c (.int .i64 8))])
 (.ret [(.c (.int .i64 0))]))))))
def ir86p2 : IR :=
 (.ite (.v 2)
  (.ret [(.c (.int .i64 1))])
 (.op .lenL [(.v 1)]
 (.op (.mkL 1 [(.bool false)]) [(.v 3)]
 (.op .lenL [(.v 1)]
 (.loop 3 [(.c (.int .i64 0)), (.c (.int .i64 0)), (.v 4)] ir86p1)))))
def ir86 : IR :=
 (.letj 1
  (.call 39 1 false [] [(.v 0)]
  (.op (.un .not) [(.v 2)]
  (.ite (.v 3)
   (.jump 0 [(.c (.bool true))])
  (.op .lenL [(.v 1)]
  (.op .lenL [(.v 0)]
  (.op (.bin .shl false) [(.c (.int .i64 1)), (.v 5)]
  (.op (.bin .neq false) [(.v 4), (.v 6)]
  (.jump 0 [(.v 7)]))))))))
 ir86p2)
theorem rd86 : readFn T SG sigs 3000 sg86 Tryz.f86 an86 = some ir86 := by kernel_rfl
def an87 : Ann := (.s none .z (.s none .z (.s none .z (.s none (.s none .z (.b (.l ⟨2, [(2, .junk), (3, (.atm (.v 0))), (4, (.atm (.v 1))), (5, .junk), (6, .junk), (7, .junk), (9, .junk), (10, .junk), (11, .junk)], [], 0, []⟩ .z))) .z))))
def ir87p0 : IR :=
 (.op .lenL [(.v 0)]
 (.op (.bin .lss false) [(.v 5), (.v 6)]
 (.ite (.v 7)
  (.op (.row 1) [(.v 0), (.v 5)]
  (.op .max [(.v 4), (.v 8)]
  (.op (.bin .add false) [(.v 5), (.c (.int .i64 1))]
  (.jump 0 [(.v 9), (.v 10)]))))
 (.ret [(.v 4)]))))
def ir87 : IR :=
 (.op .lenL [(.v 0)]
 (.op (.bin .lss false) [(.v 1), (.c (.int .i64 1))]
 (.ite (.v 2)
  .fail
 (.op (.row 1) [(.v 0), (.c (.int .i64 0))]
 (.loop 2 [(.v 3), (.c (.int .i64 1))] ir87p0)))))
theorem rd87 : readFn T SG sigs 3000 sg87 Tryz.f87 an87 = some ir87 := by kernel_rfl
def an88 : Ann := (.s none .z (.s none .z (.s none (.s none .z (.b (.l ⟨2, [(0, .junk), (2, .junk), (3, (.atm (.v 0))), (4, (.atm (.v 1)))], [], 1, []⟩ .z))) .z)))
def ir88p0 : IR :=
 (.op .lenL [(.v 2)]
 (.op (.bin .lss false) [(.v 4), (.v 5)]
 (.ite (.v 6)
  (.op (.row 3) [(.v 2), (.v 4)]
  (.call 88 1 false [] [(.v 7), (.v 8), (.v 9)]
  (.op (.bin .add false) [(.v 3), (.v 10)]
  (.op (.bin .add false) [(.v 4), (.c (.int .i64 1))]
  (.jump 0 [(.v 11), (.v 12)])))))
 (.ret [(.v 3)]))))
def ir88 : IR :=
 (.loop 2 [(.c (.int .i64 1)), (.c (.int .i64 0))] ir88p0)
theorem rd88 : readFn T SG sigs 3000 sg88 Tryz.f101 an88 = some ir88 := by kernel_rfl
def an89 : Ann := (.s none .z (.s none .z (.s none (.s none .z (.b (.l ⟨2, [(0, .junk), (2, .junk), (3, (.atm (.v 0))), (4, (.atm (.v 1)))], [], 1, []⟩ .z))) .z)))
def ir89p0 : IR :=
 (.op .lenL [(.v 2)]
 (.op (.bin .lss false) [(.v 4), (.v 5)]
 (.ite (.v 6)
  (.op (.row 3) [(.v 2), (.v 4)]
  (.call 89 1 false [] [(.v 7), (.v 8), (.v 9)]
  (.op (.bin .add false) [(.c (.int .i64 1)), (.v 10)]
  (.op .max [(.v 3), (.v 11)]
  (.op (.bin .add false) [(.v 4), (.c (.int .i64 1))]
  (.jump 0 [(.v 12), (.v 13)]))))))
 (.ret [(.v 3)]))))
def ir89 : IR :=
 (.loop 2 [(.c (.int .i64 0)), (.c (.int .i64 0))] ir89p0)
theorem rd89 : readFn T SG sigs 3000 sg89 Tryz.f102 an89 = some ir89 := by kernel_rfl
def an90 : Ann := (.s none .z (.s none .z (.s none .z (.s (some ⟨1, [(0, .junk), (2, .junk), (4, (.atm (.v 0))), (6, .junk), (7, .junk), (8, .junk)], [], 1, []⟩) (.s none .z (.b (.s (some ⟨1, [(0, .junk), (2, .junk), (6, .junk), (7, .junk), (8, .junk), (9, .junk), (11, (.atm (.v 0)))], [], 1, []⟩) .z (.c .z (.s none .z (.c .z (.s (some ⟨1, [(11, .junk), (17, .junk), (18, .junk), (21, (.atm (.v 0)))], [], 1, []⟩) .z (.c .z (.s (some ⟨1, [(10, .junk), (21, .junk), (30, (.atm (.v 0)))], [], 1, []⟩) .z .z))))))))) (.s none (.s none .z (.b (.l ⟨2, [(4, (.atm (.v 0))), (5, (.atm (.v 1)))], [], 1, []⟩ (.s none .z (.s (some ⟨1, [(4, (.atm (.v 0))), (35, .junk), (36, .junk), (37, .junk)], [], 1, []⟩) .z .z))))) .z)))))
def ir90p0 : IR :=
 (.op (.bin .add false) [(.v 6), (.c (.int .i64 1))]
 (.jump 0 [(.v 8), (.v 9)]))
def ir90p1 : IR :=
 (.op (.bin .lss false) [(.v 6), (.v 3)]
 (.ite (.v 7)
  (.letj 1
   (.ite (.v 5)
    (.op (.row 3) [(.v 2), (.v 6)]
    (.call 90 1 false [] [(.v 8), (.v 9), (.v 10)]
    (.jump 1 [(.v 11)])))
   (.jump 1 [(.c (.bool false))]))
  ir90p0)
 (.ret [(.v 5)])))
def ir90p2 : IR :=
 (.loop 2 [(.v 4), (.c (.int .i64 0))] ir90p1)
def ir90p3 : IR :=
 (.ite (.v 7)
  (.op (.bin .eql false) [(.v 3), (.c (.int .i64 2))]
  (.jump 0 [(.v 8)]))
 (.jump 0 [(.c (.bool false))]))
def ir90p4 : IR :=
 (.ite (.v 6)
  (.op (.bin .geq false) [(.v 3), (.c (.int .i64 2))]
  (.ite (.v 7)
   (.op (.bin .leq false) [(.v 3), (.c (.int .i64 6))]
   (.jump 0 [(.v 8)]))
  (.jump 0 [(.c (.bool false))])))
 (.letj 1
  (.op (.bin .eql false) [(.v 0), (.c (.int .i64 7))]
  (.ite (.v 7)
   (.jump 1 [(.c (.bool true))])
  (.op (.bin .eql false) [(.v 0), (.c (.int .i64 8))]
  (.jump 1 [(.v 8)]))))
 ir90p3))
def ir90p5 : IR :=
 (.ite (.v 4)
  (.op (.bin .eql false) [(.v 3), (.c (.int .i64 0))]
  (.jump 0 [(.v 5)]))
 (.op (.bin .eql false) [(.v 0), (.c (.int .i64 4))]
 (.ite (.v 5)
  (.op (.bin .eql false) [(.v 3), (.c (.int .i64 1))]
  (.jump 0 [(.v 6)]))
 (.letj 1
  (.op (.bin .eql false) [(.v 0), (.c (.int .i64 5))]
  (.ite (.v 6)
   (.jump 1 [(.c (.bool true))])
  (.op (.bin .eql false) [(.v 0), (.c (.int .i64 6))]
  (.jump 1 [(.v 7)]))))
 ir90p4))))
def ir90 : IR :=
 (.op .lenL [(.v 2)]
 (.letj 1
  (.letj 1
   (.op (.bin .eql false) [(.v 0), (.c (.int .i64 1))]
   (.ite (.v 4)
    (.jump 1 [(.c (.bool true))])
   (.op (.bin .eql false) [(.v 0), (.c (.int .i64 2))]
   (.ite (.v 5)
    (.jump 1 [(.c (.bool true))])
   (.op (.bin .eql false) [(.v 0), (.c (.int .i64 3))]
   (.jump 1 [(.v 6)]))))))
  ir90p5)
 ir90p2))
theorem rd90 : readFn T SG sigs 3000 sg90 Tryz.f103 an90 = some ir90 := by kernel_rfl
def an91 : Ann := (.s none .z (.s none .z (.s (some ⟨1, [(0, .junk), (2, .junk), (3, (.atm (.v 0))), (5, .junk), (6, .junk), (7, .junk)], [], 1, []⟩) .z (.s none (.s none .z (.b (.l ⟨2, [(3, (.atm (.v 0))), (4, (.atm (.v 1)))], [], 1, []⟩ (.s none .z (.s (some ⟨1, [(3, (.atm (.v 0))), (14, .junk), (15, .junk), (16, .junk), (17, .junk), (18, .junk)], [], 1, []⟩) .z .z))))) .z))))
def ir91p0 : IR :=
 (.op (.bin .add false) [(.v 6), (.c (.int .i64 1))]
 (.jump 0 [(.v 9), (.v 10)]))
def ir91p1 : IR :=
 (.op .lenL [(.v 2)]
 (.op (.bin .lss false) [(.v 6), (.v 7)]
 (.ite (.v 8)
  (.letj 1
   (.ite (.v 5)
    (.op (.row 3) [(.v 2), (.v 6)]
    (.call 91 1 false [] [(.v 9), (.v 10), (.v 11)]
    (.jump 1 [(.v 12)])))
   (.jump 1 [(.c (.bool false))]))
  ir91p0)
 (.ret [(.v 5)]))))
def ir91p2 : IR :=
 (.loop 2 [(.v 4), (.c (.int .i64 0))] ir91p1)
def ir91 : IR :=
 (.op (.bin .eql false) [(.v 1), (.c (.str []))]
 (.letj 1
  (.op (.bin .eql false) [(.v 0), (.c (.int .i64 3))]
  (.ite (.v 4)
   (.call 68 1 false [] [(.v 1)]
   (.jump 0 [(.v 5)]))
  (.jump 0 [(.v 3)])))
 ir91p2))
theorem rd91 : readFn T SG sigs 3000 sg91 Tryz.f104 an91 = some ir91 := by kernel_rfl
def an92 : Ann := (.s none .z (.s (some ⟨1, [(0, (.atm (.v 0))), (1, .junk), (4, .junk)], [], 1, []⟩) (.s (some ⟨1, [(1, .junk), (4, .junk), (14, (.atm (.v 0)))], [], 1, []⟩) .z .z) (.s none (.s none .z (.b (.l ⟨2, [(0, (.atm (.v 0))), (5, (.atm (.v 1)))], [], 1, []⟩ .z))) .z)))
def ir92p0 : IR :=
 (.op .lenL [(.v 3)]
 (.op (.bin .lss false) [(.v 6), (.v 7)]
 (.ite (.v 8)
  (.op (.row 3) [(.v 3), (.v 6)]
  (.call 92 1 false [] [(.v 5), (.v 9), (.v 10), (.v 11)]
  (.op (.bin .add false) [(.v 6), (.c (.int .i64 1))]
  (.jump 0 [(.v 12), (.v 13)]))))
 (.ret [(.v 5)]))))
def ir92p1 : IR :=
 (.loop 2 [(.v 4), (.c (.int .i64 0))] ir92p0)
def ir92p2 : IR :=
 (.ite (.v 4)
  (.call 104 1 false [] [(.v 0), (.v 2)]
  (.jump 0 [(.v 5)]))
 (.jump 0 [(.v 0)]))
def ir92 : IR :=
 (.letj 1
  (.letj 1
   (.op (.bin .eql false) [(.v 1), (.c (.int .i64 3))]
   (.ite (.v 4)
    (.op .lenL [(.v 3)]
    (.op (.bin .eql false) [(.v 5), (.c (.int .i64 0))]
    (.jump 1 [(.v 6)])))
   (.jump 1 [(.c (.bool false))])))
  ir92p2)
 ir92p1)
theorem rd92 : readFn T SG sigs 3000 sg92 Tryz.f105 an92 = some ir92 := by kernel_rfl
def an93 : Ann := (.s none .z (.s none (.s none .z (.b (.s none .z (.c .z (.s none .z (.c (.s none (.s none .z (.b (.l ⟨1, [(0, .junk), (4, .junk), (5, (.atm (.v 0))), (8, .junk), (9, .junk), (10, .junk), (11, .junk), (12, .junk), (13, .junk)], [], 1, []⟩ .z))) .z) (.s none .z (.c .z (.s none .z (.c (.s none (.s none .z (.b (.l ⟨1, [(0, .junk), (4, .junk), (6, (.atm (.v 0))), (8, .junk), (9, .junk), (10, .junk), (11, .junk), (12, .junk), (13, .junk), (27, .junk), (28, .junk), (36, .junk), (37, .junk)], [], 1, []⟩ .z))) .z) (.s none .z (.c (.s none (.s none .z (.b (.l ⟨1, [(0, .junk), (4, .junk), (7, (.atm (.v 0))), (8, .junk), (9, .junk), (10, .junk), (11, .junk), (12, .junk), (13, .junk), (27, .junk), (28, .junk), (36, .junk), (37, .junk), (53, .junk), (54, .junk)], [], 1, []⟩ .z))) .z) .z)))))))))))) .z))
def ir93p0 : IR :=
 (.op .lenL [(.v 3)]
 (.op (.bin .lss false) [(.v 6), (.v 7)]
 (.ite (.v 8)
  (.op (.row 1) [(.v 3), (.v 6)]
  (.op (.bin .eql false) [(.v 9), (.v 1)]
  (.ite (.v 10)
   (.ret [(.c (.bool true))])
  (.op (.bin .add false) [(.v 6), (.c (.int .i64 1))]
  (.jump 0 [(.v 11)])))))
 (.ret [(.c (.bool false))]))))
def ir93p1 : IR :=
 (.op .lenL [(.v 2)]
 (.op (.bin .lss false) [(.v 8), (.v 9)]
 (.ite (.v 10)
  (.op (.row 3) [(.v 2), (.v 8)]
  (.call 93 1 false [] [(.v 11), (.v 12), (.v 13), (.v 3)]
  (.op (.un .not) [(.v 14)]
  (.ite (.v 15)
   (.ret [(.c (.bool false))])
  (.op (.bin .add false) [(.v 8), (.c (.int .i64 1))]
  (.jump 0 [(.v 16)]))))))
 (.ret [(.c (.bool true))]))))
def ir93p2 : IR :=
 (.op .lenL [(.v 2)]
 (.op (.bin .lss false) [(.v 9), (.v 10)]
 (.ite (.v 11)
  (.op (.row 3) [(.v 2), (.v 9)]
  (.call 93 1 false [] [(.v 12), (.v 13), (.v 14), (.v 3)]
  (.ite (.v 15)
   (.ret [(.c (.bool true))])
  (.op (.bin .add false) [(.v 9), (.c (.int .i64 1))]
  (.jump 0 [(.v 16)])))))
 (.ret [(.c (.bool false))]))))
def ir93 : IR :=
 (.op (.bin .eql false) [(.v 0), (.c (.int .i64 1))]
 (.ite (.v 4)
  (.ret [(.c (.bool true))])
 (.op (.bin .eql false) [(.v 0), (.c (.int .i64 3))]
 (.ite (.v 5)
  (.loop 1 [(.c (.int .i64 0))] ir93p0)
 (.op (.bin .eql false) [(.v 0), (.c (.int .i64 4))]
 (.ite (.v 6)
  (.op (.row 3) [(.v 2), (.c (.int .i64 0))]
  (.call 93 1 false [] [(.v 7), (.v 8), (.v 9), (.v 3)]
  (.op (.un .not) [(.v 10)]
  (.ret [(.v 11)]))))
 (.op (.bin .eql false) [(.v 0), (.c (.int .i64 5))]
 (.ite (.v 7)
  (.loop 1 [(.c (.int .i64 0))] ir93p1)
 (.op (.bin .eql false) [(.v 0), (.c (.int .i64 6))]
 (.ite (.v 8)
  (.loop 1 [(.c (.int .i64 0))] ir93p2)
 (.op (.bin .eql false) [(.v 0), (.c (.int .i64 7))]
 (.ite (.v 9)
  (.op (.row 3) [(.v 2), (.c (.int .i64 0))]
  (.call 93 1 false [] [(.v 10), (.v 11), (.v 12), (.v 3)]
  (.op (.un .not) [(.v 13)]
  (.ite (.v 14)
   (.ret [(.c (.bool true))])
  (.op (.row 3) [(.v 2), (.c (.int .i64 1))]
  (.call 93 1 false [] [(.v 15), (.v 16), (.v 17), (.v 3)]
  (.ret [(.v 18)])))))))
 (.op (.bin .eql false) [(.v 0), (.c (.int .i64 8))]
 (.ite (.v 10)
  (.op (.row 3) [(.v 2), (.c (.int .i64 0))]
  (.call 93 1 false [] [(.v 11), (.v 12), (.v 13), (.v 3)]
  (.op (.row 3) [(.v 2), (.c (.int .i64 1))]
  (.call 93 1 false [] [(.v 15), (.v 16), (.v 17), (.v 3)]
  (.op (.bin .eql true) [(.v 14), (.v 18)]
  (.ret [(.v 19)]))))))
 (.ret [(.c (.bool false))])))))))))))))))
theorem rd93 : readFn T SG sigs 3000 sg93 Tryz.f106 an93 = some ir93 := by kernel_rfl
def an95 : Ann := .z
def ir95 : IR :=
 (.op (.bin .xor false) [(.v 0), (.v 1)]
 (.op (.conv .u64) [(.v 2)]
 (.op (.bin .and false) [(.v 3), (.c (.int .u64 63))]
 (.ret [(.v 4)]))))
theorem rd95 : readFn T SG sigs 3000 sg95 Tryz.f114 an95 = some ir95 := by kernel_rfl
def an96 : Ann := .z
def ir96 : IR :=
 (.op (.bin .shr false) [(.v 0), (.c (.int .u64 1))]
 (.op (.bin .and false) [(.v 1), (.c (.int .u64 6148914691236517205))]
 (.op (.bin .and false) [(.v 0), (.c (.int .u64 6148914691236517205))]
 (.op (.bin .add false) [(.v 2), (.v 3)]
 (.op (.bin .shr false) [(.v 4), (.c (.int .u64 2))]
 (.op (.bin .and false) [(.v 5), (.c (.int .u64 3689348814741910323))]
 (.op (.bin .and false) [(.v 4), (.c (.int .u64 3689348814741910323))]
 (.op (.bin .add false) [(.v 6), (.v 7)]
 (.op (.bin .shr false) [(.v 8), (.c (.int .u64 4))]
 (.op (.bin .add false) [(.v 9), (.v 8)]
 (.op (.bin .and false) [(.v 10), (.c (.int .u64 1085102592571150095))]
 (.op (.bin .shr false) [(.v 11), (.c (.int .u64 8))]
 (.op (.bin .add false) [(.v 11), (.v 12)]
 (.op (.bin .shr false) [(.v 13), (.c (.int .u64 16))]
 (.op (.bin .add false) [(.v 13), (.v 14)]
 (.op (.bin .shr false) [(.v 15), (.c (.int .u64 32))]
 (.op (.bin .add false) [(.v 15), (.v 16)]
 (.op (.conv .i64) [(.v 17)]
 (.op (.bin .and false) [(.v 18), (.c (.int .i64 127))]
 (.ret [(.v 19)]))))))))))))))))))))
theorem rd96 : readFn T SG sigs 3000 sg96 Tryz.f113 an96 = some ir96 := by kernel_rfl
def an98 : Ann := .z
def ir98 : IR :=
 (.call 105 1 false [] [(.v 0)]
 (.ite (.v 2)
  (.call 105 1 false [] [(.v 1)]
  (.op (.un .not) [(.v 3)]
  (.ite (.v 4)
   (.ret [(.c (.bool true))])
  (.op (.bin .lss false) [(.v 0), (.v 1)]
  (.ret [(.v 5)])))))
 (.op (.bin .lss false) [(.v 0), (.v 1)]
 (.ret [(.v 3)]))))
theorem rd98 : readFn T SG sigs 3000 sg98 Tryz.f118 an98 = some ir98 := by kernel_rfl
def an99 : Ann := .z
def ir99 : IR :=
 (.op (.bin .neq false) [(.v 0), (.v 0)]
 (.ret [(.v 1)]))
theorem rd99 : readFn T SG sigs 3000 sg99 Tryz.f119 an99 = some ir99 := by kernel_rfl
def an100 : Ann := .z
def ir100 : IR :=
 (.op (.conv .u64) [(.v 1)]
 (.op (.bin .shr false) [(.v 0), (.v 2)]
 (.op (.bin .and false) [(.v 3), (.c (.int .u64 1))]
 (.op (.bin .eql false) [(.v 4), (.c (.int .u64 1))]
 (.ret [(.v 5)])))))
theorem rd100 : readFn T SG sigs 3000 sg100 Tryz.f111 an100 = some ir100 := by kernel_rfl
def an101 : Ann := (.s none .z (.s none .z (.s none (.s none .z (.b (.s (some ⟨1, [(0, .junk), (1, .junk), (2, .junk), (4, .junk), (5, .junk), (6, .junk), (7, .junk), (9, (.atm (.v 0)))], [], 1, []⟩) .z (.c .z (.s none .z (.c .z (.s (some ⟨1, [(9, .junk), (15, .junk), (16, .junk), (19, (.atm (.v 0)))], [], 1, []⟩) .z (.c .z (.s (some ⟨1, [(8, .junk), (19, .junk), (28, (.atm (.v 0)))], [], 1, []⟩) .z .z))))))))) .z)))
def ir101p0 : IR :=
 (.ite (.v 7)
  (.op (.bin .eql false) [(.v 3), (.c (.int .i64 2))]
  (.ret [(.v 8)]))
 (.ret [(.c (.bool false))]))
def ir101p1 : IR :=
 (.ite (.v 6)
  (.op (.bin .geq false) [(.v 3), (.c (.int .i64 2))]
  (.ite (.v 7)
   (.op (.bin .leq false) [(.v 3), (.c (.int .i64 6))]
   (.ret [(.v 8)]))
  (.ret [(.c (.bool false))])))
 (.letj 1
  (.op (.bin .eql false) [(.v 0), (.c (.int .i64 7))]
  (.ite (.v 7)
   (.jump 0 [(.c (.bool true))])
  (.op (.bin .eql false) [(.v 0), (.c (.int .i64 8))]
  (.jump 0 [(.v 8)]))))
 ir101p0))
def ir101p2 : IR :=
 (.ite (.v 4)
  (.op (.bin .eql false) [(.v 3), (.c (.int .i64 0))]
  (.ret [(.v 5)]))
 (.op (.bin .eql false) [(.v 0), (.c (.int .i64 4))]
 (.ite (.v 5)
  (.op (.bin .eql false) [(.v 3), (.c (.int .i64 1))]
  (.ret [(.v 6)]))
 (.letj 1
  (.op (.bin .eql false) [(.v 0), (.c (.int .i64 5))]
  (.ite (.v 6)
   (.jump 0 [(.c (.bool true))])
  (.op (.bin .eql false) [(.v 0), (.c (.int .i64 6))]
  (.jump 0 [(.v 7)]))))
 ir101p1))))
def ir101 : IR :=
 (.op .lenL [(.v 2)]
 (.letj 1
  (.op (.bin .eql false) [(.v 0), (.c (.int .i64 1))]
  (.ite (.v 4)
   (.jump 0 [(.c (.bool true))])
  (.op (.bin .eql false) [(.v 0), (.c (.int .i64 2))]
  (.ite (.v 5)
   (.jump 0 [(.c (.bool true))])
  (.op (.bin .eql false) [(.v 0), (.c (.int .i64 3))]
  (.jump 0 [(.v 6)]))))))
 ir101p2))
theorem rd101 : readFn T SG sigs 3000 sg101 Tryz.f78 an101 = some ir101 := by kernel_rfl
def an102 : Ann := .z
def ir102 : IR :=
 (.op (.bin .eql false) [(.v 0), (.c (.int .i64 3))]
 (.ite (.v 3)
  (.call 64 1 false [] [(.v 1)]
  (.ret [(.v 4)]))
 (.op (.bin .eql false) [(.v 1), (.c (.str []))]
 (.ret [(.v 4)]))))
theorem rd102 : readFn T SG sigs 3000 sg102 Tryz.f79 an102 = some ir102 := by kernel_rfl
def an103 : Ann := .z
def ir103 : IR :=
 (.call 106 1 false [] [(.v 0), (.v 1)]
 (.op (.bin .geq false) [(.v 2), (.c (.int .i64 0))]
 (.ret [(.v 3)])))
theorem rd103 : readFn T SG sigs 3000 sg103 Tryz.f110 an103 = some ir103 := by kernel_rfl
def an104 : Ann := (.s none .z (.s none .z (.s none (.b (.l ⟨1, [(4, .junk), (5, (.atm (.v 0)))], [], 0, []⟩ (.s none (.s (some ⟨1, [(18, (.atm (.v 0)))], [], 0, []⟩) .z .z) .z))) (.s none (.s (some ⟨1, [(18, .junk), (32, (.atm (.v 0)))], [], 0, []⟩) .z .z) .z))))
def ir104p0 : IR :=
 (.ite (.v 4)
  (.ret [(.v 0)])
 (.op (.subL 1) [(.v 0), (.c (.int .i64 0)), (.v 2)]
 (.op (.app 1 16) [(.c (.sl [])), (.v 5)]
 (.op (.mk 1 1) [(.v 1)]
 (.op (.app 1 16) [(.v 6), (.v 7)]
 (.op .lenL [(.v 0)]
 (.op (.subL 1) [(.v 0), (.v 2), (.v 9)]
 (.op (.app 1 16) [(.v 8), (.v 10)]
 (.ret [(.v 11)])))))))))
def ir104p1 : IR :=
 (.ite (.v 3)
  (.op (.bin .add false) [(.v 2), (.c (.int .i64 1))]
  (.jump 0 [(.v 4)]))
 (.letj 1
  (.op .lenL [(.v 0)]
  (.op (.bin .lss false) [(.v 2), (.v 4)]
  (.ite (.v 5)
   (.op (.row 1) [(.v 0), (.v 2)]
   (.op (.bin .eql false) [(.v 6), (.v 1)]
   (.jump 1 [(.v 7)])))
  (.jump 1 [(.c (.bool false))]))))
 ir104p0))
def ir104p2 : IR :=
 (.letj 1
  (.op .lenL [(.v 0)]
  (.op (.bin .lss false) [(.v 2), (.v 3)]
  (.ite (.v 4)
   (.op (.row 1) [(.v 0), (.v 2)]
   (.op (.bin .lss false) [(.v 5), (.v 1)]
   (.jump 1 [(.v 6)])))
  (.jump 1 [(.c (.bool false))]))))
 ir104p1)
def ir104 : IR :=
 (.loop 1 [(.c (.int .i64 0))] ir104p2)
theorem rd104 : readFn T SG sigs 3000 sg104 Tryz.f120 an104 = some ir104 := by kernel_rfl
def an105 : Ann := .z
def ir105 : IR :=
 (.op (.bin .neq false) [(.v 0), (.v 0)]
 (.ret [(.v 1)]))
theorem rd105 : readFn T SG sigs 3000 sg105 Tryz.f142 an105 = some ir105 := by kernel_rfl
def an106 : Ann := (.s none .z (.s none (.s none .z (.b (.l ⟨1, [(4, .junk), (6, .junk), (8, (.atm (.v 0)))], [], 0, []⟩ .z))) .z))
def ir106p0 : IR :=
 (.op (.bin .lss false) [(.v 3), (.v 2)]
 (.ite (.v 4)
  (.op (.row 1) [(.v 0), (.v 3)]
  (.op (.bin .eql true) [(.v 1), (.v 5)]
  (.ite (.v 6)
   (.ret [(.v 3)])
  (.op (.bin .add false) [(.v 3), (.c (.int .i64 1))]
  (.jump 0 [(.v 7)])))))
 (.ret [(.c (.int .i64 (-1)))])))
def ir106 : IR :=
 (.op .lenL [(.v 0)]
 (.loop 1 [(.c (.int .i64 0))] ir106p0))
theorem rd106 : readFn T SG sigs 3000 sg106 Tryz.f132 an106 = some ir106 := by kernel_rfl
end Go.Proofs.YtejddbdoioppgaaGreatDoor

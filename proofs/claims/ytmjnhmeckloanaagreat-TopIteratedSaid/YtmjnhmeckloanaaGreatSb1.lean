/- What functions of the program compute: lemmas. -/
import Derived.Test.YtmjnhmeckloanaaGreatAmSe21
import Derived.Test.YtmjnhmeckloanaaGreatProg
import Derived.KernelRfl
set_option linter.unusedSimpArgs false
set_option linter.unusedVariables false
set_option linter.unusedSectionVars false
namespace Go.Proofs.YtmjnhmeckloanaaGreat
open Go Am
set_option maxRecDepth 100000
abbrev fnD (f : Nat) : D := .raw (.func (.func f) #[] #[])
def T : Tab := [
 (3, ⟨1, 8, true, true, false, none, none, (some .i64), false, false, (some (.int .i64 0)), [], none⟩),
 (4, ⟨1, 1, true, true, false, none, none, none, false, true, (some (.bool false)), [], none⟩),
 (5, ⟨1, 1, true, true, false, none, none, (some .u8), false, false, (some (.int .u8 0)), [], none⟩),
 (9, ⟨1, 16, true, true, false, none, none, none, true, false, (some (.string ⟨⟨[]⟩⟩)), [], none⟩),
 (22, ⟨1, 24, true, true, false, (some 3), none, none, false, false, (some (.slice none 0 0)), [], none⟩),
 (23, ⟨1, 8, true, true, false, none, none, none, false, false, (some (.pointer none)), [], none⟩),
 (26, ⟨1, 24, true, true, false, (some 9), none, none, false, false, (some (.slice none 0 0)), [], none⟩),
 (29, ⟨2, 48, true, true, true, none, none, none, false, false, (some (.agg #[(.slice none 0 0), (.slice none 0 0)])), [(0, 26), (1, 22)], (some [(0, 1), (1, 1)])⟩),
 (31, ⟨1, 24, true, true, false, (some 33), none, none, false, false, (some (.slice none 0 0)), [], none⟩),
 (33, ⟨3, 48, true, true, true, none, none, none, false, false, (some (.agg #[(.int .i64 0), (.string ⟨⟨[]⟩⟩), (.slice none 0 0)])), [(0, 3), (1, 9), (2, 31)], (some [(0, 1), (1, 1), (2, 1)])⟩),
 (35, ⟨1, 8, true, true, false, none, none, (some .u64), false, false, (some (.int .u64 0)), [], none⟩),
 (36, ⟨1, 8, true, true, false, none, none, (some .i64), false, false, (some (.int .i64 0)), [], none⟩),
 (50, ⟨6, 96, true, true, true, none, none, none, false, false, (some (.agg #[(.int .i64 0), (.string ⟨⟨[]⟩⟩), (.slice none 0 0), (.int .i64 0), (.string ⟨⟨[]⟩⟩), (.slice none 0 0)])), [(0, 33), (3, 33)], (some [(0, 3), (3, 3)])⟩),
 (56, ⟨1, 24, true, true, false, (some 29), none, none, false, false, (some (.slice none 0 0)), [], none⟩),
 (80, ⟨2, 32, true, true, true, none, none, none, false, false, (some (.agg #[(.slice none 0 0), (.int .i64 0)])), [(0, 22), (1, 3)], (some [(0, 1), (1, 1)])⟩),
 (82, ⟨1, 24, true, true, false, (some 5), none, none, false, false, (some (.slice none 0 0)), [], none⟩),
 (83, ⟨1, 8, true, true, false, none, none, (some .u64), false, false, (some (.int .u64 0)), [], none⟩),
 (98, ⟨1, 24, true, true, false, (some 104), none, none, false, false, (some (.slice none 0 0)), [], none⟩),
 (100, ⟨1, 24, true, true, false, (some 4), none, none, false, false, (some (.slice none 0 0)), [], none⟩),
 (103, ⟨5, 24, true, true, true, none, none, none, false, false, (some (.agg #[(.int .i64 0), (.int .i64 0), (.bool false), (.bool false), (.bool false)])), [(0, 3), (1, 3), (2, 4), (3, 4), (4, 4)], (some [(0, 1), (1, 1), (2, 1), (3, 1), (4, 1)])⟩),
 (104, ⟨1, 8, true, true, false, none, none, none, false, false, (some .nilFunc), [], none⟩),
 (135, ⟨1, 8, true, true, false, none, none, none, false, false, (some .nilFunc), [], none⟩),
 (144, ⟨1, 24, true, true, false, (some 35), none, none, false, false, (some (.slice none 0 0)), [], none⟩),
 (149, ⟨1, 8, true, true, false, none, none, none, false, false, (some .nilFunc), [], none⟩)]
theorem tok : TOK Tryz.prog T := tok_of (by kernel_rfl)
def SG : SGlob := []
def sg0 : Sig := ⟨3, 1, [], [(.atm (.v 0))], 1, [], (.atm (.v 0)), false, []⟩
def sg1 : Sig := ⟨6, 1, [], [(.atm (.v 0))], 2, [⟨false, false, 80, 2, (.c (.sl [])), [[(.atm (.v 0)), (.atm (.v 1))]]⟩], (.ptr 0 0 0), false, []⟩
def sg2 : Sig := ⟨7, 4, [⟨false, false, 80, 2, (.c (.sl [])), [[(.atm (.v 2)), (.atm (.v 3))]]⟩], [(.ptr 0 0 0), (.atm (.v 0)), (.atm (.v 1))], 3, [⟨false, false, 80, 2, (.c (.sl [])), [[(.atm (.v 1)), (.atm (.v 2))]]⟩], (.atm (.v 0)), false, []⟩
def sg3 : Sig := ⟨8, 1, [], [(.atm (.v 0))], 1, [], (.atm (.v 0)), true, []⟩
def sg4 : Sig := ⟨9, 3, [⟨false, false, 80, 2, (.c (.sl [])), [[(.atm (.v 1)), (.atm (.v 2))]]⟩], [(.ptr 0 0 0), (.atm (.v 0))], 4, [⟨false, false, 80, 2, (.c (.sl [])), [[(.atm (.v 2)), (.atm (.v 3))]]⟩], (.agg [(.atm (.v 0)), (.atm (.v 1))]), true, []⟩
def sg5 : Sig := ⟨10, 4, [⟨false, false, 80, 2, (.c (.sl [])), [[(.atm (.v 2)), (.atm (.v 3))]]⟩], [(.ptr 0 0 0), (.atm (.v 0)), (.atm (.v 1))], 5, [⟨false, false, 80, 2, (.c (.sl [])), [[(.atm (.v 3)), (.atm (.v 4))]]⟩], (.agg [(.atm (.v 0)), (.atm (.v 1)), (.atm (.v 2))]), true, []⟩
def sg6 : Sig := ⟨11, 4, [], [(.atm (.v 0)), (.agg [(.atm (.v 1)), (.atm (.v 2)), (.atm (.v 3))])], 2, [], (.tup [(.atm (.v 0)), (.atm (.v 1))]), false, []⟩
def sg7 : Sig := ⟨12, 2, [], [(.atm (.v 0)), (.atm (.v 1))], 4, [], (.tup [(.agg [(.atm (.v 0)), (.atm (.v 1)), (.atm (.v 2))]), (.atm (.v 3))]), true, []⟩
def sg8 : Sig := ⟨13, 6, [], [(.agg [(.atm (.v 0)), (.atm (.v 1))]), (.agg [(.atm (.v 2)), (.atm (.v 3)), (.atm (.v 4))]), (.atm (.v 5))], 3, [], (.tup [(.agg [(.atm (.v 0)), (.atm (.v 1))]), (.atm (.v 2))]), true, []⟩
def sg9 : Sig := ⟨14, 7, [], [(.agg [(.atm (.v 0)), (.atm (.v 1))]), (.agg [(.atm (.v 2)), (.atm (.v 3))]), (.agg [(.atm (.v 4)), (.atm (.v 5)), (.atm (.v 6))])], 2, [], (.tup [(.atm (.v 0)), (.atm (.v 1))]), true, []⟩
def sg10 : Sig := ⟨15, 4, [], [(.agg [(.atm (.v 0)), (.atm (.v 1))]), (.agg [(.atm (.v 2)), (.atm (.v 3))])], 1, [], (.atm (.v 0)), false, []⟩
def sg11 : Sig := ⟨16, 5, [], [(.agg [(.atm (.v 0)), (.atm (.v 1))]), (.agg [(.atm (.v 2)), (.atm (.v 3)), (.atm (.v 4))])], 2, [], (.tup [(.atm (.v 0)), (.atm (.v 1))]), false, []⟩
def sg12 : Sig := ⟨17, 8, [], [(.agg [(.atm (.v 0)), (.atm (.v 1))]), (.agg [(.atm (.v 2)), (.atm (.v 3)), (.atm (.v 4)), (.atm (.v 5)), (.atm (.v 6)), (.atm (.v 7))])], 2, [], (.tup [(.atm (.v 0)), (.atm (.v 1))]), false, []⟩
def sg13 : Sig := ⟨18, 5, [], [(.agg [(.atm (.v 0)), (.atm (.v 1))]), (.agg [(.atm (.v 2)), (.atm (.v 3)), (.atm (.v 4))])], 2, [], (.tup [(.atm (.v 0)), (.atm (.v 1))]), false, []⟩
def sg14 : Sig := ⟨19, 5, [], [(.agg [(.atm (.v 0)), (.atm (.v 1))]), (.agg [(.atm (.v 2)), (.atm (.v 3)), (.atm (.v 4))])], 2, [], (.tup [(.atm (.v 0)), (.atm (.v 1))]), false, []⟩
def sg15 : Sig := ⟨20, 0, [], [], 1, [], (.atm (.v 0)), false, []⟩
def sg16 : Sig := ⟨38, 3, [⟨false, false, 80, 2, (.c (.sl [])), [[(.atm (.v 1)), (.atm (.v 2))]]⟩], [(.ptr 0 0 0), (.atm (.v 0))], 3, [⟨false, false, 80, 2, (.c (.sl [])), [[(.atm (.v 1)), (.atm (.v 2))]]⟩], (.atm (.v 0)), false, []⟩
def sg17 : Sig := ⟨39, 2, [], [(.atm (.v 0)), (.atm (.v 1))], 3, [], (.tup [(.agg [(.atm (.v 0)), (.atm (.v 1))]), (.atm (.v 2))]), true, []⟩
def sg18 : Sig := ⟨40, 1, [], [(.atm (.v 0))], 1, [], (.atm (.v 0)), false, []⟩
def sg19 : Sig := ⟨41, 3, [], [(.agg [(.atm (.v 0)), (.atm (.v 1)), (.atm (.v 2))])], 1, [], (.atm (.v 0)), false, []⟩
def sg20 : Sig := ⟨42, 3, [], [(.agg [(.atm (.v 0)), (.atm (.v 1)), (.atm (.v 2))])], 1, [], (.atm (.v 0)), true, []⟩
def sg21 : Sig := ⟨43, 2, [], [(.atm (.v 0)), (.atm (.v 1))], 1, [], (.atm (.v 0)), false, []⟩
def sg22 : Sig := ⟨44, 4, [], [(.atm (.v 0)), (.agg [(.atm (.v 1)), (.atm (.v 2)), (.atm (.v 3))])], 1, [], (.atm (.v 0)), false, []⟩
def sg23 : Sig := ⟨45, 1, [], [(.atm (.v 0))], 1, [], (.atm (.v 0)), false, []⟩
def sg24 : Sig := ⟨46, 2, [], [(.atm (.v 0)), (.atm (.v 1))], 4, [], (.tup [(.agg [(.atm (.v 0)), (.atm (.v 1)), (.atm (.v 2))]), (.atm (.v 3))]), true, []⟩
def sg25 : Sig := ⟨47, 3, [], [(.agg [(.atm (.v 0)), (.atm (.v 1))]), (.atm (.v 2))], 1, [], (.atm (.v 0)), false, []⟩
def sg26 : Sig := ⟨48, 4, [], [(.agg [(.atm (.v 0)), (.atm (.v 1))]), (.atm (.v 2)), (.atm (.v 3))], 3, [], (.tup [(.agg [(.atm (.v 0)), (.atm (.v 1))]), (.atm (.v 2))]), true, []⟩
def sg27 : Sig := ⟨49, 2, [], [(.agg [(.atm (.v 0)), (.atm (.v 1))])], 1, [], (.atm (.v 0)), false, []⟩
def sg28 : Sig := ⟨50, 2, [], [(.atm (.v 0)), (.atm (.v 1))], 1, [], (.atm (.v 0)), false, []⟩
def sg29 : Sig := ⟨51, 3, [], [(.agg [(.atm (.v 0)), (.atm (.v 1))]), (.atm (.v 2))], 1, [], (.atm (.v 0)), false, []⟩
def sg30 : Sig := ⟨52, 0, [], [], 1, [], (.atm (.v 0)), true, []⟩
def sg31 : Sig := ⟨53, 2, [], [(.atm (.v 0)), (.atm (.v 1))], 1, [], (.atm (.v 0)), false, []⟩
def sg32 : Sig := ⟨54, 2, [], [(.atm (.v 0)), (.atm (.v 1))], 1, [], (.atm (.v 0)), false, []⟩
def sg33 : Sig := ⟨106, 5, [], [(.agg [(.atm (.v 0)), (.atm (.v 1)), (.atm (.v 2)), (.atm (.v 3)), (.atm (.v 4))])], 1, [], (.atm (.v 0)), false, []⟩
def sg34 : Sig := ⟨107, 5, [], [(.agg [(.atm (.v 0)), (.atm (.v 1)), (.atm (.v 2)), (.atm (.v 3)), (.atm (.v 4))])], 1, [], (.atm (.v 0)), false, []⟩
def sg35 : Sig := ⟨108, 5, [], [(.agg [(.atm (.v 0)), (.atm (.v 1)), (.atm (.v 2)), (.atm (.v 3)), (.atm (.v 4))])], 1, [], (.atm (.v 0)), false, []⟩
def sg36 : Sig := ⟨109, 5, [], [(.agg [(.atm (.v 0)), (.atm (.v 1)), (.atm (.v 2)), (.atm (.v 3)), (.atm (.v 4))])], 1, [], (.atm (.v 0)), false, []⟩
def sg37 : Sig := ⟨110, 5, [], [(.agg [(.atm (.v 0)), (.atm (.v 1)), (.atm (.v 2)), (.atm (.v 3)), (.atm (.v 4))])], 1, [], (.atm (.v 0)), false, []⟩
def sg38 : Sig := ⟨111, 5, [], [(.agg [(.atm (.v 0)), (.atm (.v 1)), (.atm (.v 2)), (.atm (.v 3)), (.atm (.v 4))])], 1, [], (.atm (.v 0)), false, []⟩
def sg39 : Sig := ⟨112, 5, [], [(.agg [(.atm (.v 0)), (.atm (.v 1)), (.atm (.v 2)), (.atm (.v 3)), (.atm (.v 4))])], 1, [], (.atm (.v 0)), false, []⟩
def sg40 : Sig := ⟨55, 2, [], [(.agg [(.atm (.v 0)), (.atm (.v 1))])], 1, [], (.atm (.v 0)), false, []⟩
def sg41 : Sig := ⟨56, 2, [], [(.atm (.v 0)), (.atm (.v 1))], 1, [], (.atm (.v 0)), false, []⟩
def sg42 : Sig := ⟨57, 5, [], [(.agg [(.atm (.v 0)), (.atm (.v 1))]), (.agg [(.atm (.v 2)), (.atm (.v 3)), (.atm (.v 4))])], 3, [], (.tup [(.atm (.v 0)), (.atm (.v 1)), (.atm (.v 2))]), false, []⟩
def sg43 : Sig := ⟨58, 2, [], [(.atm (.v 0)), (.atm (.v 1))], 1, [], (.atm (.v 0)), false, []⟩
def sg44 : Sig := ⟨59, 1, [], [(.atm (.v 0))], 1, [], (.atm (.v 0)), false, []⟩
def sg45 : Sig := ⟨60, 2, [], [(.atm (.v 0)), (.atm (.v 1))], 1, [], (.atm (.v 0)), false, []⟩
def sg46 : Sig := ⟨61, 2, [], [(.atm (.v 0)), (.atm (.v 1))], 3, [], (.tup [(.agg [(.atm (.v 0)), (.atm (.v 1))]), (.atm (.v 2))]), true, []⟩
def sg47 : Sig := ⟨34, 2, [], [(.atm (.v 0)), (.atm (.v 1))], 1, [], (.atm (.v 0)), false, []⟩
def sg48 : Sig := ⟨87, 2, [⟨false, false, 80, 2, (.c (.sl [])), [[(.atm (.v 0)), (.atm (.v 1))]]⟩], [(.ptr 0 0 0)], 3, [⟨false, false, 80, 2, (.c (.sl [])), [[(.atm (.v 1)), (.atm (.v 2))]]⟩], (.atm (.v 0)), false, []⟩
def sg49 : Sig := ⟨86, 2, [], [(.atm (.v 0)), (.atm (.v 1))], 1, [], (.atm (.v 0)), false, []⟩
def sg50 : Sig := ⟨80, 1, [], [(.atm (.v 0))], 1, [], (.atm (.v 0)), false, []⟩
def sg51 : Sig := ⟨88, 2, [], [(.atm (.v 0)), (.atm (.v 1))], 1, [], (.atm (.v 0)), false, []⟩
def sg52 : Sig := ⟨89, 1, [], [(.atm (.v 0))], 1, [], (.atm (.v 0)), false, []⟩
def sg53 : Sig := ⟨90, 3, [], [(.agg [(.atm (.v 0)), (.atm (.v 1)), (.atm (.v 2))])], 1, [], (.atm (.v 0)), false, []⟩
def sg54 : Sig := ⟨91, 3, [], [(.agg [(.atm (.v 0)), (.atm (.v 1)), (.atm (.v 2))])], 1, [], (.atm (.v 0)), false, []⟩
def sg55 : Sig := ⟨92, 3, [], [(.agg [(.atm (.v 0)), (.atm (.v 1)), (.atm (.v 2))]), (.atm (.c (fnD 93)))], 1, [], (.atm (.v 0)), false, []⟩
def sg56 : Sig := ⟨92, 3, [], [(.agg [(.atm (.v 0)), (.atm (.v 1)), (.atm (.v 2))]), (.atm (.c (fnD 94)))], 1, [], (.atm (.v 0)), false, []⟩
def sg57 : Sig := ⟨98, 2, [], [(.atm (.v 0)), (.atm (.v 1))], 1, [], (.atm (.v 0)), false, []⟩
def sg58 : Sig := ⟨99, 1, [], [(.atm (.v 0))], 1, [], (.atm (.v 0)), false, []⟩
def sg59 : Sig := ⟨100, 1, [], [(.atm (.v 0))], 1, [], (.atm (.v 0)), false, []⟩
def sg60 : Sig := ⟨101, 2, [], [(.atm (.v 0)), (.atm (.v 1))], 3, [], (.agg [(.atm (.v 0)), (.atm (.v 1)), (.atm (.v 2))]), true, []⟩
def sg61 : Sig := ⟨102, 1, [], [(.atm (.v 0))], 1, [], (.atm (.v 0)), false, []⟩
def sg62 : Sig := ⟨103, 6, [], [(.agg [(.atm (.v 0)), (.atm (.v 1))]), (.atm (.v 2)), (.atm (.v 3)), (.atm (.v 4)), (.atm (.v 5))], 1, [], (.atm (.v 0)), false, []⟩
def sg63 : Sig := ⟨104, 2, [], [(.atm (.v 0)), (.atm (.v 1))], 1, [], (.atm (.v 0)), false, []⟩
def sg64 : Sig := ⟨105, 2, [], [(.agg [(.atm (.v 0)), (.atm (.v 1))])], 1, [], (.atm (.v 0)), true, []⟩
def sg65 : Sig := ⟨113, 1, [], [(.atm (.v 0))], 1, [], (.atm (.v 0)), false, []⟩
def sg66 : Sig := ⟨116, 1, [], [(.atm (.v 0))], 1, [⟨false, false, 22, 1, (.c (.sl [])), [[(.atm (.v 0))]]⟩], (.clo 138 [] [(.ptr 0 0 0)]), false, []⟩
def sg67 : Sig := ⟨115, 1, [⟨false, false, 22, 1, (.c (.sl [])), [[(.atm (.v 0))]]⟩], [(.clo 138 [] [(.ptr 0 0 0)])], 2, [⟨false, false, 22, 1, (.c (.sl [])), [[(.atm (.v 1))]]⟩, ⟨false, true, 3, 1, (.v 0), []⟩], (.own 1), true, []⟩
def sg68 : Sig := ⟨114, 1, [⟨false, true, 3, 1, (.v 0), []⟩], [(.own 0)], 2, [⟨true, true, 3, 1, (.v 1), []⟩], (.atm (.v 0)), true, []⟩
def sg69 : Sig := ⟨117, 1, [], [(.atm (.v 0))], 1, [⟨false, true, 9, 1, (.v 0), []⟩], (.own 0), true, []⟩
def sg70 : Sig := ⟨118, 2, [], [(.atm (.v 0)), (.atm (.v 1))], 2, [], (.tup [(.atm (.v 0)), (.atm (.v 1))]), false, []⟩
def sg71 : Sig := ⟨127, 1, [], [(.atm (.v 0))], 1, [], (.atm (.v 0)), false, []⟩
def sg72 : Sig := ⟨93, 3, [], [(.agg [(.atm (.v 0)), (.atm (.v 1)), (.atm (.v 2))])], 1, [], (.atm (.v 0)), false, []⟩
def sg73 : Sig := ⟨94, 3, [], [(.agg [(.atm (.v 0)), (.atm (.v 1)), (.atm (.v 2))])], 1, [], (.atm (.v 0)), false, []⟩
def sg74 : Sig := ⟨133, 1, [], [(.atm (.v 0))], 2, [], (.tup [(.atm (.v 0)), (.atm (.v 1))]), false, []⟩
def sg75 : Sig := ⟨134, 7, [], [(.atm (.v 0)), (.agg [(.atm (.v 1)), (.atm (.v 2)), (.atm (.v 3))]), (.agg [(.atm (.v 4)), (.atm (.v 5)), (.atm (.v 6))])], 3, [], (.agg [(.atm (.v 0)), (.atm (.v 1)), (.atm (.v 2))]), true, []⟩
def sg76 : Sig := ⟨135, 2, [], [(.atm (.v 0)), (.atm (.v 1))], 1, [], (.atm (.v 0)), false, []⟩
def sg77 : Sig := ⟨136, 1, [⟨false, false, 22, 1, (.c (.sl [])), [[(.atm (.v 0))]]⟩], [(.clo 138 [] [(.ptr 0 0 0)])], 2, [⟨false, false, 22, 1, (.c (.sl [])), [[(.atm (.v 1))]]⟩, ⟨false, true, 3, 1, (.v 0), []⟩], (.own 1), true, []⟩
def sg78 : Sig := ⟨137, 1, [⟨false, true, 3, 1, (.v 0), []⟩], [(.own 0)], 1, [⟨false, true, 3, 1, (.v 0), []⟩], (.tup []), false, [0]⟩
def sg79 : Sig := ⟨139, 2, [], [(.atm (.v 0)), (.atm (.v 1))], 1, [], (.atm (.v 0)), false, []⟩
def sg80 : Sig := ⟨140, 1, [], [(.atm (.v 0))], 1, [], (.atm (.v 0)), false, []⟩
def sigs : List Sig := [sg0, sg1, sg2, sg3, sg4, sg5, sg6, sg7, sg8, sg9, sg10, sg11, sg12, sg13, sg14, sg15, sg16, sg17, sg18, sg19, sg20, sg21, sg22, sg23, sg24, sg25, sg26, sg27, sg28, sg29, sg30, sg31, sg32, sg33, sg34, sg35, sg36, sg37, sg38, sg39, sg40, sg41, sg42, sg43, sg44, sg45, sg46, sg47, sg48, sg49, sg50, sg51, sg52, sg53, sg54, sg55, sg56, sg57, sg58, sg59, sg60, sg61, sg62, sg63, sg64, sg65, sg66, sg67, sg68, sg69, sg70, sg71, sg72, sg73, sg74, sg75, sg76, sg77, sg78, sg79, sg80]
def an0 : Ann := (.s none .z (.s none .z (.s none .z (.s none .z (.s none .z (.s none .z (.s none (.s none .z (.b (.l ⟨5, [(0, .junk), (2, .junk), (8, (.atm (.v 0))), (35, .junk), (36, .junk), (37, .junk), (38, .junk), (39, .junk), (40, .junk), (41, .junk), (42, .junk), (43, .junk), (44, .junk), (45, .junk), (46, .junk), (47, .junk)], [(0, ⟨false, false, 80, 2, (.c (.sl [])), [[(.atm (.v 1)), (.atm (.v 2))]]⟩), (1, ⟨false, false, 29, 2, (.c (.sl [])), [[(.atm (.v 3)), (.atm (.v 4))]]⟩)], 2, []⟩ (.s none .z (.s (some ⟨14, [(48, .junk), (49, .junk)], [(0, ⟨false, false, 80, 2, (.c (.sl [])), [[(.atm (.v 0)), (.atm (.v 1))]]⟩), (1, ⟨false, false, 29, 2, (.c (.sl [])), [[(.atm (.v 2)), (.atm (.v 3))]]⟩), (2, ⟨false, false, 33, 3, (.c (.sl [])), [[(.atm (.v 4)), (.atm (.v 5)), (.atm (.v 6))]]⟩), (3, ⟨false, false, 33, 3, (.c (.sl [])), [[(.atm (.v 7)), (.atm (.v 8)), (.atm (.v 9))]]⟩), (4, ⟨false, false, 29, 2, (.c (.sl [])), [[(.atm (.v 10)), (.atm (.v 11))]]⟩), (5, ⟨false, false, 29, 2, (.c (.sl [])), [[(.atm (.v 12)), (.atm (.v 13))]]⟩)], 6, []⟩) (.b (.s none .z (.s none .z (.s none .z (.s none .z (.s none .z (.s none (.s (some ⟨1, [(11, .junk), (12, .junk), (13, .junk), (17, .junk), (48, .junk), (49, .junk), (52, .junk), (53, .junk), (54, .junk), (55, .junk), (56, .junk), (57, .junk), (58, .junk), (59, .junk), (60, .junk), (61, .junk), (62, .junk), (63, .junk), (64, .junk), (65, .junk), (66, .junk), (67, .junk), (68, .junk), (69, .junk), (70, .junk), (71, .junk), (72, .junk), (73, .junk), (74, .junk), (75, .junk), (76, .junk), (77, .junk), (78, .junk), (79, .junk), (80, .junk), (91, (.atm (.v 0)))], [], 6, []⟩) .z .z) (.s none .z (.s none .z (.s none (.s (some ⟨1, [(9, .junk), (10, .junk), (15, .junk), (16, .junk), (19, .junk), (91, .junk), (92, .junk), (93, .junk), (96, .junk), (97, .junk), (98, .junk), (99, .junk), (100, .junk), (101, .junk), (102, .junk), (114, (.atm (.v 0)))], [], 6, []⟩) .z .z) (.s none (.s none .z (.b (.l ⟨1, [(18, .junk), (114, .junk), (117, (.atm (.v 0)))], [], 6, []⟩ (.s none .z (.s none .z (.s none (.b (.s none .z (.s (some ⟨1, [(21, .junk), (118, .junk), (119, .junk), (120, .junk), (126, (.atm (.v 0)))], [], 6, []⟩) .z .z))) .z)))))) .z))))))))))) .z))))) .z)))))))
def ir0p0 : IR :=
 (.op (.bin .sub false) [(.v 17), (.c (.int .i64 1))]
 (.jump 0 [(.v 37), (.v 23), (.v 24), (.v 25), (.v 26)]))
def ir0p1 : IR :=
 (.ite (.v 49)
  (.ret [(.c (.bool false))])
 (.op (.bin .add false) [(.v 46), (.c (.int .i64 1))]
 (.jump 2 [(.v 50)])))
def ir0p2 : IR :=
 (.op (.bin .lss false) [(.v 46), (.v 45)]
 (.ite (.v 47)
  (.op (.row 1) [(.v 42), (.v 46)]
  (.letj 1
   (.op (.bin .leq false) [(.v 48), (.c (.int .i64 4))]
   (.ite (.v 49)
    (.jump 3 [(.c (.bool true))])
   (.op (.bin .eql false) [(.v 48), (.c (.int .i64 8))]
   (.jump 3 [(.v 50)]))))
  ir0p1))
 (.jump 1 [(.v 26), (.v 27), (.v 34), (.v 35), (.v 23), (.v 24), (.v 25), (.v 30), (.v 31), (.v 32), (.v 34), (.v 35), (.v 37), (.v 38)])))
def ir0p3 : IR :=
 (.ite (.v 44)
  (.ret [(.c (.bool false))])
 (.op .lenL [(.v 42)]
 (.loop 1 [(.c (.int .i64 0))] ir0p2)))
def ir0p4 : IR :=
 (.ite (.v 40)
  (.ret [(.c (.bool false))])
 (.op (.bin .eql false) [(.v 28), (.c (.int .u64 0))]
 (.ite (.v 41)
  (.op (.bin .neq false) [(.v 36), (.c (.int .i64 9))]
  (.ite (.v 42)
   (.ret [(.c (.bool false))])
  (.jump 1 [(.v 26), (.v 27), (.v 20), (.v 21), (.v 23), (.v 24), (.v 25), (.v 30), (.v 31), (.v 32), (.v 34), (.v 35), (.v 37), (.v 38)])))
 (.call 9 2 false [] [(.v 20), (.v 21), (.v 34), (.v 35), (.v 23), (.v 24), (.v 25)]
 (.letj 1
  (.op (.bin .neq false) [(.v 36), (.c (.int .i64 0))]
  (.ite (.v 44)
   (.jump 2 [(.c (.bool true))])
  (.op (.bin .neq false) [(.v 43), (.c (.int .i64 0))]
  (.ite (.v 45)
   (.jump 2 [(.c (.bool true))])
  (.call 10 1 false [] [(.v 34), (.v 35), (.v 37), (.v 38)]
  (.op (.un .not) [(.v 46)]
  (.jump 2 [(.v 47)])))))))
 ir0p3)))))
def ir0p5 : IR :=
 (.op (.bin .gtr false) [(.v 17), (.c (.int .i64 0))]
 (.ite (.v 22)
  (.letj 14
   (.call 5 5 false [] [(.v 3), (.c (.int .i64 3)), (.v 18), (.v 19)]
   (.call 6 2 false [] [(.v 6), (.v 23), (.v 24), (.v 25)]
   (.call 7 4 false [] [(.v 3), (.v 28)]
   (.call 8 3 false [] [(.v 20), (.v 21), (.v 23), (.v 24), (.v 25), (.v 7)]
   (.call 8 3 false [] [(.v 20), (.v 21), (.v 30), (.v 31), (.v 32), (.v 7)]
   (.letj 1
    (.op (.bin .neq false) [(.v 29), (.c (.int .i64 0))]
    (.ite (.v 40)
     (.jump 2 [(.c (.bool true))])
    (.op (.un .not) [(.v 33)]
    (.ite (.v 41)
     (.jump 2 [(.c (.bool true))])
    (.op (.bin .neq false) [(.v 36), (.v 39)]
    (.jump 2 [(.v 42)]))))))
   ir0p4))))))
  ir0p0)
 (.call 5 5 false [] [(.v 3), (.c (.int .i64 2)), (.v 18), (.v 19)]
 (.call 5 5 false [] [(.v 3), (.c (.int .i64 2)), (.v 26), (.v 27)]
 (.call 11 2 false [] [(.v 20), (.v 21), (.v 23), (.v 24), (.v 25)]
 (.call 6 2 false [] [(.v 6), (.v 28), (.v 29), (.v 30)]
 (.call 12 2 false [] [(.v 20), (.v 21), (.v 23), (.v 24), (.v 25), (.v 28), (.v 29), (.v 30)]
 (.op (.mk 3 1) [(.v 23), (.v 24), (.v 25)]
 (.call 13 2 true [] [(.v 20), (.v 21), (.c (.int .i64 4)), (.c (.str [])), (.v 39)]
 (.call 14 2 true [] [(.v 20), (.v 21), (.c (.int .i64 4)), (.c (.str [])), (.v 39)]
 (.op (.bin .eql false) [(.v 34), (.c (.int .i64 0))]
 (.ite (.v 44)
  (.op (.bin .eql false) [(.v 36), (.c (.int .i64 0))]
  (.ite (.v 45)
   (.op (.bin .eql false) [(.v 38), (.c (.int .i64 0))]
   (.ite (.v 46)
    (.op (.bin .eql false) [(.v 41), (.c (.int .i64 0))]
    (.ite (.v 47)
     (.op (.bin .eql false) [(.v 43), (.c (.int .i64 0))]
     (.ite (.v 48)
      (.op (.bin .andNot false) [(.v 33), (.v 35)]
      (.op (.bin .eql false) [(.v 49), (.c (.int .u64 0))]
      (.op (.bin .eql true) [(.v 37), (.v 50)]
      (.ite (.v 51)
       (.op (.bin .gtr false) [(.v 40), (.c (.int .i64 0))]
       (.op (.bin .eql true) [(.v 42), (.v 52)]
       (.ite (.v 53)
        (.call 15 1 false [] []
        (.ret [(.v 54)]))
       (.ret [(.c (.bool false))]))))
      (.ret [(.c (.bool false))])))))
     (.ret [(.c (.bool false))])))
    (.ret [(.c (.bool false))])))
   (.ret [(.c (.bool false))])))
  (.ret [(.c (.bool false))])))
 (.ret [(.c (.bool false))])))))))))))))
def ir0 : IR :=
 (.call 1 2 false [] [(.v 0)]
 (.call 2 3 false [] [(.c (.int .i64 1)), (.c (.int .i64 3)), (.v 1), (.v 2)]
 (.call 3 1 false [] [(.v 3)]
 (.call 2 3 false [] [(.c (.int .i64 1)), (.c (.int .i64 3)), (.v 4), (.v 5)]
 (.call 4 4 false [] [(.v 3), (.v 8), (.v 9)]
 (.call 2 3 false [] [(.c (.int .i64 1)), (.c (.int .i64 5)), (.v 12), (.v 13)]
 (.loop 5 [(.v 14), (.v 15), (.v 16), (.v 10), (.v 11)] ir0p5)))))))
theorem rd0 : readFn T SG sigs 3000 sg0 Tryz.f3 an0 = some ir0 := by kernel_rfl
def an1 : Ann := .z
def ir1 : IR :=
 (.op .lenL [(.v 0)]
 (.op .min [(.v 1), (.c (.int .i64 2000))]
 (.op (.subL 1) [(.v 0), (.c (.int .i64 0)), (.v 2)]
 (.ret [(.v 3), (.c (.int .i64 0))]))))
theorem rd1 : readFn T SG sigs 3000 sg1 Tryz.f6 an1 = some ir1 := by kernel_rfl
def an2 : Ann := .z
def ir2 : IR :=
 (.op (.bin .sub false) [(.v 1), (.v 0)]
 (.op (.bin .add false) [(.v 4), (.c (.int .i64 1))]
 (.call 16 3 false [] [(.v 5), (.v 2), (.v 3)]
 (.op (.bin .add false) [(.v 0), (.v 6)]
 (.ret [(.v 9), (.v 7), (.v 8)])))))
theorem rd2 : readFn T SG sigs 3000 sg2 Tryz.f7 an2 = some ir2 := by kernel_rfl
def an3 : Ann := (.s none .z (.s none .z (.s none (.s none .z (.b (.l ⟨2, [(2, .junk), (4, (.atm (.v 0)))], [(0, ⟨false, true, 9, 1, (.v 1), []⟩)], 1, [⟨none, 3, 9, 1⟩]⟩ .z))) .z)))
def ir3p0 : IR :=
 (.op (.bin .lss false) [(.v 1), (.v 0)]
 (.ite (.v 3)
  (.op (.bin .add false) [(.c (.int .i64 97)), (.v 1)]
  (.op (.conv .u8) [(.v 4)]
  (.op (.mk 1 1) [(.v 5)]
  (.op .toS [(.v 6)]
  (.op (.mk 1 1) [(.v 7)]
  (.op (.app 1 16) [(.v 2), (.v 8)]
  (.op (.bin .add false) [(.v 1), (.c (.int .i64 1))]
  (.jump 0 [(.v 10), (.v 9)]))))))))
 (.ret [(.v 2)])))
def ir3 : IR :=
 (.loop 2 [(.c (.int .i64 0)), (.c (.sl []))] ir3p0)
theorem rd3 : readFn T SG sigs 3000 sg3 Tryz.f8 an3 = some ir3 := by kernel_rfl
def an4 : Ann := (.s none .z (.s none .z (.s none .z (.s none (.s none .z (.b (.l ⟨4, [(7, (.atm (.v 0))), (10, .junk), (11, .junk), (12, .junk), (13, .junk), (14, .junk), (15, .junk)], [(0, ⟨false, false, 80, 2, (.c (.sl [])), [[(.atm (.v 1)), (.atm (.v 2))]]⟩), (2, ⟨false, true, 3, 1, (.v 3), []⟩)], 3, []⟩ .z))) .z))))
def ir4p0 : IR :=
 (.op .lenL [(.v 12)]
 (.op (.bin .lss false) [(.v 9), (.v 13)]
 (.ite (.v 14)
  (.call 16 3 false [] [(.v 6), (.v 10), (.v 11)]
  (.op .chk [(.v 12), (.v 9)]
  (.op (.set 0 1) [(.v 12), (.v 9), (.v 15)]
  (.op (.bin .add false) [(.v 9), (.c (.int .i64 1))]
  (.jump 0 [(.v 19), (.v 16), (.v 17), (.v 18)])))))
 (.call 3 1 false [] [(.v 0)]
 (.call 17 3 false [] [(.v 15), (.v 12)]
 (.ret [(.v 16), (.v 17), (.v 10), (.v 11)]))))))
def ir4 : IR :=
 (.op (.conv .u64) [(.v 0)]
 (.op (.bin .shl false) [(.c (.int .i64 1)), (.v 3)]
 (.op (.mkL 8 [(.int .i64 0)]) [(.v 4)]
 (.call 2 3 false [] [(.c (.int .i64 1)), (.c (.int .i64 6)), (.v 1), (.v 2)]
 (.loop 4 [(.c (.int .i64 0)), (.v 7), (.v 8), (.v 5)] ir4p0)))))
theorem rd4 : readFn T SG sigs 3000 sg4 Tryz.f9 an4 = some ir4 := by kernel_rfl
def an5 : Ann := (.s none .z (.s none .z (.s none (.s (some ⟨1, [(11, .junk), (12, .junk), (18, (.atm (.v 0)))], [], 2, []⟩) .z .z) (.s none .z (.s none .z (.s (some ⟨3, [(7, .junk), (9, (.atm (.v 0))), (18, .junk), (34, .junk), (35, .junk), (36, .junk), (37, .junk), (38, .junk), (39, .junk)], [(0, ⟨false, false, 80, 2, (.c (.sl [])), [[(.atm (.v 1)), (.atm (.v 2))]]⟩)], 4, []⟩) (.s none .z (.b (.s none .z (.c .z (.s (some ⟨1, [(7, .junk), (18, .junk), (34, .junk), (35, .junk), (36, .junk), (37, .junk), (38, .junk), (39, .junk), (40, .junk), (41, .junk), (42, .junk), (43, .junk), (44, (.atm (.v 0)))], [], 4, []⟩) .z .z))))) (.s none (.s none .z (.b (.l ⟨4, [(10, (.atm (.v 0)))], [(0, ⟨false, false, 80, 2, (.c (.sl [])), [[(.atm (.v 1)), (.atm (.v 2))]]⟩), (4, ⟨false, true, 33, 3, (.v 3), []⟩)], 5, [⟨some (3, 0, 2), 0, 33, 3⟩]⟩ .z))) .z)))))))
def ir5p0 : IR :=
 (.op (.bin .lss false) [(.v 14), (.v 11)]
 (.ite (.v 18)
  (.op (.bin .sub false) [(.v 1), (.c (.int .i64 1))]
  (.call 5 5 false [] [(.v 0), (.v 19), (.v 15), (.v 16)]
  (.op (.mk 3 1) [(.v 20), (.v 21), (.v 22)]
  (.op (.app 3 48) [(.v 17), (.v 25)]
  (.op (.bin .add false) [(.v 14), (.c (.int .i64 1))]
  (.jump 0 [(.v 27), (.v 23), (.v 24), (.v 26)]))))))
 (.ret [(.v 10), (.c (.str [])), (.v 17), (.v 15), (.v 16)])))
def ir5p1 : IR :=
 (.loop 4 [(.c (.int .i64 0)), (.v 12), (.v 13), (.c (.sl []))] ir5p0)
def ir5p2 : IR :=
 (.ite (.v 12)
  (.call 16 3 false [] [(.c (.int .i64 2)), (.v 5), (.v 6)]
  (.op (.bin .add false) [(.c (.int .i64 2)), (.v 13)]
  (.jump 0 [(.v 16), (.v 14), (.v 15)])))
 (.jump 0 [(.c (.int .i64 2)), (.v 5), (.v 6)]))
def ir5p3 : IR :=
 (.ite (.v 7)
  (.op (.bin .eql false) [(.v 4), (.c (.int .i64 0))]
  (.ite (.v 8)
   (.call 16 3 false [] [(.c (.int .i64 2)), (.v 5), (.v 6)]
   (.op (.bin .add false) [(.c (.int .i64 1)), (.v 9)]
   (.ret [(.v 12), (.c (.str [])), (.c (.sl [])), (.v 10), (.v 11)])))
  (.call 16 3 false [] [(.v 0), (.v 5), (.v 6)]
  (.op (.bin .add false) [(.c (.int .i64 97)), (.v 9)]
  (.op (.conv .u8) [(.v 12)]
  (.op (.mk 1 1) [(.v 13)]
  (.op .toS [(.v 14)]
  (.ret [(.c (.int .i64 3)), (.v 15), (.c (.sl [])), (.v 10), (.v 11)]))))))))
 (.op (.mk 1 8) [(.c (.int .i64 4)), (.c (.int .i64 4)), (.c (.int .i64 5)), (.c (.int .i64 5)), (.c (.int .i64 6)), (.c (.int .i64 6)), (.c (.int .i64 7)), (.c (.int .i64 8))]
 (.op (.bin .sub false) [(.v 4), (.c (.int .i64 4))]
 (.op .chk [(.v 8), (.v 9)]
 (.op (.get 0 1) [(.v 8), (.v 9)]
 (.letj 3
  (.op (.bin .eql false) [(.v 10), (.c (.int .i64 4))]
  (.ite (.v 11)
   (.jump 0 [(.c (.int .i64 1)), (.v 5), (.v 6)])
  (.letj 1
   (.op (.bin .eql false) [(.v 10), (.c (.int .i64 5))]
   (.ite (.v 12)
    (.jump 1 [(.c (.bool true))])
   (.op (.bin .eql false) [(.v 10), (.c (.int .i64 6))]
   (.jump 1 [(.v 13)]))))
  ir5p2)))
 ir5p1))))))
def ir5 : IR :=
 (.call 16 3 false [] [(.c (.int .i64 12)), (.v 2), (.v 3)]
 (.letj 1
  (.op (.bin .lss false) [(.v 1), (.c (.int .i64 1))]
  (.ite (.v 7)
   (.jump 0 [(.c (.bool true))])
  (.op (.bin .lss false) [(.v 4), (.c (.int .i64 4))]
  (.jump 0 [(.v 8)]))))
 ir5p3))
theorem rd5 : readFn T SG sigs 3000 sg5 Tryz.f10 an5 = some ir5 := by kernel_rfl
def an6 : Ann := (.s none .z (.s none .z (.s none .z (.s none (.s none .z (.b (.l ⟨1, [(1, .junk), (4, .junk), (5, .junk), (6, .junk), (9, .junk), (10, .junk), (11, .junk), (12, .junk), (13, .junk), (14, .junk), (15, .junk), (17, .junk), (20, (.atm (.v 0)))], [], 1, []⟩ .z))) .z))))
def ir6p0 : IR :=
 (.op (.bin .lss false) [(.v 10), (.v 9)]
 (.ite (.v 11)
  (.op (.row 1) [(.v 8), (.v 10)]
  (.call 21 1 false [] [(.v 0), (.v 12)]
  (.op (.un .not) [(.v 13)]
  (.ite (.v 14)
   (.ret [(.c (.int .u64 0)), (.c (.int .i64 6))])
  (.op (.bin .add false) [(.v 10), (.c (.int .i64 1))]
  (.jump 0 [(.v 15)]))))))
 (.call 22 1 false [] [(.v 0), (.v 1), (.v 2), (.v 3)]
 (.call 23 1 false [] [(.v 0)]
 (.op (.bin .and false) [(.v 12), (.v 13)]
 (.ret [(.v 14), (.c (.int .i64 0))]))))))
def ir6 : IR :=
 (.call 18 1 false [] [(.v 0)]
 (.op (.un .not) [(.v 4)]
 (.ite (.v 5)
  (.ret [(.c (.int .u64 0)), (.c (.int .i64 1))])
 (.call 19 1 false [] [(.v 1), (.v 2), (.v 3)]
 (.op (.bin .neq false) [(.v 6), (.c (.int .i64 0))]
 (.ite (.v 7)
  (.ret [(.c (.int .u64 0)), (.v 6)])
 (.call 20 1 false [] [(.v 1), (.v 2), (.v 3)]
 (.op .lenL [(.v 8)]
 (.loop 1 [(.c (.int .i64 0))] ir6p0)))))))))
theorem rd6 : readFn T SG sigs 3000 sg6 Tryz.f11 an6 = some ir6 := by kernel_rfl
def an7 : Ann := .z
def ir7 : IR :=
 (.call 3 1 false [] [(.v 0)]
 (.call 24 4 false [] [(.v 2), (.v 1)]
 (.op (.bin .eql false) [(.v 6), (.c (.int .i64 0))]
 (.ret [(.v 3), (.v 4), (.v 5), (.v 7)]))))
theorem rd7 : readFn T SG sigs 3000 sg7 Tryz.f12 an7 = some ir7 := by kernel_rfl
def an8 : Ann := .z
def ir8 : IR :=
 (.call 25 1 false [] [(.v 0), (.v 1), (.v 5)]
 (.op (.bin .neq false) [(.v 6), (.c (.int .i64 0))]
 (.ite (.v 7)
  (.ret [(.c (.sl [])), (.c (.sl [])), (.v 6)])
 (.call 6 2 false [] [(.v 0), (.v 2), (.v 3), (.v 4)]
 (.op (.bin .neq false) [(.v 9), (.c (.int .i64 0))]
 (.ite (.v 10)
  (.ret [(.c (.sl [])), (.c (.sl [])), (.v 9)])
 (.op (.bin .eql false) [(.v 8), (.c (.int .u64 0))]
 (.ite (.v 11)
  (.ret [(.c (.sl [])), (.c (.sl [])), (.c (.int .i64 9))])
 (.call 26 3 false [] [(.v 0), (.v 1), (.v 8), (.v 5)]
 (.ret [(.v 12), (.v 13), (.v 14)]))))))))))
theorem rd8 : readFn T SG sigs 3000 sg8 Tryz.f13 an8 = some ir8 := by kernel_rfl
def an9 : Ann := (.f [106, 107, 108, 109, 110, 111, 112] (.s none .z (.s none (.s none .z (.b (.l ⟨1, [(0, .junk), (1, .junk), (2, .junk), (6, .junk), (7, .junk), (24, .junk), (25, .junk), (28, (.atm (.v 0)))], [], 4, []⟩ .z))) (.s none .z (.s none .z (.s none .z (.s none .z (.s none .z (.s none .z (.s none (.s none .z (.b (.l ⟨2, [(5, .junk), (12, .junk), (26, .junk), (27, .junk), (28, .junk), (29, .junk), (38, .junk), (39, .junk), (40, .junk), (41, .junk), (42, .junk), (43, .junk), (44, .junk), (45, .junk), (46, .junk), (47, .junk), (48, .junk), (49, .junk), (50, .junk), (51, .junk), (52, .junk), (53, .junk), (55, .junk), (56, .junk), (57, .junk), (58, .junk), (59, .junk), (60, .junk), (61, .junk), (62, .junk), (63, .junk), (64, .junk), (65, .junk), (66, .junk), (67, .junk), (69, (.atm (.v 0)))], [(4, ⟨false, true, 4, 1, (.v 1), []⟩)], 5, []⟩ (.s none .z (.s none .z (.s none (.b (.s none .z (.s none .z (.b (.l ⟨2, [(70, .junk), (71, .junk), (72, .junk), (73, .junk), (75, (.atm (.v 0)))], [(4, ⟨false, true, 4, 1, (.v 1), []⟩)], 5, []⟩ (.s none .z (.s none .z (.s none (.b (.s none .z (.s (some ⟨5, [(17, .junk), (18, (.ptr 44 0 0)), (76, .junk), (77, .junk)], [(44, ⟨false, false, 103, 5, (.c (.sl [])), [[(.atm (.v 0)), (.atm (.v 1)), (.atm (.v 2)), (.atm (.v 3)), (.atm (.v 4))]]⟩)], 45, []⟩) .z (.s none .z (.b (.l ⟨2, [(119, (.atm (.v 0)))], [(4, ⟨false, true, 4, 1, (.v 1), []⟩)], 45, []⟩ (.s none .z (.s none .z (.s (some ⟨1, [(120, .junk)], [(4, ⟨false, true, 4, 1, (.v 0), []⟩)], 45, []⟩) .z .z))))))))) .z)))))))) .z)))))) (.s none .z (.s none .z (.s none (.s none .z (.b (.l ⟨2, [(3, .junk), (4, .junk), (11, .junk), (13, .junk), (14, .junk), (15, .junk), (68, .junk), (69, .junk), (70, .junk), (140, .junk), (141, .junk), (142, .junk), (143, .junk), (144, .junk), (145, .junk), (146, .junk), (147, .junk), (150, (.atm (.v 0)))], [(5, ⟨false, true, 3, 1, (.v 1), []⟩)], 6, [⟨none, 21, 3, 1⟩]⟩ (.s none .z (.s none .z (.s (some ⟨1, [(151, .junk)], [(5, ⟨false, true, 3, 1, (.v 0), []⟩)], 6, []⟩) .z .z)))))) .z)))))))))))))
def ir9p0 : IR :=
 (.op (.bin .add false) [(.v 36), (.c (.int .i64 1))]
 (.jump 3 [(.v 40), (.v 39)]))
def ir9p1 : IR :=
 (.op (.bin .lss false) [(.v 36), (.v 35)]
 (.ite (.v 38)
  (.letj 1
   (.op (.row 1) [(.v 18), (.v 36)]
   (.op .chk [(.v 37), (.v 36)]
   (.op (.get 0 1) [(.v 37), (.v 36)]
   (.ite (.v 40)
    (.op .chk [(.v 37), (.v 36)]
    (.op (.set 0 1) [(.v 37), (.v 36), (.c (.bool true))]
    (.jump 4 [(.v 41)])))
   (.isf (.v 39) 106
    (.call 33 1 false [] [(.v 30), (.v 31), (.v 32), (.v 33), (.v 34)]
    (.op (.un .not) [(.v 41)]
    (.op .chk [(.v 37), (.v 36)]
    (.op (.set 0 1) [(.v 37), (.v 36), (.v 42)]
    (.jump 4 [(.v 43)])))))
   (.isf (.v 39) 107
    (.call 34 1 false [] [(.v 30), (.v 31), (.v 32), (.v 33), (.v 34)]
    (.op (.un .not) [(.v 41)]
    (.op .chk [(.v 37), (.v 36)]
    (.op (.set 0 1) [(.v 37), (.v 36), (.v 42)]
    (.jump 4 [(.v 43)])))))
   (.isf (.v 39) 108
    (.call 35 1 false [] [(.v 30), (.v 31), (.v 32), (.v 33), (.v 34)]
    (.op (.un .not) [(.v 41)]
    (.op .chk [(.v 37), (.v 36)]
    (.op (.set 0 1) [(.v 37), (.v 36), (.v 42)]
    (.jump 4 [(.v 43)])))))
   (.isf (.v 39) 109
    (.call 36 1 false [] [(.v 30), (.v 31), (.v 32), (.v 33), (.v 34)]
    (.op (.un .not) [(.v 41)]
    (.op .chk [(.v 37), (.v 36)]
    (.op (.set 0 1) [(.v 37), (.v 36), (.v 42)]
    (.jump 4 [(.v 43)])))))
   (.isf (.v 39) 110
    (.call 37 1 false [] [(.v 30), (.v 31), (.v 32), (.v 33), (.v 34)]
    (.op (.un .not) [(.v 41)]
    (.op .chk [(.v 37), (.v 36)]
    (.op (.set 0 1) [(.v 37), (.v 36), (.v 42)]
    (.jump 4 [(.v 43)])))))
   (.isf (.v 39) 111
    (.call 38 1 false [] [(.v 30), (.v 31), (.v 32), (.v 33), (.v 34)]
    (.op (.un .not) [(.v 41)]
    (.op .chk [(.v 37), (.v 36)]
    (.op (.set 0 1) [(.v 37), (.v 36), (.v 42)]
    (.jump 4 [(.v 43)])))))
   (.isf (.v 39) 112
    (.call 39 1 false [] [(.v 30), (.v 31), (.v 32), (.v 33), (.v 34)]
    (.op (.un .not) [(.v 41)]
    (.op .chk [(.v 37), (.v 36)]
    (.op (.set 0 1) [(.v 37), (.v 36), (.v 42)]
    (.jump 4 [(.v 43)])))))
   .fail)))))))))))
  ir9p0)
 (.op (.bin .add false) [(.v 27), (.c (.int .i64 1))]
 (.jump 2 [(.v 39), (.v 37)]))))
def ir9p2 : IR :=
 (.op .lenL [(.v 18)]
 (.loop 2 [(.c (.int .i64 0)), (.v 28)] ir9p1))
def ir9p3 : IR :=
 (.op (.bin .lss false) [(.v 27), (.v 26)]
 (.ite (.v 29)
  (.letj 5
   (.op (.row 1) [(.v 1), (.v 23)]
   (.op (.row 1) [(.v 1), (.v 27)]
   (.call 31 1 false [] [(.v 30), (.v 31)]
   (.op (.row 1) [(.v 3), (.v 23)]
   (.op (.row 1) [(.v 3), (.v 27)]
   (.call 31 1 false [] [(.v 33), (.v 34)]
   (.call 32 1 false [] [(.v 13), (.v 23)]
   (.call 32 1 false [] [(.v 13), (.v 27)]
   (.call 32 1 false [] [(.v 17), (.v 23)]
   (.op (.un .not) [(.v 38)]
   (.ite (.v 39)
    (.call 32 1 false [] [(.v 17), (.v 27)]
    (.op (.un .not) [(.v 40)]
    (.jump 3 [(.v 32), (.v 35), (.v 36), (.v 37), (.v 41)])))
   (.jump 3 [(.v 32), (.v 35), (.v 36), (.v 37), (.c (.bool false))]))))))))))))
  ir9p2)
 (.op (.bin .add false) [(.v 23), (.c (.int .i64 1))]
 (.jump 1 [(.v 30), (.v 28)]))))
def ir9p4 : IR :=
 (.op (.bin .add false) [(.v 31), (.c (.int .i64 1))]
 (.jump 2 [(.v 35), (.v 34)]))
def ir9p5 : IR :=
 (.op (.bin .lss false) [(.v 31), (.v 30)]
 (.ite (.v 33)
  (.letj 1
   (.op .chk [(.v 29), (.v 31)]
   (.op (.get 0 1) [(.v 29), (.v 31)]
   (.ite (.v 34)
    (.op (.bin .add false) [(.v 31), (.c (.int .i64 1))]
    (.op (.mk 1 1) [(.v 35)]
    (.op (.app 1 8) [(.v 32), (.v 36)]
    (.jump 3 [(.v 37)]))))
   (.jump 3 [(.v 32)]))))
  ir9p4)
 (.ret [(.v 32), (.c (.int .i64 0))])))
def ir9p6 : IR :=
 (.op (.bin .lss false) [(.v 23), (.v 22)]
 (.ite (.v 25)
  (.op .lenL [(.v 1)]
  (.loop 2 [(.c (.int .i64 0)), (.v 24)] ir9p3))
 (.op .lenL [(.v 18)]
 (.call 40 1 false [] [(.v 2), (.v 3)]
 (.op (.bin .neq false) [(.v 27), (.v 17)]
 (.op .chk [(.v 24), (.v 26)]
 (.op (.set 0 1) [(.v 24), (.v 26), (.v 28)]
 (.op .lenL [(.v 29)]
 (.loop 2 [(.c (.int .i64 0)), (.c (.sl []))] ir9p5)))))))))
def ir9p7 : IR :=
 (.op (.bin .lss false) [(.v 9), (.v 8)]
 (.ite (.v 10)
  (.op .chk [(.v 7), (.v 9)]
  (.op (.get 0 2) [(.v 7), (.v 9)]
  (.call 27 1 false [] [(.v 11), (.v 12)]
  (.op (.bin .neq false) [(.v 13), (.c (.int .i64 0))]
  (.ite (.v 14)
   (.ret [(.c (.sl [])), (.v 13)])
  (.op (.bin .add false) [(.v 9), (.c (.int .i64 1))]
  (.jump 0 [(.v 15)])))))))
 (.call 28 1 false [] [(.v 0), (.v 2)]
 (.op (.un .not) [(.v 11)]
 (.ite (.v 12)
  (.ret [(.c (.sl [])), (.c (.int .i64 10))])
 (.call 6 2 false [] [(.v 0), (.v 4), (.v 5), (.v 6)]
 (.op (.bin .neq false) [(.v 14), (.c (.int .i64 0))]
 (.ite (.v 15)
  (.ret [(.c (.sl [])), (.v 14)])
 (.op (.bin .eql false) [(.v 13), (.c (.int .u64 0))]
 (.ite (.v 16)
  (.ret [(.c (.sl [])), (.c (.int .i64 9))])
 (.call 29 1 false [] [(.v 0), (.v 1), (.v 13)]
 (.call 30 1 false [] []
 (.op .lenL [(.v 18)]
 (.op (.bin .add false) [(.v 19), (.c (.int .i64 1))]
 (.op (.mkL 1 [(.bool false)]) [(.v 20)]
 (.op .lenL [(.v 1)]
 (.loop 2 [(.c (.int .i64 0)), (.v 21)] ir9p6)))))))))))))))))
def ir9 : IR :=
 (.op (.mk 2 2) [(.v 0), (.v 1), (.v 2), (.v 3)]
 (.op .lenL [(.v 7)]
 (.loop 1 [(.c (.int .i64 0))] ir9p7)))
theorem rd9 : readFn T SG sigs 3000 sg9 Tryz.f14 an9 = some ir9 := by kernel_rfl
def an10 : Ann := .z
def ir10 : IR :=
 (.call 28 1 false [] [(.v 0), (.v 2)]
 (.ite (.v 4)
  (.call 41 1 false [] [(.v 1), (.v 3)]
  (.ret [(.v 5)]))
 (.ret [(.c (.bool false))])))
theorem rd10 : readFn T SG sigs 3000 sg10 Tryz.f15 an10 = some ir10 := by kernel_rfl
def an11 : Ann := .z
def ir11 : IR :=
 (.call 42 3 false [] [(.v 0), (.v 1), (.v 2), (.v 3), (.v 4)]
 (.op (.bin .neq false) [(.v 7), (.c (.int .i64 0))]
 (.ite (.v 8)
  (.ret [(.c (.int .u64 0)), (.v 7)])
 (.call 29 1 false [] [(.v 0), (.v 1), (.v 5)]
 (.ret [(.v 9), (.c (.int .i64 0))])))))
theorem rd11 : readFn T SG sigs 3000 sg11 Tryz.f16 an11 = some ir11 := by kernel_rfl
def an12 : Ann := .z
def ir12 : IR :=
 (.call 27 1 false [] [(.v 0), (.v 1)]
 (.op (.bin .neq false) [(.v 8), (.c (.int .i64 0))]
 (.ite (.v 9)
  (.ret [(.c (.bool false)), (.v 8)])
 (.op (.mk 3 2) [(.v 2), (.v 3), (.v 4), (.v 5), (.v 6), (.v 7)]
 (.call 43 1 true [] [(.v 0), (.v 10)]
 (.op (.bin .neq false) [(.v 11), (.c (.int .i64 0))]
 (.ite (.v 12)
  (.ret [(.c (.bool false)), (.v 11)])
 (.call 6 2 false [] [(.v 0), (.v 2), (.v 3), (.v 4)]
 (.call 6 2 false [] [(.v 0), (.v 5), (.v 6), (.v 7)]
 (.call 29 1 false [] [(.v 0), (.v 1), (.v 13)]
 (.op (.bin .andNot false) [(.v 17), (.v 15)]
 (.op (.bin .eql false) [(.v 18), (.c (.int .u64 0))]
 (.ret [(.v 19), (.c (.int .i64 0))])))))))))))))
theorem rd12 : readFn T SG sigs 3000 sg12 Tryz.f17 an12 = some ir12 := by kernel_rfl
def an13 : Ann := (.s none .z (.s none .z (.s none .z (.s none .z (.s none .z (.s none (.s none .z (.b (.l ⟨2, [(0, .junk), (1, .junk), (2, .junk), (3, .junk), (4, .junk), (5, .junk), (6, .junk), (8, .junk), (9, (.atm (.v 0))), (12, .junk), (13, .junk), (14, .junk), (15, .junk), (17, .junk), (18, .junk), (19, .junk), (20, .junk), (21, .junk), (22, .junk), (23, .junk), (24, .junk), (25, .junk), (27, .junk), (28, .junk), (29, .junk), (30, .junk), (31, .junk), (34, (.atm (.v 1)))], [], 2, []⟩ (.s none .z (.s none .z (.s (some ⟨1, [(9, (.atm (.v 0))), (35, .junk)], [], 2, []⟩) .z .z)))))) .z))))))
def ir13p0 : IR :=
 (.op (.bin .add false) [(.v 14), (.c (.int .i64 1))]
 (.jump 0 [(.v 16), (.v 17)]))
def ir13p1 : IR :=
 (.op (.bin .lss false) [(.v 14), (.v 12)]
 (.ite (.v 15)
  (.letj 1
   (.op (.row 1) [(.v 1), (.v 14)]
   (.call 45 1 false [] [(.v 7), (.v 14)]
   (.op (.un .not) [(.v 17)]
   (.ite (.v 18)
    (.op .min [(.v 13), (.v 16)]
    (.jump 1 [(.v 19)]))
   (.jump 1 [(.v 13)])))))
  ir13p0)
 (.ret [(.v 13), (.c (.int .i64 0))])))
def ir13 : IR :=
 (.call 27 1 false [] [(.v 0), (.v 1)]
 (.op (.bin .neq false) [(.v 5), (.c (.int .i64 0))]
 (.ite (.v 6)
  (.ret [(.c (.int .i64 0)), (.v 5)])
 (.call 6 2 false [] [(.v 0), (.v 2), (.v 3), (.v 4)]
 (.op (.bin .neq false) [(.v 8), (.c (.int .i64 0))]
 (.ite (.v 9)
  (.ret [(.c (.int .i64 0)), (.v 8)])
 (.call 44 1 false [] [(.v 1)]
 (.op (.bin .add false) [(.v 10), (.c (.int .i64 1))]
 (.op .lenL [(.v 1)]
 (.loop 2 [(.v 11), (.c (.int .i64 0))] ir13p1))))))))))
theorem rd13 : readFn T SG sigs 3000 sg13 Tryz.f18 an13 = some ir13 := by kernel_rfl
def an14 : Ann := .z
def ir14 : IR :=
 (.call 27 1 false [] [(.v 0), (.v 1)]
 (.op (.bin .neq false) [(.v 5), (.c (.int .i64 0))]
 (.ite (.v 6)
  (.ret [(.c (.bool false)), (.v 5)])
 (.call 6 2 false [] [(.v 0), (.v 2), (.v 3), (.v 4)]
 (.op (.bin .neq false) [(.v 8), (.c (.int .i64 0))]
 (.ite (.v 9)
  (.ret [(.c (.bool false)), (.v 8)])
 (.call 40 1 false [] [(.v 0), (.v 1)]
 (.op (.bin .andNot false) [(.v 10), (.v 7)]
 (.op (.bin .eql false) [(.v 11), (.c (.int .u64 0))]
 (.ret [(.v 12), (.c (.int .i64 0))]))))))))))
theorem rd14 : readFn T SG sigs 3000 sg14 Tryz.f19 an14 = some ir14 := by kernel_rfl
def an15 : Ann := .z
def ir15 : IR :=
 (.call 3 1 false [] [(.c (.int .i64 2))]
 (.op (.mk 1 4) [(.c (.int .i64 2)), (.c (.int .i64 1)), (.c (.int .i64 2)), (.c (.int .i64 0))]
 (.call 46 3 false [] [(.v 0), (.v 1)]
 (.op (.row 1) [(.v 0), (.c (.int .i64 1))]
 (.op (.mk 3 1) [(.c (.int .i64 3)), (.v 5), (.c (.sl []))]
 (.call 11 2 true [] [(.v 2), (.v 3), (.c (.int .i64 4)), (.c (.str [])), (.v 6)]
 (.call 8 3 false [] [(.v 2), (.v 3), (.c (.int .i64 4)), (.c (.str [])), (.v 6), (.c (.int .i64 2))]
 (.op (.bin .eql false) [(.v 4), (.c (.int .i64 0))]
 (.ite (.v 12)
  (.op (.bin .eql false) [(.v 8), (.c (.int .i64 0))]
  (.ite (.v 13)
   (.op (.bin .eql false) [(.v 11), (.c (.int .i64 0))]
   (.ite (.v 14)
    (.op (.bin .eql false) [(.v 7), (.c (.int .u64 2))]
    (.ite (.v 15)
     (.op (.mk 1 4) [(.c (.int .i64 1)), (.c (.int .i64 0)), (.c (.int .i64 3)), (.c (.int .i64 2))]
     (.call 47 1 true [] [(.v 10), (.v 16)]
     (.ret [(.v 17)])))
    (.ret [(.c (.bool false))])))
   (.ret [(.c (.bool false))])))
  (.ret [(.c (.bool false))])))
 (.ret [(.c (.bool false))]))))))))))
theorem rd15 : readFn T SG sigs 3000 sg15 Tryz.f20 an15 = some ir15 := by kernel_rfl
def an16 : Ann := .z
def ir16 : IR :=
 (.call 48 3 false [] [(.v 1), (.v 2)]
 (.call 49 1 false [] [(.v 3), (.v 0)]
 (.ret [(.v 6), (.v 4), (.v 5)])))
theorem rd16 : readFn T SG sigs 3000 sg16 Tryz.f38 an16 = some ir16 := by kernel_rfl
def an17 : Ann := (.s none .z (.s none (.s (some ⟨1, [(5, .junk), (21, (.atm (.v 0)))], [], 1, []⟩) .z .z) (.s none .z (.s none (.s none .z (.b (.l ⟨2, [(0, .junk), (7, (.atm (.v 0))), (21, .junk), (24, .junk), (25, .junk), (26, .junk), (27, .junk), (28, .junk), (29, .junk)], [(6, ⟨false, true, 3, 1, (.v 1), []⟩)], 9, []⟩ (.s none .z (.s none (.b (.s none .z (.s none (.s none .z (.b (.l ⟨2, [(9, (.atm (.v 0))), (30, .junk), (31, .junk), (32, .junk), (33, .junk)], [(9, ⟨false, true, 3, 1, (.v 1), []⟩)], 10, [⟨none, 8, 3, 1⟩]⟩ (.s none .z (.s (some ⟨1, [(36, .junk), (37, .junk), (38, .junk), (39, .junk)], [(9, ⟨false, true, 3, 1, (.v 0), []⟩)], 10, []⟩) (.b (.s (some ⟨1, [(36, .junk), (37, .junk), (38, .junk), (39, .junk), (59, (.atm (.v 0)))], [], 10, []⟩) .z .z)) .z))))) .z))) .z))))) .z))))
def ir17p0 : IR :=
 (.op (.bin .add false) [(.v 10), (.c (.int .i64 1))]
 (.jump 1 [(.v 15), (.v 14)]))
def ir17p1 : IR :=
 (.ite (.v 14)
  (.op (.row 1) [(.v 1), (.v 10)]
  (.op (.mk 1 1) [(.v 15)]
  (.op (.app 1 8) [(.v 11), (.v 16)]
  (.jump 2 [(.v 17)]))))
 (.jump 2 [(.v 11)]))
def ir17p2 : IR :=
 (.op .lenL [(.v 1)]
 (.op (.bin .lss false) [(.v 10), (.v 12)]
 (.ite (.v 13)
  (.letj 1
   (.letj 1
    (.op (.row 1) [(.v 1), (.v 10)]
    (.op (.row 1) [(.v 1), (.v 6)]
    (.op (.bin .lss false) [(.v 14), (.v 15)]
    (.ite (.v 16)
     (.op (.row 1) [(.v 1), (.v 10)]
     (.call 51 1 true [] [(.v 11), (.v 17)]
     (.op (.un .not) [(.v 18)]
     (.jump 3 [(.v 19)]))))
    (.jump 3 [(.c (.bool false))])))))
   ir17p1)
  ir17p0)
 (.op .lenL [(.v 11)]
 (.op .chk [(.v 7), (.v 6)]
 (.op (.set 0 1) [(.v 7), (.v 6), (.v 14)]
 (.op (.bin .add false) [(.v 6), (.c (.int .i64 1))]
 (.jump 0 [(.v 16), (.v 15)]))))))))
def ir17p3 : IR :=
 (.op .lenL [(.v 1)]
 (.op (.bin .lss false) [(.v 6), (.v 8)]
 (.ite (.v 9)
  (.loop 2 [(.c (.int .i64 0)), (.c (.sl []))] ir17p2)
 (.ret [(.v 3), (.v 7), (.c (.int .i64 0))]))))
def ir17p4 : IR :=
 (.ite (.v 2)
  (.ret [(.c (.sl [])), (.c (.sl [])), (.c (.int .i64 1))])
 (.op (.app 1 16) [(.c (.sl [])), (.v 0)]
 (.op .lenL [(.v 1)]
 (.op (.mkL 8 [(.int .i64 0)]) [(.v 4)]
 (.loop 2 [(.c (.int .i64 0)), (.v 5)] ir17p3)))))
def ir17 : IR :=
 (.letj 1
  (.call 50 1 false [] [(.v 0)]
  (.op (.un .not) [(.v 2)]
  (.ite (.v 3)
   (.jump 0 [(.c (.bool true))])
  (.op .lenL [(.v 1)]
  (.op .lenL [(.v 0)]
  (.op (.conv .u64) [(.v 5)]
  (.op (.bin .shl false) [(.c (.int .i64 1)), (.v 6)]
  (.op (.bin .neq false) [(.v 4), (.v 7)]
  (.jump 0 [(.v 8)])))))))))
 ir17p4)
theorem rd17 : readFn T SG sigs 3000 sg17 Tryz.f39 an17 = some ir17 := by kernel_rfl
def an18 : Ann := (.s none .z (.s none .z (.s none (.s none .z (.b (.l ⟨1, [(2, .junk), (5, .junk), (6, .junk), (7, .junk), (10, (.atm (.v 0)))], [], 0, []⟩ (.s none .z (.s none .z (.s none (.b (.s none .z (.s (some ⟨1, [(3, .junk), (4, .junk), (11, .junk), (12, .junk), (13, .junk), (14, .junk), (30, (.atm (.v 0)))], [], 0, []⟩) .z .z))) .z)))))) .z)))
def ir18p0 : IR :=
 (.ite (.v 7)
  (.ret [(.c (.bool false))])
 (.op (.bin .add false) [(.v 4), (.c (.int .i64 1))]
 (.jump 0 [(.v 8)])))
def ir18p1 : IR :=
 (.op (.bin .lss false) [(.v 4), (.v 3)]
 (.ite (.v 5)
  (.op (.row 1) [(.v 0), (.v 4)]
  (.letj 1
   (.call 52 1 false [] [(.v 6)]
   (.op (.un .not) [(.v 7)]
   (.ite (.v 8)
    (.jump 1 [(.c (.bool true))])
   (.op (.bin .gtr false) [(.v 4), (.c (.int .i64 0))]
   (.ite (.v 9)
    (.op (.bin .sub false) [(.v 4), (.c (.int .i64 1))]
    (.op (.row 1) [(.v 0), (.v 10)]
    (.op (.bin .geq false) [(.v 11), (.v 6)]
    (.jump 1 [(.v 12)]))))
   (.jump 1 [(.c (.bool false))]))))))
  ir18p0))
 (.ret [(.c (.bool true))])))
def ir18 : IR :=
 (.op .lenL [(.v 0)]
 (.op (.bin .gtr false) [(.v 1), (.c (.int .i64 6))]
 (.ite (.v 2)
  (.ret [(.c (.bool false))])
 (.op .lenL [(.v 0)]
 (.loop 1 [(.c (.int .i64 0))] ir18p1)))))
theorem rd18 : readFn T SG sigs 3000 sg18 Tryz.f40 an18 = some ir18 := by kernel_rfl
def an19 : Ann := (.s none .z (.s none (.b (.s (some ⟨1, [(0, .junk), (2, .junk), (3, (.atm (.v 0)))], [], 1, []⟩) .z .z)) .z))
def ir19p0 : IR :=
 (.ite (.v 3)
  (.ret [(.c (.int .i64 2))])
 (.call 55 1 false [] [(.v 0), (.v 1), (.v 2)]
 (.op (.un .not) [(.v 4)]
 (.ite (.v 5)
  (.ret [(.c (.int .i64 4))])
 (.call 56 1 false [] [(.v 0), (.v 1), (.v 2)]
 (.op (.un .not) [(.v 6)]
 (.ite (.v 7)
  (.ret [(.c (.int .i64 3))])
 (.ret [(.c (.int .i64 0))]))))))))
def ir19 : IR :=
 (.letj 1
  (.call 53 1 false [] [(.v 0), (.v 1), (.v 2)]
  (.op (.bin .gtr false) [(.v 3), (.c (.int .i64 600))]
  (.ite (.v 4)
   (.jump 0 [(.c (.bool true))])
  (.call 54 1 false [] [(.v 0), (.v 1), (.v 2)]
  (.op (.bin .gtr false) [(.v 5), (.c (.int .i64 20))]
  (.jump 0 [(.v 6)]))))))
 ir19p0)
theorem rd19 : readFn T SG sigs 3000 sg19 Tryz.f41 an19 = some ir19 := by kernel_rfl
def an21 : Ann := .z
def ir21 : IR :=
 (.call 57 1 false [] [(.v 0), (.v 1)]
 (.op (.bin .geq false) [(.v 2), (.c (.int .i64 0))]
 (.ret [(.v 3)])))
theorem rd21 : readFn T SG sigs 3000 sg21 Tryz.f43 an21 = some ir21 := by kernel_rfl
def an22 : Ann := (.s none .z (.s none (.s none .z (.b (.s none .z (.c .z (.s none .z (.c .z (.s none .z (.c .z (.s none .z (.c .z (.s none .z (.c .z (.s none .z (.c (.s none .z (.s none (.s none .z (.b (.l ⟨2, [(1, .junk), (3, .junk), (4, .junk), (5, (.atm (.v 0))), (11, .junk), (12, .junk), (13, .junk), (14, .junk), (15, .junk), (16, .junk), (22, .junk), (23, .junk), (31, .junk), (32, .junk), (47, .junk), (48, .junk), (63, .junk), (64, .junk), (65, .junk), (68, (.atm (.v 1)))], [], 1, []⟩ .z))) .z)) .z)))))))))))))) (.s none .z (.s none (.s none .z (.b (.l ⟨2, [(1, .junk), (3, .junk), (4, .junk), (8, (.atm (.v 0))), (11, .junk), (12, .junk), (13, .junk), (14, .junk), (15, .junk), (16, .junk), (22, .junk), (23, .junk), (31, .junk), (32, .junk), (47, .junk), (48, .junk), (63, .junk), (64, .junk), (79, .junk), (82, (.atm (.v 1)))], [], 1, []⟩ .z))) .z))))
def ir22p0 : IR :=
 (.op (.bin .lss false) [(.v 12), (.v 10)]
 (.ite (.v 13)
  (.op (.row 3) [(.v 3), (.v 12)]
  (.call 22 1 false [] [(.v 0), (.v 14), (.v 15), (.v 16)]
  (.op (.bin .and false) [(.v 11), (.v 17)]
  (.op (.bin .add false) [(.v 12), (.c (.int .i64 1))]
  (.jump 0 [(.v 18), (.v 19)])))))
 (.ret [(.v 11)])))
def ir22p1 : IR :=
 (.op (.bin .lss false) [(.v 12), (.v 10)]
 (.ite (.v 13)
  (.op (.row 3) [(.v 3), (.v 12)]
  (.call 22 1 false [] [(.v 0), (.v 14), (.v 15), (.v 16)]
  (.op (.bin .or false) [(.v 11), (.v 17)]
  (.op (.bin .add false) [(.v 12), (.c (.int .i64 1))]
  (.jump 0 [(.v 18), (.v 19)])))))
 (.ret [(.v 11)])))
def ir22 : IR :=
 (.op (.bin .eql false) [(.v 1), (.c (.int .i64 1))]
 (.ite (.v 4)
  (.ret [(.c (.int .u64 18446744073709551615))])
 (.op (.bin .eql false) [(.v 1), (.c (.int .i64 3))]
 (.ite (.v 5)
  (.call 57 1 false [] [(.v 0), (.v 2)]
  (.call 58 1 false [] [(.v 6)]
  (.ret [(.v 7)])))
 (.op (.bin .eql false) [(.v 1), (.c (.int .i64 4))]
 (.ite (.v 6)
  (.op (.row 3) [(.v 3), (.c (.int .i64 0))]
  (.call 22 1 false [] [(.v 0), (.v 7), (.v 8), (.v 9)]
  (.op (.un .xor) [(.v 10)]
  (.ret [(.v 11)]))))
 (.op (.bin .eql false) [(.v 1), (.c (.int .i64 7))]
 (.ite (.v 7)
  (.op (.row 3) [(.v 3), (.c (.int .i64 0))]
  (.call 22 1 false [] [(.v 0), (.v 8), (.v 9), (.v 10)]
  (.op (.un .xor) [(.v 11)]
  (.op (.row 3) [(.v 3), (.c (.int .i64 1))]
  (.call 22 1 false [] [(.v 0), (.v 13), (.v 14), (.v 15)]
  (.op (.bin .or false) [(.v 12), (.v 16)]
  (.ret [(.v 17)])))))))
 (.op (.bin .eql false) [(.v 1), (.c (.int .i64 8))]
 (.ite (.v 8)
  (.op (.row 3) [(.v 3), (.c (.int .i64 0))]
  (.call 22 1 false [] [(.v 0), (.v 9), (.v 10), (.v 11)]
  (.op (.row 3) [(.v 3), (.c (.int .i64 1))]
  (.call 22 1 false [] [(.v 0), (.v 13), (.v 14), (.v 15)]
  (.op (.bin .xor false) [(.v 12), (.v 16)]
  (.op (.un .xor) [(.v 17)]
  (.ret [(.v 18)])))))))
 (.op (.bin .eql false) [(.v 1), (.c (.int .i64 5))]
 (.ite (.v 9)
  (.op .lenL [(.v 3)]
  (.loop 2 [(.c (.int .u64 18446744073709551615)), (.c (.int .i64 0))] ir22p0))
 (.op .lenL [(.v 3)]
 (.loop 2 [(.c (.int .u64 0)), (.c (.int .i64 0))] ir22p1))))))))))))))
theorem rd22 : readFn T SG sigs 3000 sg22 Tryz.f44 an22 = some ir22 := by kernel_rfl
def an23 : Ann := .z
def ir23 : IR :=
 (.call 18 1 false [] [(.v 0)]
 (.op (.un .not) [(.v 1)]
 (.ite (.v 2)
  (.ret [(.c (.int .u64 0))])
 (.op .lenL [(.v 0)]
 (.call 59 1 false [] [(.v 3)]
 (.ret [(.v 4)]))))))
theorem rd23 : readFn T SG sigs 3000 sg23 Tryz.f45 an23 = some ir23 := by kernel_rfl
def an24 : Ann := .z
def ir24 : IR :=
 (.call 18 1 false [] [(.v 0)]
 (.op (.un .not) [(.v 2)]
 (.ite (.v 3)
  (.ret [(.c (.int .i64 0)), (.c (.str [])), (.c (.sl [])), (.c (.int .i64 1))])
 (.call 23 1 false [] [(.v 0)]
 (.op (.bin .and false) [(.v 1), (.v 4)]
 (.call 60 3 false [] [(.v 0), (.v 5)]
 (.ret [(.v 6), (.v 7), (.v 8), (.c (.int .i64 0))])))))))
theorem rd24 : readFn T SG sigs 3000 sg24 Tryz.f46 an24 = some ir24 := by kernel_rfl
def an25 : Ann := .z
def ir25 : IR :=
 (.call 27 1 false [] [(.v 0), (.v 1)]
 (.op (.bin .neq false) [(.v 3), (.c (.int .i64 0))]
 (.ite (.v 4)
  (.ret [(.v 3)])
 (.call 61 1 false [] [(.v 2)]
 (.op (.un .not) [(.v 5)]
 (.ite (.v 6)
  (.ret [(.c (.int .i64 4))])
 (.ret [(.c (.int .i64 0))])))))))
theorem rd25 : readFn T SG sigs 3000 sg25 Tryz.f47 an25 = some ir25 := by kernel_rfl
def an26 : Ann := (.s none .z (.s none .z (.s none .z (.s none (.s none .z (.b (.l ⟨2, [(0, .junk), (7, .junk), (11, .junk), (12, .junk), (13, .junk), (14, .junk), (15, .junk), (16, .junk), (17, .junk), (18, .junk), (20, (.atm (.v 0)))], [(2, ⟨false, true, 3, 1, (.v 1), []⟩)], 3, []⟩ .z))) .z))))
def ir26p0 : IR :=
 (.op (.bin .lss false) [(.v 8), (.v 7)]
 (.ite (.v 10)
  (.call 62 1 false [] [(.v 0), (.v 1), (.v 8), (.v 2), (.v 4), (.v 3)]
  (.op .chk [(.v 9), (.v 8)]
  (.op (.set 0 1) [(.v 9), (.v 8), (.v 11)]
  (.op (.bin .add false) [(.v 8), (.c (.int .i64 1))]
  (.jump 0 [(.v 13), (.v 12)])))))
 (.call 46 3 false [] [(.v 0), (.v 9)]
 (.ret [(.v 11), (.v 12), (.v 13)]))))
def ir26 : IR :=
 (.call 29 1 false [] [(.v 0), (.v 1), (.v 2)]
 (.op .lenL [(.v 1)]
 (.op (.mkL 8 [(.int .i64 0)]) [(.v 5)]
 (.op .lenL [(.v 6)]
 (.loop 2 [(.c (.int .i64 0)), (.v 6)] ir26p0)))))
theorem rd26 : readFn T SG sigs 3000 sg26 Tryz.f48 an26 = some ir26 := by kernel_rfl
def an27 : Ann := (.s none .z (.s none (.s (some ⟨1, [(0, .junk), (2, .junk), (20, (.atm (.v 0)))], [], 1, []⟩) .z .z) (.s none .z (.s none .z (.s none (.s none .z (.b (.l ⟨3, [(1, .junk), (4, (.atm (.v 0))), (20, .junk), (21, .junk), (22, .junk), (23, .junk), (24, .junk), (25, .junk), (28, (.atm (.v 1)))], [(1, ⟨false, true, 4, 1, (.v 2), []⟩)], 2, []⟩ (.s none .z (.s none .z (.s none (.b (.s none .z (.s none (.s (some ⟨1, [(29, .junk), (30, .junk), (31, .junk), (39, (.atm (.v 0)))], [], 2, []⟩) .z .z) .z))) .z)))))) .z)))))
def ir27p0 : IR :=
 (.ite (.v 11)
  (.ret [(.c (.int .i64 8))])
 (.op .max [(.v 6), (.v 10)]
 (.op .chk [(.v 8), (.v 10)]
 (.op (.set 0 1) [(.v 8), (.v 10), (.c (.bool true))]
 (.op (.bin .add false) [(.v 7), (.c (.int .i64 1))]
 (.jump 0 [(.v 12), (.v 14), (.v 13)]))))))
def ir27p1 : IR :=
 (.op (.bin .lss false) [(.v 7), (.v 5)]
 (.ite (.v 9)
  (.op (.row 1) [(.v 1), (.v 7)]
  (.letj 1
   (.op (.bin .lss false) [(.v 10), (.c (.int .i64 0))]
   (.ite (.v 11)
    (.jump 1 [(.c (.bool true))])
   (.op .lenL [(.v 8)]
   (.op (.bin .geq false) [(.v 10), (.v 12)]
   (.jump 1 [(.v 13)])))))
  ir27p0))
 (.op (.subL 1) [(.v 8), (.c (.int .i64 0)), (.v 6)]
 (.call 63 1 false [] [(.v 10), (.c (.bool false))]
 (.ite (.v 11)
  (.ret [(.c (.int .i64 8))])
 (.ret [(.c (.int .i64 0))]))))))
def ir27p2 : IR :=
 (.ite (.v 2)
  (.ret [(.c (.int .i64 1))])
 (.op .lenL [(.v 1)]
 (.op (.mkL 1 [(.bool false)]) [(.v 3)]
 (.op .lenL [(.v 1)]
 (.loop 3 [(.c (.int .i64 0)), (.c (.int .i64 0)), (.v 4)] ir27p1)))))
def ir27 : IR :=
 (.letj 1
  (.call 18 1 false [] [(.v 0)]
  (.op (.un .not) [(.v 2)]
  (.ite (.v 3)
   (.jump 0 [(.c (.bool true))])
  (.op .lenL [(.v 1)]
  (.op .lenL [(.v 0)]
  (.op (.bin .shl false) [(.c (.int .i64 1)), (.v 5)]
  (.op (.bin .neq false) [(.v 4), (.v 6)]
  (.jump 0 [(.v 7)]))))))))
 ir27p2)
theorem rd27 : readFn T SG sigs 3000 sg27 Tryz.f49 an27 = some ir27 := by kernel_rfl
def an28 : Ann := (.s none .z (.s none .z (.s none (.s none .z (.b (.l ⟨1, [(4, .junk), (6, .junk), (7, .junk), (8, .junk), (9, .junk), (10, .junk), (11, .junk), (13, (.atm (.v 0)))], [], 0, []⟩ .z))) .z)))
def ir28p0 : IR :=
 (.op (.bin .lss false) [(.v 6), (.v 5)]
 (.ite (.v 7)
  (.op (.row 1) [(.v 0), (.v 6)]
  (.op (.row 1) [(.v 1), (.v 6)]
  (.op (.bin .neq false) [(.v 8), (.v 9)]
  (.ite (.v 10)
   (.ret [(.c (.bool false))])
  (.op (.bin .add false) [(.v 6), (.c (.int .i64 1))]
  (.jump 0 [(.v 11)]))))))
 (.ret [(.c (.bool true))])))
def ir28 : IR :=
 (.op .lenL [(.v 0)]
 (.op .lenL [(.v 1)]
 (.op (.bin .neq false) [(.v 2), (.v 3)]
 (.ite (.v 4)
  (.ret [(.c (.bool false))])
 (.op .lenL [(.v 0)]
 (.loop 1 [(.c (.int .i64 0))] ir28p0))))))
theorem rd28 : readFn T SG sigs 3000 sg28 Tryz.f50 an28 = some ir28 := by kernel_rfl
def an29 : Ann := (.s none .z (.s none (.s none .z (.b (.l ⟨1, [(0, .junk), (2, .junk), (4, .junk), (7, .junk), (10, (.atm (.v 0)))], [], 1, []⟩ .z))) .z))
def ir29p0 : IR :=
 (.op (.bin .lss false) [(.v 5), (.v 4)]
 (.ite (.v 6)
  (.op (.row 1) [(.v 3), (.v 5)]
  (.op (.bin .and false) [(.v 7), (.v 2)]
  (.op (.bin .neq false) [(.v 8), (.c (.int .u64 0))]
  (.ite (.v 9)
   (.op (.bin .and false) [(.v 7), (.v 2)]
   (.ret [(.v 10)]))
  (.op (.bin .add false) [(.v 5), (.c (.int .i64 1))]
  (.jump 0 [(.v 10)]))))))
 (.ret [(.c (.int .u64 0))])))
def ir29 : IR :=
 (.call 64 1 false [] [(.v 0), (.v 1)]
 (.op .lenL [(.v 3)]
 (.loop 1 [(.c (.int .i64 0))] ir29p0)))
theorem rd29 : readFn T SG sigs 3000 sg29 Tryz.f51 an29 = some ir29 := by kernel_rfl
def an30 : Ann := .z
def ir30 : IR :=
 (.op (.mk 1 7) [(.c (fnD 106)), (.c (fnD 107)), (.c (fnD 108)), (.c (fnD 109)), (.c (fnD 110)), (.c (fnD 111)), (.c (fnD 112))]
 (.ret [(.v 0)]))
theorem rd30 : readFn T SG sigs 3000 sg30 Tryz.f52 an30 = some ir30 := by kernel_rfl
def an31 : Ann := .z
def ir31 : IR :=
 (.call 65 1 false [] [(.v 0)]
 (.call 65 1 false [] [(.v 1)]
 (.ite (.v 2)
  (.ite (.v 3)
   (.ret [(.c (.int .i64 0))])
  (.ret [(.c (.int .i64 (-1)))]))
 (.ite (.v 3)
  (.ret [(.c (.int .i64 1))])
 (.op (.bin .lss false) [(.v 0), (.v 1)]
 (.ite (.v 4)
  (.ret [(.c (.int .i64 (-1)))])
 (.op (.bin .gtr false) [(.v 0), (.v 1)]
 (.ite (.v 5)
  (.ret [(.c (.int .i64 1))])
 (.ret [(.c (.int .i64 0))])))))))))
theorem rd31 : readFn T SG sigs 3000 sg31 Tryz.f53 an31 = some ir31 := by kernel_rfl
def an32 : Ann := .z
def ir32 : IR :=
 (.op (.conv .u64) [(.v 1)]
 (.op (.bin .shr false) [(.v 0), (.v 2)]
 (.op (.bin .and false) [(.v 3), (.c (.int .u64 1))]
 (.op (.bin .eql false) [(.v 4), (.c (.int .u64 1))]
 (.ret [(.v 5)])))))
theorem rd32 : readFn T SG sigs 3000 sg32 Tryz.f54 an32 = some ir32 := by kernel_rfl
def an33 : Ann := .z
def ir33 : IR :=
 (.op (.un .not) [(.v 2)]
 (.ite (.v 5)
  (.ret [(.c (.bool true))])
 (.op (.un .not) [(.v 3)]
 (.ite (.v 6)
  (.ret [(.c (.bool true))])
 (.op (.bin .eql false) [(.v 0), (.v 1)]
 (.ret [(.v 7)]))))))
theorem rd33 : readFn T SG sigs 3000 sg33 Tryz.f106 an33 = some ir33 := by kernel_rfl
def an34 : Ann := .z
def ir34 : IR :=
 (.ite (.v 2)
  (.ret [(.c (.bool true))])
 (.ite (.v 3)
  (.ret [(.c (.bool true))])
 (.op (.bin .eql false) [(.v 0), (.v 1)]
 (.ret [(.v 5)]))))
theorem rd34 : readFn T SG sigs 3000 sg34 Tryz.f107 an34 = some ir34 := by kernel_rfl
def an35 : Ann := .z
def ir35 : IR :=
 (.op (.un .not) [(.v 2)]
 (.ite (.v 5)
  (.ret [(.c (.bool true))])
 (.ite (.v 3)
  (.ret [(.c (.bool true))])
 (.op (.bin .geq false) [(.v 0), (.c (.int .i64 0))]
 (.ite (.v 6)
  (.ret [(.c (.bool true))])
 (.op (.bin .lss false) [(.v 1), (.c (.int .i64 0))]
 (.ret [(.v 7)])))))))
theorem rd35 : readFn T SG sigs 3000 sg35 Tryz.f108 an35 = some ir35 := by kernel_rfl
def an36 : Ann := .z
def ir36 : IR :=
 (.op (.un .not) [(.v 2)]
 (.ite (.v 5)
  (.ret [(.c (.bool true))])
 (.ite (.v 3)
  (.ret [(.c (.bool true))])
 (.op (.bin .gtr false) [(.v 0), (.c (.int .i64 0))]
 (.ite (.v 6)
  (.ret [(.c (.bool true))])
 (.op (.bin .leq false) [(.v 1), (.c (.int .i64 0))]
 (.ret [(.v 7)])))))))
theorem rd36 : readFn T SG sigs 3000 sg36 Tryz.f109 an36 = some ir36 := by kernel_rfl
def an37 : Ann := .z
def ir37 : IR :=
 (.op (.un .not) [(.v 2)]
 (.ite (.v 5)
  (.ret [(.c (.bool true))])
 (.ite (.v 3)
  (.ret [(.c (.bool true))])
 (.op (.bin .gtr false) [(.v 0), (.c (.int .i64 0))]
 (.ite (.v 6)
  (.ret [(.c (.bool true))])
 (.op (.bin .lss false) [(.v 1), (.c (.int .i64 0))]
 (.ret [(.v 7)])))))))
theorem rd37 : readFn T SG sigs 3000 sg37 Tryz.f110 an37 = some ir37 := by kernel_rfl
def an38 : Ann := .z
def ir38 : IR :=
 (.op (.un .not) [(.v 2)]
 (.ite (.v 5)
  (.ret [(.c (.bool true))])
 (.ite (.v 3)
  (.ret [(.c (.bool true))])
 (.op (.bin .lss false) [(.v 1), (.c (.int .i64 0))]
 (.ret [(.v 6)])))))
theorem rd38 : readFn T SG sigs 3000 sg38 Tryz.f111 an38 = some ir38 := by kernel_rfl
def an39 : Ann := .z
def ir39 : IR :=
 (.op (.un .not) [(.v 4)]
 (.ite (.v 5)
  (.ret [(.c (.bool true))])
 (.op (.bin .eql false) [(.v 0), (.v 1)]
 (.ret [(.v 6)]))))
theorem rd39 : readFn T SG sigs 3000 sg39 Tryz.f112 an39 = some ir39 := by kernel_rfl
def an40 : Ann := .z
def ir40 : IR :=
 (.call 29 1 false [] [(.v 0), (.v 1), (.c (.int .u64 18446744073709551615))]
 (.ret [(.v 2)]))
theorem rd40 : readFn T SG sigs 3000 sg40 Tryz.f55 an40 = some ir40 := by kernel_rfl
def an41 : Ann := (.s none .z (.s none .z (.s none (.s none .z (.b (.l ⟨1, [(4, .junk), (6, .junk), (7, .junk), (8, .junk), (9, .junk), (10, .junk), (11, .junk), (13, (.atm (.v 0)))], [], 0, []⟩ .z))) .z)))
def ir41p0 : IR :=
 (.op (.bin .lss false) [(.v 6), (.v 5)]
 (.ite (.v 7)
  (.op (.row 1) [(.v 0), (.v 6)]
  (.op (.row 1) [(.v 1), (.v 6)]
  (.op (.bin .neq false) [(.v 8), (.v 9)]
  (.ite (.v 10)
   (.ret [(.c (.bool false))])
  (.op (.bin .add false) [(.v 6), (.c (.int .i64 1))]
  (.jump 0 [(.v 11)]))))))
 (.ret [(.c (.bool true))])))
def ir41 : IR :=
 (.op .lenL [(.v 0)]
 (.op .lenL [(.v 1)]
 (.op (.bin .neq false) [(.v 2), (.v 3)]
 (.ite (.v 4)
  (.ret [(.c (.bool false))])
 (.op .lenL [(.v 0)]
 (.loop 1 [(.c (.int .i64 0))] ir41p0))))))
theorem rd41 : readFn T SG sigs 3000 sg41 Tryz.f56 an41 = some ir41 := by kernel_rfl
def an42 : Ann := .z
def ir42 : IR :=
 (.call 27 1 false [] [(.v 0), (.v 1)]
 (.op (.bin .neq false) [(.v 5), (.c (.int .i64 0))]
 (.ite (.v 6)
  (.ret [(.c (.int .u64 0)), (.c (.int .u64 0)), (.v 5)])
 (.call 6 2 false [] [(.v 0), (.v 2), (.v 3), (.v 4)]
 (.call 23 1 false [] [(.v 0)]
 (.ret [(.v 7), (.v 9), (.v 8)]))))))
theorem rd42 : readFn T SG sigs 3000 sg42 Tryz.f57 an42 = some ir42 := by kernel_rfl
def an43 : Ann := (.s none .z (.s none (.s none .z (.b (.l ⟨1, [(1, .junk), (4, .junk), (11, (.atm (.v 0)))], [], 0, []⟩ .z))) .z))
def ir43p0 : IR :=
 (.op (.bin .lss false) [(.v 3), (.v 2)]
 (.ite (.v 4)
  (.op (.row 3) [(.v 1), (.v 3)]
  (.call 6 2 false [] [(.v 0), (.v 5), (.v 6), (.v 7)]
  (.op (.bin .neq false) [(.v 9), (.c (.int .i64 0))]
  (.ite (.v 10)
   (.ret [(.v 9)])
  (.op (.bin .add false) [(.v 3), (.c (.int .i64 1))]
  (.jump 0 [(.v 11)]))))))
 (.ret [(.c (.int .i64 0))])))
def ir43 : IR :=
 (.op .lenL [(.v 1)]
 (.loop 1 [(.c (.int .i64 0))] ir43p0))
theorem rd43 : readFn T SG sigs 3000 sg43 Tryz.f58 an43 = some ir43 := by kernel_rfl
def an44 : Ann := (.s none .z (.s none .z (.s none .z (.s none (.s none .z (.b (.l ⟨2, [(2, .junk), (3, (.atm (.v 0))), (4, (.atm (.v 1))), (5, .junk), (6, .junk), (7, .junk), (9, .junk), (10, .junk), (11, .junk)], [], 0, []⟩ .z))) .z))))
def ir44p0 : IR :=
 (.op .lenL [(.v 0)]
 (.op (.bin .lss false) [(.v 5), (.v 6)]
 (.ite (.v 7)
  (.op (.row 1) [(.v 0), (.v 5)]
  (.op .max [(.v 4), (.v 8)]
  (.op (.bin .add false) [(.v 5), (.c (.int .i64 1))]
  (.jump 0 [(.v 9), (.v 10)]))))
 (.ret [(.v 4)]))))
def ir44 : IR :=
 (.op .lenL [(.v 0)]
 (.op (.bin .lss false) [(.v 1), (.c (.int .i64 1))]
 (.ite (.v 2)
  .fail
 (.op (.row 1) [(.v 0), (.c (.int .i64 0))]
 (.loop 2 [(.v 3), (.c (.int .i64 1))] ir44p0)))))
theorem rd44 : readFn T SG sigs 3000 sg44 Tryz.f59 an44 = some ir44 := by kernel_rfl
def an45 : Ann := .z
def ir45 : IR :=
 (.op (.conv .u64) [(.v 1)]
 (.op (.bin .shr false) [(.v 0), (.v 2)]
 (.op (.bin .and false) [(.v 3), (.c (.int .u64 1))]
 (.op (.bin .eql false) [(.v 4), (.c (.int .u64 1))]
 (.ret [(.v 5)])))))
theorem rd45 : readFn T SG sigs 3000 sg45 Tryz.f60 an45 = some ir45 := by kernel_rfl
def an46 : Ann := (.s none .z (.s none (.s (some ⟨1, [(5, .junk), (22, (.atm (.v 0)))], [], 1, []⟩) .z .z) (.s none .z (.s none .z (.s none (.s none .z (.b (.l ⟨2, [(0, .junk), (1, .junk), (22, .junk), (24, .junk), (25, .junk), (27, .junk), (28, .junk), (29, .junk), (30, .junk), (33, (.atm (.v 0)))], [(5, ⟨false, true, 3, 1, (.v 1), []⟩)], 6, [⟨some (4, 0, 1), 0, 3, 1⟩]⟩ .z))) .z)))))
def ir46p0 : IR :=
 (.op (.bin .lss false) [(.v 10), (.v 9)]
 (.ite (.v 12)
  (.op (.row 1) [(.v 1), (.v 10)]
  (.call 70 2 false [] [(.v 6), (.v 13)]
  (.op (.mk 1 1) [(.v 14)]
  (.op (.app 1 8) [(.v 11), (.v 16)]
  (.op (.bin .add false) [(.v 10), (.c (.int .i64 1))]
  (.jump 0 [(.v 18), (.v 17)]))))))
 (.ret [(.v 8), (.v 11), (.c (.int .i64 0))])))
def ir46p1 : IR :=
 (.ite (.v 2)
  (.ret [(.c (.sl [])), (.c (.sl [])), (.c (.int .i64 1))])
 (.call 66 1 false [] [(.v 1)]
 (.call 67 2 false [0] [(.v 3)]
 (.call 68 2 false [1] [(.v 4)]
 (.call 69 1 false [0] [(.v 0)]
 (.op .lenL [(.v 1)]
 (.loop 2 [(.c (.int .i64 0)), (.c (.sl []))] ir46p0)))))))
def ir46 : IR :=
 (.letj 1
  (.call 18 1 false [] [(.v 0)]
  (.op (.un .not) [(.v 2)]
  (.ite (.v 3)
   (.jump 0 [(.c (.bool true))])
  (.op .lenL [(.v 1)]
  (.op .lenL [(.v 0)]
  (.op (.bin .shl false) [(.c (.int .i64 1)), (.v 5)]
  (.op (.bin .neq false) [(.v 4), (.v 6)]
  (.jump 0 [(.v 7)]))))))))
 ir46p1)
theorem rd46 : readFn T SG sigs 3000 sg46 Tryz.f61 an46 = some ir46 := by kernel_rfl
def an47 : Ann := (.s none .z (.s none .z (.s none (.s none .z (.b (.l ⟨1, [(4, .junk), (6, .junk), (7, .junk), (8, .junk), (9, .junk), (10, .junk), (11, .junk), (13, (.atm (.v 0)))], [], 0, []⟩ .z))) .z)))
def ir47p0 : IR :=
 (.op (.bin .lss false) [(.v 6), (.v 5)]
 (.ite (.v 7)
  (.op (.row 1) [(.v 0), (.v 6)]
  (.op (.row 1) [(.v 1), (.v 6)]
  (.op (.bin .neq false) [(.v 8), (.v 9)]
  (.ite (.v 10)
   (.ret [(.c (.bool false))])
  (.op (.bin .add false) [(.v 6), (.c (.int .i64 1))]
  (.jump 0 [(.v 11)]))))))
 (.ret [(.c (.bool true))])))
def ir47 : IR :=
 (.op .lenL [(.v 0)]
 (.op .lenL [(.v 1)]
 (.op (.bin .neq false) [(.v 2), (.v 3)]
 (.ite (.v 4)
  (.ret [(.c (.bool false))])
 (.op .lenL [(.v 0)]
 (.loop 1 [(.c (.int .i64 0))] ir47p0))))))
theorem rd47 : readFn T SG sigs 3000 sg47 Tryz.f34 an47 = some ir47 := by kernel_rfl
def an48 : Ann := .z
def ir48 : IR :=
 (.op .lenL [(.v 0)]
 (.op (.bin .geq false) [(.v 1), (.v 2)]
 (.ite (.v 3)
  (.ret [(.c (.int .i64 0)), (.v 0), (.v 1)])
 (.op (.bin .add false) [(.v 1), (.c (.int .i64 1))]
 (.op (.bin .sub false) [(.v 4), (.c (.int .i64 1))]
 (.op (.row 1) [(.v 0), (.v 5)]
 (.ret [(.v 6), (.v 0), (.v 4)])))))))
theorem rd48 : readFn T SG sigs 3000 sg48 Tryz.f87 an48 = some ir48 := by kernel_rfl
def an49 : Ann := (.s none .z (.s none .z (.s none .z (.s (some ⟨1, [(0, (.atm (.v 0))), (1, .junk), (4, .junk), (5, .junk), (6, .junk), (7, .junk), (8, .junk), (9, .junk)], [], 0, []⟩) .z .z))))
def ir49p0 : IR :=
 (.ret [(.v 4)])
def ir49 : IR :=
 (.op (.bin .lss false) [(.v 1), (.c (.int .i64 1))]
 (.ite (.v 2)
  (.ret [(.c (.int .i64 0))])
 (.op (.bin .rem false) [(.v 0), (.v 1)]
 (.letj 1
  (.op (.bin .lss false) [(.v 3), (.c (.int .i64 0))]
  (.ite (.v 4)
   (.op (.bin .add false) [(.v 3), (.v 1)]
   (.jump 0 [(.v 5)]))
  (.jump 0 [(.v 3)])))
 ir49p0))))
theorem rd49 : readFn T SG sigs 3000 sg49 Tryz.f86 an49 = some ir49 := by kernel_rfl
def an50 : Ann := (.s none .z (.s none (.s none .z (.b (.l ⟨1, [(2, .junk), (3, (.atm (.v 0)))], [], 0, []⟩ (.s none .z (.s none (.b (.s (some ⟨1, [(4, .junk), (5, .junk), (6, .junk), (7, .junk), (31, (.atm (.v 0)))], [], 0, []⟩) .z .z)) .z))))) .z))
def ir50p0 : IR :=
 (.ite (.v 4)
  (.ret [(.c (.bool false))])
 (.op (.bin .add false) [(.v 1), (.c (.int .i64 1))]
 (.jump 0 [(.v 5)])))
def ir50p1 : IR :=
 (.op .lenL [(.v 0)]
 (.op (.bin .lss false) [(.v 1), (.v 2)]
 (.ite (.v 3)
  (.letj 1
   (.op (.row 1) [(.v 0), (.v 1)]
   (.call 71 1 false [] [(.v 4)]
   (.op (.un .not) [(.v 5)]
   (.ite (.v 6)
    (.jump 1 [(.c (.bool true))])
   (.op (.bin .gtr false) [(.v 1), (.c (.int .i64 0))]
   (.ite (.v 7)
    (.op (.row 1) [(.v 0), (.v 1)]
    (.op (.bin .sub false) [(.v 1), (.c (.int .i64 1))]
    (.op (.row 1) [(.v 0), (.v 9)]
    (.op (.bin .leq false) [(.v 8), (.v 10)]
    (.jump 1 [(.v 11)])))))
   (.jump 1 [(.c (.bool false))])))))))
  ir50p0)
 (.op .lenL [(.v 0)]
 (.op (.bin .leq false) [(.v 4), (.c (.int .i64 6))]
 (.ret [(.v 5)]))))))
def ir50 : IR :=
 (.loop 1 [(.c (.int .i64 0))] ir50p1)
theorem rd50 : readFn T SG sigs 3000 sg50 Tryz.f80 an50 = some ir50 := by kernel_rfl
def an51 : Ann := (.s none .z (.s none (.s none .z (.b (.l ⟨1, [(4, .junk), (6, .junk), (8, (.atm (.v 0)))], [], 0, []⟩ .z))) .z))
def ir51p0 : IR :=
 (.op (.bin .lss false) [(.v 3), (.v 2)]
 (.ite (.v 4)
  (.op (.row 1) [(.v 0), (.v 3)]
  (.op (.bin .eql false) [(.v 5), (.v 1)]
  (.ite (.v 6)
   (.ret [(.c (.bool true))])
  (.op (.bin .add false) [(.v 3), (.c (.int .i64 1))]
  (.jump 0 [(.v 7)])))))
 (.ret [(.c (.bool false))])))
def ir51 : IR :=
 (.op .lenL [(.v 0)]
 (.loop 1 [(.c (.int .i64 0))] ir51p0))
theorem rd51 : readFn T SG sigs 3000 sg51 Tryz.f88 an51 = some ir51 := by kernel_rfl
def an52 : Ann := (.s none .z (.s none (.s (some ⟨1, [(2, .junk), (12, (.atm (.v 0)))], [], 0, []⟩) .z .z) (.s none (.s none .z (.b (.l ⟨1, [(12, .junk), (13, .junk), (15, (.atm (.v 0)))], [], 0, []⟩ (.s none .z (.s none .z (.s (some ⟨0, [(16, .junk)], [], 0, []⟩) (.b (.s none .z (.s none .z (.b (.s (some ⟨1, [(16, .junk), (17, .junk), (18, .junk), (19, .junk), (20, .junk), (21, (.atm (.v 0)))], [], 0, []⟩) .z (.c .z (.s (some ⟨1, [(3, .junk), (4, .junk), (21, .junk), (28, (.atm (.v 0)))], [], 0, []⟩) .z .z))))))) .z)))))) .z)))
def ir52p0 : IR :=
 (.op (.bin .add false) [(.v 3), (.c (.int .i64 1))]
 (.jump 0 [(.v 5)]))
def ir52p1 : IR :=
 (.ite (.v 7)
  (.jump 1 [])
 (.ret [(.c (.bool false))]))
def ir52p2 : IR :=
 (.ite (.v 6)
  (.jump 1 [])
 (.letj 1
  (.op (.bin .gtr false) [(.v 3), (.c (.int .i64 0))]
  (.ite (.v 7)
   (.op (.bin .geq false) [(.v 5), (.c (.int .u8 48))]
   (.ite (.v 8)
    (.op (.bin .leq false) [(.v 5), (.c (.int .u8 57))]
    (.ite (.v 9)
     (.jump 2 [(.c (.bool true))])
    (.op (.bin .eql false) [(.v 5), (.c (.int .u8 95))]
    (.jump 2 [(.v 10)]))))
   (.op (.bin .eql false) [(.v 5), (.c (.int .u8 95))]
   (.jump 2 [(.v 9)]))))
  (.jump 2 [(.c (.bool false))])))
 ir52p1))
def ir52p3 : IR :=
 (.op (.bin .lss false) [(.v 3), (.v 2)]
 (.ite (.v 4)
  (.letj 0
   (.op .idxS [(.v 0), (.v 3)]
   (.letj 1
    (.op (.bin .geq false) [(.v 5), (.c (.int .u8 97))]
    (.ite (.v 6)
     (.op (.bin .leq false) [(.v 5), (.c (.int .u8 122))]
     (.jump 2 [(.v 7)]))
    (.jump 2 [(.c (.bool false))])))
   ir52p2))
  ir52p0)
 (.ret [(.c (.bool true))])))
def ir52p4 : IR :=
 (.ite (.v 1)
  (.ret [(.c (.bool false))])
 (.op .lenS [(.v 0)]
 (.loop 1 [(.c (.int .i64 0))] ir52p3)))
def ir52 : IR :=
 (.letj 1
  (.op .lenS [(.v 0)]
  (.op (.bin .eql false) [(.v 1), (.c (.int .i64 0))]
  (.ite (.v 2)
   (.jump 0 [(.c (.bool true))])
  (.op .lenS [(.v 0)]
  (.op (.bin .gtr false) [(.v 3), (.c (.int .i64 12))]
  (.jump 0 [(.v 4)]))))))
 ir52p4)
theorem rd52 : readFn T SG sigs 3000 sg52 Tryz.f89 an52 = some ir52 := by kernel_rfl
def an53 : Ann := (.s none .z (.s none .z (.s none (.s none .z (.b (.l ⟨2, [(0, .junk), (1, .junk), (2, .junk), (3, (.atm (.v 0))), (6, .junk), (9, (.atm (.v 1)))], [], 1, []⟩ .z))) .z)))
def ir53p0 : IR :=
 (.op (.bin .lss false) [(.v 5), (.v 3)]
 (.ite (.v 6)
  (.op (.row 3) [(.v 2), (.v 5)]
  (.call 53 1 false [] [(.v 7), (.v 8), (.v 9)]
  (.op (.bin .add false) [(.v 4), (.v 10)]
  (.op (.bin .add false) [(.v 5), (.c (.int .i64 1))]
  (.jump 0 [(.v 11), (.v 12)])))))
 (.ret [(.v 4)])))
def ir53 : IR :=
 (.op .lenL [(.v 2)]
 (.loop 2 [(.c (.int .i64 1)), (.c (.int .i64 0))] ir53p0))
theorem rd53 : readFn T SG sigs 3000 sg53 Tryz.f90 an53 = some ir53 := by kernel_rfl
def an54 : Ann := (.s none .z (.s none .z (.s none (.s none .z (.b (.l ⟨2, [(0, .junk), (1, .junk), (2, .junk), (3, (.atm (.v 0))), (6, .junk), (9, (.atm (.v 1)))], [], 1, []⟩ .z))) .z)))
def ir54p0 : IR :=
 (.op (.bin .lss false) [(.v 5), (.v 3)]
 (.ite (.v 6)
  (.op (.row 3) [(.v 2), (.v 5)]
  (.call 54 1 false [] [(.v 7), (.v 8), (.v 9)]
  (.op (.bin .add false) [(.c (.int .i64 1)), (.v 10)]
  (.op .max [(.v 4), (.v 11)]
  (.op (.bin .add false) [(.v 5), (.c (.int .i64 1))]
  (.jump 0 [(.v 12), (.v 13)]))))))
 (.ret [(.v 4)])))
def ir54 : IR :=
 (.op .lenL [(.v 2)]
 (.loop 2 [(.c (.int .i64 0)), (.c (.int .i64 0))] ir54p0))
theorem rd54 : readFn T SG sigs 3000 sg54 Tryz.f91 an54 = some ir54 := by kernel_rfl
def an55 : Ann := (.s none .z (.s none .z (.s none (.s none .z (.b (.l ⟨1, [(0, .junk), (2, .junk), (4, .junk), (7, .junk), (8, .junk), (9, .junk), (10, .junk), (11, .junk), (14, (.atm (.v 0)))], [], 1, []⟩ .z))) .z)))
def ir55p0 : IR :=
 (.op (.bin .lss false) [(.v 6), (.v 5)]
 (.ite (.v 7)
  (.op (.row 3) [(.v 2), (.v 6)]
  (.call 55 1 false [] [(.v 8), (.v 9), (.v 10)]
  (.op (.un .not) [(.v 11)]
  (.ite (.v 12)
   (.ret [(.c (.bool false))])
  (.op (.bin .add false) [(.v 6), (.c (.int .i64 1))]
  (.jump 0 [(.v 13)]))))))
 (.ret [(.c (.bool true))])))
def ir55 : IR :=
 (.call 72 1 false [] [(.v 0), (.v 1), (.v 2)]
 (.op (.un .not) [(.v 3)]
 (.ite (.v 4)
  (.ret [(.c (.bool false))])
 (.op .lenL [(.v 2)]
 (.loop 1 [(.c (.int .i64 0))] ir55p0)))))
theorem rd55 : readFn T SG sigs 3000 sg55 Tryz.f92 an55 = some ir55 := by kernel_rfl
def an56 : Ann := (.s none .z (.s none .z (.s none (.s none .z (.b (.l ⟨1, [(0, .junk), (2, .junk), (4, .junk), (7, .junk), (8, .junk), (9, .junk), (10, .junk), (11, .junk), (14, (.atm (.v 0)))], [], 1, []⟩ .z))) .z)))
def ir56p0 : IR :=
 (.op (.bin .lss false) [(.v 6), (.v 5)]
 (.ite (.v 7)
  (.op (.row 3) [(.v 2), (.v 6)]
  (.call 56 1 false [] [(.v 8), (.v 9), (.v 10)]
  (.op (.un .not) [(.v 11)]
  (.ite (.v 12)
   (.ret [(.c (.bool false))])
  (.op (.bin .add false) [(.v 6), (.c (.int .i64 1))]
  (.jump 0 [(.v 13)]))))))
 (.ret [(.c (.bool true))])))
def ir56 : IR :=
 (.call 73 1 false [] [(.v 0), (.v 1), (.v 2)]
 (.op (.un .not) [(.v 3)]
 (.ite (.v 4)
  (.ret [(.c (.bool false))])
 (.op .lenL [(.v 2)]
 (.loop 1 [(.c (.int .i64 0))] ir56p0)))))
theorem rd56 : readFn T SG sigs 3000 sg56 Tryz.f92 an56 = some ir56 := by kernel_rfl
def an57 : Ann := (.s none .z (.s none (.s none .z (.b (.l ⟨1, [(4, .junk), (6, .junk), (8, (.atm (.v 0)))], [], 0, []⟩ .z))) .z))
def ir57p0 : IR :=
 (.op (.bin .lss false) [(.v 3), (.v 2)]
 (.ite (.v 4)
  (.op (.row 1) [(.v 0), (.v 3)]
  (.op (.bin .eql false) [(.v 1), (.v 5)]
  (.ite (.v 6)
   (.ret [(.v 3)])
  (.op (.bin .add false) [(.v 3), (.c (.int .i64 1))]
  (.jump 0 [(.v 7)])))))
 (.ret [(.c (.int .i64 (-1)))])))
def ir57 : IR :=
 (.op .lenL [(.v 0)]
 (.loop 1 [(.c (.int .i64 0))] ir57p0))
theorem rd57 : readFn T SG sigs 3000 sg57 Tryz.f98 an57 = some ir57 := by kernel_rfl
def an58 : Ann := (.s none .z (.s none .z (.s none (.s none .z (.b (.l ⟨2, [(2, .junk), (3, (.atm (.v 0))), (5, (.atm (.v 1)))], [], 0, []⟩ .z))) .z)))
def ir58p0 : IR :=
 (.op (.bin .lss false) [(.v 2), (.c (.int .i64 64))]
 (.ite (.v 3)
  (.op (.bin .shr false) [(.v 2), (.v 0)]
  (.op (.bin .and false) [(.v 4), (.c (.int .i64 1))]
  (.op (.conv .u64) [(.v 5)]
  (.op (.bin .shl false) [(.v 6), (.v 2)]
  (.op (.bin .or false) [(.v 1), (.v 7)]
  (.op (.bin .add false) [(.v 2), (.c (.int .i64 1))]
  (.jump 0 [(.v 8), (.v 9)])))))))
 (.ret [(.v 1)])))
def ir58 : IR :=
 (.loop 2 [(.c (.int .u64 0)), (.c (.int .i64 0))] ir58p0)
theorem rd58 : readFn T SG sigs 3000 sg58 Tryz.f99 an58 = some ir58 := by kernel_rfl
def an59 : Ann := .z
def ir59 : IR :=
 (.op (.bin .shl false) [(.c (.int .u64 1)), (.v 0)]
 (.op (.bin .sub false) [(.c (.int .u64 64)), (.v 1)]
 (.op (.bin .shr false) [(.c (.int .u64 18446744073709551615)), (.v 2)]
 (.ret [(.v 3)]))))
theorem rd59 : readFn T SG sigs 3000 sg59 Tryz.f100 an59 = some ir59 := by kernel_rfl
def an60 : Ann := (.s none .z (.s none .z (.s none .z (.s none .z (.s none .z (.s none .z (.s none .z (.s none .z (.s none .z (.s none (.b (.s (some ⟨1, [(0, .junk), (1, .junk), (5, .junk), (12, .junk), (13, .junk), (14, .junk), (15, .junk), (16, .junk), (17, .junk), (19, .junk), (20, .junk), (21, .junk), (23, .junk), (24, .junk), (25, .junk), (26, .junk), (27, .junk), (28, .junk), (29, .junk), (30, .junk), (31, .junk), (32, .junk), (36, .junk), (37, .junk), (38, .junk), (39, .junk), (40, .junk), (41, .junk), (42, .junk), (43, .junk), (44, .junk), (45, .junk), (46, .junk), (47, .junk), (48, .junk), (49, (.atm (.v 0)))], [], 4, []⟩) .z (.c .z (.s none .z (.c .z (.s (some ⟨1, [(49, .junk), (58, .junk), (59, .junk), (60, .junk), (61, .junk), (67, (.atm (.v 0)))], [], 4, []⟩) .z .z)))))) .z))))))))))
def ir60p0 : IR :=
 (.ite (.v 18)
  (.ret [(.c (.int .i64 4)), (.c (.str [])), (.v 13)])
 (.op (.bin .eql false) [(.v 8), (.c (.int .u64 0))]
 (.ite (.v 19)
  (.call 60 3 false [] [(.v 7), (.v 9)]
  (.call 75 3 false [] [(.c (.int .i64 5)), (.c (.int .i64 4)), (.c (.str [])), (.v 13), (.v 20), (.v 21), (.v 22)]
  (.ret [(.v 23), (.v 24), (.v 25)])))
 (.op (.bin .eql false) [(.v 9), (.v 15)]
 (.ite (.v 20)
  (.call 60 3 false [] [(.v 7), (.v 8)]
  (.call 75 3 false [] [(.c (.int .i64 6)), (.c (.int .i64 4)), (.c (.str [])), (.v 13), (.v 21), (.v 22), (.v 23)]
  (.ret [(.v 24), (.v 25), (.v 26)])))
 (.op (.bin .eql false) [(.v 9), (.c (.int .u64 0))]
 (.ite (.v 21)
  (.call 60 3 false [] [(.v 7), (.v 8)]
  (.call 75 3 false [] [(.c (.int .i64 5)), (.c (.int .i64 3)), (.v 11), (.c (.sl [])), (.v 22), (.v 23), (.v 24)]
  (.ret [(.v 25), (.v 26), (.v 27)])))
 (.call 60 3 false [] [(.v 7), (.v 8)]
 (.call 75 3 false [] [(.c (.int .i64 5)), (.c (.int .i64 3)), (.v 11), (.c (.sl [])), (.v 22), (.v 23), (.v 24)]
 (.call 60 3 false [] [(.v 7), (.v 9)]
 (.call 75 3 false [] [(.c (.int .i64 5)), (.c (.int .i64 4)), (.c (.str [])), (.v 13), (.v 28), (.v 29), (.v 30)]
 (.call 75 3 false [] [(.c (.int .i64 6)), (.v 25), (.v 26), (.v 27), (.v 31), (.v 32), (.v 33)]
 (.ret [(.v 34), (.v 35), (.v 36)])))))))))))))
def ir60p1 : IR :=
 (.ite (.v 16)
  (.ret [(.c (.int .i64 3)), (.v 11), (.c (.sl []))])
 (.op (.bin .eql false) [(.v 8), (.v 15)]
 (.ite (.v 17)
  (.call 60 3 false [] [(.v 7), (.v 9)]
  (.call 75 3 false [] [(.c (.int .i64 6)), (.c (.int .i64 3)), (.v 11), (.c (.sl [])), (.v 18), (.v 19), (.v 20)]
  (.ret [(.v 21), (.v 22), (.v 23)])))
 (.letj 1
  (.op (.bin .eql false) [(.v 8), (.c (.int .u64 0))]
  (.ite (.v 18)
   (.op (.bin .eql false) [(.v 9), (.v 15)]
   (.jump 0 [(.v 19)]))
  (.jump 0 [(.c (.bool false))])))
 ir60p0))))
def ir60 : IR :=
 (.op .lenL [(.v 0)]
 (.call 59 1 false [] [(.v 2)]
 (.op (.bin .eql false) [(.v 1), (.c (.int .u64 0))]
 (.ite (.v 4)
  (.ret [(.c (.int .i64 2)), (.c (.str [])), (.c (.sl []))])
 (.op (.bin .eql false) [(.v 1), (.v 3)]
 (.ite (.v 5)
  (.ret [(.c (.int .i64 1)), (.c (.str [])), (.c (.sl []))])
 (.op .lenL [(.v 0)]
 (.op (.subL 1) [(.v 0), (.c (.int .i64 1)), (.v 6)]
 (.call 74 2 false [] [(.v 1)]
 (.op (.bin .eql false) [(.v 8), (.v 9)]
 (.ite (.v 10)
  (.call 60 3 false [] [(.v 7), (.v 8)]
  (.ret [(.v 11), (.v 12), (.v 13)]))
 (.op (.row 1) [(.v 0), (.c (.int .i64 0))]
 (.op (.row 1) [(.v 0), (.c (.int .i64 0))]
 (.op (.mk 3 1) [(.c (.int .i64 3)), (.v 12), (.c (.sl []))]
 (.op .lenL [(.v 7)]
 (.call 59 1 false [] [(.v 14)]
 (.letj 1
  (.op (.bin .eql false) [(.v 8), (.v 15)]
  (.ite (.v 16)
   (.op (.bin .eql false) [(.v 9), (.c (.int .u64 0))]
   (.jump 0 [(.v 17)]))
  (.jump 0 [(.c (.bool false))])))
 ir60p1)))))))))))))))))
theorem rd60 : readFn T SG sigs 3000 sg60 Tryz.f101 an60 = some ir60 := by kernel_rfl
def an61 : Ann := .z
def ir61 : IR :=
 (.op (.bin .geq false) [(.v 0), (.c (.int .i64 1))]
 (.ite (.v 1)
  (.op (.bin .leq false) [(.v 0), (.c (.int .i64 3))]
  (.ret [(.v 2)]))
 (.ret [(.c (.bool false))])))
theorem rd61 : readFn T SG sigs 3000 sg61 Tryz.f102 an61 = some ir61 := by kernel_rfl
def an62 : Ann := (.s none .z (.s none .z (.s none (.b (.s (some ⟨1, [(0, .junk), (10, .junk), (12, .junk), (13, .junk), (14, .junk), (15, .junk), (16, .junk), (17, .junk), (18, .junk), (19, (.atm (.v 0)))], [], 1, []⟩) .z (.c .z (.s none .z (.c .z (.s none .z (.c .z (.s (some ⟨1, [(1, .junk), (2, .junk), (3, .junk), (4, .junk), (5, .junk), (19, .junk), (34, .junk), (35, .junk), (36, .junk), (38, .junk), (39, .junk), (40, .junk), (41, .junk), (42, (.atm (.v 0)))], [], 1, []⟩) .z .z)))))))) .z)))
def ir62p0 : IR :=
 (.ite (.v 12)
  (.op (.bin .add false) [(.v 8), (.c (.int .i64 1))]
  (.ret [(.v 13)]))
 (.ret [(.v 8)]))
def ir62p1 : IR :=
 (.ite (.v 9)
  (.op .lenL [(.v 1)]
  (.op (.bin .add false) [(.v 10), (.c (.int .i64 1))]
  (.op (.bin .mul false) [(.c (.int .i64 3)), (.v 11)]
  (.op (.bin .sub false) [(.v 8), (.v 12)]
  (.ret [(.v 13)])))))
 (.op (.bin .eql false) [(.v 5), (.c (.int .i64 2))]
 (.ite (.v 10)
  (.ret [(.v 8)])
 (.call 32 1 false [] [(.v 4), (.v 2)]
 (.ite (.v 11)
  (.ret [(.c (.int .i64 0))])
 (.letj 1
  (.op (.bin .eql false) [(.v 5), (.c (.int .i64 3))]
  (.ite (.v 12)
   (.call 32 1 false [] [(.v 3), (.v 2)]
   (.op (.un .not) [(.v 13)]
   (.jump 0 [(.v 14)])))
  (.jump 0 [(.c (.bool false))])))
 ir62p0))))))
def ir62 : IR :=
 (.op (.row 1) [(.v 1), (.v 2)]
 (.op (.bin .add false) [(.v 6), (.c (.int .i64 1))]
 (.op (.bin .mul false) [(.c (.int .i64 3)), (.v 7)]
 (.letj 1
  (.op (.bin .eql false) [(.v 5), (.c (.int .i64 2))]
  (.ite (.v 9)
   (.call 32 1 false [] [(.v 3), (.v 2)]
   (.jump 0 [(.v 10)]))
  (.jump 0 [(.c (.bool false))])))
 ir62p1))))
theorem rd62 : readFn T SG sigs 3000 sg62 Tryz.f103 an62 = some ir62 := by kernel_rfl
def an63 : Ann := .z
def ir63 : IR :=
 (.call 76 1 false [] [(.v 0), (.v 1)]
 (.op (.bin .geq false) [(.v 2), (.c (.int .i64 0))]
 (.ret [(.v 3)])))
theorem rd63 : readFn T SG sigs 3000 sg63 Tryz.f104 an63 = some ir63 := by kernel_rfl
def an64 : Ann := (.s none .z (.s none .z (.s none .z (.s none (.s none .z (.b (.l ⟨2, [(0, .junk), (1, .junk), (2, .junk), (6, .junk), (7, .junk), (8, .junk), (9, .junk), (10, .junk), (11, .junk), (12, .junk), (13, .junk), (14, .junk), (17, (.atm (.v 0)))], [(1, ⟨false, true, 35, 1, (.v 1), []⟩)], 2, []⟩ .z))) .z))))
def ir64p0 : IR :=
 (.op (.bin .lss false) [(.v 8), (.v 7)]
 (.ite (.v 10)
  (.op (.row 1) [(.v 1), (.v 8)]
  (.op .chk [(.v 9), (.v 11)]
  (.op (.get 0 1) [(.v 9), (.v 11)]
  (.op (.conv .u64) [(.v 8)]
  (.op (.bin .shl false) [(.c (.int .u64 1)), (.v 13)]
  (.op (.bin .or false) [(.v 12), (.v 14)]
  (.op .chk [(.v 9), (.v 11)]
  (.op (.set 0 1) [(.v 9), (.v 11), (.v 15)]
  (.op (.bin .add false) [(.v 8), (.c (.int .i64 1))]
  (.jump 0 [(.v 17), (.v 16)]))))))))))
 (.ret [(.v 9)])))
def ir64 : IR :=
 (.call 27 1 false [] [(.v 0), (.v 1)]
 (.op (.bin .neq false) [(.v 2), (.c (.int .i64 0))]
 (.ite (.v 3)
  (.ret [(.c (.sl []))])
 (.call 44 1 false [] [(.v 1)]
 (.op (.bin .add false) [(.v 4), (.c (.int .i64 1))]
 (.op (.mkL 8 [(.int .u64 0)]) [(.v 5)]
 (.op .lenL [(.v 1)]
 (.loop 2 [(.c (.int .i64 0)), (.v 6)] ir64p0))))))))
theorem rd64 : readFn T SG sigs 3000 sg64 Tryz.f105 an64 = some ir64 := by kernel_rfl
def an65 : Ann := .z
def ir65 : IR :=
 (.op (.bin .neq false) [(.v 0), (.v 0)]
 (.ret [(.v 1)]))
theorem rd65 : readFn T SG sigs 3000 sg65 Tryz.f113 an65 = some ir65 := by kernel_rfl
def an67 : Ann := .z
def ir67 : IR :=
 (.call 77 2 false [0] [(.v 0)]
 (.call 78 1 false [0] [(.v 1)]
 (.ret [(.v 3), (.v 2)])))
theorem rd67 : readFn T SG sigs 3000 sg67 Tryz.f115 an67 = some ir67 := by kernel_rfl
def an70 : Ann := (.s none .z (.s none .z (.s none .z (.s none (.b (.l ⟨2, [(4, .junk), (5, .junk), (7, (.atm (.v 0))), (8, (.atm (.v 1))), (10, .junk), (11, .junk), (12, .junk)], [], 0, []⟩ .z)) .z))))
def ir70p0 : IR :=
 (.op (.bin .lss false) [(.v 3), (.v 4)]
 (.ite (.v 5)
  (.op (.bin .add false) [(.v 3), (.v 4)]
  (.op (.conv .u64) [(.v 6)]
  (.op (.bin .shr false) [(.v 7), (.c (.int .u64 1))]
  (.op (.conv .i64) [(.v 8)]
  (.op (.row 1) [(.v 0), (.v 9)]
  (.call 79 1 false [] [(.v 10), (.v 1)]
  (.ite (.v 11)
   (.op (.bin .add false) [(.v 9), (.c (.int .i64 1))]
   (.jump 0 [(.v 12), (.v 4)]))
  (.jump 0 [(.v 3), (.v 9)]))))))))
 (.op (.bin .lss false) [(.v 3), (.v 2)]
 (.ite (.v 6)
  (.op (.row 1) [(.v 0), (.v 3)]
  (.op (.bin .eql false) [(.v 7), (.v 1)]
  (.ite (.v 8)
   (.ret [(.v 3), (.c (.bool true))])
  (.op (.row 1) [(.v 0), (.v 3)]
  (.call 80 1 false [] [(.v 9)]
  (.ite (.v 10)
   (.call 80 1 false [] [(.v 1)]
   (.ret [(.v 3), (.v 11)]))
  (.ret [(.v 3), (.c (.bool false))])))))))
 (.ret [(.v 3), (.c (.bool false))])))))
def ir70 : IR :=
 (.op .lenL [(.v 0)]
 (.loop 2 [(.c (.int .i64 0)), (.v 2)] ir70p0))
theorem rd70 : readFn T SG sigs 3000 sg70 Tryz.f118 an70 = some ir70 := by kernel_rfl
def an71 : Ann := (.s none .z (.s none (.s (some ⟨1, [(2, .junk), (21, (.atm (.v 0)))], [], 0, []⟩) .z .z) (.s none (.s none .z (.b (.l ⟨1, [(3, (.atm (.v 0))), (21, .junk)], [], 0, []⟩ (.s none .z (.s none (.b (.s (some ⟨1, [(22, .junk), (23, .junk), (24, .junk), (25, .junk), (55, (.atm (.v 0)))], [], 0, []⟩) .z .z)) .z))))) .z)))
def ir71p0 : IR :=
 (.ite (.v 5)
  (.ret [(.c (.bool false))])
 (.op (.bin .add false) [(.v 2), (.c (.int .i64 1))]
 (.jump 0 [(.v 6)])))
def ir71p1 : IR :=
 (.op .lenS [(.v 0)]
 (.op (.bin .lss false) [(.v 2), (.v 3)]
 (.ite (.v 4)
  (.letj 1
   (.op .idxS [(.v 0), (.v 2)]
   (.op (.bin .lss false) [(.v 5), (.c (.int .u8 97))]
   (.ite (.v 6)
    (.op .idxS [(.v 0), (.v 2)]
    (.op (.bin .lss false) [(.v 7), (.c (.int .u8 48))]
    (.ite (.v 8)
     (.op .idxS [(.v 0), (.v 2)]
     (.op (.bin .neq false) [(.v 9), (.c (.int .u8 95))]
     (.jump 1 [(.v 10)])))
    (.op .idxS [(.v 0), (.v 2)]
    (.op (.bin .gtr false) [(.v 9), (.c (.int .u8 57))]
    (.ite (.v 10)
     (.op .idxS [(.v 0), (.v 2)]
     (.op (.bin .neq false) [(.v 11), (.c (.int .u8 95))]
     (.jump 1 [(.v 12)])))
    (.jump 1 [(.c (.bool false))])))))))
   (.op .idxS [(.v 0), (.v 2)]
   (.op (.bin .gtr false) [(.v 7), (.c (.int .u8 122))]
   (.ite (.v 8)
    (.op .idxS [(.v 0), (.v 2)]
    (.op (.bin .lss false) [(.v 9), (.c (.int .u8 48))]
    (.ite (.v 10)
     (.op .idxS [(.v 0), (.v 2)]
     (.op (.bin .neq false) [(.v 11), (.c (.int .u8 95))]
     (.jump 1 [(.v 12)])))
    (.op .idxS [(.v 0), (.v 2)]
    (.op (.bin .gtr false) [(.v 11), (.c (.int .u8 57))]
    (.ite (.v 12)
     (.op .idxS [(.v 0), (.v 2)]
     (.op (.bin .neq false) [(.v 13), (.c (.int .u8 95))]
     (.jump 1 [(.v 14)])))
    (.jump 1 [(.c (.bool false))])))))))
   (.jump 1 [(.c (.bool false))])))))))
  ir71p0)
 (.ret [(.c (.bool true))]))))
def ir71p2 : IR :=
 (.ite (.v 1)
  (.ret [(.c (.bool false))])
 (.loop 1 [(.c (.int .i64 0))] ir71p1))
def ir71 : IR :=
 (.letj 1
  (.op .lenS [(.v 0)]
  (.op (.bin .lss false) [(.v 1), (.c (.int .i64 1))]
  (.ite (.v 2)
   (.jump 0 [(.c (.bool true))])
  (.op .lenS [(.v 0)]
  (.op (.bin .gtr false) [(.v 3), (.c (.int .i64 12))]
  (.ite (.v 4)
   (.jump 0 [(.c (.bool true))])
  (.op .idxS [(.v 0), (.c (.int .i64 0))]
  (.op (.bin .lss false) [(.v 5), (.c (.int .u8 97))]
  (.ite (.v 6)
   (.jump 0 [(.c (.bool true))])
  (.op .idxS [(.v 0), (.c (.int .i64 0))]
  (.op (.bin .gtr false) [(.v 7), (.c (.int .u8 122))]
  (.jump 0 [(.v 8)]))))))))))))
 ir71p2)
theorem rd71 : readFn T SG sigs 3000 sg71 Tryz.f127 an71 = some ir71 := by kernel_rfl
def an72 : Ann := (.s none .z (.s none .z (.s none (.s none .z (.b (.s (some ⟨1, [(0, .junk), (1, .junk), (2, .junk), (4, .junk), (5, .junk), (6, .junk), (7, .junk), (9, (.atm (.v 0)))], [], 1, []⟩) .z (.c .z (.s none .z (.c .z (.s (some ⟨1, [(9, .junk), (15, .junk), (16, .junk), (19, (.atm (.v 0)))], [], 1, []⟩) .z (.c .z (.s (some ⟨1, [(8, .junk), (19, .junk), (28, (.atm (.v 0)))], [], 1, []⟩) .z .z))))))))) .z)))
def ir72p0 : IR :=
 (.ite (.v 7)
  (.op (.bin .eql false) [(.v 3), (.c (.int .i64 2))]
  (.ret [(.v 8)]))
 (.ret [(.c (.bool false))]))
def ir72p1 : IR :=
 (.ite (.v 6)
  (.op (.bin .geq false) [(.v 3), (.c (.int .i64 2))]
  (.ite (.v 7)
   (.op (.bin .leq false) [(.v 3), (.c (.int .i64 6))]
   (.ret [(.v 8)]))
  (.ret [(.c (.bool false))])))
 (.letj 1
  (.op (.bin .eql false) [(.v 0), (.c (.int .i64 7))]
  (.ite (.v 7)
   (.jump 0 [(.c (.bool true))])
  (.op (.bin .eql false) [(.v 0), (.c (.int .i64 8))]
  (.jump 0 [(.v 8)]))))
 ir72p0))
def ir72p2 : IR :=
 (.ite (.v 4)
  (.op (.bin .eql false) [(.v 3), (.c (.int .i64 0))]
  (.ret [(.v 5)]))
 (.op (.bin .eql false) [(.v 0), (.c (.int .i64 4))]
 (.ite (.v 5)
  (.op (.bin .eql false) [(.v 3), (.c (.int .i64 1))]
  (.ret [(.v 6)]))
 (.letj 1
  (.op (.bin .eql false) [(.v 0), (.c (.int .i64 5))]
  (.ite (.v 6)
   (.jump 0 [(.c (.bool true))])
  (.op (.bin .eql false) [(.v 0), (.c (.int .i64 6))]
  (.jump 0 [(.v 7)]))))
 ir72p1))))
def ir72 : IR :=
 (.op .lenL [(.v 2)]
 (.letj 1
  (.op (.bin .eql false) [(.v 0), (.c (.int .i64 1))]
  (.ite (.v 4)
   (.jump 0 [(.c (.bool true))])
  (.op (.bin .eql false) [(.v 0), (.c (.int .i64 2))]
  (.ite (.v 5)
   (.jump 0 [(.c (.bool true))])
  (.op (.bin .eql false) [(.v 0), (.c (.int .i64 3))]
  (.jump 0 [(.v 6)]))))))
 ir72p2))
theorem rd72 : readFn T SG sigs 3000 sg72 Tryz.f93 an72 = some ir72 := by kernel_rfl
def an73 : Ann := .z
def ir73 : IR :=
 (.op (.bin .eql false) [(.v 0), (.c (.int .i64 3))]
 (.ite (.v 3)
  (.call 52 1 false [] [(.v 1)]
  (.ret [(.v 4)]))
 (.op (.bin .eql false) [(.v 1), (.c (.str []))]
 (.ret [(.v 4)]))))
theorem rd73 : readFn T SG sigs 3000 sg73 Tryz.f94 an73 = some ir73 := by kernel_rfl
def an74 : Ann := (.s none .z (.s none (.s none .z (.b (.l ⟨3, [(2, (.atm (.v 0))), (3, (.atm (.v 1))), (5, (.atm (.v 2)))], [], 0, []⟩ .z))) .z))
def ir74p0 : IR :=
 (.op (.bin .lss false) [(.v 3), (.c (.int .i64 32))]
 (.ite (.v 4)
  (.op (.bin .mul false) [(.c (.int .i64 2)), (.v 3)]
  (.op (.bin .shr false) [(.v 0), (.v 5)]
  (.op (.bin .and false) [(.v 6), (.c (.int .u64 1))]
  (.op (.bin .shl false) [(.v 7), (.v 3)]
  (.op (.bin .or false) [(.v 2), (.v 8)]
  (.op (.bin .mul false) [(.c (.int .i64 2)), (.v 3)]
  (.op (.bin .add false) [(.v 10), (.c (.int .i64 1))]
  (.op (.bin .shr false) [(.v 0), (.v 11)]
  (.op (.bin .and false) [(.v 12), (.c (.int .u64 1))]
  (.op (.bin .shl false) [(.v 13), (.v 3)]
  (.op (.bin .or false) [(.v 1), (.v 14)]
  (.op (.bin .add false) [(.v 3), (.c (.int .i64 1))]
  (.jump 0 [(.v 15), (.v 9), (.v 16)])))))))))))))
 (.ret [(.v 1), (.v 2)])))
def ir74 : IR :=
 (.loop 3 [(.c (.int .u64 0)), (.c (.int .u64 0)), (.c (.int .i64 0))] ir74p0)
theorem rd74 : readFn T SG sigs 3000 sg74 Tryz.f133 an74 = some ir74 := by kernel_rfl
def an75 : Ann := .z
def ir75 : IR :=
 (.op (.mk 3 2) [(.v 1), (.v 2), (.v 3), (.v 4), (.v 5), (.v 6)]
 (.ret [(.v 0), (.c (.str [])), (.v 7)]))
theorem rd75 : readFn T SG sigs 3000 sg75 Tryz.f134 an75 = some ir75 := by kernel_rfl
def an76 : Ann := (.s none .z (.s none (.s none .z (.b (.l ⟨1, [(4, .junk), (6, .junk), (8, (.atm (.v 0)))], [], 0, []⟩ .z))) .z))
def ir76p0 : IR :=
 (.op (.bin .lss false) [(.v 3), (.v 2)]
 (.ite (.v 4)
  (.op (.row 1) [(.v 0), (.v 3)]
  (.op (.bin .eql true) [(.v 1), (.v 5)]
  (.ite (.v 6)
   (.ret [(.v 3)])
  (.op (.bin .add false) [(.v 3), (.c (.int .i64 1))]
  (.jump 0 [(.v 7)])))))
 (.ret [(.c (.int .i64 (-1)))])))
def ir76 : IR :=
 (.op .lenL [(.v 0)]
 (.loop 1 [(.c (.int .i64 0))] ir76p0))
theorem rd76 : readFn T SG sigs 3000 sg76 Tryz.f135 an76 = some ir76 := by kernel_rfl
def an79 : Ann := .z
def ir79 : IR :=
 (.call 65 1 false [] [(.v 0)]
 (.ite (.v 2)
  (.call 65 1 false [] [(.v 1)]
  (.op (.un .not) [(.v 3)]
  (.ite (.v 4)
   (.ret [(.c (.bool true))])
  (.op (.bin .lss false) [(.v 0), (.v 1)]
  (.ret [(.v 5)])))))
 (.op (.bin .lss false) [(.v 0), (.v 1)]
 (.ret [(.v 3)]))))
theorem rd79 : readFn T SG sigs 3000 sg79 Tryz.f139 an79 = some ir79 := by kernel_rfl
def an80 : Ann := .z
def ir80 : IR :=
 (.op (.bin .neq false) [(.v 0), (.v 0)]
 (.ret [(.v 1)]))
theorem rd80 : readFn T SG sigs 3000 sg80 Tryz.f140 an80 = some ir80 := by kernel_rfl
end Go.Proofs.YtmjnhmeckloanaaGreat

/- What functions of the program compute: lemmas. -/
import Derived.Test.YtojkhlijbpmgpaaGreatAmSe21
import Derived.Test.YtojkhlijbpmgpaaGreatProg
import Derived.KernelRfl
set_option linter.unusedSimpArgs false
set_option linter.unusedVariables false
set_option linter.unusedSectionVars false
namespace Go.Proofs.YtojkhlijbpmgpaaGreat
open Go Am
set_option maxRecDepth 100000
abbrev fnD (f : Nat) : D := .raw (.func (.func f) #[] #[])
def T : Tab := [
 (3, ⟨1, 8, true, true, false, none, none, (some .i64), false, false, (some (.int .i64 0)), [], none⟩),
 (4, ⟨1, 1, true, true, false, none, none, none, false, true, (some (.bool false)), [], none⟩),
 (5, ⟨1, 1, true, true, false, none, none, (some .u8), false, false, (some (.int .u8 0)), [], none⟩),
 (9, ⟨1, 16, true, true, false, none, none, none, true, false, (some (.string ⟨⟨[]⟩⟩)), [], none⟩),
 (22, ⟨1, 24, true, true, false, (some 3), none, none, false, false, (some (.slice none 0 0)), [], none⟩),
 (23, ⟨1, 8, true, true, false, none, none, none, false, false, (some (.pointer none)), [], none⟩),
 (26, ⟨1, 24, true, true, false, (some 9), none, none, false, false, (some (.slice none 0 0)), [], none⟩),
 (28, ⟨2, 48, true, true, true, none, none, none, false, false, (some (.agg #[(.slice none 0 0), (.slice none 0 0)])), [(0, 26), (1, 22)], (some [(0, 1), (1, 1)])⟩),
 (30, ⟨1, 8, true, true, false, none, none, (some .u64), false, false, (some (.int .u64 0)), [], none⟩),
 (34, ⟨1, 8, true, true, false, none, none, (some .i64), false, false, (some (.int .i64 0)), [], none⟩),
 (37, ⟨1, 24, true, true, false, (some 39), none, none, false, false, (some (.slice none 0 0)), [], none⟩),
 (39, ⟨3, 48, true, true, true, none, none, none, false, false, (some (.agg #[(.int .i64 0), (.string ⟨⟨[]⟩⟩), (.slice none 0 0)])), [(0, 3), (1, 9), (2, 37)], (some [(0, 1), (1, 1), (2, 1)])⟩),
 (52, ⟨1, 8, true, true, false, none, none, none, false, false, (some .nilFunc), [], none⟩),
 (53, ⟨1, 24, true, true, false, (some 28), none, none, false, false, (some (.slice none 0 0)), [], none⟩),
 (54, ⟨1, 24, true, true, false, (some 37), none, none, false, false, (some (.slice none 0 0)), [], none⟩),
 (66, ⟨6, 96, true, true, true, none, none, none, false, false, (some (.agg #[(.int .i64 0), (.string ⟨⟨[]⟩⟩), (.slice none 0 0), (.int .i64 0), (.string ⟨⟨[]⟩⟩), (.slice none 0 0)])), [(0, 39), (3, 39)], (some [(0, 3), (3, 3)])⟩),
 (68, ⟨1, 24, true, true, false, (some 66), none, none, false, false, (some (.slice none 0 0)), [], none⟩),
 (80, ⟨1, 24, true, true, false, (some 26), none, none, false, false, (some (.slice none 0 0)), [], none⟩),
 (86, ⟨1, 24, true, true, false, (some 68), none, none, false, false, (some (.slice none 0 0)), [], none⟩),
 (94, ⟨1, 8, true, true, false, none, none, (some .u64), false, false, (some (.int .u64 0)), [], none⟩),
 (96, ⟨2, 32, true, true, true, none, none, none, false, false, (some (.agg #[(.slice none 0 0), (.int .i64 0)])), [(0, 22), (1, 3)], (some [(0, 1), (1, 1)])⟩),
 (117, ⟨1, 24, true, true, false, (some 5), none, none, false, false, (some (.slice none 0 0)), [], none⟩),
 (122, ⟨1, 24, true, true, false, (some 127), none, none, false, false, (some (.slice none 0 0)), [], none⟩),
 (127, ⟨2, 16, true, true, true, none, none, none, false, false, (some (.agg #[(.int .u64 0), (.int .u64 0)])), [(0, 30), (1, 30)], (some [(0, 1), (1, 1)])⟩),
 (130, ⟨1, 24, true, true, false, (some 4), none, none, false, false, (some (.slice none 0 0)), [], none⟩),
 (139, ⟨1, 24, true, true, false, (some 30), none, none, false, false, (some (.slice none 0 0)), [], none⟩),
 (156, ⟨1, 8, true, true, false, none, none, none, false, false, (some .nilFunc), [], none⟩)]
theorem tok : TOK Tryz.prog T := tok_of (by kernel_rfl)
def SG : SGlob := []
def sg0 : Sig := ⟨7, 1, [], [(.atm (.v 0))], 1, [], (.atm (.v 0)), false, []⟩
def sg1 : Sig := ⟨9, 1, [], [(.atm (.v 0))], 1, [], (.atm (.v 0)), false, []⟩
def sg2 : Sig := ⟨12, 4, [], [(.agg [(.atm (.v 0)), (.atm (.v 1))]), (.atm (.v 2)), (.atm (.v 3))], 1, [], (.atm (.v 0)), false, []⟩
def sg3 : Sig := ⟨13, 4, [], [(.agg [(.atm (.v 0)), (.atm (.v 1))]), (.atm (.v 2)), (.atm (.v 3))], 1, [], (.atm (.v 0)), false, []⟩
def sg4 : Sig := ⟨14, 1, [], [(.atm (.v 0))], 1, [], (.atm (.v 0)), false, []⟩
def sg5 : Sig := ⟨15, 1, [], [(.atm (.v 0))], 2, [⟨false, false, 96, 2, (.c (.sl [])), [[(.atm (.v 0)), (.atm (.v 1))]]⟩], (.ptr 0 0 0), false, []⟩
def sg6 : Sig := ⟨16, 4, [⟨false, false, 96, 2, (.c (.sl [])), [[(.atm (.v 2)), (.atm (.v 3))]]⟩], [(.ptr 0 0 0), (.atm (.v 0)), (.atm (.v 1))], 3, [⟨false, false, 96, 2, (.c (.sl [])), [[(.atm (.v 1)), (.atm (.v 2))]]⟩], (.atm (.v 0)), false, []⟩
def sg7 : Sig := ⟨17, 3, [⟨false, false, 96, 2, (.c (.sl [])), [[(.atm (.v 1)), (.atm (.v 2))]]⟩], [(.ptr 0 0 0), (.atm (.v 0))], 4, [⟨false, false, 96, 2, (.c (.sl [])), [[(.atm (.v 2)), (.atm (.v 3))]]⟩], (.agg [(.atm (.v 0)), (.atm (.v 1))]), true, []⟩
def sg8 : Sig := ⟨35, 4, [⟨false, false, 96, 2, (.c (.sl [])), [[(.atm (.v 2)), (.atm (.v 3))]]⟩], [(.ptr 0 0 0), (.atm (.v 0)), (.atm (.v 1))], 5, [⟨false, false, 96, 2, (.c (.sl [])), [[(.atm (.v 3)), (.atm (.v 4))]]⟩], (.agg [(.atm (.v 0)), (.atm (.v 1)), (.atm (.v 2))]), true, []⟩
def sg9 : Sig := ⟨36, 5, [], [(.agg [(.atm (.v 0)), (.atm (.v 1))]), (.agg [(.atm (.v 2)), (.atm (.v 3)), (.atm (.v 4))])], 2, [], (.tup [(.atm (.v 0)), (.atm (.v 1))]), false, []⟩
def sg10 : Sig := ⟨37, 6, [], [(.agg [(.atm (.v 0)), (.atm (.v 1)), (.atm (.v 2))]), (.agg [(.atm (.v 3)), (.atm (.v 4)), (.atm (.v 5))])], 3, [], (.agg [(.atm (.v 0)), (.atm (.v 1)), (.atm (.v 2))]), true, []⟩
def sg11 : Sig := ⟨38, 6, [], [(.agg [(.atm (.v 0)), (.atm (.v 1)), (.atm (.v 2))]), (.agg [(.atm (.v 3)), (.atm (.v 4)), (.atm (.v 5))])], 3, [], (.agg [(.atm (.v 0)), (.atm (.v 1)), (.atm (.v 2))]), true, []⟩
def sg12 : Sig := ⟨29, 4, [], [(.atm (.v 0)), (.agg [(.atm (.v 1)), (.atm (.v 2)), (.atm (.v 3))])], 2, [], (.tup [(.atm (.v 0)), (.atm (.v 1))]), false, []⟩
def sg13 : Sig := ⟨39, 7, [], [(.atm (.v 0)), (.agg [(.atm (.v 1)), (.atm (.v 2)), (.atm (.v 3))]), (.agg [(.atm (.v 4)), (.atm (.v 5)), (.atm (.v 6))])], 2, [], (.tup [(.atm (.v 0)), (.atm (.v 1))]), false, []⟩
def sg14 : Sig := ⟨40, 5, [], [(.agg [(.atm (.v 0)), (.atm (.v 1))]), (.agg [(.atm (.v 2)), (.atm (.v 3)), (.atm (.v 4))])], 2, [], (.tup [(.atm (.v 0)), (.atm (.v 1))]), false, []⟩
def sg15 : Sig := ⟨41, 2, [], [(.agg [(.atm (.v 0)), (.atm (.v 1))])], 1, [], (.atm (.v 0)), false, []⟩
def sg16 : Sig := ⟨18, 1, [], [(.atm (.v 0))], 1, [], (.atm (.v 0)), false, []⟩
def sg17 : Sig := ⟨42, 0, [], [], 1, [], (.atm (.v 0)), false, []⟩
def sg18 : Sig := ⟨45, 4, [⟨false, false, 96, 2, (.c (.sl [])), [[(.atm (.v 2)), (.atm (.v 3))]]⟩], [(.ptr 0 0 0), (.atm (.v 0)), (.atm (.v 1))], 3, [⟨false, false, 96, 2, (.c (.sl [])), [[(.atm (.v 1)), (.atm (.v 2))]]⟩], (.atm (.v 0)), true, []⟩
def sg19 : Sig := ⟨47, 1, [], [(.atm (.v 0))], 1, [], (.atm (.v 0)), true, []⟩
def sg20 : Sig := ⟨46, 2, [], [(.atm (.v 0)), (.atm (.v 1))], 3, [], (.tup [(.agg [(.atm (.v 0)), (.atm (.v 1))]), (.atm (.v 2))]), true, []⟩
def sg21 : Sig := ⟨48, 8, [], [(.agg [(.atm (.v 0)), (.atm (.v 1))]), (.agg [(.atm (.v 2)), (.atm (.v 3)), (.atm (.v 4)), (.atm (.v 5)), (.atm (.v 6)), (.atm (.v 7))])], 2, [], (.tup [(.atm (.v 0)), (.atm (.v 1))]), false, []⟩
def sg22 : Sig := ⟨44, 8, [], [(.agg [(.atm (.v 0)), (.atm (.v 1))]), (.agg [(.atm (.v 2)), (.atm (.v 3)), (.atm (.v 4)), (.atm (.v 5)), (.atm (.v 6)), (.atm (.v 7))])], 2, [], (.tup [(.atm (.v 0)), (.atm (.v 1))]), false, []⟩
def sg23 : Sig := ⟨52, 1, [], [(.atm (.v 0))], 1, [], (.atm (.v 0)), false, []⟩
def sg24 : Sig := ⟨53, 4, [⟨false, false, 96, 2, (.c (.sl [])), [[(.atm (.v 2)), (.atm (.v 3))]]⟩], [(.ptr 0 0 0), (.atm (.v 0)), (.atm (.v 1))], 3, [⟨false, false, 96, 2, (.c (.sl [])), [[(.atm (.v 1)), (.atm (.v 2))]]⟩], (.atm (.v 0)), true, []⟩
def sg25 : Sig := ⟨54, 2, [], [(.atm (.v 0)), (.atm (.v 1))], 3, [], (.tup [(.agg [(.atm (.v 0)), (.atm (.v 1))]), (.atm (.v 2))]), true, []⟩
def sg26 : Sig := ⟨55, 2, [], [(.atm (.v 0)), (.atm (.v 1))], 3, [], (.tup [(.agg [(.atm (.v 0)), (.atm (.v 1))]), (.atm (.v 2))]), true, []⟩
def sg27 : Sig := ⟨24, 4, [], [(.agg [(.atm (.v 0)), (.atm (.v 1))]), (.agg [(.atm (.v 2)), (.atm (.v 3))])], 1, [], (.atm (.v 0)), false, []⟩
def sg28 : Sig := ⟨56, 2, [], [(.agg [(.atm (.v 0)), (.atm (.v 1))])], 2, [], (.tup [(.atm (.v 0)), (.atm (.v 1))]), true, []⟩
def sg29 : Sig := ⟨57, 2, [], [(.agg [(.atm (.v 0)), (.atm (.v 1))])], 2, [], (.tup [(.atm (.v 0)), (.atm (.v 1))]), true, []⟩
def sg30 : Sig := ⟨58, 2, [], [(.atm (.v 0)), (.atm (.v 1))], 1, [], (.atm (.v 0)), false, []⟩
def sg31 : Sig := ⟨59, 5, [], [(.agg [(.atm (.v 0)), (.atm (.v 1))]), (.agg [(.atm (.v 2)), (.atm (.v 3)), (.atm (.v 4))])], 2, [], (.tup [(.atm (.v 0)), (.atm (.v 1))]), false, []⟩
def sg32 : Sig := ⟨32, 3, [], [(.agg [(.atm (.v 0)), (.atm (.v 1)), (.atm (.v 2))])], 1, [], (.atm (.v 0)), false, []⟩
def sg33 : Sig := ⟨60, 2, [], [(.atm (.v 0)), (.atm (.v 1))], 2, [], (.tup [(.atm (.v 0)), (.atm (.v 1))]), true, []⟩
def sg34 : Sig := ⟨61, 2, [], [(.atm (.v 0)), (.atm (.v 1))], 2, [], (.tup [(.atm (.v 0)), (.atm (.v 1))]), true, []⟩
def sg35 : Sig := ⟨62, 2, [], [(.atm (.v 0)), (.atm (.v 1))], 3, [], (.tup [(.agg [(.atm (.v 0)), (.atm (.v 1))]), (.atm (.v 2))]), true, []⟩
def sg36 : Sig := ⟨51, 2, [], [(.atm (.v 0)), (.atm (.v 1))], 1, [], (.atm (.v 0)), false, []⟩
def sg37 : Sig := ⟨63, 2, [], [(.agg [(.atm (.v 0)), (.atm (.v 1))])], 2, [], (.tup [(.atm (.v 0)), (.atm (.v 1))]), true, []⟩
def sg38 : Sig := ⟨64, 2, [], [(.agg [(.atm (.v 0)), (.atm (.v 1))])], 2, [], (.tup [(.atm (.v 0)), (.atm (.v 1))]), true, []⟩
def sg39 : Sig := ⟨65, 6, [], [(.agg [(.atm (.v 0)), (.atm (.v 1)), (.atm (.v 2))]), (.agg [(.atm (.v 3)), (.atm (.v 4)), (.atm (.v 5))])], 1, [], (.atm (.v 0)), false, []⟩
def sg40 : Sig := ⟨66, 2, [], [(.atm (.v 0)), (.atm (.v 1))], 4, [], (.tup [(.agg [(.atm (.v 0)), (.atm (.v 1)), (.atm (.v 2))]), (.atm (.v 3))]), true, []⟩
def sg41 : Sig := ⟨67, 3, [⟨false, false, 96, 2, (.c (.sl [])), [[(.atm (.v 1)), (.atm (.v 2))]]⟩], [(.ptr 0 0 0), (.atm (.v 0))], 3, [⟨false, false, 96, 2, (.c (.sl [])), [[(.atm (.v 1)), (.atm (.v 2))]]⟩], (.atm (.v 0)), false, []⟩
def sg42 : Sig := ⟨68, 2, [], [(.atm (.v 0)), (.atm (.v 1))], 3, [], (.tup [(.agg [(.atm (.v 0)), (.atm (.v 1))]), (.atm (.v 2))]), true, []⟩
def sg43 : Sig := ⟨91, 2, [], [(.agg [(.atm (.v 0)), (.atm (.v 1))])], 1, [], (.atm (.v 0)), false, []⟩
def sg44 : Sig := ⟨73, 4, [], [(.atm (.v 0)), (.agg [(.atm (.v 1)), (.atm (.v 2)), (.atm (.v 3))])], 2, [], (.tup [(.atm (.v 0)), (.atm (.v 1))]), false, []⟩
def sg45 : Sig := ⟨92, 1, [], [(.atm (.v 0))], 1, [], (.atm (.v 0)), false, []⟩
def sg46 : Sig := ⟨93, 2, [], [(.atm (.v 0)), (.atm (.v 1))], 1, [], (.atm (.v 0)), false, []⟩
def sg47 : Sig := ⟨69, 1, [], [(.atm (.v 0))], 1, [], (.atm (.v 0)), false, []⟩
def sg48 : Sig := ⟨82, 3, [], [(.agg [(.atm (.v 0)), (.atm (.v 1)), (.atm (.v 2))])], 1, [], (.atm (.v 0)), false, []⟩
def sg49 : Sig := ⟨83, 3, [], [(.agg [(.atm (.v 0)), (.atm (.v 1)), (.atm (.v 2))])], 1, [], (.atm (.v 0)), true, []⟩
def sg50 : Sig := ⟨84, 2, [], [(.atm (.v 0)), (.atm (.v 1))], 1, [], (.atm (.v 0)), false, []⟩
def sg51 : Sig := ⟨70, 1, [], [(.atm (.v 0))], 1, [], (.atm (.v 0)), false, []⟩
def sg52 : Sig := ⟨86, 2, [], [(.atm (.v 0)), (.atm (.v 1))], 1, [], (.atm (.v 0)), true, []⟩
def sg53 : Sig := ⟨85, 4, [], [(.agg [(.atm (.v 0)), (.atm (.v 1)), (.atm (.v 2))]), (.atm (.v 3))], 1, [], (.atm (.v 0)), false, []⟩
def sg54 : Sig := ⟨77, 2, [], [(.agg [(.atm (.v 0)), (.atm (.v 1))])], 1, [], (.atm (.v 0)), false, []⟩
def sg55 : Sig := ⟨23, 2, [], [(.agg [(.atm (.v 0)), (.atm (.v 1))])], 1, [], (.atm (.v 0)), false, []⟩
def sg56 : Sig := ⟨94, 1, [], [(.atm (.v 0))], 3, [], (.agg [(.atm (.v 0)), (.atm (.v 1)), (.atm (.v 2))]), true, []⟩
def sg57 : Sig := ⟨43, 3, [], [(.agg [(.atm (.v 0)), (.atm (.v 1)), (.atm (.v 2))])], 3, [], (.agg [(.atm (.v 0)), (.atm (.v 1)), (.atm (.v 2))]), true, []⟩
def sg58 : Sig := ⟨97, 2, [], [(.atm (.v 0)), (.atm (.v 1))], 2, [], (.tup [(.atm (.v 0)), (.atm (.v 1))]), true, []⟩
def sg59 : Sig := ⟨98, 1, [], [(.atm (.v 0))], 2, [], (.tup [(.atm (.v 0)), (.atm (.v 1))]), true, []⟩
def sg60 : Sig := ⟨81, 2, [], [(.atm (.v 0)), (.atm (.v 1))], 3, [], (.tup [(.agg [(.atm (.v 0)), (.atm (.v 1))]), (.atm (.v 2))]), true, []⟩
def sg61 : Sig := ⟨75, 3, [], [(.agg [(.atm (.v 0)), (.atm (.v 1))]), (.atm (.v 2))], 1, [], (.atm (.v 0)), false, []⟩
def sg62 : Sig := ⟨95, 2, [], [(.atm (.v 0)), (.atm (.v 1))], 1, [], (.atm (.v 0)), false, []⟩
def sg63 : Sig := ⟨96, 3, [], [(.agg [(.atm (.v 0)), (.atm (.v 1))]), (.atm (.v 2))], 1, [], (.atm (.v 0)), false, []⟩
def sg64 : Sig := ⟨105, 1, [], [(.atm (.v 0))], 1, [], (.atm (.v 0)), false, []⟩
def sg65 : Sig := ⟨106, 1, [], [(.atm (.v 0))], 1, [⟨false, false, 37, 1, (.c (.sl [])), [[(.atm (.v 0))]]⟩], (.clo 148 [] [(.ptr 0 0 0)]), false, []⟩
def sg66 : Sig := ⟨107, 2, [], [(.atm (.v 0)), (.atm (.v 1))], 2, [], (.tup [(.atm (.v 0)), (.atm (.v 1))]), true, []⟩
def sg67 : Sig := ⟨108, 2, [], [(.atm (.v 0)), (.atm (.v 1))], 1, [], (.atm (.v 0)), false, []⟩
def sg68 : Sig := ⟨76, 2, [], [(.atm (.v 0)), (.atm (.v 1))], 1, [], (.atm (.v 0)), false, []⟩
def sg69 : Sig := ⟨109, 2, [], [(.agg [(.atm (.v 0)), (.atm (.v 1))])], 1, [], (.atm (.v 0)), true, []⟩
def sg70 : Sig := ⟨110, 2, [], [(.atm (.v 0)), (.atm (.v 1))], 4, [], (.tup [(.agg [(.atm (.v 0)), (.atm (.v 1)), (.atm (.v 2))]), (.atm (.v 3))]), true, []⟩
def sg71 : Sig := ⟨111, 1, [⟨false, true, 39, 3, (.v 0), []⟩], [(.own 0)], 1, [⟨false, true, 39, 3, (.v 0), []⟩], (.tup []), false, [0]⟩
def sg72 : Sig := ⟨112, 4, [], [(.agg [(.atm (.v 0)), (.atm (.v 1))]), (.atm (.v 2)), (.atm (.v 3))], 1, [], (.atm (.v 0)), false, []⟩
def sg73 : Sig := ⟨88, 4, [], [(.agg [(.atm (.v 0)), (.atm (.v 1)), (.atm (.v 2))]), (.atm (.v 3))], 1, [], (.atm (.v 0)), false, []⟩
def sg74 : Sig := ⟨89, 4, [], [(.agg [(.atm (.v 0)), (.atm (.v 1)), (.atm (.v 2))]), (.atm (.v 3))], 1, [], (.atm (.v 0)), false, []⟩
def sg75 : Sig := ⟨90, 3, [], [(.agg [(.atm (.v 0)), (.atm (.v 1)), (.atm (.v 2))])], 1, [], (.atm (.v 0)), false, []⟩
def sg76 : Sig := ⟨113, 2, [], [(.atm (.v 0)), (.atm (.v 1))], 3, [], (.tup [(.atm (.v 0)), (.atm (.v 1)), (.atm (.v 2))]), true, []⟩
def sg77 : Sig := ⟨87, 1, [], [(.atm (.v 0))], 1, [], (.atm (.v 0)), false, []⟩
def sg78 : Sig := ⟨114, 2, [], [(.atm (.v 0)), (.atm (.v 1))], 3, [], (.agg [(.atm (.v 0)), (.atm (.v 1)), (.atm (.v 2))]), true, []⟩
def sg79 : Sig := ⟨71, 2, [⟨false, false, 96, 2, (.c (.sl [])), [[(.atm (.v 0)), (.atm (.v 1))]]⟩], [(.ptr 0 0 0)], 3, [⟨false, false, 96, 2, (.c (.sl [])), [[(.atm (.v 1)), (.atm (.v 2))]]⟩], (.atm (.v 0)), false, []⟩
def sg80 : Sig := ⟨115, 2, [], [(.atm (.v 0)), (.atm (.v 1))], 1, [], (.atm (.v 0)), false, []⟩
def sg81 : Sig := ⟨116, 2, [], [(.atm (.v 0)), (.atm (.v 1))], 1, [], (.atm (.v 0)), false, []⟩
def sg82 : Sig := ⟨136, 2, [], [(.atm (.v 0)), (.atm (.v 1))], 1, [], (.atm (.v 0)), false, []⟩
def sg83 : Sig := ⟨119, 3, [], [(.agg [(.atm (.v 0)), (.atm (.v 1)), (.atm (.v 2))])], 1, [], (.atm (.v 0)), false, []⟩
def sg84 : Sig := ⟨120, 3, [], [(.agg [(.atm (.v 0)), (.atm (.v 1)), (.atm (.v 2))])], 1, [], (.atm (.v 0)), true, []⟩
def sg85 : Sig := ⟨121, 2, [], [(.atm (.v 0)), (.atm (.v 1))], 1, [], (.atm (.v 0)), false, []⟩
def sg86 : Sig := ⟨122, 4, [], [(.atm (.v 0)), (.agg [(.atm (.v 1)), (.atm (.v 2)), (.atm (.v 3))])], 1, [], (.atm (.v 0)), false, []⟩
def sg87 : Sig := ⟨117, 1, [], [(.atm (.v 0))], 1, [], (.atm (.v 0)), false, []⟩
def sg88 : Sig := ⟨129, 3, [], [(.agg [(.atm (.v 0)), (.atm (.v 1)), (.atm (.v 2))])], 1, [], (.atm (.v 0)), false, []⟩
def sg89 : Sig := ⟨130, 3, [], [(.agg [(.atm (.v 0)), (.atm (.v 1)), (.atm (.v 2))])], 1, [], (.atm (.v 0)), false, []⟩
def sg90 : Sig := ⟨131, 3, [], [(.agg [(.atm (.v 0)), (.atm (.v 1)), (.atm (.v 2))])], 1, [], (.atm (.v 0)), false, []⟩
def sg91 : Sig := ⟨132, 3, [], [(.agg [(.atm (.v 0)), (.atm (.v 1)), (.atm (.v 2))])], 1, [], (.atm (.v 0)), false, []⟩
def sg92 : Sig := ⟨133, 4, [], [(.atm (.v 0)), (.agg [(.atm (.v 1)), (.atm (.v 2)), (.atm (.v 3))])], 1, [], (.atm (.v 0)), true, []⟩
def sg93 : Sig := ⟨134, 4, [], [(.agg [(.atm (.v 0)), (.atm (.v 1)), (.atm (.v 2))]), (.atm (.v 3))], 1, [], (.atm (.v 0)), false, []⟩
def sg94 : Sig := ⟨137, 2, [], [(.atm (.v 0)), (.atm (.v 1))], 1, [], (.atm (.v 0)), false, []⟩
def sg95 : Sig := ⟨126, 1, [], [(.atm (.v 0))], 1, [⟨false, false, 22, 1, (.c (.sl [])), [[(.atm (.v 0))]]⟩], (.clo 165 [] [(.ptr 0 0 0)]), false, []⟩
def sg96 : Sig := ⟨125, 1, [⟨false, false, 22, 1, (.c (.sl [])), [[(.atm (.v 0))]]⟩], [(.clo 165 [] [(.ptr 0 0 0)])], 2, [⟨false, false, 22, 1, (.c (.sl [])), [[(.atm (.v 1))]]⟩, ⟨false, true, 3, 1, (.v 0), []⟩], (.own 1), true, []⟩
def sg97 : Sig := ⟨124, 1, [⟨false, true, 3, 1, (.v 0), []⟩], [(.own 0)], 2, [⟨true, true, 3, 1, (.v 1), []⟩], (.atm (.v 0)), true, []⟩
def sg98 : Sig := ⟨127, 1, [], [(.atm (.v 0))], 1, [⟨false, true, 9, 1, (.v 0), []⟩], (.own 0), true, []⟩
def sg99 : Sig := ⟨128, 2, [], [(.atm (.v 0)), (.atm (.v 1))], 2, [], (.tup [(.atm (.v 0)), (.atm (.v 1))]), false, []⟩
def sg100 : Sig := ⟨147, 1, [], [(.atm (.v 0))], 1, [], (.atm (.v 0)), false, []⟩
def sg101 : Sig := ⟨149, 2, [], [(.atm (.v 0)), (.atm (.v 1))], 3, [], (.agg [(.atm (.v 0)), (.atm (.v 1)), (.atm (.v 2))]), true, []⟩
def sg102 : Sig := ⟨135, 1, [], [(.atm (.v 0))], 1, [], (.atm (.v 0)), false, []⟩
def sg103 : Sig := ⟨150, 3, [], [(.atm (.v 0)), (.atm (.v 1)), (.atm (.v 2))], 1, [], (.atm (.v 0)), false, []⟩
def sg104 : Sig := ⟨151, 6, [], [(.agg [(.atm (.v 0)), (.atm (.v 1)), (.atm (.v 2))]), (.agg [(.atm (.v 3)), (.atm (.v 4)), (.atm (.v 5))])], 1, [], (.atm (.v 0)), false, []⟩
def sg105 : Sig := ⟨152, 7, [], [(.atm (.v 0)), (.agg [(.atm (.v 1)), (.atm (.v 2)), (.atm (.v 3))]), (.agg [(.atm (.v 4)), (.atm (.v 5)), (.atm (.v 6))])], 3, [], (.agg [(.atm (.v 0)), (.atm (.v 1)), (.atm (.v 2))]), true, []⟩
def sg106 : Sig := ⟨169, 2, [], [(.atm (.v 0)), (.atm (.v 1))], 1, [], (.atm (.v 0)), false, []⟩
def sg107 : Sig := ⟨153, 3, [], [(.agg [(.atm (.v 0)), (.atm (.v 1)), (.atm (.v 2))])], 1, [], (.atm (.v 0)), false, []⟩
def sg108 : Sig := ⟨154, 3, [], [(.agg [(.atm (.v 0)), (.atm (.v 1)), (.atm (.v 2))])], 1, [], (.atm (.v 0)), false, []⟩
def sg109 : Sig := ⟨155, 3, [], [(.agg [(.atm (.v 0)), (.atm (.v 1)), (.atm (.v 2))]), (.atm (.c (fnD 156)))], 1, [], (.atm (.v 0)), false, []⟩
def sg110 : Sig := ⟨155, 3, [], [(.agg [(.atm (.v 0)), (.atm (.v 1)), (.atm (.v 2))]), (.atm (.c (fnD 157)))], 1, [], (.atm (.v 0)), false, []⟩
def sg111 : Sig := ⟨161, 2, [], [(.atm (.v 0)), (.atm (.v 1))], 1, [], (.atm (.v 0)), false, []⟩
def sg112 : Sig := ⟨162, 1, [], [(.atm (.v 0))], 1, [], (.atm (.v 0)), false, []⟩
def sg113 : Sig := ⟨168, 2, [], [(.atm (.v 0)), (.atm (.v 1))], 1, [], (.atm (.v 0)), true, []⟩
def sg114 : Sig := ⟨170, 2, [], [(.atm (.v 0)), (.atm (.v 1))], 1, [], (.atm (.v 0)), false, []⟩
def sg115 : Sig := ⟨163, 1, [⟨false, false, 22, 1, (.c (.sl [])), [[(.atm (.v 0))]]⟩], [(.clo 165 [] [(.ptr 0 0 0)])], 2, [⟨false, false, 22, 1, (.c (.sl [])), [[(.atm (.v 1))]]⟩, ⟨false, true, 3, 1, (.v 0), []⟩], (.own 1), true, []⟩
def sg116 : Sig := ⟨164, 1, [⟨false, true, 3, 1, (.v 0), []⟩], [(.own 0)], 1, [⟨false, true, 3, 1, (.v 0), []⟩], (.tup []), false, [0]⟩
def sg117 : Sig := ⟨166, 2, [], [(.atm (.v 0)), (.atm (.v 1))], 1, [], (.atm (.v 0)), false, []⟩
def sg118 : Sig := ⟨167, 1, [], [(.atm (.v 0))], 1, [], (.atm (.v 0)), false, []⟩
def sg119 : Sig := ⟨171, 1, [], [(.atm (.v 0))], 2, [], (.tup [(.atm (.v 0)), (.atm (.v 1))]), false, []⟩
def sg120 : Sig := ⟨172, 7, [], [(.atm (.v 0)), (.agg [(.atm (.v 1)), (.atm (.v 2)), (.atm (.v 3))]), (.agg [(.atm (.v 4)), (.atm (.v 5)), (.atm (.v 6))])], 3, [], (.agg [(.atm (.v 0)), (.atm (.v 1)), (.atm (.v 2))]), true, []⟩
def sg121 : Sig := ⟨173, 2, [], [(.atm (.v 0)), (.atm (.v 1))], 1, [], (.atm (.v 0)), false, []⟩
def sg122 : Sig := ⟨156, 3, [], [(.agg [(.atm (.v 0)), (.atm (.v 1)), (.atm (.v 2))])], 1, [], (.atm (.v 0)), false, []⟩
def sg123 : Sig := ⟨157, 3, [], [(.agg [(.atm (.v 0)), (.atm (.v 1)), (.atm (.v 2))])], 1, [], (.atm (.v 0)), false, []⟩
def sg124 : Sig := ⟨145, 1, [], [(.atm (.v 0))], 1, [], (.atm (.v 0)), false, []⟩
def sigs : List Sig := [sg0, sg1, sg2, sg3, sg4, sg5, sg6, sg7, sg8, sg9, sg10, sg11, sg12, sg13, sg14, sg15, sg16, sg17, sg18, sg19, sg20, sg21, sg22, sg23, sg24, sg25, sg26, sg27, sg28, sg29, sg30, sg31, sg32, sg33, sg34, sg35, sg36, sg37, sg38, sg39, sg40, sg41, sg42, sg43, sg44, sg45, sg46, sg47, sg48, sg49, sg50, sg51, sg52, sg53, sg54, sg55, sg56, sg57, sg58, sg59, sg60, sg61, sg62, sg63, sg64, sg65, sg66, sg67, sg68, sg69, sg70, sg71, sg72, sg73, sg74, sg75, sg76, sg77, sg78, sg79, sg80, sg81, sg82, sg83, sg84, sg85, sg86, sg87, sg88, sg89, sg90, sg91, sg92, sg93, sg94, sg95, sg96, sg97, sg98, sg99, sg100, sg101, sg102, sg103, sg104, sg105, sg106, sg107, sg108, sg109, sg110, sg111, sg112, sg113, sg114, sg115, sg116, sg117, sg118, sg119, sg120, sg121, sg122, sg123, sg124]
def an0 : Ann := (.s none .z (.s none .z (.s none .z (.s none .z (.s none .z (.s none .z (.s none .z (.s none .z (.s none .z (.s none (.s (some ⟨1, [(0, .junk), (2, .junk), (3, .junk), (4, .junk), (9, .junk), (11, .junk), (13, .junk), (15, .junk), (22, .junk), (23, .junk), (24, .junk), (25, .junk), (26, .junk), (27, .junk), (28, .junk), (29, .junk), (30, .junk), (31, .junk), (32, .junk), (33, .junk), (34, .junk), (35, .junk), (36, .junk), (37, .junk), (38, .junk), (39, .junk), (40, .junk), (41, .junk), (42, .junk), (43, .junk), (44, .junk), (45, .junk), (46, .junk), (47, .junk), (48, .junk), (49, .junk), (50, .junk), (51, .junk), (52, .junk), (53, .junk), (54, .junk), (55, .junk), (56, .junk), (57, .junk), (58, .junk), (59, .junk), (60, .junk), (61, .junk), (62, .junk), (76, (.atm (.v 0)))], [], 4, []⟩) .z .z) .z))))))))))
def ir0p0 : IR :=
 (.ite (.v 34)
  (.ret [(.c (.bool false))])
 (.call 12 2 false [] [(.v 6), (.v 10), (.v 11), (.v 12)]
 (.call 13 2 false [] [(.v 6), (.v 10), (.v 11), (.v 12), (.v 15), (.v 16), (.v 17)]
 (.call 14 2 false [] [(.v 6), (.v 7), (.v 10), (.v 11), (.v 12)]
 (.op .min [(.v 20), (.v 22)]
 (.op (.bin .eql false) [(.v 27), (.v 41)]
 (.ite (.v 42)
  (.op .max [(.v 20), (.v 22)]
  (.op (.bin .geq false) [(.v 32), (.v 43)]
  (.ite (.v 44)
   (.op (.un .not) [(.v 37)]
   (.ite (.v 45)
    (.call 15 1 false [] [(.v 6), (.v 7)]
    (.op (.bin .add false) [(.v 46), (.c (.int .i64 1))]
    (.op (.bin .eql false) [(.v 20), (.v 47)]
    (.call 16 1 false [] [(.v 6)]
    (.op (.bin .eql false) [(.v 35), (.v 49)]
    (.op (.bin .eql true) [(.v 48), (.v 50)]
    (.ite (.v 51)
     (.op (.bin .gtr false) [(.v 20), (.c (.int .i64 0))]
     (.op (.bin .eql true) [(.v 52), (.v 39)]
     (.ite (.v 53)
      (.call 17 1 false [] []
      (.ret [(.v 54)]))
     (.ret [(.c (.bool false))]))))
    (.ret [(.c (.bool false))]))))))))
   (.op (.bin .leq false) [(.v 20), (.v 22)]
   (.ite (.v 46)
    (.call 15 1 false [] [(.v 6), (.v 7)]
    (.op (.bin .add false) [(.v 47), (.c (.int .i64 1))]
    (.op (.bin .eql false) [(.v 20), (.v 48)]
    (.call 16 1 false [] [(.v 6)]
    (.op (.bin .eql false) [(.v 35), (.v 50)]
    (.op (.bin .eql true) [(.v 49), (.v 51)]
    (.ite (.v 52)
     (.op (.bin .gtr false) [(.v 20), (.c (.int .i64 0))]
     (.op (.bin .eql true) [(.v 53), (.v 39)]
     (.ite (.v 54)
      (.call 17 1 false [] []
      (.ret [(.v 55)]))
     (.ret [(.c (.bool false))]))))
    (.ret [(.c (.bool false))]))))))))
   (.ret [(.c (.bool false))])))))
  (.ret [(.c (.bool false))]))))
 (.ret [(.c (.bool false))]))))))))
def ir0 : IR :=
 (.call 5 2 false [] [(.v 0)]
 (.call 6 3 false [] [(.c (.int .i64 1)), (.c (.int .i64 3)), (.v 1), (.v 2)]
 (.call 7 4 false [] [(.v 3), (.v 4), (.v 5)]
 (.call 8 5 false [] [(.v 3), (.c (.int .i64 3)), (.v 8), (.v 9)]
 (.call 8 5 false [] [(.v 3), (.c (.int .i64 3)), (.v 13), (.v 14)]
 (.call 9 2 false [] [(.v 6), (.v 7), (.v 10), (.v 11), (.v 12)]
 (.call 9 2 false [] [(.v 6), (.v 7), (.v 15), (.v 16), (.v 17)]
 (.call 10 3 false [] [(.v 10), (.v 11), (.v 12), (.v 15), (.v 16), (.v 17)]
 (.call 9 2 false [] [(.v 6), (.v 7), (.v 24), (.v 25), (.v 26)]
 (.call 11 3 false [] [(.v 10), (.v 11), (.v 12), (.v 15), (.v 16), (.v 17)]
 (.call 9 2 false [] [(.v 6), (.v 7), (.v 29), (.v 30), (.v 31)]
 (.letj 1
  (.op (.bin .neq false) [(.v 21), (.c (.int .i64 0))]
  (.ite (.v 34)
   (.jump 0 [(.c (.bool true))])
  (.op (.bin .neq false) [(.v 23), (.c (.int .i64 0))]
  (.ite (.v 35)
   (.jump 0 [(.c (.bool true))])
  (.op (.bin .neq false) [(.v 28), (.c (.int .i64 0))]
  (.ite (.v 36)
   (.jump 0 [(.c (.bool true))])
  (.op (.bin .neq false) [(.v 33), (.c (.int .i64 0))]
  (.jump 0 [(.v 37)]))))))))
 ir0p0))))))))))))
theorem rd0 : readFn T SG sigs 3000 sg0 Tryz.f7 an0 = some ir0 := by kernel_rfl
def an1 : Ann := (.s none .z (.s none .z (.s none .z (.s none .z (.s none .z (.s none (.s (some ⟨1, [(0, .junk), (2, .junk), (19, .junk), (20, .junk), (21, .junk), (22, .junk), (23, .junk), (24, .junk), (25, .junk), (26, .junk), (27, .junk), (28, .junk), (29, .junk), (30, .junk), (31, .junk), (32, .junk), (38, (.atm (.v 0)))], [], 2, []⟩) .z .z) (.s none .z (.s none .z (.s none (.s none .z (.b (.l ⟨3, [(3, .junk), (4, .junk), (9, (.atm (.v 0))), (10, (.atm (.v 1))), (11, (.atm (.v 2))), (38, .junk), (39, .junk), (40, .junk), (41, .junk)], [], 3, []⟩ (.s none .z (.s (some ⟨2, [(9, (.atm (.v 0))), (10, (.atm (.v 1))), (42, .junk), (43, .junk), (44, .junk), (45, .junk)], [], 3, []⟩) (.b (.s none .z (.s none .z (.s (some ⟨2, [(9, (.atm (.v 0))), (10, (.atm (.v 1))), (12, .junk), (13, .junk), (14, .junk), (15, .junk), (42, .junk), (43, .junk), (44, .junk), (45, .junk), (48, .junk), (49, .junk), (50, .junk), (51, .junk), (52, .junk), (53, .junk), (54, .junk), (55, .junk), (56, .junk), (57, .junk), (58, .junk), (59, .junk), (60, .junk), (61, .junk), (62, .junk), (63, .junk), (64, .junk), (65, .junk), (66, .junk), (67, .junk)], [], 3, []⟩) .z (.s none .z (.c (.s none .z (.s (some ⟨1, [(16, .junk), (17, .junk), (77, .junk), (78, .junk), (79, .junk), (80, .junk), (81, .junk), (82, .junk), (83, .junk), (84, .junk), (85, .junk), (86, .junk), (87, .junk), (93, (.atm (.v 0)))], [], 3, []⟩) .z .z)) .z)))))) .z))))) (.s none .z (.s none .z (.s none (.s none .z (.b (.l ⟨1, [(5, .junk), (7, .junk), (10, .junk), (11, .junk), (18, (.atm (.v 0))), (42, .junk), (43, .junk), (44, .junk), (45, .junk), (94, .junk), (95, .junk), (104, .junk), (105, .junk), (106, .junk), (107, .junk), (108, .junk), (109, .junk), (110, .junk)], [], 3, []⟩ (.s none (.s (some ⟨1, [(118, (.atm (.v 0)))], [], 3, []⟩) .z .z) .z)))) .z))))))))))))
def ir1p0 : IR :=
 (.op (.bin .add false) [(.v 20), (.c (.int .i64 1))]
 (.jump 0 [(.v 23), (.v 24), (.v 25)]))
def ir1p1 : IR :=
 (.ite (.v 50)
  (.ret [(.c (.bool false))])
 (.jump 1 [(.v 39), (.v 40)]))
def ir1p2 : IR :=
 (.op (.bin .eql false) [(.v 12), (.c (.int .i64 0))]
 (.ite (.v 41)
  (.op (.row 6) [(.v 6), (.v 20)]
  (.call 22 2 false [] [(.v 10), (.v 11), (.v 42), (.v 43), (.v 44), (.v 45), (.v 46), (.v 47)]
  (.letj 1
   (.op (.un .not) [(.v 48)]
   (.ite (.v 50)
    (.jump 2 [(.c (.bool true))])
   (.op (.bin .neq false) [(.v 49), (.c (.int .i64 0))]
   (.jump 2 [(.v 51)]))))
  ir1p1)))
 (.jump 1 [(.v 39), (.v 40)])))
def ir1p3 : IR :=
 (.ite (.v 28)
  (.op (.row 1) [(.v 15), (.v 27)]
  (.op (.row 1) [(.v 11), (.v 27)]
  (.op (.bin .lss false) [(.v 29), (.v 30)]
  (.ite (.v 31)
   (.ret [(.c (.bool false))])
  (.op (.bin .add false) [(.v 27), (.c (.int .i64 1))]
  (.jump 1 [(.v 32)]))))))
 (.call 17 1 false [] []
 (.ret [(.v 29)])))
def ir1p4 : IR :=
 (.letj 1
  (.op .lenL [(.v 15)]
  (.op (.bin .lss false) [(.v 27), (.v 28)]
  (.ite (.v 29)
   (.jump 2 [(.v 18)])
  (.jump 2 [(.c (.bool false))]))))
 ir1p3)
def ir1p5 : IR :=
 (.op .lenL [(.v 6)]
 (.op (.bin .lss false) [(.v 20), (.v 21)]
 (.ite (.v 22)
  (.letj 2
   (.op (.row 6) [(.v 6), (.v 20)]
   (.call 21 2 false [] [(.v 14), (.v 15), (.v 23), (.v 24), (.v 25), (.v 26), (.v 27), (.v 28)]
   (.op (.row 6) [(.v 6), (.v 20)]
   (.call 12 2 false [] [(.v 14), (.v 31), (.v 32), (.v 33)]
   (.letj 2
    (.ite (.v 18)
     (.ite (.v 19)
      (.op (.bin .neq false) [(.v 37), (.c (.int .u64 0))]
      (.jump 2 [(.v 29), (.v 39)]))
     (.jump 2 [(.v 29), (.c (.bool false))]))
    (.ite (.v 19)
     (.op (.bin .neq false) [(.v 37), (.c (.int .u64 0))]
     (.jump 2 [(.c (.bool false)), (.v 39)]))
    (.jump 2 [(.c (.bool false)), (.c (.bool false))])))
   ir1p2)))))
  ir1p0)
 (.op (.bin .eql false) [(.v 12), (.c (.int .i64 9))]
 (.ite (.v 23)
  (.ite (.v 18)
   (.op (.un .not) [(.v 19)]
   (.ite (.v 24)
    (.call 17 1 false [] []
    (.ret [(.v 25)]))
   (.ret [(.c (.bool false))])))
  (.op (.un .not) [(.c (.bool false))]
  (.ite (.v 24)
   (.call 17 1 false [] []
   (.ret [(.v 25)]))
  (.ret [(.c (.bool false))]))))
 (.op .lenL [(.v 11)]
 (.op .lenL [(.v 15)]
 (.op (.bin .neq false) [(.v 24), (.v 25)]
 (.ite (.v 26)
  (.ret [(.c (.bool false))])
 (.loop 1 [(.c (.int .i64 0))] ir1p4))))))))))
def ir1p6 : IR :=
 (.ite (.v 13)
  (.ret [(.c (.bool false))])
 (.call 7 4 false [] [(.v 3), (.v 7), (.v 8)]
 (.loop 3 [(.c (.bool true)), (.c (.bool true)), (.c (.int .i64 0))] ir1p5)))
def ir1 : IR :=
 (.call 5 2 false [] [(.v 0)]
 (.call 6 3 false [] [(.c (.int .i64 1)), (.c (.int .i64 3)), (.v 1), (.v 2)]
 (.call 18 3 false [] [(.c (.int .i64 3)), (.v 3), (.v 4), (.v 5)]
 (.call 19 1 false [] [(.v 3)]
 (.call 20 3 false [] [(.v 9), (.v 6)]
 (.letj 1
  (.op (.bin .neq false) [(.v 12), (.c (.int .i64 0))]
  (.ite (.v 13)
   (.op (.bin .neq false) [(.v 12), (.c (.int .i64 9))]
   (.jump 0 [(.v 14)]))
  (.jump 0 [(.c (.bool false))])))
 ir1p6))))))
theorem rd1 : readFn T SG sigs 3000 sg1 Tryz.f9 an1 = some ir1 := by kernel_rfl
def an2 : Ann := (.s none .z (.s none (.s (some ⟨1, [(0, .junk), (6, .junk), (45, (.atm (.v 0)))], [], 1, []⟩) .z .z) (.s none .z (.s none .z (.s none .z (.s none .z (.s none (.s none .z (.b (.l ⟨1, [(2, .junk), (8, .junk), (45, .junk), (47, .junk), (48, .junk), (49, .junk), (50, .junk), (51, .junk), (52, .junk), (53, .junk), (54, .junk), (55, .junk), (56, .junk), (57, .junk), (58, .junk), (59, .junk), (60, .junk), (61, .junk), (64, (.atm (.v 0)))], [], 8, []⟩ (.s none .z (.s none .z (.s none (.b (.s none .z (.s none .z (.b (.l ⟨1, [(65, .junk), (66, .junk), (67, .junk), (68, .junk), (69, .junk), (72, (.atm (.v 0)))], [], 9, []⟩ (.s none .z (.s none .z (.s none (.b (.s none .z (.s none .z (.s none .z (.s (some ⟨1, [(14, .junk), (15, .junk), (16, .junk), (17, .junk), (18, .junk), (73, .junk), (74, .junk), (75, .junk), (76, .junk), (77, .junk), (78, .junk), (79, .junk), (80, .junk), (81, .junk), (82, .junk), (83, .junk), (84, .junk), (85, .junk), (86, .junk), (87, .junk), (96, (.atm (.v 0)))], [], 11, []⟩) .z .z))))) .z)))))))) .z)))))) (.s none (.s none .z (.b (.l ⟨3, [(3, .junk), (9, .junk), (10, .junk), (62, .junk), (63, .junk), (64, .junk), (65, .junk), (99, .junk), (100, .junk), (103, (.atm (.v 0)))], [(1, ⟨false, false, 96, 2, (.c (.sl [])), [[(.atm (.v 1)), (.atm (.v 2))]]⟩)], 9, []⟩ (.s none .z (.s none .z (.s none (.b (.s none .z (.s none .z (.s none .z (.s none (.s (some ⟨1, [(21, .junk), (22, .junk), (23, .junk), (24, .junk), (104, .junk), (105, .junk), (106, .junk), (107, .junk), (108, .junk), (109, .junk), (110, .junk), (111, .junk), (112, .junk), (113, .junk), (114, .junk), (115, .junk), (116, .junk), (125, (.atm (.v 0)))], [], 10, []⟩) .z .z) (.s none .z (.b (.l ⟨1, [(125, .junk), (127, .junk), (129, .junk), (130, .junk), (131, .junk), (134, (.atm (.v 0)))], [], 12, []⟩ (.s none .z (.s none .z (.s none (.b (.s none .z (.s none .z (.s none .z (.s (some ⟨1, [(26, .junk), (27, .junk), (28, .junk), (29, .junk), (30, .junk), (135, .junk), (136, .junk), (137, .junk), (138, .junk), (139, .junk), (140, .junk), (141, .junk), (142, .junk), (143, .junk), (144, .junk), (145, .junk), (146, .junk), (147, .junk), (148, .junk), (149, .junk), (157, (.atm (.v 0)))], [], 13, []⟩) .z .z))))) .z))))))))))) .z)))))) .z))))))))
def ir2p0 : IR :=
 (.ite (.v 35)
  (.ret [(.c (.bool false))])
 (.op (.bin .add false) [(.v 26), (.c (.int .i64 1))]
 (.jump 1 [(.v 36)])))
def ir2p1 : IR :=
 (.op (.bin .lss false) [(.v 26), (.v 25)]
 (.ite (.v 27)
  (.op .chk [(.v 24), (.v 26)]
  (.op (.get 0 1) [(.v 24), (.v 26)]
  (.call 25 3 false [] [(.v 23), (.v 28)]
  (.call 26 3 false [] [(.v 23), (.v 28)]
  (.letj 1
   (.op (.bin .neq false) [(.v 31), (.v 34)]
   (.ite (.v 35)
    (.jump 2 [(.c (.bool true))])
   (.call 27 1 false [] [(.v 29), (.v 30), (.v 32), (.v 33)]
   (.op (.un .not) [(.v 36)]
   (.jump 2 [(.v 37)])))))
  ir2p0)))))
 (.op (.bin .add false) [(.v 21), (.c (.int .i64 1))]
 (.jump 0 [(.v 28)]))))
def ir2p2 : IR :=
 (.ite (.v 54)
  (.ret [(.c (.bool false))])
 (.op (.bin .add false) [(.v 45), (.c (.int .i64 1))]
 (.jump 2 [(.v 55)])))
def ir2p3 : IR :=
 (.op (.bin .lss false) [(.v 45), (.v 44)]
 (.ite (.v 46)
  (.op .chk [(.v 43), (.v 45)]
  (.op (.get 0 3) [(.v 43), (.v 45)]
  (.call 9 2 false [] [(.v 29), (.v 30), (.v 47), (.v 48), (.v 49)]
  (.call 31 2 false [] [(.v 29), (.v 30), (.v 47), (.v 48), (.v 49)]
  (.letj 1
   (.op (.bin .neq false) [(.v 50), (.v 52)]
   (.ite (.v 54)
    (.jump 3 [(.c (.bool true))])
   (.op (.bin .neq false) [(.v 51), (.v 53)]
   (.jump 3 [(.v 55)]))))
  ir2p2)))))
 (.op (.bin .add false) [(.v 25), (.c (.int .i64 1))]
 (.jump 1 [(.v 47), (.v 40), (.v 41)]))))
def ir2p4 : IR :=
 (.ite (.v 35)
  (.ret [(.c (.bool false))])
 (.op (.app 3 48) [(.c (.sl [])), (.v 2)]
 (.call 8 5 false [] [(.c (.int .i64 3)), (.c (.int .i64 3)), (.v 26), (.v 27)]
 (.op (.mk 3 1) [(.v 37), (.v 38), (.v 39)]
 (.op (.app 3 48) [(.v 36), (.v 42)]
 (.op .lenL [(.v 43)]
 (.loop 1 [(.c (.int .i64 0))] ir2p3)))))))
def ir2p5 : IR :=
 (.op (.bin .lss false) [(.v 25), (.v 24)]
 (.ite (.v 28)
  (.op .chk [(.v 23), (.v 25)]
  (.op (.get 0 2) [(.v 23), (.v 25)]
  (.call 28 2 false [] [(.v 29), (.v 30)]
  (.call 29 2 false [] [(.v 29), (.v 30)]
  (.letj 1
   (.op (.bin .neq false) [(.v 32), (.v 34)]
   (.ite (.v 35)
    (.jump 2 [(.c (.bool true))])
   (.call 30 1 false [] [(.v 31), (.v 33)]
   (.op (.un .not) [(.v 36)]
   (.jump 2 [(.v 37)])))))
  ir2p4)))))
 (.call 17 1 false [] []
 (.ret [(.v 29)]))))
def ir2p6 : IR :=
 (.op (.bin .lss false) [(.v 21), (.v 20)]
 (.ite (.v 22)
  (.op .chk [(.v 19), (.v 21)]
  (.op (.get 0 1) [(.v 19), (.v 21)]
  (.op (.mk 1 2) [(.v 2), (.v 15)]
  (.op .lenL [(.v 24)]
  (.loop 1 [(.c (.int .i64 0))] ir2p1)))))
 (.op (.mk 2 2) [(.v 0), (.v 1), (.v 10), (.v 11)]
 (.op .lenL [(.v 23)]
 (.loop 3 [(.c (.int .i64 0)), (.v 16), (.v 17)] ir2p5)))))
def ir2p7 : IR :=
 (.ite (.v 4)
  (.call 17 1 false [] []
  (.ret [(.v 5)]))
 (.call 5 2 false [] [(.v 3)]
 (.call 6 3 false [] [(.c (.int .i64 0)), (.c (.int .i64 3)), (.v 5), (.v 6)]
 (.call 7 4 false [] [(.v 7), (.v 8), (.v 9)]
 (.op .max [(.v 7), (.c (.int .i64 1))]
 (.call 24 3 false [] [(.c (.int .i64 4)), (.v 14), (.v 12), (.v 13)]
 (.call 19 1 false [] [(.v 7)]
 (.op (.mk 1 2) [(.v 0), (.v 18)]
 (.op .lenL [(.v 19)]
 (.loop 1 [(.c (.int .i64 0))] ir2p6))))))))))
def ir2 : IR :=
 (.letj 1
  (.op .lenL [(.v 0)]
  (.op (.bin .gtr false) [(.v 4), (.c (.int .i64 10))]
  (.ite (.v 5)
   (.jump 0 [(.c (.bool true))])
  (.op .lenL [(.v 1)]
  (.op (.bin .gtr false) [(.v 6), (.c (.int .i64 100))]
  (.ite (.v 7)
   (.jump 0 [(.c (.bool true))])
  (.call 23 1 false [] [(.v 2)]
  (.op (.un .not) [(.v 8)]
  (.jump 0 [(.v 9)])))))))))
 ir2p7)
theorem rd2 : readFn T SG sigs 3000 sg2 Tryz.f12 an2 = some ir2 := by kernel_rfl
def an3 : Ann := (.s none .z (.s none (.s (some ⟨1, [(0, .junk), (6, .junk), (51, (.atm (.v 0)))], [], 1, []⟩) .z .z) (.s none (.s none .z (.b (.l ⟨1, [(7, (.atm (.v 0))), (51, .junk)], [], 1, []⟩ (.s none .z (.s none (.b (.s (some ⟨1, [(53, .junk), (54, .junk), (55, .junk), (56, .junk), (74, (.atm (.v 0)))], [], 1, []⟩) .z .z)) .z))))) (.s none .z (.s none .z (.s none .z (.s none .z (.s none (.s none .z (.b (.l ⟨1, [(2, .junk), (7, .junk), (8, .junk), (9, .junk), (53, .junk), (54, .junk), (55, .junk), (56, .junk), (76, .junk), (77, .junk), (78, .junk), (79, .junk), (80, .junk), (81, .junk), (82, .junk), (83, .junk), (84, .junk), (85, .junk), (86, .junk), (87, .junk), (88, .junk), (89, .junk), (92, (.atm (.v 0)))], [], 8, []⟩ (.s none .z (.s none .z (.s none (.b (.s none .z (.s none .z (.b (.l ⟨1, [(93, .junk), (94, .junk), (95, .junk), (96, .junk), (97, .junk), (100, (.atm (.v 0)))], [], 9, []⟩ (.s none .z (.s none .z (.s none (.b (.s none .z (.s none .z (.s none .z (.s none .z (.s none .z (.s (some ⟨1, [(15, .junk), (16, .junk), (17, .junk), (18, .junk), (19, .junk), (20, .junk), (21, .junk), (22, .junk), (23, .junk), (101, .junk), (102, .junk), (103, .junk), (104, .junk), (105, .junk), (106, .junk), (107, .junk), (108, .junk), (109, .junk), (110, .junk), (111, .junk), (112, .junk), (113, .junk), (114, .junk), (115, .junk), (116, .junk), (117, .junk), (118, .junk), (119, .junk), (120, .junk), (121, .junk), (122, .junk), (123, .junk), (124, .junk), (125, .junk), (126, .junk), (127, .junk), (147, (.atm (.v 0)))], [], 11, []⟩) .z .z))))))) .z)))))))) .z)))))) (.s none (.s none .z (.b (.l ⟨1, [(3, .junk), (10, .junk), (90, .junk), (91, .junk), (92, .junk), (93, .junk), (150, .junk), (151, .junk), (154, (.atm (.v 0)))], [], 9, []⟩ (.s none .z (.s none .z (.s none (.b (.s none .z (.s none .z (.s none .z (.s none (.s (some ⟨1, [(27, .junk), (29, .junk), (155, .junk), (156, .junk), (157, .junk), (158, .junk), (159, .junk), (160, .junk), (161, .junk), (162, .junk), (163, .junk), (164, .junk), (165, .junk), (166, .junk), (167, .junk), (177, (.atm (.v 0)))], [], 10, []⟩) .z .z) (.s none (.s none .z (.b (.l ⟨1, [(30, (.atm (.v 0))), (177, .junk)], [], 10, []⟩ (.s none .z (.s none (.b (.s (some ⟨1, [(178, .junk), (179, .junk), (180, .junk), (181, .junk), (209, (.atm (.v 0)))], [], 10, []⟩) .z .z)) .z))))) (.s none .z (.b (.l ⟨1, [(26, .junk), (28, .junk), (30, .junk), (178, .junk), (179, .junk), (180, .junk), (181, .junk), (211, .junk), (213, .junk), (216, (.atm (.v 0)))], [], 11, []⟩ (.s none .z (.s none .z (.s none (.b (.s none .z (.s none .z (.s none .z (.s (some ⟨1, [(32, .junk), (33, .junk), (34, .junk), (35, .junk), (36, .junk), (217, .junk), (218, .junk), (219, .junk), (220, .junk), (221, .junk), (222, .junk), (223, .junk), (224, .junk), (225, .junk), (226, .junk), (227, .junk), (228, .junk), (229, .junk), (230, .junk), (231, .junk), (239, (.atm (.v 0)))], [], 12, []⟩) .z .z))))) .z)))))))))))) .z)))))) .z)))))))))
def ir3p0 : IR :=
 (.ite (.v 8)
  (.call 17 1 false [] []
  (.ret [(.v 9)]))
 (.op (.bin .add false) [(.v 5), (.c (.int .i64 1))]
 (.jump 0 [(.v 9)])))
def ir3p1 : IR :=
 (.ite (.v 41)
  (.ret [(.c (.bool false))])
 (.op (.bin .add false) [(.v 28), (.c (.int .i64 1))]
 (.jump 2 [(.v 42)])))
def ir3p2 : IR :=
 (.op (.bin .lss false) [(.v 28), (.v 27)]
 (.ite (.v 29)
  (.op .chk [(.v 26), (.v 28)]
  (.op (.get 0 1) [(.v 26), (.v 28)]
  (.call 33 2 false [] [(.v 25), (.v 30)]
  (.call 34 2 false [] [(.v 25), (.v 30)]
  (.call 20 3 false [] [(.v 25), (.v 30)]
  (.call 35 3 false [] [(.v 25), (.v 30)]
  (.letj 1
   (.op (.bin .neq false) [(.v 32), (.v 34)]
   (.ite (.v 41)
    (.jump 3 [(.c (.bool true))])
   (.op (.bin .neq false) [(.v 37), (.v 40)]
   (.ite (.v 42)
    (.jump 3 [(.c (.bool true))])
   (.call 36 1 false [] [(.v 31), (.v 33)]
   (.op (.un .not) [(.v 43)]
   (.ite (.v 44)
    (.jump 3 [(.c (.bool true))])
   (.call 27 1 false [] [(.v 35), (.v 36), (.v 38), (.v 39)]
   (.op (.un .not) [(.v 45)]
   (.jump 3 [(.v 46)]))))))))))
  ir3p1)))))))
 (.op (.bin .add false) [(.v 23), (.c (.int .i64 1))]
 (.jump 1 [(.v 30)]))))
def ir3p3 : IR :=
 (.ite (.v 39)
  (.ret [(.c (.bool false))])
 (.op (.bin .add false) [(.v 36), (.c (.int .i64 1))]
 (.jump 3 [(.v 40)])))
def ir3p4 : IR :=
 (.ite (.v 54)
  (.ret [(.c (.bool false))])
 (.op (.bin .add false) [(.v 42), (.c (.int .i64 1))]
 (.jump 4 [(.v 55)])))
def ir3p5 : IR :=
 (.op (.bin .lss false) [(.v 42), (.v 41)]
 (.ite (.v 43)
  (.op .chk [(.v 40), (.v 42)]
  (.op (.get 0 6) [(.v 40), (.v 42)]
  (.call 22 2 false [] [(.v 29), (.v 30), (.v 44), (.v 45), (.v 46), (.v 47), (.v 48), (.v 49)]
  (.call 21 2 false [] [(.v 29), (.v 30), (.v 44), (.v 45), (.v 46), (.v 47), (.v 48), (.v 49)]
  (.letj 1
   (.op (.bin .neq true) [(.v 50), (.v 52)]
   (.ite (.v 54)
    (.jump 5 [(.c (.bool true))])
   (.op (.bin .neq false) [(.v 51), (.v 53)]
   (.jump 5 [(.v 55)]))))
  ir3p4)))))
 (.op (.bin .add false) [(.v 27), (.c (.int .i64 1))]
 (.jump 2 [(.v 44)]))))
def ir3p6 : IR :=
 (.op .lenL [(.v 31)]
 (.op (.bin .lss false) [(.v 36), (.v 37)]
 (.ite (.v 38)
  (.letj 1
   (.op (.row 6) [(.v 31), (.v 36)]
   (.op (.row 6) [(.v 33), (.v 36)]
   (.call 39 1 false [] [(.v 39), (.v 40), (.v 41), (.v 45), (.v 46), (.v 47)]
   (.op (.un .not) [(.v 51)]
   (.ite (.v 52)
    (.jump 4 [(.c (.bool true))])
   (.op (.row 6) [(.v 31), (.v 36)]
   (.op (.row 6) [(.v 33), (.v 36)]
   (.call 39 1 false [] [(.v 56), (.v 57), (.v 58), (.v 62), (.v 63), (.v 64)]
   (.op (.un .not) [(.v 65)]
   (.jump 4 [(.v 66)]))))))))))
  ir3p3)
 (.op (.app 6 96) [(.c (.sl [])), (.v 2)]
 (.op (.app 6 96) [(.v 39), (.v 17)]
 (.op .lenL [(.v 40)]
 (.loop 1 [(.c (.int .i64 0))] ir3p5)))))))
def ir3p7 : IR :=
 (.ite (.v 35)
  (.ret [(.c (.bool false))])
 (.loop 1 [(.c (.int .i64 0))] ir3p6))
def ir3p8 : IR :=
 (.op (.bin .lss false) [(.v 27), (.v 26)]
 (.ite (.v 28)
  (.op .chk [(.v 25), (.v 27)]
  (.op (.get 0 2) [(.v 25), (.v 27)]
  (.call 37 2 false [] [(.v 29), (.v 30)]
  (.call 38 2 false [] [(.v 29), (.v 30)]
  (.letj 1
   (.op (.bin .neq false) [(.v 32), (.v 34)]
   (.ite (.v 35)
    (.jump 3 [(.c (.bool true))])
   (.op .lenL [(.v 31)]
   (.op .lenL [(.v 33)]
   (.op (.bin .neq false) [(.v 36), (.v 37)]
   (.jump 3 [(.v 38)]))))))
  ir3p7)))))
 (.call 17 1 false [] []
 (.ret [(.v 29)]))))
def ir3p9 : IR :=
 (.op (.bin .lss false) [(.v 23), (.v 22)]
 (.ite (.v 24)
  (.op .chk [(.v 21), (.v 23)]
  (.op (.get 0 1) [(.v 21), (.v 23)]
  (.op (.mk 1 2) [(.v 2), (.v 17)]
  (.op .lenL [(.v 26)]
  (.loop 1 [(.c (.int .i64 0))] ir3p2)))))
 (.op (.mk 2 2) [(.v 0), (.v 1), (.v 13), (.v 14)]
 (.op .lenL [(.v 25)]
 (.loop 1 [(.c (.int .i64 0))] ir3p8)))))
def ir3p10 : IR :=
 (.op .lenL [(.v 2)]
 (.op (.bin .lss false) [(.v 5), (.v 6)]
 (.ite (.v 7)
  (.letj 1
   (.op (.row 6) [(.v 2), (.v 5)]
   (.call 32 1 false [] [(.v 8), (.v 9), (.v 10)]
   (.op (.un .not) [(.v 14)]
   (.ite (.v 15)
    (.jump 1 [(.c (.bool true))])
   (.op (.row 6) [(.v 2), (.v 5)]
   (.call 32 1 false [] [(.v 19), (.v 20), (.v 21)]
   (.op (.un .not) [(.v 22)]
   (.jump 1 [(.v 23)]))))))))
  ir3p0)
 (.call 5 2 false [] [(.v 3)]
 (.call 6 3 false [] [(.c (.int .i64 1)), (.c (.int .i64 3)), (.v 8), (.v 9)]
 (.call 7 4 false [] [(.v 10), (.v 11), (.v 12)]
 (.call 18 3 false [] [(.c (.int .i64 4)), (.v 10), (.v 15), (.v 16)]
 (.call 19 1 false [] [(.v 10)]
 (.op (.mk 1 2) [(.v 0), (.v 20)]
 (.op .lenL [(.v 21)]
 (.loop 1 [(.c (.int .i64 0))] ir3p9)))))))))))
def ir3p11 : IR :=
 (.ite (.v 4)
  (.call 17 1 false [] []
  (.ret [(.v 5)]))
 (.loop 1 [(.c (.int .i64 0))] ir3p10))
def ir3 : IR :=
 (.letj 1
  (.op .lenL [(.v 0)]
  (.op (.bin .gtr false) [(.v 4), (.c (.int .i64 10))]
  (.ite (.v 5)
   (.jump 0 [(.c (.bool true))])
  (.op .lenL [(.v 1)]
  (.op (.bin .gtr false) [(.v 6), (.c (.int .i64 100))]
  (.ite (.v 7)
   (.jump 0 [(.c (.bool true))])
  (.op .lenL [(.v 2)]
  (.op (.bin .gtr false) [(.v 8), (.c (.int .i64 10))]
  (.jump 0 [(.v 9)])))))))))
 ir3p11)
theorem rd3 : readFn T SG sigs 3000 sg3 Tryz.f13 an3 = some ir3 := by kernel_rfl
def an4 : Ann := (.s none .z (.s none .z (.s none .z (.s none .z (.s none .z (.s none .z (.s none .z (.s none (.s (some ⟨1, [(0, .junk), (2, .junk), (3, .junk), (5, .junk), (6, .junk), (7, .junk), (8, .junk), (9, .junk), (10, .junk), (11, .junk), (12, .junk), (18, .junk), (19, .junk), (20, .junk), (21, .junk), (22, .junk), (23, .junk), (24, .junk), (25, .junk), (26, .junk), (27, .junk), (28, .junk), (29, .junk), (30, .junk), (31, .junk), (32, .junk), (33, .junk), (34, .junk), (35, .junk), (36, .junk), (37, .junk), (38, .junk), (39, .junk), (40, .junk), (41, .junk), (42, .junk), (43, .junk), (44, .junk), (45, .junk), (46, .junk), (47, .junk), (73, (.atm (.v 0)))], [], 4, []⟩) .z .z) (.s none (.s none .z (.b (.l ⟨1, [(13, (.atm (.v 0))), (73, .junk)], [], 4, []⟩ (.s none .z (.s none (.b (.s none .z (.s none .z (.s (some ⟨1, [(14, .junk), (15, .junk), (16, .junk), (17, .junk), (74, .junk), (75, .junk), (76, .junk), (77, .junk), (78, .junk), (81, .junk), (82, .junk), (83, .junk), (84, .junk), (85, .junk), (86, .junk), (87, .junk), (88, .junk), (89, .junk), (90, .junk), (91, .junk), (92, .junk), (93, .junk), (94, .junk), (95, .junk), (96, .junk), (97, .junk), (98, .junk), (99, .junk), (110, (.atm (.v 0)))], [], 18, []⟩) .z .z)))) .z))))) .z)))))))))
def ir4p0 : IR :=
 (.ite (.v 34)
  (.ret [(.c (.bool false))])
 (.op (.bin .add false) [(.v 21), (.c (.int .i64 1))]
 (.jump 0 [(.v 35)])))
def ir4p1 : IR :=
 (.op .lenL [(.v 7)]
 (.op (.bin .lss false) [(.v 21), (.v 22)]
 (.ite (.v 23)
  (.call 16 1 false [] [(.v 6)]
  (.op (.conv .u64) [(.v 21)]
  (.op (.bin .shl false) [(.c (.int .u64 1)), (.v 25)]
  (.op (.bin .andNot false) [(.v 24), (.v 26)]
  (.call 40 4 false [] [(.v 6), (.v 27)]
  (.call 9 2 false [] [(.v 6), (.v 7), (.v 28), (.v 29), (.v 30)]
  (.letj 1
   (.op (.bin .neq false) [(.v 33), (.c (.int .i64 0))]
   (.ite (.v 34)
    (.jump 1 [(.c (.bool true))])
   (.op (.row 1) [(.v 7), (.v 21)]
   (.op (.bin .neq false) [(.v 32), (.v 35)]
   (.jump 1 [(.v 36)])))))
  ir4p0)))))))
 (.call 17 1 false [] []
 (.ret [(.v 24)])))))
def ir4p2 : IR :=
 (.ite (.v 20)
  (.ret [(.c (.bool false))])
 (.loop 1 [(.c (.int .i64 0))] ir4p1))
def ir4 : IR :=
 (.call 5 2 false [] [(.v 0)]
 (.call 6 3 false [] [(.c (.int .i64 0)), (.c (.int .i64 4)), (.v 1), (.v 2)]
 (.call 7 4 false [] [(.v 3), (.v 4), (.v 5)]
 (.call 28 2 false [] [(.v 6), (.v 7)]
 (.call 25 3 false [] [(.v 6), (.v 10)]
 (.call 37 2 false [] [(.v 6), (.v 7)]
 (.call 20 3 false [] [(.v 6), (.v 15)]
 (.letj 1
  (.op (.bin .neq false) [(.v 11), (.c (.int .i64 0))]
  (.ite (.v 20)
   (.jump 0 [(.c (.bool true))])
  (.op (.bin .neq false) [(.v 14), (.c (.int .i64 0))]
  (.ite (.v 21)
   (.jump 0 [(.c (.bool true))])
  (.op (.bin .neq false) [(.v 16), (.c (.int .i64 0))]
  (.ite (.v 22)
   (.jump 0 [(.c (.bool true))])
  (.op (.bin .neq false) [(.v 19), (.c (.int .i64 0))]
  (.ite (.v 23)
   (.jump 0 [(.c (.bool true))])
  (.call 27 1 false [] [(.v 12), (.v 13), (.v 6), (.v 7)]
  (.op (.un .not) [(.v 24)]
  (.ite (.v 25)
   (.jump 0 [(.c (.bool true))])
  (.call 27 1 false [] [(.v 17), (.v 18), (.v 6), (.v 7)]
  (.op (.un .not) [(.v 26)]
  (.jump 0 [(.v 27)]))))))))))))))
 ir4p2))))))))
theorem rd4 : readFn T SG sigs 3000 sg4 Tryz.f14 an4 = some ir4 := by kernel_rfl
def an5 : Ann := .z
def ir5 : IR :=
 (.op .lenL [(.v 0)]
 (.op .min [(.v 1), (.c (.int .i64 2000))]
 (.op (.subL 1) [(.v 0), (.c (.int .i64 0)), (.v 2)]
 (.ret [(.v 3), (.c (.int .i64 0))]))))
theorem rd5 : readFn T SG sigs 3000 sg5 Tryz.f15 an5 = some ir5 := by kernel_rfl
def an6 : Ann := .z
def ir6 : IR :=
 (.op (.bin .sub false) [(.v 1), (.v 0)]
 (.op (.bin .add false) [(.v 4), (.c (.int .i64 1))]
 (.call 41 3 false [] [(.v 5), (.v 2), (.v 3)]
 (.op (.bin .add false) [(.v 0), (.v 6)]
 (.ret [(.v 9), (.v 7), (.v 8)])))))
theorem rd6 : readFn T SG sigs 3000 sg6 Tryz.f16 an6 = some ir6 := by kernel_rfl
def an7 : Ann := (.s none .z (.s none .z (.s none .z (.s none (.s none .z (.b (.l ⟨4, [(7, (.atm (.v 0))), (10, .junk), (11, .junk), (12, .junk), (13, .junk), (14, .junk), (15, .junk)], [(0, ⟨false, false, 96, 2, (.c (.sl [])), [[(.atm (.v 1)), (.atm (.v 2))]]⟩), (2, ⟨false, true, 3, 1, (.v 3), []⟩)], 3, []⟩ .z))) .z))))
def ir7p0 : IR :=
 (.op .lenL [(.v 12)]
 (.op (.bin .lss false) [(.v 9), (.v 13)]
 (.ite (.v 14)
  (.call 41 3 false [] [(.v 6), (.v 10), (.v 11)]
  (.op .chk [(.v 12), (.v 9)]
  (.op (.set 0 1) [(.v 12), (.v 9), (.v 15)]
  (.op (.bin .add false) [(.v 9), (.c (.int .i64 1))]
  (.jump 0 [(.v 19), (.v 16), (.v 17), (.v 18)])))))
 (.call 19 1 false [] [(.v 0)]
 (.call 42 3 false [] [(.v 15), (.v 12)]
 (.ret [(.v 16), (.v 17), (.v 10), (.v 11)]))))))
def ir7 : IR :=
 (.op (.conv .u64) [(.v 0)]
 (.op (.bin .shl false) [(.c (.int .i64 1)), (.v 3)]
 (.op (.mkL 8 [(.int .i64 0)]) [(.v 4)]
 (.call 6 3 false [] [(.c (.int .i64 1)), (.c (.int .i64 6)), (.v 1), (.v 2)]
 (.loop 4 [(.c (.int .i64 0)), (.v 7), (.v 8), (.v 5)] ir7p0)))))
theorem rd7 : readFn T SG sigs 3000 sg7 Tryz.f17 an7 = some ir7 := by kernel_rfl
def an8 : Ann := (.s none .z (.s none .z (.s none (.s (some ⟨1, [(11, .junk), (12, .junk), (18, (.atm (.v 0)))], [], 2, []⟩) .z .z) (.s none .z (.s none .z (.s (some ⟨3, [(7, .junk), (9, (.atm (.v 0))), (18, .junk), (34, .junk), (35, .junk), (36, .junk), (37, .junk), (38, .junk), (39, .junk)], [(0, ⟨false, false, 96, 2, (.c (.sl [])), [[(.atm (.v 1)), (.atm (.v 2))]]⟩)], 4, []⟩) (.s none .z (.b (.s none .z (.c .z (.s (some ⟨1, [(7, .junk), (18, .junk), (34, .junk), (35, .junk), (36, .junk), (37, .junk), (38, .junk), (39, .junk), (40, .junk), (41, .junk), (42, .junk), (43, .junk), (44, (.atm (.v 0)))], [], 4, []⟩) .z .z))))) (.s none (.s none .z (.b (.l ⟨4, [(10, (.atm (.v 0)))], [(0, ⟨false, false, 96, 2, (.c (.sl [])), [[(.atm (.v 1)), (.atm (.v 2))]]⟩), (4, ⟨false, true, 39, 3, (.v 3), []⟩)], 5, [⟨some (3, 0, 2), 0, 39, 3⟩]⟩ .z))) .z)))))))
def ir8p0 : IR :=
 (.op (.bin .lss false) [(.v 14), (.v 11)]
 (.ite (.v 18)
  (.op (.bin .sub false) [(.v 1), (.c (.int .i64 1))]
  (.call 8 5 false [] [(.v 0), (.v 19), (.v 15), (.v 16)]
  (.op (.mk 3 1) [(.v 20), (.v 21), (.v 22)]
  (.op (.app 3 48) [(.v 17), (.v 25)]
  (.op (.bin .add false) [(.v 14), (.c (.int .i64 1))]
  (.jump 0 [(.v 27), (.v 23), (.v 24), (.v 26)]))))))
 (.ret [(.v 10), (.c (.str [])), (.v 17), (.v 15), (.v 16)])))
def ir8p1 : IR :=
 (.loop 4 [(.c (.int .i64 0)), (.v 12), (.v 13), (.c (.sl []))] ir8p0)
def ir8p2 : IR :=
 (.ite (.v 12)
  (.call 41 3 false [] [(.c (.int .i64 2)), (.v 5), (.v 6)]
  (.op (.bin .add false) [(.c (.int .i64 2)), (.v 13)]
  (.jump 0 [(.v 16), (.v 14), (.v 15)])))
 (.jump 0 [(.c (.int .i64 2)), (.v 5), (.v 6)]))
def ir8p3 : IR :=
 (.ite (.v 7)
  (.op (.bin .eql false) [(.v 4), (.c (.int .i64 0))]
  (.ite (.v 8)
   (.call 41 3 false [] [(.c (.int .i64 2)), (.v 5), (.v 6)]
   (.op (.bin .add false) [(.c (.int .i64 1)), (.v 9)]
   (.ret [(.v 12), (.c (.str [])), (.c (.sl [])), (.v 10), (.v 11)])))
  (.call 41 3 false [] [(.v 0), (.v 5), (.v 6)]
  (.op (.bin .add false) [(.c (.int .i64 97)), (.v 9)]
  (.op (.conv .u8) [(.v 12)]
  (.op (.mk 1 1) [(.v 13)]
  (.op .toS [(.v 14)]
  (.ret [(.c (.int .i64 3)), (.v 15), (.c (.sl [])), (.v 10), (.v 11)]))))))))
 (.op (.mk 1 8) [(.c (.int .i64 4)), (.c (.int .i64 4)), (.c (.int .i64 5)), (.c (.int .i64 5)), (.c (.int .i64 6)), (.c (.int .i64 6)), (.c (.int .i64 7)), (.c (.int .i64 8))]
 (.op (.bin .sub false) [(.v 4), (.c (.int .i64 4))]
 (.op .chk [(.v 8), (.v 9)]
 (.op (.get 0 1) [(.v 8), (.v 9)]
 (.letj 3
  (.op (.bin .eql false) [(.v 10), (.c (.int .i64 4))]
  (.ite (.v 11)
   (.jump 0 [(.c (.int .i64 1)), (.v 5), (.v 6)])
  (.letj 1
   (.op (.bin .eql false) [(.v 10), (.c (.int .i64 5))]
   (.ite (.v 12)
    (.jump 1 [(.c (.bool true))])
   (.op (.bin .eql false) [(.v 10), (.c (.int .i64 6))]
   (.jump 1 [(.v 13)]))))
  ir8p2)))
 ir8p1))))))
def ir8 : IR :=
 (.call 41 3 false [] [(.c (.int .i64 12)), (.v 2), (.v 3)]
 (.letj 1
  (.op (.bin .lss false) [(.v 1), (.c (.int .i64 1))]
  (.ite (.v 7)
   (.jump 0 [(.c (.bool true))])
  (.op (.bin .lss false) [(.v 4), (.c (.int .i64 4))]
  (.jump 0 [(.v 8)]))))
 ir8p3))
theorem rd8 : readFn T SG sigs 3000 sg8 Tryz.f35 an8 = some ir8 := by kernel_rfl
def an9 : Ann := (.s none .z (.s none .z (.s none .z (.s none .z (.s none .z (.s none (.s none .z (.b (.l ⟨2, [(0, .junk), (1, .junk), (2, .junk), (3, .junk), (4, .junk), (5, .junk), (6, .junk), (8, .junk), (9, (.atm (.v 0))), (12, .junk), (13, .junk), (14, .junk), (15, .junk), (17, .junk), (18, .junk), (19, .junk), (20, .junk), (21, .junk), (22, .junk), (23, .junk), (24, .junk), (25, .junk), (27, .junk), (28, .junk), (29, .junk), (30, .junk), (31, .junk), (34, (.atm (.v 1)))], [], 2, []⟩ (.s none .z (.s none .z (.s (some ⟨1, [(9, (.atm (.v 0))), (35, .junk)], [], 2, []⟩) .z .z)))))) .z))))))
def ir9p0 : IR :=
 (.op (.bin .add false) [(.v 14), (.c (.int .i64 1))]
 (.jump 0 [(.v 16), (.v 17)]))
def ir9p1 : IR :=
 (.op (.bin .lss false) [(.v 14), (.v 12)]
 (.ite (.v 15)
  (.letj 1
   (.op (.row 1) [(.v 1), (.v 14)]
   (.call 46 1 false [] [(.v 7), (.v 14)]
   (.op (.un .not) [(.v 17)]
   (.ite (.v 18)
    (.op .min [(.v 13), (.v 16)]
    (.jump 1 [(.v 19)]))
   (.jump 1 [(.v 13)])))))
  ir9p0)
 (.ret [(.v 13), (.c (.int .i64 0))])))
def ir9 : IR :=
 (.call 43 1 false [] [(.v 0), (.v 1)]
 (.op (.bin .neq false) [(.v 5), (.c (.int .i64 0))]
 (.ite (.v 6)
  (.ret [(.c (.int .i64 0)), (.v 5)])
 (.call 44 2 false [] [(.v 0), (.v 2), (.v 3), (.v 4)]
 (.op (.bin .neq false) [(.v 8), (.c (.int .i64 0))]
 (.ite (.v 9)
  (.ret [(.c (.int .i64 0)), (.v 8)])
 (.call 45 1 false [] [(.v 1)]
 (.op (.bin .add false) [(.v 10), (.c (.int .i64 1))]
 (.op .lenL [(.v 1)]
 (.loop 2 [(.v 11), (.c (.int .i64 0))] ir9p1))))))))))
theorem rd9 : readFn T SG sigs 3000 sg9 Tryz.f36 an9 = some ir9 := by kernel_rfl
def an10 : Ann := .z
def ir10 : IR :=
 (.op (.mk 3 2) [(.v 0), (.v 1), (.v 2), (.v 3), (.v 4), (.v 5)]
 (.ret [(.c (.int .i64 5)), (.c (.str [])), (.v 6)]))
theorem rd10 : readFn T SG sigs 3000 sg10 Tryz.f37 an10 = some ir10 := by kernel_rfl
def an11 : Ann := .z
def ir11 : IR :=
 (.op (.mk 3 2) [(.v 0), (.v 1), (.v 2), (.v 3), (.v 4), (.v 5)]
 (.ret [(.c (.int .i64 6)), (.c (.str [])), (.v 6)]))
theorem rd11 : readFn T SG sigs 3000 sg11 Tryz.f38 an11 = some ir11 := by kernel_rfl
def an12 : Ann := (.s none .z (.s none .z (.s none .z (.s none .z (.s none (.s none .z (.b (.l ⟨1, [(1, .junk), (4, .junk), (5, .junk), (6, .junk), (8, (.atm (.v 0))), (11, .junk), (12, .junk), (13, .junk), (14, .junk), (15, .junk), (16, .junk), (17, .junk), (19, .junk), (20, .junk)], [], 1, []⟩ .z))) (.s none .z (.s none (.s none .z (.b (.l ⟨2, [(7, .junk), (8, .junk), (9, (.atm (.v 0))), (10, (.atm (.v 1))), (21, .junk), (22, .junk), (23, .junk), (24, .junk)], [], 1, []⟩ (.s none .z (.s (some ⟨1, [(9, (.atm (.v 0))), (34, .junk), (35, .junk), (36, .junk), (37, .junk)], [], 1, []⟩) .z .z))))) .z)))))))
def ir12p0 : IR :=
 (.op (.bin .add false) [(.v 13), (.c (.int .i64 1))]
 (.jump 1 [(.v 16), (.v 17)]))
def ir12p1 : IR :=
 (.call 51 1 false [] [(.v 0)]
 (.op (.bin .lss false) [(.v 13), (.v 14)]
 (.ite (.v 15)
  (.letj 1
   (.call 52 1 false [] [(.v 0), (.v 13)]
   (.call 53 1 false [] [(.v 1), (.v 2), (.v 3), (.v 16)]
   (.ite (.v 17)
    (.op (.conv .u64) [(.v 13)]
    (.op (.bin .shl false) [(.c (.int .u64 1)), (.v 18)]
    (.op (.bin .or false) [(.v 12), (.v 19)]
    (.jump 2 [(.v 20)]))))
   (.jump 2 [(.v 12)]))))
  ir12p0)
 (.ret [(.v 12), (.c (.int .i64 0))]))))
def ir12p2 : IR :=
 (.op .lenL [(.v 8)]
 (.op (.bin .lss false) [(.v 9), (.v 10)]
 (.ite (.v 11)
  (.op (.row 1) [(.v 8), (.v 9)]
  (.call 50 1 false [] [(.v 0), (.v 12)]
  (.op (.bin .lss false) [(.v 13), (.c (.int .i64 0))]
  (.ite (.v 14)
   (.ret [(.c (.int .u64 0)), (.c (.int .i64 6))])
  (.op (.bin .add false) [(.v 9), (.c (.int .i64 1))]
  (.jump 0 [(.v 15)]))))))
 (.loop 2 [(.c (.int .u64 0)), (.c (.int .i64 0))] ir12p1))))
def ir12 : IR :=
 (.call 47 1 false [] [(.v 0)]
 (.op (.un .not) [(.v 4)]
 (.ite (.v 5)
  (.ret [(.c (.int .u64 0)), (.c (.int .i64 1))])
 (.call 48 1 false [] [(.v 1), (.v 2), (.v 3)]
 (.op (.bin .neq false) [(.v 6), (.c (.int .i64 0))]
 (.ite (.v 7)
  (.ret [(.c (.int .u64 0)), (.v 6)])
 (.call 49 1 false [] [(.v 1), (.v 2), (.v 3)]
 (.loop 1 [(.c (.int .i64 0))] ir12p2))))))))
theorem rd12 : readFn T SG sigs 3000 sg12 Tryz.f29 an12 = some ir12 := by kernel_rfl
def an13 : Ann := .z
def ir13 : IR :=
 (.call 12 2 false [] [(.v 0), (.v 1), (.v 2), (.v 3)]
 (.op (.bin .neq false) [(.v 8), (.c (.int .i64 0))]
 (.ite (.v 9)
  (.ret [(.c (.bool false)), (.v 8)])
 (.call 12 2 false [] [(.v 0), (.v 4), (.v 5), (.v 6)]
 (.op (.bin .neq false) [(.v 11), (.c (.int .i64 0))]
 (.ite (.v 12)
  (.ret [(.c (.bool false)), (.v 11)])
 (.op (.bin .andNot false) [(.v 7), (.v 10)]
 (.op (.bin .eql false) [(.v 13), (.c (.int .u64 0))]
 (.ret [(.v 14), (.c (.int .i64 0))])))))))))
theorem rd13 : readFn T SG sigs 3000 sg13 Tryz.f39 an13 = some ir13 := by kernel_rfl
def an14 : Ann := .z
def ir14 : IR :=
 (.call 54 1 false [] [(.v 0), (.v 1)]
 (.op (.bin .neq false) [(.v 5), (.c (.int .i64 0))]
 (.ite (.v 6)
  (.ret [(.c (.bool false)), (.v 5)])
 (.call 12 2 false [] [(.v 0), (.v 2), (.v 3), (.v 4)]
 (.op (.bin .neq false) [(.v 8), (.c (.int .i64 0))]
 (.ite (.v 9)
  (.ret [(.c (.bool false)), (.v 8)])
 (.call 55 1 false [] [(.v 0), (.v 1)]
 (.op (.bin .andNot false) [(.v 10), (.v 7)]
 (.op (.bin .eql false) [(.v 11), (.c (.int .u64 0))]
 (.ret [(.v 12), (.c (.int .i64 0))]))))))))))
theorem rd14 : readFn T SG sigs 3000 sg14 Tryz.f40 an14 = some ir14 := by kernel_rfl
def an15 : Ann := (.s none .z (.s none .z (.s none (.s none .z (.b (.l ⟨2, [(0, .junk), (2, .junk), (3, (.atm (.v 0))), (4, (.atm (.v 1)))], [], 1, []⟩ .z))) .z)))
def ir15p0 : IR :=
 (.op .lenL [(.v 1)]
 (.op (.bin .lss false) [(.v 3), (.v 4)]
 (.ite (.v 5)
  (.op (.row 1) [(.v 1), (.v 3)]
  (.op .max [(.v 2), (.v 6)]
  (.op (.bin .add false) [(.v 3), (.c (.int .i64 1))]
  (.jump 0 [(.v 7), (.v 8)]))))
 (.ret [(.v 2)]))))
def ir15 : IR :=
 (.loop 2 [(.c (.int .i64 0)), (.c (.int .i64 0))] ir15p0)
theorem rd15 : readFn T SG sigs 3000 sg15 Tryz.f41 an15 = some ir15 := by kernel_rfl
def an16 : Ann := (.s none .z (.s none .z (.s none .z (.s none (.s none .z (.b (.l ⟨2, [(2, .junk), (3, (.atm (.v 0))), (4, (.atm (.v 1))), (5, .junk), (6, .junk), (7, .junk)], [], 0, []⟩ .z))) .z))))
def ir16p0 : IR :=
 (.call 51 1 false [] [(.v 0)]
 (.op (.bin .lss false) [(.v 4), (.v 5)]
 (.ite (.v 6)
  (.op (.conv .u64) [(.v 4)]
  (.op (.bin .shl false) [(.c (.int .u64 1)), (.v 7)]
  (.op (.bin .or false) [(.v 3), (.v 8)]
  (.op (.bin .add false) [(.v 4), (.c (.int .i64 1))]
  (.jump 0 [(.v 9), (.v 10)])))))
 (.ret [(.v 3)]))))
def ir16 : IR :=
 (.call 47 1 false [] [(.v 0)]
 (.op (.un .not) [(.v 1)]
 (.ite (.v 2)
  (.ret [(.c (.int .u64 0))])
 (.loop 2 [(.c (.int .u64 0)), (.c (.int .i64 0))] ir16p0))))
theorem rd16 : readFn T SG sigs 3000 sg16 Tryz.f18 an16 = some ir16 := by kernel_rfl
def an17 : Ann := .z
def ir17 : IR :=
 (.call 19 1 false [] [(.c (.int .i64 2))]
 (.op (.row 1) [(.v 0), (.c (.int .i64 0))]
 (.call 56 3 false [] [(.v 1)]
 (.op (.row 1) [(.v 0), (.c (.int .i64 1))]
 (.call 56 3 false [] [(.v 5)]
 (.op (.mk 3 2) [(.v 2), (.v 3), (.v 4), (.v 6), (.v 7), (.v 8)]
 (.call 25 3 false [] [(.v 0), (.v 9)]
 (.call 57 3 false [] [(.v 6), (.v 7), (.v 8)]
 (.call 10 3 false [] [(.v 2), (.v 3), (.v 4), (.v 13), (.v 14), (.v 15)]
 (.call 57 3 false [] [(.v 6), (.v 7), (.v 8)]
 (.op (.mk 6 2) [(.v 2), (.v 3), (.v 4), (.v 6), (.v 7), (.v 8), (.v 16), (.v 17), (.v 18), (.v 19), (.v 20), (.v 21)]
 (.call 33 2 false [] [(.v 0), (.v 22)]
 (.op (.bin .eql false) [(.v 12), (.c (.int .i64 0))]
 (.ite (.v 25)
  (.op (.bin .eql false) [(.v 24), (.c (.int .i64 0))]
  (.ite (.v 26)
   (.op (.mk 1 4) [(.c (.int .i64 2)), (.c (.int .i64 1)), (.c (.int .i64 2)), (.c (.int .i64 0))]
   (.call 36 1 true [] [(.v 11), (.v 27)]
   (.ite (.v 28)
    (.op (.mk 1 2) [(.c (.int .i64 0)), (.c (.int .i64 1))]
    (.call 36 1 true [] [(.v 23), (.v 29)]
    (.ret [(.v 30)])))
   (.ret [(.c (.bool false))]))))
  (.ret [(.c (.bool false))])))
 (.ret [(.c (.bool false))])))))))))))))))
theorem rd17 : readFn T SG sigs 3000 sg17 Tryz.f42 an17 = some ir17 := by kernel_rfl
def an18 : Ann := (.s none .z (.s none .z (.s none (.s none .z (.b (.l ⟨4, [(1, .junk), (6, .junk), (8, (.atm (.v 0))), (9, .junk), (10, .junk), (11, .junk), (12, .junk)], [(0, ⟨false, false, 96, 2, (.c (.sl [])), [[(.atm (.v 1)), (.atm (.v 2))]]⟩), (1, ⟨false, true, 66, 6, (.v 3), []⟩)], 2, [⟨none, 7, 66, 6⟩]⟩ .z))) .z)))
def ir18p0 : IR :=
 (.op (.bin .gtr false) [(.v 8), (.c (.int .i64 0))]
 (.ite (.v 12)
  (.call 8 5 false [] [(.v 1), (.c (.int .i64 2)), (.v 9), (.v 10)]
  (.call 8 5 false [] [(.v 1), (.c (.int .i64 2)), (.v 16), (.v 17)]
  (.op (.mk 6 1) [(.v 13), (.v 14), (.v 15), (.v 18), (.v 19), (.v 20)]
  (.op (.app 6 96) [(.v 11), (.v 23)]
  (.op (.bin .sub false) [(.v 8), (.c (.int .i64 1))]
  (.jump 0 [(.v 25), (.v 21), (.v 22), (.v 24)]))))))
 (.ret [(.v 11), (.v 9), (.v 10)])))
def ir18 : IR :=
 (.op (.bin .add false) [(.v 0), (.c (.int .i64 1))]
 (.call 41 3 false [] [(.v 4), (.v 2), (.v 3)]
 (.loop 4 [(.v 5), (.v 6), (.v 7), (.c (.sl []))] ir18p0)))
theorem rd18 : readFn T SG sigs 3000 sg18 Tryz.f45 an18 = some ir18 := by kernel_rfl
def an19 : Ann := (.s none .z (.s none .z (.s none (.s none .z (.b (.l ⟨2, [(2, .junk), (4, (.atm (.v 0)))], [(0, ⟨false, true, 9, 1, (.v 1), []⟩)], 1, [⟨none, 3, 9, 1⟩]⟩ .z))) .z)))
def ir19p0 : IR :=
 (.op (.bin .lss false) [(.v 1), (.v 0)]
 (.ite (.v 3)
  (.op (.bin .add false) [(.c (.int .i64 97)), (.v 1)]
  (.op (.conv .u8) [(.v 4)]
  (.op (.mk 1 1) [(.v 5)]
  (.op .toS [(.v 6)]
  (.op (.mk 1 1) [(.v 7)]
  (.op (.app 1 16) [(.v 2), (.v 8)]
  (.op (.bin .add false) [(.v 1), (.c (.int .i64 1))]
  (.jump 0 [(.v 10), (.v 9)]))))))))
 (.ret [(.v 2)])))
def ir19 : IR :=
 (.loop 2 [(.c (.int .i64 0)), (.c (.sl []))] ir19p0)
theorem rd19 : readFn T SG sigs 3000 sg19 Tryz.f47 an19 = some ir19 := by kernel_rfl
def an20 : Ann := (.s none .z (.s none .z (.s none .z (.s none .z (.s none .z (.s none .z (.s none (.s none .z (.b (.l ⟨2, [(1, .junk), (5, .junk), (7, .junk), (13, .junk), (14, .junk), (15, .junk), (16, .junk), (17, .junk), (18, .junk), (19, .junk), (20, .junk), (23, .junk), (24, .junk), (25, .junk), (26, .junk), (27, .junk), (28, .junk), (29, .junk), (32, .junk), (33, .junk), (34, .junk), (35, .junk), (36, .junk), (38, (.atm (.v 0)))], [(1, ⟨false, true, 3, 1, (.v 1), []⟩)], 2, []⟩ (.s none .z (.s none .z (.s none (.b (.s none .z (.s none .z (.b (.l ⟨2, [(39, .junk), (40, .junk), (43, (.atm (.v 0)))], [(1, ⟨false, true, 3, 1, (.v 1), []⟩)], 2, []⟩ (.s none .z (.s none .z (.s (some ⟨3, [(44, .junk)], [(1, ⟨false, true, 3, 1, (.v 0), []⟩), (2, ⟨false, false, 127, 2, (.c (.sl [])), [[(.atm (.v 1)), (.atm (.v 2))]]⟩)], 3, []⟩) .z .z)))))))) .z)))))) .z)))))))
def ir20p0 : IR :=
 (.op (.bin .add false) [(.v 16), (.c (.int .i64 1))]
 (.jump 1 [(.v 22), (.v 19)]))
def ir20p1 : IR :=
 (.op (.bin .lss false) [(.v 16), (.v 15)]
 (.ite (.v 18)
  (.letj 3
   (.op (.row 2) [(.v 2), (.v 16)]
   (.call 46 1 false [] [(.v 20), (.v 12)]
   (.ite (.v 21)
    (.op .chk [(.v 17), (.v 12)]
    (.op (.get 0 1) [(.v 17), (.v 12)]
    (.op (.row 1) [(.v 5), (.v 16)]
    (.op (.bin .add false) [(.v 23), (.c (.int .i64 1))]
    (.op .max [(.v 22), (.v 24)]
    (.op .chk [(.v 17), (.v 12)]
    (.op (.set 0 1) [(.v 17), (.v 12), (.v 25)]
    (.jump 2 [(.v 26), (.v 19), (.v 20)]))))))))
   (.jump 2 [(.v 17), (.v 19), (.v 20)]))))
  ir20p0)
 (.op (.bin .add false) [(.v 12), (.c (.int .i64 1))]
 (.jump 0 [(.v 19), (.v 17)]))))
def ir20p2 : IR :=
 (.op (.bin .lss false) [(.v 12), (.v 11)]
 (.ite (.v 14)
  (.op .lenL [(.v 2)]
  (.loop 2 [(.c (.int .i64 0)), (.v 13)] ir20p1))
 (.call 60 3 false [] [(.v 0), (.v 13)]
 (.ret [(.v 15), (.v 16), (.v 17)]))))
def ir20 : IR :=
 (.call 58 2 false [] [(.v 0), (.v 1)]
 (.op (.bin .neq false) [(.v 3), (.c (.int .i64 0))]
 (.ite (.v 4)
  (.ret [(.c (.sl [])), (.c (.sl [])), (.v 3)])
 (.call 59 2 false [] [(.v 2)]
 (.op (.bin .neq false) [(.v 6), (.c (.int .i64 0))]
 (.ite (.v 7)
  (.ret [(.c (.sl [])), (.c (.sl [])), (.v 6)])
 (.op .lenL [(.v 0)]
 (.op (.bin .shl false) [(.c (.int .i64 1)), (.v 8)]
 (.op (.mkL 8 [(.int .i64 0)]) [(.v 9)]
 (.op .lenL [(.v 10)]
 (.loop 2 [(.c (.int .i64 0)), (.v 10)] ir20p2)))))))))))
theorem rd20 : readFn T SG sigs 3000 sg20 Tryz.f46 an20 = some ir20 := by kernel_rfl
def an21 : Ann := .z
def ir21 : IR :=
 (.call 54 1 false [] [(.v 0), (.v 1)]
 (.op (.bin .neq false) [(.v 8), (.c (.int .i64 0))]
 (.ite (.v 9)
  (.ret [(.c (.bool false)), (.v 8)])
 (.call 12 2 false [] [(.v 0), (.v 2), (.v 3), (.v 4)]
 (.op (.bin .neq false) [(.v 11), (.c (.int .i64 0))]
 (.ite (.v 12)
  (.ret [(.c (.bool false)), (.v 11)])
 (.call 12 2 false [] [(.v 0), (.v 5), (.v 6), (.v 7)]
 (.op (.bin .neq false) [(.v 14), (.c (.int .i64 0))]
 (.ite (.v 15)
  (.ret [(.c (.bool false)), (.v 14)])
 (.call 61 1 false [] [(.v 0), (.v 1), (.v 10)]
 (.op (.bin .andNot false) [(.v 16), (.v 13)]
 (.op (.bin .eql false) [(.v 17), (.c (.int .u64 0))]
 (.ret [(.v 18), (.c (.int .i64 0))])))))))))))))
theorem rd21 : readFn T SG sigs 3000 sg21 Tryz.f48 an21 = some ir21 := by kernel_rfl
def an22 : Ann := .z
def ir22 : IR :=
 (.call 43 1 false [] [(.v 0), (.v 1)]
 (.op (.bin .neq false) [(.v 8), (.c (.int .i64 0))]
 (.ite (.v 9)
  (.ret [(.c (.bool false)), (.v 8)])
 (.op (.mk 3 2) [(.v 2), (.v 3), (.v 4), (.v 5), (.v 6), (.v 7)]
 (.call 62 1 true [] [(.v 0), (.v 10)]
 (.op (.bin .neq false) [(.v 11), (.c (.int .i64 0))]
 (.ite (.v 12)
  (.ret [(.c (.bool false)), (.v 11)])
 (.call 44 2 false [] [(.v 0), (.v 2), (.v 3), (.v 4)]
 (.call 44 2 false [] [(.v 0), (.v 5), (.v 6), (.v 7)]
 (.call 63 1 false [] [(.v 0), (.v 1), (.v 13)]
 (.op (.bin .andNot false) [(.v 17), (.v 15)]
 (.op (.bin .eql false) [(.v 18), (.c (.int .u64 0))]
 (.ret [(.v 19), (.c (.int .i64 0))])))))))))))))
theorem rd22 : readFn T SG sigs 3000 sg22 Tryz.f44 an22 = some ir22 := by kernel_rfl
def an23 : Ann := (.s none .z (.s none (.s none .z (.b (.l ⟨1, [(2, .junk), (3, (.atm (.v 0)))], [], 0, []⟩ .z))) .z))
def ir23p0 : IR :=
 (.op .lenL [(.v 0)]
 (.op (.bin .lss false) [(.v 1), (.v 2)]
 (.ite (.v 3)
  (.op (.row 3) [(.v 0), (.v 1)]
  (.call 32 1 false [] [(.v 4), (.v 5), (.v 6)]
  (.op (.un .not) [(.v 7)]
  (.ite (.v 8)
   (.ret [(.c (.bool false))])
  (.op (.bin .add false) [(.v 1), (.c (.int .i64 1))]
  (.jump 0 [(.v 9)]))))))
 (.op .lenL [(.v 0)]
 (.op (.bin .leq false) [(.v 4), (.c (.int .i64 20))]
 (.ret [(.v 5)]))))))
def ir23 : IR :=
 (.loop 1 [(.c (.int .i64 0))] ir23p0)
theorem rd23 : readFn T SG sigs 3000 sg23 Tryz.f52 an23 = some ir23 := by kernel_rfl
def an24 : Ann := (.s none .z (.s none .z (.s none (.s none .z (.b (.l ⟨4, [(1, .junk), (6, .junk), (8, (.atm (.v 0))), (9, .junk), (10, .junk), (11, .junk), (12, .junk)], [(0, ⟨false, false, 96, 2, (.c (.sl [])), [[(.atm (.v 1)), (.atm (.v 2))]]⟩), (1, ⟨false, true, 39, 3, (.v 3), []⟩)], 2, [⟨none, 7, 39, 3⟩]⟩ .z))) .z)))
def ir24p0 : IR :=
 (.op (.bin .gtr false) [(.v 8), (.c (.int .i64 0))]
 (.ite (.v 12)
  (.call 8 5 false [] [(.v 1), (.c (.int .i64 3)), (.v 9), (.v 10)]
  (.op (.mk 3 1) [(.v 13), (.v 14), (.v 15)]
  (.op (.app 3 48) [(.v 11), (.v 18)]
  (.op (.bin .sub false) [(.v 8), (.c (.int .i64 1))]
  (.jump 0 [(.v 20), (.v 16), (.v 17), (.v 19)])))))
 (.ret [(.v 11), (.v 9), (.v 10)])))
def ir24 : IR :=
 (.op (.bin .add false) [(.v 0), (.c (.int .i64 1))]
 (.call 41 3 false [] [(.v 4), (.v 2), (.v 3)]
 (.loop 4 [(.v 5), (.v 6), (.v 7), (.c (.sl []))] ir24p0)))
theorem rd24 : readFn T SG sigs 3000 sg24 Tryz.f53 an24 = some ir24 := by kernel_rfl
def an25 : Ann := (.g [(148, 3)] (.s none .z (.s none .z (.s none .z (.s none .z (.s none (.s none .z (.b (.l ⟨1, [], [(4, ⟨false, true, 3, 1, (.v 0), []⟩)], 7, []⟩ (.s none .z (.b (.s none .z (.s none .z (.s none .z (.b (.l ⟨2, [(26, .junk), (27, .junk), (28, .junk), (29, .junk), (30, .junk), (31, .junk), (32, .junk), (33, .junk), (34, .junk), (35, .junk), (40, .junk), (42, (.atm (.v 0)))], [(4, ⟨false, true, 3, 1, (.v 1), []⟩)], 8, []⟩ (.s none .z (.s none .z (.s (some ⟨2, [(11, (.atm (.v 0))), (43, .junk)], [(4, ⟨false, true, 3, 1, (.v 1), []⟩)], 8, []⟩) .z .z))))))))))))) .z))))))
def ir25p0 : IR :=
 (.op (.bin .add false) [(.v 23), (.c (.int .i64 1))]
 (.jump 1 [(.v 28), (.v 27)]))
def ir25p1 : IR :=
 (.op (.bin .lss false) [(.v 23), (.v 22)]
 (.ite (.v 25)
  (.letj 2
   (.call 46 1 false [] [(.v 19), (.v 23)]
   (.op (.un .not) [(.v 26)]
   (.ite (.v 27)
    (.op .lenL [(.v 1)]
    (.op (.bin .sub false) [(.v 28), (.v 14)]
    (.op .chk [(.v 24), (.v 23)]
    (.op (.set 0 1) [(.v 24), (.v 23), (.v 29)]
    (.jump 2 [(.v 23), (.v 30)])))))
   (.jump 2 [(.v 23), (.v 24)]))))
  ir25p0)
 (.op (.bin .sub false) [(.v 14), (.c (.int .i64 1))]
 (.jump 0 [(.v 24), (.v 26)]))))
def ir25p2 : IR :=
 (.op (.bin .geq false) [(.v 14), (.c (.int .i64 0))]
 (.ite (.v 15)
  (.op (.row 3) [(.v 9), (.v 14)]
  (.call 44 2 false [] [(.v 0), (.v 16), (.v 17), (.v 18)]
  (.op (.bin .neq false) [(.v 20), (.c (.int .i64 0))]
  (.ite (.v 21)
   (.call 62 1 false [] [(.v 0), (.v 1)]
   (.ret [(.c (.sl [])), (.c (.sl [])), (.v 22)]))
  (.op .lenL [(.v 13)]
  (.loop 2 [(.c (.int .i64 0)), (.v 13)] ir25p1))))))
 (.call 60 3 false [] [(.v 0), (.v 13)]
 (.ret [(.v 16), (.v 17), (.v 18)]))))
def ir25 : IR :=
 (.call 64 1 false [] [(.v 0)]
 (.op (.un .not) [(.v 2)]
 (.ite (.v 3)
  (.ret [(.c (.sl [])), (.c (.sl [])), (.c (.int .i64 1))])
 (.op .lenL [(.v 1)]
 (.op (.bin .gtr false) [(.v 4), (.c (.int .i64 64))]
 (.ite (.v 5)
  (.ret [(.c (.sl [])), (.c (.sl [])), (.c (.int .i64 2))])
 (.op .lenL [(.v 0)]
 (.op (.bin .shl false) [(.c (.int .i64 1)), (.v 6)]
 (.op (.mkL 8 [(.int .i64 0)]) [(.v 7)]
 (.call 65 1 false [] [(.v 1)]
 (.op .lenL [(.v 9)]
 (.op (.subL 3) [(.v 9), (.c (.int .i64 0)), (.v 10)]
 (.op (.room 1 0) [(.v 9)]
 (.op (.bin .sub false) [(.v 10), (.c (.int .i64 1))]
 (.loop 2 [(.v 8), (.v 12)] ir25p2)))))))))))))))
theorem rd25 : readFn T SG sigs 3000 sg25 Tryz.f54 an25 = some ir25 := by kernel_rfl
def an26 : Ann := (.s none .z (.s none .z (.s none .z (.s none .z (.s none (.s none .z (.b (.l ⟨2, [(1, .junk), (5, .junk), (7, .junk), (9, (.atm (.v 0))), (11, .junk), (12, .junk), (13, .junk), (14, .junk), (15, .junk), (16, .junk), (17, .junk), (18, .junk), (21, .junk), (22, .junk), (23, .junk), (24, .junk), (25, .junk)], [(1, ⟨false, true, 3, 1, (.v 1), []⟩)], 2, []⟩ (.s none .z (.s none (.b (.s none .z (.s none (.b (.l ⟨1, [(10, (.atm (.v 0))), (26, .junk), (27, .junk), (28, .junk), (29, .junk)], [], 2, []⟩ (.s none (.s (some ⟨1, [(43, (.atm (.v 0)))], [], 2, []⟩) .z .z) .z))) .z))) .z))))) .z)))))
def ir26p0 : IR :=
 (.ite (.v 14)
  (.op (.bin .add false) [(.v 13), (.c (.int .i64 1))]
  (.jump 1 [(.v 15)]))
 (.op .lenL [(.v 2)]
 (.op (.bin .sub false) [(.v 15), (.v 13)]
 (.op .chk [(.v 10), (.v 9)]
 (.op (.set 0 1) [(.v 10), (.v 9), (.v 16)]
 (.op (.bin .add false) [(.v 9), (.c (.int .i64 1))]
 (.jump 0 [(.v 18), (.v 17)])))))))
def ir26p1 : IR :=
 (.letj 1
  (.op .lenL [(.v 2)]
  (.op (.bin .lss false) [(.v 13), (.v 14)]
  (.ite (.v 15)
   (.op (.row 1) [(.v 2), (.v 13)]
   (.call 67 1 false [] [(.v 16), (.v 9)]
   (.jump 2 [(.v 17)])))
  (.jump 2 [(.c (.bool false))]))))
 ir26p0)
def ir26p2 : IR :=
 (.op .lenL [(.v 10)]
 (.op (.bin .lss false) [(.v 9), (.v 11)]
 (.ite (.v 12)
  (.loop 1 [(.c (.int .i64 0))] ir26p1)
 (.call 42 3 false [] [(.v 0), (.v 10)]
 (.ret [(.v 13), (.v 14), (.v 15)])))))
def ir26 : IR :=
 (.call 66 2 false [] [(.v 0), (.v 1)]
 (.op (.bin .neq false) [(.v 3), (.c (.int .i64 0))]
 (.ite (.v 4)
  (.ret [(.c (.sl [])), (.c (.sl [])), (.v 3)])
 (.op .lenL [(.v 0)]
 (.op (.conv .u64) [(.v 5)]
 (.op (.bin .shl false) [(.c (.int .i64 1)), (.v 6)]
 (.op (.mkL 8 [(.int .i64 0)]) [(.v 7)]
 (.loop 2 [(.c (.int .i64 0)), (.v 8)] ir26p2))))))))
theorem rd26 : readFn T SG sigs 3000 sg26 Tryz.f55 an26 = some ir26 := by kernel_rfl
def an27 : Ann := .z
def ir27 : IR :=
 (.call 68 1 false [] [(.v 0), (.v 2)]
 (.ite (.v 4)
  (.call 36 1 false [] [(.v 1), (.v 3)]
  (.ret [(.v 5)]))
 (.ret [(.c (.bool false))])))
theorem rd27 : readFn T SG sigs 3000 sg27 Tryz.f24 an27 = some ir27 := by kernel_rfl
def an28 : Ann := (.s none .z (.s none .z (.s none .z (.s none .z (.s none .z (.s none (.s none .z (.b (.l ⟨3, [(0, .junk), (2, .junk), (3, .junk), (4, .junk), (5, (.atm (.v 0))), (7, .junk), (12, .junk), (13, .junk), (14, .junk), (15, .junk), (17, .junk), (18, .junk), (19, .junk), (20, .junk), (21, .junk), (22, .junk), (25, (.atm (.v 1)))], [(1, ⟨false, true, 39, 3, (.v 2), []⟩)], 2, [⟨none, 6, 39, 3⟩]⟩ .z))) .z))))))
def ir28p0 : IR :=
 (.op (.bin .lss false) [(.v 10), (.v 8)]
 (.ite (.v 12)
  (.op (.row 1) [(.v 7), (.v 10)]
  (.op (.bin .or false) [(.v 9), (.v 13)]
  (.call 70 4 false [] [(.v 0), (.v 14)]
  (.op (.bin .neq false) [(.v 18), (.c (.int .i64 0))]
  (.ite (.v 19)
   (.ret [(.c (.sl [])), (.v 18)])
  (.op (.mk 3 1) [(.v 15), (.v 16), (.v 17)]
  (.op (.app 3 48) [(.v 11), (.v 20)]
  (.op (.bin .add false) [(.v 10), (.c (.int .i64 1))]
  (.jump 0 [(.v 14), (.v 22), (.v 21)])))))))))
 (.call 71 1 false [0] [(.v 11)]
 (.ret [(.v 13), (.c (.int .i64 0))]))))
def ir28 : IR :=
 (.call 43 1 false [] [(.v 0), (.v 1)]
 (.op (.bin .neq false) [(.v 2), (.c (.int .i64 0))]
 (.ite (.v 3)
  (.ret [(.c (.sl [])), (.v 2)])
 (.call 69 1 false [] [(.v 0), (.v 1)]
 (.op .lenL [(.v 4)]
 (.op (.bin .sub false) [(.v 5), (.c (.int .i64 1))]
 (.op (.subL 1) [(.v 4), (.c (.int .i64 0)), (.v 6)]
 (.op .lenL [(.v 7)]
 (.loop 3 [(.c (.int .u64 0)), (.c (.int .i64 0)), (.c (.sl []))] ir28p0)))))))))
theorem rd28 : readFn T SG sigs 3000 sg28 Tryz.f56 an28 = some ir28 := by kernel_rfl
def an29 : Ann := (.s none .z (.s none .z (.s none .z (.s none (.s none .z (.b (.l ⟨2, [(0, .junk), (2, .junk), (3, .junk), (4, .junk), (6, (.atm (.v 0))), (9, .junk), (10, .junk), (11, .junk), (12, .junk), (14, .junk), (15, .junk), (16, .junk)], [(1, ⟨false, true, 39, 3, (.v 1), []⟩)], 2, [⟨none, 5, 39, 3⟩]⟩ .z))) .z))))
def ir29p0 : IR :=
 (.op (.bin .geq false) [(.v 6), (.c (.int .i64 0))]
 (.ite (.v 8)
  (.call 72 1 false [] [(.v 0), (.v 1), (.c (.int .i64 0)), (.v 6)]
  (.call 40 4 false [] [(.v 0), (.v 9)]
  (.op (.mk 3 1) [(.v 10), (.v 11), (.v 12)]
  (.op (.app 3 48) [(.v 7), (.v 14)]
  (.op (.bin .sub false) [(.v 6), (.c (.int .i64 1))]
  (.jump 0 [(.v 16), (.v 15)]))))))
 (.ret [(.v 7), (.c (.int .i64 0))])))
def ir29 : IR :=
 (.call 54 1 false [] [(.v 0), (.v 1)]
 (.op (.bin .neq false) [(.v 2), (.c (.int .i64 0))]
 (.ite (.v 3)
  (.ret [(.c (.sl [])), (.v 2)])
 (.call 15 1 false [] [(.v 0), (.v 1)]
 (.op (.bin .sub false) [(.v 4), (.c (.int .i64 1))]
 (.loop 2 [(.v 5), (.c (.sl []))] ir29p0))))))
theorem rd29 : readFn T SG sigs 3000 sg29 Tryz.f57 an29 = some ir29 := by kernel_rfl
def an30 : Ann := (.s none .z (.s none .z (.s none (.s none .z (.b (.l ⟨1, [(4, .junk), (5, (.atm (.v 0))), (6, .junk), (7, .junk), (8, .junk), (9, .junk), (10, .junk)], [], 0, []⟩ .z))) .z)))
def ir30p0 : IR :=
 (.op .lenL [(.v 0)]
 (.op (.bin .lss false) [(.v 5), (.v 6)]
 (.ite (.v 7)
  (.op (.row 3) [(.v 0), (.v 5)]
  (.op (.row 3) [(.v 1), (.v 5)]
  (.call 39 1 false [] [(.v 8), (.v 9), (.v 10), (.v 11), (.v 12), (.v 13)]
  (.op (.un .not) [(.v 14)]
  (.ite (.v 15)
   (.ret [(.c (.bool false))])
  (.op (.bin .add false) [(.v 5), (.c (.int .i64 1))]
  (.jump 0 [(.v 16)])))))))
 (.ret [(.c (.bool true))]))))
def ir30 : IR :=
 (.op .lenL [(.v 0)]
 (.op .lenL [(.v 1)]
 (.op (.bin .neq false) [(.v 2), (.v 3)]
 (.ite (.v 4)
  (.ret [(.c (.bool false))])
 (.loop 1 [(.c (.int .i64 0))] ir30p0)))))
theorem rd30 : readFn T SG sigs 3000 sg30 Tryz.f58 an30 = some ir30 := by kernel_rfl
def an31 : Ann := (.s none .z (.s none .z (.s none .z (.s none .z (.s none .z (.s none (.s none .z (.b (.l ⟨2, [(0, .junk), (1, .junk), (3, .junk), (4, .junk), (5, .junk), (6, .junk), (8, .junk), (9, (.atm (.v 0))), (10, (.atm (.v 1))), (11, .junk), (12, .junk), (13, .junk), (14, .junk), (16, .junk), (17, .junk), (18, .junk), (19, .junk), (20, .junk), (21, .junk), (22, .junk), (23, .junk), (24, .junk), (26, .junk), (27, .junk), (28, .junk)], [], 2, []⟩ (.s none .z (.s (some ⟨1, [(9, (.atm (.v 0))), (29, .junk), (30, .junk), (31, .junk), (32, .junk), (33, .junk)], [], 2, []⟩) .z .z))))) .z))))))
def ir31p0 : IR :=
 (.op (.bin .add false) [(.v 13), (.c (.int .i64 1))]
 (.jump 0 [(.v 16), (.v 17)]))
def ir31p1 : IR :=
 (.op .lenL [(.v 1)]
 (.op (.bin .lss false) [(.v 13), (.v 14)]
 (.ite (.v 15)
  (.letj 1
   (.call 67 1 false [] [(.v 7), (.v 13)]
   (.op (.un .not) [(.v 16)]
   (.ite (.v 17)
    (.op (.row 1) [(.v 1), (.v 13)]
    (.op .min [(.v 12), (.v 18)]
    (.jump 1 [(.v 19)])))
   (.jump 1 [(.v 12)]))))
  ir31p0)
 (.ret [(.v 12), (.c (.int .i64 0))]))))
def ir31 : IR :=
 (.call 54 1 false [] [(.v 0), (.v 1)]
 (.op (.bin .neq false) [(.v 5), (.c (.int .i64 0))]
 (.ite (.v 6)
  (.ret [(.c (.int .i64 0)), (.v 5)])
 (.call 12 2 false [] [(.v 0), (.v 2), (.v 3), (.v 4)]
 (.op (.bin .neq false) [(.v 8), (.c (.int .i64 0))]
 (.ite (.v 9)
  (.ret [(.c (.int .i64 0)), (.v 8)])
 (.call 15 1 false [] [(.v 0), (.v 1)]
 (.op (.bin .add false) [(.v 10), (.c (.int .i64 1))]
 (.loop 2 [(.v 11), (.c (.int .i64 0))] ir31p1)))))))))
theorem rd31 : readFn T SG sigs 3000 sg31 Tryz.f59 an31 = some ir31 := by kernel_rfl
def an32 : Ann := .z
def ir32 : IR :=
 (.call 73 1 false [] [(.v 0), (.v 1), (.v 2), (.c (.int .i64 800))]
 (.op (.bin .leq false) [(.v 3), (.c (.int .i64 800))]
 (.ite (.v 4)
  (.call 74 1 false [] [(.v 0), (.v 1), (.v 2), (.c (.int .i64 30))]
  (.op (.bin .leq false) [(.v 5), (.c (.int .i64 30))]
  (.ite (.v 6)
   (.call 75 1 false [] [(.v 0), (.v 1), (.v 2)]
   (.ret [(.v 7)]))
  (.ret [(.c (.bool false))]))))
 (.ret [(.c (.bool false))]))))
theorem rd32 : readFn T SG sigs 3000 sg32 Tryz.f32 an32 = some ir32 := by kernel_rfl
def an33 : Ann := .z
def ir33 : IR :=
 (.call 58 2 false [] [(.v 0), (.v 1)]
 (.op (.bin .neq false) [(.v 3), (.c (.int .i64 0))]
 (.ite (.v 4)
  (.ret [(.c (.sl [])), (.v 3)])
 (.call 59 2 false [] [(.v 2)]
 (.ret [(.v 5), (.v 6)])))))
theorem rd33 : readFn T SG sigs 3000 sg33 Tryz.f60 an33 = some ir33 := by kernel_rfl
def an34 : Ann := (.s none .z (.s none .z (.s none .z (.s none .z (.s none (.s none .z (.b (.l ⟨2, [(0, .junk), (4, .junk), (5, .junk), (8, .junk), (10, (.atm (.v 0))), (17, .junk), (18, .junk), (19, .junk), (20, .junk), (21, .junk), (22, .junk), (23, .junk), (24, .junk), (25, .junk), (27, .junk), (28, .junk), (29, .junk)], [(0, ⟨false, true, 3, 1, (.v 1), []⟩)], 1, []⟩ .z))) (.s none (.s none .z (.b (.l ⟨2, [(10, .junk), (11, (.atm (.v 0))), (30, .junk), (31, .junk), (32, .junk), (33, .junk)], [(0, ⟨false, true, 3, 1, (.v 1), []⟩)], 1, []⟩ (.s none .z (.s none (.b (.s none .z (.s none .z (.s none (.s none .z (.b (.l ⟨3, [(12, (.atm (.v 0))), (13, (.atm (.v 1))), (14, (.atm (.v 2))), (39, .junk), (40, .junk), (41, .junk), (42, .junk)], [], 1, []⟩ (.s none .z (.s (some ⟨2, [(12, (.atm (.v 0))), (13, (.atm (.v 1))), (45, .junk), (46, .junk), (47, .junk), (48, .junk)], [], 1, []⟩) .z .z))))) (.s none .z (.s none .z (.s none (.s none .z (.b (.l ⟨3, [(13, .junk), (14, .junk), (15, (.atm (.v 0))), (16, (.atm (.v 1))), (45, .junk), (46, .junk), (47, .junk), (48, .junk), (62, .junk)], [(0, ⟨false, true, 3, 1, (.v 2), []⟩)], 1, []⟩ (.s none .z (.s (some ⟨2, [(15, (.atm (.v 0))), (64, .junk), (65, .junk), (66, .junk), (67, .junk)], [(0, ⟨false, true, 3, 1, (.v 1), []⟩)], 1, []⟩) (.b (.s (some ⟨1, [(64, .junk), (65, .junk), (66, .junk), (67, .junk), (83, (.atm (.v 0)))], [], 1, []⟩) .z .z)) .z))))) .z))))))) .z))))) .z))))))
def ir34p0 : IR :=
 (.op (.bin .add false) [(.v 18), (.c (.int .i64 1))]
 (.jump 2 [(.v 21), (.v 22), (.v 23)]))
def ir34p1 : IR :=
 (.op (.bin .add false) [(.v 22), (.c (.int .i64 1))]
 (.jump 3 [(.v 26), (.v 28), (.v 27)]))
def ir34p2 : IR :=
 (.ite (.v 26)
  (.op .chk [(.v 23), (.v 22)]
  (.op (.set 0 1) [(.v 23), (.v 22), (.v 12)]
  (.jump 4 [(.c (.bool true)), (.v 27)])))
 (.jump 4 [(.v 21), (.v 23)]))
def ir34p3 : IR :=
 (.op .lenL [(.v 1)]
 (.op (.bin .lss false) [(.v 22), (.v 24)]
 (.ite (.v 25)
  (.letj 2
   (.letj 1
    (.op .chk [(.v 23), (.v 22)]
    (.op (.get 0 1) [(.v 23), (.v 22)]
    (.op (.bin .lss false) [(.v 26), (.c (.int .i64 0))]
    (.ite (.v 27)
     (.op (.row 1) [(.v 2), (.v 22)]
     (.op (.bin .andNot false) [(.v 28), (.v 16)]
     (.op (.bin .neq false) [(.v 29), (.c (.int .u64 0))]
     (.jump 5 [(.v 30)]))))
    (.jump 5 [(.c (.bool false))])))))
   ir34p2)
  ir34p1)
 (.op (.un .not) [(.v 21)]
 (.ite (.v 26)
  (.ret [(.c (.sl [])), (.c (.int .i64 9))])
 (.op (.bin .add false) [(.v 12), (.c (.int .i64 1))]
 (.jump 1 [(.v 27), (.v 23)])))))))
def ir34p4 : IR :=
 (.op .lenL [(.v 1)]
 (.op (.bin .lss false) [(.v 18), (.v 19)]
 (.ite (.v 20)
  (.letj 2
   (.op .chk [(.v 13), (.v 18)]
   (.op (.get 0 1) [(.v 13), (.v 18)]
   (.op (.bin .lss false) [(.v 21), (.c (.int .i64 0))]
   (.ite (.v 22)
    (.op (.row 1) [(.v 3), (.v 18)]
    (.op (.bin .or false) [(.v 16), (.v 23)]
    (.jump 3 [(.v 24), (.c (.bool false))])))
   (.jump 3 [(.v 16), (.v 17)])))))
  ir34p0)
 (.ite (.v 17)
  (.ret [(.v 13), (.c (.int .i64 0))])
 (.loop 3 [(.c (.bool false)), (.c (.int .i64 0)), (.v 13)] ir34p3)))))
def ir34p5 : IR :=
 (.op .lenL [(.v 1)]
 (.op (.bin .leq false) [(.v 12), (.v 14)]
 (.ite (.v 15)
  (.loop 3 [(.c (.int .u64 0)), (.c (.bool true)), (.c (.int .i64 0))] ir34p4)
 (.ret [(.c (.sl [])), (.c (.int .i64 9))]))))
def ir34p6 : IR :=
 (.op .lenL [(.v 1)]
 (.op (.bin .lss false) [(.v 8), (.v 10)]
 (.ite (.v 11)
  (.op .chk [(.v 9), (.v 8)]
  (.op (.set 0 1) [(.v 9), (.v 8), (.c (.int .i64 (-1)))]
  (.op (.bin .add false) [(.v 8), (.c (.int .i64 1))]
  (.jump 0 [(.v 13), (.v 12)]))))
 (.loop 2 [(.c (.int .i64 0)), (.v 9)] ir34p5))))
def ir34 : IR :=
 (.call 76 3 false [] [(.v 0), (.v 1)]
 (.op (.bin .neq false) [(.v 4), (.c (.int .i64 0))]
 (.ite (.v 5)
  (.ret [(.c (.sl [])), (.v 4)])
 (.op .lenL [(.v 1)]
 (.op (.mkL 8 [(.int .i64 0)]) [(.v 6)]
 (.loop 2 [(.c (.int .i64 0)), (.v 7)] ir34p6))))))
theorem rd34 : readFn T SG sigs 3000 sg34 Tryz.f61 an34 = some ir34 := by kernel_rfl
def an35 : Ann := (.s none .z (.s none .z (.s none .z (.s none .z (.s none .z (.s none (.s none .z (.b (.l ⟨2, [(5, .junk), (7, .junk), (8, .junk), (10, .junk), (12, (.atm (.v 0))), (14, .junk), (15, .junk), (16, .junk), (17, .junk), (18, .junk), (19, .junk), (20, .junk), (21, .junk), (24, .junk), (25, .junk), (26, .junk), (27, .junk), (28, .junk), (29, .junk), (30, .junk), (31, .junk), (32, .junk), (33, .junk), (34, .junk), (35, .junk)], [(1, ⟨false, true, 3, 1, (.v 1), []⟩)], 2, []⟩ (.s none .z (.s none (.b (.s none .z (.b (.l ⟨2, [(13, (.atm (.v 0))), (36, .junk), (37, .junk), (38, .junk), (39, .junk)], [(1, ⟨false, true, 3, 1, (.v 1), []⟩)], 2, []⟩ (.s none .z (.s (some ⟨1, [(42, .junk), (43, .junk), (44, .junk), (45, .junk)], [(1, ⟨false, true, 3, 1, (.v 0), []⟩)], 2, []⟩) .z .z)))))) .z))))) .z))))))
def ir35p0 : IR :=
 (.op (.bin .add false) [(.v 16), (.c (.int .i64 1))]
 (.jump 1 [(.v 21), (.v 20)]))
def ir35p1 : IR :=
 (.op .lenL [(.v 1)]
 (.op (.bin .lss false) [(.v 16), (.v 18)]
 (.ite (.v 19)
  (.letj 1
   (.op (.row 1) [(.v 6), (.v 16)]
   (.call 67 1 false [] [(.v 20), (.v 12)]
   (.ite (.v 21)
    (.op .chk [(.v 17), (.v 12)]
    (.op (.get 0 1) [(.v 17), (.v 12)]
    (.op (.row 1) [(.v 2), (.v 16)]
    (.op (.bin .add false) [(.c (.int .i64 1)), (.v 23)]
    (.op .max [(.v 22), (.v 24)]
    (.op .chk [(.v 17), (.v 12)]
    (.op (.set 0 1) [(.v 17), (.v 12), (.v 25)]
    (.jump 2 [(.v 26)]))))))))
   (.jump 2 [(.v 17)]))))
  ir35p0)
 (.op (.bin .add false) [(.v 12), (.c (.int .i64 1))]
 (.jump 0 [(.v 20), (.v 17)])))))
def ir35p2 : IR :=
 (.op .lenL [(.v 13)]
 (.op (.bin .lss false) [(.v 12), (.v 14)]
 (.ite (.v 15)
  (.loop 2 [(.c (.int .i64 0)), (.v 13)] ir35p1)
 (.call 42 3 false [] [(.v 0), (.v 13)]
 (.ret [(.v 16), (.v 17), (.v 18)])))))
def ir35 : IR :=
 (.call 34 2 false [] [(.v 0), (.v 1)]
 (.op (.bin .neq false) [(.v 3), (.c (.int .i64 0))]
 (.ite (.v 4)
  (.ret [(.c (.sl [])), (.c (.sl [])), (.v 3)])
 (.call 76 3 false [] [(.v 0), (.v 1)]
 (.op .lenL [(.v 0)]
 (.op (.conv .u64) [(.v 8)]
 (.op (.bin .shl false) [(.c (.int .i64 1)), (.v 9)]
 (.op (.mkL 8 [(.int .i64 0)]) [(.v 10)]
 (.loop 2 [(.c (.int .i64 0)), (.v 11)] ir35p2)))))))))
theorem rd35 : readFn T SG sigs 3000 sg35 Tryz.f62 an35 = some ir35 := by kernel_rfl
def an36 : Ann := (.s none .z (.s none .z (.s none (.s none .z (.b (.l ⟨1, [(4, .junk), (6, .junk), (7, .junk), (8, .junk), (9, .junk), (10, .junk), (11, .junk), (13, (.atm (.v 0)))], [], 0, []⟩ .z))) .z)))
def ir36p0 : IR :=
 (.op (.bin .lss false) [(.v 6), (.v 5)]
 (.ite (.v 7)
  (.op (.row 1) [(.v 0), (.v 6)]
  (.op (.row 1) [(.v 1), (.v 6)]
  (.op (.bin .neq false) [(.v 8), (.v 9)]
  (.ite (.v 10)
   (.ret [(.c (.bool false))])
  (.op (.bin .add false) [(.v 6), (.c (.int .i64 1))]
  (.jump 0 [(.v 11)]))))))
 (.ret [(.c (.bool true))])))
def ir36 : IR :=
 (.op .lenL [(.v 0)]
 (.op .lenL [(.v 1)]
 (.op (.bin .neq false) [(.v 2), (.v 3)]
 (.ite (.v 4)
  (.ret [(.c (.bool false))])
 (.op .lenL [(.v 0)]
 (.loop 1 [(.c (.int .i64 0))] ir36p0))))))
theorem rd36 : readFn T SG sigs 3000 sg36 Tryz.f51 an36 = some ir36 := by kernel_rfl
def an37 : Ann := (.s none .z (.s none .z (.s none .z (.s none .z (.s none .z (.s none (.s none .z (.b (.l ⟨3, [(0, .junk), (2, .junk), (3, .junk), (4, .junk), (6, (.atm (.v 0))), (7, .junk), (13, .junk), (14, .junk), (15, .junk), (16, .junk), (18, .junk), (19, .junk), (20, .junk), (21, .junk), (22, .junk), (23, .junk), (24, .junk), (25, .junk), (26, .junk), (29, (.atm (.v 1)))], [(1, ⟨false, true, 66, 6, (.v 2), []⟩)], 2, [⟨none, 5, 66, 6⟩]⟩ .z))) .z))))))
def ir37p0 : IR :=
 (.op (.bin .lss false) [(.v 11), (.v 9)]
 (.ite (.v 13)
  (.op (.row 1) [(.v 8), (.v 11)]
  (.call 70 4 false [] [(.v 0), (.v 10)]
  (.op (.bin .neq false) [(.v 18), (.c (.int .i64 0))]
  (.ite (.v 19)
   (.ret [(.c (.sl [])), (.v 18)])
  (.call 70 4 false [] [(.v 0), (.v 14)]
  (.op (.bin .neq false) [(.v 23), (.c (.int .i64 0))]
  (.ite (.v 24)
   (.ret [(.c (.sl [])), (.v 23)])
  (.op (.mk 6 1) [(.v 15), (.v 16), (.v 17), (.v 20), (.v 21), (.v 22)]
  (.op (.app 6 96) [(.v 12), (.v 25)]
  (.op (.bin .andNot false) [(.v 10), (.v 14)]
  (.op (.bin .add false) [(.v 11), (.c (.int .i64 1))]
  (.jump 0 [(.v 27), (.v 28), (.v 26)]))))))))))))
 (.ret [(.v 12), (.c (.int .i64 0))])))
def ir37 : IR :=
 (.call 43 1 false [] [(.v 0), (.v 1)]
 (.op (.bin .neq false) [(.v 2), (.c (.int .i64 0))]
 (.ite (.v 3)
  (.ret [(.c (.sl [])), (.v 2)])
 (.call 77 1 false [] [(.v 0)]
 (.call 69 1 false [] [(.v 0), (.v 1)]
 (.op .lenL [(.v 5)]
 (.op (.bin .sub false) [(.v 6), (.c (.int .i64 1))]
 (.op (.subL 1) [(.v 5), (.c (.int .i64 0)), (.v 7)]
 (.op .lenL [(.v 8)]
 (.loop 3 [(.v 4), (.c (.int .i64 0)), (.c (.sl []))] ir37p0))))))))))
theorem rd37 : readFn T SG sigs 3000 sg37 Tryz.f63 an37 = some ir37 := by kernel_rfl
def an38 : Ann := (.s none .z (.s none .z (.s none .z (.s none .z (.s none (.s none .z (.b (.l ⟨2, [(0, .junk), (2, .junk), (3, .junk), (4, .junk), (7, (.atm (.v 0))), (12, .junk), (13, .junk), (14, .junk), (15, .junk), (17, .junk), (18, .junk)], [(1, ⟨false, true, 66, 6, (.v 1), []⟩)], 2, [⟨none, 5, 66, 6⟩]⟩ .z))) .z)))))
def ir38p0 : IR :=
 (.op (.bin .lss false) [(.v 5), (.v 4)]
 (.ite (.v 7)
  (.call 72 1 false [] [(.v 0), (.v 1), (.v 5), (.v 4)]
  (.call 40 4 false [] [(.v 0), (.v 8)]
  (.call 72 1 false [] [(.v 0), (.v 1), (.v 5), (.v 5)]
  (.call 40 4 false [] [(.v 0), (.v 13)]
  (.op (.mk 6 1) [(.v 9), (.v 10), (.v 11), (.v 14), (.v 15), (.v 16)]
  (.op (.app 6 96) [(.v 6), (.v 18)]
  (.op (.bin .add false) [(.v 5), (.c (.int .i64 1))]
  (.jump 0 [(.v 20), (.v 19)]))))))))
 (.ret [(.v 6), (.c (.int .i64 0))])))
def ir38 : IR :=
 (.call 54 1 false [] [(.v 0), (.v 1)]
 (.op (.bin .neq false) [(.v 2), (.c (.int .i64 0))]
 (.ite (.v 3)
  (.ret [(.c (.sl [])), (.v 2)])
 (.call 15 1 false [] [(.v 0), (.v 1)]
 (.loop 2 [(.c (.int .i64 0)), (.c (.sl []))] ir38p0)))))
theorem rd38 : readFn T SG sigs 3000 sg38 Tryz.f64 an38 = some ir38 := by kernel_rfl
def an39 : Ann := .z
def ir39 : IR :=
 (.op (.bin .eql false) [(.v 0), (.v 3)]
 (.ite (.v 6)
  (.op (.bin .eql false) [(.v 1), (.v 4)]
  (.ite (.v 7)
   (.call 30 1 false [] [(.v 2), (.v 5)]
   (.ret [(.v 8)]))
  (.ret [(.c (.bool false))])))
 (.ret [(.c (.bool false))])))
theorem rd39 : readFn T SG sigs 3000 sg39 Tryz.f65 an39 = some ir39 := by kernel_rfl
def an40 : Ann := .z
def ir40 : IR :=
 (.call 47 1 false [] [(.v 0)]
 (.op (.un .not) [(.v 2)]
 (.ite (.v 3)
  (.ret [(.c (.int .i64 0)), (.c (.str [])), (.c (.sl [])), (.c (.int .i64 1))])
 (.call 78 3 false [] [(.v 0), (.v 1)]
 (.ret [(.v 4), (.v 5), (.v 6), (.c (.int .i64 0))])))))
theorem rd40 : readFn T SG sigs 3000 sg40 Tryz.f66 an40 = some ir40 := by kernel_rfl
def an41 : Ann := .z
def ir41 : IR :=
 (.call 79 3 false [] [(.v 1), (.v 2)]
 (.call 80 1 false [] [(.v 3), (.v 0)]
 (.ret [(.v 6), (.v 4), (.v 5)])))
theorem rd41 : readFn T SG sigs 3000 sg41 Tryz.f67 an41 = some ir41 := by kernel_rfl
def an42 : Ann := (.s none .z (.s none (.s (some ⟨1, [(5, .junk), (21, (.atm (.v 0)))], [], 1, []⟩) .z .z) (.s none .z (.s none (.s none .z (.b (.l ⟨2, [(0, .junk), (7, (.atm (.v 0))), (21, .junk), (24, .junk), (25, .junk), (26, .junk), (27, .junk), (28, .junk), (29, .junk)], [(6, ⟨false, true, 3, 1, (.v 1), []⟩)], 9, []⟩ (.s none .z (.s none (.b (.s none .z (.s none (.s none .z (.b (.l ⟨2, [(9, (.atm (.v 0))), (30, .junk), (31, .junk), (32, .junk), (33, .junk)], [(9, ⟨false, true, 3, 1, (.v 1), []⟩)], 10, [⟨none, 8, 3, 1⟩]⟩ (.s none .z (.s (some ⟨1, [(36, .junk), (37, .junk), (38, .junk), (39, .junk)], [(9, ⟨false, true, 3, 1, (.v 0), []⟩)], 10, []⟩) (.b (.s (some ⟨1, [(36, .junk), (37, .junk), (38, .junk), (39, .junk), (59, (.atm (.v 0)))], [], 10, []⟩) .z .z)) .z))))) .z))) .z))))) .z))))
def ir42p0 : IR :=
 (.op (.bin .add false) [(.v 10), (.c (.int .i64 1))]
 (.jump 1 [(.v 15), (.v 14)]))
def ir42p1 : IR :=
 (.ite (.v 14)
  (.op (.row 1) [(.v 1), (.v 10)]
  (.op (.mk 1 1) [(.v 15)]
  (.op (.app 1 8) [(.v 11), (.v 16)]
  (.jump 2 [(.v 17)]))))
 (.jump 2 [(.v 11)]))
def ir42p2 : IR :=
 (.op .lenL [(.v 1)]
 (.op (.bin .lss false) [(.v 10), (.v 12)]
 (.ite (.v 13)
  (.letj 1
   (.letj 1
    (.op (.row 1) [(.v 1), (.v 10)]
    (.op (.row 1) [(.v 1), (.v 6)]
    (.op (.bin .lss false) [(.v 14), (.v 15)]
    (.ite (.v 16)
     (.op (.row 1) [(.v 1), (.v 10)]
     (.call 81 1 true [] [(.v 11), (.v 17)]
     (.op (.un .not) [(.v 18)]
     (.jump 3 [(.v 19)]))))
    (.jump 3 [(.c (.bool false))])))))
   ir42p1)
  ir42p0)
 (.op .lenL [(.v 11)]
 (.op .chk [(.v 7), (.v 6)]
 (.op (.set 0 1) [(.v 7), (.v 6), (.v 14)]
 (.op (.bin .add false) [(.v 6), (.c (.int .i64 1))]
 (.jump 0 [(.v 16), (.v 15)]))))))))
def ir42p3 : IR :=
 (.op .lenL [(.v 1)]
 (.op (.bin .lss false) [(.v 6), (.v 8)]
 (.ite (.v 9)
  (.loop 2 [(.c (.int .i64 0)), (.c (.sl []))] ir42p2)
 (.ret [(.v 3), (.v 7), (.c (.int .i64 0))]))))
def ir42p4 : IR :=
 (.ite (.v 2)
  (.ret [(.c (.sl [])), (.c (.sl [])), (.c (.int .i64 1))])
 (.op (.app 1 16) [(.c (.sl [])), (.v 0)]
 (.op .lenL [(.v 1)]
 (.op (.mkL 8 [(.int .i64 0)]) [(.v 4)]
 (.loop 2 [(.c (.int .i64 0)), (.v 5)] ir42p3)))))
def ir42 : IR :=
 (.letj 1
  (.call 47 1 false [] [(.v 0)]
  (.op (.un .not) [(.v 2)]
  (.ite (.v 3)
   (.jump 0 [(.c (.bool true))])
  (.op .lenL [(.v 1)]
  (.op .lenL [(.v 0)]
  (.op (.conv .u64) [(.v 5)]
  (.op (.bin .shl false) [(.c (.int .i64 1)), (.v 6)]
  (.op (.bin .neq false) [(.v 4), (.v 7)]
  (.jump 0 [(.v 8)])))))))))
 ir42p4)
theorem rd42 : readFn T SG sigs 3000 sg42 Tryz.f68 an42 = some ir42 := by kernel_rfl
def an43 : Ann := (.s none .z (.s none (.s (some ⟨1, [(0, .junk), (2, .junk), (20, (.atm (.v 0)))], [], 1, []⟩) .z .z) (.s none .z (.s none .z (.s none (.s none .z (.b (.l ⟨3, [(1, .junk), (4, (.atm (.v 0))), (20, .junk), (21, .junk), (22, .junk), (23, .junk), (24, .junk), (25, .junk), (28, (.atm (.v 1)))], [(1, ⟨false, true, 4, 1, (.v 2), []⟩)], 2, []⟩ (.s none .z (.s none .z (.s none (.b (.s none .z (.s none (.s (some ⟨1, [(29, .junk), (30, .junk), (31, .junk), (39, (.atm (.v 0)))], [], 2, []⟩) .z .z) .z))) .z)))))) .z)))))
def ir43p0 : IR :=
 (.ite (.v 11)
  (.ret [(.c (.int .i64 8))])
 (.op .max [(.v 6), (.v 10)]
 (.op .chk [(.v 8), (.v 10)]
 (.op (.set 0 1) [(.v 8), (.v 10), (.c (.bool true))]
 (.op (.bin .add false) [(.v 7), (.c (.int .i64 1))]
 (.jump 0 [(.v 12), (.v 14), (.v 13)]))))))
def ir43p1 : IR :=
 (.op (.bin .lss false) [(.v 7), (.v 5)]
 (.ite (.v 9)
  (.op (.row 1) [(.v 1), (.v 7)]
  (.letj 1
   (.op (.bin .lss false) [(.v 10), (.c (.int .i64 0))]
   (.ite (.v 11)
    (.jump 1 [(.c (.bool true))])
   (.op .lenL [(.v 8)]
   (.op (.bin .geq false) [(.v 10), (.v 12)]
   (.jump 1 [(.v 13)])))))
  ir43p0))
 (.op (.subL 1) [(.v 8), (.c (.int .i64 0)), (.v 6)]
 (.call 82 1 false [] [(.v 10), (.c (.bool false))]
 (.ite (.v 11)
  (.ret [(.c (.int .i64 8))])
 (.ret [(.c (.int .i64 0))]))))))
def ir43p2 : IR :=
 (.ite (.v 2)
  (.ret [(.c (.int .i64 1))])
 (.op .lenL [(.v 1)]
 (.op (.mkL 1 [(.bool false)]) [(.v 3)]
 (.op .lenL [(.v 1)]
 (.loop 3 [(.c (.int .i64 0)), (.c (.int .i64 0)), (.v 4)] ir43p1)))))
def ir43 : IR :=
 (.letj 1
  (.call 64 1 false [] [(.v 0)]
  (.op (.un .not) [(.v 2)]
  (.ite (.v 3)
   (.jump 0 [(.c (.bool true))])
  (.op .lenL [(.v 1)]
  (.op .lenL [(.v 0)]
  (.op (.bin .shl false) [(.c (.int .i64 1)), (.v 5)]
  (.op (.bin .neq false) [(.v 4), (.v 6)]
  (.jump 0 [(.v 7)]))))))))
 ir43p2)
theorem rd43 : readFn T SG sigs 3000 sg43 Tryz.f91 an43 = some ir43 := by kernel_rfl
def an44 : Ann := (.s none .z (.s none .z (.s none .z (.s none (.s none .z (.b (.l ⟨1, [(1, .junk), (4, .junk), (5, .junk), (6, .junk), (9, .junk), (10, .junk), (11, .junk), (12, .junk), (13, .junk), (14, .junk), (15, .junk), (17, .junk), (20, (.atm (.v 0)))], [], 1, []⟩ .z))) .z))))
def ir44p0 : IR :=
 (.op (.bin .lss false) [(.v 10), (.v 9)]
 (.ite (.v 11)
  (.op (.row 1) [(.v 8), (.v 10)]
  (.call 85 1 false [] [(.v 0), (.v 12)]
  (.op (.un .not) [(.v 13)]
  (.ite (.v 14)
   (.ret [(.c (.int .u64 0)), (.c (.int .i64 6))])
  (.op (.bin .add false) [(.v 10), (.c (.int .i64 1))]
  (.jump 0 [(.v 15)]))))))
 (.call 86 1 false [] [(.v 0), (.v 1), (.v 2), (.v 3)]
 (.call 77 1 false [] [(.v 0)]
 (.op (.bin .and false) [(.v 12), (.v 13)]
 (.ret [(.v 14), (.c (.int .i64 0))]))))))
def ir44 : IR :=
 (.call 64 1 false [] [(.v 0)]
 (.op (.un .not) [(.v 4)]
 (.ite (.v 5)
  (.ret [(.c (.int .u64 0)), (.c (.int .i64 1))])
 (.call 83 1 false [] [(.v 1), (.v 2), (.v 3)]
 (.op (.bin .neq false) [(.v 6), (.c (.int .i64 0))]
 (.ite (.v 7)
  (.ret [(.c (.int .u64 0)), (.v 6)])
 (.call 84 1 false [] [(.v 1), (.v 2), (.v 3)]
 (.op .lenL [(.v 8)]
 (.loop 1 [(.c (.int .i64 0))] ir44p0)))))))))
theorem rd44 : readFn T SG sigs 3000 sg44 Tryz.f73 an44 = some ir44 := by kernel_rfl
def an45 : Ann := (.s none .z (.s none .z (.s none .z (.s none (.s none .z (.b (.l ⟨2, [(2, .junk), (3, (.atm (.v 0))), (4, (.atm (.v 1))), (5, .junk), (6, .junk), (7, .junk), (9, .junk), (10, .junk), (11, .junk)], [], 0, []⟩ .z))) .z))))
def ir45p0 : IR :=
 (.op .lenL [(.v 0)]
 (.op (.bin .lss false) [(.v 5), (.v 6)]
 (.ite (.v 7)
  (.op (.row 1) [(.v 0), (.v 5)]
  (.op .max [(.v 4), (.v 8)]
  (.op (.bin .add false) [(.v 5), (.c (.int .i64 1))]
  (.jump 0 [(.v 9), (.v 10)]))))
 (.ret [(.v 4)]))))
def ir45 : IR :=
 (.op .lenL [(.v 0)]
 (.op (.bin .lss false) [(.v 1), (.c (.int .i64 1))]
 (.ite (.v 2)
  .fail
 (.op (.row 1) [(.v 0), (.c (.int .i64 0))]
 (.loop 2 [(.v 3), (.c (.int .i64 1))] ir45p0)))))
theorem rd45 : readFn T SG sigs 3000 sg45 Tryz.f92 an45 = some ir45 := by kernel_rfl
def an46 : Ann := .z
def ir46 : IR :=
 (.op (.conv .u64) [(.v 1)]
 (.op (.bin .shr false) [(.v 0), (.v 2)]
 (.op (.bin .and false) [(.v 3), (.c (.int .u64 1))]
 (.op (.bin .eql false) [(.v 4), (.c (.int .u64 1))]
 (.ret [(.v 5)])))))
theorem rd46 : readFn T SG sigs 3000 sg46 Tryz.f93 an46 = some ir46 := by kernel_rfl
def an47 : Ann := (.s none .z (.s none (.s none .z (.b (.l ⟨1, [(2, .junk), (3, (.atm (.v 0)))], [], 0, []⟩ (.s none .z (.s none (.b (.s (some ⟨1, [(4, .junk), (5, .junk), (6, .junk), (7, .junk), (31, (.atm (.v 0)))], [], 0, []⟩) .z .z)) .z))))) .z))
def ir47p0 : IR :=
 (.ite (.v 4)
  (.ret [(.c (.bool false))])
 (.op (.bin .add false) [(.v 1), (.c (.int .i64 1))]
 (.jump 0 [(.v 5)])))
def ir47p1 : IR :=
 (.op .lenL [(.v 0)]
 (.op (.bin .lss false) [(.v 1), (.v 2)]
 (.ite (.v 3)
  (.letj 1
   (.op (.row 1) [(.v 0), (.v 1)]
   (.call 87 1 false [] [(.v 4)]
   (.op (.un .not) [(.v 5)]
   (.ite (.v 6)
    (.jump 1 [(.c (.bool true))])
   (.op (.bin .gtr false) [(.v 1), (.c (.int .i64 0))]
   (.ite (.v 7)
    (.op (.row 1) [(.v 0), (.v 1)]
    (.op (.bin .sub false) [(.v 1), (.c (.int .i64 1))]
    (.op (.row 1) [(.v 0), (.v 9)]
    (.op (.bin .leq false) [(.v 8), (.v 10)]
    (.jump 1 [(.v 11)])))))
   (.jump 1 [(.c (.bool false))])))))))
  ir47p0)
 (.op .lenL [(.v 0)]
 (.op (.bin .leq false) [(.v 4), (.c (.int .i64 6))]
 (.ret [(.v 5)]))))))
def ir47 : IR :=
 (.loop 1 [(.c (.int .i64 0))] ir47p1)
theorem rd47 : readFn T SG sigs 3000 sg47 Tryz.f69 an47 = some ir47 := by kernel_rfl
def an48 : Ann := (.s none .z (.s none (.s (some ⟨1, [(0, .junk), (2, .junk), (10, (.atm (.v 0)))], [], 1, []⟩) .z .z) .z))
def ir48p0 : IR :=
 (.ite (.v 3)
  (.ret [(.c (.int .i64 2))])
 (.call 90 1 false [] [(.v 0), (.v 1), (.v 2)]
 (.op (.un .not) [(.v 4)]
 (.ite (.v 5)
  (.ret [(.c (.int .i64 4))])
 (.call 91 1 false [] [(.v 0), (.v 1), (.v 2)]
 (.op (.un .not) [(.v 6)]
 (.ite (.v 7)
  (.ret [(.c (.int .i64 3))])
 (.ret [(.c (.int .i64 0))]))))))))
def ir48 : IR :=
 (.letj 1
  (.call 88 1 false [] [(.v 0), (.v 1), (.v 2)]
  (.op (.bin .gtr false) [(.v 3), (.c (.int .i64 600))]
  (.ite (.v 4)
   (.jump 0 [(.c (.bool true))])
  (.call 89 1 false [] [(.v 0), (.v 1), (.v 2)]
  (.op (.bin .gtr false) [(.v 5), (.c (.int .i64 20))]
  (.jump 0 [(.v 6)]))))))
 ir48p0)
theorem rd48 : readFn T SG sigs 3000 sg48 Tryz.f82 an48 = some ir48 := by kernel_rfl
def an49 : Ann := .z
def ir49 : IR :=
 (.call 92 1 false [] [(.c (.sl [])), (.v 0), (.v 1), (.v 2)]
 (.ret [(.v 3)]))
theorem rd49 : readFn T SG sigs 3000 sg49 Tryz.f83 an49 = some ir49 := by kernel_rfl
def an50 : Ann := (.s none .z (.s none (.s none .z (.b (.l ⟨1, [(4, .junk), (5, (.atm (.v 0)))], [], 0, []⟩ .z))) .z))
def ir50p0 : IR :=
 (.op .lenL [(.v 0)]
 (.op (.bin .lss false) [(.v 2), (.v 3)]
 (.ite (.v 4)
  (.op (.row 1) [(.v 0), (.v 2)]
  (.op (.bin .eql false) [(.v 5), (.v 1)]
  (.ite (.v 6)
   (.ret [(.v 2)])
  (.op (.bin .add false) [(.v 2), (.c (.int .i64 1))]
  (.jump 0 [(.v 7)])))))
 (.ret [(.c (.int .i64 (-1)))]))))
def ir50 : IR :=
 (.loop 1 [(.c (.int .i64 0))] ir50p0)
theorem rd50 : readFn T SG sigs 3000 sg50 Tryz.f84 an50 = some ir50 := by kernel_rfl
def an51 : Ann := .z
def ir51 : IR :=
 (.op .lenL [(.v 0)]
 (.op (.conv .u64) [(.v 1)]
 (.op (.bin .shl false) [(.c (.int .i64 1)), (.v 2)]
 (.ret [(.v 3)]))))
theorem rd51 : readFn T SG sigs 3000 sg51 Tryz.f70 an51 = some ir51 := by kernel_rfl
def an52 : Ann := (.s none .z (.s none .z (.s none (.s none .z (.b (.l ⟨2, [(4, .junk), (6, (.atm (.v 0)))], [(0, ⟨false, true, 9, 1, (.v 1), []⟩)], 1, [⟨none, 5, 9, 1⟩]⟩ (.s none .z (.s (some ⟨1, [(7, .junk), (8, .junk), (9, .junk), (10, .junk)], [(0, ⟨false, true, 9, 1, (.v 0), []⟩)], 1, []⟩) .z .z))))) .z)))
def ir52p0 : IR :=
 (.op (.bin .add false) [(.v 2), (.c (.int .i64 1))]
 (.jump 0 [(.v 7), (.v 6)]))
def ir52p1 : IR :=
 (.op .lenL [(.v 0)]
 (.op (.bin .lss false) [(.v 2), (.v 4)]
 (.ite (.v 5)
  (.letj 1
   (.op (.conv .u64) [(.v 2)]
   (.op (.bin .shr false) [(.v 1), (.v 6)]
   (.op (.bin .and false) [(.v 7), (.c (.int .i64 1))]
   (.op (.bin .eql false) [(.v 8), (.c (.int .i64 1))]
   (.ite (.v 9)
    (.op (.row 1) [(.v 0), (.v 2)]
    (.op (.mk 1 1) [(.v 10)]
    (.op (.app 1 16) [(.v 3), (.v 11)]
    (.jump 1 [(.v 12)]))))
   (.jump 1 [(.v 3)]))))))
  ir52p0)
 (.ret [(.v 3)]))))
def ir52 : IR :=
 (.loop 2 [(.c (.int .i64 0)), (.c (.sl []))] ir52p1)
theorem rd52 : readFn T SG sigs 3000 sg52 Tryz.f86 an52 = some ir52 := by kernel_rfl
def an53 : Ann := .z
def ir53 : IR :=
 (.call 90 1 false [] [(.v 0), (.v 1), (.v 2)]
 (.ite (.v 4)
  (.call 91 1 false [] [(.v 0), (.v 1), (.v 2)]
  (.ite (.v 5)
   (.call 93 1 false [] [(.v 0), (.v 1), (.v 2), (.v 3)]
   (.ret [(.v 6)]))
  (.ret [(.c (.bool false))])))
 (.ret [(.c (.bool false))])))
theorem rd53 : readFn T SG sigs 3000 sg53 Tryz.f85 an53 = some ir53 := by kernel_rfl
def an54 : Ann := (.s none .z (.s none (.s (some ⟨1, [(0, .junk), (2, .junk), (20, (.atm (.v 0)))], [], 1, []⟩) .z .z) (.s none .z (.s none (.s none .z (.b (.l ⟨2, [(3, (.atm (.v 0))), (4, (.atm (.v 1))), (20, .junk)], [], 1, []⟩ (.s none .z (.s none (.b (.s none (.s (some ⟨1, [(21, .junk), (22, .junk), (23, .junk), (24, .junk), (25, .junk), (44, (.atm (.v 0)))], [], 1, []⟩) .z .z) .z)) .z))))) (.s none (.s none .z (.b (.l ⟨1, [(4, .junk), (5, (.atm (.v 0))), (21, .junk), (22, .junk), (23, .junk), (24, .junk), (25, .junk)], [], 1, []⟩ .z))) .z)))))
def ir54p0 : IR :=
 (.ite (.v 7)
  (.ret [(.c (.int .i64 8))])
 (.op (.row 1) [(.v 1), (.v 4)]
 (.op .max [(.v 3), (.v 8)]
 (.op (.bin .add false) [(.v 4), (.c (.int .i64 1))]
 (.jump 0 [(.v 9), (.v 10)])))))
def ir54p1 : IR :=
 (.op (.bin .lss false) [(.v 7), (.v 3)]
 (.ite (.v 8)
  (.call 81 1 false [] [(.v 1), (.v 7)]
  (.op (.un .not) [(.v 9)]
  (.ite (.v 10)
   (.ret [(.c (.int .i64 8))])
  (.op (.bin .add false) [(.v 7), (.c (.int .i64 1))]
  (.jump 1 [(.v 11)])))))
 (.ret [(.c (.int .i64 0))])))
def ir54p2 : IR :=
 (.op .lenL [(.v 1)]
 (.op (.bin .lss false) [(.v 4), (.v 5)]
 (.ite (.v 6)
  (.letj 1
   (.op (.row 1) [(.v 1), (.v 4)]
   (.op (.bin .lss false) [(.v 7), (.c (.int .i64 0))]
   (.ite (.v 8)
    (.jump 1 [(.c (.bool true))])
   (.op (.row 1) [(.v 1), (.v 4)]
   (.op .lenL [(.v 1)]
   (.op (.bin .geq false) [(.v 9), (.v 10)]
   (.jump 1 [(.v 11)])))))))
  ir54p0)
 (.loop 1 [(.c (.int .i64 0))] ir54p1))))
def ir54p3 : IR :=
 (.ite (.v 2)
  (.ret [(.c (.int .i64 1))])
 (.loop 2 [(.c (.int .i64 0)), (.c (.int .i64 0))] ir54p2))
def ir54 : IR :=
 (.letj 1
  (.call 47 1 false [] [(.v 0)]
  (.op (.un .not) [(.v 2)]
  (.ite (.v 3)
   (.jump 0 [(.c (.bool true))])
  (.op .lenL [(.v 1)]
  (.op .lenL [(.v 0)]
  (.op (.conv .u64) [(.v 5)]
  (.op (.bin .shl false) [(.c (.int .i64 1)), (.v 6)]
  (.op (.bin .neq false) [(.v 4), (.v 7)]
  (.jump 0 [(.v 8)])))))))))
 ir54p3)
theorem rd54 : readFn T SG sigs 3000 sg54 Tryz.f77 an54 = some ir54 := by kernel_rfl
def an55 : Ann := .z
def ir55 : IR :=
 (.call 16 1 false [] [(.v 0)]
 (.call 61 1 false [] [(.v 0), (.v 1), (.v 2)]
 (.ret [(.v 3)])))
theorem rd55 : readFn T SG sigs 3000 sg55 Tryz.f23 an55 = some ir55 := by kernel_rfl
def an56 : Ann := .z
def ir56 : IR :=
 (.ret [(.c (.int .i64 3)), (.v 0), (.c (.sl []))])
theorem rd56 : readFn T SG sigs 3000 sg56 Tryz.f94 an56 = some ir56 := by kernel_rfl
def an57 : Ann := .z
def ir57 : IR :=
 (.op (.mk 3 1) [(.v 0), (.v 1), (.v 2)]
 (.ret [(.c (.int .i64 4)), (.c (.str [])), (.v 3)]))
theorem rd57 : readFn T SG sigs 3000 sg57 Tryz.f43 an57 = some ir57 := by kernel_rfl
def an58 : Ann := (.s none .z (.s none .z (.s none .z (.s none .z (.s none (.s none .z (.b (.l ⟨2, [(1, .junk), (4, .junk), (5, .junk), (14, .junk), (15, .junk), (16, .junk), (17, .junk), (18, .junk), (19, .junk), (22, (.atm (.v 0)))], [(0, ⟨false, true, 127, 2, (.v 1), []⟩)], 1, [⟨none, 6, 127, 2⟩]⟩ .z))) .z)))))
def ir58p0 : IR :=
 (.op (.bin .lss false) [(.v 7), (.v 6)]
 (.ite (.v 9)
  (.op (.row 6) [(.v 1), (.v 7)]
  (.op (.mk 3 2) [(.v 10), (.v 11), (.v 12), (.v 13), (.v 14), (.v 15)]
  (.call 62 1 true [] [(.v 0), (.v 16)]
  (.op (.bin .neq false) [(.v 17), (.c (.int .i64 0))]
  (.ite (.v 18)
   (.ret [(.c (.sl [])), (.v 17)])
  (.call 44 2 false [] [(.v 0), (.v 10), (.v 11), (.v 12)]
  (.call 44 2 false [] [(.v 0), (.v 13), (.v 14), (.v 15)]
  (.op (.bin .and false) [(.v 19), (.v 21)]
  (.op (.bin .andNot false) [(.v 19), (.v 21)]
  (.op (.mk 2 1) [(.v 23), (.v 24)]
  (.op (.app 2 16) [(.v 8), (.v 25)]
  (.op (.bin .add false) [(.v 7), (.c (.int .i64 1))]
  (.jump 0 [(.v 27), (.v 26)])))))))))))))
 (.ret [(.v 8), (.c (.int .i64 0))])))
def ir58 : IR :=
 (.call 64 1 false [] [(.v 0)]
 (.op (.un .not) [(.v 2)]
 (.ite (.v 3)
  (.ret [(.c (.sl [])), (.c (.int .i64 1))])
 (.op .lenL [(.v 1)]
 (.op (.bin .gtr false) [(.v 4), (.c (.int .i64 64))]
 (.ite (.v 5)
  (.ret [(.c (.sl [])), (.c (.int .i64 2))])
 (.op .lenL [(.v 1)]
 (.loop 2 [(.c (.int .i64 0)), (.c (.sl []))] ir58p0))))))))
theorem rd58 : readFn T SG sigs 3000 sg58 Tryz.f97 an58 = some ir58 := by kernel_rfl
def an59 : Ann := (.s none .z (.s none .z (.s none (.s none .z (.b (.l ⟨2, [(2, .junk), (3, .junk), (13, .junk), (14, .junk), (15, .junk), (16, .junk), (18, (.atm (.v 0)))], [(0, ⟨false, true, 3, 1, (.v 1), []⟩)], 1, []⟩ .z))) (.s none (.s none .z (.b (.l ⟨2, [(6, (.atm (.v 0))), (17, .junk), (18, .junk), (19, .junk)], [(0, ⟨false, true, 3, 1, (.v 1), []⟩)], 1, []⟩ (.s none .z (.s none (.b (.s none .z (.s none (.s none .z (.b (.l ⟨2, [(7, (.atm (.v 0))), (25, .junk), (26, .junk), (31, (.atm (.v 1)))], [], 1, []⟩ (.s none .z (.s none .z (.s (some ⟨3, [(7, (.atm (.v 0))), (32, .junk)], [(1, ⟨false, false, 127, 2, (.c (.sl [])), [[(.atm (.v 1)), (.atm (.v 2))]]⟩)], 2, []⟩) .z .z)))))) (.s none .z (.s none (.s none .z (.b (.l ⟨3, [(10, (.atm (.v 0))), (29, .junk), (30, .junk), (31, .junk), (32, .junk), (48, (.atm (.v 1)))], [(0, ⟨false, true, 3, 1, (.v 2), []⟩)], 1, []⟩ (.s none .z (.s none .z (.s (some ⟨4, [(10, (.atm (.v 0))), (49, .junk)], [(0, ⟨false, true, 3, 1, (.v 1), []⟩), (1, ⟨false, false, 127, 2, (.c (.sl [])), [[(.atm (.v 2)), (.atm (.v 3))]]⟩)], 2, []⟩) (.b (.s none .z (.s (some ⟨1, [(12, .junk), (49, .junk), (50, .junk), (51, .junk), (52, .junk), (64, (.atm (.v 0)))], [], 2, []⟩) .z .z))) .z)))))) .z))))) .z))))) .z))))
def ir59p0 : IR :=
 (.op (.bin .add false) [(.v 12), (.c (.int .i64 1))]
 (.jump 2 [(.v 14), (.v 17)]))
def ir59p1 : IR :=
 (.op (.bin .add false) [(.v 16), (.c (.int .i64 1))]
 (.jump 3 [(.v 19), (.v 23), (.v 20)]))
def ir59p2 : IR :=
 (.ite (.v 21)
  (.op .chk [(.v 17), (.v 16)]
  (.op (.set 0 1) [(.v 17), (.v 16), (.v 7)]
  (.jump 4 [(.c (.bool true)), (.v 22), (.v 19), (.v 20)])))
 (.jump 4 [(.v 15), (.v 17), (.v 19), (.v 20)]))
def ir59p3 : IR :=
 (.op (.bin .lss false) [(.v 16), (.v 14)]
 (.ite (.v 18)
  (.letj 4
   (.op (.row 2) [(.v 0), (.v 16)]
   (.letj 1
    (.op .chk [(.v 17), (.v 16)]
    (.op (.get 0 1) [(.v 17), (.v 16)]
    (.op (.bin .lss false) [(.v 21), (.c (.int .i64 0))]
    (.ite (.v 22)
     (.op (.bin .andNot false) [(.v 19), (.v 11)]
     (.op (.bin .neq false) [(.v 23), (.c (.int .u64 0))]
     (.jump 5 [(.v 24)])))
    (.jump 5 [(.c (.bool false))])))))
   ir59p2))
  ir59p1)
 (.op (.un .not) [(.v 15)]
 (.ite (.v 19)
  (.ret [(.c (.sl [])), (.c (.int .i64 9))])
 (.op (.bin .add false) [(.v 7), (.c (.int .i64 1))]
 (.jump 1 [(.v 20), (.v 17)]))))))
def ir59p4 : IR :=
 (.op (.bin .lss false) [(.v 12), (.v 10)]
 (.ite (.v 13)
  (.letj 3
   (.op (.row 2) [(.v 0), (.v 12)]
   (.op .chk [(.v 8), (.v 12)]
   (.op (.get 0 1) [(.v 8), (.v 12)]
   (.op (.bin .lss false) [(.v 16), (.c (.int .i64 0))]
   (.ite (.v 17)
    (.op (.bin .or false) [(.v 11), (.v 15)]
    (.jump 3 [(.v 18), (.v 14), (.v 15)]))
   (.jump 3 [(.v 11), (.v 14), (.v 15)]))))))
  ir59p0)
 (.op .lenL [(.v 0)]
 (.loop 3 [(.c (.bool false)), (.c (.int .i64 0)), (.v 8)] ir59p3))))
def ir59p5 : IR :=
 (.call 94 1 true [] [(.v 8), (.c (.int .i64 (-1)))]
 (.ite (.v 9)
  (.op .lenL [(.v 0)]
  (.loop 2 [(.c (.int .u64 0)), (.c (.int .i64 0))] ir59p4))
 (.ret [(.v 8), (.c (.int .i64 0))])))
def ir59p6 : IR :=
 (.op (.bin .lss false) [(.v 4), (.v 3)]
 (.ite (.v 6)
  (.op .chk [(.v 5), (.v 4)]
  (.op (.set 0 1) [(.v 5), (.v 4), (.c (.int .i64 (-1)))]
  (.op (.bin .add false) [(.v 4), (.c (.int .i64 1))]
  (.jump 0 [(.v 8), (.v 7)]))))
 (.loop 2 [(.c (.int .i64 0)), (.v 5)] ir59p5)))
def ir59 : IR :=
 (.op .lenL [(.v 0)]
 (.op (.mkL 8 [(.int .i64 0)]) [(.v 1)]
 (.op .lenL [(.v 2)]
 (.loop 2 [(.c (.int .i64 0)), (.v 2)] ir59p6))))
theorem rd59 : readFn T SG sigs 3000 sg59 Tryz.f98 an59 = some ir59 := by kernel_rfl
def an60 : Ann := (.s none .z (.s none (.s (some ⟨1, [(5, .junk), (22, (.atm (.v 0)))], [], 1, []⟩) .z .z) (.s none .z (.s none .z (.s none (.s none .z (.b (.l ⟨2, [(0, .junk), (1, .junk), (22, .junk), (24, .junk), (25, .junk), (27, .junk), (28, .junk), (29, .junk), (30, .junk), (33, (.atm (.v 0)))], [(5, ⟨false, true, 3, 1, (.v 1), []⟩)], 6, [⟨some (4, 0, 1), 0, 3, 1⟩]⟩ .z))) .z)))))
def ir60p0 : IR :=
 (.op (.bin .lss false) [(.v 10), (.v 9)]
 (.ite (.v 12)
  (.op (.row 1) [(.v 1), (.v 10)]
  (.call 99 2 false [] [(.v 6), (.v 13)]
  (.op (.mk 1 1) [(.v 14)]
  (.op (.app 1 8) [(.v 11), (.v 16)]
  (.op (.bin .add false) [(.v 10), (.c (.int .i64 1))]
  (.jump 0 [(.v 18), (.v 17)]))))))
 (.ret [(.v 8), (.v 11), (.c (.int .i64 0))])))
def ir60p1 : IR :=
 (.ite (.v 2)
  (.ret [(.c (.sl [])), (.c (.sl [])), (.c (.int .i64 1))])
 (.call 95 1 false [] [(.v 1)]
 (.call 96 2 false [0] [(.v 3)]
 (.call 97 2 false [1] [(.v 4)]
 (.call 98 1 false [0] [(.v 0)]
 (.op .lenL [(.v 1)]
 (.loop 2 [(.c (.int .i64 0)), (.c (.sl []))] ir60p0)))))))
def ir60 : IR :=
 (.letj 1
  (.call 64 1 false [] [(.v 0)]
  (.op (.un .not) [(.v 2)]
  (.ite (.v 3)
   (.jump 0 [(.c (.bool true))])
  (.op .lenL [(.v 1)]
  (.op .lenL [(.v 0)]
  (.op (.bin .shl false) [(.c (.int .i64 1)), (.v 5)]
  (.op (.bin .neq false) [(.v 4), (.v 6)]
  (.jump 0 [(.v 7)]))))))))
 ir60p1)
theorem rd60 : readFn T SG sigs 3000 sg60 Tryz.f81 an60 = some ir60 := by kernel_rfl
def an61 : Ann := (.s none .z (.s none .z (.s none (.s none .z (.b (.l ⟨1, [(0, .junk), (4, .junk), (5, (.atm (.v 0))), (7, .junk), (8, .junk), (9, .junk)], [], 1, []⟩ .z))) .z)))
def ir61p0 : IR :=
 (.call 15 1 false [] [(.v 0), (.v 1)]
 (.op (.bin .leq false) [(.v 5), (.v 6)]
 (.ite (.v 7)
  (.call 72 1 false [] [(.v 0), (.v 1), (.v 5), (.v 5)]
  (.op (.bin .and false) [(.v 8), (.v 2)]
  (.op (.bin .neq false) [(.v 9), (.c (.int .u64 0))]
  (.ite (.v 10)
   (.ret [(.v 9)])
  (.op (.bin .add false) [(.v 5), (.c (.int .i64 1))]
  (.jump 0 [(.v 11)]))))))
 (.ret [(.c (.int .u64 0))]))))
def ir61 : IR :=
 (.call 54 1 false [] [(.v 0), (.v 1)]
 (.op (.bin .neq false) [(.v 3), (.c (.int .i64 0))]
 (.ite (.v 4)
  (.ret [(.c (.int .u64 0))])
 (.loop 1 [(.c (.int .i64 0))] ir61p0))))
theorem rd61 : readFn T SG sigs 3000 sg61 Tryz.f75 an61 = some ir61 := by kernel_rfl
def an62 : Ann := (.s none .z (.s none (.s none .z (.b (.l ⟨1, [(1, .junk), (4, .junk), (11, (.atm (.v 0)))], [], 0, []⟩ .z))) .z))
def ir62p0 : IR :=
 (.op (.bin .lss false) [(.v 3), (.v 2)]
 (.ite (.v 4)
  (.op (.row 3) [(.v 1), (.v 3)]
  (.call 44 2 false [] [(.v 0), (.v 5), (.v 6), (.v 7)]
  (.op (.bin .neq false) [(.v 9), (.c (.int .i64 0))]
  (.ite (.v 10)
   (.ret [(.v 9)])
  (.op (.bin .add false) [(.v 3), (.c (.int .i64 1))]
  (.jump 0 [(.v 11)]))))))
 (.ret [(.c (.int .i64 0))])))
def ir62 : IR :=
 (.op .lenL [(.v 1)]
 (.loop 1 [(.c (.int .i64 0))] ir62p0))
theorem rd62 : readFn T SG sigs 3000 sg62 Tryz.f95 an62 = some ir62 := by kernel_rfl
def an63 : Ann := (.s none .z (.s none (.s none .z (.b (.l ⟨1, [(0, .junk), (2, .junk), (4, .junk), (7, .junk), (10, (.atm (.v 0)))], [], 1, []⟩ .z))) .z))
def ir63p0 : IR :=
 (.op (.bin .lss false) [(.v 5), (.v 4)]
 (.ite (.v 6)
  (.op (.row 1) [(.v 3), (.v 5)]
  (.op (.bin .and false) [(.v 7), (.v 2)]
  (.op (.bin .neq false) [(.v 8), (.c (.int .u64 0))]
  (.ite (.v 9)
   (.op (.bin .and false) [(.v 7), (.v 2)]
   (.ret [(.v 10)]))
  (.op (.bin .add false) [(.v 5), (.c (.int .i64 1))]
  (.jump 0 [(.v 10)]))))))
 (.ret [(.c (.int .u64 0))])))
def ir63 : IR :=
 (.call 69 1 false [] [(.v 0), (.v 1)]
 (.op .lenL [(.v 3)]
 (.loop 1 [(.c (.int .i64 0))] ir63p0)))
theorem rd63 : readFn T SG sigs 3000 sg63 Tryz.f96 an63 = some ir63 := by kernel_rfl
def an64 : Ann := (.s none .z (.s none .z (.s none (.s none .z (.b (.l ⟨1, [(2, .junk), (5, .junk), (6, .junk), (7, .junk), (10, (.atm (.v 0)))], [], 0, []⟩ (.s none .z (.s none .z (.s none (.b (.s none .z (.s (some ⟨1, [(3, .junk), (4, .junk), (11, .junk), (12, .junk), (13, .junk), (14, .junk), (30, (.atm (.v 0)))], [], 0, []⟩) .z .z))) .z)))))) .z)))
def ir64p0 : IR :=
 (.ite (.v 7)
  (.ret [(.c (.bool false))])
 (.op (.bin .add false) [(.v 4), (.c (.int .i64 1))]
 (.jump 0 [(.v 8)])))
def ir64p1 : IR :=
 (.op (.bin .lss false) [(.v 4), (.v 3)]
 (.ite (.v 5)
  (.op (.row 1) [(.v 0), (.v 4)]
  (.letj 1
   (.call 100 1 false [] [(.v 6)]
   (.op (.un .not) [(.v 7)]
   (.ite (.v 8)
    (.jump 1 [(.c (.bool true))])
   (.op (.bin .gtr false) [(.v 4), (.c (.int .i64 0))]
   (.ite (.v 9)
    (.op (.bin .sub false) [(.v 4), (.c (.int .i64 1))]
    (.op (.row 1) [(.v 0), (.v 10)]
    (.op (.bin .geq false) [(.v 11), (.v 6)]
    (.jump 1 [(.v 12)]))))
   (.jump 1 [(.c (.bool false))]))))))
  ir64p0))
 (.ret [(.c (.bool true))])))
def ir64 : IR :=
 (.op .lenL [(.v 0)]
 (.op (.bin .gtr false) [(.v 1), (.c (.int .i64 6))]
 (.ite (.v 2)
  (.ret [(.c (.bool false))])
 (.op .lenL [(.v 0)]
 (.loop 1 [(.c (.int .i64 0))] ir64p1)))))
theorem rd64 : readFn T SG sigs 3000 sg64 Tryz.f105 an64 = some ir64 := by kernel_rfl
def an65 : Ann := .z
def ir65 : IR :=
 (.ret [(.v 0)])
theorem rd65 : readFn T SG sigs 3000 sg65 Tryz.f106 an65 = some ir65 := by kernel_rfl
def an66 : Ann := (.s none .z (.s none .z (.s none .z (.s none .z (.s none (.s none .z (.b (.l ⟨2, [(4, .junk), (5, .junk), (7, (.atm (.v 0))), (10, .junk), (11, .junk), (12, .junk), (13, .junk), (14, .junk), (15, .junk)], [(0, ⟨false, true, 30, 1, (.v 1), []⟩)], 1, [⟨none, 6, 30, 1⟩]⟩ .z))) .z)))))
def ir66p0 : IR :=
 (.op .lenL [(.v 1)]
 (.op (.bin .lss false) [(.v 6), (.v 8)]
 (.ite (.v 9)
  (.op (.row 3) [(.v 1), (.v 6)]
  (.call 12 2 false [] [(.v 0), (.v 10), (.v 11), (.v 12)]
  (.op (.bin .neq false) [(.v 14), (.c (.int .i64 0))]
  (.ite (.v 15)
   (.ret [(.c (.sl [])), (.v 14)])
  (.op (.mk 1 1) [(.v 13)]
  (.op (.app 1 8) [(.v 7), (.v 16)]
  (.op (.bin .add false) [(.v 6), (.c (.int .i64 1))]
  (.jump 0 [(.v 18), (.v 17)]))))))))
 (.ret [(.v 7), (.c (.int .i64 0))]))))
def ir66 : IR :=
 (.call 47 1 false [] [(.v 0)]
 (.op (.un .not) [(.v 2)]
 (.ite (.v 3)
  (.ret [(.c (.sl [])), (.c (.int .i64 1))])
 (.op .lenL [(.v 1)]
 (.op (.bin .gtr false) [(.v 4), (.c (.int .i64 64))]
 (.ite (.v 5)
  (.ret [(.c (.sl [])), (.c (.int .i64 2))])
 (.loop 2 [(.c (.int .i64 0)), (.c (.sl []))] ir66p0)))))))
theorem rd66 : readFn T SG sigs 3000 sg66 Tryz.f107 an66 = some ir66 := by kernel_rfl
def an67 : Ann := .z
def ir67 : IR :=
 (.op (.conv .u64) [(.v 1)]
 (.op (.bin .shr false) [(.v 0), (.v 2)]
 (.op (.bin .and false) [(.v 3), (.c (.int .u64 1))]
 (.op (.bin .eql false) [(.v 4), (.c (.int .u64 1))]
 (.ret [(.v 5)])))))
theorem rd67 : readFn T SG sigs 3000 sg67 Tryz.f108 an67 = some ir67 := by kernel_rfl
def an68 : Ann := (.s none .z (.s none .z (.s none (.s none .z (.b (.l ⟨1, [(4, .junk), (5, (.atm (.v 0))), (6, .junk), (7, .junk), (8, .junk), (9, .junk), (10, .junk)], [], 0, []⟩ .z))) .z)))
def ir68p0 : IR :=
 (.op .lenL [(.v 0)]
 (.op (.bin .lss false) [(.v 5), (.v 6)]
 (.ite (.v 7)
  (.op (.row 1) [(.v 0), (.v 5)]
  (.op (.row 1) [(.v 1), (.v 5)]
  (.op (.bin .neq false) [(.v 8), (.v 9)]
  (.ite (.v 10)
   (.ret [(.c (.bool false))])
  (.op (.bin .add false) [(.v 5), (.c (.int .i64 1))]
  (.jump 0 [(.v 11)]))))))
 (.ret [(.c (.bool true))]))))
def ir68 : IR :=
 (.op .lenL [(.v 0)]
 (.op .lenL [(.v 1)]
 (.op (.bin .neq false) [(.v 2), (.v 3)]
 (.ite (.v 4)
  (.ret [(.c (.bool false))])
 (.loop 1 [(.c (.int .i64 0))] ir68p0)))))
theorem rd68 : readFn T SG sigs 3000 sg68 Tryz.f76 an68 = some ir68 := by kernel_rfl
def an69 : Ann := (.s none .z (.s none .z (.s none .z (.s none (.s none .z (.b (.l ⟨2, [(0, .junk), (1, .junk), (2, .junk), (6, .junk), (7, .junk), (8, .junk), (9, .junk), (10, .junk), (11, .junk), (12, .junk), (13, .junk), (14, .junk), (17, (.atm (.v 0)))], [(1, ⟨false, true, 30, 1, (.v 1), []⟩)], 2, []⟩ .z))) .z))))
def ir69p0 : IR :=
 (.op (.bin .lss false) [(.v 8), (.v 7)]
 (.ite (.v 10)
  (.op (.row 1) [(.v 1), (.v 8)]
  (.op .chk [(.v 9), (.v 11)]
  (.op (.get 0 1) [(.v 9), (.v 11)]
  (.op (.conv .u64) [(.v 8)]
  (.op (.bin .shl false) [(.c (.int .u64 1)), (.v 13)]
  (.op (.bin .or false) [(.v 12), (.v 14)]
  (.op .chk [(.v 9), (.v 11)]
  (.op (.set 0 1) [(.v 9), (.v 11), (.v 15)]
  (.op (.bin .add false) [(.v 8), (.c (.int .i64 1))]
  (.jump 0 [(.v 17), (.v 16)]))))))))))
 (.ret [(.v 9)])))
def ir69 : IR :=
 (.call 43 1 false [] [(.v 0), (.v 1)]
 (.op (.bin .neq false) [(.v 2), (.c (.int .i64 0))]
 (.ite (.v 3)
  (.ret [(.c (.sl []))])
 (.call 45 1 false [] [(.v 1)]
 (.op (.bin .add false) [(.v 4), (.c (.int .i64 1))]
 (.op (.mkL 8 [(.int .u64 0)]) [(.v 5)]
 (.op .lenL [(.v 1)]
 (.loop 2 [(.c (.int .i64 0)), (.v 6)] ir69p0))))))))
theorem rd69 : readFn T SG sigs 3000 sg69 Tryz.f109 an69 = some ir69 := by kernel_rfl
def an70 : Ann := .z
def ir70 : IR :=
 (.call 64 1 false [] [(.v 0)]
 (.op (.un .not) [(.v 2)]
 (.ite (.v 3)
  (.ret [(.c (.int .i64 0)), (.c (.str [])), (.c (.sl [])), (.c (.int .i64 1))])
 (.call 77 1 false [] [(.v 0)]
 (.op (.bin .and false) [(.v 1), (.v 4)]
 (.call 101 3 false [] [(.v 0), (.v 5)]
 (.ret [(.v 6), (.v 7), (.v 8), (.c (.int .i64 0))])))))))
theorem rd70 : readFn T SG sigs 3000 sg70 Tryz.f110 an70 = some ir70 := by kernel_rfl
def an72 : Ann := (.s none .z (.s none .z (.s none (.s none .z (.b (.l ⟨2, [(0, .junk), (6, .junk), (7, (.atm (.v 0))), (8, (.atm (.v 1)))], [], 1, []⟩ (.s none .z (.s (some ⟨1, [(7, (.atm (.v 0))), (9, .junk), (10, .junk), (11, .junk), (12, .junk), (13, .junk)], [], 1, []⟩) (.b (.s (some ⟨1, [(9, .junk), (10, .junk), (11, .junk), (12, .junk), (13, .junk), (31, (.atm (.v 0)))], [], 1, []⟩) .z .z)) .z))))) .z)))
def ir72p0 : IR :=
 (.op (.bin .add false) [(.v 5), (.c (.int .i64 1))]
 (.jump 0 [(.v 8), (.v 9)]))
def ir72p1 : IR :=
 (.ite (.v 8)
  (.op (.conv .u64) [(.v 5)]
  (.op (.bin .shl false) [(.c (.int .u64 1)), (.v 9)]
  (.op (.bin .or false) [(.v 4), (.v 10)]
  (.jump 1 [(.v 11)]))))
 (.jump 1 [(.v 4)]))
def ir72p2 : IR :=
 (.op .lenL [(.v 1)]
 (.op (.bin .lss false) [(.v 5), (.v 6)]
 (.ite (.v 7)
  (.letj 1
   (.letj 1
    (.op (.row 1) [(.v 1), (.v 5)]
    (.op (.bin .geq false) [(.v 8), (.v 2)]
    (.ite (.v 9)
     (.op (.row 1) [(.v 1), (.v 5)]
     (.op (.bin .leq false) [(.v 10), (.v 3)]
     (.jump 2 [(.v 11)])))
    (.jump 2 [(.c (.bool false))]))))
   ir72p1)
  ir72p0)
 (.ret [(.v 4)]))))
def ir72 : IR :=
 (.loop 2 [(.c (.int .u64 0)), (.c (.int .i64 0))] ir72p2)
theorem rd72 : readFn T SG sigs 3000 sg72 Tryz.f112 an72 = some ir72 := by kernel_rfl
def an73 : Ann := (.s none .z (.s none .z (.s none (.s none .z (.b (.l ⟨2, [(0, .junk), (4, .junk), (5, (.atm (.v 0))), (7, .junk), (8, .junk), (10, (.atm (.v 1)))], [], 1, []⟩ .z))) .z)))
def ir73p0 : IR :=
 (.op (.bin .lss false) [(.v 6), (.v 4)]
 (.ite (.v 7)
  (.op (.bin .gtr false) [(.v 5), (.v 3)]
  (.ite (.v 8)
   (.ret [(.v 5)])
  (.op (.row 3) [(.v 2), (.v 6)]
  (.op (.bin .sub false) [(.v 3), (.v 5)]
  (.call 73 1 false [] [(.v 9), (.v 10), (.v 11), (.v 12)]
  (.op (.bin .add false) [(.v 5), (.v 13)]
  (.op (.bin .add false) [(.v 6), (.c (.int .i64 1))]
  (.jump 0 [(.v 14), (.v 15)]))))))))
 (.ret [(.v 5)])))
def ir73 : IR :=
 (.op .lenL [(.v 2)]
 (.loop 2 [(.c (.int .i64 1)), (.c (.int .i64 0))] ir73p0))
theorem rd73 : readFn T SG sigs 3000 sg73 Tryz.f88 an73 = some ir73 := by kernel_rfl
def an74 : Ann := (.s none .z (.s none .z (.s none .z (.s none (.s none .z (.b (.l ⟨2, [(0, .junk), (4, .junk), (5, (.atm (.v 0))), (7, .junk), (8, .junk), (9, .junk), (10, .junk), (12, (.atm (.v 1)))], [], 1, []⟩ .z))) .z))))
def ir74p0 : IR :=
 (.op (.bin .lss false) [(.v 7), (.v 5)]
 (.ite (.v 8)
  (.op (.row 3) [(.v 2), (.v 7)]
  (.op (.bin .sub false) [(.v 3), (.c (.int .i64 1))]
  (.call 74 1 false [] [(.v 9), (.v 10), (.v 11), (.v 12)]
  (.op (.bin .add false) [(.c (.int .i64 1)), (.v 13)]
  (.op .max [(.v 6), (.v 14)]
  (.op (.bin .add false) [(.v 7), (.c (.int .i64 1))]
  (.jump 0 [(.v 15), (.v 16)])))))))
 (.ret [(.v 6)])))
def ir74 : IR :=
 (.op (.bin .lss false) [(.v 3), (.c (.int .i64 0))]
 (.ite (.v 4)
  (.ret [(.c (.int .i64 0))])
 (.op .lenL [(.v 2)]
 (.loop 2 [(.c (.int .i64 0)), (.c (.int .i64 0))] ir74p0))))
theorem rd74 : readFn T SG sigs 3000 sg74 Tryz.f89 an74 = some ir74 := by kernel_rfl
def an75 : Ann := (.s none .z (.s none .z (.s none (.s none .z (.b (.l ⟨1, [(0, .junk), (2, .junk), (4, .junk), (5, .junk), (6, .junk), (7, .junk), (8, .junk), (9, .junk), (11, (.atm (.v 0)))], [], 1, []⟩ .z))) .z)))
def ir75p0 : IR :=
 (.op (.bin .lss false) [(.v 6), (.v 5)]
 (.ite (.v 7)
  (.op (.row 3) [(.v 2), (.v 6)]
  (.call 75 1 false [] [(.v 8), (.v 9), (.v 10)]
  (.op (.un .not) [(.v 11)]
  (.ite (.v 12)
   (.ret [(.c (.bool false))])
  (.op (.bin .add false) [(.v 6), (.c (.int .i64 1))]
  (.jump 0 [(.v 13)]))))))
 (.ret [(.c (.bool true))])))
def ir75 : IR :=
 (.op .lenS [(.v 1)]
 (.op (.bin .gtr false) [(.v 3), (.c (.int .i64 100))]
 (.ite (.v 4)
  (.ret [(.c (.bool false))])
 (.op .lenL [(.v 2)]
 (.loop 1 [(.c (.int .i64 0))] ir75p0)))))
theorem rd75 : readFn T SG sigs 3000 sg75 Tryz.f90 an75 = some ir75 := by kernel_rfl
def an76 : Ann := (.s none .z (.s none .z (.s none .z (.s none .z (.s none (.s none .z (.b (.l ⟨3, [(4, .junk), (5, .junk), (6, .junk), (9, (.atm (.v 0))), (13, .junk), (14, .junk), (15, .junk), (16, .junk), (17, .junk), (18, .junk)], [(0, ⟨false, true, 30, 1, (.v 1), []⟩), (1, ⟨false, true, 30, 1, (.v 2), []⟩)], 2, [⟨none, 7, 30, 1⟩, ⟨none, 8, 30, 1⟩]⟩ .z))) .z)))))
def ir76p0 : IR :=
 (.op .lenL [(.v 1)]
 (.op (.bin .lss false) [(.v 6), (.v 9)]
 (.ite (.v 10)
  (.op (.row 6) [(.v 1), (.v 6)]
  (.call 12 2 false [] [(.v 0), (.v 11), (.v 12), (.v 13)]
  (.op (.bin .neq false) [(.v 18), (.c (.int .i64 0))]
  (.ite (.v 19)
   (.ret [(.c (.sl [])), (.c (.sl [])), (.v 18)])
  (.op (.row 6) [(.v 1), (.v 6)]
  (.call 12 2 false [] [(.v 0), (.v 23), (.v 24), (.v 25)]
  (.op (.bin .neq false) [(.v 27), (.c (.int .i64 0))]
  (.ite (.v 28)
   (.ret [(.c (.sl [])), (.c (.sl [])), (.v 27)])
  (.op (.bin .and false) [(.v 17), (.v 26)]
  (.op (.mk 1 1) [(.v 29)]
  (.op (.app 1 8) [(.v 7), (.v 30)]
  (.op (.bin .andNot false) [(.v 17), (.v 26)]
  (.op (.mk 1 1) [(.v 32)]
  (.op (.app 1 8) [(.v 8), (.v 33)]
  (.op (.bin .add false) [(.v 6), (.c (.int .i64 1))]
  (.jump 0 [(.v 35), (.v 31), (.v 34)]))))))))))))))))
 (.ret [(.v 7), (.v 8), (.c (.int .i64 0))]))))
def ir76 : IR :=
 (.call 47 1 false [] [(.v 0)]
 (.op (.un .not) [(.v 2)]
 (.ite (.v 3)
  (.ret [(.c (.sl [])), (.c (.sl [])), (.c (.int .i64 1))])
 (.op .lenL [(.v 1)]
 (.op (.bin .gtr false) [(.v 4), (.c (.int .i64 64))]
 (.ite (.v 5)
  (.ret [(.c (.sl [])), (.c (.sl [])), (.c (.int .i64 2))])
 (.loop 3 [(.c (.int .i64 0)), (.c (.sl [])), (.c (.sl []))] ir76p0)))))))
theorem rd76 : readFn T SG sigs 3000 sg76 Tryz.f113 an76 = some ir76 := by kernel_rfl
def an77 : Ann := .z
def ir77 : IR :=
 (.call 64 1 false [] [(.v 0)]
 (.op (.un .not) [(.v 1)]
 (.ite (.v 2)
  (.ret [(.c (.int .u64 0))])
 (.op .lenL [(.v 0)]
 (.call 102 1 false [] [(.v 3)]
 (.ret [(.v 4)]))))))
theorem rd77 : readFn T SG sigs 3000 sg77 Tryz.f87 an77 = some ir77 := by kernel_rfl
def an78 : Ann := (.s none .z (.s none .z (.s none .z (.s none .z (.s none .z (.s none .z (.s none (.b (.s none .z (.c .z (.s (some ⟨1, [(0, .junk), (1, .junk), (9, .junk), (10, .junk), (11, .junk), (12, .junk), (13, .junk), (15, .junk), (16, .junk), (17, .junk), (18, .junk), (19, .junk), (20, .junk), (21, .junk), (23, .junk), (24, .junk), (25, .junk), (26, .junk), (27, .junk), (28, .junk), (29, .junk), (30, .junk), (31, .junk), (32, .junk), (33, .junk), (34, .junk), (35, .junk), (36, .junk), (37, .junk), (38, .junk), (39, .junk), (40, .junk), (41, .junk), (42, .junk), (43, .junk), (44, .junk), (45, .junk), (47, (.atm (.v 0)))], [], 18, []⟩) .z (.c .z (.s none .z (.c .z (.s (some ⟨1, [(47, .junk), (57, .junk), (58, .junk), (59, .junk), (60, .junk), (64, (.atm (.v 0)))], [], 18, []⟩) .z .z)))))))) .z)))))))
def ir78p0 : IR :=
 (.ite (.v 26)
  (.ret [(.c (.int .i64 4)), (.c (.str [])), (.v 10)])
 (.op (.bin .eql false) [(.v 14), (.c (.int .i64 2))]
 (.ite (.v 27)
  (.call 105 3 false [] [(.c (.int .i64 5)), (.c (.int .i64 4)), (.c (.str [])), (.v 10), (.v 20), (.v 21), (.v 22)]
  (.ret [(.v 28), (.v 29), (.v 30)]))
 (.op (.bin .eql false) [(.v 20), (.c (.int .i64 1))]
 (.ite (.v 28)
  (.call 105 3 false [] [(.c (.int .i64 6)), (.c (.int .i64 4)), (.c (.str [])), (.v 10), (.v 14), (.v 15), (.v 16)]
  (.ret [(.v 29), (.v 30), (.v 31)]))
 (.op (.bin .eql false) [(.v 20), (.c (.int .i64 2))]
 (.ite (.v 29)
  (.call 105 3 false [] [(.c (.int .i64 5)), (.c (.int .i64 3)), (.v 9), (.c (.sl [])), (.v 14), (.v 15), (.v 16)]
  (.ret [(.v 30), (.v 31), (.v 32)]))
 (.call 105 3 false [] [(.c (.int .i64 5)), (.c (.int .i64 3)), (.v 9), (.c (.sl [])), (.v 14), (.v 15), (.v 16)]
 (.call 105 3 false [] [(.c (.int .i64 5)), (.c (.int .i64 4)), (.c (.str [])), (.v 10), (.v 20), (.v 21), (.v 22)]
 (.call 105 3 false [] [(.c (.int .i64 6)), (.v 30), (.v 31), (.v 32), (.v 33), (.v 34), (.v 35)]
 (.ret [(.v 36), (.v 37), (.v 38)])))))))))))
def ir78p1 : IR :=
 (.ite (.v 24)
  (.ret [(.c (.int .i64 3)), (.v 9), (.c (.sl []))])
 (.op (.bin .eql false) [(.v 14), (.c (.int .i64 1))]
 (.ite (.v 25)
  (.call 105 3 false [] [(.c (.int .i64 6)), (.c (.int .i64 3)), (.v 9), (.c (.sl [])), (.v 20), (.v 21), (.v 22)]
  (.ret [(.v 26), (.v 27), (.v 28)]))
 (.letj 1
  (.op (.bin .eql false) [(.v 14), (.c (.int .i64 2))]
  (.ite (.v 26)
   (.op (.bin .eql false) [(.v 20), (.c (.int .i64 1))]
   (.jump 0 [(.v 27)]))
  (.jump 0 [(.c (.bool false))])))
 ir78p0))))
def ir78 : IR :=
 (.call 16 1 false [] [(.v 0)]
 (.op (.bin .and false) [(.v 1), (.v 2)]
 (.op (.bin .eql false) [(.v 3), (.c (.int .u64 0))]
 (.ite (.v 4)
  (.ret [(.c (.int .i64 2)), (.c (.str [])), (.c (.sl []))])
 (.call 16 1 false [] [(.v 0)]
 (.op (.bin .and false) [(.v 1), (.v 5)]
 (.call 16 1 false [] [(.v 0)]
 (.op (.bin .eql false) [(.v 6), (.v 7)]
 (.ite (.v 8)
  (.ret [(.c (.int .i64 1)), (.c (.str [])), (.c (.sl []))])
 (.op (.row 1) [(.v 0), (.c (.int .i64 0))]
 (.op (.mk 3 1) [(.c (.int .i64 3)), (.v 9), (.c (.sl []))]
 (.op .lenL [(.v 0)]
 (.op (.subL 1) [(.v 0), (.c (.int .i64 1)), (.v 11)]
 (.call 103 1 false [] [(.v 0), (.v 1), (.c (.int .i64 1))]
 (.call 78 3 false [] [(.v 12), (.v 13)]
 (.op .lenL [(.v 0)]
 (.op (.subL 1) [(.v 0), (.c (.int .i64 1)), (.v 17)]
 (.call 103 1 false [] [(.v 0), (.v 1), (.c (.int .i64 0))]
 (.call 78 3 false [] [(.v 18), (.v 19)]
 (.call 104 1 false [] [(.v 14), (.v 15), (.v 16), (.v 20), (.v 21), (.v 22)]
 (.ite (.v 23)
  (.ret [(.v 14), (.v 15), (.v 16)])
 (.letj 1
  (.op (.bin .eql false) [(.v 14), (.c (.int .i64 1))]
  (.ite (.v 24)
   (.op (.bin .eql false) [(.v 20), (.c (.int .i64 2))]
   (.jump 0 [(.v 25)]))
  (.jump 0 [(.c (.bool false))])))
 ir78p1))))))))))))))))))))))
theorem rd78 : readFn T SG sigs 3000 sg78 Tryz.f114 an78 = some ir78 := by kernel_rfl
def an79 : Ann := .z
def ir79 : IR :=
 (.op .lenL [(.v 0)]
 (.op (.bin .geq false) [(.v 1), (.v 2)]
 (.ite (.v 3)
  (.ret [(.c (.int .i64 0)), (.v 0), (.v 1)])
 (.op (.bin .add false) [(.v 1), (.c (.int .i64 1))]
 (.op (.bin .sub false) [(.v 4), (.c (.int .i64 1))]
 (.op (.row 1) [(.v 0), (.v 5)]
 (.ret [(.v 6), (.v 0), (.v 4)])))))))
theorem rd79 : readFn T SG sigs 3000 sg79 Tryz.f71 an79 = some ir79 := by kernel_rfl
def an80 : Ann := (.s none .z (.s none .z (.s none .z (.s (some ⟨1, [(0, (.atm (.v 0))), (1, .junk), (4, .junk), (5, .junk), (6, .junk), (7, .junk), (8, .junk), (9, .junk)], [], 0, []⟩) .z .z))))
def ir80p0 : IR :=
 (.ret [(.v 4)])
def ir80 : IR :=
 (.op (.bin .lss false) [(.v 1), (.c (.int .i64 1))]
 (.ite (.v 2)
  (.ret [(.c (.int .i64 0))])
 (.op (.bin .rem false) [(.v 0), (.v 1)]
 (.letj 1
  (.op (.bin .lss false) [(.v 3), (.c (.int .i64 0))]
  (.ite (.v 4)
   (.op (.bin .add false) [(.v 3), (.v 1)]
   (.jump 0 [(.v 5)]))
  (.jump 0 [(.v 3)])))
 ir80p0))))
theorem rd80 : readFn T SG sigs 3000 sg80 Tryz.f115 an80 = some ir80 := by kernel_rfl
def an81 : Ann := (.s none .z (.s none (.s none .z (.b (.l ⟨1, [(4, .junk), (6, .junk), (8, (.atm (.v 0)))], [], 0, []⟩ .z))) .z))
def ir81p0 : IR :=
 (.op (.bin .lss false) [(.v 3), (.v 2)]
 (.ite (.v 4)
  (.op (.row 1) [(.v 0), (.v 3)]
  (.op (.bin .eql false) [(.v 5), (.v 1)]
  (.ite (.v 6)
   (.ret [(.c (.bool true))])
  (.op (.bin .add false) [(.v 3), (.c (.int .i64 1))]
  (.jump 0 [(.v 7)])))))
 (.ret [(.c (.bool false))])))
def ir81 : IR :=
 (.op .lenL [(.v 0)]
 (.loop 1 [(.c (.int .i64 0))] ir81p0))
theorem rd81 : readFn T SG sigs 3000 sg81 Tryz.f116 an81 = some ir81 := by kernel_rfl
def an82 : Ann := .z
def ir82 : IR :=
 (.call 106 1 false [] [(.v 0), (.v 1)]
 (.op (.bin .geq false) [(.v 2), (.c (.int .i64 0))]
 (.ret [(.v 3)])))
theorem rd82 : readFn T SG sigs 3000 sg82 Tryz.f136 an82 = some ir82 := by kernel_rfl
def an83 : Ann := (.s none .z (.s none (.b (.s (some ⟨1, [(0, .junk), (2, .junk), (3, (.atm (.v 0)))], [], 1, []⟩) .z .z)) .z))
def ir83p0 : IR :=
 (.ite (.v 3)
  (.ret [(.c (.int .i64 2))])
 (.call 109 1 false [] [(.v 0), (.v 1), (.v 2)]
 (.op (.un .not) [(.v 4)]
 (.ite (.v 5)
  (.ret [(.c (.int .i64 4))])
 (.call 110 1 false [] [(.v 0), (.v 1), (.v 2)]
 (.op (.un .not) [(.v 6)]
 (.ite (.v 7)
  (.ret [(.c (.int .i64 3))])
 (.ret [(.c (.int .i64 0))]))))))))
def ir83 : IR :=
 (.letj 1
  (.call 107 1 false [] [(.v 0), (.v 1), (.v 2)]
  (.op (.bin .gtr false) [(.v 3), (.c (.int .i64 600))]
  (.ite (.v 4)
   (.jump 0 [(.c (.bool true))])
  (.call 108 1 false [] [(.v 0), (.v 1), (.v 2)]
  (.op (.bin .gtr false) [(.v 5), (.c (.int .i64 20))]
  (.jump 0 [(.v 6)]))))))
 ir83p0)
theorem rd83 : readFn T SG sigs 3000 sg83 Tryz.f119 an83 = some ir83 := by kernel_rfl
def an85 : Ann := .z
def ir85 : IR :=
 (.call 111 1 false [] [(.v 0), (.v 1)]
 (.op (.bin .geq false) [(.v 2), (.c (.int .i64 0))]
 (.ret [(.v 3)])))
theorem rd85 : readFn T SG sigs 3000 sg85 Tryz.f121 an85 = some ir85 := by kernel_rfl
def an86 : Ann := (.s none .z (.s none (.s none .z (.b (.s none .z (.c .z (.s none .z (.c .z (.s none .z (.c .z (.s none .z (.c .z (.s none .z (.c .z (.s none .z (.c (.s none .z (.s none (.s none .z (.b (.l ⟨2, [(1, .junk), (3, .junk), (4, .junk), (5, (.atm (.v 0))), (11, .junk), (12, .junk), (13, .junk), (14, .junk), (15, .junk), (16, .junk), (22, .junk), (23, .junk), (31, .junk), (32, .junk), (47, .junk), (48, .junk), (63, .junk), (64, .junk), (65, .junk), (68, (.atm (.v 1)))], [], 1, []⟩ .z))) .z)) .z)))))))))))))) (.s none .z (.s none (.s none .z (.b (.l ⟨2, [(1, .junk), (3, .junk), (4, .junk), (8, (.atm (.v 0))), (11, .junk), (12, .junk), (13, .junk), (14, .junk), (15, .junk), (16, .junk), (22, .junk), (23, .junk), (31, .junk), (32, .junk), (47, .junk), (48, .junk), (63, .junk), (64, .junk), (79, .junk), (82, (.atm (.v 1)))], [], 1, []⟩ .z))) .z))))
def ir86p0 : IR :=
 (.op (.bin .lss false) [(.v 12), (.v 10)]
 (.ite (.v 13)
  (.op (.row 3) [(.v 3), (.v 12)]
  (.call 86 1 false [] [(.v 0), (.v 14), (.v 15), (.v 16)]
  (.op (.bin .and false) [(.v 11), (.v 17)]
  (.op (.bin .add false) [(.v 12), (.c (.int .i64 1))]
  (.jump 0 [(.v 18), (.v 19)])))))
 (.ret [(.v 11)])))
def ir86p1 : IR :=
 (.op (.bin .lss false) [(.v 12), (.v 10)]
 (.ite (.v 13)
  (.op (.row 3) [(.v 3), (.v 12)]
  (.call 86 1 false [] [(.v 0), (.v 14), (.v 15), (.v 16)]
  (.op (.bin .or false) [(.v 11), (.v 17)]
  (.op (.bin .add false) [(.v 12), (.c (.int .i64 1))]
  (.jump 0 [(.v 18), (.v 19)])))))
 (.ret [(.v 11)])))
def ir86 : IR :=
 (.op (.bin .eql false) [(.v 1), (.c (.int .i64 1))]
 (.ite (.v 4)
  (.ret [(.c (.int .u64 18446744073709551615))])
 (.op (.bin .eql false) [(.v 1), (.c (.int .i64 3))]
 (.ite (.v 5)
  (.call 111 1 false [] [(.v 0), (.v 2)]
  (.call 112 1 false [] [(.v 6)]
  (.ret [(.v 7)])))
 (.op (.bin .eql false) [(.v 1), (.c (.int .i64 4))]
 (.ite (.v 6)
  (.op (.row 3) [(.v 3), (.c (.int .i64 0))]
  (.call 86 1 false [] [(.v 0), (.v 7), (.v 8), (.v 9)]
  (.op (.un .xor) [(.v 10)]
  (.ret [(.v 11)]))))
 (.op (.bin .eql false) [(.v 1), (.c (.int .i64 7))]
 (.ite (.v 7)
  (.op (.row 3) [(.v 3), (.c (.int .i64 0))]
  (.call 86 1 false [] [(.v 0), (.v 8), (.v 9), (.v 10)]
  (.op (.un .xor) [(.v 11)]
  (.op (.row 3) [(.v 3), (.c (.int .i64 1))]
  (.call 86 1 false [] [(.v 0), (.v 13), (.v 14), (.v 15)]
  (.op (.bin .or false) [(.v 12), (.v 16)]
  (.ret [(.v 17)])))))))
 (.op (.bin .eql false) [(.v 1), (.c (.int .i64 8))]
 (.ite (.v 8)
  (.op (.row 3) [(.v 3), (.c (.int .i64 0))]
  (.call 86 1 false [] [(.v 0), (.v 9), (.v 10), (.v 11)]
  (.op (.row 3) [(.v 3), (.c (.int .i64 1))]
  (.call 86 1 false [] [(.v 0), (.v 13), (.v 14), (.v 15)]
  (.op (.bin .xor false) [(.v 12), (.v 16)]
  (.op (.un .xor) [(.v 17)]
  (.ret [(.v 18)])))))))
 (.op (.bin .eql false) [(.v 1), (.c (.int .i64 5))]
 (.ite (.v 9)
  (.op .lenL [(.v 3)]
  (.loop 2 [(.c (.int .u64 18446744073709551615)), (.c (.int .i64 0))] ir86p0))
 (.op .lenL [(.v 3)]
 (.loop 2 [(.c (.int .u64 0)), (.c (.int .i64 0))] ir86p1))))))))))))))
theorem rd86 : readFn T SG sigs 3000 sg86 Tryz.f122 an86 = some ir86 := by kernel_rfl
def an87 : Ann := (.s none .z (.s none (.s (some ⟨1, [(2, .junk), (21, (.atm (.v 0)))], [], 0, []⟩) .z .z) (.s none (.s none .z (.b (.l ⟨1, [(3, (.atm (.v 0))), (21, .junk)], [], 0, []⟩ (.s none .z (.s none (.b (.s (some ⟨1, [(22, .junk), (23, .junk), (24, .junk), (25, .junk), (55, (.atm (.v 0)))], [], 0, []⟩) .z .z)) .z))))) .z)))
def ir87p0 : IR :=
 (.ite (.v 5)
  (.ret [(.c (.bool false))])
 (.op (.bin .add false) [(.v 2), (.c (.int .i64 1))]
 (.jump 0 [(.v 6)])))
def ir87p1 : IR :=
 (.op .lenS [(.v 0)]
 (.op (.bin .lss false) [(.v 2), (.v 3)]
 (.ite (.v 4)
  (.letj 1
   (.op .idxS [(.v 0), (.v 2)]
   (.op (.bin .lss false) [(.v 5), (.c (.int .u8 97))]
   (.ite (.v 6)
    (.op .idxS [(.v 0), (.v 2)]
    (.op (.bin .lss false) [(.v 7), (.c (.int .u8 48))]
    (.ite (.v 8)
     (.op .idxS [(.v 0), (.v 2)]
     (.op (.bin .neq false) [(.v 9), (.c (.int .u8 95))]
     (.jump 1 [(.v 10)])))
    (.op .idxS [(.v 0), (.v 2)]
    (.op (.bin .gtr false) [(.v 9), (.c (.int .u8 57))]
    (.ite (.v 10)
     (.op .idxS [(.v 0), (.v 2)]
     (.op (.bin .neq false) [(.v 11), (.c (.int .u8 95))]
     (.jump 1 [(.v 12)])))
    (.jump 1 [(.c (.bool false))])))))))
   (.op .idxS [(.v 0), (.v 2)]
   (.op (.bin .gtr false) [(.v 7), (.c (.int .u8 122))]
   (.ite (.v 8)
    (.op .idxS [(.v 0), (.v 2)]
    (.op (.bin .lss false) [(.v 9), (.c (.int .u8 48))]
    (.ite (.v 10)
     (.op .idxS [(.v 0), (.v 2)]
     (.op (.bin .neq false) [(.v 11), (.c (.int .u8 95))]
     (.jump 1 [(.v 12)])))
    (.op .idxS [(.v 0), (.v 2)]
    (.op (.bin .gtr false) [(.v 11), (.c (.int .u8 57))]
    (.ite (.v 12)
     (.op .idxS [(.v 0), (.v 2)]
     (.op (.bin .neq false) [(.v 13), (.c (.int .u8 95))]
     (.jump 1 [(.v 14)])))
    (.jump 1 [(.c (.bool false))])))))))
   (.jump 1 [(.c (.bool false))])))))))
  ir87p0)
 (.ret [(.c (.bool true))]))))
def ir87p2 : IR :=
 (.ite (.v 1)
  (.ret [(.c (.bool false))])
 (.loop 1 [(.c (.int .i64 0))] ir87p1))
def ir87 : IR :=
 (.letj 1
  (.op .lenS [(.v 0)]
  (.op (.bin .lss false) [(.v 1), (.c (.int .i64 1))]
  (.ite (.v 2)
   (.jump 0 [(.c (.bool true))])
  (.op .lenS [(.v 0)]
  (.op (.bin .gtr false) [(.v 3), (.c (.int .i64 12))]
  (.ite (.v 4)
   (.jump 0 [(.c (.bool true))])
  (.op .idxS [(.v 0), (.c (.int .i64 0))]
  (.op (.bin .lss false) [(.v 5), (.c (.int .u8 97))]
  (.ite (.v 6)
   (.jump 0 [(.c (.bool true))])
  (.op .idxS [(.v 0), (.c (.int .i64 0))]
  (.op (.bin .gtr false) [(.v 7), (.c (.int .u8 122))]
  (.jump 0 [(.v 8)]))))))))))))
 ir87p2)
theorem rd87 : readFn T SG sigs 3000 sg87 Tryz.f117 an87 = some ir87 := by kernel_rfl
def an88 : Ann := (.s none .z (.s none .z (.s none (.s none .z (.b (.l ⟨2, [(0, .junk), (2, .junk), (3, (.atm (.v 0))), (4, (.atm (.v 1)))], [], 1, []⟩ .z))) .z)))
def ir88p0 : IR :=
 (.op .lenL [(.v 2)]
 (.op (.bin .lss false) [(.v 4), (.v 5)]
 (.ite (.v 6)
  (.op (.row 3) [(.v 2), (.v 4)]
  (.call 88 1 false [] [(.v 7), (.v 8), (.v 9)]
  (.op (.bin .add false) [(.v 3), (.v 10)]
  (.op (.bin .add false) [(.v 4), (.c (.int .i64 1))]
  (.jump 0 [(.v 11), (.v 12)])))))
 (.ret [(.v 3)]))))
def ir88 : IR :=
 (.loop 2 [(.c (.int .i64 1)), (.c (.int .i64 0))] ir88p0)
theorem rd88 : readFn T SG sigs 3000 sg88 Tryz.f129 an88 = some ir88 := by kernel_rfl
def an89 : Ann := (.s none .z (.s none .z (.s none (.s none .z (.b (.l ⟨2, [(0, .junk), (2, .junk), (3, (.atm (.v 0))), (4, (.atm (.v 1)))], [], 1, []⟩ .z))) .z)))
def ir89p0 : IR :=
 (.op .lenL [(.v 2)]
 (.op (.bin .lss false) [(.v 4), (.v 5)]
 (.ite (.v 6)
  (.op (.row 3) [(.v 2), (.v 4)]
  (.call 89 1 false [] [(.v 7), (.v 8), (.v 9)]
  (.op (.bin .add false) [(.c (.int .i64 1)), (.v 10)]
  (.op .max [(.v 3), (.v 11)]
  (.op (.bin .add false) [(.v 4), (.c (.int .i64 1))]
  (.jump 0 [(.v 12), (.v 13)]))))))
 (.ret [(.v 3)]))))
def ir89 : IR :=
 (.loop 2 [(.c (.int .i64 0)), (.c (.int .i64 0))] ir89p0)
theorem rd89 : readFn T SG sigs 3000 sg89 Tryz.f130 an89 = some ir89 := by kernel_rfl
def an90 : Ann := (.s none .z (.s none .z (.s none .z (.s (some ⟨1, [(0, .junk), (2, .junk), (4, (.atm (.v 0))), (6, .junk), (7, .junk), (8, .junk)], [], 1, []⟩) (.s none .z (.b (.s (some ⟨1, [(0, .junk), (2, .junk), (6, .junk), (7, .junk), (8, .junk), (9, .junk), (11, (.atm (.v 0)))], [], 1, []⟩) .z (.c .z (.s none .z (.c .z (.s (some ⟨1, [(11, .junk), (17, .junk), (18, .junk), (21, (.atm (.v 0)))], [], 1, []⟩) .z (.c .z (.s (some ⟨1, [(10, .junk), (21, .junk), (30, (.atm (.v 0)))], [], 1, []⟩) .z .z))))))))) (.s none (.s none .z (.b (.l ⟨2, [(4, (.atm (.v 0))), (5, (.atm (.v 1)))], [], 1, []⟩ (.s none .z (.s (some ⟨1, [(4, (.atm (.v 0))), (35, .junk), (36, .junk), (37, .junk)], [], 1, []⟩) .z .z))))) .z)))))
def ir90p0 : IR :=
 (.op (.bin .add false) [(.v 6), (.c (.int .i64 1))]
 (.jump 0 [(.v 8), (.v 9)]))
def ir90p1 : IR :=
 (.op (.bin .lss false) [(.v 6), (.v 3)]
 (.ite (.v 7)
  (.letj 1
   (.ite (.v 5)
    (.op (.row 3) [(.v 2), (.v 6)]
    (.call 90 1 false [] [(.v 8), (.v 9), (.v 10)]
    (.jump 1 [(.v 11)])))
   (.jump 1 [(.c (.bool false))]))
  ir90p0)
 (.ret [(.v 5)])))
def ir90p2 : IR :=
 (.loop 2 [(.v 4), (.c (.int .i64 0))] ir90p1)
def ir90p3 : IR :=
 (.ite (.v 7)
  (.op (.bin .eql false) [(.v 3), (.c (.int .i64 2))]
  (.jump 0 [(.v 8)]))
 (.jump 0 [(.c (.bool false))]))
def ir90p4 : IR :=
 (.ite (.v 6)
  (.op (.bin .geq false) [(.v 3), (.c (.int .i64 2))]
  (.ite (.v 7)
   (.op (.bin .leq false) [(.v 3), (.c (.int .i64 6))]
   (.jump 0 [(.v 8)]))
  (.jump 0 [(.c (.bool false))])))
 (.letj 1
  (.op (.bin .eql false) [(.v 0), (.c (.int .i64 7))]
  (.ite (.v 7)
   (.jump 1 [(.c (.bool true))])
  (.op (.bin .eql false) [(.v 0), (.c (.int .i64 8))]
  (.jump 1 [(.v 8)]))))
 ir90p3))
def ir90p5 : IR :=
 (.ite (.v 4)
  (.op (.bin .eql false) [(.v 3), (.c (.int .i64 0))]
  (.jump 0 [(.v 5)]))
 (.op (.bin .eql false) [(.v 0), (.c (.int .i64 4))]
 (.ite (.v 5)
  (.op (.bin .eql false) [(.v 3), (.c (.int .i64 1))]
  (.jump 0 [(.v 6)]))
 (.letj 1
  (.op (.bin .eql false) [(.v 0), (.c (.int .i64 5))]
  (.ite (.v 6)
   (.jump 1 [(.c (.bool true))])
  (.op (.bin .eql false) [(.v 0), (.c (.int .i64 6))]
  (.jump 1 [(.v 7)]))))
 ir90p4))))
def ir90 : IR :=
 (.op .lenL [(.v 2)]
 (.letj 1
  (.letj 1
   (.op (.bin .eql false) [(.v 0), (.c (.int .i64 1))]
   (.ite (.v 4)
    (.jump 1 [(.c (.bool true))])
   (.op (.bin .eql false) [(.v 0), (.c (.int .i64 2))]
   (.ite (.v 5)
    (.jump 1 [(.c (.bool true))])
   (.op (.bin .eql false) [(.v 0), (.c (.int .i64 3))]
   (.jump 1 [(.v 6)]))))))
  ir90p5)
 ir90p2))
theorem rd90 : readFn T SG sigs 3000 sg90 Tryz.f131 an90 = some ir90 := by kernel_rfl
def an91 : Ann := (.s none .z (.s none .z (.s (some ⟨1, [(0, .junk), (2, .junk), (3, (.atm (.v 0))), (5, .junk), (6, .junk), (7, .junk)], [], 1, []⟩) .z (.s none (.s none .z (.b (.l ⟨2, [(3, (.atm (.v 0))), (4, (.atm (.v 1)))], [], 1, []⟩ (.s none .z (.s (some ⟨1, [(3, (.atm (.v 0))), (14, .junk), (15, .junk), (16, .junk), (17, .junk), (18, .junk)], [], 1, []⟩) .z .z))))) .z))))
def ir91p0 : IR :=
 (.op (.bin .add false) [(.v 6), (.c (.int .i64 1))]
 (.jump 0 [(.v 9), (.v 10)]))
def ir91p1 : IR :=
 (.op .lenL [(.v 2)]
 (.op (.bin .lss false) [(.v 6), (.v 7)]
 (.ite (.v 8)
  (.letj 1
   (.ite (.v 5)
    (.op (.row 3) [(.v 2), (.v 6)]
    (.call 91 1 false [] [(.v 9), (.v 10), (.v 11)]
    (.jump 1 [(.v 12)])))
   (.jump 1 [(.c (.bool false))]))
  ir91p0)
 (.ret [(.v 5)]))))
def ir91p2 : IR :=
 (.loop 2 [(.v 4), (.c (.int .i64 0))] ir91p1)
def ir91 : IR :=
 (.op (.bin .eql false) [(.v 1), (.c (.str []))]
 (.letj 1
  (.op (.bin .eql false) [(.v 0), (.c (.int .i64 3))]
  (.ite (.v 4)
   (.call 87 1 false [] [(.v 1)]
   (.jump 0 [(.v 5)]))
  (.jump 0 [(.v 3)])))
 ir91p2))
theorem rd91 : readFn T SG sigs 3000 sg91 Tryz.f132 an91 = some ir91 := by kernel_rfl
def an92 : Ann := (.s none .z (.s (some ⟨1, [(0, (.atm (.v 0))), (1, .junk), (4, .junk)], [], 1, []⟩) (.s (some ⟨1, [(1, .junk), (4, .junk), (14, (.atm (.v 0)))], [], 1, []⟩) .z .z) (.s none (.s none .z (.b (.l ⟨2, [(0, (.atm (.v 0))), (5, (.atm (.v 1)))], [], 1, []⟩ .z))) .z)))
def ir92p0 : IR :=
 (.op .lenL [(.v 3)]
 (.op (.bin .lss false) [(.v 6), (.v 7)]
 (.ite (.v 8)
  (.op (.row 3) [(.v 3), (.v 6)]
  (.call 92 1 false [] [(.v 5), (.v 9), (.v 10), (.v 11)]
  (.op (.bin .add false) [(.v 6), (.c (.int .i64 1))]
  (.jump 0 [(.v 12), (.v 13)]))))
 (.ret [(.v 5)]))))
def ir92p1 : IR :=
 (.loop 2 [(.v 4), (.c (.int .i64 0))] ir92p0)
def ir92p2 : IR :=
 (.ite (.v 4)
  (.call 113 1 false [] [(.v 0), (.v 2)]
  (.jump 0 [(.v 5)]))
 (.jump 0 [(.v 0)]))
def ir92 : IR :=
 (.letj 1
  (.letj 1
   (.op (.bin .eql false) [(.v 1), (.c (.int .i64 3))]
   (.ite (.v 4)
    (.op .lenL [(.v 3)]
    (.op (.bin .eql false) [(.v 5), (.c (.int .i64 0))]
    (.jump 1 [(.v 6)])))
   (.jump 1 [(.c (.bool false))])))
  ir92p2)
 ir92p1)
theorem rd92 : readFn T SG sigs 3000 sg92 Tryz.f133 an92 = some ir92 := by kernel_rfl
def an93 : Ann := (.s none .z (.s none (.s none .z (.b (.s none .z (.c .z (.s none .z (.c (.s none (.s none .z (.b (.l ⟨1, [(0, .junk), (4, .junk), (5, (.atm (.v 0))), (8, .junk), (9, .junk), (10, .junk), (11, .junk), (12, .junk), (13, .junk)], [], 1, []⟩ .z))) .z) (.s none .z (.c .z (.s none .z (.c (.s none (.s none .z (.b (.l ⟨1, [(0, .junk), (4, .junk), (6, (.atm (.v 0))), (8, .junk), (9, .junk), (10, .junk), (11, .junk), (12, .junk), (13, .junk), (27, .junk), (28, .junk), (36, .junk), (37, .junk)], [], 1, []⟩ .z))) .z) (.s none .z (.c (.s none (.s none .z (.b (.l ⟨1, [(0, .junk), (4, .junk), (7, (.atm (.v 0))), (8, .junk), (9, .junk), (10, .junk), (11, .junk), (12, .junk), (13, .junk), (27, .junk), (28, .junk), (36, .junk), (37, .junk), (53, .junk), (54, .junk)], [], 1, []⟩ .z))) .z) .z)))))))))))) .z))
def ir93p0 : IR :=
 (.op .lenL [(.v 3)]
 (.op (.bin .lss false) [(.v 6), (.v 7)]
 (.ite (.v 8)
  (.op (.row 1) [(.v 3), (.v 6)]
  (.op (.bin .eql false) [(.v 9), (.v 1)]
  (.ite (.v 10)
   (.ret [(.c (.bool true))])
  (.op (.bin .add false) [(.v 6), (.c (.int .i64 1))]
  (.jump 0 [(.v 11)])))))
 (.ret [(.c (.bool false))]))))
def ir93p1 : IR :=
 (.op .lenL [(.v 2)]
 (.op (.bin .lss false) [(.v 8), (.v 9)]
 (.ite (.v 10)
  (.op (.row 3) [(.v 2), (.v 8)]
  (.call 93 1 false [] [(.v 11), (.v 12), (.v 13), (.v 3)]
  (.op (.un .not) [(.v 14)]
  (.ite (.v 15)
   (.ret [(.c (.bool false))])
  (.op (.bin .add false) [(.v 8), (.c (.int .i64 1))]
  (.jump 0 [(.v 16)]))))))
 (.ret [(.c (.bool true))]))))
def ir93p2 : IR :=
 (.op .lenL [(.v 2)]
 (.op (.bin .lss false) [(.v 9), (.v 10)]
 (.ite (.v 11)
  (.op (.row 3) [(.v 2), (.v 9)]
  (.call 93 1 false [] [(.v 12), (.v 13), (.v 14), (.v 3)]
  (.ite (.v 15)
   (.ret [(.c (.bool true))])
  (.op (.bin .add false) [(.v 9), (.c (.int .i64 1))]
  (.jump 0 [(.v 16)])))))
 (.ret [(.c (.bool false))]))))
def ir93 : IR :=
 (.op (.bin .eql false) [(.v 0), (.c (.int .i64 1))]
 (.ite (.v 4)
  (.ret [(.c (.bool true))])
 (.op (.bin .eql false) [(.v 0), (.c (.int .i64 3))]
 (.ite (.v 5)
  (.loop 1 [(.c (.int .i64 0))] ir93p0)
 (.op (.bin .eql false) [(.v 0), (.c (.int .i64 4))]
 (.ite (.v 6)
  (.op (.row 3) [(.v 2), (.c (.int .i64 0))]
  (.call 93 1 false [] [(.v 7), (.v 8), (.v 9), (.v 3)]
  (.op (.un .not) [(.v 10)]
  (.ret [(.v 11)]))))
 (.op (.bin .eql false) [(.v 0), (.c (.int .i64 5))]
 (.ite (.v 7)
  (.loop 1 [(.c (.int .i64 0))] ir93p1)
 (.op (.bin .eql false) [(.v 0), (.c (.int .i64 6))]
 (.ite (.v 8)
  (.loop 1 [(.c (.int .i64 0))] ir93p2)
 (.op (.bin .eql false) [(.v 0), (.c (.int .i64 7))]
 (.ite (.v 9)
  (.op (.row 3) [(.v 2), (.c (.int .i64 0))]
  (.call 93 1 false [] [(.v 10), (.v 11), (.v 12), (.v 3)]
  (.op (.un .not) [(.v 13)]
  (.ite (.v 14)
   (.ret [(.c (.bool true))])
  (.op (.row 3) [(.v 2), (.c (.int .i64 1))]
  (.call 93 1 false [] [(.v 15), (.v 16), (.v 17), (.v 3)]
  (.ret [(.v 18)])))))))
 (.op (.bin .eql false) [(.v 0), (.c (.int .i64 8))]
 (.ite (.v 10)
  (.op (.row 3) [(.v 2), (.c (.int .i64 0))]
  (.call 93 1 false [] [(.v 11), (.v 12), (.v 13), (.v 3)]
  (.op (.row 3) [(.v 2), (.c (.int .i64 1))]
  (.call 93 1 false [] [(.v 15), (.v 16), (.v 17), (.v 3)]
  (.op (.bin .eql true) [(.v 14), (.v 18)]
  (.ret [(.v 19)]))))))
 (.ret [(.c (.bool false))])))))))))))))))
theorem rd93 : readFn T SG sigs 3000 sg93 Tryz.f134 an93 = some ir93 := by kernel_rfl
def an94 : Ann := .z
def ir94 : IR :=
 (.call 114 1 false [] [(.v 0), (.v 1)]
 (.op (.bin .geq false) [(.v 2), (.c (.int .i64 0))]
 (.ret [(.v 3)])))
theorem rd94 : readFn T SG sigs 3000 sg94 Tryz.f137 an94 = some ir94 := by kernel_rfl
def an96 : Ann := .z
def ir96 : IR :=
 (.call 115 2 false [0] [(.v 0)]
 (.call 116 1 false [0] [(.v 1)]
 (.ret [(.v 3), (.v 2)])))
theorem rd96 : readFn T SG sigs 3000 sg96 Tryz.f125 an96 = some ir96 := by kernel_rfl
def an99 : Ann := (.s none .z (.s none .z (.s none .z (.s none (.b (.l ⟨2, [(4, .junk), (5, .junk), (7, (.atm (.v 0))), (8, (.atm (.v 1))), (10, .junk), (11, .junk), (12, .junk)], [], 0, []⟩ .z)) .z))))
def ir99p0 : IR :=
 (.op (.bin .lss false) [(.v 3), (.v 4)]
 (.ite (.v 5)
  (.op (.bin .add false) [(.v 3), (.v 4)]
  (.op (.conv .u64) [(.v 6)]
  (.op (.bin .shr false) [(.v 7), (.c (.int .u64 1))]
  (.op (.conv .i64) [(.v 8)]
  (.op (.row 1) [(.v 0), (.v 9)]
  (.call 117 1 false [] [(.v 10), (.v 1)]
  (.ite (.v 11)
   (.op (.bin .add false) [(.v 9), (.c (.int .i64 1))]
   (.jump 0 [(.v 12), (.v 4)]))
  (.jump 0 [(.v 3), (.v 9)]))))))))
 (.op (.bin .lss false) [(.v 3), (.v 2)]
 (.ite (.v 6)
  (.op (.row 1) [(.v 0), (.v 3)]
  (.op (.bin .eql false) [(.v 7), (.v 1)]
  (.ite (.v 8)
   (.ret [(.v 3), (.c (.bool true))])
  (.op (.row 1) [(.v 0), (.v 3)]
  (.call 118 1 false [] [(.v 9)]
  (.ite (.v 10)
   (.call 118 1 false [] [(.v 1)]
   (.ret [(.v 3), (.v 11)]))
  (.ret [(.v 3), (.c (.bool false))])))))))
 (.ret [(.v 3), (.c (.bool false))])))))
def ir99 : IR :=
 (.op .lenL [(.v 0)]
 (.loop 2 [(.c (.int .i64 0)), (.v 2)] ir99p0))
theorem rd99 : readFn T SG sigs 3000 sg99 Tryz.f128 an99 = some ir99 := by kernel_rfl
def an100 : Ann := (.s none .z (.s none (.s (some ⟨1, [(2, .junk), (12, (.atm (.v 0)))], [], 0, []⟩) .z .z) (.s none (.s none .z (.b (.l ⟨1, [(12, .junk), (13, .junk), (15, (.atm (.v 0)))], [], 0, []⟩ (.s none .z (.s none .z (.s (some ⟨0, [(16, .junk)], [], 0, []⟩) (.b (.s none .z (.s none .z (.b (.s (some ⟨1, [(16, .junk), (17, .junk), (18, .junk), (19, .junk), (20, .junk), (21, (.atm (.v 0)))], [], 0, []⟩) .z (.c .z (.s (some ⟨1, [(3, .junk), (4, .junk), (21, .junk), (28, (.atm (.v 0)))], [], 0, []⟩) .z .z))))))) .z)))))) .z)))
def ir100p0 : IR :=
 (.op (.bin .add false) [(.v 3), (.c (.int .i64 1))]
 (.jump 0 [(.v 5)]))
def ir100p1 : IR :=
 (.ite (.v 7)
  (.jump 1 [])
 (.ret [(.c (.bool false))]))
def ir100p2 : IR :=
 (.ite (.v 6)
  (.jump 1 [])
 (.letj 1
  (.op (.bin .gtr false) [(.v 3), (.c (.int .i64 0))]
  (.ite (.v 7)
   (.op (.bin .geq false) [(.v 5), (.c (.int .u8 48))]
   (.ite (.v 8)
    (.op (.bin .leq false) [(.v 5), (.c (.int .u8 57))]
    (.ite (.v 9)
     (.jump 2 [(.c (.bool true))])
    (.op (.bin .eql false) [(.v 5), (.c (.int .u8 95))]
    (.jump 2 [(.v 10)]))))
   (.op (.bin .eql false) [(.v 5), (.c (.int .u8 95))]
   (.jump 2 [(.v 9)]))))
  (.jump 2 [(.c (.bool false))])))
 ir100p1))
def ir100p3 : IR :=
 (.op (.bin .lss false) [(.v 3), (.v 2)]
 (.ite (.v 4)
  (.letj 0
   (.op .idxS [(.v 0), (.v 3)]
   (.letj 1
    (.op (.bin .geq false) [(.v 5), (.c (.int .u8 97))]
    (.ite (.v 6)
     (.op (.bin .leq false) [(.v 5), (.c (.int .u8 122))]
     (.jump 2 [(.v 7)]))
    (.jump 2 [(.c (.bool false))])))
   ir100p2))
  ir100p0)
 (.ret [(.c (.bool true))])))
def ir100p4 : IR :=
 (.ite (.v 1)
  (.ret [(.c (.bool false))])
 (.op .lenS [(.v 0)]
 (.loop 1 [(.c (.int .i64 0))] ir100p3)))
def ir100 : IR :=
 (.letj 1
  (.op .lenS [(.v 0)]
  (.op (.bin .eql false) [(.v 1), (.c (.int .i64 0))]
  (.ite (.v 2)
   (.jump 0 [(.c (.bool true))])
  (.op .lenS [(.v 0)]
  (.op (.bin .gtr false) [(.v 3), (.c (.int .i64 12))]
  (.jump 0 [(.v 4)]))))))
 ir100p4)
theorem rd100 : readFn T SG sigs 3000 sg100 Tryz.f147 an100 = some ir100 := by kernel_rfl
def an101 : Ann := (.s none .z (.s none .z (.s none .z (.s none .z (.s none .z (.s none .z (.s none .z (.s none .z (.s none .z (.s none (.b (.s (some ⟨1, [(0, .junk), (1, .junk), (5, .junk), (12, .junk), (13, .junk), (14, .junk), (15, .junk), (16, .junk), (17, .junk), (19, .junk), (20, .junk), (21, .junk), (23, .junk), (24, .junk), (25, .junk), (26, .junk), (27, .junk), (28, .junk), (29, .junk), (30, .junk), (31, .junk), (32, .junk), (36, .junk), (37, .junk), (38, .junk), (39, .junk), (40, .junk), (41, .junk), (42, .junk), (43, .junk), (44, .junk), (45, .junk), (46, .junk), (47, .junk), (48, .junk), (49, (.atm (.v 0)))], [], 4, []⟩) .z (.c .z (.s none .z (.c .z (.s (some ⟨1, [(49, .junk), (58, .junk), (59, .junk), (60, .junk), (61, .junk), (67, (.atm (.v 0)))], [], 4, []⟩) .z .z)))))) .z))))))))))
def ir101p0 : IR :=
 (.ite (.v 18)
  (.ret [(.c (.int .i64 4)), (.c (.str [])), (.v 13)])
 (.op (.bin .eql false) [(.v 8), (.c (.int .u64 0))]
 (.ite (.v 19)
  (.call 101 3 false [] [(.v 7), (.v 9)]
  (.call 120 3 false [] [(.c (.int .i64 5)), (.c (.int .i64 4)), (.c (.str [])), (.v 13), (.v 20), (.v 21), (.v 22)]
  (.ret [(.v 23), (.v 24), (.v 25)])))
 (.op (.bin .eql false) [(.v 9), (.v 15)]
 (.ite (.v 20)
  (.call 101 3 false [] [(.v 7), (.v 8)]
  (.call 120 3 false [] [(.c (.int .i64 6)), (.c (.int .i64 4)), (.c (.str [])), (.v 13), (.v 21), (.v 22), (.v 23)]
  (.ret [(.v 24), (.v 25), (.v 26)])))
 (.op (.bin .eql false) [(.v 9), (.c (.int .u64 0))]
 (.ite (.v 21)
  (.call 101 3 false [] [(.v 7), (.v 8)]
  (.call 120 3 false [] [(.c (.int .i64 5)), (.c (.int .i64 3)), (.v 11), (.c (.sl [])), (.v 22), (.v 23), (.v 24)]
  (.ret [(.v 25), (.v 26), (.v 27)])))
 (.call 101 3 false [] [(.v 7), (.v 8)]
 (.call 120 3 false [] [(.c (.int .i64 5)), (.c (.int .i64 3)), (.v 11), (.c (.sl [])), (.v 22), (.v 23), (.v 24)]
 (.call 101 3 false [] [(.v 7), (.v 9)]
 (.call 120 3 false [] [(.c (.int .i64 5)), (.c (.int .i64 4)), (.c (.str [])), (.v 13), (.v 28), (.v 29), (.v 30)]
 (.call 120 3 false [] [(.c (.int .i64 6)), (.v 25), (.v 26), (.v 27), (.v 31), (.v 32), (.v 33)]
 (.ret [(.v 34), (.v 35), (.v 36)])))))))))))))
def ir101p1 : IR :=
 (.ite (.v 16)
  (.ret [(.c (.int .i64 3)), (.v 11), (.c (.sl []))])
 (.op (.bin .eql false) [(.v 8), (.v 15)]
 (.ite (.v 17)
  (.call 101 3 false [] [(.v 7), (.v 9)]
  (.call 120 3 false [] [(.c (.int .i64 6)), (.c (.int .i64 3)), (.v 11), (.c (.sl [])), (.v 18), (.v 19), (.v 20)]
  (.ret [(.v 21), (.v 22), (.v 23)])))
 (.letj 1
  (.op (.bin .eql false) [(.v 8), (.c (.int .u64 0))]
  (.ite (.v 18)
   (.op (.bin .eql false) [(.v 9), (.v 15)]
   (.jump 0 [(.v 19)]))
  (.jump 0 [(.c (.bool false))])))
 ir101p0))))
def ir101 : IR :=
 (.op .lenL [(.v 0)]
 (.call 102 1 false [] [(.v 2)]
 (.op (.bin .eql false) [(.v 1), (.c (.int .u64 0))]
 (.ite (.v 4)
  (.ret [(.c (.int .i64 2)), (.c (.str [])), (.c (.sl []))])
 (.op (.bin .eql false) [(.v 1), (.v 3)]
 (.ite (.v 5)
  (.ret [(.c (.int .i64 1)), (.c (.str [])), (.c (.sl []))])
 (.op .lenL [(.v 0)]
 (.op (.subL 1) [(.v 0), (.c (.int .i64 1)), (.v 6)]
 (.call 119 2 false [] [(.v 1)]
 (.op (.bin .eql false) [(.v 8), (.v 9)]
 (.ite (.v 10)
  (.call 101 3 false [] [(.v 7), (.v 8)]
  (.ret [(.v 11), (.v 12), (.v 13)]))
 (.op (.row 1) [(.v 0), (.c (.int .i64 0))]
 (.op (.row 1) [(.v 0), (.c (.int .i64 0))]
 (.op (.mk 3 1) [(.c (.int .i64 3)), (.v 12), (.c (.sl []))]
 (.op .lenL [(.v 7)]
 (.call 102 1 false [] [(.v 14)]
 (.letj 1
  (.op (.bin .eql false) [(.v 8), (.v 15)]
  (.ite (.v 16)
   (.op (.bin .eql false) [(.v 9), (.c (.int .u64 0))]
   (.jump 0 [(.v 17)]))
  (.jump 0 [(.c (.bool false))])))
 ir101p1)))))))))))))))))
theorem rd101 : readFn T SG sigs 3000 sg101 Tryz.f149 an101 = some ir101 := by kernel_rfl
def an102 : Ann := .z
def ir102 : IR :=
 (.op (.bin .shl false) [(.c (.int .u64 1)), (.v 0)]
 (.op (.bin .sub false) [(.c (.int .u64 64)), (.v 1)]
 (.op (.bin .shr false) [(.c (.int .u64 18446744073709551615)), (.v 2)]
 (.ret [(.v 3)]))))
theorem rd102 : readFn T SG sigs 3000 sg102 Tryz.f135 an102 = some ir102 := by kernel_rfl
def an103 : Ann := (.s none .z (.s none .z (.s none (.s none .z (.b (.l ⟨2, [(6, .junk), (7, (.atm (.v 0))), (8, (.atm (.v 1)))], [], 0, []⟩ (.s none .z (.s (some ⟨1, [(7, (.atm (.v 0))), (9, .junk), (10, .junk), (11, .junk), (12, .junk)], [], 0, []⟩) (.b (.s (some ⟨1, [(9, .junk), (10, .junk), (11, .junk), (12, .junk), (23, (.atm (.v 0)))], [], 0, []⟩) .z .z)) .z))))) .z)))
def ir103p0 : IR :=
 (.op (.bin .add false) [(.v 4), (.c (.int .i64 1))]
 (.jump 0 [(.v 7), (.v 8)]))
def ir103p1 : IR :=
 (.ite (.v 7)
  (.op (.bin .shr false) [(.v 4), (.c (.int .u64 1))]
  (.op (.conv .u64) [(.v 8)]
  (.op (.bin .shl false) [(.c (.int .u64 1)), (.v 9)]
  (.op (.bin .or false) [(.v 3), (.v 10)]
  (.jump 1 [(.v 11)])))))
 (.jump 1 [(.v 3)]))
def ir103p2 : IR :=
 (.call 51 1 false [] [(.v 0)]
 (.op (.bin .lss false) [(.v 4), (.v 5)]
 (.ite (.v 6)
  (.letj 1
   (.letj 1
    (.call 121 1 false [] [(.v 1), (.v 4)]
    (.ite (.v 7)
     (.op (.bin .and false) [(.v 4), (.c (.int .i64 1))]
     (.op (.bin .eql false) [(.v 8), (.v 2)]
     (.jump 2 [(.v 9)])))
    (.jump 2 [(.c (.bool false))])))
   ir103p1)
  ir103p0)
 (.ret [(.v 3)]))))
def ir103 : IR :=
 (.loop 2 [(.c (.int .u64 0)), (.c (.int .i64 0))] ir103p2)
theorem rd103 : readFn T SG sigs 3000 sg103 Tryz.f150 an103 = some ir103 := by kernel_rfl
def an104 : Ann := (.s none .z (.s none (.s (some ⟨1, [(0, .junk), (1, .junk), (4, .junk), (26, (.atm (.v 0)))], [], 2, []⟩) .z .z) (.s none (.s none .z (.b (.l ⟨1, [(5, (.atm (.v 0))), (26, .junk)], [], 2, []⟩ .z))) .z)))
def ir104p0 : IR :=
 (.op .lenL [(.v 2)]
 (.op (.bin .lss false) [(.v 7), (.v 8)]
 (.ite (.v 9)
  (.op (.row 3) [(.v 2), (.v 7)]
  (.op (.row 3) [(.v 5), (.v 7)]
  (.call 104 1 false [] [(.v 10), (.v 11), (.v 12), (.v 13), (.v 14), (.v 15)]
  (.op (.un .not) [(.v 16)]
  (.ite (.v 17)
   (.ret [(.c (.bool false))])
  (.op (.bin .add false) [(.v 7), (.c (.int .i64 1))]
  (.jump 0 [(.v 18)])))))))
 (.ret [(.c (.bool true))]))))
def ir104p1 : IR :=
 (.ite (.v 6)
  (.ret [(.c (.bool false))])
 (.loop 1 [(.c (.int .i64 0))] ir104p0))
def ir104 : IR :=
 (.letj 1
  (.op (.bin .neq false) [(.v 0), (.v 3)]
  (.ite (.v 6)
   (.jump 0 [(.c (.bool true))])
  (.op (.bin .neq false) [(.v 1), (.v 4)]
  (.ite (.v 7)
   (.jump 0 [(.c (.bool true))])
  (.op .lenL [(.v 2)]
  (.op .lenL [(.v 5)]
  (.op (.bin .neq false) [(.v 8), (.v 9)]
  (.jump 0 [(.v 10)]))))))))
 ir104p1)
theorem rd104 : readFn T SG sigs 3000 sg104 Tryz.f151 an104 = some ir104 := by kernel_rfl
def an105 : Ann := .z
def ir105 : IR :=
 (.op (.mk 3 2) [(.v 1), (.v 2), (.v 3), (.v 4), (.v 5), (.v 6)]
 (.ret [(.v 0), (.c (.str [])), (.v 7)]))
theorem rd105 : readFn T SG sigs 3000 sg105 Tryz.f152 an105 = some ir105 := by kernel_rfl
def an106 : Ann := (.s none .z (.s none (.s none .z (.b (.l ⟨1, [(4, .junk), (6, .junk), (8, (.atm (.v 0)))], [], 0, []⟩ .z))) .z))
def ir106p0 : IR :=
 (.op (.bin .lss false) [(.v 3), (.v 2)]
 (.ite (.v 4)
  (.op (.row 1) [(.v 0), (.v 3)]
  (.op (.bin .eql true) [(.v 1), (.v 5)]
  (.ite (.v 6)
   (.ret [(.v 3)])
  (.op (.bin .add false) [(.v 3), (.c (.int .i64 1))]
  (.jump 0 [(.v 7)])))))
 (.ret [(.c (.int .i64 (-1)))])))
def ir106 : IR :=
 (.op .lenL [(.v 0)]
 (.loop 1 [(.c (.int .i64 0))] ir106p0))
theorem rd106 : readFn T SG sigs 3000 sg106 Tryz.f169 an106 = some ir106 := by kernel_rfl
def an107 : Ann := (.s none .z (.s none .z (.s none (.s none .z (.b (.l ⟨2, [(0, .junk), (1, .junk), (2, .junk), (3, (.atm (.v 0))), (6, .junk), (9, (.atm (.v 1)))], [], 1, []⟩ .z))) .z)))
def ir107p0 : IR :=
 (.op (.bin .lss false) [(.v 5), (.v 3)]
 (.ite (.v 6)
  (.op (.row 3) [(.v 2), (.v 5)]
  (.call 107 1 false [] [(.v 7), (.v 8), (.v 9)]
  (.op (.bin .add false) [(.v 4), (.v 10)]
  (.op (.bin .add false) [(.v 5), (.c (.int .i64 1))]
  (.jump 0 [(.v 11), (.v 12)])))))
 (.ret [(.v 4)])))
def ir107 : IR :=
 (.op .lenL [(.v 2)]
 (.loop 2 [(.c (.int .i64 1)), (.c (.int .i64 0))] ir107p0))
theorem rd107 : readFn T SG sigs 3000 sg107 Tryz.f153 an107 = some ir107 := by kernel_rfl
def an108 : Ann := (.s none .z (.s none .z (.s none (.s none .z (.b (.l ⟨2, [(0, .junk), (1, .junk), (2, .junk), (3, (.atm (.v 0))), (6, .junk), (9, (.atm (.v 1)))], [], 1, []⟩ .z))) .z)))
def ir108p0 : IR :=
 (.op (.bin .lss false) [(.v 5), (.v 3)]
 (.ite (.v 6)
  (.op (.row 3) [(.v 2), (.v 5)]
  (.call 108 1 false [] [(.v 7), (.v 8), (.v 9)]
  (.op (.bin .add false) [(.c (.int .i64 1)), (.v 10)]
  (.op .max [(.v 4), (.v 11)]
  (.op (.bin .add false) [(.v 5), (.c (.int .i64 1))]
  (.jump 0 [(.v 12), (.v 13)]))))))
 (.ret [(.v 4)])))
def ir108 : IR :=
 (.op .lenL [(.v 2)]
 (.loop 2 [(.c (.int .i64 0)), (.c (.int .i64 0))] ir108p0))
theorem rd108 : readFn T SG sigs 3000 sg108 Tryz.f154 an108 = some ir108 := by kernel_rfl
def an109 : Ann := (.s none .z (.s none .z (.s none (.s none .z (.b (.l ⟨1, [(0, .junk), (2, .junk), (4, .junk), (7, .junk), (8, .junk), (9, .junk), (10, .junk), (11, .junk), (14, (.atm (.v 0)))], [], 1, []⟩ .z))) .z)))
def ir109p0 : IR :=
 (.op (.bin .lss false) [(.v 6), (.v 5)]
 (.ite (.v 7)
  (.op (.row 3) [(.v 2), (.v 6)]
  (.call 109 1 false [] [(.v 8), (.v 9), (.v 10)]
  (.op (.un .not) [(.v 11)]
  (.ite (.v 12)
   (.ret [(.c (.bool false))])
  (.op (.bin .add false) [(.v 6), (.c (.int .i64 1))]
  (.jump 0 [(.v 13)]))))))
 (.ret [(.c (.bool true))])))
def ir109 : IR :=
 (.call 122 1 false [] [(.v 0), (.v 1), (.v 2)]
 (.op (.un .not) [(.v 3)]
 (.ite (.v 4)
  (.ret [(.c (.bool false))])
 (.op .lenL [(.v 2)]
 (.loop 1 [(.c (.int .i64 0))] ir109p0)))))
theorem rd109 : readFn T SG sigs 3000 sg109 Tryz.f155 an109 = some ir109 := by kernel_rfl
def an110 : Ann := (.s none .z (.s none .z (.s none (.s none .z (.b (.l ⟨1, [(0, .junk), (2, .junk), (4, .junk), (7, .junk), (8, .junk), (9, .junk), (10, .junk), (11, .junk), (14, (.atm (.v 0)))], [], 1, []⟩ .z))) .z)))
def ir110p0 : IR :=
 (.op (.bin .lss false) [(.v 6), (.v 5)]
 (.ite (.v 7)
  (.op (.row 3) [(.v 2), (.v 6)]
  (.call 110 1 false [] [(.v 8), (.v 9), (.v 10)]
  (.op (.un .not) [(.v 11)]
  (.ite (.v 12)
   (.ret [(.c (.bool false))])
  (.op (.bin .add false) [(.v 6), (.c (.int .i64 1))]
  (.jump 0 [(.v 13)]))))))
 (.ret [(.c (.bool true))])))
def ir110 : IR :=
 (.call 123 1 false [] [(.v 0), (.v 1), (.v 2)]
 (.op (.un .not) [(.v 3)]
 (.ite (.v 4)
  (.ret [(.c (.bool false))])
 (.op .lenL [(.v 2)]
 (.loop 1 [(.c (.int .i64 0))] ir110p0)))))
theorem rd110 : readFn T SG sigs 3000 sg110 Tryz.f155 an110 = some ir110 := by kernel_rfl
def an111 : Ann := (.s none .z (.s none (.s none .z (.b (.l ⟨1, [(4, .junk), (6, .junk), (8, (.atm (.v 0)))], [], 0, []⟩ .z))) .z))
def ir111p0 : IR :=
 (.op (.bin .lss false) [(.v 3), (.v 2)]
 (.ite (.v 4)
  (.op (.row 1) [(.v 0), (.v 3)]
  (.op (.bin .eql false) [(.v 1), (.v 5)]
  (.ite (.v 6)
   (.ret [(.v 3)])
  (.op (.bin .add false) [(.v 3), (.c (.int .i64 1))]
  (.jump 0 [(.v 7)])))))
 (.ret [(.c (.int .i64 (-1)))])))
def ir111 : IR :=
 (.op .lenL [(.v 0)]
 (.loop 1 [(.c (.int .i64 0))] ir111p0))
theorem rd111 : readFn T SG sigs 3000 sg111 Tryz.f161 an111 = some ir111 := by kernel_rfl
def an112 : Ann := (.s none .z (.s none .z (.s none (.s none .z (.b (.l ⟨2, [(2, .junk), (3, (.atm (.v 0))), (5, (.atm (.v 1)))], [], 0, []⟩ .z))) .z)))
def ir112p0 : IR :=
 (.op (.bin .lss false) [(.v 2), (.c (.int .i64 64))]
 (.ite (.v 3)
  (.op (.bin .shr false) [(.v 2), (.v 0)]
  (.op (.bin .and false) [(.v 4), (.c (.int .i64 1))]
  (.op (.conv .u64) [(.v 5)]
  (.op (.bin .shl false) [(.v 6), (.v 2)]
  (.op (.bin .or false) [(.v 1), (.v 7)]
  (.op (.bin .add false) [(.v 2), (.c (.int .i64 1))]
  (.jump 0 [(.v 8), (.v 9)])))))))
 (.ret [(.v 1)])))
def ir112 : IR :=
 (.loop 2 [(.c (.int .u64 0)), (.c (.int .i64 0))] ir112p0)
theorem rd112 : readFn T SG sigs 3000 sg112 Tryz.f162 an112 = some ir112 := by kernel_rfl
def an113 : Ann := (.s none .z (.s none .z (.s none (.b (.l ⟨1, [(4, .junk), (5, (.atm (.v 0)))], [], 0, []⟩ (.s none (.s (some ⟨1, [(18, (.atm (.v 0)))], [], 0, []⟩) .z .z) .z))) (.s none (.s (some ⟨1, [(18, .junk), (32, (.atm (.v 0)))], [], 0, []⟩) .z .z) .z))))
def ir113p0 : IR :=
 (.ite (.v 4)
  (.ret [(.v 0)])
 (.op (.subL 1) [(.v 0), (.c (.int .i64 0)), (.v 2)]
 (.op (.app 1 16) [(.c (.sl [])), (.v 5)]
 (.op (.mk 1 1) [(.v 1)]
 (.op (.app 1 16) [(.v 6), (.v 7)]
 (.op .lenL [(.v 0)]
 (.op (.subL 1) [(.v 0), (.v 2), (.v 9)]
 (.op (.app 1 16) [(.v 8), (.v 10)]
 (.ret [(.v 11)])))))))))
def ir113p1 : IR :=
 (.ite (.v 3)
  (.op (.bin .add false) [(.v 2), (.c (.int .i64 1))]
  (.jump 0 [(.v 4)]))
 (.letj 1
  (.op .lenL [(.v 0)]
  (.op (.bin .lss false) [(.v 2), (.v 4)]
  (.ite (.v 5)
   (.op (.row 1) [(.v 0), (.v 2)]
   (.op (.bin .eql false) [(.v 6), (.v 1)]
   (.jump 1 [(.v 7)])))
  (.jump 1 [(.c (.bool false))]))))
 ir113p0))
def ir113p2 : IR :=
 (.letj 1
  (.op .lenL [(.v 0)]
  (.op (.bin .lss false) [(.v 2), (.v 3)]
  (.ite (.v 4)
   (.op (.row 1) [(.v 0), (.v 2)]
   (.op (.bin .lss false) [(.v 5), (.v 1)]
   (.jump 1 [(.v 6)])))
  (.jump 1 [(.c (.bool false))]))))
 ir113p1)
def ir113 : IR :=
 (.loop 1 [(.c (.int .i64 0))] ir113p2)
theorem rd113 : readFn T SG sigs 3000 sg113 Tryz.f168 an113 = some ir113 := by kernel_rfl
def an114 : Ann := (.s none .z (.s none (.s none .z (.b (.l ⟨1, [(4, .junk), (6, .junk), (8, (.atm (.v 0)))], [], 0, []⟩ .z))) .z))
def ir114p0 : IR :=
 (.op (.bin .lss false) [(.v 3), (.v 2)]
 (.ite (.v 4)
  (.op (.row 1) [(.v 0), (.v 3)]
  (.op (.bin .eql false) [(.v 1), (.v 5)]
  (.ite (.v 6)
   (.ret [(.v 3)])
  (.op (.bin .add false) [(.v 3), (.c (.int .i64 1))]
  (.jump 0 [(.v 7)])))))
 (.ret [(.c (.int .i64 (-1)))])))
def ir114 : IR :=
 (.op .lenL [(.v 0)]
 (.loop 1 [(.c (.int .i64 0))] ir114p0))
theorem rd114 : readFn T SG sigs 3000 sg114 Tryz.f170 an114 = some ir114 := by kernel_rfl
def an117 : Ann := .z
def ir117 : IR :=
 (.call 124 1 false [] [(.v 0)]
 (.ite (.v 2)
  (.call 124 1 false [] [(.v 1)]
  (.op (.un .not) [(.v 3)]
  (.ite (.v 4)
   (.ret [(.c (.bool true))])
  (.op (.bin .lss false) [(.v 0), (.v 1)]
  (.ret [(.v 5)])))))
 (.op (.bin .lss false) [(.v 0), (.v 1)]
 (.ret [(.v 3)]))))
theorem rd117 : readFn T SG sigs 3000 sg117 Tryz.f166 an117 = some ir117 := by kernel_rfl
def an118 : Ann := .z
def ir118 : IR :=
 (.op (.bin .neq false) [(.v 0), (.v 0)]
 (.ret [(.v 1)]))
theorem rd118 : readFn T SG sigs 3000 sg118 Tryz.f167 an118 = some ir118 := by kernel_rfl
def an119 : Ann := (.s none .z (.s none (.s none .z (.b (.l ⟨3, [(2, (.atm (.v 0))), (3, (.atm (.v 1))), (5, (.atm (.v 2)))], [], 0, []⟩ .z))) .z))
def ir119p0 : IR :=
 (.op (.bin .lss false) [(.v 3), (.c (.int .i64 32))]
 (.ite (.v 4)
  (.op (.bin .mul false) [(.c (.int .i64 2)), (.v 3)]
  (.op (.bin .shr false) [(.v 0), (.v 5)]
  (.op (.bin .and false) [(.v 6), (.c (.int .u64 1))]
  (.op (.bin .shl false) [(.v 7), (.v 3)]
  (.op (.bin .or false) [(.v 2), (.v 8)]
  (.op (.bin .mul false) [(.c (.int .i64 2)), (.v 3)]
  (.op (.bin .add false) [(.v 10), (.c (.int .i64 1))]
  (.op (.bin .shr false) [(.v 0), (.v 11)]
  (.op (.bin .and false) [(.v 12), (.c (.int .u64 1))]
  (.op (.bin .shl false) [(.v 13), (.v 3)]
  (.op (.bin .or false) [(.v 1), (.v 14)]
  (.op (.bin .add false) [(.v 3), (.c (.int .i64 1))]
  (.jump 0 [(.v 15), (.v 9), (.v 16)])))))))))))))
 (.ret [(.v 1), (.v 2)])))
def ir119 : IR :=
 (.loop 3 [(.c (.int .u64 0)), (.c (.int .u64 0)), (.c (.int .i64 0))] ir119p0)
theorem rd119 : readFn T SG sigs 3000 sg119 Tryz.f171 an119 = some ir119 := by kernel_rfl
def an120 : Ann := .z
def ir120 : IR :=
 (.op (.mk 3 2) [(.v 1), (.v 2), (.v 3), (.v 4), (.v 5), (.v 6)]
 (.ret [(.v 0), (.c (.str [])), (.v 7)]))
theorem rd120 : readFn T SG sigs 3000 sg120 Tryz.f172 an120 = some ir120 := by kernel_rfl
def an121 : Ann := .z
def ir121 : IR :=
 (.op (.conv .u64) [(.v 1)]
 (.op (.bin .shr false) [(.v 0), (.v 2)]
 (.op (.bin .and false) [(.v 3), (.c (.int .u64 1))]
 (.op (.bin .eql false) [(.v 4), (.c (.int .u64 1))]
 (.ret [(.v 5)])))))
theorem rd121 : readFn T SG sigs 3000 sg121 Tryz.f173 an121 = some ir121 := by kernel_rfl
def an122 : Ann := (.s none .z (.s none .z (.s none (.s none .z (.b (.s (some ⟨1, [(0, .junk), (1, .junk), (2, .junk), (4, .junk), (5, .junk), (6, .junk), (7, .junk), (9, (.atm (.v 0)))], [], 1, []⟩) .z (.c .z (.s none .z (.c .z (.s (some ⟨1, [(9, .junk), (15, .junk), (16, .junk), (19, (.atm (.v 0)))], [], 1, []⟩) .z (.c .z (.s (some ⟨1, [(8, .junk), (19, .junk), (28, (.atm (.v 0)))], [], 1, []⟩) .z .z))))))))) .z)))
def ir122p0 : IR :=
 (.ite (.v 7)
  (.op (.bin .eql false) [(.v 3), (.c (.int .i64 2))]
  (.ret [(.v 8)]))
 (.ret [(.c (.bool false))]))
def ir122p1 : IR :=
 (.ite (.v 6)
  (.op (.bin .geq false) [(.v 3), (.c (.int .i64 2))]
  (.ite (.v 7)
   (.op (.bin .leq false) [(.v 3), (.c (.int .i64 6))]
   (.ret [(.v 8)]))
  (.ret [(.c (.bool false))])))
 (.letj 1
  (.op (.bin .eql false) [(.v 0), (.c (.int .i64 7))]
  (.ite (.v 7)
   (.jump 0 [(.c (.bool true))])
  (.op (.bin .eql false) [(.v 0), (.c (.int .i64 8))]
  (.jump 0 [(.v 8)]))))
 ir122p0))
def ir122p2 : IR :=
 (.ite (.v 4)
  (.op (.bin .eql false) [(.v 3), (.c (.int .i64 0))]
  (.ret [(.v 5)]))
 (.op (.bin .eql false) [(.v 0), (.c (.int .i64 4))]
 (.ite (.v 5)
  (.op (.bin .eql false) [(.v 3), (.c (.int .i64 1))]
  (.ret [(.v 6)]))
 (.letj 1
  (.op (.bin .eql false) [(.v 0), (.c (.int .i64 5))]
  (.ite (.v 6)
   (.jump 0 [(.c (.bool true))])
  (.op (.bin .eql false) [(.v 0), (.c (.int .i64 6))]
  (.jump 0 [(.v 7)]))))
 ir122p1))))
def ir122 : IR :=
 (.op .lenL [(.v 2)]
 (.letj 1
  (.op (.bin .eql false) [(.v 0), (.c (.int .i64 1))]
  (.ite (.v 4)
   (.jump 0 [(.c (.bool true))])
  (.op (.bin .eql false) [(.v 0), (.c (.int .i64 2))]
  (.ite (.v 5)
   (.jump 0 [(.c (.bool true))])
  (.op (.bin .eql false) [(.v 0), (.c (.int .i64 3))]
  (.jump 0 [(.v 6)]))))))
 ir122p2))
theorem rd122 : readFn T SG sigs 3000 sg122 Tryz.f156 an122 = some ir122 := by kernel_rfl
def an123 : Ann := .z
def ir123 : IR :=
 (.op (.bin .eql false) [(.v 0), (.c (.int .i64 3))]
 (.ite (.v 3)
  (.call 100 1 false [] [(.v 1)]
  (.ret [(.v 4)]))
 (.op (.bin .eql false) [(.v 1), (.c (.str []))]
 (.ret [(.v 4)]))))
theorem rd123 : readFn T SG sigs 3000 sg123 Tryz.f157 an123 = some ir123 := by kernel_rfl
def an124 : Ann := .z
def ir124 : IR :=
 (.op (.bin .neq false) [(.v 0), (.v 0)]
 (.ret [(.v 1)]))
theorem rd124 : readFn T SG sigs 3000 sg124 Tryz.f145 an124 = some ir124 := by kernel_rfl
end Go.Proofs.YtojkhlijbpmgpaaGreat

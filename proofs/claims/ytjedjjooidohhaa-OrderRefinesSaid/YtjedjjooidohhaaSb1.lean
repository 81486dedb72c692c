/- Plain programs of the functions of the program and lemmas about what they compute. -/
import Derived.Test.YtjedjjooidohhaaAmSe21
import Derived.Test.YtjedjjooidohhaaProg
import Derived.KernelRfl
set_option linter.unusedSimpArgs false
set_option linter.unusedVariables false
set_option linter.unusedSectionVars false
namespace Go.Proofs.Ytjedjjooidohhaa
open Go Am
set_option maxRecDepth 100000
abbrev fnD (f : Nat) : D := .raw (.func (.func f) #[] #[])
abbrev undD : D := .raw (.tuple #[])
def T : Tab := [
  (3, ⟨1, 8, true, true, false, none, none, (some .i64), false, false, (some (.int .i64 0)), [], none⟩),
  (4, ⟨1, 1, true, true, false, none, none, none, false, true, (some (.bool false)), [], none⟩),
  (5, ⟨1, 1, true, true, false, none, none, (some .u8), false, false, (some (.int .u8 0)), [], none⟩),
  (9, ⟨1, 16, true, true, false, none, none, none, true, false, (some (.string ⟨⟨[]⟩⟩)), [], none⟩),
  (22, ⟨1, 24, true, true, false, (some 3), none, none, false, false, (some (.slice none 0 0)), [], none⟩),
  (23, ⟨1, 8, true, true, false, none, none, none, false, false, (some (.pointer none)), [], none⟩),
  (25, ⟨1, 24, true, true, false, (some 9), none, none, false, false, (some (.slice none 0 0)), [], none⟩),
  (27, ⟨2, 48, true, true, true, none, none, none, false, false, (some (.agg #[(.slice none 0 0), (.slice none 0 0)])), [(0, 25), (1, 22)], (some [(0, 1), (1, 1)])⟩),
  (30, ⟨1, 8, true, true, false, none, none, (some .u64), false, false, (some (.int .u64 0)), [], none⟩),
  (37, ⟨1, 8, true, true, false, none, none, (some .u64), false, false, (some (.int .u64 0)), [], none⟩),
  (39, ⟨1, 8, true, true, false, none, none, (some .i64), false, false, (some (.int .i64 0)), [], none⟩),
  (44, ⟨1, 24, true, true, false, (some 30), none, none, false, false, (some (.slice none 0 0)), [], none⟩),
  (51, ⟨1, 24, true, true, false, (some 25), none, none, false, false, (some (.slice none 0 0)), [], none⟩),
  (52, ⟨1, 24, true, true, false, (some 22), none, none, false, false, (some (.slice none 0 0)), [], none⟩),
  (53, ⟨1, 24, true, true, false, (some 44), none, none, false, false, (some (.slice none 0 0)), [], none⟩),
  (54, ⟨4, 96, true, true, true, none, (some (2, 27)), none, false, false, (some (.agg #[(.slice none 0 0), (.slice none 0 0), (.slice none 0 0), (.slice none 0 0)])), [], (some [(0, 2), (2, 2)])⟩),
  (55, ⟨1, 24, true, true, false, (some 54), none, none, false, false, (some (.slice none 0 0)), [], none⟩),
  (57, ⟨1, 24, true, true, false, (some 59), none, none, false, false, (some (.slice none 0 0)), [], none⟩),
  (59, ⟨3, 48, true, true, true, none, none, none, false, false, (some (.agg #[(.int .i64 0), (.string ⟨⟨[]⟩⟩), (.slice none 0 0)])), [(0, 3), (1, 9), (2, 57)], (some [(0, 1), (1, 1), (2, 1)])⟩),
  (66, ⟨2, 32, true, true, true, none, none, none, false, false, (some (.agg #[(.slice none 0 0), (.int .i64 0)])), [(0, 22), (1, 3)], (some [(0, 1), (1, 1)])⟩),
  (73, ⟨1, 8, true, true, false, none, none, none, false, false, (some .nilFunc), [], none⟩),
  (78, ⟨1, 24, true, true, false, (some 5), none, none, false, false, (some (.slice none 0 0)), [], none⟩),
  (79, ⟨1, 24, true, true, false, (some 4), none, none, false, false, (some (.slice none 0 0)), [], none⟩),
  (84, ⟨1, 8, true, true, false, none, none, none, false, false, (some .nilFunc), [], none⟩),
  (86, ⟨1, 24, true, true, false, (some 27), none, none, false, false, (some (.slice none 0 0)), [], none⟩),
  (106, ⟨1, 8, true, true, false, none, none, none, false, false, (some .nilFunc), [], none⟩)]
theorem tok : TOK Try.prog T := tok_of (by kernel_rfl)
def SG : SGlob := []
def sg0 : Sig := ⟨3, 1, [], [(.atm (.v 0))], 1, [], (.atm (.v 0)), false, []⟩
def sg1 : Sig := ⟨4, 2, [], [(.atm (.v 0)), (.atm (.v 1))], 1, [], (.atm (.v 0)), false, []⟩
def sg2 : Sig := ⟨5, 1, [], [(.atm (.v 0))], 1, [], (.atm (.v 0)), false, []⟩
def sg3 : Sig := ⟨6, 7, [], [(.agg [(.atm (.v 0)), (.atm (.v 1))]), (.agg [(.atm (.v 2)), (.atm (.v 3))]), (.atm (.v 4)), (.atm (.v 5)), (.atm (.v 6))], 1, [], (.atm (.v 0)), false, []⟩
def sg4 : Sig := ⟨7, 1, [], [(.atm (.v 0))], 1, [], (.atm (.v 0)), false, []⟩
def sg5 : Sig := ⟨8, 1, [], [(.atm (.v 0))], 1, [], (.atm (.v 0)), false, []⟩
def sg6 : Sig := ⟨9, 1, [], [(.atm (.v 0))], 1, [], (.atm (.v 0)), false, []⟩
def sg7 : Sig := ⟨10, 1, [], [(.atm (.v 0))], 1, [], (.atm (.v 0)), false, []⟩
def sg8 : Sig := ⟨11, 1, [], [(.atm (.v 0))], 2, [⟨false, false, 66, 2, (.c (.sl [])), [[(.atm (.v 0)), (.atm (.v 1))]]⟩], (.ptr 0 0 0), false, []⟩
def sg9 : Sig := ⟨13, 4, [⟨false, false, 66, 2, (.c (.sl [])), [[(.atm (.v 2)), (.atm (.v 3))]]⟩], [(.ptr 0 0 0), (.atm (.v 0)), (.atm (.v 1))], 3, [⟨false, false, 66, 2, (.c (.sl [])), [[(.atm (.v 1)), (.atm (.v 2))]]⟩], (.atm (.v 0)), false, []⟩
def sg10 : Sig := ⟨12, 3, [⟨false, false, 66, 2, (.c (.sl [])), [[(.atm (.v 1)), (.atm (.v 2))]]⟩], [(.ptr 0 0 0), (.atm (.v 0))], 4, [⟨false, false, 66, 2, (.c (.sl [])), [[(.atm (.v 2)), (.atm (.v 3))]]⟩], (.agg [(.atm (.v 0)), (.atm (.v 1))]), true, []⟩
def sg11 : Sig := ⟨14, 1, [], [(.atm (.v 0))], 1, [], (.atm (.v 0)), false, []⟩
def sg12 : Sig := ⟨15, 2, [⟨false, false, 66, 2, (.c (.sl [])), [[(.atm (.v 0)), (.atm (.v 1))]]⟩], [(.ptr 0 0 0)], 3, [⟨false, false, 66, 2, (.c (.sl [])), [[(.atm (.v 1)), (.atm (.v 2))]]⟩], (.atm (.v 0)), false, []⟩
def sg13 : Sig := ⟨16, 3, [], [(.agg [(.atm (.v 0)), (.atm (.v 1))]), (.atm (.v 2))], 1, [], (.atm (.v 0)), false, []⟩
def sg14 : Sig := ⟨17, 2, [], [(.agg [(.atm (.v 0)), (.atm (.v 1))])], 1, [], (.atm (.v 0)), false, []⟩
def sg15 : Sig := ⟨18, 0, [], [], 1, [], (.atm (.v 0)), false, []⟩
def sg16 : Sig := ⟨19, 3, [⟨false, false, 66, 2, (.c (.sl [])), [[(.atm (.v 1)), (.atm (.v 2))]]⟩], [(.ptr 0 0 0), (.atm (.v 0))], 3, [⟨false, false, 66, 2, (.c (.sl [])), [[(.atm (.v 1)), (.atm (.v 2))]]⟩], (.atm (.v 0)), false, []⟩
def sg17 : Sig := ⟨21, 1, [], [(.atm (.v 0))], 1, [], (.atm (.v 0)), true, []⟩
def sg18 : Sig := ⟨20, 2, [], [(.atm (.v 0)), (.atm (.v 1))], 3, [], (.tup [(.agg [(.atm (.v 0)), (.atm (.v 1))]), (.atm (.v 2))]), true, []⟩
def sg19 : Sig := ⟨22, 2, [], [(.agg [(.atm (.v 0)), (.atm (.v 1))])], 1, [], (.atm (.v 0)), false, []⟩
def sg20 : Sig := ⟨23, 2, [], [(.agg [(.atm (.v 0)), (.atm (.v 1))])], 1, [], (.atm (.v 0)), true, []⟩
def sg21 : Sig := ⟨24, 2, [], [(.atm (.v 0)), (.atm (.v 1))], 3, [], (.tup [(.agg [(.atm (.v 0)), (.atm (.v 1))]), (.atm (.v 2))]), true, []⟩
def sg22 : Sig := ⟨25, 4, [], [(.agg [(.atm (.v 0)), (.atm (.v 1))]), (.agg [(.atm (.v 2)), (.atm (.v 3))])], 1, [], (.atm (.v 0)), false, []⟩
def sg23 : Sig := ⟨26, 4, [], [(.agg [(.atm (.v 0)), (.atm (.v 1))]), (.agg [(.atm (.v 2)), (.atm (.v 3))])], 3, [], (.tup [(.agg [(.atm (.v 0)), (.atm (.v 1))]), (.atm (.v 2))]), true, []⟩
def sg24 : Sig := ⟨28, 2, [], [(.agg [(.atm (.v 0)), (.atm (.v 1))])], 1, [], (.atm (.v 0)), false, []⟩
def sg25 : Sig := ⟨27, 3, [], [(.agg [(.atm (.v 0)), (.atm (.v 1))]), (.atm (.v 2))], 1, [], (.atm (.v 0)), false, []⟩
def sg26 : Sig := ⟨33, 4, [⟨false, false, 66, 2, (.c (.sl [])), [[(.atm (.v 2)), (.atm (.v 3))]]⟩], [(.ptr 0 0 0), (.atm (.v 0)), (.atm (.v 1))], 5, [⟨false, false, 66, 2, (.c (.sl [])), [[(.atm (.v 3)), (.atm (.v 4))]]⟩], (.agg [(.atm (.v 0)), (.atm (.v 1)), (.atm (.v 2))]), true, []⟩
def sg27 : Sig := ⟨34, 4, [], [(.atm (.v 0)), (.agg [(.atm (.v 1)), (.atm (.v 2)), (.atm (.v 3))])], 2, [], (.tup [(.atm (.v 0)), (.atm (.v 1))]), false, []⟩
def sg28 : Sig := ⟨35, 5, [], [(.agg [(.atm (.v 0)), (.atm (.v 1))]), (.agg [(.atm (.v 2)), (.atm (.v 3)), (.atm (.v 4))])], 2, [], (.tup [(.atm (.v 0)), (.atm (.v 1))]), false, []⟩
def sg29 : Sig := ⟨36, 3, [], [(.agg [(.atm (.v 0)), (.atm (.v 1))]), (.atm (.v 2))], 3, [], (.agg [(.atm (.v 0)), (.atm (.v 1)), (.atm (.v 2))]), true, []⟩
def sg30 : Sig := ⟨37, 0, [], [], 1, [], (.atm (.v 0)), false, []⟩
def sg31 : Sig := ⟨38, 5, [], [(.agg [(.atm (.v 0)), (.atm (.v 1))]), (.agg [(.atm (.v 2)), (.atm (.v 3)), (.atm (.v 4))])], 2, [], (.tup [(.atm (.v 0)), (.atm (.v 1))]), false, []⟩
def sg32 : Sig := ⟨39, 5, [], [(.agg [(.atm (.v 0)), (.atm (.v 1))]), (.agg [(.atm (.v 2)), (.atm (.v 3)), (.atm (.v 4))])], 2, [], (.tup [(.atm (.v 0)), (.atm (.v 1))]), false, []⟩
def sg33 : Sig := ⟨40, 5, [], [(.agg [(.atm (.v 0)), (.atm (.v 1))]), (.agg [(.atm (.v 2)), (.atm (.v 3)), (.atm (.v 4))])], 2, [], (.tup [(.atm (.v 0)), (.atm (.v 1))]), false, []⟩
def sg34 : Sig := ⟨30, 2, [], [(.atm (.v 0)), (.atm (.v 1))], 3, [], (.tup [(.agg [(.atm (.v 0)), (.atm (.v 1))]), (.atm (.v 2))]), true, []⟩
def sg35 : Sig := ⟨41, 1, [], [(.atm (.v 0))], 1, [], (.atm (.v 0)), false, []⟩
def sg36 : Sig := ⟨42, 1, [], [(.atm (.v 0))], 1, [], (.atm (.v 0)), false, []⟩
def sg37 : Sig := ⟨43, 2, [⟨false, false, 66, 2, (.c (.sl [])), [[(.atm (.v 0)), (.atm (.v 1))]]⟩], [(.ptr 0 0 0)], 3, [⟨false, false, 66, 2, (.c (.sl [])), [[(.atm (.v 1)), (.atm (.v 2))]]⟩], (.atm (.v 0)), false, []⟩
def sg38 : Sig := ⟨44, 2, [], [(.atm (.v 0)), (.atm (.v 1))], 1, [], (.atm (.v 0)), false, []⟩
def sg39 : Sig := ⟨45, 2, [], [(.atm (.v 0)), (.atm (.v 1))], 1, [], (.atm (.v 0)), false, []⟩
def sg40 : Sig := ⟨46, 1, [], [(.atm (.v 0))], 1, [], (.atm (.v 0)), false, []⟩
def sg41 : Sig := ⟨49, 1, [], [(.atm (.v 0))], 1, [⟨false, false, 22, 1, (.c (.sl [])), [[(.atm (.v 0))]]⟩], (.clo 75 [] [(.ptr 0 0 0)]), false, []⟩
def sg42 : Sig := ⟨48, 1, [⟨false, false, 22, 1, (.c (.sl [])), [[(.atm (.v 0))]]⟩], [(.clo 75 [] [(.ptr 0 0 0)])], 2, [⟨false, false, 22, 1, (.c (.sl [])), [[(.atm (.v 1))]]⟩, ⟨false, true, 3, 1, (.v 0), []⟩], (.own 1), true, []⟩
def sg43 : Sig := ⟨47, 1, [⟨false, true, 3, 1, (.v 0), []⟩], [(.own 0)], 2, [⟨true, true, 3, 1, (.v 1), []⟩], (.atm (.v 0)), true, []⟩
def sg44 : Sig := ⟨50, 1, [], [(.atm (.v 0))], 1, [⟨false, true, 9, 1, (.v 0), []⟩], (.own 0), true, []⟩
def sg45 : Sig := ⟨51, 2, [], [(.atm (.v 0)), (.atm (.v 1))], 2, [], (.tup [(.atm (.v 0)), (.atm (.v 1))]), false, []⟩
def sg46 : Sig := ⟨52, 2, [], [(.atm (.v 0)), (.atm (.v 1))], 1, [], (.atm (.v 0)), false, []⟩
def sg47 : Sig := ⟨53, 1, [], [(.atm (.v 0))], 1, [], (.atm (.v 0)), false, []⟩
def sg48 : Sig := ⟨57, 2, [], [(.atm (.v 0)), (.atm (.v 1))], 1, [], (.atm (.v 0)), false, []⟩
def sg49 : Sig := ⟨58, 2, [], [(.atm (.v 0)), (.atm (.v 1))], 1, [], (.atm (.v 0)), false, []⟩
def sg50 : Sig := ⟨59, 2, [], [(.agg [(.atm (.v 0)), (.atm (.v 1))])], 1, [], (.atm (.v 0)), false, []⟩
def sg51 : Sig := ⟨60, 2, [], [(.agg [(.atm (.v 0)), (.atm (.v 1))])], 1, [], (.atm (.v 0)), false, []⟩
def sg52 : Sig := ⟨61, 4, [], [(.agg [(.atm (.v 0)), (.atm (.v 1))]), (.atm (.v 2)), (.atm (.v 3))], 1, [], (.atm (.v 0)), false, []⟩
def sg53 : Sig := ⟨64, 3, [], [(.agg [(.atm (.v 0)), (.atm (.v 1)), (.atm (.v 2))])], 1, [], (.atm (.v 0)), false, []⟩
def sg54 : Sig := ⟨65, 3, [], [(.agg [(.atm (.v 0)), (.atm (.v 1)), (.atm (.v 2))])], 1, [], (.atm (.v 0)), true, []⟩
def sg55 : Sig := ⟨66, 2, [], [(.atm (.v 0)), (.atm (.v 1))], 1, [], (.atm (.v 0)), false, []⟩
def sg56 : Sig := ⟨68, 2, [], [(.atm (.v 0)), (.atm (.v 1))], 1, [], (.atm (.v 0)), true, []⟩
def sg57 : Sig := ⟨67, 4, [], [(.agg [(.atm (.v 0)), (.atm (.v 1)), (.atm (.v 2))]), (.atm (.v 3))], 1, [], (.atm (.v 0)), false, []⟩
def sg58 : Sig := ⟨69, 5, [], [(.agg [(.atm (.v 0)), (.atm (.v 1))]), (.agg [(.atm (.v 2)), (.atm (.v 3)), (.atm (.v 4))])], 3, [], (.tup [(.atm (.v 0)), (.atm (.v 1)), (.atm (.v 2))]), false, []⟩
def sg59 : Sig := ⟨70, 2, [], [(.atm (.v 0)), (.atm (.v 1))], 4, [], (.tup [(.agg [(.atm (.v 0)), (.atm (.v 1)), (.atm (.v 2))]), (.atm (.v 3))]), true, []⟩
def sg60 : Sig := ⟨62, 2, [], [(.atm (.v 0)), (.atm (.v 1))], 1, [], (.atm (.v 0)), false, []⟩
def sg61 : Sig := ⟨71, 1, [], [(.atm (.v 0))], 1, [], (.atm (.v 0)), false, []⟩
def sg62 : Sig := ⟨72, 1, [], [(.atm (.v 0))], 1, [], (.atm (.v 0)), false, []⟩
def sg63 : Sig := ⟨73, 1, [⟨false, false, 22, 1, (.c (.sl [])), [[(.atm (.v 0))]]⟩], [(.clo 75 [] [(.ptr 0 0 0)])], 2, [⟨false, false, 22, 1, (.c (.sl [])), [[(.atm (.v 1))]]⟩, ⟨false, true, 3, 1, (.v 0), []⟩], (.own 1), true, []⟩
def sg64 : Sig := ⟨74, 1, [⟨false, true, 3, 1, (.v 0), []⟩], [(.own 0)], 1, [⟨false, true, 3, 1, (.v 0), []⟩], (.tup []), false, [0]⟩
def sg65 : Sig := ⟨76, 2, [], [(.atm (.v 0)), (.atm (.v 1))], 1, [], (.atm (.v 0)), false, []⟩
def sg66 : Sig := ⟨77, 1, [], [(.atm (.v 0))], 1, [], (.atm (.v 0)), false, []⟩
def sg67 : Sig := ⟨78, 2, [], [(.atm (.v 0)), (.atm (.v 1))], 1, [], (.atm (.v 0)), false, []⟩
def sg68 : Sig := ⟨79, 3, [], [(.agg [(.atm (.v 0)), (.atm (.v 1)), (.atm (.v 2))])], 1, [], (.atm (.v 0)), false, []⟩
def sg69 : Sig := ⟨80, 3, [], [(.agg [(.atm (.v 0)), (.atm (.v 1)), (.atm (.v 2))])], 1, [], (.atm (.v 0)), false, []⟩
def sg70 : Sig := ⟨81, 3, [], [(.agg [(.atm (.v 0)), (.atm (.v 1)), (.atm (.v 2))])], 1, [], (.atm (.v 0)), false, []⟩
def sg71 : Sig := ⟨82, 3, [], [(.agg [(.atm (.v 0)), (.atm (.v 1)), (.atm (.v 2))])], 1, [], (.atm (.v 0)), false, []⟩
def sg72 : Sig := ⟨83, 4, [], [(.atm (.v 0)), (.agg [(.atm (.v 1)), (.atm (.v 2)), (.atm (.v 3))])], 1, [], (.atm (.v 0)), true, []⟩
def sg73 : Sig := ⟨84, 4, [], [(.agg [(.atm (.v 0)), (.atm (.v 1)), (.atm (.v 2))]), (.atm (.v 3))], 1, [], (.atm (.v 0)), false, []⟩
def sg74 : Sig := ⟨85, 4, [], [(.atm (.v 0)), (.agg [(.atm (.v 1)), (.atm (.v 2)), (.atm (.v 3))])], 2, [], (.tup [(.atm (.v 0)), (.atm (.v 1))]), false, []⟩
def sg75 : Sig := ⟨86, 1, [], [(.atm (.v 0))], 1, [], (.atm (.v 0)), false, []⟩
def sg76 : Sig := ⟨87, 2, [], [(.atm (.v 0)), (.atm (.v 1))], 3, [], (.agg [(.atm (.v 0)), (.atm (.v 1)), (.atm (.v 2))]), true, []⟩
def sg77 : Sig := ⟨91, 1, [], [(.atm (.v 0))], 1, [], (.atm (.v 0)), false, []⟩
def sg78 : Sig := ⟨92, 2, [], [(.atm (.v 0)), (.atm (.v 1))], 1, [], (.atm (.v 0)), true, []⟩
def sg79 : Sig := ⟨93, 3, [], [(.agg [(.atm (.v 0)), (.atm (.v 1)), (.atm (.v 2))])], 1, [], (.atm (.v 0)), false, []⟩
def sg80 : Sig := ⟨94, 3, [], [(.agg [(.atm (.v 0)), (.atm (.v 1)), (.atm (.v 2))])], 1, [], (.atm (.v 0)), true, []⟩
def sg81 : Sig := ⟨95, 2, [], [(.atm (.v 0)), (.atm (.v 1))], 1, [], (.atm (.v 0)), false, []⟩
def sg82 : Sig := ⟨96, 4, [], [(.atm (.v 0)), (.agg [(.atm (.v 1)), (.atm (.v 2)), (.atm (.v 3))])], 1, [], (.atm (.v 0)), false, []⟩
def sg83 : Sig := ⟨97, 1, [], [(.atm (.v 0))], 1, [], (.atm (.v 0)), false, []⟩
def sg84 : Sig := ⟨98, 3, [], [(.atm (.v 0)), (.atm (.v 1)), (.atm (.v 2))], 1, [], (.atm (.v 0)), false, []⟩
def sg85 : Sig := ⟨99, 6, [], [(.agg [(.atm (.v 0)), (.atm (.v 1)), (.atm (.v 2))]), (.agg [(.atm (.v 3)), (.atm (.v 4)), (.atm (.v 5))])], 1, [], (.atm (.v 0)), false, []⟩
def sg86 : Sig := ⟨100, 7, [], [(.atm (.v 0)), (.agg [(.atm (.v 1)), (.atm (.v 2)), (.atm (.v 3))]), (.agg [(.atm (.v 4)), (.atm (.v 5)), (.atm (.v 6))])], 3, [], (.agg [(.atm (.v 0)), (.atm (.v 1)), (.atm (.v 2))]), true, []⟩
def sg87 : Sig := ⟨111, 3, [], [(.agg [(.atm (.v 0)), (.atm (.v 1)), (.atm (.v 2))])], 1, [], (.atm (.v 0)), false, []⟩
def sg88 : Sig := ⟨112, 3, [], [(.agg [(.atm (.v 0)), (.atm (.v 1)), (.atm (.v 2))])], 1, [], (.atm (.v 0)), false, []⟩
def sg89 : Sig := ⟨113, 3, [], [(.agg [(.atm (.v 0)), (.atm (.v 1)), (.atm (.v 2))]), (.atm (.c (fnD 114)))], 1, [], (.atm (.v 0)), false, []⟩
def sg90 : Sig := ⟨113, 3, [], [(.agg [(.atm (.v 0)), (.atm (.v 1)), (.atm (.v 2))]), (.atm (.c (fnD 115)))], 1, [], (.atm (.v 0)), false, []⟩
def sg91 : Sig := ⟨119, 2, [], [(.atm (.v 0)), (.atm (.v 1))], 1, [], (.atm (.v 0)), false, []⟩
def sg92 : Sig := ⟨120, 1, [], [(.atm (.v 0))], 1, [], (.atm (.v 0)), false, []⟩
def sg93 : Sig := ⟨121, 2, [], [(.atm (.v 0)), (.atm (.v 1))], 1, [], (.atm (.v 0)), false, []⟩
def sg94 : Sig := ⟨114, 3, [], [(.agg [(.atm (.v 0)), (.atm (.v 1)), (.atm (.v 2))])], 1, [], (.atm (.v 0)), false, []⟩
def sg95 : Sig := ⟨115, 3, [], [(.agg [(.atm (.v 0)), (.atm (.v 1)), (.atm (.v 2))])], 1, [], (.atm (.v 0)), false, []⟩
def sigs : List Sig := [sg0, sg1, sg2, sg3, sg4, sg5, sg6, sg7, sg8, sg9, sg10, sg11, sg12, sg13, sg14, sg15, sg16, sg17, sg18, sg19, sg20, sg21, sg22, sg23, sg24, sg25, sg26, sg27, sg28, sg29, sg30, sg31, sg32, sg33, sg34, sg35, sg36, sg37, sg38, sg39, sg40, sg41, sg42, sg43, sg44, sg45, sg46, sg47, sg48, sg49, sg50, sg51, sg52, sg53, sg54, sg55, sg56, sg57, sg58, sg59, sg60, sg61, sg62, sg63, sg64, sg65, sg66, sg67, sg68, sg69, sg70, sg71, sg72, sg73, sg74, sg75, sg76, sg77, sg78, sg79, sg80, sg81, sg82, sg83, sg84, sg85, sg86, sg87, sg88, sg89, sg90, sg91, sg92, sg93, sg94, sg95]
/- 0:deliberationlaw31.OrderLeast -/
def an0 : Ann := (.s none .z (.s none .z (.s none .z (.s none .z (.s none .z (.s none .z (.s none .z (.s none (.s (some ⟨1, [(0, .junk), (2, .junk), (3, .junk), (6, .junk), (10, .junk), (11, .junk), (12, .junk), (13, .junk), (14, .junk), (15, .junk), (16, .junk), (17, .junk), (18, .junk), (19, .junk), (20, .junk), (21, .junk), (22, .junk), (23, .junk), (24, .junk), (25, .junk), (26, .junk), (27, .junk), (28, .junk), (29, .junk), (30, .junk), (31, .junk), (32, .junk), (43, (.atm (.v 0)))], [], 2, []⟩) .z .z) .z))))))))
def ir0p0 : IR :=
 (.ite (.v 21)
  (.ret [(.c (.bool false))])
 (.op (.bin .and false) [(.v 19), (.v 18)]
 (.op (.bin .eql false) [(.v 22), (.c (.int .u64 0))]
 (.ite (.v 23)
  (.call 14 1 false [] [(.v 6), (.v 7)]
  (.call 13 1 false [] [(.v 6), (.v 7), (.v 10)]
  (.op (.bin .eql false) [(.v 24), (.v 25)]
  (.ite (.v 26)
   (.call 15 1 false [] []
   (.ret [(.v 27)]))
  (.ret [(.c (.bool false))])))))
 (.op (.bin .and false) [(.v 19), (.v 18)]
 (.op (.bin .eql false) [(.v 20), (.v 24)]
 (.ite (.v 25)
  (.call 14 1 false [] [(.v 6), (.v 7)]
  (.call 13 1 false [] [(.v 6), (.v 7), (.v 10)]
  (.op (.bin .eql false) [(.v 26), (.v 27)]
  (.ite (.v 28)
   (.call 15 1 false [] []
   (.ret [(.v 29)]))
  (.ret [(.c (.bool false))])))))
 (.ret [(.c (.bool false))]))))))))
def ir0 : IR :=
 (.call 8 2 false [] [(.v 0)]
 (.call 9 3 false [] [(.c (.int .i64 0)), (.c (.int .i64 3)), (.v 1), (.v 2)]
 (.call 10 4 false [] [(.v 3), (.v 4), (.v 5)]
 (.call 11 1 false [] [(.v 6)]
 (.call 12 3 false [] [(.v 8), (.v 9)]
 (.op (.bin .and false) [(.v 11), (.v 10)]
 (.call 12 3 false [] [(.v 12), (.v 13)]
 (.op (.bin .and false) [(.v 14), (.v 15)]
 (.call 13 1 false [] [(.v 6), (.v 7), (.v 14)]
 (.call 13 1 false [] [(.v 6), (.v 7), (.v 18)]
 (.letj 1
  (.op (.bin .andNot false) [(.v 19), (.v 14)]
  (.op (.bin .neq false) [(.v 21), (.c (.int .u64 0))]
  (.ite (.v 22)
   (.jump 0 [(.c (.bool true))])
  (.op (.bin .eql false) [(.v 19), (.c (.int .u64 0))]
  (.op (.bin .eql false) [(.v 14), (.c (.int .u64 0))]
  (.op (.bin .neq true) [(.v 23), (.v 24)]
  (.jump 0 [(.v 25)])))))))
 ir0p0)))))))))))
theorem rd0 : readFn T SG sigs 3000 sg0 Try.f3 an0 = some ir0 := by kernel_rfl
/- 1:deliberationlaw31.OrderLevels -/
def an1 : Ann := (.s none .z (.s none .z (.s none .z (.s none .z (.s none (.s none .z (.b (.l ⟨4, [(0, .junk), (4, .junk), (8, (.atm (.v 0))), (18, .junk), (19, .junk), (20, .junk), (21, .junk)], [(0, ⟨false, false, 66, 2, (.c (.sl [])), [[(.atm (.v 1)), (.atm (.v 2))]]⟩), (1, ⟨false, true, 3, 1, (.v 3), []⟩)], 2, [⟨none, 7, 3, 1⟩]⟩ (.s none .z (.s (some ⟨3, [(22, .junk), (23, .junk), (24, .junk), (25, .junk), (26, .junk)], [(0, ⟨false, false, 66, 2, (.c (.sl [])), [[(.atm (.v 0)), (.atm (.v 1))]]⟩), (1, ⟨false, true, 3, 1, (.v 2), []⟩)], 2, []⟩) .z .z))))) (.s none .z (.s none (.s (some ⟨1, [(1, .junk), (5, .junk), (6, .junk), (8, .junk), (10, .junk), (22, .junk), (23, .junk), (24, .junk), (25, .junk), (26, .junk), (45, .junk), (46, .junk), (47, .junk), (48, .junk), (49, .junk), (50, .junk), (51, .junk), (66, (.atm (.v 0)))], [], 3, []⟩) .z .z) (.s none (.s none .z (.b (.l ⟨1, [(11, (.atm (.v 0))), (66, .junk)], [], 3, []⟩ (.s none .z (.s none (.b (.s none .z (.b (.l ⟨1, [(12, (.atm (.v 0))), (67, .junk), (68, .junk), (69, .junk), (70, .junk)], [], 3, []⟩ .z)))) .z))))) (.s none .z (.s none .z (.s none (.s none .z (.b (.l ⟨2, [(7, .junk), (11, .junk), (14, (.atm (.v 0))), (15, (.atm (.v 1))), (67, .junk), (68, .junk), (69, .junk), (70, .junk), (100, .junk), (101, .junk)], [], 3, []⟩ (.s none .z (.s none (.b (.s none (.s (some ⟨1, [(102, .junk), (103, .junk), (104, .junk), (105, .junk), (121, (.atm (.v 0)))], [], 3, []⟩) .z .z) .z)) .z))))) .z)))))))))))
def ir1p0 : IR :=
 (.op (.bin .add false) [(.v 7), (.c (.int .i64 1))]
 (.jump 0 [(.v 17), (.v 14), (.v 15), (.v 16)]))
def ir1p1 : IR :=
 (.op .lenL [(.v 10)]
 (.op (.bin .lss false) [(.v 22), (.v 23)]
 (.ite (.v 24)
  (.op .chk [(.v 10), (.v 19)]
  (.op (.get 0 1) [(.v 10), (.v 19)]
  (.op .chk [(.v 10), (.v 22)]
  (.op (.get 0 1) [(.v 10), (.v 22)]
  (.op (.bin .lss false) [(.v 25), (.v 26)]
  (.op (.row 1) [(.v 16), (.v 19)]
  (.op (.row 1) [(.v 16), (.v 22)]
  (.op (.bin .lss false) [(.v 28), (.v 29)]
  (.op (.bin .neq true) [(.v 27), (.v 30)]
  (.ite (.v 31)
   (.ret [(.c (.bool false))])
  (.op (.bin .add false) [(.v 22), (.c (.int .i64 1))]
  (.jump 2 [(.v 32)]))))))))))))
 (.op (.bin .add false) [(.v 19), (.c (.int .i64 1))]
 (.jump 1 [(.v 25)])))))
def ir1p2 : IR :=
 (.ite (.v 27)
  (.ret [(.c (.bool false))])
 (.op (.row 1) [(.v 22), (.v 24)]
 (.op (.bin .or false) [(.v 23), (.v 28)]
 (.op (.bin .add false) [(.v 24), (.c (.int .i64 1))]
 (.jump 2 [(.v 29), (.v 30)])))))
def ir1p3 : IR :=
 (.op .lenL [(.v 22)]
 (.op (.bin .lss false) [(.v 24), (.v 25)]
 (.ite (.v 26)
  (.letj 1
   (.op (.row 1) [(.v 22), (.v 24)]
   (.op (.bin .eql false) [(.v 27), (.c (.int .u64 0))]
   (.ite (.v 28)
    (.jump 3 [(.c (.bool true))])
   (.op (.row 1) [(.v 22), (.v 24)]
   (.op (.bin .and false) [(.v 29), (.v 23)]
   (.op (.bin .neq false) [(.v 30), (.c (.int .u64 0))]
   (.jump 3 [(.v 31)])))))))
  ir1p2)
 (.call 21 3 false [] [(.v 15), (.v 22)]
 (.op (.bin .eql false) [(.v 29), (.c (.int .i64 0))]
 (.ite (.v 30)
  (.call 11 1 false [] [(.v 15)]
  (.op (.bin .eql false) [(.v 23), (.v 31)]
  (.ite (.v 32)
   (.call 22 1 false [] [(.v 15), (.v 16), (.v 27), (.v 28)]
   (.ite (.v 33)
    (.call 15 1 false [] []
    (.ret [(.v 34)]))
   (.ret [(.c (.bool false))])))
  (.ret [(.c (.bool false))]))))
 (.ret [(.c (.bool false))])))))))
def ir1p4 : IR :=
 (.op .lenL [(.v 10)]
 (.op (.bin .lss false) [(.v 19), (.v 20)]
 (.ite (.v 21)
  (.loop 1 [(.c (.int .i64 0))] ir1p1)
 (.call 20 1 false [] [(.v 15), (.v 16)]
 (.loop 2 [(.c (.int .u64 0)), (.c (.int .i64 0))] ir1p3)))))
def ir1p5 : IR :=
 (.ite (.v 18)
  (.ret [(.c (.bool false))])
 (.loop 1 [(.c (.int .i64 0))] ir1p4))
def ir1p6 : IR :=
 (.op (.conv .u64) [(.v 4)]
 (.op (.bin .shl false) [(.c (.int .i64 1)), (.v 11)]
 (.op (.bin .lss false) [(.v 7), (.v 12)]
 (.ite (.v 13)
  (.letj 3
   (.op .lenL [(.v 1)]
   (.op (.bin .lss false) [(.v 7), (.v 14)]
   (.ite (.v 15)
    (.op (.row 1) [(.v 1), (.v 7)]
    (.op (.mk 1 1) [(.v 16)]
    (.op (.app 1 8) [(.v 10), (.v 17)]
    (.jump 1 [(.v 8), (.v 9), (.v 18)]))))
   (.call 16 3 false [] [(.c (.int .i64 5)), (.v 8), (.v 9)]
   (.op (.mk 1 1) [(.v 16)]
   (.op (.app 1 8) [(.v 10), (.v 19)]
   (.jump 1 [(.v 17), (.v 18), (.v 20)])))))))
  ir1p0)
 (.call 17 1 false [] [(.v 4)]
 (.call 18 3 false [] [(.v 14), (.v 10)]
 (.letj 1
  (.op (.bin .neq false) [(.v 17), (.c (.int .i64 0))]
  (.ite (.v 18)
   (.jump 1 [(.c (.bool true))])
  (.call 19 1 false [] [(.v 15), (.v 16)]
  (.op (.bin .neq false) [(.v 19), (.c (.int .i64 0))]
  (.ite (.v 20)
   (.jump 1 [(.c (.bool true))])
  (.op .lenL [(.v 16)]
  (.op .lenL [(.v 10)]
  (.op (.bin .neq false) [(.v 21), (.v 22)]
  (.jump 1 [(.v 23)])))))))))
 ir1p5)))))))
def ir1 : IR :=
 (.call 8 2 false [] [(.v 0)]
 (.call 9 3 false [] [(.c (.int .i64 0)), (.c (.int .i64 4)), (.v 2), (.v 3)]
 (.loop 4 [(.c (.int .i64 0)), (.v 5), (.v 6), (.c (.sl []))] ir1p6)))
theorem rd1 : readFn T SG sigs 3000 sg1 Try.f4 an1 = some ir1 := by kernel_rfl
/- 2:deliberationlaw31.OrderRefines -/
def an2 : Ann := (.s none .z (.s none .z (.s none .z (.s none .z (.s none .z (.s none .z (.s none .z (.s none .z (.s none .z (.s none .z (.s none .z (.s none .z (.s none (.s (some ⟨1, [(0, .junk), (2, .junk), (3, .junk), (4, .junk), (7, .junk), (8, .junk), (9, .junk), (11, .junk), (12, .junk), (13, .junk), (15, .junk), (17, .junk), (19, .junk), (21, .junk), (23, .junk), (24, .junk), (25, .junk), (26, .junk), (27, .junk), (28, .junk), (29, .junk), (30, .junk), (31, .junk), (32, .junk), (33, .junk), (34, .junk), (35, .junk), (36, .junk), (37, .junk), (38, .junk), (39, .junk), (40, .junk), (41, .junk), (42, .junk), (43, .junk), (44, .junk), (45, .junk), (46, .junk), (47, .junk), (48, .junk), (49, .junk), (50, .junk), (51, .junk), (52, .junk), (53, .junk), (54, .junk), (55, .junk), (56, .junk), (57, .junk), (58, .junk), (59, .junk), (60, .junk), (61, .junk), (62, .junk), (63, .junk), (64, .junk), (65, .junk), (66, .junk), (67, .junk), (68, .junk), (69, .junk), (70, .junk), (71, .junk), (72, .junk), (73, .junk), (74, .junk), (75, .junk), (76, .junk), (77, .junk), (78, .junk), (79, .junk), (80, .junk), (81, .junk), (82, .junk), (83, .junk), (84, .junk), (85, .junk), (86, .junk), (87, .junk), (88, .junk), (118, (.atm (.v 0)))], [], 22, []⟩) .z .z) .z)))))))))))))
def ir2p0 : IR :=
 (.ite (.v 46)
  (.ret [(.c (.bool false))])
 (.call 22 1 false [] [(.v 31), (.v 32), (.v 34), (.v 35)]
 (.ite (.v 47)
  (.call 22 1 false [] [(.v 37), (.v 38), (.v 6), (.v 7)]
  (.ite (.v 48)
   (.call 22 1 false [] [(.v 40), (.v 41), (.v 6), (.v 7)]
   (.ite (.v 49)
    (.call 22 1 false [] [(.v 43), (.v 44), (.v 6), (.v 7)]
    (.ite (.v 50)
     (.call 14 1 false [] [(.v 25), (.v 26)]
     (.call 24 1 false [] [(.v 6), (.v 7)]
     (.call 25 1 false [] [(.v 10), (.v 11), (.v 52)]
     (.op (.bin .eql false) [(.v 51), (.v 53)]
     (.ite (.v 54)
      (.call 15 1 false [] []
      (.ret [(.v 55)]))
     (.ret [(.c (.bool false))]))))))
    (.ret [(.c (.bool false))])))
   (.ret [(.c (.bool false))])))
  (.ret [(.c (.bool false))])))
 (.ret [(.c (.bool false))]))))
def ir2 : IR :=
 (.call 8 2 false [] [(.v 0)]
 (.call 9 3 false [] [(.c (.int .i64 0)), (.c (.int .i64 3)), (.v 1), (.v 2)]
 (.call 10 4 false [] [(.v 3), (.v 4), (.v 5)]
 (.call 10 4 false [] [(.v 3), (.v 8), (.v 9)]
 (.call 10 4 false [] [(.v 3), (.v 12), (.v 13)]
 (.call 17 1 false [] [(.v 3)]
 (.op (.conv .u64) [(.v 3)]
 (.op (.bin .shl false) [(.c (.int .i64 1)), (.v 19)]
 (.op (.mkL 8 [(.int .i64 0)]) [(.v 20)]
 (.call 18 3 false [] [(.v 18), (.v 21)]
 (.call 23 3 false [] [(.v 6), (.v 7), (.v 10), (.v 11)]
 (.call 23 3 false [] [(.v 10), (.v 11), (.v 14), (.v 15)]
 (.call 23 3 false [] [(.v 25), (.v 26), (.v 14), (.v 15)]
 (.call 23 3 false [] [(.v 6), (.v 7), (.v 28), (.v 29)]
 (.call 23 3 false [] [(.v 6), (.v 7), (.v 6), (.v 7)]
 (.call 23 3 false [] [(.v 6), (.v 7), (.v 22), (.v 23)]
 (.call 23 3 false [] [(.v 22), (.v 23), (.v 6), (.v 7)]
 (.letj 1
  (.op (.bin .neq false) [(.v 24), (.c (.int .i64 0))]
  (.ite (.v 46)
   (.jump 0 [(.c (.bool true))])
  (.op (.bin .neq false) [(.v 27), (.c (.int .i64 0))]
  (.ite (.v 47)
   (.jump 0 [(.c (.bool true))])
  (.op (.bin .neq false) [(.v 30), (.c (.int .i64 0))]
  (.ite (.v 48)
   (.jump 0 [(.c (.bool true))])
  (.op (.bin .neq false) [(.v 33), (.c (.int .i64 0))]
  (.ite (.v 49)
   (.jump 0 [(.c (.bool true))])
  (.op (.bin .neq false) [(.v 36), (.c (.int .i64 0))]
  (.ite (.v 50)
   (.jump 0 [(.c (.bool true))])
  (.op (.bin .neq false) [(.v 39), (.c (.int .i64 0))]
  (.ite (.v 51)
   (.jump 0 [(.c (.bool true))])
  (.op (.bin .neq false) [(.v 42), (.c (.int .i64 0))]
  (.ite (.v 52)
   (.jump 0 [(.c (.bool true))])
  (.op (.bin .neq false) [(.v 45), (.c (.int .i64 0))]
  (.jump 0 [(.v 53)]))))))))))))))))
 ir2p0))))))))))))))))))
theorem rd2 : readFn T SG sigs 3000 sg2 Try.f5 an2 = some ir2 := by kernel_rfl
/- 3:deliberationlaw31.OrderMakes: not read -/
/- 4:deliberationlaw33.ChangeContraction -/
def an4 : Ann := (.s none .z (.s none .z (.s none .z (.s none .z (.s none .z (.s none .z (.s none .z (.s none .z (.s none .z (.s none .z (.s none .z (.s none .z (.s none (.s (some ⟨1, [(0, .junk), (2, .junk), (3, .junk), (4, .junk), (5, .junk), (6, .junk), (7, .junk), (10, .junk), (13, .junk), (15, .junk), (17, .junk), (19, .junk), (20, .junk), (21, .junk), (22, .junk), (23, .junk), (24, .junk), (25, .junk), (26, .junk), (27, .junk), (28, .junk), (29, .junk), (30, .junk), (31, .junk), (32, .junk), (33, .junk), (34, .junk), (35, .junk), (36, .junk), (37, .junk), (38, .junk), (39, .junk), (40, .junk), (41, .junk), (42, .junk), (43, .junk), (44, .junk), (45, .junk), (46, .junk), (47, .junk), (48, .junk), (49, .junk), (50, .junk), (51, .junk), (52, .junk), (53, .junk), (54, .junk), (55, .junk), (56, .junk), (57, .junk), (58, .junk), (59, .junk), (60, .junk), (61, .junk), (62, .junk), (63, .junk), (64, .junk), (65, .junk), (66, .junk), (67, .junk), (68, .junk), (69, .junk), (70, .junk), (71, .junk), (72, .junk), (73, .junk), (87, (.atm (.v 0)))], [], 5, []⟩) .z .z) .z)))))))))))))
def ir4p0 : IR :=
 (.ite (.v 36)
  (.ret [(.c (.bool false))])
 (.op (.bin .andNot false) [(.v 20), (.v 24)]
 (.op (.bin .eql false) [(.v 37), (.c (.int .u64 0))]
 (.ite (.v 38)
  (.op (.bin .andNot false) [(.v 20), (.v 21)]
  (.op (.bin .eql false) [(.v 39), (.c (.int .u64 0))]
  (.ite (.v 40)
   (.op (.bin .eql false) [(.v 21), (.v 23)]
   (.ite (.v 41)
    (.op (.bin .and false) [(.v 24), (.v 21)]
    (.op (.bin .and false) [(.v 20), (.v 21)]
    (.op (.bin .eql false) [(.v 42), (.v 43)]
    (.ite (.v 44)
     (.op (.bin .eql false) [(.v 34), (.v 24)]
     (.ite (.v 45)
      (.op (.bin .or false) [(.v 24), (.v 26)]
      (.op (.bin .andNot false) [(.v 29), (.v 46)]
      (.op (.bin .eql false) [(.v 47), (.c (.int .u64 0))]
      (.ite (.v 48)
       (.op (.bin .andNot false) [(.v 29), (.v 21)]
       (.op (.bin .eql false) [(.v 49), (.c (.int .u64 0))]
       (.ite (.v 50)
        (.call 30 1 false [] []
        (.ret [(.v 51)]))
       (.op (.bin .andNot false) [(.v 24), (.v 29)]
       (.op (.bin .eql false) [(.v 51), (.c (.int .u64 0))]
       (.ite (.v 52)
        (.call 30 1 false [] []
        (.ret [(.v 53)]))
       (.ret [(.c (.bool false))])))))))
      (.ret [(.c (.bool false))])))))
     (.ret [(.c (.bool false))])))
    (.ret [(.c (.bool false))])))))
   (.op (.bin .andNot false) [(.v 24), (.v 21)]
   (.op (.bin .neq false) [(.v 42), (.c (.int .u64 0))]
   (.ite (.v 43)
    (.op (.bin .and false) [(.v 24), (.v 21)]
    (.op (.bin .and false) [(.v 20), (.v 21)]
    (.op (.bin .eql false) [(.v 44), (.v 45)]
    (.ite (.v 46)
     (.op (.bin .eql false) [(.v 34), (.v 24)]
     (.ite (.v 47)
      (.op (.bin .or false) [(.v 24), (.v 26)]
      (.op (.bin .andNot false) [(.v 29), (.v 48)]
      (.op (.bin .eql false) [(.v 49), (.c (.int .u64 0))]
      (.ite (.v 50)
       (.op (.bin .andNot false) [(.v 29), (.v 21)]
       (.op (.bin .eql false) [(.v 51), (.c (.int .u64 0))]
       (.ite (.v 52)
        (.call 30 1 false [] []
        (.ret [(.v 53)]))
       (.op (.bin .andNot false) [(.v 24), (.v 29)]
       (.op (.bin .eql false) [(.v 53), (.c (.int .u64 0))]
       (.ite (.v 54)
        (.call 30 1 false [] []
        (.ret [(.v 55)]))
       (.ret [(.c (.bool false))])))))))
      (.ret [(.c (.bool false))])))))
     (.ret [(.c (.bool false))])))
    (.ret [(.c (.bool false))])))))
   (.ret [(.c (.bool false))]))))))
  (.op (.bin .eql false) [(.v 24), (.v 20)]
  (.ite (.v 41)
   (.op (.bin .eql false) [(.v 21), (.v 23)]
   (.ite (.v 42)
    (.op (.bin .and false) [(.v 24), (.v 21)]
    (.op (.bin .and false) [(.v 20), (.v 21)]
    (.op (.bin .eql false) [(.v 43), (.v 44)]
    (.ite (.v 45)
     (.op (.bin .eql false) [(.v 34), (.v 24)]
     (.ite (.v 46)
      (.op (.bin .or false) [(.v 24), (.v 26)]
      (.op (.bin .andNot false) [(.v 29), (.v 47)]
      (.op (.bin .eql false) [(.v 48), (.c (.int .u64 0))]
      (.ite (.v 49)
       (.op (.bin .andNot false) [(.v 29), (.v 21)]
       (.op (.bin .eql false) [(.v 50), (.c (.int .u64 0))]
       (.ite (.v 51)
        (.call 30 1 false [] []
        (.ret [(.v 52)]))
       (.op (.bin .andNot false) [(.v 24), (.v 29)]
       (.op (.bin .eql false) [(.v 52), (.c (.int .u64 0))]
       (.ite (.v 53)
        (.call 30 1 false [] []
        (.ret [(.v 54)]))
       (.ret [(.c (.bool false))])))))))
      (.ret [(.c (.bool false))])))))
     (.ret [(.c (.bool false))])))
    (.ret [(.c (.bool false))])))))
   (.op (.bin .andNot false) [(.v 24), (.v 21)]
   (.op (.bin .neq false) [(.v 43), (.c (.int .u64 0))]
   (.ite (.v 44)
    (.op (.bin .and false) [(.v 24), (.v 21)]
    (.op (.bin .and false) [(.v 20), (.v 21)]
    (.op (.bin .eql false) [(.v 45), (.v 46)]
    (.ite (.v 47)
     (.op (.bin .eql false) [(.v 34), (.v 24)]
     (.ite (.v 48)
      (.op (.bin .or false) [(.v 24), (.v 26)]
      (.op (.bin .andNot false) [(.v 29), (.v 49)]
      (.op (.bin .eql false) [(.v 50), (.c (.int .u64 0))]
      (.ite (.v 51)
       (.op (.bin .andNot false) [(.v 29), (.v 21)]
       (.op (.bin .eql false) [(.v 52), (.c (.int .u64 0))]
       (.ite (.v 53)
        (.call 30 1 false [] []
        (.ret [(.v 54)]))
       (.op (.bin .andNot false) [(.v 24), (.v 29)]
       (.op (.bin .eql false) [(.v 54), (.c (.int .u64 0))]
       (.ite (.v 55)
        (.call 30 1 false [] []
        (.ret [(.v 56)]))
       (.ret [(.c (.bool false))])))))))
      (.ret [(.c (.bool false))])))))
     (.ret [(.c (.bool false))])))
    (.ret [(.c (.bool false))])))))
   (.ret [(.c (.bool false))]))))))
  (.ret [(.c (.bool false))]))))))
 (.ret [(.c (.bool false))])))))
def ir4 : IR :=
 (.call 8 2 false [] [(.v 0)]
 (.call 9 3 false [] [(.c (.int .i64 1)), (.c (.int .i64 3)), (.v 1), (.v 2)]
 (.call 10 4 false [] [(.v 3), (.v 4), (.v 5)]
 (.call 26 5 false [] [(.v 3), (.c (.int .i64 3)), (.v 8), (.v 9)]
 (.call 26 5 false [] [(.v 3), (.c (.int .i64 3)), (.v 13), (.v 14)]
 (.call 24 1 false [] [(.v 6), (.v 7)]
 (.call 27 2 false [] [(.v 6), (.v 10), (.v 11), (.v 12)]
 (.call 11 1 false [] [(.v 6)]
 (.call 28 2 false [] [(.v 6), (.v 7), (.v 10), (.v 11), (.v 12)]
 (.call 28 2 false [] [(.v 6), (.v 7), (.v 15), (.v 16), (.v 17)]
 (.op (.mk 3 2) [(.v 10), (.v 11), (.v 12), (.v 15), (.v 16), (.v 17)]
 (.call 28 2 true [] [(.v 6), (.v 7), (.c (.int .i64 5)), (.c (.str [])), (.v 28)]
 (.call 29 3 false [] [(.v 6), (.v 7), (.v 21)]
 (.call 28 2 false [] [(.v 6), (.v 7), (.v 31), (.v 32), (.v 33)]
 (.letj 1
  (.op (.bin .neq false) [(.v 25), (.c (.int .i64 0))]
  (.ite (.v 36)
   (.jump 0 [(.c (.bool true))])
  (.op (.bin .neq false) [(.v 27), (.c (.int .i64 0))]
  (.ite (.v 37)
   (.jump 0 [(.c (.bool true))])
  (.op (.bin .neq false) [(.v 30), (.c (.int .i64 0))]
  (.ite (.v 38)
   (.jump 0 [(.c (.bool true))])
  (.op (.bin .neq false) [(.v 35), (.c (.int .i64 0))]
  (.jump 0 [(.v 39)]))))))))
 ir4p0)))))))))))))))
theorem rd4 : readFn T SG sigs 3000 sg4 Try.f7 an4 = some ir4 := by kernel_rfl
/- 5:deliberationlaw33.ChangeWithdrawal -/
def an5 : Ann := (.s none .z (.s none .z (.s none .z (.s none .z (.s none .z (.s none .z (.s none .z (.s none .z (.s none .z (.s none .z (.s none .z (.s none .z (.s none (.s (some ⟨1, [(0, .junk), (2, .junk), (3, .junk), (4, .junk), (5, .junk), (6, .junk), (7, .junk), (11, .junk), (13, .junk), (15, .junk), (17, .junk), (19, .junk), (20, .junk), (21, .junk), (22, .junk), (23, .junk), (24, .junk), (25, .junk), (26, .junk), (27, .junk), (28, .junk), (29, .junk), (30, .junk), (31, .junk), (32, .junk), (33, .junk), (34, .junk), (35, .junk), (36, .junk), (37, .junk), (38, .junk), (39, .junk), (40, .junk), (41, .junk), (42, .junk), (43, .junk), (44, .junk), (45, .junk), (46, .junk), (47, .junk), (48, .junk), (49, .junk), (50, .junk), (51, .junk), (52, .junk), (53, .junk), (54, .junk), (55, .junk), (56, .junk), (57, .junk), (58, .junk), (59, .junk), (60, .junk), (61, .junk), (62, .junk), (63, .junk), (64, .junk), (65, .junk), (66, .junk), (67, .junk), (68, .junk), (69, .junk), (70, .junk), (84, (.atm (.v 0)))], [], 4, []⟩) .z .z) .z)))))))))))))
def ir5p0 : IR :=
 (.ite (.v 35)
  (.ret [(.c (.bool false))])
 (.op (.bin .andNot false) [(.v 20), (.v 24)]
 (.op (.bin .eql false) [(.v 36), (.c (.int .u64 0))]
 (.ite (.v 37)
  (.op (.bin .andNot false) [(.v 20), (.v 22)]
  (.op (.bin .eql false) [(.v 38), (.c (.int .u64 0))]
  (.ite (.v 39)
   (.op (.bin .eql false) [(.v 22), (.v 21)]
   (.ite (.v 40)
    (.op (.bin .eql false) [(.v 33), (.v 24)]
    (.ite (.v 41)
     (.op (.bin .andNot false) [(.v 28), (.v 24)]
     (.op (.bin .eql false) [(.v 42), (.c (.int .u64 0))]
     (.ite (.v 43)
      (.op (.bin .andNot false) [(.v 24), (.v 26)]
      (.op (.bin .eql false) [(.v 44), (.c (.int .u64 0))]
      (.ite (.v 45)
       (.call 30 1 false [] []
       (.ret [(.v 46)]))
      (.op (.bin .andNot false) [(.v 26), (.v 24)]
      (.op (.bin .eql false) [(.v 46), (.c (.int .u64 0))]
      (.ite (.v 47)
       (.call 30 1 false [] []
       (.ret [(.v 48)]))
      (.ret [(.c (.bool false))])))))))
     (.ret [(.c (.bool false))]))))
    (.ret [(.c (.bool false))])))
   (.op (.bin .andNot false) [(.v 24), (.v 22)]
   (.op (.bin .neq false) [(.v 41), (.c (.int .u64 0))]
   (.ite (.v 42)
    (.op (.bin .eql false) [(.v 33), (.v 24)]
    (.ite (.v 43)
     (.op (.bin .andNot false) [(.v 28), (.v 24)]
     (.op (.bin .eql false) [(.v 44), (.c (.int .u64 0))]
     (.ite (.v 45)
      (.op (.bin .andNot false) [(.v 24), (.v 26)]
      (.op (.bin .eql false) [(.v 46), (.c (.int .u64 0))]
      (.ite (.v 47)
       (.call 30 1 false [] []
       (.ret [(.v 48)]))
      (.op (.bin .andNot false) [(.v 26), (.v 24)]
      (.op (.bin .eql false) [(.v 48), (.c (.int .u64 0))]
      (.ite (.v 49)
       (.call 30 1 false [] []
       (.ret [(.v 50)]))
      (.ret [(.c (.bool false))])))))))
     (.ret [(.c (.bool false))]))))
    (.ret [(.c (.bool false))])))
   (.ret [(.c (.bool false))]))))))
  (.op (.bin .eql false) [(.v 24), (.v 20)]
  (.ite (.v 40)
   (.op (.bin .eql false) [(.v 22), (.v 21)]
   (.ite (.v 41)
    (.op (.bin .eql false) [(.v 33), (.v 24)]
    (.ite (.v 42)
     (.op (.bin .andNot false) [(.v 28), (.v 24)]
     (.op (.bin .eql false) [(.v 43), (.c (.int .u64 0))]
     (.ite (.v 44)
      (.op (.bin .andNot false) [(.v 24), (.v 26)]
      (.op (.bin .eql false) [(.v 45), (.c (.int .u64 0))]
      (.ite (.v 46)
       (.call 30 1 false [] []
       (.ret [(.v 47)]))
      (.op (.bin .andNot false) [(.v 26), (.v 24)]
      (.op (.bin .eql false) [(.v 47), (.c (.int .u64 0))]
      (.ite (.v 48)
       (.call 30 1 false [] []
       (.ret [(.v 49)]))
      (.ret [(.c (.bool false))])))))))
     (.ret [(.c (.bool false))]))))
    (.ret [(.c (.bool false))])))
   (.op (.bin .andNot false) [(.v 24), (.v 22)]
   (.op (.bin .neq false) [(.v 42), (.c (.int .u64 0))]
   (.ite (.v 43)
    (.op (.bin .eql false) [(.v 33), (.v 24)]
    (.ite (.v 44)
     (.op (.bin .andNot false) [(.v 28), (.v 24)]
     (.op (.bin .eql false) [(.v 45), (.c (.int .u64 0))]
     (.ite (.v 46)
      (.op (.bin .andNot false) [(.v 24), (.v 26)]
      (.op (.bin .eql false) [(.v 47), (.c (.int .u64 0))]
      (.ite (.v 48)
       (.call 30 1 false [] []
       (.ret [(.v 49)]))
      (.op (.bin .andNot false) [(.v 26), (.v 24)]
      (.op (.bin .eql false) [(.v 49), (.c (.int .u64 0))]
      (.ite (.v 50)
       (.call 30 1 false [] []
       (.ret [(.v 51)]))
      (.ret [(.c (.bool false))])))))))
     (.ret [(.c (.bool false))]))))
    (.ret [(.c (.bool false))])))
   (.ret [(.c (.bool false))]))))))
  (.ret [(.c (.bool false))]))))))
 (.ret [(.c (.bool false))])))))
def ir5 : IR :=
 (.call 8 2 false [] [(.v 0)]
 (.call 9 3 false [] [(.c (.int .i64 1)), (.c (.int .i64 3)), (.v 1), (.v 2)]
 (.call 10 4 false [] [(.v 3), (.v 4), (.v 5)]
 (.call 26 5 false [] [(.v 3), (.c (.int .i64 3)), (.v 8), (.v 9)]
 (.call 26 5 false [] [(.v 3), (.c (.int .i64 3)), (.v 13), (.v 14)]
 (.call 24 1 false [] [(.v 6), (.v 7)]
 (.call 11 1 false [] [(.v 6)]
 (.call 27 2 false [] [(.v 6), (.v 10), (.v 11), (.v 12)]
 (.call 31 2 false [] [(.v 6), (.v 7), (.v 10), (.v 11), (.v 12)]
 (.call 31 2 false [] [(.v 6), (.v 7), (.v 15), (.v 16), (.v 17)]
 (.call 28 2 false [] [(.v 6), (.v 7), (.v 10), (.v 11), (.v 12)]
 (.call 29 3 false [] [(.v 6), (.v 7), (.v 22)]
 (.call 31 2 false [] [(.v 6), (.v 7), (.v 30), (.v 31), (.v 32)]
 (.letj 1
  (.op (.bin .neq false) [(.v 25), (.c (.int .i64 0))]
  (.ite (.v 35)
   (.jump 0 [(.c (.bool true))])
  (.op (.bin .neq false) [(.v 27), (.c (.int .i64 0))]
  (.ite (.v 36)
   (.jump 0 [(.c (.bool true))])
  (.op (.bin .neq false) [(.v 29), (.c (.int .i64 0))]
  (.ite (.v 37)
   (.jump 0 [(.c (.bool true))])
  (.op (.bin .neq false) [(.v 34), (.c (.int .i64 0))]
  (.jump 0 [(.v 38)]))))))))
 ir5p0))))))))))))))
theorem rd5 : readFn T SG sigs 3000 sg5 Try.f8 an5 = some ir5 := by kernel_rfl
/- 6:deliberationlaw33.ChangeIdentities -/
def an6 : Ann := .z
def ir6 : IR :=
 (.call 8 2 false [] [(.v 0)]
 (.call 9 3 false [] [(.c (.int .i64 1)), (.c (.int .i64 3)), (.v 1), (.v 2)]
 (.call 10 4 false [] [(.v 3), (.v 4), (.v 5)]
 (.call 26 5 false [] [(.v 3), (.c (.int .i64 3)), (.v 8), (.v 9)]
 (.op (.mk 3 1) [(.v 10), (.v 11), (.v 12)]
 (.call 24 1 false [] [(.v 6), (.v 7)]
 (.call 27 2 false [] [(.v 6), (.v 10), (.v 11), (.v 12)]
 (.call 32 2 false [] [(.v 6), (.v 7), (.v 10), (.v 11), (.v 12)]
 (.call 28 2 true [] [(.v 6), (.v 7), (.c (.int .i64 4)), (.c (.str [])), (.v 15)]
 (.call 28 2 false [] [(.v 6), (.v 7), (.v 10), (.v 11), (.v 12)]
 (.call 32 2 true [] [(.v 6), (.v 7), (.c (.int .i64 4)), (.c (.str [])), (.v 15)]
 (.op (.bin .eql false) [(.v 20), (.c (.int .i64 0))]
 (.ite (.v 27)
  (.op (.bin .eql false) [(.v 22), (.c (.int .i64 0))]
  (.ite (.v 28)
   (.op (.bin .eql false) [(.v 24), (.c (.int .i64 0))]
   (.ite (.v 29)
    (.op (.bin .eql false) [(.v 26), (.c (.int .i64 0))]
    (.ite (.v 30)
     (.op (.bin .and false) [(.v 21), (.v 17)]
     (.op (.bin .eql false) [(.v 19), (.v 31)]
     (.ite (.v 32)
      (.op (.bin .or false) [(.v 16), (.v 25)]
      (.op (.bin .eql false) [(.v 23), (.v 33)]
      (.ite (.v 34)
       (.op (.bin .and false) [(.v 23), (.v 17)]
       (.op (.bin .and false) [(.v 16), (.v 17)]
       (.op (.bin .eql false) [(.v 35), (.v 36)]
       (.ite (.v 37)
        (.call 30 1 false [] []
        (.ret [(.v 38)]))
       (.ret [(.c (.bool false))])))))
      (.ret [(.c (.bool false))]))))
     (.ret [(.c (.bool false))]))))
    (.ret [(.c (.bool false))])))
   (.ret [(.c (.bool false))])))
  (.ret [(.c (.bool false))])))
 (.ret [(.c (.bool false))]))))))))))))))
theorem rd6 : readFn T SG sigs 3000 sg6 Try.f9 an6 = some ir6 := by kernel_rfl
/- 7:deliberationlaw33.ChangeRevision -/
def an7 : Ann := (.s none .z (.s none .z (.s none .z (.s none .z (.s none .z (.s none .z (.s none .z (.s none .z (.s none .z (.s none .z (.s none .z (.s none (.s (some ⟨1, [(0, .junk), (2, .junk), (3, .junk), (4, .junk), (5, .junk), (6, .junk), (7, .junk), (9, .junk), (11, .junk), (13, .junk), (15, .junk), (17, .junk), (19, .junk), (20, .junk), (21, .junk), (22, .junk), (23, .junk), (24, .junk), (25, .junk), (26, .junk), (27, .junk), (28, .junk), (29, .junk), (30, .junk), (31, .junk), (32, .junk), (33, .junk), (34, .junk), (35, .junk), (36, .junk), (37, .junk), (38, .junk), (39, .junk), (40, .junk), (41, .junk), (42, .junk), (43, .junk), (44, .junk), (45, .junk), (46, .junk), (47, .junk), (48, .junk), (49, .junk), (50, .junk), (51, .junk), (52, .junk), (53, .junk), (54, .junk), (55, .junk), (56, .junk), (57, .junk), (58, .junk), (59, .junk), (60, .junk), (61, .junk), (62, .junk), (63, .junk), (64, .junk), (65, .junk), (66, .junk), (67, .junk), (68, .junk), (69, .junk), (70, .junk), (71, .junk), (72, .junk), (73, .junk), (74, .junk), (75, .junk), (89, (.atm (.v 0)))], [], 5, []⟩) .z .z) .z))))))))))))
def ir7p0 : IR :=
 (.ite (.v 36)
  (.ret [(.c (.bool false))])
 (.op (.bin .andNot false) [(.v 24), (.v 20)]
 (.op (.bin .eql false) [(.v 37), (.c (.int .u64 0))]
 (.ite (.v 38)
  (.op (.bin .andNot false) [(.v 26), (.v 24)]
  (.op (.bin .eql false) [(.v 39), (.c (.int .u64 0))]
  (.ite (.v 40)
   (.op (.bin .eql false) [(.v 26), (.c (.int .u64 0))]
   (.ite (.v 41)
    (.op (.bin .neq false) [(.v 24), (.c (.int .u64 0))]
    (.ite (.v 42)
     (.op (.bin .eql false) [(.v 31), (.v 24)]
     (.ite (.v 43)
      (.op (.bin .and false) [(.v 24), (.v 22)]
      (.op (.bin .andNot false) [(.v 44), (.v 34)]
      (.op (.bin .eql false) [(.v 45), (.c (.int .u64 0))]
      (.ite (.v 46)
       (.op (.bin .and false) [(.v 24), (.v 22)]
       (.op (.bin .eql false) [(.v 47), (.c (.int .u64 0))]
       (.ite (.v 48)
        (.call 30 1 false [] []
        (.ret [(.v 49)]))
       (.op (.bin .and false) [(.v 24), (.v 22)]
       (.op (.bin .andNot false) [(.v 34), (.v 49)]
       (.op (.bin .eql false) [(.v 50), (.c (.int .u64 0))]
       (.ite (.v 51)
        (.call 30 1 false [] []
        (.ret [(.v 52)]))
       (.ret [(.c (.bool false))]))))))))
      (.ret [(.c (.bool false))])))))
     (.ret [(.c (.bool false))])))
    (.op (.bin .eql false) [(.v 20), (.c (.int .u64 0))]
    (.ite (.v 43)
     (.op (.bin .eql false) [(.v 31), (.v 24)]
     (.ite (.v 44)
      (.op (.bin .and false) [(.v 24), (.v 22)]
      (.op (.bin .andNot false) [(.v 45), (.v 34)]
      (.op (.bin .eql false) [(.v 46), (.c (.int .u64 0))]
      (.ite (.v 47)
       (.op (.bin .and false) [(.v 24), (.v 22)]
       (.op (.bin .eql false) [(.v 48), (.c (.int .u64 0))]
       (.ite (.v 49)
        (.call 30 1 false [] []
        (.ret [(.v 50)]))
       (.op (.bin .and false) [(.v 24), (.v 22)]
       (.op (.bin .andNot false) [(.v 34), (.v 50)]
       (.op (.bin .eql false) [(.v 51), (.c (.int .u64 0))]
       (.ite (.v 52)
        (.call 30 1 false [] []
        (.ret [(.v 53)]))
       (.ret [(.c (.bool false))]))))))))
      (.ret [(.c (.bool false))])))))
     (.ret [(.c (.bool false))])))
    (.ret [(.c (.bool false))])))))
   (.op (.bin .eql false) [(.v 24), (.v 26)]
   (.ite (.v 42)
    (.op (.bin .neq false) [(.v 24), (.c (.int .u64 0))]
    (.ite (.v 43)
     (.op (.bin .eql false) [(.v 31), (.v 24)]
     (.ite (.v 44)
      (.op (.bin .and false) [(.v 24), (.v 22)]
      (.op (.bin .andNot false) [(.v 45), (.v 34)]
      (.op (.bin .eql false) [(.v 46), (.c (.int .u64 0))]
      (.ite (.v 47)
       (.op (.bin .and false) [(.v 24), (.v 22)]
       (.op (.bin .eql false) [(.v 48), (.c (.int .u64 0))]
       (.ite (.v 49)
        (.call 30 1 false [] []
        (.ret [(.v 50)]))
       (.op (.bin .and false) [(.v 24), (.v 22)]
       (.op (.bin .andNot false) [(.v 34), (.v 50)]
       (.op (.bin .eql false) [(.v 51), (.c (.int .u64 0))]
       (.ite (.v 52)
        (.call 30 1 false [] []
        (.ret [(.v 53)]))
       (.ret [(.c (.bool false))]))))))))
      (.ret [(.c (.bool false))])))))
     (.ret [(.c (.bool false))])))
    (.op (.bin .eql false) [(.v 20), (.c (.int .u64 0))]
    (.ite (.v 44)
     (.op (.bin .eql false) [(.v 31), (.v 24)]
     (.ite (.v 45)
      (.op (.bin .and false) [(.v 24), (.v 22)]
      (.op (.bin .andNot false) [(.v 46), (.v 34)]
      (.op (.bin .eql false) [(.v 47), (.c (.int .u64 0))]
      (.ite (.v 48)
       (.op (.bin .and false) [(.v 24), (.v 22)]
       (.op (.bin .eql false) [(.v 49), (.c (.int .u64 0))]
       (.ite (.v 50)
        (.call 30 1 false [] []
        (.ret [(.v 51)]))
       (.op (.bin .and false) [(.v 24), (.v 22)]
       (.op (.bin .andNot false) [(.v 34), (.v 51)]
       (.op (.bin .eql false) [(.v 52), (.c (.int .u64 0))]
       (.ite (.v 53)
        (.call 30 1 false [] []
        (.ret [(.v 54)]))
       (.ret [(.c (.bool false))]))))))))
      (.ret [(.c (.bool false))])))))
     (.ret [(.c (.bool false))])))
    (.ret [(.c (.bool false))])))))
   (.ret [(.c (.bool false))])))))
  (.ret [(.c (.bool false))]))))
 (.ret [(.c (.bool false))])))))
def ir7 : IR :=
 (.call 8 2 false [] [(.v 0)]
 (.call 9 3 false [] [(.c (.int .i64 1)), (.c (.int .i64 3)), (.v 1), (.v 2)]
 (.call 10 4 false [] [(.v 3), (.v 4), (.v 5)]
 (.call 26 5 false [] [(.v 3), (.c (.int .i64 3)), (.v 8), (.v 9)]
 (.call 26 5 false [] [(.v 3), (.c (.int .i64 3)), (.v 13), (.v 14)]
 (.call 27 2 false [] [(.v 6), (.v 10), (.v 11), (.v 12)]
 (.call 27 2 false [] [(.v 6), (.v 15), (.v 16), (.v 17)]
 (.call 32 2 false [] [(.v 6), (.v 7), (.v 10), (.v 11), (.v 12)]
 (.call 33 2 false [] [(.v 6), (.v 7), (.v 10), (.v 11), (.v 12)]
 (.call 29 3 false [] [(.v 6), (.v 7), (.v 20)]
 (.call 32 2 false [] [(.v 6), (.v 7), (.v 28), (.v 29), (.v 30)]
 (.op (.mk 3 2) [(.v 10), (.v 11), (.v 12), (.v 15), (.v 16), (.v 17)]
 (.call 32 2 true [] [(.v 6), (.v 7), (.c (.int .i64 5)), (.c (.str [])), (.v 33)]
 (.letj 1
  (.op (.bin .neq false) [(.v 25), (.c (.int .i64 0))]
  (.ite (.v 36)
   (.jump 0 [(.c (.bool true))])
  (.op (.bin .neq false) [(.v 27), (.c (.int .i64 0))]
  (.ite (.v 37)
   (.jump 0 [(.c (.bool true))])
  (.op (.bin .neq false) [(.v 32), (.c (.int .i64 0))]
  (.ite (.v 38)
   (.jump 0 [(.c (.bool true))])
  (.op (.bin .neq false) [(.v 35), (.c (.int .i64 0))]
  (.jump 0 [(.v 39)]))))))))
 ir7p0))))))))))))))
theorem rd7 : readFn T SG sigs 3000 sg7 Try.f10 an7 = some ir7 := by kernel_rfl
/- 8:deliberationkeep.New -/
def an8 : Ann := .z
def ir8 : IR :=
 (.op .lenL [(.v 0)]
 (.op .min [(.v 1), (.c (.int .i64 2000))]
 (.op (.subL 1) [(.v 0), (.c (.int .i64 0)), (.v 2)]
 (.ret [(.v 3), (.c (.int .i64 0))]))))
theorem rd8 : readFn T SG sigs 3000 sg8 Try.f11 an8 = some ir8 := by kernel_rfl
/- 9:deliberationkeep.Src).Range -/
def an9 : Ann := .z
def ir9 : IR :=
 (.op (.bin .sub false) [(.v 1), (.v 0)]
 (.op (.bin .add false) [(.v 4), (.c (.int .i64 1))]
 (.call 16 3 false [] [(.v 5), (.v 2), (.v 3)]
 (.op (.bin .add false) [(.v 0), (.v 6)]
 (.ret [(.v 9), (.v 7), (.v 8)])))))
theorem rd9 : readFn T SG sigs 3000 sg9 Try.f13 an9 = some ir9 := by kernel_rfl
/- 10:deliberationref31.Some -/
def an10 : Ann := (.s none .z (.s none .z (.s none .z (.s none (.s none .z (.b (.l ⟨4, [(7, (.atm (.v 0))), (10, .junk), (11, .junk), (12, .junk), (13, .junk), (14, .junk), (15, .junk)], [(0, ⟨false, false, 66, 2, (.c (.sl [])), [[(.atm (.v 1)), (.atm (.v 2))]]⟩), (2, ⟨false, true, 3, 1, (.v 3), []⟩)], 3, []⟩ .z))) .z))))
def ir10p0 : IR :=
 (.op .lenL [(.v 12)]
 (.op (.bin .lss false) [(.v 9), (.v 13)]
 (.ite (.v 14)
  (.call 16 3 false [] [(.v 6), (.v 10), (.v 11)]
  (.op .chk [(.v 12), (.v 9)]
  (.op (.set 0 1) [(.v 12), (.v 9), (.v 15)]
  (.op (.bin .add false) [(.v 9), (.c (.int .i64 1))]
  (.jump 0 [(.v 19), (.v 16), (.v 17), (.v 18)])))))
 (.call 17 1 false [] [(.v 0)]
 (.call 34 3 false [] [(.v 15), (.v 12)]
 (.ret [(.v 16), (.v 17), (.v 10), (.v 11)]))))))
def ir10 : IR :=
 (.op (.conv .u64) [(.v 0)]
 (.op (.bin .shl false) [(.c (.int .i64 1)), (.v 3)]
 (.op (.mkL 8 [(.int .i64 0)]) [(.v 4)]
 (.call 9 3 false [] [(.c (.int .i64 1)), (.c (.int .i64 6)), (.v 1), (.v 2)]
 (.loop 4 [(.c (.int .i64 0)), (.v 7), (.v 8), (.v 5)] ir10p0)))))
theorem rd10 : readFn T SG sigs 3000 sg10 Try.f12 an10 = some ir10 := by kernel_rfl
/- 11:deliberationref03.All -/
def an11 : Ann := (.s none .z (.s none .z (.s none .z (.s none (.s none .z (.b (.l ⟨2, [(2, .junk), (3, (.atm (.v 0))), (4, (.atm (.v 1))), (5, .junk), (6, .junk), (7, .junk)], [], 0, []⟩ .z))) .z))))
def ir11p0 : IR :=
 (.call 36 1 false [] [(.v 0)]
 (.op (.bin .lss false) [(.v 4), (.v 5)]
 (.ite (.v 6)
  (.op (.conv .u64) [(.v 4)]
  (.op (.bin .shl false) [(.c (.int .u64 1)), (.v 7)]
  (.op (.bin .or false) [(.v 3), (.v 8)]
  (.op (.bin .add false) [(.v 4), (.c (.int .i64 1))]
  (.jump 0 [(.v 9), (.v 10)])))))
 (.ret [(.v 3)]))))
def ir11 : IR :=
 (.call 35 1 false [] [(.v 0)]
 (.op (.un .not) [(.v 1)]
 (.ite (.v 2)
  (.ret [(.c (.int .u64 0))])
 (.loop 2 [(.c (.int .u64 0)), (.c (.int .i64 0))] ir11p0))))
theorem rd11 : readFn T SG sigs 3000 sg11 Try.f14 an11 = some ir11 := by kernel_rfl
/- 12:deliberationkeep.Src).Set -/
def an12 : Ann := .z
def ir12 : IR :=
 (.call 16 3 false [] [(.c (.int .i64 4)), (.v 0), (.v 1)]
 (.op (.bin .eql false) [(.v 2), (.c (.int .i64 0))]
 (.ite (.v 5)
  (.call 37 3 false [] [(.v 3), (.v 4)]
  (.op (.conv .u64) [(.v 6)]
  (.ret [(.v 9), (.v 7), (.v 8)])))
 (.op (.bin .eql false) [(.v 2), (.c (.int .i64 1))]
 (.ite (.v 6)
  (.call 37 3 false [] [(.v 3), (.v 4)]
  (.op (.conv .u64) [(.v 7)]
  (.call 37 3 false [] [(.v 8), (.v 9)]
  (.op (.conv .u64) [(.v 11)]
  (.op (.bin .and false) [(.v 10), (.v 14)]
  (.ret [(.v 15), (.v 12), (.v 13)]))))))
 (.op (.bin .eql false) [(.v 2), (.c (.int .i64 2))]
 (.ite (.v 7)
  (.call 16 3 false [] [(.c (.int .i64 64)), (.v 3), (.v 4)]
  (.op (.conv .u64) [(.v 8)]
  (.op (.bin .shl false) [(.c (.int .u64 1)), (.v 11)]
  (.call 16 3 false [] [(.c (.int .i64 64)), (.v 9), (.v 10)]
  (.op (.conv .u64) [(.v 13)]
  (.op (.bin .shl false) [(.c (.int .u64 1)), (.v 16)]
  (.op (.bin .or false) [(.v 12), (.v 17)]
  (.ret [(.v 18), (.v 14), (.v 15)]))))))))
 (.call 37 3 false [] [(.v 3), (.v 4)]
 (.op (.conv .u64) [(.v 8)]
 (.op (.bin .mul false) [(.v 11), (.c (.int .u64 11400714819323198485))]
 (.call 37 3 false [] [(.v 9), (.v 10)]
 (.op (.conv .u64) [(.v 13)]
 (.op (.bin .xor false) [(.v 12), (.v 16)]
 (.ret [(.v 17), (.v 14), (.v 15)]))))))))))))))
theorem rd12 : readFn T SG sigs 3000 sg12 Try.f15 an12 = some ir12 := by kernel_rfl
/- 13:order.Least -/
def an13 : Ann := (.s none .z (.s none (.s none .z (.b (.l ⟨1, [(0, .junk), (2, .junk), (4, .junk), (7, .junk), (10, (.atm (.v 0)))], [], 1, []⟩ .z))) .z))
def ir13p0 : IR :=
 (.op (.bin .lss false) [(.v 5), (.v 4)]
 (.ite (.v 6)
  (.op (.row 1) [(.v 3), (.v 5)]
  (.op (.bin .and false) [(.v 7), (.v 2)]
  (.op (.bin .neq false) [(.v 8), (.c (.int .u64 0))]
  (.ite (.v 9)
   (.op (.bin .and false) [(.v 7), (.v 2)]
   (.ret [(.v 10)]))
  (.op (.bin .add false) [(.v 5), (.c (.int .i64 1))]
  (.jump 0 [(.v 10)]))))))
 (.ret [(.c (.int .u64 0))])))
def ir13 : IR :=
 (.call 20 1 false [] [(.v 0), (.v 1)]
 (.op .lenL [(.v 3)]
 (.loop 1 [(.c (.int .i64 0))] ir13p0)))
theorem rd13 : readFn T SG sigs 3000 sg13 Try.f16 an13 = some ir13 := by kernel_rfl
/- 14:order.Beliefs -/
def an14 : Ann := .z
def ir14 : IR :=
 (.call 13 1 false [] [(.v 0), (.v 1), (.c (.int .u64 18446744073709551615))]
 (.ret [(.v 2)]))
theorem rd14 : readFn T SG sigs 3000 sg14 Try.f17 an14 = some ir14 := by kernel_rfl
/- 15:deliberationlaw31.awake -/
def an15 : Ann := .z
def ir15 : IR :=
 (.call 17 1 false [] [(.c (.int .i64 2))]
 (.op (.mk 1 4) [(.c (.int .i64 7)), (.c (.int .i64 (-2))), (.c (.int .i64 7)), (.c (.int .i64 3))]
 (.call 18 3 false [] [(.v 0), (.v 1)]
 (.call 20 1 false [] [(.v 2), (.v 3)]
 (.op (.bin .eql false) [(.v 4), (.c (.int .i64 0))]
 (.ite (.v 6)
  (.op (.mk 1 4) [(.c (.int .i64 2)), (.c (.int .i64 0)), (.c (.int .i64 2)), (.c (.int .i64 1))]
  (.call 38 1 true [] [(.v 3), (.v 7)]
  (.ite (.v 8)
   (.op .lenL [(.v 5)]
   (.op (.bin .eql false) [(.v 9), (.c (.int .i64 3))]
   (.ite (.v 10)
    (.op (.row 1) [(.v 5), (.c (.int .i64 0))]
    (.op (.bin .eql false) [(.v 11), (.c (.int .u64 2))]
    (.ite (.v 12)
     (.op (.row 1) [(.v 5), (.c (.int .i64 1))]
     (.op (.bin .eql false) [(.v 13), (.c (.int .u64 8))]
     (.ite (.v 14)
      (.op (.row 1) [(.v 5), (.c (.int .i64 2))]
      (.op (.bin .eql false) [(.v 15), (.c (.int .u64 5))]
      (.ite (.v 16)
       (.call 13 1 false [] [(.v 2), (.v 3), (.c (.int .u64 9))]
       (.op (.bin .eql false) [(.v 17), (.c (.int .u64 8))]
       (.ret [(.v 18)])))
      (.ret [(.c (.bool false))]))))
     (.ret [(.c (.bool false))]))))
    (.ret [(.c (.bool false))]))))
   (.ret [(.c (.bool false))]))))
  (.ret [(.c (.bool false))]))))
 (.ret [(.c (.bool false))])))))))
theorem rd15 : readFn T SG sigs 3000 sg15 Try.f18 an15 = some ir15 := by kernel_rfl
/- 16:deliberationkeep.Src).N -/
def an16 : Ann := .z
def ir16 : IR :=
 (.call 37 3 false [] [(.v 1), (.v 2)]
 (.call 39 1 false [] [(.v 3), (.v 0)]
 (.ret [(.v 6), (.v 4), (.v 5)])))
theorem rd16 : readFn T SG sigs 3000 sg16 Try.f19 an16 = some ir16 := by kernel_rfl
/- 17:deliberationkeep.Voc -/
def an17 : Ann := (.s none .z (.s none .z (.s none (.s none .z (.b (.l ⟨2, [(2, .junk), (4, (.atm (.v 0)))], [(0, ⟨false, true, 9, 1, (.v 1), []⟩)], 1, [⟨none, 3, 9, 1⟩]⟩ .z))) .z)))
def ir17p0 : IR :=
 (.op (.bin .lss false) [(.v 1), (.v 0)]
 (.ite (.v 3)
  (.op (.bin .add false) [(.c (.int .i64 97)), (.v 1)]
  (.op (.conv .u8) [(.v 4)]
  (.op (.mk 1 1) [(.v 5)]
  (.op .toS [(.v 6)]
  (.op (.mk 1 1) [(.v 7)]
  (.op (.app 1 16) [(.v 2), (.v 8)]
  (.op (.bin .add false) [(.v 1), (.c (.int .i64 1))]
  (.jump 0 [(.v 10), (.v 9)]))))))))
 (.ret [(.v 2)])))
def ir17 : IR :=
 (.loop 2 [(.c (.int .i64 0)), (.c (.sl []))] ir17p0)
theorem rd17 : readFn T SG sigs 3000 sg17 Try.f21 an17 = some ir17 := by kernel_rfl
/- 18:order.Normal -/
def an18 : Ann := (.s none .z (.s none (.s (some ⟨1, [(5, .junk), (22, (.atm (.v 0)))], [], 1, []⟩) .z .z) (.s none .z (.s none .z (.s none (.s none .z (.b (.l ⟨2, [(0, .junk), (1, .junk), (22, .junk), (24, .junk), (25, .junk), (27, .junk), (28, .junk), (29, .junk), (30, .junk), (33, (.atm (.v 0)))], [(5, ⟨false, true, 3, 1, (.v 1), []⟩)], 6, [⟨some (4, 0, 1), 0, 3, 1⟩]⟩ .z))) .z)))))
def ir18p0 : IR :=
 (.op (.bin .lss false) [(.v 10), (.v 9)]
 (.ite (.v 12)
  (.op (.row 1) [(.v 1), (.v 10)]
  (.call 45 2 false [] [(.v 6), (.v 13)]
  (.op (.mk 1 1) [(.v 14)]
  (.op (.app 1 8) [(.v 11), (.v 16)]
  (.op (.bin .add false) [(.v 10), (.c (.int .i64 1))]
  (.jump 0 [(.v 18), (.v 17)]))))))
 (.ret [(.v 8), (.v 11), (.c (.int .i64 0))])))
def ir18p1 : IR :=
 (.ite (.v 2)
  (.ret [(.c (.sl [])), (.c (.sl [])), (.c (.int .i64 1))])
 (.call 41 1 false [] [(.v 1)]
 (.call 42 2 false [0] [(.v 3)]
 (.call 43 2 false [1] [(.v 4)]
 (.call 44 1 false [0] [(.v 0)]
 (.op .lenL [(.v 1)]
 (.loop 2 [(.c (.int .i64 0)), (.c (.sl []))] ir18p0)))))))
def ir18 : IR :=
 (.letj 1
  (.call 40 1 false [] [(.v 0)]
  (.op (.un .not) [(.v 2)]
  (.ite (.v 3)
   (.jump 0 [(.c (.bool true))])
  (.op .lenL [(.v 1)]
  (.op .lenL [(.v 0)]
  (.op (.bin .shl false) [(.c (.int .i64 1)), (.v 5)]
  (.op (.bin .neq false) [(.v 4), (.v 6)]
  (.jump 0 [(.v 7)]))))))))
 ir18p1)
theorem rd18 : readFn T SG sigs 3000 sg18 Try.f20 an18 = some ir18 := by kernel_rfl
/- 19:order.Validate -/
def an19 : Ann := (.s none .z (.s none (.s (some ⟨1, [(0, .junk), (2, .junk), (20, (.atm (.v 0)))], [], 1, []⟩) .z .z) (.s none .z (.s none .z (.s none (.s none .z (.b (.l ⟨3, [(1, .junk), (4, (.atm (.v 0))), (20, .junk), (21, .junk), (22, .junk), (23, .junk), (24, .junk), (25, .junk), (28, (.atm (.v 1)))], [(1, ⟨false, true, 4, 1, (.v 2), []⟩)], 2, []⟩ (.s none .z (.s none .z (.s none (.b (.s none .z (.s none (.s (some ⟨1, [(29, .junk), (30, .junk), (31, .junk), (39, (.atm (.v 0)))], [], 2, []⟩) .z .z) .z))) .z)))))) .z)))))
def ir19p0 : IR :=
 (.ite (.v 11)
  (.ret [(.c (.int .i64 8))])
 (.op .max [(.v 6), (.v 10)]
 (.op .chk [(.v 8), (.v 10)]
 (.op (.set 0 1) [(.v 8), (.v 10), (.c (.bool true))]
 (.op (.bin .add false) [(.v 7), (.c (.int .i64 1))]
 (.jump 0 [(.v 12), (.v 14), (.v 13)]))))))
def ir19p1 : IR :=
 (.op (.bin .lss false) [(.v 7), (.v 5)]
 (.ite (.v 9)
  (.op (.row 1) [(.v 1), (.v 7)]
  (.letj 1
   (.op (.bin .lss false) [(.v 10), (.c (.int .i64 0))]
   (.ite (.v 11)
    (.jump 1 [(.c (.bool true))])
   (.op .lenL [(.v 8)]
   (.op (.bin .geq false) [(.v 10), (.v 12)]
   (.jump 1 [(.v 13)])))))
  ir19p0))
 (.op (.subL 1) [(.v 8), (.c (.int .i64 0)), (.v 6)]
 (.call 46 1 false [] [(.v 10), (.c (.bool false))]
 (.ite (.v 11)
  (.ret [(.c (.int .i64 8))])
 (.ret [(.c (.int .i64 0))]))))))
def ir19p2 : IR :=
 (.ite (.v 2)
  (.ret [(.c (.int .i64 1))])
 (.op .lenL [(.v 1)]
 (.op (.mkL 1 [(.bool false)]) [(.v 3)]
 (.op .lenL [(.v 1)]
 (.loop 3 [(.c (.int .i64 0)), (.c (.int .i64 0)), (.v 4)] ir19p1)))))
def ir19 : IR :=
 (.letj 1
  (.call 40 1 false [] [(.v 0)]
  (.op (.un .not) [(.v 2)]
  (.ite (.v 3)
   (.jump 0 [(.c (.bool true))])
  (.op .lenL [(.v 1)]
  (.op .lenL [(.v 0)]
  (.op (.bin .shl false) [(.c (.int .i64 1)), (.v 5)]
  (.op (.bin .neq false) [(.v 4), (.v 6)]
  (.jump 0 [(.v 7)]))))))))
 ir19p2)
theorem rd19 : readFn T SG sigs 3000 sg19 Try.f22 an19 = some ir19 := by kernel_rfl
/- 20:order.Levels -/
def an20 : Ann := (.s none .z (.s none .z (.s none .z (.s none (.s none .z (.b (.l ⟨2, [(0, .junk), (1, .junk), (2, .junk), (6, .junk), (7, .junk), (8, .junk), (9, .junk), (10, .junk), (11, .junk), (12, .junk), (13, .junk), (14, .junk), (17, (.atm (.v 0)))], [(1, ⟨false, true, 30, 1, (.v 1), []⟩)], 2, []⟩ .z))) .z))))
def ir20p0 : IR :=
 (.op (.bin .lss false) [(.v 8), (.v 7)]
 (.ite (.v 10)
  (.op (.row 1) [(.v 1), (.v 8)]
  (.op .chk [(.v 9), (.v 11)]
  (.op (.get 0 1) [(.v 9), (.v 11)]
  (.op (.conv .u64) [(.v 8)]
  (.op (.bin .shl false) [(.c (.int .u64 1)), (.v 13)]
  (.op (.bin .or false) [(.v 12), (.v 14)]
  (.op .chk [(.v 9), (.v 11)]
  (.op (.set 0 1) [(.v 9), (.v 11), (.v 15)]
  (.op (.bin .add false) [(.v 8), (.c (.int .i64 1))]
  (.jump 0 [(.v 17), (.v 16)]))))))))))
 (.ret [(.v 9)])))
def ir20 : IR :=
 (.call 19 1 false [] [(.v 0), (.v 1)]
 (.op (.bin .neq false) [(.v 2), (.c (.int .i64 0))]
 (.ite (.v 3)
  (.ret [(.c (.sl []))])
 (.call 47 1 false [] [(.v 1)]
 (.op (.bin .add false) [(.v 4), (.c (.int .i64 1))]
 (.op (.mkL 8 [(.int .u64 0)]) [(.v 5)]
 (.op .lenL [(.v 1)]
 (.loop 2 [(.c (.int .i64 0)), (.v 6)] ir20p0))))))))
theorem rd20 : readFn T SG sigs 3000 sg20 Try.f23 an20 = some ir20 := by kernel_rfl
/- 21:order.FromLevels: not read -/
/- 22:deliberationref31.Same -/
def an22 : Ann := .z
def ir22 : IR :=
 (.call 48 1 false [] [(.v 0), (.v 2)]
 (.ite (.v 4)
  (.call 38 1 false [] [(.v 1), (.v 3)]
  (.ret [(.v 5)]))
 (.ret [(.c (.bool false))])))
theorem rd22 : readFn T SG sigs 3000 sg22 Try.f25 an22 = some ir22 := by kernel_rfl
/- 23:order.Refine -/
def an23 : Ann := (.s none .z (.s none (.s none .z (.b (.l ⟨1, [(0, .junk), (1, .junk), (5, .junk), (11, .junk), (12, .junk), (15, (.atm (.v 0)))], [], 4, []⟩ .z))) (.s none .z (.s none .z (.s none (.s none .z (.b (.l ⟨2, [(13, .junk), (14, .junk), (15, .junk), (16, .junk), (26, .junk), (27, .junk), (28, .junk), (29, .junk), (30, .junk), (31, .junk), (33, .junk), (34, .junk), (35, .junk), (36, .junk), (37, .junk), (39, (.atm (.v 0)))], [(4, ⟨false, true, 3, 1, (.v 1), []⟩)], 5, []⟩ .z))) .z)))))
def ir23p0 : IR :=
 (.op (.bin .lss false) [(.v 13), (.v 12)]
 (.ite (.v 15)
  (.op (.row 1) [(.v 1), (.v 13)]
  (.op .lenL [(.v 14)]
  (.op (.bin .mul false) [(.v 16), (.v 17)]
  (.op (.row 1) [(.v 3), (.v 13)]
  (.op (.bin .add false) [(.v 18), (.v 19)]
  (.op .chk [(.v 14), (.v 13)]
  (.op (.set 0 1) [(.v 14), (.v 13), (.v 20)]
  (.op (.bin .add false) [(.v 13), (.c (.int .i64 1))]
  (.jump 1 [(.v 22), (.v 21)])))))))))
 (.call 18 3 false [] [(.v 0), (.v 14)]
 (.ret [(.v 16), (.v 17), (.v 18)]))))
def ir23p1 : IR :=
 (.op (.bin .lss false) [(.v 6), (.v 5)]
 (.ite (.v 7)
  (.op .chk [(.v 4), (.v 6)]
  (.op (.get 0 2) [(.v 4), (.v 6)]
  (.call 19 1 false [] [(.v 8), (.v 9)]
  (.op (.bin .neq false) [(.v 10), (.c (.int .i64 0))]
  (.ite (.v 11)
   (.ret [(.c (.sl [])), (.c (.sl [])), (.v 10)])
  (.op (.bin .add false) [(.v 6), (.c (.int .i64 1))]
  (.jump 0 [(.v 12)])))))))
 (.call 49 1 false [] [(.v 0), (.v 2)]
 (.op (.un .not) [(.v 8)]
 (.ite (.v 9)
  (.ret [(.c (.sl [])), (.c (.sl [])), (.c (.int .i64 10))])
 (.op .lenL [(.v 1)]
 (.op (.mkL 8 [(.int .i64 0)]) [(.v 10)]
 (.op .lenL [(.v 11)]
 (.loop 2 [(.c (.int .i64 0)), (.v 11)] ir23p0)))))))))
def ir23 : IR :=
 (.op (.mk 2 2) [(.v 0), (.v 1), (.v 2), (.v 3)]
 (.op .lenL [(.v 4)]
 (.loop 1 [(.c (.int .i64 0))] ir23p1)))
theorem rd23 : readFn T SG sigs 3000 sg23 Try.f26 an23 = some ir23 := by kernel_rfl
/- 24:deliberationref31.Beliefs -/
def an24 : Ann := .z
def ir24 : IR :=
 (.call 11 1 false [] [(.v 0)]
 (.call 25 1 false [] [(.v 0), (.v 1), (.v 2)]
 (.ret [(.v 3)])))
theorem rd24 : readFn T SG sigs 3000 sg24 Try.f28 an24 = some ir24 := by kernel_rfl
/- 25:deliberationref31.Least -/
def an25 : Ann := (.s none .z (.s none .z (.s none (.s none .z (.b (.l ⟨1, [(0, .junk), (4, .junk), (5, (.atm (.v 0))), (7, .junk), (8, .junk), (9, .junk)], [], 1, []⟩ .z))) .z)))
def ir25p0 : IR :=
 (.call 51 1 false [] [(.v 0), (.v 1)]
 (.op (.bin .leq false) [(.v 5), (.v 6)]
 (.ite (.v 7)
  (.call 52 1 false [] [(.v 0), (.v 1), (.v 5), (.v 5)]
  (.op (.bin .and false) [(.v 8), (.v 2)]
  (.op (.bin .neq false) [(.v 9), (.c (.int .u64 0))]
  (.ite (.v 10)
   (.ret [(.v 9)])
  (.op (.bin .add false) [(.v 5), (.c (.int .i64 1))]
  (.jump 0 [(.v 11)]))))))
 (.ret [(.c (.int .u64 0))]))))
def ir25 : IR :=
 (.call 50 1 false [] [(.v 0), (.v 1)]
 (.op (.bin .neq false) [(.v 3), (.c (.int .i64 0))]
 (.ite (.v 4)
  (.ret [(.c (.int .u64 0))])
 (.loop 1 [(.c (.int .i64 0))] ir25p0))))
theorem rd25 : readFn T SG sigs 3000 sg25 Try.f27 an25 = some ir25 := by kernel_rfl
/- 26:deliberationkeep.Src).Formula -/
def an26 : Ann := (.s none .z (.s none .z (.s none (.s (some ⟨1, [(11, .junk), (12, .junk), (18, (.atm (.v 0)))], [], 2, []⟩) .z .z) (.s none .z (.s none .z (.s (some ⟨3, [(7, .junk), (9, (.atm (.v 0))), (18, .junk), (34, .junk), (35, .junk), (36, .junk), (37, .junk), (38, .junk), (39, .junk)], [(0, ⟨false, false, 66, 2, (.c (.sl [])), [[(.atm (.v 1)), (.atm (.v 2))]]⟩)], 4, []⟩) (.s none .z (.b (.s none .z (.c .z (.s (some ⟨1, [(7, .junk), (18, .junk), (34, .junk), (35, .junk), (36, .junk), (37, .junk), (38, .junk), (39, .junk), (40, .junk), (41, .junk), (42, .junk), (43, .junk), (44, (.atm (.v 0)))], [], 4, []⟩) .z .z))))) (.s none (.s none .z (.b (.l ⟨4, [(10, (.atm (.v 0)))], [(0, ⟨false, false, 66, 2, (.c (.sl [])), [[(.atm (.v 1)), (.atm (.v 2))]]⟩), (4, ⟨false, true, 59, 3, (.v 3), []⟩)], 5, [⟨some (3, 0, 2), 0, 59, 3⟩]⟩ .z))) .z)))))))
def ir26p0 : IR :=
 (.op (.bin .lss false) [(.v 14), (.v 11)]
 (.ite (.v 18)
  (.op (.bin .sub false) [(.v 1), (.c (.int .i64 1))]
  (.call 26 5 false [] [(.v 0), (.v 19), (.v 15), (.v 16)]
  (.op (.mk 3 1) [(.v 20), (.v 21), (.v 22)]
  (.op (.app 3 48) [(.v 17), (.v 25)]
  (.op (.bin .add false) [(.v 14), (.c (.int .i64 1))]
  (.jump 0 [(.v 27), (.v 23), (.v 24), (.v 26)]))))))
 (.ret [(.v 10), (.c (.str [])), (.v 17), (.v 15), (.v 16)])))
def ir26p1 : IR :=
 (.loop 4 [(.c (.int .i64 0)), (.v 12), (.v 13), (.c (.sl []))] ir26p0)
def ir26p2 : IR :=
 (.ite (.v 12)
  (.call 16 3 false [] [(.c (.int .i64 2)), (.v 5), (.v 6)]
  (.op (.bin .add false) [(.c (.int .i64 2)), (.v 13)]
  (.jump 0 [(.v 16), (.v 14), (.v 15)])))
 (.jump 0 [(.c (.int .i64 2)), (.v 5), (.v 6)]))
def ir26p3 : IR :=
 (.ite (.v 7)
  (.op (.bin .eql false) [(.v 4), (.c (.int .i64 0))]
  (.ite (.v 8)
   (.call 16 3 false [] [(.c (.int .i64 2)), (.v 5), (.v 6)]
   (.op (.bin .add false) [(.c (.int .i64 1)), (.v 9)]
   (.ret [(.v 12), (.c (.str [])), (.c (.sl [])), (.v 10), (.v 11)])))
  (.call 16 3 false [] [(.v 0), (.v 5), (.v 6)]
  (.op (.bin .add false) [(.c (.int .i64 97)), (.v 9)]
  (.op (.conv .u8) [(.v 12)]
  (.op (.mk 1 1) [(.v 13)]
  (.op .toS [(.v 14)]
  (.ret [(.c (.int .i64 3)), (.v 15), (.c (.sl [])), (.v 10), (.v 11)]))))))))
 (.op (.mk 1 8) [(.c (.int .i64 4)), (.c (.int .i64 4)), (.c (.int .i64 5)), (.c (.int .i64 5)), (.c (.int .i64 6)), (.c (.int .i64 6)), (.c (.int .i64 7)), (.c (.int .i64 8))]
 (.op (.bin .sub false) [(.v 4), (.c (.int .i64 4))]
 (.op .chk [(.v 8), (.v 9)]
 (.op (.get 0 1) [(.v 8), (.v 9)]
 (.letj 3
  (.op (.bin .eql false) [(.v 10), (.c (.int .i64 4))]
  (.ite (.v 11)
   (.jump 0 [(.c (.int .i64 1)), (.v 5), (.v 6)])
  (.letj 1
   (.op (.bin .eql false) [(.v 10), (.c (.int .i64 5))]
   (.ite (.v 12)
    (.jump 1 [(.c (.bool true))])
   (.op (.bin .eql false) [(.v 10), (.c (.int .i64 6))]
   (.jump 1 [(.v 13)]))))
  ir26p2)))
 ir26p1))))))
def ir26 : IR :=
 (.call 16 3 false [] [(.c (.int .i64 12)), (.v 2), (.v 3)]
 (.letj 1
  (.op (.bin .lss false) [(.v 1), (.c (.int .i64 1))]
  (.ite (.v 7)
   (.jump 0 [(.c (.bool true))])
  (.op (.bin .lss false) [(.v 4), (.c (.int .i64 4))]
  (.jump 0 [(.v 8)]))))
 ir26p3))
theorem rd26 : readFn T SG sigs 3000 sg26 Try.f33 an26 = some ir26 := by kernel_rfl
/- 27:deliberationref03.Models -/
def an27 : Ann := (.s none .z (.s none .z (.s none .z (.s none .z (.s none (.s none .z (.b (.l ⟨1, [(1, .junk), (4, .junk), (5, .junk), (6, .junk), (8, (.atm (.v 0))), (11, .junk), (12, .junk), (13, .junk), (14, .junk), (15, .junk), (16, .junk), (17, .junk), (19, .junk), (20, .junk)], [], 1, []⟩ .z))) (.s none .z (.s none (.s none .z (.b (.l ⟨2, [(7, .junk), (8, .junk), (9, (.atm (.v 0))), (10, (.atm (.v 1))), (21, .junk), (22, .junk), (23, .junk), (24, .junk)], [], 1, []⟩ (.s none .z (.s (some ⟨1, [(9, (.atm (.v 0))), (34, .junk), (35, .junk), (36, .junk), (37, .junk)], [], 1, []⟩) .z .z))))) .z)))))))
def ir27p0 : IR :=
 (.op (.bin .add false) [(.v 13), (.c (.int .i64 1))]
 (.jump 1 [(.v 16), (.v 17)]))
def ir27p1 : IR :=
 (.call 36 1 false [] [(.v 0)]
 (.op (.bin .lss false) [(.v 13), (.v 14)]
 (.ite (.v 15)
  (.letj 1
   (.call 56 1 false [] [(.v 0), (.v 13)]
   (.call 57 1 false [] [(.v 1), (.v 2), (.v 3), (.v 16)]
   (.ite (.v 17)
    (.op (.conv .u64) [(.v 13)]
    (.op (.bin .shl false) [(.c (.int .u64 1)), (.v 18)]
    (.op (.bin .or false) [(.v 12), (.v 19)]
    (.jump 2 [(.v 20)]))))
   (.jump 2 [(.v 12)]))))
  ir27p0)
 (.ret [(.v 12), (.c (.int .i64 0))]))))
def ir27p2 : IR :=
 (.op .lenL [(.v 8)]
 (.op (.bin .lss false) [(.v 9), (.v 10)]
 (.ite (.v 11)
  (.op (.row 1) [(.v 8), (.v 9)]
  (.call 55 1 false [] [(.v 0), (.v 12)]
  (.op (.bin .lss false) [(.v 13), (.c (.int .i64 0))]
  (.ite (.v 14)
   (.ret [(.c (.int .u64 0)), (.c (.int .i64 6))])
  (.op (.bin .add false) [(.v 9), (.c (.int .i64 1))]
  (.jump 0 [(.v 15)]))))))
 (.loop 2 [(.c (.int .u64 0)), (.c (.int .i64 0))] ir27p1))))
def ir27 : IR :=
 (.call 35 1 false [] [(.v 0)]
 (.op (.un .not) [(.v 4)]
 (.ite (.v 5)
  (.ret [(.c (.int .u64 0)), (.c (.int .i64 1))])
 (.call 53 1 false [] [(.v 1), (.v 2), (.v 3)]
 (.op (.bin .neq false) [(.v 6), (.c (.int .i64 0))]
 (.ite (.v 7)
  (.ret [(.c (.int .u64 0)), (.v 6)])
 (.call 54 1 false [] [(.v 1), (.v 2), (.v 3)]
 (.loop 1 [(.c (.int .i64 0))] ir27p2))))))))
theorem rd27 : readFn T SG sigs 3000 sg27 Try.f34 an27 = some ir27 := by kernel_rfl
/- 28:change.Contract -/
def an28 : Ann := .z
def ir28 : IR :=
 (.call 58 3 false [] [(.v 0), (.v 1), (.v 2), (.v 3), (.v 4)]
 (.op (.bin .neq false) [(.v 7), (.c (.int .i64 0))]
 (.ite (.v 8)
  (.ret [(.c (.int .u64 0)), (.v 7)])
 (.call 14 1 false [] [(.v 0), (.v 1)]
 (.op (.bin .andNot false) [(.v 6), (.v 5)]
 (.call 13 1 false [] [(.v 0), (.v 1), (.v 10)]
 (.op (.bin .or false) [(.v 9), (.v 11)]
 (.ret [(.v 12), (.c (.int .i64 0))]))))))))
theorem rd28 : readFn T SG sigs 3000 sg28 Try.f35 an28 = some ir28 := by kernel_rfl
/- 29:deliberationlaw33.theory -/
def an29 : Ann := .z
def ir29 : IR :=
 (.call 11 1 false [] [(.v 0)]
 (.op (.bin .and false) [(.v 2), (.v 3)]
 (.call 59 4 false [] [(.v 0), (.v 4)]
 (.ret [(.v 5), (.v 6), (.v 7)]))))
theorem rd29 : readFn T SG sigs 3000 sg29 Try.f36 an29 = some ir29 := by kernel_rfl
/- 30:deliberationlaw33.awake -/
def an30 : Ann := .z
def ir30 : IR :=
 (.call 17 1 false [] [(.c (.int .i64 2))]
 (.op (.mk 1 4) [(.c (.int .i64 2)), (.c (.int .i64 1)), (.c (.int .i64 2)), (.c (.int .i64 0))]
 (.call 29 3 false [] [(.v 0), (.v 1), (.c (.int .u64 10))]
 (.call 29 3 false [] [(.v 0), (.v 1), (.c (.int .u64 12))]
 (.call 29 3 false [] [(.v 0), (.v 1), (.c (.int .u64 3))]
 (.call 32 2 true [] [(.v 0), (.v 1), (.v 8), (.v 9), (.v 10)]
 (.call 28 2 true [] [(.v 0), (.v 1), (.v 5), (.v 6), (.v 7)]
 (.call 29 3 false [] [(.v 0), (.v 1), (.c (.int .u64 5))]
 (.call 32 2 true [] [(.v 0), (.v 1), (.v 15), (.v 16), (.v 17)]
 (.call 31 2 true [] [(.v 0), (.v 1), (.v 2), (.v 3), (.v 4)]
 (.op (.bin .eql false) [(.v 12), (.c (.int .i64 0))]
 (.ite (.v 22)
  (.op (.bin .eql false) [(.v 14), (.c (.int .i64 0))]
  (.ite (.v 23)
   (.op (.bin .eql false) [(.v 19), (.c (.int .i64 0))]
   (.ite (.v 24)
    (.op (.bin .eql false) [(.v 21), (.c (.int .i64 0))]
    (.ite (.v 25)
     (.op (.bin .eql false) [(.v 11), (.c (.int .u64 2))]
     (.ite (.v 26)
      (.op (.bin .eql false) [(.v 13), (.c (.int .u64 10))]
      (.ite (.v 27)
       (.op (.bin .eql false) [(.v 18), (.c (.int .u64 5))]
       (.ite (.v 28)
        (.op (.bin .eql false) [(.v 20), (.c (.int .u64 15))]
        (.ret [(.v 29)]))
       (.ret [(.c (.bool false))])))
      (.ret [(.c (.bool false))])))
     (.ret [(.c (.bool false))])))
    (.ret [(.c (.bool false))])))
   (.ret [(.c (.bool false))])))
  (.ret [(.c (.bool false))])))
 (.ret [(.c (.bool false))])))))))))))))
theorem rd30 : readFn T SG sigs 3000 sg30 Try.f37 an30 = some ir30 := by kernel_rfl
/- 31:change.Withdraw -/
def an31 : Ann := (.s none .z (.s none .z (.s none .z (.s none .z (.s none .z (.s (some ⟨1, [(0, .junk), (1, .junk), (2, .junk), (3, .junk), (4, .junk), (5, .junk), (6, .junk), (7, .junk), (8, .junk), (9, (.atm (.v 0))), (12, .junk), (13, .junk), (14, .junk), (15, .junk), (16, .junk), (17, .junk), (18, .junk), (19, .junk), (20, .junk), (22, .junk), (23, .junk), (24, .junk), (25, .junk)], [], 2, []⟩) (.s none .z (.b (.l ⟨2, [(0, .junk), (1, .junk), (2, .junk), (3, .junk), (4, .junk), (5, .junk), (7, .junk), (8, .junk), (9, (.atm (.v 0))), (12, .junk), (13, .junk), (14, .junk), (15, .junk), (16, .junk), (17, .junk), (18, .junk), (19, .junk), (20, .junk), (22, .junk), (23, .junk), (24, .junk), (25, .junk), (28, .junk), (31, (.atm (.v 1)))], [], 2, []⟩ .z))) .z))))))
def ir31p0 : IR :=
 (.ret [(.v 11), (.c (.int .i64 0))])
def ir31p1 : IR :=
 (.op (.bin .lss false) [(.v 14), (.v 12)]
 (.ite (.v 15)
  (.op (.row 1) [(.v 11), (.v 14)]
  (.op (.bin .or false) [(.v 13), (.v 16)]
  (.op (.bin .andNot false) [(.v 16), (.v 5)]
  (.op (.bin .neq false) [(.v 18), (.c (.int .u64 0))]
  (.ite (.v 19)
   (.jump 0 [(.v 17)])
  (.op (.bin .add false) [(.v 14), (.c (.int .i64 1))]
  (.jump 1 [(.v 17), (.v 20)])))))))
 (.jump 0 [(.v 13)])))
def ir31 : IR :=
 (.call 58 3 false [] [(.v 0), (.v 1), (.v 2), (.v 3), (.v 4)]
 (.op (.bin .neq false) [(.v 7), (.c (.int .i64 0))]
 (.ite (.v 8)
  (.ret [(.c (.int .u64 0)), (.v 7)])
 (.op (.bin .andNot false) [(.v 6), (.v 5)]
 (.op (.bin .eql false) [(.v 9), (.c (.int .u64 0))]
 (.ite (.v 10)
  (.call 14 1 false [] [(.v 0), (.v 1)]
  (.ret [(.v 11), (.c (.int .i64 0))]))
 (.letj 1
  (.call 20 1 false [] [(.v 0), (.v 1)]
  (.op .lenL [(.v 11)]
  (.loop 2 [(.c (.int .u64 0)), (.c (.int .i64 0))] ir31p1)))
 ir31p0)))))))
theorem rd31 : readFn T SG sigs 3000 sg31 Try.f38 an31 = some ir31 := by kernel_rfl
/- 32:change.Revise -/
def an32 : Ann := .z
def ir32 : IR :=
 (.call 58 3 false [] [(.v 0), (.v 1), (.v 2), (.v 3), (.v 4)]
 (.op (.bin .neq false) [(.v 7), (.c (.int .i64 0))]
 (.ite (.v 8)
  (.ret [(.c (.int .u64 0)), (.v 7)])
 (.call 13 1 false [] [(.v 0), (.v 1), (.v 5)]
 (.ret [(.v 9), (.c (.int .i64 0))])))))
theorem rd32 : readFn T SG sigs 3000 sg32 Try.f39 an32 = some ir32 := by kernel_rfl
/- 33:change.Expand -/
def an33 : Ann := .z
def ir33 : IR :=
 (.call 58 3 false [] [(.v 0), (.v 1), (.v 2), (.v 3), (.v 4)]
 (.op (.bin .neq false) [(.v 7), (.c (.int .i64 0))]
 (.ite (.v 8)
  (.ret [(.c (.int .u64 0)), (.v 7)])
 (.call 14 1 false [] [(.v 0), (.v 1)]
 (.op (.bin .and false) [(.v 9), (.v 5)]
 (.ret [(.v 10), (.c (.int .i64 0))]))))))
theorem rd33 : readFn T SG sigs 3000 sg33 Try.f40 an33 = some ir33 := by kernel_rfl
/- 34:deliberationref31.Normal -/
def an34 : Ann := (.s none .z (.s none (.s (some ⟨1, [(5, .junk), (21, (.atm (.v 0)))], [], 1, []⟩) .z .z) (.s none .z (.s none (.s none .z (.b (.l ⟨2, [(0, .junk), (7, (.atm (.v 0))), (21, .junk), (24, .junk), (25, .junk), (26, .junk), (27, .junk), (28, .junk), (29, .junk)], [(6, ⟨false, true, 3, 1, (.v 1), []⟩)], 9, []⟩ (.s none .z (.s none (.b (.s none .z (.s none (.s none .z (.b (.l ⟨2, [(9, (.atm (.v 0))), (30, .junk), (31, .junk), (32, .junk), (33, .junk)], [(9, ⟨false, true, 3, 1, (.v 1), []⟩)], 10, [⟨none, 8, 3, 1⟩]⟩ (.s none .z (.s (some ⟨1, [(36, .junk), (37, .junk), (38, .junk), (39, .junk)], [(9, ⟨false, true, 3, 1, (.v 0), []⟩)], 10, []⟩) (.b (.s (some ⟨1, [(36, .junk), (37, .junk), (38, .junk), (39, .junk), (59, (.atm (.v 0)))], [], 10, []⟩) .z .z)) .z))))) .z))) .z))))) .z))))
def ir34p0 : IR :=
 (.op (.bin .add false) [(.v 10), (.c (.int .i64 1))]
 (.jump 1 [(.v 15), (.v 14)]))
def ir34p1 : IR :=
 (.ite (.v 14)
  (.op (.row 1) [(.v 1), (.v 10)]
  (.op (.mk 1 1) [(.v 15)]
  (.op (.app 1 8) [(.v 11), (.v 16)]
  (.jump 2 [(.v 17)]))))
 (.jump 2 [(.v 11)]))
def ir34p2 : IR :=
 (.op .lenL [(.v 1)]
 (.op (.bin .lss false) [(.v 10), (.v 12)]
 (.ite (.v 13)
  (.letj 1
   (.letj 1
    (.op (.row 1) [(.v 1), (.v 10)]
    (.op (.row 1) [(.v 1), (.v 6)]
    (.op (.bin .lss false) [(.v 14), (.v 15)]
    (.ite (.v 16)
     (.op (.row 1) [(.v 1), (.v 10)]
     (.call 60 1 true [] [(.v 11), (.v 17)]
     (.op (.un .not) [(.v 18)]
     (.jump 3 [(.v 19)]))))
    (.jump 3 [(.c (.bool false))])))))
   ir34p1)
  ir34p0)
 (.op .lenL [(.v 11)]
 (.op .chk [(.v 7), (.v 6)]
 (.op (.set 0 1) [(.v 7), (.v 6), (.v 14)]
 (.op (.bin .add false) [(.v 6), (.c (.int .i64 1))]
 (.jump 0 [(.v 16), (.v 15)]))))))))
def ir34p3 : IR :=
 (.op .lenL [(.v 1)]
 (.op (.bin .lss false) [(.v 6), (.v 8)]
 (.ite (.v 9)
  (.loop 2 [(.c (.int .i64 0)), (.c (.sl []))] ir34p2)
 (.ret [(.v 3), (.v 7), (.c (.int .i64 0))]))))
def ir34p4 : IR :=
 (.ite (.v 2)
  (.ret [(.c (.sl [])), (.c (.sl [])), (.c (.int .i64 1))])
 (.op (.app 1 16) [(.c (.sl [])), (.v 0)]
 (.op .lenL [(.v 1)]
 (.op (.mkL 8 [(.int .i64 0)]) [(.v 4)]
 (.loop 2 [(.c (.int .i64 0)), (.v 5)] ir34p3)))))
def ir34 : IR :=
 (.letj 1
  (.call 35 1 false [] [(.v 0)]
  (.op (.un .not) [(.v 2)]
  (.ite (.v 3)
   (.jump 0 [(.c (.bool true))])
  (.op .lenL [(.v 1)]
  (.op .lenL [(.v 0)]
  (.op (.conv .u64) [(.v 5)]
  (.op (.bin .shl false) [(.c (.int .i64 1)), (.v 6)]
  (.op (.bin .neq false) [(.v 4), (.v 7)]
  (.jump 0 [(.v 8)])))))))))
 ir34p4)
theorem rd34 : readFn T SG sigs 3000 sg34 Try.f30 an34 = some ir34 := by kernel_rfl
/- 35:deliberationref03.Valid -/
def an35 : Ann := (.s none .z (.s none (.s none .z (.b (.l ⟨1, [(2, .junk), (3, (.atm (.v 0)))], [], 0, []⟩ (.s none .z (.s none (.b (.s (some ⟨1, [(4, .junk), (5, .junk), (6, .junk), (7, .junk), (31, (.atm (.v 0)))], [], 0, []⟩) .z .z)) .z))))) .z))
def ir35p0 : IR :=
 (.ite (.v 4)
  (.ret [(.c (.bool false))])
 (.op (.bin .add false) [(.v 1), (.c (.int .i64 1))]
 (.jump 0 [(.v 5)])))
def ir35p1 : IR :=
 (.op .lenL [(.v 0)]
 (.op (.bin .lss false) [(.v 1), (.v 2)]
 (.ite (.v 3)
  (.letj 1
   (.op (.row 1) [(.v 0), (.v 1)]
   (.call 61 1 false [] [(.v 4)]
   (.op (.un .not) [(.v 5)]
   (.ite (.v 6)
    (.jump 1 [(.c (.bool true))])
   (.op (.bin .gtr false) [(.v 1), (.c (.int .i64 0))]
   (.ite (.v 7)
    (.op (.row 1) [(.v 0), (.v 1)]
    (.op (.bin .sub false) [(.v 1), (.c (.int .i64 1))]
    (.op (.row 1) [(.v 0), (.v 9)]
    (.op (.bin .leq false) [(.v 8), (.v 10)]
    (.jump 1 [(.v 11)])))))
   (.jump 1 [(.c (.bool false))])))))))
  ir35p0)
 (.op .lenL [(.v 0)]
 (.op (.bin .leq false) [(.v 4), (.c (.int .i64 6))]
 (.ret [(.v 5)]))))))
def ir35 : IR :=
 (.loop 1 [(.c (.int .i64 0))] ir35p1)
theorem rd35 : readFn T SG sigs 3000 sg35 Try.f41 an35 = some ir35 := by kernel_rfl
/- 36:deliberationref03.count -/
def an36 : Ann := .z
def ir36 : IR :=
 (.op .lenL [(.v 0)]
 (.op (.conv .u64) [(.v 1)]
 (.op (.bin .shl false) [(.c (.int .i64 1)), (.v 2)]
 (.ret [(.v 3)]))))
theorem rd36 : readFn T SG sigs 3000 sg36 Try.f42 an36 = some ir36 := by kernel_rfl
/- 37:deliberationkeep.Src).Raw -/
def an37 : Ann := .z
def ir37 : IR :=
 (.op .lenL [(.v 0)]
 (.op (.bin .geq false) [(.v 1), (.v 2)]
 (.ite (.v 3)
  (.ret [(.c (.int .i64 0)), (.v 0), (.v 1)])
 (.op (.bin .add false) [(.v 1), (.c (.int .i64 1))]
 (.op (.bin .sub false) [(.v 4), (.c (.int .i64 1))]
 (.op (.row 1) [(.v 0), (.v 5)]
 (.ret [(.v 6), (.v 0), (.v 4)])))))))
theorem rd37 : readFn T SG sigs 3000 sg37 Try.f43 an37 = some ir37 := by kernel_rfl
/- 38:deliberationkeep.Ints -/
def an38 : Ann := (.s none .z (.s none .z (.s none (.s none .z (.b (.l ⟨1, [(4, .junk), (6, .junk), (7, .junk), (8, .junk), (9, .junk), (10, .junk), (11, .junk), (13, (.atm (.v 0)))], [], 0, []⟩ .z))) .z)))
def ir38p0 : IR :=
 (.op (.bin .lss false) [(.v 6), (.v 5)]
 (.ite (.v 7)
  (.op (.row 1) [(.v 0), (.v 6)]
  (.op (.row 1) [(.v 1), (.v 6)]
  (.op (.bin .neq false) [(.v 8), (.v 9)]
  (.ite (.v 10)
   (.ret [(.c (.bool false))])
  (.op (.bin .add false) [(.v 6), (.c (.int .i64 1))]
  (.jump 0 [(.v 11)]))))))
 (.ret [(.c (.bool true))])))
def ir38 : IR :=
 (.op .lenL [(.v 0)]
 (.op .lenL [(.v 1)]
 (.op (.bin .neq false) [(.v 2), (.v 3)]
 (.ite (.v 4)
  (.ret [(.c (.bool false))])
 (.op .lenL [(.v 0)]
 (.loop 1 [(.c (.int .i64 0))] ir38p0))))))
theorem rd38 : readFn T SG sigs 3000 sg38 Try.f44 an38 = some ir38 := by kernel_rfl
/- 39:deliberationkeep.Mod -/
def an39 : Ann := (.s none .z (.s none .z (.s none .z (.s (some ⟨1, [(0, (.atm (.v 0))), (1, .junk), (4, .junk), (5, .junk), (6, .junk), (7, .junk), (8, .junk), (9, .junk)], [], 0, []⟩) .z .z))))
def ir39p0 : IR :=
 (.ret [(.v 4)])
def ir39 : IR :=
 (.op (.bin .lss false) [(.v 1), (.c (.int .i64 1))]
 (.ite (.v 2)
  (.ret [(.c (.int .i64 0))])
 (.op (.bin .rem false) [(.v 0), (.v 1)]
 (.letj 1
  (.op (.bin .lss false) [(.v 3), (.c (.int .i64 0))]
  (.ite (.v 4)
   (.op (.bin .add false) [(.v 3), (.v 1)]
   (.jump 0 [(.v 5)]))
  (.jump 0 [(.v 3)])))
 ir39p0))))
theorem rd39 : readFn T SG sigs 3000 sg39 Try.f45 an39 = some ir39 := by kernel_rfl
/- 40:world.Valid -/
def an40 : Ann := (.s none .z (.s none .z (.s none (.s none .z (.b (.l ⟨1, [(2, .junk), (5, .junk), (6, .junk), (7, .junk), (10, (.atm (.v 0)))], [], 0, []⟩ (.s none .z (.s none .z (.s none (.b (.s none .z (.s (some ⟨1, [(3, .junk), (4, .junk), (11, .junk), (12, .junk), (13, .junk), (14, .junk), (30, (.atm (.v 0)))], [], 0, []⟩) .z .z))) .z)))))) .z)))
def ir40p0 : IR :=
 (.ite (.v 7)
  (.ret [(.c (.bool false))])
 (.op (.bin .add false) [(.v 4), (.c (.int .i64 1))]
 (.jump 0 [(.v 8)])))
def ir40p1 : IR :=
 (.op (.bin .lss false) [(.v 4), (.v 3)]
 (.ite (.v 5)
  (.op (.row 1) [(.v 0), (.v 4)]
  (.letj 1
   (.call 62 1 false [] [(.v 6)]
   (.op (.un .not) [(.v 7)]
   (.ite (.v 8)
    (.jump 1 [(.c (.bool true))])
   (.op (.bin .gtr false) [(.v 4), (.c (.int .i64 0))]
   (.ite (.v 9)
    (.op (.bin .sub false) [(.v 4), (.c (.int .i64 1))]
    (.op (.row 1) [(.v 0), (.v 10)]
    (.op (.bin .geq false) [(.v 11), (.v 6)]
    (.jump 1 [(.v 12)]))))
   (.jump 1 [(.c (.bool false))]))))))
  ir40p0))
 (.ret [(.c (.bool true))])))
def ir40 : IR :=
 (.op .lenL [(.v 0)]
 (.op (.bin .gtr false) [(.v 1), (.c (.int .i64 6))]
 (.ite (.v 2)
  (.ret [(.c (.bool false))])
 (.op .lenL [(.v 0)]
 (.loop 1 [(.c (.int .i64 0))] ir40p1)))))
theorem rd40 : readFn T SG sigs 3000 sg40 Try.f46 an40 = some ir40 := by kernel_rfl
/- 41:slices.Values[[]int,int]: not read -/
/- 42:slices.Sorted[int] -/
def an42 : Ann := .z
def ir42 : IR :=
 (.call 63 2 false [0] [(.v 0)]
 (.call 64 1 false [0] [(.v 1)]
 (.ret [(.v 3), (.v 2)])))
theorem rd42 : readFn T SG sigs 3000 sg42 Try.f48 an42 = some ir42 := by kernel_rfl
/- 43:slices.Compact[[]int,int]: not read -/
/- 44:slices.Clone[[]string,string]: not read -/
/- 45:slices.BinarySearch[[]int,int] -/
def an45 : Ann := (.s none .z (.s none .z (.s none .z (.s none (.b (.l ⟨2, [(4, .junk), (5, .junk), (7, (.atm (.v 0))), (8, (.atm (.v 1))), (10, .junk), (11, .junk), (12, .junk)], [], 0, []⟩ .z)) .z))))
def ir45p0 : IR :=
 (.op (.bin .lss false) [(.v 3), (.v 4)]
 (.ite (.v 5)
  (.op (.bin .add false) [(.v 3), (.v 4)]
  (.op (.conv .u64) [(.v 6)]
  (.op (.bin .shr false) [(.v 7), (.c (.int .u64 1))]
  (.op (.conv .i64) [(.v 8)]
  (.op (.row 1) [(.v 0), (.v 9)]
  (.call 65 1 false [] [(.v 10), (.v 1)]
  (.ite (.v 11)
   (.op (.bin .add false) [(.v 9), (.c (.int .i64 1))]
   (.jump 0 [(.v 12), (.v 4)]))
  (.jump 0 [(.v 3), (.v 9)]))))))))
 (.op (.bin .lss false) [(.v 3), (.v 2)]
 (.ite (.v 6)
  (.op (.row 1) [(.v 0), (.v 3)]
  (.op (.bin .eql false) [(.v 7), (.v 1)]
  (.ite (.v 8)
   (.ret [(.v 3), (.c (.bool true))])
  (.op (.row 1) [(.v 0), (.v 3)]
  (.call 66 1 false [] [(.v 9)]
  (.ite (.v 10)
   (.call 66 1 false [] [(.v 1)]
   (.ret [(.v 3), (.v 11)]))
  (.ret [(.v 3), (.c (.bool false))])))))))
 (.ret [(.v 3), (.c (.bool false))])))))
def ir45 : IR :=
 (.op .lenL [(.v 0)]
 (.loop 2 [(.c (.int .i64 0)), (.v 2)] ir45p0))
theorem rd45 : readFn T SG sigs 3000 sg45 Try.f51 an45 = some ir45 := by kernel_rfl
/- 46:slices.Contains[[]bool,bool] -/
def an46 : Ann := .z
def ir46 : IR :=
 (.call 67 1 false [] [(.v 0), (.v 1)]
 (.op (.bin .geq false) [(.v 2), (.c (.int .i64 0))]
 (.ret [(.v 3)])))
theorem rd46 : readFn T SG sigs 3000 sg46 Try.f52 an46 = some ir46 := by kernel_rfl
/- 47:slices.Max[[]int,int] -/
def an47 : Ann := (.s none .z (.s none .z (.s none .z (.s none (.s none .z (.b (.l ⟨2, [(2, .junk), (3, (.atm (.v 0))), (4, (.atm (.v 1))), (5, .junk), (6, .junk), (7, .junk), (9, .junk), (10, .junk), (11, .junk)], [], 0, []⟩ .z))) .z))))
def ir47p0 : IR :=
 (.op .lenL [(.v 0)]
 (.op (.bin .lss false) [(.v 5), (.v 6)]
 (.ite (.v 7)
  (.op (.row 1) [(.v 0), (.v 5)]
  (.op .max [(.v 4), (.v 8)]
  (.op (.bin .add false) [(.v 5), (.c (.int .i64 1))]
  (.jump 0 [(.v 9), (.v 10)]))))
 (.ret [(.v 4)]))))
def ir47 : IR :=
 (.op .lenL [(.v 0)]
 (.op (.bin .lss false) [(.v 1), (.c (.int .i64 1))]
 (.ite (.v 2)
  .fail
 (.op (.row 1) [(.v 0), (.c (.int .i64 0))]
 (.loop 2 [(.v 3), (.c (.int .i64 1))] ir47p0)))))
theorem rd47 : readFn T SG sigs 3000 sg47 Try.f53 an47 = some ir47 := by kernel_rfl
/- 48:deliberationref31.SameNames -/
def an48 : Ann := (.s none .z (.s none .z (.s none (.s none .z (.b (.l ⟨1, [(4, .junk), (5, (.atm (.v 0))), (6, .junk), (7, .junk), (8, .junk), (9, .junk), (10, .junk)], [], 0, []⟩ .z))) .z)))
def ir48p0 : IR :=
 (.op .lenL [(.v 0)]
 (.op (.bin .lss false) [(.v 5), (.v 6)]
 (.ite (.v 7)
  (.op (.row 1) [(.v 0), (.v 5)]
  (.op (.row 1) [(.v 1), (.v 5)]
  (.op (.bin .neq false) [(.v 8), (.v 9)]
  (.ite (.v 10)
   (.ret [(.c (.bool false))])
  (.op (.bin .add false) [(.v 5), (.c (.int .i64 1))]
  (.jump 0 [(.v 11)]))))))
 (.ret [(.c (.bool true))]))))
def ir48 : IR :=
 (.op .lenL [(.v 0)]
 (.op .lenL [(.v 1)]
 (.op (.bin .neq false) [(.v 2), (.v 3)]
 (.ite (.v 4)
  (.ret [(.c (.bool false))])
 (.loop 1 [(.c (.int .i64 0))] ir48p0)))))
theorem rd48 : readFn T SG sigs 3000 sg48 Try.f57 an48 = some ir48 := by kernel_rfl
/- 49:slices.Equal[[]string,string] -/
def an49 : Ann := (.s none .z (.s none .z (.s none (.s none .z (.b (.l ⟨1, [(4, .junk), (6, .junk), (7, .junk), (8, .junk), (9, .junk), (10, .junk), (11, .junk), (13, (.atm (.v 0)))], [], 0, []⟩ .z))) .z)))
def ir49p0 : IR :=
 (.op (.bin .lss false) [(.v 6), (.v 5)]
 (.ite (.v 7)
  (.op (.row 1) [(.v 0), (.v 6)]
  (.op (.row 1) [(.v 1), (.v 6)]
  (.op (.bin .neq false) [(.v 8), (.v 9)]
  (.ite (.v 10)
   (.ret [(.c (.bool false))])
  (.op (.bin .add false) [(.v 6), (.c (.int .i64 1))]
  (.jump 0 [(.v 11)]))))))
 (.ret [(.c (.bool true))])))
def ir49 : IR :=
 (.op .lenL [(.v 0)]
 (.op .lenL [(.v 1)]
 (.op (.bin .neq false) [(.v 2), (.v 3)]
 (.ite (.v 4)
  (.ret [(.c (.bool false))])
 (.op .lenL [(.v 0)]
 (.loop 1 [(.c (.int .i64 0))] ir49p0))))))
theorem rd49 : readFn T SG sigs 3000 sg49 Try.f58 an49 = some ir49 := by kernel_rfl
/- 50:deliberationref31.Validate -/
def an50 : Ann := (.s none .z (.s none (.s (some ⟨1, [(0, .junk), (2, .junk), (20, (.atm (.v 0)))], [], 1, []⟩) .z .z) (.s none .z (.s none (.s none .z (.b (.l ⟨2, [(3, (.atm (.v 0))), (4, (.atm (.v 1))), (20, .junk)], [], 1, []⟩ (.s none .z (.s none (.b (.s none (.s (some ⟨1, [(21, .junk), (22, .junk), (23, .junk), (24, .junk), (25, .junk), (44, (.atm (.v 0)))], [], 1, []⟩) .z .z) .z)) .z))))) (.s none (.s none .z (.b (.l ⟨1, [(4, .junk), (5, (.atm (.v 0))), (21, .junk), (22, .junk), (23, .junk), (24, .junk), (25, .junk)], [], 1, []⟩ .z))) .z)))))
def ir50p0 : IR :=
 (.ite (.v 7)
  (.ret [(.c (.int .i64 8))])
 (.op (.row 1) [(.v 1), (.v 4)]
 (.op .max [(.v 3), (.v 8)]
 (.op (.bin .add false) [(.v 4), (.c (.int .i64 1))]
 (.jump 0 [(.v 9), (.v 10)])))))
def ir50p1 : IR :=
 (.op (.bin .lss false) [(.v 7), (.v 3)]
 (.ite (.v 8)
  (.call 60 1 false [] [(.v 1), (.v 7)]
  (.op (.un .not) [(.v 9)]
  (.ite (.v 10)
   (.ret [(.c (.int .i64 8))])
  (.op (.bin .add false) [(.v 7), (.c (.int .i64 1))]
  (.jump 1 [(.v 11)])))))
 (.ret [(.c (.int .i64 0))])))
def ir50p2 : IR :=
 (.op .lenL [(.v 1)]
 (.op (.bin .lss false) [(.v 4), (.v 5)]
 (.ite (.v 6)
  (.letj 1
   (.op (.row 1) [(.v 1), (.v 4)]
   (.op (.bin .lss false) [(.v 7), (.c (.int .i64 0))]
   (.ite (.v 8)
    (.jump 1 [(.c (.bool true))])
   (.op (.row 1) [(.v 1), (.v 4)]
   (.op .lenL [(.v 1)]
   (.op (.bin .geq false) [(.v 9), (.v 10)]
   (.jump 1 [(.v 11)])))))))
  ir50p0)
 (.loop 1 [(.c (.int .i64 0))] ir50p1))))
def ir50p3 : IR :=
 (.ite (.v 2)
  (.ret [(.c (.int .i64 1))])
 (.loop 2 [(.c (.int .i64 0)), (.c (.int .i64 0))] ir50p2))
def ir50 : IR :=
 (.letj 1
  (.call 35 1 false [] [(.v 0)]
  (.op (.un .not) [(.v 2)]
  (.ite (.v 3)
   (.jump 0 [(.c (.bool true))])
  (.op .lenL [(.v 1)]
  (.op .lenL [(.v 0)]
  (.op (.conv .u64) [(.v 5)]
  (.op (.bin .shl false) [(.c (.int .i64 1)), (.v 6)]
  (.op (.bin .neq false) [(.v 4), (.v 7)]
  (.jump 0 [(.v 8)])))))))))
 ir50p3)
theorem rd50 : readFn T SG sigs 3000 sg50 Try.f59 an50 = some ir50 := by kernel_rfl
/- 51:deliberationref31.Most -/
def an51 : Ann := (.s none .z (.s none .z (.s none (.s none .z (.b (.l ⟨2, [(0, .junk), (2, .junk), (3, (.atm (.v 0))), (4, (.atm (.v 1)))], [], 1, []⟩ .z))) .z)))
def ir51p0 : IR :=
 (.op .lenL [(.v 1)]
 (.op (.bin .lss false) [(.v 3), (.v 4)]
 (.ite (.v 5)
  (.op (.row 1) [(.v 1), (.v 3)]
  (.op .max [(.v 2), (.v 6)]
  (.op (.bin .add false) [(.v 3), (.c (.int .i64 1))]
  (.jump 0 [(.v 7), (.v 8)]))))
 (.ret [(.v 2)]))))
def ir51 : IR :=
 (.loop 2 [(.c (.int .i64 0)), (.c (.int .i64 0))] ir51p0)
theorem rd51 : readFn T SG sigs 3000 sg51 Try.f60 an51 = some ir51 := by kernel_rfl
/- 52:deliberationref31.Where -/
def an52 : Ann := (.s none .z (.s none .z (.s none (.s none .z (.b (.l ⟨2, [(0, .junk), (6, .junk), (7, (.atm (.v 0))), (8, (.atm (.v 1)))], [], 1, []⟩ (.s none .z (.s (some ⟨1, [(7, (.atm (.v 0))), (9, .junk), (10, .junk), (11, .junk), (12, .junk), (13, .junk)], [], 1, []⟩) (.b (.s (some ⟨1, [(9, .junk), (10, .junk), (11, .junk), (12, .junk), (13, .junk), (31, (.atm (.v 0)))], [], 1, []⟩) .z .z)) .z))))) .z)))
def ir52p0 : IR :=
 (.op (.bin .add false) [(.v 5), (.c (.int .i64 1))]
 (.jump 0 [(.v 8), (.v 9)]))
def ir52p1 : IR :=
 (.ite (.v 8)
  (.op (.conv .u64) [(.v 5)]
  (.op (.bin .shl false) [(.c (.int .u64 1)), (.v 9)]
  (.op (.bin .or false) [(.v 4), (.v 10)]
  (.jump 1 [(.v 11)]))))
 (.jump 1 [(.v 4)]))
def ir52p2 : IR :=
 (.op .lenL [(.v 1)]
 (.op (.bin .lss false) [(.v 5), (.v 6)]
 (.ite (.v 7)
  (.letj 1
   (.letj 1
    (.op (.row 1) [(.v 1), (.v 5)]
    (.op (.bin .geq false) [(.v 8), (.v 2)]
    (.ite (.v 9)
     (.op (.row 1) [(.v 1), (.v 5)]
     (.op (.bin .leq false) [(.v 10), (.v 3)]
     (.jump 2 [(.v 11)])))
    (.jump 2 [(.c (.bool false))]))))
   ir52p1)
  ir52p0)
 (.ret [(.v 4)]))))
def ir52 : IR :=
 (.loop 2 [(.c (.int .u64 0)), (.c (.int .i64 0))] ir52p2)
theorem rd52 : readFn T SG sigs 3000 sg52 Try.f61 an52 = some ir52 := by kernel_rfl
/- 53:deliberationref02.Validate -/
def an53 : Ann := (.s none .z (.s none (.s (some ⟨1, [(0, .junk), (2, .junk), (10, (.atm (.v 0)))], [], 1, []⟩) .z .z) .z))
def ir53p0 : IR :=
 (.ite (.v 3)
  (.ret [(.c (.int .i64 2))])
 (.call 70 1 false [] [(.v 0), (.v 1), (.v 2)]
 (.op (.un .not) [(.v 4)]
 (.ite (.v 5)
  (.ret [(.c (.int .i64 4))])
 (.call 71 1 false [] [(.v 0), (.v 1), (.v 2)]
 (.op (.un .not) [(.v 6)]
 (.ite (.v 7)
  (.ret [(.c (.int .i64 3))])
 (.ret [(.c (.int .i64 0))]))))))))
def ir53 : IR :=
 (.letj 1
  (.call 68 1 false [] [(.v 0), (.v 1), (.v 2)]
  (.op (.bin .gtr false) [(.v 3), (.c (.int .i64 600))]
  (.ite (.v 4)
   (.jump 0 [(.c (.bool true))])
  (.call 69 1 false [] [(.v 0), (.v 1), (.v 2)]
  (.op (.bin .gtr false) [(.v 5), (.c (.int .i64 20))]
  (.jump 0 [(.v 6)]))))))
 ir53p0)
theorem rd53 : readFn T SG sigs 3000 sg53 Try.f64 an53 = some ir53 := by kernel_rfl
/- 54:deliberationref02.Atoms -/
def an54 : Ann := .z
def ir54 : IR :=
 (.call 72 1 false [] [(.c (.sl [])), (.v 0), (.v 1), (.v 2)]
 (.ret [(.v 3)]))
theorem rd54 : readFn T SG sigs 3000 sg54 Try.f65 an54 = some ir54 := by kernel_rfl
/- 55:deliberationref03.index -/
def an55 : Ann := (.s none .z (.s none (.s none .z (.b (.l ⟨1, [(4, .junk), (5, (.atm (.v 0)))], [], 0, []⟩ .z))) .z))
def ir55p0 : IR :=
 (.op .lenL [(.v 0)]
 (.op (.bin .lss false) [(.v 2), (.v 3)]
 (.ite (.v 4)
  (.op (.row 1) [(.v 0), (.v 2)]
  (.op (.bin .eql false) [(.v 5), (.v 1)]
  (.ite (.v 6)
   (.ret [(.v 2)])
  (.op (.bin .add false) [(.v 2), (.c (.int .i64 1))]
  (.jump 0 [(.v 7)])))))
 (.ret [(.c (.int .i64 (-1)))]))))
def ir55 : IR :=
 (.loop 1 [(.c (.int .i64 0))] ir55p0)
theorem rd55 : readFn T SG sigs 3000 sg55 Try.f66 an55 = some ir55 := by kernel_rfl
/- 56:deliberationref03.Yes -/
def an56 : Ann := (.s none .z (.s none .z (.s none (.s none .z (.b (.l ⟨2, [(4, .junk), (6, (.atm (.v 0)))], [(0, ⟨false, true, 9, 1, (.v 1), []⟩)], 1, [⟨none, 5, 9, 1⟩]⟩ (.s none .z (.s (some ⟨1, [(7, .junk), (8, .junk), (9, .junk), (10, .junk)], [(0, ⟨false, true, 9, 1, (.v 0), []⟩)], 1, []⟩) .z .z))))) .z)))
def ir56p0 : IR :=
 (.op (.bin .add false) [(.v 2), (.c (.int .i64 1))]
 (.jump 0 [(.v 7), (.v 6)]))
def ir56p1 : IR :=
 (.op .lenL [(.v 0)]
 (.op (.bin .lss false) [(.v 2), (.v 4)]
 (.ite (.v 5)
  (.letj 1
   (.op (.conv .u64) [(.v 2)]
   (.op (.bin .shr false) [(.v 1), (.v 6)]
   (.op (.bin .and false) [(.v 7), (.c (.int .i64 1))]
   (.op (.bin .eql false) [(.v 8), (.c (.int .i64 1))]
   (.ite (.v 9)
    (.op (.row 1) [(.v 0), (.v 2)]
    (.op (.mk 1 1) [(.v 10)]
    (.op (.app 1 16) [(.v 3), (.v 11)]
    (.jump 1 [(.v 12)]))))
   (.jump 1 [(.v 3)]))))))
  ir56p0)
 (.ret [(.v 3)]))))
def ir56 : IR :=
 (.loop 2 [(.c (.int .i64 0)), (.c (.sl []))] ir56p1)
theorem rd56 : readFn T SG sigs 3000 sg56 Try.f68 an56 = some ir56 := by kernel_rfl
/- 57:deliberationref02.Eval -/
def an57 : Ann := .z
def ir57 : IR :=
 (.call 70 1 false [] [(.v 0), (.v 1), (.v 2)]
 (.ite (.v 4)
  (.call 71 1 false [] [(.v 0), (.v 1), (.v 2)]
  (.ite (.v 5)
   (.call 73 1 false [] [(.v 0), (.v 1), (.v 2), (.v 3)]
   (.ret [(.v 6)]))
  (.ret [(.c (.bool false))])))
 (.ret [(.c (.bool false))])))
theorem rd57 : readFn T SG sigs 3000 sg57 Try.f67 an57 = some ir57 := by kernel_rfl
/- 58:change.models -/
def an58 : Ann := .z
def ir58 : IR :=
 (.call 19 1 false [] [(.v 0), (.v 1)]
 (.op (.bin .neq false) [(.v 5), (.c (.int .i64 0))]
 (.ite (.v 6)
  (.ret [(.c (.int .u64 0)), (.c (.int .u64 0)), (.v 5)])
 (.call 74 2 false [] [(.v 0), (.v 2), (.v 3), (.v 4)]
 (.call 75 1 false [] [(.v 0)]
 (.ret [(.v 7), (.v 9), (.v 8)]))))))
theorem rd58 : readFn T SG sigs 3000 sg58 Try.f69 an58 = some ir58 := by kernel_rfl
/- 59:deliberationref03.Theory -/
def an59 : Ann := .z
def ir59 : IR :=
 (.call 35 1 false [] [(.v 0)]
 (.op (.un .not) [(.v 2)]
 (.ite (.v 3)
  (.ret [(.c (.int .i64 0)), (.c (.str [])), (.c (.sl [])), (.c (.int .i64 1))])
 (.call 76 3 false [] [(.v 0), (.v 1)]
 (.ret [(.v 4), (.v 5), (.v 6), (.c (.int .i64 0))])))))
theorem rd59 : readFn T SG sigs 3000 sg59 Try.f70 an59 = some ir59 := by kernel_rfl
/- 60:deliberationkeep.In -/
def an60 : Ann := (.s none .z (.s none (.s none .z (.b (.l ⟨1, [(4, .junk), (6, .junk), (8, (.atm (.v 0)))], [], 0, []⟩ .z))) .z))
def ir60p0 : IR :=
 (.op (.bin .lss false) [(.v 3), (.v 2)]
 (.ite (.v 4)
  (.op (.row 1) [(.v 0), (.v 3)]
  (.op (.bin .eql false) [(.v 5), (.v 1)]
  (.ite (.v 6)
   (.ret [(.c (.bool true))])
  (.op (.bin .add false) [(.v 3), (.c (.int .i64 1))]
  (.jump 0 [(.v 7)])))))
 (.ret [(.c (.bool false))])))
def ir60 : IR :=
 (.op .lenL [(.v 0)]
 (.loop 1 [(.c (.int .i64 0))] ir60p0))
theorem rd60 : readFn T SG sigs 3000 sg60 Try.f62 an60 = some ir60 := by kernel_rfl
/- 61:deliberationref01.ValidName -/
def an61 : Ann := (.s none .z (.s none (.s (some ⟨1, [(2, .junk), (21, (.atm (.v 0)))], [], 0, []⟩) .z .z) (.s none (.s none .z (.b (.l ⟨1, [(3, (.atm (.v 0))), (21, .junk)], [], 0, []⟩ (.s none .z (.s none (.b (.s (some ⟨1, [(22, .junk), (23, .junk), (24, .junk), (25, .junk), (55, (.atm (.v 0)))], [], 0, []⟩) .z .z)) .z))))) .z)))
def ir61p0 : IR :=
 (.ite (.v 5)
  (.ret [(.c (.bool false))])
 (.op (.bin .add false) [(.v 2), (.c (.int .i64 1))]
 (.jump 0 [(.v 6)])))
def ir61p1 : IR :=
 (.op .lenS [(.v 0)]
 (.op (.bin .lss false) [(.v 2), (.v 3)]
 (.ite (.v 4)
  (.letj 1
   (.op .idxS [(.v 0), (.v 2)]
   (.op (.bin .lss false) [(.v 5), (.c (.int .u8 97))]
   (.ite (.v 6)
    (.op .idxS [(.v 0), (.v 2)]
    (.op (.bin .lss false) [(.v 7), (.c (.int .u8 48))]
    (.ite (.v 8)
     (.op .idxS [(.v 0), (.v 2)]
     (.op (.bin .neq false) [(.v 9), (.c (.int .u8 95))]
     (.jump 1 [(.v 10)])))
    (.op .idxS [(.v 0), (.v 2)]
    (.op (.bin .gtr false) [(.v 9), (.c (.int .u8 57))]
    (.ite (.v 10)
     (.op .idxS [(.v 0), (.v 2)]
     (.op (.bin .neq false) [(.v 11), (.c (.int .u8 95))]
     (.jump 1 [(.v 12)])))
    (.jump 1 [(.c (.bool false))])))))))
   (.op .idxS [(.v 0), (.v 2)]
   (.op (.bin .gtr false) [(.v 7), (.c (.int .u8 122))]
   (.ite (.v 8)
    (.op .idxS [(.v 0), (.v 2)]
    (.op (.bin .lss false) [(.v 9), (.c (.int .u8 48))]
    (.ite (.v 10)
     (.op .idxS [(.v 0), (.v 2)]
     (.op (.bin .neq false) [(.v 11), (.c (.int .u8 95))]
     (.jump 1 [(.v 12)])))
    (.op .idxS [(.v 0), (.v 2)]
    (.op (.bin .gtr false) [(.v 11), (.c (.int .u8 57))]
    (.ite (.v 12)
     (.op .idxS [(.v 0), (.v 2)]
     (.op (.bin .neq false) [(.v 13), (.c (.int .u8 95))]
     (.jump 1 [(.v 14)])))
    (.jump 1 [(.c (.bool false))])))))))
   (.jump 1 [(.c (.bool false))])))))))
  ir61p0)
 (.ret [(.c (.bool true))]))))
def ir61p2 : IR :=
 (.ite (.v 1)
  (.ret [(.c (.bool false))])
 (.loop 1 [(.c (.int .i64 0))] ir61p1))
def ir61 : IR :=
 (.letj 1
  (.op .lenS [(.v 0)]
  (.op (.bin .lss false) [(.v 1), (.c (.int .i64 1))]
  (.ite (.v 2)
   (.jump 0 [(.c (.bool true))])
  (.op .lenS [(.v 0)]
  (.op (.bin .gtr false) [(.v 3), (.c (.int .i64 12))]
  (.ite (.v 4)
   (.jump 0 [(.c (.bool true))])
  (.op .idxS [(.v 0), (.c (.int .i64 0))]
  (.op (.bin .lss false) [(.v 5), (.c (.int .u8 97))]
  (.ite (.v 6)
   (.jump 0 [(.c (.bool true))])
  (.op .idxS [(.v 0), (.c (.int .i64 0))]
  (.op (.bin .gtr false) [(.v 7), (.c (.int .u8 122))]
  (.jump 0 [(.v 8)]))))))))))))
 ir61p2)
theorem rd61 : readFn T SG sigs 3000 sg61 Try.f71 an61 = some ir61 := by kernel_rfl
/- 62:literal.ValidName -/
def an62 : Ann := (.s none .z (.s none (.s (some ⟨1, [(2, .junk), (12, (.atm (.v 0)))], [], 0, []⟩) .z .z) (.s none (.s none .z (.b (.l ⟨1, [(12, .junk), (13, .junk), (15, (.atm (.v 0)))], [], 0, []⟩ (.s none .z (.s none .z (.s (some ⟨0, [(16, .junk)], [], 0, []⟩) (.b (.s none .z (.s none .z (.b (.s (some ⟨1, [(16, .junk), (17, .junk), (18, .junk), (19, .junk), (20, .junk), (21, (.atm (.v 0)))], [], 0, []⟩) .z (.c .z (.s (some ⟨1, [(3, .junk), (4, .junk), (21, .junk), (28, (.atm (.v 0)))], [], 0, []⟩) .z .z))))))) .z)))))) .z)))
def ir62p0 : IR :=
 (.op (.bin .add false) [(.v 3), (.c (.int .i64 1))]
 (.jump 0 [(.v 5)]))
def ir62p1 : IR :=
 (.ite (.v 7)
  (.jump 1 [])
 (.ret [(.c (.bool false))]))
def ir62p2 : IR :=
 (.ite (.v 6)
  (.jump 1 [])
 (.letj 1
  (.op (.bin .gtr false) [(.v 3), (.c (.int .i64 0))]
  (.ite (.v 7)
   (.op (.bin .geq false) [(.v 5), (.c (.int .u8 48))]
   (.ite (.v 8)
    (.op (.bin .leq false) [(.v 5), (.c (.int .u8 57))]
    (.ite (.v 9)
     (.jump 2 [(.c (.bool true))])
    (.op (.bin .eql false) [(.v 5), (.c (.int .u8 95))]
    (.jump 2 [(.v 10)]))))
   (.op (.bin .eql false) [(.v 5), (.c (.int .u8 95))]
   (.jump 2 [(.v 9)]))))
  (.jump 2 [(.c (.bool false))])))
 ir62p1))
def ir62p3 : IR :=
 (.op (.bin .lss false) [(.v 3), (.v 2)]
 (.ite (.v 4)
  (.letj 0
   (.op .idxS [(.v 0), (.v 3)]
   (.letj 1
    (.op (.bin .geq false) [(.v 5), (.c (.int .u8 97))]
    (.ite (.v 6)
     (.op (.bin .leq false) [(.v 5), (.c (.int .u8 122))]
     (.jump 2 [(.v 7)]))
    (.jump 2 [(.c (.bool false))])))
   ir62p2))
  ir62p0)
 (.ret [(.c (.bool true))])))
def ir62p4 : IR :=
 (.ite (.v 1)
  (.ret [(.c (.bool false))])
 (.op .lenS [(.v 0)]
 (.loop 1 [(.c (.int .i64 0))] ir62p3)))
def ir62 : IR :=
 (.letj 1
  (.op .lenS [(.v 0)]
  (.op (.bin .eql false) [(.v 1), (.c (.int .i64 0))]
  (.ite (.v 2)
   (.jump 0 [(.c (.bool true))])
  (.op .lenS [(.v 0)]
  (.op (.bin .gtr false) [(.v 3), (.c (.int .i64 12))]
  (.jump 0 [(.v 4)]))))))
 ir62p4)
theorem rd62 : readFn T SG sigs 3000 sg62 Try.f72 an62 = some ir62 := by kernel_rfl
/- 63:slices.Collect[int]: not read -/
/- 64:slices.Sort[[]int,int]: not read -/
/- 65:cmp.Less[int] -/
def an65 : Ann := .z
def ir65 : IR :=
 (.call 77 1 false [] [(.v 0)]
 (.ite (.v 2)
  (.call 77 1 false [] [(.v 1)]
  (.op (.un .not) [(.v 3)]
  (.ite (.v 4)
   (.ret [(.c (.bool true))])
  (.op (.bin .lss false) [(.v 0), (.v 1)]
  (.ret [(.v 5)])))))
 (.op (.bin .lss false) [(.v 0), (.v 1)]
 (.ret [(.v 3)]))))
theorem rd65 : readFn T SG sigs 3000 sg65 Try.f76 an65 = some ir65 := by kernel_rfl
/- 66:slices.isNaN[int] -/
def an66 : Ann := .z
def ir66 : IR :=
 (.op (.bin .neq false) [(.v 0), (.v 0)]
 (.ret [(.v 1)]))
theorem rd66 : readFn T SG sigs 3000 sg66 Try.f77 an66 = some ir66 := by kernel_rfl
/- 67:slices.Index[[]bool,bool] -/
def an67 : Ann := (.s none .z (.s none (.s none .z (.b (.l ⟨1, [(4, .junk), (6, .junk), (8, (.atm (.v 0)))], [], 0, []⟩ .z))) .z))
def ir67p0 : IR :=
 (.op (.bin .lss false) [(.v 3), (.v 2)]
 (.ite (.v 4)
  (.op (.row 1) [(.v 0), (.v 3)]
  (.op (.bin .eql true) [(.v 1), (.v 5)]
  (.ite (.v 6)
   (.ret [(.v 3)])
  (.op (.bin .add false) [(.v 3), (.c (.int .i64 1))]
  (.jump 0 [(.v 7)])))))
 (.ret [(.c (.int .i64 (-1)))])))
def ir67 : IR :=
 (.op .lenL [(.v 0)]
 (.loop 1 [(.c (.int .i64 0))] ir67p0))
theorem rd67 : readFn T SG sigs 3000 sg67 Try.f78 an67 = some ir67 := by kernel_rfl
/- 68:deliberationref02.Size -/
def an68 : Ann := (.s none .z (.s none .z (.s none (.s none .z (.b (.l ⟨2, [(0, .junk), (2, .junk), (3, (.atm (.v 0))), (4, (.atm (.v 1)))], [], 1, []⟩ .z))) .z)))
def ir68p0 : IR :=
 (.op .lenL [(.v 2)]
 (.op (.bin .lss false) [(.v 4), (.v 5)]
 (.ite (.v 6)
  (.op (.row 3) [(.v 2), (.v 4)]
  (.call 68 1 false [] [(.v 7), (.v 8), (.v 9)]
  (.op (.bin .add false) [(.v 3), (.v 10)]
  (.op (.bin .add false) [(.v 4), (.c (.int .i64 1))]
  (.jump 0 [(.v 11), (.v 12)])))))
 (.ret [(.v 3)]))))
def ir68 : IR :=
 (.loop 2 [(.c (.int .i64 1)), (.c (.int .i64 0))] ir68p0)
theorem rd68 : readFn T SG sigs 3000 sg68 Try.f79 an68 = some ir68 := by kernel_rfl
/- 69:deliberationref02.Depth -/
def an69 : Ann := (.s none .z (.s none .z (.s none (.s none .z (.b (.l ⟨2, [(0, .junk), (2, .junk), (3, (.atm (.v 0))), (4, (.atm (.v 1)))], [], 1, []⟩ .z))) .z)))
def ir69p0 : IR :=
 (.op .lenL [(.v 2)]
 (.op (.bin .lss false) [(.v 4), (.v 5)]
 (.ite (.v 6)
  (.op (.row 3) [(.v 2), (.v 4)]
  (.call 69 1 false [] [(.v 7), (.v 8), (.v 9)]
  (.op (.bin .add false) [(.c (.int .i64 1)), (.v 10)]
  (.op .max [(.v 3), (.v 11)]
  (.op (.bin .add false) [(.v 4), (.c (.int .i64 1))]
  (.jump 0 [(.v 12), (.v 13)]))))))
 (.ret [(.v 3)]))))
def ir69 : IR :=
 (.loop 2 [(.c (.int .i64 0)), (.c (.int .i64 0))] ir69p0)
theorem rd69 : readFn T SG sigs 3000 sg69 Try.f80 an69 = some ir69 := by kernel_rfl
/- 70:deliberationref02.kinds -/
def an70 : Ann := (.s none .z (.s none .z (.s none .z (.s (some ⟨1, [(0, .junk), (2, .junk), (4, (.atm (.v 0))), (6, .junk), (7, .junk), (8, .junk)], [], 1, []⟩) (.s none .z (.b (.s (some ⟨1, [(0, .junk), (2, .junk), (6, .junk), (7, .junk), (8, .junk), (9, .junk), (11, (.atm (.v 0)))], [], 1, []⟩) .z (.c .z (.s none .z (.c .z (.s (some ⟨1, [(11, .junk), (17, .junk), (18, .junk), (21, (.atm (.v 0)))], [], 1, []⟩) .z (.c .z (.s (some ⟨1, [(10, .junk), (21, .junk), (30, (.atm (.v 0)))], [], 1, []⟩) .z .z))))))))) (.s none (.s none .z (.b (.l ⟨2, [(4, (.atm (.v 0))), (5, (.atm (.v 1)))], [], 1, []⟩ (.s none .z (.s (some ⟨1, [(4, (.atm (.v 0))), (35, .junk), (36, .junk), (37, .junk)], [], 1, []⟩) .z .z))))) .z)))))
def ir70p0 : IR :=
 (.op (.bin .add false) [(.v 6), (.c (.int .i64 1))]
 (.jump 0 [(.v 8), (.v 9)]))
def ir70p1 : IR :=
 (.op (.bin .lss false) [(.v 6), (.v 3)]
 (.ite (.v 7)
  (.letj 1
   (.ite (.v 5)
    (.op (.row 3) [(.v 2), (.v 6)]
    (.call 70 1 false [] [(.v 8), (.v 9), (.v 10)]
    (.jump 1 [(.v 11)])))
   (.jump 1 [(.c (.bool false))]))
  ir70p0)
 (.ret [(.v 5)])))
def ir70p2 : IR :=
 (.loop 2 [(.v 4), (.c (.int .i64 0))] ir70p1)
def ir70p3 : IR :=
 (.ite (.v 7)
  (.op (.bin .eql false) [(.v 3), (.c (.int .i64 2))]
  (.jump 0 [(.v 8)]))
 (.jump 0 [(.c (.bool false))]))
def ir70p4 : IR :=
 (.ite (.v 6)
  (.op (.bin .geq false) [(.v 3), (.c (.int .i64 2))]
  (.ite (.v 7)
   (.op (.bin .leq false) [(.v 3), (.c (.int .i64 6))]
   (.jump 0 [(.v 8)]))
  (.jump 0 [(.c (.bool false))])))
 (.letj 1
  (.op (.bin .eql false) [(.v 0), (.c (.int .i64 7))]
  (.ite (.v 7)
   (.jump 1 [(.c (.bool true))])
  (.op (.bin .eql false) [(.v 0), (.c (.int .i64 8))]
  (.jump 1 [(.v 8)]))))
 ir70p3))
def ir70p5 : IR :=
 (.ite (.v 4)
  (.op (.bin .eql false) [(.v 3), (.c (.int .i64 0))]
  (.jump 0 [(.v 5)]))
 (.op (.bin .eql false) [(.v 0), (.c (.int .i64 4))]
 (.ite (.v 5)
  (.op (.bin .eql false) [(.v 3), (.c (.int .i64 1))]
  (.jump 0 [(.v 6)]))
 (.letj 1
  (.op (.bin .eql false) [(.v 0), (.c (.int .i64 5))]
  (.ite (.v 6)
   (.jump 1 [(.c (.bool true))])
  (.op (.bin .eql false) [(.v 0), (.c (.int .i64 6))]
  (.jump 1 [(.v 7)]))))
 ir70p4))))
def ir70 : IR :=
 (.op .lenL [(.v 2)]
 (.letj 1
  (.letj 1
   (.op (.bin .eql false) [(.v 0), (.c (.int .i64 1))]
   (.ite (.v 4)
    (.jump 1 [(.c (.bool true))])
   (.op (.bin .eql false) [(.v 0), (.c (.int .i64 2))]
   (.ite (.v 5)
    (.jump 1 [(.c (.bool true))])
   (.op (.bin .eql false) [(.v 0), (.c (.int .i64 3))]
   (.jump 1 [(.v 6)]))))))
  ir70p5)
 ir70p2))
theorem rd70 : readFn T SG sigs 3000 sg70 Try.f81 an70 = some ir70 := by kernel_rfl
/- 71:deliberationref02.names -/
def an71 : Ann := (.s none .z (.s none .z (.s (some ⟨1, [(0, .junk), (2, .junk), (3, (.atm (.v 0))), (5, .junk), (6, .junk), (7, .junk)], [], 1, []⟩) .z (.s none (.s none .z (.b (.l ⟨2, [(3, (.atm (.v 0))), (4, (.atm (.v 1)))], [], 1, []⟩ (.s none .z (.s (some ⟨1, [(3, (.atm (.v 0))), (14, .junk), (15, .junk), (16, .junk), (17, .junk), (18, .junk)], [], 1, []⟩) .z .z))))) .z))))
def ir71p0 : IR :=
 (.op (.bin .add false) [(.v 6), (.c (.int .i64 1))]
 (.jump 0 [(.v 9), (.v 10)]))
def ir71p1 : IR :=
 (.op .lenL [(.v 2)]
 (.op (.bin .lss false) [(.v 6), (.v 7)]
 (.ite (.v 8)
  (.letj 1
   (.ite (.v 5)
    (.op (.row 3) [(.v 2), (.v 6)]
    (.call 71 1 false [] [(.v 9), (.v 10), (.v 11)]
    (.jump 1 [(.v 12)])))
   (.jump 1 [(.c (.bool false))]))
  ir71p0)
 (.ret [(.v 5)]))))
def ir71p2 : IR :=
 (.loop 2 [(.v 4), (.c (.int .i64 0))] ir71p1)
def ir71 : IR :=
 (.op (.bin .eql false) [(.v 1), (.c (.str []))]
 (.letj 1
  (.op (.bin .eql false) [(.v 0), (.c (.int .i64 3))]
  (.ite (.v 4)
   (.call 61 1 false [] [(.v 1)]
   (.jump 0 [(.v 5)]))
  (.jump 0 [(.v 3)])))
 ir71p2))
theorem rd71 : readFn T SG sigs 3000 sg71 Try.f82 an71 = some ir71 := by kernel_rfl
/- 72:deliberationref02.collect -/
def an72 : Ann := (.s none .z (.s (some ⟨1, [(0, (.atm (.v 0))), (1, .junk), (4, .junk)], [], 1, []⟩) (.s (some ⟨1, [(1, .junk), (4, .junk), (14, (.atm (.v 0)))], [], 1, []⟩) .z .z) (.s none (.s none .z (.b (.l ⟨2, [(0, (.atm (.v 0))), (5, (.atm (.v 1)))], [], 1, []⟩ .z))) .z)))
def ir72p0 : IR :=
 (.op .lenL [(.v 3)]
 (.op (.bin .lss false) [(.v 6), (.v 7)]
 (.ite (.v 8)
  (.op (.row 3) [(.v 3), (.v 6)]
  (.call 72 1 false [] [(.v 5), (.v 9), (.v 10), (.v 11)]
  (.op (.bin .add false) [(.v 6), (.c (.int .i64 1))]
  (.jump 0 [(.v 12), (.v 13)]))))
 (.ret [(.v 5)]))))
def ir72p1 : IR :=
 (.loop 2 [(.v 4), (.c (.int .i64 0))] ir72p0)
def ir72p2 : IR :=
 (.ite (.v 4)
  (.call 78 1 false [] [(.v 0), (.v 2)]
  (.jump 0 [(.v 5)]))
 (.jump 0 [(.v 0)]))
def ir72 : IR :=
 (.letj 1
  (.letj 1
   (.op (.bin .eql false) [(.v 1), (.c (.int .i64 3))]
   (.ite (.v 4)
    (.op .lenL [(.v 3)]
    (.op (.bin .eql false) [(.v 5), (.c (.int .i64 0))]
    (.jump 1 [(.v 6)])))
   (.jump 1 [(.c (.bool false))])))
  ir72p2)
 ir72p1)
theorem rd72 : readFn T SG sigs 3000 sg72 Try.f83 an72 = some ir72 := by kernel_rfl
/- 73:deliberationref02.value -/
def an73 : Ann := (.s none .z (.s none (.s none .z (.b (.s none .z (.c .z (.s none .z (.c (.s none (.s none .z (.b (.l ⟨1, [(0, .junk), (4, .junk), (5, (.atm (.v 0))), (8, .junk), (9, .junk), (10, .junk), (11, .junk), (12, .junk), (13, .junk)], [], 1, []⟩ .z))) .z) (.s none .z (.c .z (.s none .z (.c (.s none (.s none .z (.b (.l ⟨1, [(0, .junk), (4, .junk), (6, (.atm (.v 0))), (8, .junk), (9, .junk), (10, .junk), (11, .junk), (12, .junk), (13, .junk), (27, .junk), (28, .junk), (36, .junk), (37, .junk)], [], 1, []⟩ .z))) .z) (.s none .z (.c (.s none (.s none .z (.b (.l ⟨1, [(0, .junk), (4, .junk), (7, (.atm (.v 0))), (8, .junk), (9, .junk), (10, .junk), (11, .junk), (12, .junk), (13, .junk), (27, .junk), (28, .junk), (36, .junk), (37, .junk), (53, .junk), (54, .junk)], [], 1, []⟩ .z))) .z) .z)))))))))))) .z))
def ir73p0 : IR :=
 (.op .lenL [(.v 3)]
 (.op (.bin .lss false) [(.v 6), (.v 7)]
 (.ite (.v 8)
  (.op (.row 1) [(.v 3), (.v 6)]
  (.op (.bin .eql false) [(.v 9), (.v 1)]
  (.ite (.v 10)
   (.ret [(.c (.bool true))])
  (.op (.bin .add false) [(.v 6), (.c (.int .i64 1))]
  (.jump 0 [(.v 11)])))))
 (.ret [(.c (.bool false))]))))
def ir73p1 : IR :=
 (.op .lenL [(.v 2)]
 (.op (.bin .lss false) [(.v 8), (.v 9)]
 (.ite (.v 10)
  (.op (.row 3) [(.v 2), (.v 8)]
  (.call 73 1 false [] [(.v 11), (.v 12), (.v 13), (.v 3)]
  (.op (.un .not) [(.v 14)]
  (.ite (.v 15)
   (.ret [(.c (.bool false))])
  (.op (.bin .add false) [(.v 8), (.c (.int .i64 1))]
  (.jump 0 [(.v 16)]))))))
 (.ret [(.c (.bool true))]))))
def ir73p2 : IR :=
 (.op .lenL [(.v 2)]
 (.op (.bin .lss false) [(.v 9), (.v 10)]
 (.ite (.v 11)
  (.op (.row 3) [(.v 2), (.v 9)]
  (.call 73 1 false [] [(.v 12), (.v 13), (.v 14), (.v 3)]
  (.ite (.v 15)
   (.ret [(.c (.bool true))])
  (.op (.bin .add false) [(.v 9), (.c (.int .i64 1))]
  (.jump 0 [(.v 16)])))))
 (.ret [(.c (.bool false))]))))
def ir73 : IR :=
 (.op (.bin .eql false) [(.v 0), (.c (.int .i64 1))]
 (.ite (.v 4)
  (.ret [(.c (.bool true))])
 (.op (.bin .eql false) [(.v 0), (.c (.int .i64 3))]
 (.ite (.v 5)
  (.loop 1 [(.c (.int .i64 0))] ir73p0)
 (.op (.bin .eql false) [(.v 0), (.c (.int .i64 4))]
 (.ite (.v 6)
  (.op (.row 3) [(.v 2), (.c (.int .i64 0))]
  (.call 73 1 false [] [(.v 7), (.v 8), (.v 9), (.v 3)]
  (.op (.un .not) [(.v 10)]
  (.ret [(.v 11)]))))
 (.op (.bin .eql false) [(.v 0), (.c (.int .i64 5))]
 (.ite (.v 7)
  (.loop 1 [(.c (.int .i64 0))] ir73p1)
 (.op (.bin .eql false) [(.v 0), (.c (.int .i64 6))]
 (.ite (.v 8)
  (.loop 1 [(.c (.int .i64 0))] ir73p2)
 (.op (.bin .eql false) [(.v 0), (.c (.int .i64 7))]
 (.ite (.v 9)
  (.op (.row 3) [(.v 2), (.c (.int .i64 0))]
  (.call 73 1 false [] [(.v 10), (.v 11), (.v 12), (.v 3)]
  (.op (.un .not) [(.v 13)]
  (.ite (.v 14)
   (.ret [(.c (.bool true))])
  (.op (.row 3) [(.v 2), (.c (.int .i64 1))]
  (.call 73 1 false [] [(.v 15), (.v 16), (.v 17), (.v 3)]
  (.ret [(.v 18)])))))))
 (.op (.bin .eql false) [(.v 0), (.c (.int .i64 8))]
 (.ite (.v 10)
  (.op (.row 3) [(.v 2), (.c (.int .i64 0))]
  (.call 73 1 false [] [(.v 11), (.v 12), (.v 13), (.v 3)]
  (.op (.row 3) [(.v 2), (.c (.int .i64 1))]
  (.call 73 1 false [] [(.v 15), (.v 16), (.v 17), (.v 3)]
  (.op (.bin .eql true) [(.v 14), (.v 18)]
  (.ret [(.v 19)]))))))
 (.ret [(.c (.bool false))])))))))))))))))
theorem rd73 : readFn T SG sigs 3000 sg73 Try.f84 an73 = some ir73 := by kernel_rfl
/- 74:world.Models -/
def an74 : Ann := (.s none .z (.s none .z (.s none .z (.s none (.s none .z (.b (.l ⟨1, [(1, .junk), (4, .junk), (5, .junk), (6, .junk), (9, .junk), (10, .junk), (11, .junk), (12, .junk), (13, .junk), (14, .junk), (15, .junk), (17, .junk), (20, (.atm (.v 0)))], [], 1, []⟩ .z))) .z))))
def ir74p0 : IR :=
 (.op (.bin .lss false) [(.v 10), (.v 9)]
 (.ite (.v 11)
  (.op (.row 1) [(.v 8), (.v 10)]
  (.call 81 1 false [] [(.v 0), (.v 12)]
  (.op (.un .not) [(.v 13)]
  (.ite (.v 14)
   (.ret [(.c (.int .u64 0)), (.c (.int .i64 6))])
  (.op (.bin .add false) [(.v 10), (.c (.int .i64 1))]
  (.jump 0 [(.v 15)]))))))
 (.call 82 1 false [] [(.v 0), (.v 1), (.v 2), (.v 3)]
 (.call 75 1 false [] [(.v 0)]
 (.op (.bin .and false) [(.v 12), (.v 13)]
 (.ret [(.v 14), (.c (.int .i64 0))]))))))
def ir74 : IR :=
 (.call 40 1 false [] [(.v 0)]
 (.op (.un .not) [(.v 4)]
 (.ite (.v 5)
  (.ret [(.c (.int .u64 0)), (.c (.int .i64 1))])
 (.call 79 1 false [] [(.v 1), (.v 2), (.v 3)]
 (.op (.bin .neq false) [(.v 6), (.c (.int .i64 0))]
 (.ite (.v 7)
  (.ret [(.c (.int .u64 0)), (.v 6)])
 (.call 80 1 false [] [(.v 1), (.v 2), (.v 3)]
 (.op .lenL [(.v 8)]
 (.loop 1 [(.c (.int .i64 0))] ir74p0)))))))))
theorem rd74 : readFn T SG sigs 3000 sg74 Try.f85 an74 = some ir74 := by kernel_rfl
/- 75:world.All -/
def an75 : Ann := .z
def ir75 : IR :=
 (.call 40 1 false [] [(.v 0)]
 (.op (.un .not) [(.v 1)]
 (.ite (.v 2)
  (.ret [(.c (.int .u64 0))])
 (.op .lenL [(.v 0)]
 (.call 83 1 false [] [(.v 3)]
 (.ret [(.v 4)]))))))
theorem rd75 : readFn T SG sigs 3000 sg75 Try.f86 an75 = some ir75 := by kernel_rfl
/- 76:deliberationref03.theory -/
def an76 : Ann := (.s none .z (.s none .z (.s none .z (.s none .z (.s none .z (.s none .z (.s none (.b (.s none .z (.c .z (.s (some ⟨1, [(0, .junk), (1, .junk), (9, .junk), (10, .junk), (11, .junk), (12, .junk), (13, .junk), (15, .junk), (16, .junk), (17, .junk), (18, .junk), (19, .junk), (20, .junk), (21, .junk), (23, .junk), (24, .junk), (25, .junk), (26, .junk), (27, .junk), (28, .junk), (29, .junk), (30, .junk), (31, .junk), (32, .junk), (33, .junk), (34, .junk), (35, .junk), (36, .junk), (37, .junk), (38, .junk), (39, .junk), (40, .junk), (41, .junk), (42, .junk), (43, .junk), (44, .junk), (45, .junk), (47, (.atm (.v 0)))], [], 18, []⟩) .z (.c .z (.s none .z (.c .z (.s (some ⟨1, [(47, .junk), (57, .junk), (58, .junk), (59, .junk), (60, .junk), (64, (.atm (.v 0)))], [], 18, []⟩) .z .z)))))))) .z)))))))
def ir76p0 : IR :=
 (.ite (.v 26)
  (.ret [(.c (.int .i64 4)), (.c (.str [])), (.v 10)])
 (.op (.bin .eql false) [(.v 14), (.c (.int .i64 2))]
 (.ite (.v 27)
  (.call 86 3 false [] [(.c (.int .i64 5)), (.c (.int .i64 4)), (.c (.str [])), (.v 10), (.v 20), (.v 21), (.v 22)]
  (.ret [(.v 28), (.v 29), (.v 30)]))
 (.op (.bin .eql false) [(.v 20), (.c (.int .i64 1))]
 (.ite (.v 28)
  (.call 86 3 false [] [(.c (.int .i64 6)), (.c (.int .i64 4)), (.c (.str [])), (.v 10), (.v 14), (.v 15), (.v 16)]
  (.ret [(.v 29), (.v 30), (.v 31)]))
 (.op (.bin .eql false) [(.v 20), (.c (.int .i64 2))]
 (.ite (.v 29)
  (.call 86 3 false [] [(.c (.int .i64 5)), (.c (.int .i64 3)), (.v 9), (.c (.sl [])), (.v 14), (.v 15), (.v 16)]
  (.ret [(.v 30), (.v 31), (.v 32)]))
 (.call 86 3 false [] [(.c (.int .i64 5)), (.c (.int .i64 3)), (.v 9), (.c (.sl [])), (.v 14), (.v 15), (.v 16)]
 (.call 86 3 false [] [(.c (.int .i64 5)), (.c (.int .i64 4)), (.c (.str [])), (.v 10), (.v 20), (.v 21), (.v 22)]
 (.call 86 3 false [] [(.c (.int .i64 6)), (.v 30), (.v 31), (.v 32), (.v 33), (.v 34), (.v 35)]
 (.ret [(.v 36), (.v 37), (.v 38)])))))))))))
def ir76p1 : IR :=
 (.ite (.v 24)
  (.ret [(.c (.int .i64 3)), (.v 9), (.c (.sl []))])
 (.op (.bin .eql false) [(.v 14), (.c (.int .i64 1))]
 (.ite (.v 25)
  (.call 86 3 false [] [(.c (.int .i64 6)), (.c (.int .i64 3)), (.v 9), (.c (.sl [])), (.v 20), (.v 21), (.v 22)]
  (.ret [(.v 26), (.v 27), (.v 28)]))
 (.letj 1
  (.op (.bin .eql false) [(.v 14), (.c (.int .i64 2))]
  (.ite (.v 26)
   (.op (.bin .eql false) [(.v 20), (.c (.int .i64 1))]
   (.jump 0 [(.v 27)]))
  (.jump 0 [(.c (.bool false))])))
 ir76p0))))
def ir76 : IR :=
 (.call 11 1 false [] [(.v 0)]
 (.op (.bin .and false) [(.v 1), (.v 2)]
 (.op (.bin .eql false) [(.v 3), (.c (.int .u64 0))]
 (.ite (.v 4)
  (.ret [(.c (.int .i64 2)), (.c (.str [])), (.c (.sl []))])
 (.call 11 1 false [] [(.v 0)]
 (.op (.bin .and false) [(.v 1), (.v 5)]
 (.call 11 1 false [] [(.v 0)]
 (.op (.bin .eql false) [(.v 6), (.v 7)]
 (.ite (.v 8)
  (.ret [(.c (.int .i64 1)), (.c (.str [])), (.c (.sl []))])
 (.op (.row 1) [(.v 0), (.c (.int .i64 0))]
 (.op (.mk 3 1) [(.c (.int .i64 3)), (.v 9), (.c (.sl []))]
 (.op .lenL [(.v 0)]
 (.op (.subL 1) [(.v 0), (.c (.int .i64 1)), (.v 11)]
 (.call 84 1 false [] [(.v 0), (.v 1), (.c (.int .i64 1))]
 (.call 76 3 false [] [(.v 12), (.v 13)]
 (.op .lenL [(.v 0)]
 (.op (.subL 1) [(.v 0), (.c (.int .i64 1)), (.v 17)]
 (.call 84 1 false [] [(.v 0), (.v 1), (.c (.int .i64 0))]
 (.call 76 3 false [] [(.v 18), (.v 19)]
 (.call 85 1 false [] [(.v 14), (.v 15), (.v 16), (.v 20), (.v 21), (.v 22)]
 (.ite (.v 23)
  (.ret [(.v 14), (.v 15), (.v 16)])
 (.letj 1
  (.op (.bin .eql false) [(.v 14), (.c (.int .i64 1))]
  (.ite (.v 24)
   (.op (.bin .eql false) [(.v 20), (.c (.int .i64 2))]
   (.jump 0 [(.v 25)]))
  (.jump 0 [(.c (.bool false))])))
 ir76p1))))))))))))))))))))))
theorem rd76 : readFn T SG sigs 3000 sg76 Try.f87 an76 = some ir76 := by kernel_rfl
/- 77:cmp.isNaN[int] -/
def an77 : Ann := .z
def ir77 : IR :=
 (.op (.bin .neq false) [(.v 0), (.v 0)]
 (.ret [(.v 1)]))
theorem rd77 : readFn T SG sigs 3000 sg77 Try.f91 an77 = some ir77 := by kernel_rfl
/- 78:deliberationref02.insert -/
def an78 : Ann := (.s none .z (.s none .z (.s none (.b (.l ⟨1, [(4, .junk), (5, (.atm (.v 0)))], [], 0, []⟩ (.s none (.s (some ⟨1, [(18, (.atm (.v 0)))], [], 0, []⟩) .z .z) .z))) (.s none (.s (some ⟨1, [(18, .junk), (32, (.atm (.v 0)))], [], 0, []⟩) .z .z) .z))))
def ir78p0 : IR :=
 (.ite (.v 4)
  (.ret [(.v 0)])
 (.op (.subL 1) [(.v 0), (.c (.int .i64 0)), (.v 2)]
 (.op (.app 1 16) [(.c (.sl [])), (.v 5)]
 (.op (.mk 1 1) [(.v 1)]
 (.op (.app 1 16) [(.v 6), (.v 7)]
 (.op .lenL [(.v 0)]
 (.op (.subL 1) [(.v 0), (.v 2), (.v 9)]
 (.op (.app 1 16) [(.v 8), (.v 10)]
 (.ret [(.v 11)])))))))))
def ir78p1 : IR :=
 (.ite (.v 3)
  (.op (.bin .add false) [(.v 2), (.c (.int .i64 1))]
  (.jump 0 [(.v 4)]))
 (.letj 1
  (.op .lenL [(.v 0)]
  (.op (.bin .lss false) [(.v 2), (.v 4)]
  (.ite (.v 5)
   (.op (.row 1) [(.v 0), (.v 2)]
   (.op (.bin .eql false) [(.v 6), (.v 1)]
   (.jump 1 [(.v 7)])))
  (.jump 1 [(.c (.bool false))]))))
 ir78p0))
def ir78p2 : IR :=
 (.letj 1
  (.op .lenL [(.v 0)]
  (.op (.bin .lss false) [(.v 2), (.v 3)]
  (.ite (.v 4)
   (.op (.row 1) [(.v 0), (.v 2)]
   (.op (.bin .lss false) [(.v 5), (.v 1)]
   (.jump 1 [(.v 6)])))
  (.jump 1 [(.c (.bool false))]))))
 ir78p1)
def ir78 : IR :=
 (.loop 1 [(.c (.int .i64 0))] ir78p2)
theorem rd78 : readFn T SG sigs 3000 sg78 Try.f92 an78 = some ir78 := by kernel_rfl
/- 79:formula.Validate -/
def an79 : Ann := (.s none .z (.s none (.b (.s (some ⟨1, [(0, .junk), (2, .junk), (3, (.atm (.v 0)))], [], 1, []⟩) .z .z)) .z))
def ir79p0 : IR :=
 (.ite (.v 3)
  (.ret [(.c (.int .i64 2))])
 (.call 89 1 false [] [(.v 0), (.v 1), (.v 2)]
 (.op (.un .not) [(.v 4)]
 (.ite (.v 5)
  (.ret [(.c (.int .i64 4))])
 (.call 90 1 false [] [(.v 0), (.v 1), (.v 2)]
 (.op (.un .not) [(.v 6)]
 (.ite (.v 7)
  (.ret [(.c (.int .i64 3))])
 (.ret [(.c (.int .i64 0))]))))))))
def ir79 : IR :=
 (.letj 1
  (.call 87 1 false [] [(.v 0), (.v 1), (.v 2)]
  (.op (.bin .gtr false) [(.v 3), (.c (.int .i64 600))]
  (.ite (.v 4)
   (.jump 0 [(.c (.bool true))])
  (.call 88 1 false [] [(.v 0), (.v 1), (.v 2)]
  (.op (.bin .gtr false) [(.v 5), (.c (.int .i64 20))]
  (.jump 0 [(.v 6)]))))))
 ir79p0)
theorem rd79 : readFn T SG sigs 3000 sg79 Try.f93 an79 = some ir79 := by kernel_rfl
/- 80:formula.Atoms: not read -/
/- 81:slices.Contains[[]string,string] -/
def an81 : Ann := .z
def ir81 : IR :=
 (.call 91 1 false [] [(.v 0), (.v 1)]
 (.op (.bin .geq false) [(.v 2), (.c (.int .i64 0))]
 (.ret [(.v 3)])))
theorem rd81 : readFn T SG sigs 3000 sg81 Try.f95 an81 = some ir81 := by kernel_rfl
/- 82:world.models -/
def an82 : Ann := (.s none .z (.s none (.s none .z (.b (.s none .z (.c .z (.s none .z (.c .z (.s none .z (.c .z (.s none .z (.c .z (.s none .z (.c .z (.s none .z (.c (.s none .z (.s none (.s none .z (.b (.l ⟨2, [(1, .junk), (3, .junk), (4, .junk), (5, (.atm (.v 0))), (11, .junk), (12, .junk), (13, .junk), (14, .junk), (15, .junk), (16, .junk), (22, .junk), (23, .junk), (31, .junk), (32, .junk), (47, .junk), (48, .junk), (63, .junk), (64, .junk), (65, .junk), (68, (.atm (.v 1)))], [], 1, []⟩ .z))) .z)) .z)))))))))))))) (.s none .z (.s none (.s none .z (.b (.l ⟨2, [(1, .junk), (3, .junk), (4, .junk), (8, (.atm (.v 0))), (11, .junk), (12, .junk), (13, .junk), (14, .junk), (15, .junk), (16, .junk), (22, .junk), (23, .junk), (31, .junk), (32, .junk), (47, .junk), (48, .junk), (63, .junk), (64, .junk), (79, .junk), (82, (.atm (.v 1)))], [], 1, []⟩ .z))) .z))))
def ir82p0 : IR :=
 (.op (.bin .lss false) [(.v 12), (.v 10)]
 (.ite (.v 13)
  (.op (.row 3) [(.v 3), (.v 12)]
  (.call 82 1 false [] [(.v 0), (.v 14), (.v 15), (.v 16)]
  (.op (.bin .and false) [(.v 11), (.v 17)]
  (.op (.bin .add false) [(.v 12), (.c (.int .i64 1))]
  (.jump 0 [(.v 18), (.v 19)])))))
 (.ret [(.v 11)])))
def ir82p1 : IR :=
 (.op (.bin .lss false) [(.v 12), (.v 10)]
 (.ite (.v 13)
  (.op (.row 3) [(.v 3), (.v 12)]
  (.call 82 1 false [] [(.v 0), (.v 14), (.v 15), (.v 16)]
  (.op (.bin .or false) [(.v 11), (.v 17)]
  (.op (.bin .add false) [(.v 12), (.c (.int .i64 1))]
  (.jump 0 [(.v 18), (.v 19)])))))
 (.ret [(.v 11)])))
def ir82 : IR :=
 (.op (.bin .eql false) [(.v 1), (.c (.int .i64 1))]
 (.ite (.v 4)
  (.ret [(.c (.int .u64 18446744073709551615))])
 (.op (.bin .eql false) [(.v 1), (.c (.int .i64 3))]
 (.ite (.v 5)
  (.call 91 1 false [] [(.v 0), (.v 2)]
  (.call 92 1 false [] [(.v 6)]
  (.ret [(.v 7)])))
 (.op (.bin .eql false) [(.v 1), (.c (.int .i64 4))]
 (.ite (.v 6)
  (.op (.row 3) [(.v 3), (.c (.int .i64 0))]
  (.call 82 1 false [] [(.v 0), (.v 7), (.v 8), (.v 9)]
  (.op (.un .xor) [(.v 10)]
  (.ret [(.v 11)]))))
 (.op (.bin .eql false) [(.v 1), (.c (.int .i64 7))]
 (.ite (.v 7)
  (.op (.row 3) [(.v 3), (.c (.int .i64 0))]
  (.call 82 1 false [] [(.v 0), (.v 8), (.v 9), (.v 10)]
  (.op (.un .xor) [(.v 11)]
  (.op (.row 3) [(.v 3), (.c (.int .i64 1))]
  (.call 82 1 false [] [(.v 0), (.v 13), (.v 14), (.v 15)]
  (.op (.bin .or false) [(.v 12), (.v 16)]
  (.ret [(.v 17)])))))))
 (.op (.bin .eql false) [(.v 1), (.c (.int .i64 8))]
 (.ite (.v 8)
  (.op (.row 3) [(.v 3), (.c (.int .i64 0))]
  (.call 82 1 false [] [(.v 0), (.v 9), (.v 10), (.v 11)]
  (.op (.row 3) [(.v 3), (.c (.int .i64 1))]
  (.call 82 1 false [] [(.v 0), (.v 13), (.v 14), (.v 15)]
  (.op (.bin .xor false) [(.v 12), (.v 16)]
  (.op (.un .xor) [(.v 17)]
  (.ret [(.v 18)])))))))
 (.op (.bin .eql false) [(.v 1), (.c (.int .i64 5))]
 (.ite (.v 9)
  (.op .lenL [(.v 3)]
  (.loop 2 [(.c (.int .u64 18446744073709551615)), (.c (.int .i64 0))] ir82p0))
 (.op .lenL [(.v 3)]
 (.loop 2 [(.c (.int .u64 0)), (.c (.int .i64 0))] ir82p1))))))))))))))
theorem rd82 : readFn T SG sigs 3000 sg82 Try.f96 an82 = some ir82 := by kernel_rfl
/- 83:world.whole -/
def an83 : Ann := .z
def ir83 : IR :=
 (.op (.bin .shl false) [(.c (.int .u64 1)), (.v 0)]
 (.op (.bin .sub false) [(.c (.int .u64 64)), (.v 1)]
 (.op (.bin .shr false) [(.c (.int .u64 18446744073709551615)), (.v 2)]
 (.ret [(.v 3)]))))
theorem rd83 : readFn T SG sigs 3000 sg83 Try.f97 an83 = some ir83 := by kernel_rfl
/- 84:deliberationref03.half -/
def an84 : Ann := (.s none .z (.s none .z (.s none (.s none .z (.b (.l ⟨2, [(6, .junk), (7, (.atm (.v 0))), (8, (.atm (.v 1)))], [], 0, []⟩ (.s none .z (.s (some ⟨1, [(7, (.atm (.v 0))), (9, .junk), (10, .junk), (11, .junk), (12, .junk)], [], 0, []⟩) (.b (.s (some ⟨1, [(9, .junk), (10, .junk), (11, .junk), (12, .junk), (23, (.atm (.v 0)))], [], 0, []⟩) .z .z)) .z))))) .z)))
def ir84p0 : IR :=
 (.op (.bin .add false) [(.v 4), (.c (.int .i64 1))]
 (.jump 0 [(.v 7), (.v 8)]))
def ir84p1 : IR :=
 (.ite (.v 7)
  (.op (.bin .shr false) [(.v 4), (.c (.int .u64 1))]
  (.op (.conv .u64) [(.v 8)]
  (.op (.bin .shl false) [(.c (.int .u64 1)), (.v 9)]
  (.op (.bin .or false) [(.v 3), (.v 10)]
  (.jump 1 [(.v 11)])))))
 (.jump 1 [(.v 3)]))
def ir84p2 : IR :=
 (.call 36 1 false [] [(.v 0)]
 (.op (.bin .lss false) [(.v 4), (.v 5)]
 (.ite (.v 6)
  (.letj 1
   (.letj 1
    (.call 93 1 false [] [(.v 1), (.v 4)]
    (.ite (.v 7)
     (.op (.bin .and false) [(.v 4), (.c (.int .i64 1))]
     (.op (.bin .eql false) [(.v 8), (.v 2)]
     (.jump 2 [(.v 9)])))
    (.jump 2 [(.c (.bool false))])))
   ir84p1)
  ir84p0)
 (.ret [(.v 3)]))))
def ir84 : IR :=
 (.loop 2 [(.c (.int .u64 0)), (.c (.int .i64 0))] ir84p2)
theorem rd84 : readFn T SG sigs 3000 sg84 Try.f98 an84 = some ir84 := by kernel_rfl
/- 85:deliberationref02.Same -/
def an85 : Ann := (.s none .z (.s none (.s (some ⟨1, [(0, .junk), (1, .junk), (4, .junk), (26, (.atm (.v 0)))], [], 2, []⟩) .z .z) (.s none (.s none .z (.b (.l ⟨1, [(5, (.atm (.v 0))), (26, .junk)], [], 2, []⟩ .z))) .z)))
def ir85p0 : IR :=
 (.op .lenL [(.v 2)]
 (.op (.bin .lss false) [(.v 7), (.v 8)]
 (.ite (.v 9)
  (.op (.row 3) [(.v 2), (.v 7)]
  (.op (.row 3) [(.v 5), (.v 7)]
  (.call 85 1 false [] [(.v 10), (.v 11), (.v 12), (.v 13), (.v 14), (.v 15)]
  (.op (.un .not) [(.v 16)]
  (.ite (.v 17)
   (.ret [(.c (.bool false))])
  (.op (.bin .add false) [(.v 7), (.c (.int .i64 1))]
  (.jump 0 [(.v 18)])))))))
 (.ret [(.c (.bool true))]))))
def ir85p1 : IR :=
 (.ite (.v 6)
  (.ret [(.c (.bool false))])
 (.loop 1 [(.c (.int .i64 0))] ir85p0))
def ir85 : IR :=
 (.letj 1
  (.op (.bin .neq false) [(.v 0), (.v 3)]
  (.ite (.v 6)
   (.jump 0 [(.c (.bool true))])
  (.op (.bin .neq false) [(.v 1), (.v 4)]
  (.ite (.v 7)
   (.jump 0 [(.c (.bool true))])
  (.op .lenL [(.v 2)]
  (.op .lenL [(.v 5)]
  (.op (.bin .neq false) [(.v 8), (.v 9)]
  (.jump 0 [(.v 10)]))))))))
 ir85p1)
theorem rd85 : readFn T SG sigs 3000 sg85 Try.f99 an85 = some ir85 := by kernel_rfl
/- 86:deliberationref03.pair -/
def an86 : Ann := .z
def ir86 : IR :=
 (.op (.mk 3 2) [(.v 1), (.v 2), (.v 3), (.v 4), (.v 5), (.v 6)]
 (.ret [(.v 0), (.c (.str [])), (.v 7)]))
theorem rd86 : readFn T SG sigs 3000 sg86 Try.f100 an86 = some ir86 := by kernel_rfl
/- 87:formula.Size -/
def an87 : Ann := (.s none .z (.s none .z (.s none (.s none .z (.b (.l ⟨2, [(0, .junk), (1, .junk), (2, .junk), (3, (.atm (.v 0))), (6, .junk), (9, (.atm (.v 1)))], [], 1, []⟩ .z))) .z)))
def ir87p0 : IR :=
 (.op (.bin .lss false) [(.v 5), (.v 3)]
 (.ite (.v 6)
  (.op (.row 3) [(.v 2), (.v 5)]
  (.call 87 1 false [] [(.v 7), (.v 8), (.v 9)]
  (.op (.bin .add false) [(.v 4), (.v 10)]
  (.op (.bin .add false) [(.v 5), (.c (.int .i64 1))]
  (.jump 0 [(.v 11), (.v 12)])))))
 (.ret [(.v 4)])))
def ir87 : IR :=
 (.op .lenL [(.v 2)]
 (.loop 2 [(.c (.int .i64 1)), (.c (.int .i64 0))] ir87p0))
theorem rd87 : readFn T SG sigs 3000 sg87 Try.f111 an87 = some ir87 := by kernel_rfl
/- 88:formula.Depth -/
def an88 : Ann := (.s none .z (.s none .z (.s none (.s none .z (.b (.l ⟨2, [(0, .junk), (1, .junk), (2, .junk), (3, (.atm (.v 0))), (6, .junk), (9, (.atm (.v 1)))], [], 1, []⟩ .z))) .z)))
def ir88p0 : IR :=
 (.op (.bin .lss false) [(.v 5), (.v 3)]
 (.ite (.v 6)
  (.op (.row 3) [(.v 2), (.v 5)]
  (.call 88 1 false [] [(.v 7), (.v 8), (.v 9)]
  (.op (.bin .add false) [(.c (.int .i64 1)), (.v 10)]
  (.op .max [(.v 4), (.v 11)]
  (.op (.bin .add false) [(.v 5), (.c (.int .i64 1))]
  (.jump 0 [(.v 12), (.v 13)]))))))
 (.ret [(.v 4)])))
def ir88 : IR :=
 (.op .lenL [(.v 2)]
 (.loop 2 [(.c (.int .i64 0)), (.c (.int .i64 0))] ir88p0))
theorem rd88 : readFn T SG sigs 3000 sg88 Try.f112 an88 = some ir88 := by kernel_rfl
/- 89:formula.all -/
def an89 : Ann := (.s none .z (.s none .z (.s none (.s none .z (.b (.l ⟨1, [(0, .junk), (2, .junk), (4, .junk), (7, .junk), (8, .junk), (9, .junk), (10, .junk), (11, .junk), (14, (.atm (.v 0)))], [], 1, []⟩ .z))) .z)))
def ir89p0 : IR :=
 (.op (.bin .lss false) [(.v 6), (.v 5)]
 (.ite (.v 7)
  (.op (.row 3) [(.v 2), (.v 6)]
  (.call 89 1 false [] [(.v 8), (.v 9), (.v 10)]
  (.op (.un .not) [(.v 11)]
  (.ite (.v 12)
   (.ret [(.c (.bool false))])
  (.op (.bin .add false) [(.v 6), (.c (.int .i64 1))]
  (.jump 0 [(.v 13)]))))))
 (.ret [(.c (.bool true))])))
def ir89 : IR :=
 (.call 94 1 false [] [(.v 0), (.v 1), (.v 2)]
 (.op (.un .not) [(.v 3)]
 (.ite (.v 4)
  (.ret [(.c (.bool false))])
 (.op .lenL [(.v 2)]
 (.loop 1 [(.c (.int .i64 0))] ir89p0)))))
theorem rd89 : readFn T SG sigs 3000 sg89 Try.f113 an89 = some ir89 := by kernel_rfl
/- 90:formula.all -/
def an90 : Ann := (.s none .z (.s none .z (.s none (.s none .z (.b (.l ⟨1, [(0, .junk), (2, .junk), (4, .junk), (7, .junk), (8, .junk), (9, .junk), (10, .junk), (11, .junk), (14, (.atm (.v 0)))], [], 1, []⟩ .z))) .z)))
def ir90p0 : IR :=
 (.op (.bin .lss false) [(.v 6), (.v 5)]
 (.ite (.v 7)
  (.op (.row 3) [(.v 2), (.v 6)]
  (.call 90 1 false [] [(.v 8), (.v 9), (.v 10)]
  (.op (.un .not) [(.v 11)]
  (.ite (.v 12)
   (.ret [(.c (.bool false))])
  (.op (.bin .add false) [(.v 6), (.c (.int .i64 1))]
  (.jump 0 [(.v 13)]))))))
 (.ret [(.c (.bool true))])))
def ir90 : IR :=
 (.call 95 1 false [] [(.v 0), (.v 1), (.v 2)]
 (.op (.un .not) [(.v 3)]
 (.ite (.v 4)
  (.ret [(.c (.bool false))])
 (.op .lenL [(.v 2)]
 (.loop 1 [(.c (.int .i64 0))] ir90p0)))))
theorem rd90 : readFn T SG sigs 3000 sg90 Try.f113 an90 = some ir90 := by kernel_rfl
/- 91:slices.Index[[]string,string] -/
def an91 : Ann := (.s none .z (.s none (.s none .z (.b (.l ⟨1, [(4, .junk), (6, .junk), (8, (.atm (.v 0)))], [], 0, []⟩ .z))) .z))
def ir91p0 : IR :=
 (.op (.bin .lss false) [(.v 3), (.v 2)]
 (.ite (.v 4)
  (.op (.row 1) [(.v 0), (.v 3)]
  (.op (.bin .eql false) [(.v 1), (.v 5)]
  (.ite (.v 6)
   (.ret [(.v 3)])
  (.op (.bin .add false) [(.v 3), (.c (.int .i64 1))]
  (.jump 0 [(.v 7)])))))
 (.ret [(.c (.int .i64 (-1)))])))
def ir91 : IR :=
 (.op .lenL [(.v 0)]
 (.loop 1 [(.c (.int .i64 0))] ir91p0))
theorem rd91 : readFn T SG sigs 3000 sg91 Try.f119 an91 = some ir91 := by kernel_rfl
/- 92:world.true_ -/
def an92 : Ann := (.s none .z (.s none .z (.s none (.s none .z (.b (.l ⟨2, [(2, .junk), (3, (.atm (.v 0))), (5, (.atm (.v 1)))], [], 0, []⟩ .z))) .z)))
def ir92p0 : IR :=
 (.op (.bin .lss false) [(.v 2), (.c (.int .i64 64))]
 (.ite (.v 3)
  (.op (.bin .shr false) [(.v 2), (.v 0)]
  (.op (.bin .and false) [(.v 4), (.c (.int .i64 1))]
  (.op (.conv .u64) [(.v 5)]
  (.op (.bin .shl false) [(.v 6), (.v 2)]
  (.op (.bin .or false) [(.v 1), (.v 7)]
  (.op (.bin .add false) [(.v 2), (.c (.int .i64 1))]
  (.jump 0 [(.v 8), (.v 9)])))))))
 (.ret [(.v 1)])))
def ir92 : IR :=
 (.loop 2 [(.c (.int .u64 0)), (.c (.int .i64 0))] ir92p0)
theorem rd92 : readFn T SG sigs 3000 sg92 Try.f120 an92 = some ir92 := by kernel_rfl
/- 93:deliberationref03.has -/
def an93 : Ann := .z
def ir93 : IR :=
 (.op (.conv .u64) [(.v 1)]
 (.op (.bin .shr false) [(.v 0), (.v 2)]
 (.op (.bin .and false) [(.v 3), (.c (.int .u64 1))]
 (.op (.bin .eql false) [(.v 4), (.c (.int .u64 1))]
 (.ret [(.v 5)])))))
theorem rd93 : readFn T SG sigs 3000 sg93 Try.f121 an93 = some ir93 := by kernel_rfl
/- 94:formula.counted -/
def an94 : Ann := (.s none .z (.s none .z (.s none (.s none .z (.b (.s (some ⟨1, [(0, .junk), (1, .junk), (2, .junk), (4, .junk), (5, .junk), (6, .junk), (7, .junk), (9, (.atm (.v 0)))], [], 1, []⟩) .z (.c .z (.s none .z (.c .z (.s (some ⟨1, [(9, .junk), (15, .junk), (16, .junk), (19, (.atm (.v 0)))], [], 1, []⟩) .z (.c .z (.s (some ⟨1, [(8, .junk), (19, .junk), (28, (.atm (.v 0)))], [], 1, []⟩) .z .z))))))))) .z)))
def ir94p0 : IR :=
 (.ite (.v 7)
  (.op (.bin .eql false) [(.v 3), (.c (.int .i64 2))]
  (.ret [(.v 8)]))
 (.ret [(.c (.bool false))]))
def ir94p1 : IR :=
 (.ite (.v 6)
  (.op (.bin .geq false) [(.v 3), (.c (.int .i64 2))]
  (.ite (.v 7)
   (.op (.bin .leq false) [(.v 3), (.c (.int .i64 6))]
   (.ret [(.v 8)]))
  (.ret [(.c (.bool false))])))
 (.letj 1
  (.op (.bin .eql false) [(.v 0), (.c (.int .i64 7))]
  (.ite (.v 7)
   (.jump 0 [(.c (.bool true))])
  (.op (.bin .eql false) [(.v 0), (.c (.int .i64 8))]
  (.jump 0 [(.v 8)]))))
 ir94p0))
def ir94p2 : IR :=
 (.ite (.v 4)
  (.op (.bin .eql false) [(.v 3), (.c (.int .i64 0))]
  (.ret [(.v 5)]))
 (.op (.bin .eql false) [(.v 0), (.c (.int .i64 4))]
 (.ite (.v 5)
  (.op (.bin .eql false) [(.v 3), (.c (.int .i64 1))]
  (.ret [(.v 6)]))
 (.letj 1
  (.op (.bin .eql false) [(.v 0), (.c (.int .i64 5))]
  (.ite (.v 6)
   (.jump 0 [(.c (.bool true))])
  (.op (.bin .eql false) [(.v 0), (.c (.int .i64 6))]
  (.jump 0 [(.v 7)]))))
 ir94p1))))
def ir94 : IR :=
 (.op .lenL [(.v 2)]
 (.letj 1
  (.op (.bin .eql false) [(.v 0), (.c (.int .i64 1))]
  (.ite (.v 4)
   (.jump 0 [(.c (.bool true))])
  (.op (.bin .eql false) [(.v 0), (.c (.int .i64 2))]
  (.ite (.v 5)
   (.jump 0 [(.c (.bool true))])
  (.op (.bin .eql false) [(.v 0), (.c (.int .i64 3))]
  (.jump 0 [(.v 6)]))))))
 ir94p2))
theorem rd94 : readFn T SG sigs 3000 sg94 Try.f114 an94 = some ir94 := by kernel_rfl
/- 95:formula.named -/
def an95 : Ann := .z
def ir95 : IR :=
 (.op (.bin .eql false) [(.v 0), (.c (.int .i64 3))]
 (.ite (.v 3)
  (.call 62 1 false [] [(.v 1)]
  (.ret [(.v 4)]))
 (.op (.bin .eql false) [(.v 1), (.c (.str []))]
 (.ret [(.v 4)]))))
theorem rd95 : readFn T SG sigs 3000 sg95 Try.f115 an95 = some ir95 := by kernel_rfl
end Go.Proofs.Ytjedjjooidohhaa

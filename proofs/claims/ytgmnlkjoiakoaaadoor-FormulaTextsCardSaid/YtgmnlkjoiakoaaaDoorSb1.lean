/- Plain programs of the functions of the program and lemmas about what they compute. -/
import Derived.Test.YtgmnlkjoiakoaaaDoorAmSe21
import Derived.Test.YtgmnlkjoiakoaaaDoorProg
import Derived.KernelRfl
set_option linter.unusedSimpArgs false
set_option linter.unusedVariables false
set_option linter.unusedSectionVars false
namespace Go.Proofs.YtgmnlkjoiakoaaaDoor
open Go Am
set_option maxRecDepth 100000
abbrev fnD (f : Nat) : D := .raw (.func (.func f) #[] #[])
abbrev undD : D := .raw (.tuple #[])
def T : Tab := [
  (3, ⟨1, 8, true, true, false, none, none, (some .i64), false, false, (some (.int .i64 0)), [], none⟩),
  (4, ⟨1, 1, true, true, false, none, none, none, false, true, (some (.bool false)), [], none⟩),
  (5, ⟨1, 1, true, true, false, none, none, (some .u8), false, false, (some (.int .u8 0)), [], none⟩),
  (9, ⟨1, 16, true, true, false, none, none, none, true, false, (some (.string ⟨⟨[]⟩⟩)), [], none⟩),
  (22, ⟨1, 24, true, true, false, (some 24), none, none, false, false, (some (.slice none 0 0)), [], none⟩),
  (24, ⟨3, 48, true, true, true, none, none, none, false, false, (some (.agg #[(.int .i64 0), (.string ⟨⟨[]⟩⟩), (.slice none 0 0)])), [(0, 3), (1, 9), (2, 22)], (some [(0, 1), (1, 1), (2, 1)])⟩),
  (25, ⟨1, 24, true, true, false, (some 3), none, none, false, false, (some (.slice none 0 0)), [], none⟩),
  (26, ⟨1, 8, true, true, false, none, none, none, false, false, (some .nilFunc), [], none⟩),
  (27, ⟨1, 8, true, true, false, none, none, none, false, false, (some (.pointer none)), [], none⟩),
  (31, ⟨1, 8, true, true, false, none, none, (some .i64), false, false, (some (.int .i64 0)), [], none⟩),
  (38, ⟨1, 24, true, true, false, (some 5), none, none, false, false, (some (.slice none 0 0)), [], none⟩),
  (42, ⟨1, 24, true, true, false, (some 9), none, none, false, false, (some (.slice none 0 0)), [], none⟩),
  (45, ⟨1, 8, true, true, false, none, none, none, false, false, (some .nilFunc), [], none⟩),
  (59, ⟨2, 32, true, true, true, none, none, none, false, false, (some (.agg #[(.slice none 0 0), (.int .i64 0)])), [(0, 25), (1, 3)], (some [(0, 1), (1, 1)])⟩),
  (60, ⟨1, 8, true, true, false, none, none, none, false, false, (some (.pointer none)), [], none⟩),
  (62, ⟨2, 32, true, true, true, none, none, none, false, false, (some (.agg #[(.pointer none), (.slice none 0 0)])), [(0, 60), (1, 38)], (some [(0, 1), (1, 1)])⟩),
  (68, ⟨1, 8, true, true, false, none, none, none, false, false, (some (.pointer none)), [], none⟩),
  (70, ⟨4, 40, true, true, true, none, none, none, false, false, (some (.agg #[(.string ⟨⟨[]⟩⟩), (.int .i64 0), (.int .i64 0), (.bool false)])), [(0, 9), (1, 3), (2, 3), (3, 4)], (some [(0, 1), (1, 1), (2, 1), (3, 1)])⟩),
  (71, ⟨1, 8, true, true, false, none, none, none, false, false, (some .nilFunc), [], none⟩),
  (78, ⟨1, 8, true, true, false, none, none, none, false, false, (some .nilFunc), [], none⟩),
  (94, ⟨3, 40, true, true, true, none, none, none, false, false, (some (.agg #[(.string ⟨⟨[]⟩⟩), (.string ⟨⟨[]⟩⟩), (.int .i64 0)])), [(0, 9), (1, 9), (2, 3)], (some [(0, 1), (1, 1), (2, 1)])⟩)]
theorem tok : TOK Tryd.prog T := tok_of (by kernel_rfl)
def SG : SGlob := []
def sg0 : Sig := ⟨3, 4, [], [(.agg [(.atm (.v 0)), (.atm (.v 1)), (.atm (.v 2))]), (.atm (.v 3))], 1, [], (.atm (.v 0)), false, []⟩
def sg1 : Sig := ⟨4, 4, [], [(.atm (.v 0)), (.atm (.v 1)), (.atm (.v 2)), (.atm (.v 3))], 1, [], (.atm (.v 0)), false, []⟩
def sg2 : Sig := ⟨5, 2, [], [(.atm (.v 0)), (.atm (.v 1))], 1, [], (.atm (.v 0)), false, []⟩
def sg3 : Sig := ⟨6, 1, [], [(.atm (.v 0))], 1, [], (.atm (.v 0)), false, []⟩
def sg4 : Sig := ⟨7, 1, [], [(.atm (.v 0))], 1, [], (.atm (.v 0)), false, []⟩
def sg5 : Sig := ⟨8, 1, [], [(.atm (.v 0))], 1, [], (.atm (.v 0)), false, []⟩
def sg6 : Sig := ⟨9, 2, [], [(.atm (.v 0)), (.atm (.v 1))], 1, [], (.atm (.v 0)), false, []⟩
def sg7 : Sig := ⟨10, 9, [], [(.agg [(.atm (.v 0)), (.atm (.v 1)), (.atm (.v 2))]), (.agg [(.atm (.v 3)), (.atm (.v 4)), (.atm (.v 5))]), (.atm (.v 6)), (.atm (.v 7)), (.atm (.v 8))], 1, [], (.atm (.v 0)), false, []⟩
def sg8 : Sig := ⟨11, 3, [], [(.agg [(.atm (.v 0)), (.atm (.v 1)), (.atm (.v 2))])], 1, [], (.atm (.v 0)), false, []⟩
def sg9 : Sig := ⟨12, 1, [], [(.atm (.v 0))], 2, [⟨false, false, 59, 2, (.c (.sl [])), [[(.atm (.v 0)), (.atm (.v 1))]]⟩], (.ptr 0 0 0), false, []⟩
def sg10 : Sig := ⟨13, 4, [⟨false, false, 59, 2, (.c (.sl [])), [[(.atm (.v 2)), (.atm (.v 3))]]⟩], [(.ptr 0 0 0), (.atm (.v 0)), (.atm (.v 1))], 5, [⟨false, false, 59, 2, (.c (.sl [])), [[(.atm (.v 3)), (.atm (.v 4))]]⟩], (.agg [(.atm (.v 0)), (.atm (.v 1)), (.atm (.v 2))]), true, []⟩
def sg11 : Sig := ⟨14, 5, [⟨false, false, 59, 2, (.c (.sl [])), [[(.atm (.v 3)), (.atm (.v 4))]]⟩], [(.ptr 0 0 0), (.agg [(.atm (.v 0)), (.atm (.v 1)), (.atm (.v 2))])], 5, [⟨false, false, 59, 2, (.c (.sl [])), [[(.atm (.v 3)), (.atm (.v 4))]]⟩], (.agg [(.atm (.v 0)), (.atm (.v 1)), (.atm (.v 2))]), true, []⟩
def sg12 : Sig := ⟨15, 3, [], [(.agg [(.atm (.v 0)), (.atm (.v 1)), (.atm (.v 2))])], 2, [], (.tup [(.atm (.v 0)), (.atm (.v 1))]), false, []⟩
def sg13 : Sig := ⟨16, 3, [], [(.agg [(.atm (.v 0)), (.atm (.v 1)), (.atm (.v 2))])], 2, [], (.tup [(.atm (.v 0)), (.atm (.v 1))]), false, []⟩
def sg14 : Sig := ⟨17, 3, [], [(.agg [(.atm (.v 0)), (.atm (.v 1)), (.atm (.v 2))])], 1, [], (.atm (.v 0)), false, []⟩
def sg15 : Sig := ⟨18, 3, [], [(.agg [(.atm (.v 0)), (.atm (.v 1)), (.atm (.v 2))])], 1, [], (.atm (.v 0)), false, []⟩
def sg16 : Sig := ⟨19, 3, [], [(.agg [(.atm (.v 0)), (.atm (.v 1)), (.atm (.v 2))])], 1, [], (.atm (.v 0)), false, []⟩
def sg17 : Sig := ⟨20, 3, [], [(.agg [(.atm (.v 0)), (.atm (.v 1)), (.atm (.v 2))])], 1, [], (.atm (.v 0)), false, []⟩
def sg18 : Sig := ⟨21, 3, [], [(.agg [(.atm (.v 0)), (.atm (.v 1)), (.atm (.v 2))])], 1, [], (.atm (.v 0)), false, []⟩
def sg19 : Sig := ⟨22, 3, [], [(.agg [(.atm (.v 0)), (.atm (.v 1)), (.atm (.v 2))])], 1, [], (.atm (.v 0)), false, []⟩
def sg20 : Sig := ⟨23, 0, [], [], 1, [], (.atm (.v 0)), false, []⟩
def sg21 : Sig := ⟨27, 1, [], [(.atm (.v 0))], 5, [], (.tup [(.agg [(.atm (.v 0)), (.atm (.v 1)), (.atm (.v 2))]), (.atm (.v 3)), (.atm (.v 4))]), true, []⟩
def sg22 : Sig := ⟨29, 6, [], [(.agg [(.atm (.v 0)), (.atm (.v 1)), (.atm (.v 2))]), (.agg [(.atm (.v 3)), (.atm (.v 4)), (.atm (.v 5))])], 1, [], (.atm (.v 0)), false, []⟩
def sg23 : Sig := ⟨24, 2, [], [(.atm (.v 0)), (.atm (.v 1))], 1, [], (.atm (.v 0)), false, []⟩
def sg24 : Sig := ⟨30, 2, [], [(.atm (.v 0)), (.atm (.v 1))], 3, [], (.agg [(.atm (.v 0)), (.atm (.v 1)), (.atm (.v 2))]), true, []⟩
def sg25 : Sig := ⟨31, 3, [⟨false, false, 59, 2, (.c (.sl [])), [[(.atm (.v 1)), (.atm (.v 2))]]⟩], [(.ptr 0 0 0), (.atm (.v 0))], 3, [⟨false, false, 59, 2, (.c (.sl [])), [[(.atm (.v 1)), (.atm (.v 2))]]⟩], (.atm (.v 0)), true, []⟩
def sg26 : Sig := ⟨32, 4, [], [(.agg [(.atm (.v 0)), (.atm (.v 1)), (.atm (.v 2))]), (.atm (.v 3))], 1, [], (.atm (.v 0)), false, []⟩
def sg27 : Sig := ⟨25, 3, [⟨false, false, 59, 2, (.c (.sl [])), [[(.atm (.v 1)), (.atm (.v 2))]]⟩], [(.ptr 0 0 0), (.atm (.v 0))], 3, [⟨false, false, 59, 2, (.c (.sl [])), [[(.atm (.v 1)), (.atm (.v 2))]]⟩], (.atm (.v 0)), false, []⟩
def sg28 : Sig := ⟨33, 7, [], [(.agg [(.atm (.v 0)), (.atm (.v 1)), (.atm (.v 2))]), (.atm (.v 3)), (.agg [(.atm (.v 4)), (.atm (.v 5)), (.atm (.v 6))])], 3, [], (.agg [(.atm (.v 0)), (.atm (.v 1)), (.atm (.v 2))]), true, []⟩
def sg29 : Sig := ⟨34, 3, [], [(.agg [(.atm (.v 0)), (.atm (.v 1)), (.atm (.v 2))])], 1, [], (.atm (.v 0)), true, []⟩
def sg30 : Sig := ⟨35, 4, [], [(.agg [(.atm (.v 0)), (.atm (.v 1)), (.atm (.v 2))]), (.atm (.v 3))], 1, [], (.atm (.v 0)), false, []⟩
def sg31 : Sig := ⟨36, 3, [], [(.agg [(.atm (.v 0)), (.atm (.v 1)), (.atm (.v 2))])], 1, [], (.atm (.v 0)), true, []⟩
def sg32 : Sig := ⟨37, 4, [], [(.agg [(.atm (.v 0)), (.atm (.v 1)), (.atm (.v 2))]), (.atm (.v 3))], 1, [], (.atm (.v 0)), false, []⟩
def sg33 : Sig := ⟨38, 6, [], [(.agg [(.atm (.v 0)), (.atm (.v 1)), (.atm (.v 2))]), (.agg [(.atm (.v 3)), (.atm (.v 4)), (.atm (.v 5))])], 1, [], (.atm (.v 0)), false, []⟩
def sg34 : Sig := ⟨39, 7, [], [(.agg [(.atm (.v 0)), (.atm (.v 1)), (.atm (.v 2))]), (.atm (.v 3)), (.agg [(.atm (.v 4)), (.atm (.v 5)), (.atm (.v 6))])], 3, [], (.agg [(.atm (.v 0)), (.atm (.v 1)), (.atm (.v 2))]), true, []⟩
def sg35 : Sig := ⟨40, 4, [], [(.agg [(.atm (.v 0)), (.atm (.v 1)), (.atm (.v 2))]), (.atm (.v 3))], 1, [], (.atm (.v 0)), false, []⟩
def sg36 : Sig := ⟨41, 3, [], [(.agg [(.atm (.v 0)), (.atm (.v 1)), (.atm (.v 2))])], 1, [], (.atm (.v 0)), false, []⟩
def sg37 : Sig := ⟨26, 3, [⟨false, false, 59, 2, (.c (.sl [])), [[(.atm (.v 1)), (.atm (.v 2))]]⟩], [(.ptr 0 0 0), (.atm (.v 0))], 3, [⟨false, false, 59, 2, (.c (.sl [])), [[(.atm (.v 1)), (.atm (.v 2))]]⟩], (.atm (.v 0)), false, []⟩
def sg38 : Sig := ⟨45, 3, [], [(.agg [(.atm (.v 0)), (.atm (.v 1)), (.atm (.v 2))])], 1, [], (.atm (.v 0)), false, []⟩
def sg39 : Sig := ⟨46, 3, [], [(.agg [(.atm (.v 0)), (.atm (.v 1)), (.atm (.v 2))]), (.atm (.c (fnD 47)))], 1, [], (.atm (.v 0)), false, []⟩
def sg40 : Sig := ⟨46, 3, [], [(.agg [(.atm (.v 0)), (.atm (.v 1)), (.atm (.v 2))]), (.atm (.c (fnD 48)))], 1, [], (.atm (.v 0)), false, []⟩
def sg41 : Sig := ⟨49, 3, [], [(.agg [(.atm (.v 0)), (.atm (.v 1)), (.atm (.v 2))])], 1, [], (.atm (.v 0)), false, []⟩
def sg42 : Sig := ⟨50, 3, [], [(.agg [(.atm (.v 0)), (.atm (.v 1)), (.atm (.v 2))])], 1, [], (.atm (.v 0)), false, []⟩
def sg43 : Sig := ⟨52, 4, [⟨false, false, 70, 4, (.c (.sl [])), [[(.atm (.v 0)), (.atm (.v 1)), (.atm (.v 2)), (.atm (.v 3))]]⟩], [(.ptr 0 0 0)], 7, [⟨false, false, 70, 4, (.c (.sl [])), [[(.atm (.v 3)), (.atm (.v 4)), (.atm (.v 5)), (.atm (.v 6))]]⟩], (.agg [(.atm (.v 0)), (.atm (.v 1)), (.atm (.v 2))]), true, []⟩
def sg44 : Sig := ⟨53, 5, [⟨false, false, 70, 4, (.c (.sl [])), [[(.atm (.v 1)), (.atm (.v 2)), (.atm (.v 3)), (.atm (.v 4))]]⟩], [(.ptr 0 0 0), (.atm (.v 0))], 5, [⟨false, false, 70, 4, (.c (.sl [])), [[(.atm (.v 1)), (.atm (.v 2)), (.atm (.v 3)), (.atm (.v 4))]]⟩], (.atm (.v 0)), false, []⟩
def sg45 : Sig := ⟨54, 4, [⟨false, false, 70, 4, (.c (.sl [])), [[(.atm (.v 0)), (.atm (.v 1)), (.atm (.v 2)), (.atm (.v 3))]]⟩], [(.ptr 0 0 0)], 7, [⟨false, false, 70, 4, (.c (.sl [])), [[(.atm (.v 3)), (.atm (.v 4)), (.atm (.v 5)), (.atm (.v 6))]]⟩], (.agg [(.atm (.v 0)), (.atm (.v 1)), (.atm (.v 2))]), true, []⟩
def sg46 : Sig := ⟨58, 4, [], [(.agg [(.atm (.v 0)), (.atm (.v 1)), (.atm (.v 2))]), (.atm (.v 3))], 1, [], (.atm (.v 0)), false, []⟩
def sg47 : Sig := ⟨51, 2, [⟨false, false, 59, 2, (.c (.sl [])), [[(.atm (.v 0)), (.atm (.v 1))]]⟩], [(.ptr 0 0 0)], 3, [⟨false, false, 59, 2, (.c (.sl [])), [[(.atm (.v 1)), (.atm (.v 2))]]⟩], (.atm (.v 0)), false, []⟩
def sg48 : Sig := ⟨60, 7, [⟨false, false, 9, 1, (.c (.sl [])), [[(.atm (.v 3))]]⟩, ⟨false, false, 24, 3, (.c (.sl [])), [[(.atm (.v 4)), (.atm (.v 5)), (.atm (.v 6))]]⟩, ⟨false, false, 78, 1, (.c (.sl [])), [[(.atm (.c (fnD 59)))]]⟩], [(.agg [(.atm (.v 0)), (.atm (.v 1)), (.atm (.v 2))]), (.clo 61 [] [(.ptr 0 0 0), (.ptr 1 0 0), (.ptr 2 0 0)])], 7, [⟨false, false, 9, 1, (.c (.sl [])), [[(.atm (.v 3))]]⟩, ⟨false, false, 24, 3, (.c (.sl [])), [[(.atm (.v 4)), (.atm (.v 5)), (.atm (.v 6))]]⟩, ⟨false, false, 78, 1, (.c (.sl [])), [[(.atm (.c (fnD 59)))]]⟩], (.agg [(.atm (.v 0)), (.atm (.v 1)), (.atm (.v 2))]), true, []⟩
def sg49 : Sig := ⟨66, 4, [], [(.atm (.v 0)), (.agg [(.atm (.v 1)), (.atm (.v 2)), (.atm (.v 3))])], 1, [], (.atm (.v 0)), true, []⟩
def sg50 : Sig := ⟨67, 4, [], [(.agg [(.atm (.v 0)), (.atm (.v 1)), (.atm (.v 2))]), (.atm (.v 3))], 1, [], (.atm (.v 0)), false, []⟩
def sg51 : Sig := ⟨68, 2, [], [(.atm (.v 0)), (.atm (.v 1)), (.atm (.c (fnD 38)))], 1, [], (.atm (.v 0)), false, []⟩
def sg52 : Sig := ⟨69, 3, [], [(.agg [(.atm (.v 0)), (.atm (.v 1)), (.atm (.v 2))])], 3, [], (.agg [(.atm (.v 0)), (.atm (.v 1)), (.atm (.v 2))]), true, []⟩
def sg53 : Sig := ⟨74, 4, [], [(.agg [(.atm (.v 0)), (.atm (.v 1)), (.atm (.v 2))]), (.atm (.v 3))], 1, [], (.atm (.v 0)), false, []⟩
def sg54 : Sig := ⟨75, 3, [], [(.atm (.v 0)), (.atm (.v 1)), (.atm (.v 2))], 1, [], (.atm (.v 0)), false, []⟩
def sg55 : Sig := ⟨47, 3, [], [(.agg [(.atm (.v 0)), (.atm (.v 1)), (.atm (.v 2))])], 1, [], (.atm (.v 0)), false, []⟩
def sg56 : Sig := ⟨48, 3, [], [(.agg [(.atm (.v 0)), (.atm (.v 1)), (.atm (.v 2))])], 1, [], (.atm (.v 0)), false, []⟩
def sg57 : Sig := ⟨77, 1, [], [(.atm (.v 0))], 1, [], (.atm (.v 0)), false, []⟩
def sg58 : Sig := ⟨78, 4, [⟨false, false, 70, 4, (.c (.sl [])), [[(.atm (.v 0)), (.atm (.v 1)), (.atm (.v 2)), (.atm (.v 3))]]⟩], [(.ptr 0 0 0)], 7, [⟨false, false, 70, 4, (.c (.sl [])), [[(.atm (.v 3)), (.atm (.v 4)), (.atm (.v 5)), (.atm (.v 6))]]⟩], (.agg [(.atm (.v 0)), (.atm (.v 1)), (.atm (.v 2))]), true, []⟩
def sg59 : Sig := ⟨79, 4, [⟨false, false, 70, 4, (.c (.sl [])), [[(.atm (.v 0)), (.atm (.v 1)), (.atm (.v 2)), (.atm (.v 3))]]⟩], [(.ptr 0 0 0)], 7, [⟨false, false, 70, 4, (.c (.sl [])), [[(.atm (.v 3)), (.atm (.v 4)), (.atm (.v 5)), (.atm (.v 6))]]⟩], (.agg [(.atm (.v 0)), (.atm (.v 1)), (.atm (.v 2))]), false, []⟩
def sg60 : Sig := ⟨84, 2, [], [(.atm (.v 0)), (.atm (.v 1))], 1, [], (.atm (.v 0)), false, []⟩
def sg61 : Sig := ⟨83, 4, [⟨false, false, 42, 1, (.c (.sl [])), [[(.atm (.v 3))]]⟩], [(.agg [(.atm (.v 0)), (.atm (.v 1)), (.atm (.v 2))]), (.ptr 0 0 0)], 2, [⟨false, false, 42, 1, (.c (.sl [])), [[(.atm (.v 1))]]⟩], (.atm (.v 0)), false, []⟩
def sg62 : Sig := ⟨85, 2, [⟨false, false, 42, 1, (.c (.sl [])), [[(.atm (.v 1))]]⟩], [(.atm (.v 0)), (.clo 83 [] [(.ptr 0 0 0)])], 2, [⟨false, false, 42, 1, (.c (.sl [])), [[(.atm (.v 1))]]⟩], (.atm (.v 0)), false, []⟩
def sg63 : Sig := ⟨85, 2, [⟨false, false, 26, 1, (.c (.sl [])), [[(.clo 83 [] [(.ptr 1 0 0)])]]⟩, ⟨false, false, 42, 1, (.c (.sl [])), [[(.atm (.v 1))]]⟩], [(.atm (.v 0)), (.clo 86 [] [(.ptr 0 0 0)])], 2, [⟨false, false, 26, 1, (.c (.sl [])), [[(.clo 83 [] [(.ptr 1 0 0)])]]⟩, ⟨false, false, 42, 1, (.c (.sl [])), [[(.atm (.v 1))]]⟩], (.atm (.v 0)), false, []⟩
def sg64 : Sig := ⟨61, 7, [⟨false, false, 9, 1, (.c (.sl [])), [[(.atm (.v 3))]]⟩, ⟨false, false, 24, 3, (.c (.sl [])), [[(.atm (.v 4)), (.atm (.v 5)), (.atm (.v 6))]]⟩, ⟨false, false, 78, 1, (.c (.sl [])), [[(.atm (.c (fnD 59)))]]⟩], [(.agg [(.atm (.v 0)), (.atm (.v 1)), (.atm (.v 2))]), (.ptr 0 0 0), (.ptr 1 0 0), (.ptr 2 0 0)], 8, [⟨false, false, 9, 1, (.c (.sl [])), [[(.atm (.v 4))]]⟩, ⟨false, false, 24, 3, (.c (.sl [])), [[(.atm (.v 5)), (.atm (.v 6)), (.atm (.v 7))]]⟩, ⟨false, false, 78, 1, (.c (.sl [])), [[(.atm (.c (fnD 59)))]]⟩], (.tup [(.agg [(.atm (.v 0)), (.atm (.v 1)), (.atm (.v 2))]), (.atm (.v 3))]), true, []⟩
def sg65 : Sig := ⟨89, 2, [], [(.atm (.v 0)), (.atm (.v 1))], 1, [], (.atm (.v 0)), true, []⟩
def sg66 : Sig := ⟨91, 3, [], [(.agg [(.atm (.v 0)), (.atm (.v 1)), (.atm (.v 2))])], 1, [], (.atm (.v 0)), false, []⟩
def sg67 : Sig := ⟨76, 1, [], [(.atm (.v 0))], 1, [], (.atm (.v 0)), false, []⟩
def sg68 : Sig := ⟨92, 4, [⟨false, false, 70, 4, (.c (.sl [])), [[(.atm (.v 0)), (.atm (.v 1)), (.atm (.v 2)), (.atm (.v 3))]]⟩], [(.ptr 0 0 0)], 7, [⟨false, false, 70, 4, (.c (.sl [])), [[(.atm (.v 3)), (.atm (.v 4)), (.atm (.v 5)), (.atm (.v 6))]]⟩], (.agg [(.atm (.v 0)), (.atm (.v 1)), (.atm (.v 2))]), true, []⟩
def sg69 : Sig := ⟨93, 1, [], [(.atm (.v 0))], 1, [], (.atm (.v 0)), false, []⟩
def sg70 : Sig := ⟨95, 2, [], [(.atm (.v 0)), (.atm (.v 1))], 1, [], (.atm (.v 0)), false, []⟩
def sg71 : Sig := ⟨96, 2, [⟨false, false, 42, 1, (.c (.sl [])), [[(.atm (.v 1))]]⟩], [(.atm (.v 0)), (.clo 83 [] [(.ptr 0 0 0)])], 2, [⟨false, false, 42, 1, (.c (.sl [])), [[(.atm (.v 1))]]⟩], (.atm (.v 0)), false, []⟩
def sg72 : Sig := ⟨96, 2, [⟨false, false, 26, 1, (.c (.sl [])), [[(.clo 83 [] [(.ptr 1 0 0)])]]⟩, ⟨false, false, 42, 1, (.c (.sl [])), [[(.atm (.v 1))]]⟩], [(.atm (.v 0)), (.clo 86 [] [(.ptr 0 0 0)])], 2, [⟨false, false, 26, 1, (.c (.sl [])), [[(.clo 83 [] [(.ptr 1 0 0)])]]⟩, ⟨false, false, 42, 1, (.c (.sl [])), [[(.atm (.v 1))]]⟩], (.atm (.v 0)), false, []⟩
def sg73 : Sig := ⟨62, 3, [], [(.agg [(.atm (.v 0)), (.atm (.v 1)), (.atm (.v 2))])], 1, [], (.atm (.v 0)), false, []⟩
def sg74 : Sig := ⟨60, 3, [], [(.agg [(.atm (.v 0)), (.atm (.v 1)), (.atm (.v 2))]), (.atm (.c (fnD 59)))], 3, [], (.agg [(.atm (.v 0)), (.atm (.v 1)), (.atm (.v 2))]), true, []⟩
def sg75 : Sig := ⟨109, 6, [⟨false, false, 70, 4, (.c (.sl [])), [[(.atm (.v 2)), (.atm (.v 3)), (.atm (.v 4)), (.atm (.v 5))]]⟩], [(.ptr 0 0 0), (.atm (.v 0)), (.atm (.v 1)), (.clo 110 [(.ptr 0 0 0)] [])], 7, [⟨false, false, 70, 4, (.c (.sl [])), [[(.atm (.v 3)), (.atm (.v 4)), (.atm (.v 5)), (.atm (.v 6))]]⟩], (.agg [(.atm (.v 0)), (.atm (.v 1)), (.atm (.v 2))]), true, []⟩
def sg76 : Sig := ⟨86, 4, [⟨false, false, 26, 1, (.c (.sl [])), [[(.clo 83 [] [(.ptr 1 0 0)])]]⟩, ⟨false, false, 42, 1, (.c (.sl [])), [[(.atm (.v 3))]]⟩], [(.agg [(.atm (.v 0)), (.atm (.v 1)), (.atm (.v 2))]), (.ptr 0 0 0)], 2, [⟨false, false, 26, 1, (.c (.sl [])), [[(.clo 83 [] [(.ptr 1 0 0)])]]⟩, ⟨false, false, 42, 1, (.c (.sl [])), [[(.atm (.v 1))]]⟩], (.atm (.v 0)), false, []⟩
def sg77 : Sig := ⟨59, 3, [], [(.agg [(.atm (.v 0)), (.atm (.v 1)), (.atm (.v 2))])], 4, [], (.tup [(.agg [(.atm (.v 0)), (.atm (.v 1)), (.atm (.v 2))]), (.atm (.v 3))]), true, []⟩
def sg78 : Sig := ⟨110, 4, [⟨false, false, 70, 4, (.c (.sl [])), [[(.atm (.v 0)), (.atm (.v 1)), (.atm (.v 2)), (.atm (.v 3))]]⟩], [(.ptr 0 0 0)], 7, [⟨false, false, 70, 4, (.c (.sl [])), [[(.atm (.v 3)), (.atm (.v 4)), (.atm (.v 5)), (.atm (.v 6))]]⟩], (.agg [(.atm (.v 0)), (.atm (.v 1)), (.atm (.v 2))]), true, []⟩
def sg79 : Sig := ⟨109, 6, [⟨false, false, 70, 4, (.c (.sl [])), [[(.atm (.v 2)), (.atm (.v 3)), (.atm (.v 4)), (.atm (.v 5))]]⟩], [(.ptr 0 0 0), (.atm (.v 0)), (.atm (.v 1)), (.clo 118 [(.ptr 0 0 0)] [])], 7, [⟨false, false, 70, 4, (.c (.sl [])), [[(.atm (.v 3)), (.atm (.v 4)), (.atm (.v 5)), (.atm (.v 6))]]⟩], (.agg [(.atm (.v 0)), (.atm (.v 1)), (.atm (.v 2))]), true, []⟩
def sg80 : Sig := ⟨118, 4, [⟨false, false, 70, 4, (.c (.sl [])), [[(.atm (.v 0)), (.atm (.v 1)), (.atm (.v 2)), (.atm (.v 3))]]⟩], [(.ptr 0 0 0)], 7, [⟨false, false, 70, 4, (.c (.sl [])), [[(.atm (.v 3)), (.atm (.v 4)), (.atm (.v 5)), (.atm (.v 6))]]⟩], (.agg [(.atm (.v 0)), (.atm (.v 1)), (.atm (.v 2))]), true, []⟩
def sigs : List Sig := [sg0, sg1, sg2, sg3, sg4, sg5, sg6, sg7, sg8, sg9, sg10, sg11, sg12, sg13, sg14, sg15, sg16, sg17, sg18, sg19, sg20, sg21, sg22, sg23, sg24, sg25, sg26, sg27, sg28, sg29, sg30, sg31, sg32, sg33, sg34, sg35, sg36, sg37, sg38, sg39, sg40, sg41, sg42, sg43, sg44, sg45, sg46, sg47, sg48, sg49, sg50, sg51, sg52, sg53, sg54, sg55, sg56, sg57, sg58, sg59, sg60, sg61, sg62, sg63, sg64, sg65, sg66, sg67, sg68, sg69, sg70, sg71, sg72, sg73, sg74, sg75, sg76, sg77, sg78, sg79, sg80]
/- 0:deliberationlaw02.FormulaTexts -/
def an0 : Ann := (.s none .z (.s none .z (.s none .z (.s none .z (.s none (.s none .z (.b (.l ⟨1, [(0, .junk), (1, .junk), (2, .junk), (4, .junk), (5, .junk), (6, .junk), (13, .junk), (14, .junk), (15, .junk), (16, .junk), (17, .junk), (18, .junk), (19, .junk), (20, .junk), (21, .junk), (22, .junk), (23, .junk), (24, .junk), (25, .junk), (26, .junk), (27, .junk), (28, .junk), (29, .junk), (32, (.atm (.v 0)))], [], 14, []⟩ (.s none .z (.s none .z (.s none (.b (.s none .z (.s none .z (.s none .z (.s (some ⟨1, [(8, .junk), (9, .junk), (10, .junk), (11, .junk), (12, .junk), (33, .junk), (34, .junk), (35, .junk), (36, .junk), (37, .junk), (38, .junk), (39, .junk), (40, .junk), (41, .junk), (42, .junk), (43, .junk), (44, .junk), (45, .junk), (74, (.atm (.v 0)))], [], 15, []⟩) .z .z))))) .z)))))) .z)))))
def ir0p0 : IR :=
 (.ite (.v 39)
  (.ret [(.c (.bool false))])
 (.op (.bin .add false) [(.v 30), (.c (.int .i64 1))]
 (.jump 0 [(.v 40)])))
def ir0p1 : IR :=
 (.op (.bin .lss false) [(.v 30), (.v 29)]
 (.ite (.v 31)
  (.op .chk [(.v 28), (.v 30)]
  (.op (.get 0 3) [(.v 28), (.v 30)]
  (.call 12 2 false [] [(.v 32), (.v 33), (.v 34)]
  (.call 13 2 false [] [(.v 32), (.v 33), (.v 34)]
  (.letj 1
   (.call 14 1 false [] [(.v 32), (.v 33), (.v 34)]
   (.call 15 1 false [] [(.v 32), (.v 33), (.v 34)]
   (.op (.bin .neq false) [(.v 39), (.v 40)]
   (.ite (.v 41)
    (.jump 1 [(.c (.bool true))])
   (.call 16 1 false [] [(.v 32), (.v 33), (.v 34)]
   (.call 17 1 false [] [(.v 32), (.v 33), (.v 34)]
   (.op (.bin .neq false) [(.v 42), (.v 43)]
   (.ite (.v 44)
    (.jump 1 [(.c (.bool true))])
   (.call 18 1 false [] [(.v 32), (.v 33), (.v 34)]
   (.call 19 1 false [] [(.v 32), (.v 33), (.v 34)]
   (.op (.bin .neq false) [(.v 45), (.v 46)]
   (.ite (.v 47)
    (.jump 1 [(.c (.bool true))])
   (.op (.bin .neq false) [(.v 35), (.v 37)]
   (.ite (.v 48)
    (.jump 1 [(.c (.bool true))])
   (.op (.bin .neq false) [(.v 36), (.v 38)]
   (.jump 1 [(.v 49)]))))))))))))))))
  ir0p0)))))
 (.call 20 1 false [] []
 (.ret [(.v 32)]))))
def ir0 : IR :=
 (.call 8 1 false [] [(.v 0), (.v 1), (.v 2)]
 (.op (.un .not) [(.v 4)]
 (.ite (.v 5)
  (.ret [(.c (.bool true))])
 (.call 9 2 false [] [(.v 3)]
 (.call 10 5 false [] [(.c (.int .i64 4)), (.c (.int .i64 4)), (.v 6), (.v 7)]
 (.call 11 5 false [] [(.v 8), (.v 9), (.v 10), (.v 11), (.v 12)]
 (.call 11 5 false [] [(.v 8), (.v 9), (.v 10), (.v 16), (.v 17)]
 (.call 11 5 false [] [(.v 18), (.v 19), (.v 20), (.v 21), (.v 22)]
 (.op (.mk 3 4) [(.v 0), (.v 1), (.v 2), (.v 8), (.v 9), (.v 10), (.v 13), (.v 14), (.v 15), (.v 23), (.v 24), (.v 25)]
 (.op .lenL [(.v 28)]
 (.loop 1 [(.c (.int .i64 0))] ir0p1)))))))))))
theorem rd0 : readFn T SG sigs 3000 sg0 Tryd.f3 an0 = some ir0 := by kernel_rfl
/- 1:deliberationlaw02.FormulaParses: not read -/
/- 2:deliberationlaw02.FormulaBack -/
def an2 : Ann := (.s none .z (.s none .z (.s none .z (.s none .z (.s none .z (.s none .z (.s none .z (.s none (.s none .z (.b (.l ⟨1, [(1, .junk), (4, .junk), (5, .junk), (7, .junk), (8, .junk), (22, .junk), (23, .junk), (24, .junk), (25, .junk), (26, .junk), (27, .junk), (28, .junk), (29, .junk), (30, .junk), (31, .junk), (32, .junk), (33, .junk), (34, .junk), (35, .junk), (42, .junk), (43, .junk), (44, .junk), (45, .junk), (46, .junk), (47, .junk), (48, .junk), (49, .junk), (52, (.atm (.v 0)))], [], 3, []⟩ (.s none .z (.s none .z (.s none (.b (.s none .z (.s none .z (.s (some ⟨1, [(10, .junk), (11, .junk), (12, .junk), (13, .junk), (53, .junk), (54, .junk), (55, .junk), (56, .junk), (57, .junk), (58, .junk), (59, .junk), (60, .junk), (61, .junk), (73, (.atm (.v 0)))], [], 4, []⟩) .z .z)))) .z)))))) (.s (some ⟨0, [(0, .junk), (6, .junk), (50, .junk), (51, .junk), (52, .junk), (53, .junk)], [], 3, []⟩) (.s none .z (.s none .z (.c (.s none .z (.s none .z (.s (some ⟨1, [(0, .junk), (6, .junk), (14, .junk), (15, .junk), (16, .junk), (17, .junk), (18, .junk), (19, .junk), (20, .junk), (21, .junk), (50, .junk), (51, .junk), (52, .junk), (53, .junk), (75, .junk), (76, .junk), (77, .junk), (78, .junk), (79, .junk), (80, .junk), (81, .junk), (82, .junk), (83, .junk), (84, .junk), (85, .junk), (86, .junk), (87, .junk), (88, .junk), (89, .junk), (90, .junk), (91, .junk), (92, .junk), (93, .junk), (113, (.atm (.v 0)))], [], 5, []⟩) .z .z))) .z))) .z)))))))))
def ir2p0 : IR :=
 (.ite (.v 28)
  (.ret [(.c (.bool false))])
 (.op (.bin .add false) [(.v 20), (.c (.int .i64 1))]
 (.jump 0 [(.v 29)])))
def ir2p1 : IR :=
 (.call 20 1 false [] []
 (.ret [(.v 22)]))
def ir2p2 : IR :=
 (.ite (.v 35)
  (.ret [(.c (.bool false))])
 (.jump 1 []))
def ir2p3 : IR :=
 (.op (.bin .lss false) [(.v 20), (.v 19)]
 (.ite (.v 21)
  (.op .chk [(.v 18), (.v 20)]
  (.op (.get 0 1) [(.v 18), (.v 20)]
  (.call 21 5 false [] [(.v 22)]
  (.letj 1
   (.op (.bin .neq false) [(.v 27), (.c (.int .i64 0))]
   (.ite (.v 28)
    (.jump 1 [(.c (.bool true))])
   (.op (.bin .neq false) [(.v 26), (.c (.int .i64 0))]
   (.ite (.v 29)
    (.jump 1 [(.c (.bool true))])
   (.call 22 1 false [] [(.v 6), (.v 7), (.v 8), (.v 23), (.v 24), (.v 25)]
   (.op (.un .not) [(.v 30)]
   (.jump 1 [(.v 31)])))))))
  ir2p0))))
 (.letj 0
  (.call 21 5 false [] [(.v 0)]
  (.op (.bin .eql false) [(.v 26), (.c (.int .i64 0))]
  (.ite (.v 27)
   (.call 12 2 false [] [(.v 22), (.v 23), (.v 24)]
   (.call 21 5 false [] [(.v 28)]
   (.letj 1
    (.op (.bin .eql false) [(.v 29), (.c (.int .i64 0))]
    (.ite (.v 35)
     (.op (.bin .neq false) [(.v 34), (.c (.int .i64 0))]
     (.ite (.v 36)
      (.jump 2 [(.c (.bool true))])
     (.call 22 1 false [] [(.v 22), (.v 23), (.v 24), (.v 30), (.v 31), (.v 32)]
     (.op (.un .not) [(.v 37)]
     (.ite (.v 38)
      (.jump 2 [(.c (.bool true))])
     (.op (.bin .neq false) [(.v 29), (.c (.int .i64 0))]
     (.ite (.v 39)
      (.op (.bin .neq false) [(.v 29), (.c (.int .i64 2))]
      (.jump 2 [(.v 40)]))
     (.jump 2 [(.c (.bool false))]))))))))
    (.op (.bin .neq false) [(.v 29), (.c (.int .i64 0))]
    (.ite (.v 36)
     (.op (.bin .neq false) [(.v 29), (.c (.int .i64 2))]
     (.jump 2 [(.v 37)]))
    (.jump 2 [(.c (.bool false))])))))
   ir2p2)))
  (.jump 1 []))))
 ir2p1)))
def ir2 : IR :=
 (.op .lenS [(.v 0)]
 (.op (.bin .gtr false) [(.v 2), (.c (.int .i64 300))]
 (.ite (.v 3)
  (.ret [(.c (.bool true))])
 (.call 9 2 false [] [(.v 1)]
 (.call 10 5 false [] [(.c (.int .i64 5)), (.c (.int .i64 4)), (.v 4), (.v 5)]
 (.call 12 2 false [] [(.v 6), (.v 7), (.v 8)]
 (.op (.bin .eql false) [(.v 12), (.c (.int .i64 2))]
 (.ite (.v 13)
  (.call 19 1 false [] [(.v 6), (.v 7), (.v 8)]
  (.op (.bin .eql false) [(.v 14), (.c (.int .i64 2))]
  (.ite (.v 15)
   (.call 20 1 false [] []
   (.ret [(.v 16)]))
  (.ret [(.c (.bool false))]))))
 (.op (.bin .neq false) [(.v 12), (.c (.int .i64 0))]
 (.ite (.v 14)
  (.ret [(.c (.bool false))])
 (.op (.bin .add false) [(.c (.str [32, 32])), (.v 11)]
 (.op (.bin .add false) [(.c (.str [40, 40])), (.v 11)]
 (.op (.bin .add false) [(.v 16), (.c (.str [32, 41, 32, 41]))]
 (.op (.mk 1 3) [(.v 11), (.v 15), (.v 17)]
 (.op .lenL [(.v 18)]
 (.loop 1 [(.c (.int .i64 0))] ir2p3))))))))))))))))
theorem rd2 : readFn T SG sigs 3000 sg2 Tryd.f5 an2 = some ir2 := by kernel_rfl
/- 3:deliberationlaw02.FormulaLimits -/
def an3 : Ann := (.s none .z (.s none .z (.s none .z (.s none .z (.s none (.s none .z (.b (.l ⟨5, [(2, .junk), (4, (.atm (.v 0))), (5, (.atm (.v 1))), (11, .junk), (12, .junk), (13, .junk), (14, .junk)], [(0, ⟨false, false, 24, 3, (.c (.sl [])), [[(.atm (.v 2)), (.atm (.v 3)), (.atm (.v 4))]]⟩), (1, ⟨true, true, 24, 3, (.c (.sl [])), []⟩)], 2, [⟨some (0, 0, 2), 0, 24, 3⟩]⟩ .z))) .z)))))
def ir3p0 : IR :=
 (.op (.bin .lss false) [(.v 4), (.v 2)]
 (.ite (.v 8)
  (.op (.mk 3 1) [(.v 5), (.v 6), (.v 7)]
  (.op (.bin .add false) [(.c (.str [126])), (.v 3)]
  (.op (.bin .add false) [(.v 4), (.c (.int .i64 1))]
  (.jump 0 [(.v 10), (.v 11), (.c (.int .i64 4)), (.c (.str [])), (.v 9)]))))
 (.call 21 5 false [] [(.v 3)]
 (.op (.bin .gtr false) [(.v 2), (.c (.int .i64 20))]
 (.ite (.v 14)
  (.op (.bin .eql false) [(.v 13), (.c (.int .i64 2))]
  (.ite (.v 15)
   (.op (.bin .eql false) [(.v 12), (.c (.int .i64 0))]
   (.ite (.v 16)
    (.call 18 1 false [] [(.v 5), (.v 6), (.v 7)]
    (.op (.bin .eql false) [(.v 17), (.c (.int .i64 2))]
    (.ite (.v 18)
     (.call 20 1 false [] []
     (.ret [(.v 19)]))
    (.ret [(.c (.bool false))]))))
   (.ret [(.c (.bool false))])))
  (.ret [(.c (.bool false))])))
 (.call 12 2 false [] [(.v 5), (.v 6), (.v 7)]
 (.op (.bin .eql false) [(.v 13), (.c (.int .i64 0))]
 (.ite (.v 17)
  (.call 22 1 false [] [(.v 5), (.v 6), (.v 7), (.v 9), (.v 10), (.v 11)]
  (.ite (.v 18)
   (.op (.bin .eql false) [(.v 16), (.c (.int .i64 0))]
   (.ite (.v 19)
    (.op (.bin .eql false) [(.v 15), (.v 3)]
    (.ite (.v 20)
     (.call 16 1 false [] [(.v 9), (.v 10), (.v 11)]
     (.op (.bin .eql false) [(.v 21), (.v 2)]
     (.ite (.v 22)
      (.call 20 1 false [] []
      (.ret [(.v 23)]))
     (.ret [(.c (.bool false))]))))
    (.ret [(.c (.bool false))])))
   (.ret [(.c (.bool false))])))
  (.ret [(.c (.bool false))])))
 (.ret [(.c (.bool false))])))))))))
def ir3 : IR :=
 (.call 23 1 false [] [(.v 0), (.c (.int .i64 5))]
 (.op (.bin .add false) [(.c (.int .i64 18)), (.v 1)]
 (.loop 5 [(.c (.str [97])), (.c (.int .i64 0)), (.c (.int .i64 3)), (.c (.str [97])), (.c (.sl []))] ir3p0)))
theorem rd3 : readFn T SG sigs 3000 sg3 Tryd.f6 an3 = some ir3 := by kernel_rfl
/- 4:deliberationlaw02.FormulaLaws -/
def an4 : Ann := (.s none .z (.s none .z (.s none .z (.s none .z (.s none (.s none .z (.b (.l ⟨3, [(0, .junk), (2, .junk), (7, (.atm (.v 0))), (11, .junk), (12, .junk), (13, .junk), (14, .junk), (15, .junk), (16, .junk), (17, .junk), (18, .junk), (19, .junk)], [(0, ⟨false, false, 59, 2, (.c (.sl [])), [[(.atm (.v 1)), (.atm (.v 2))]]⟩)], 5, []⟩ (.s none .z (.s none (.b (.s none .z (.s none .z (.s none (.s (some ⟨2, [(9, (.atm (.v 0))), (20, .junk), (21, .junk), (24, .junk), (25, .junk), (26, .junk), (27, .junk), (28, .junk), (29, .junk), (30, .junk), (31, .junk), (71, (.atm (.v 1)))], [], 5, []⟩) .z .z) (.s (some ⟨1, [(8, .junk), (9, .junk), (10, .junk), (71, .junk), (115, (.atm (.v 0)))], [], 5, []⟩) .z .z))))) .z))))) .z)))))
def ir4p0 : IR :=
 (.ite (.v 28)
  (.ret [(.c (.bool false))])
 (.op (.bin .add false) [(.v 17), (.c (.int .i64 1))]
 (.jump 0 [(.v 29), (.v 22), (.v 23)])))
def ir4p1 : IR :=
 (.ite (.v 27)
  (.ret [(.c (.bool false))])
 (.letj 1
  (.op (.mk 3 2) [(.v 3), (.v 4), (.v 5), (.v 8), (.v 9), (.v 10)]
  (.call 24 3 false [] [(.c (.int .i64 7)), (.v 28)]
  (.call 26 1 false [] [(.v 29), (.v 30), (.v 31), (.v 21)]
  (.op (.mk 3 2) [(.v 14), (.v 15), (.v 16), (.v 8), (.v 9), (.v 10)]
  (.call 24 3 false [] [(.c (.int .i64 6)), (.v 33)]
  (.call 26 1 false [] [(.v 34), (.v 35), (.v 36), (.v 21)]
  (.op (.bin .neq true) [(.v 32), (.v 37)]
  (.ite (.v 38)
   (.jump 1 [(.c (.bool true))])
  (.op (.mk 3 2) [(.v 3), (.v 4), (.v 5), (.v 8), (.v 9), (.v 10)]
  (.call 24 3 false [] [(.c (.int .i64 8)), (.v 39)]
  (.call 26 1 false [] [(.v 40), (.v 41), (.v 42), (.v 21)]
  (.op (.bin .eql true) [(.v 26), (.v 25)]
  (.op (.bin .neq true) [(.v 43), (.v 44)]
  (.ite (.v 45)
   (.jump 1 [(.c (.bool true))])
  (.op (.mk 3 2) [(.v 3), (.v 4), (.v 5), (.v 8), (.v 9), (.v 10)]
  (.call 24 3 false [] [(.c (.int .i64 5)), (.v 46)]
  (.op (.mk 3 1) [(.v 47), (.v 48), (.v 49)]
  (.call 24 3 false [] [(.c (.int .i64 4)), (.v 50)]
  (.call 26 1 false [] [(.v 51), (.v 52), (.v 53), (.v 21)]
  (.op (.mk 3 1) [(.v 8), (.v 9), (.v 10)]
  (.call 24 3 false [] [(.c (.int .i64 4)), (.v 55)]
  (.op (.mk 3 2) [(.v 14), (.v 15), (.v 16), (.v 56), (.v 57), (.v 58)]
  (.call 24 3 false [] [(.c (.int .i64 6)), (.v 59)]
  (.call 26 1 false [] [(.v 60), (.v 61), (.v 62), (.v 21)]
  (.op (.bin .neq true) [(.v 54), (.v 63)]
  (.jump 1 [(.v 64)]))))))))))))))))))))))))))
 ir4p0))
def ir4p2 : IR :=
 (.op (.bin .lss false) [(.v 17), (.c (.int .i64 4))]
 (.ite (.v 20)
  (.call 25 3 false [] [(.c (.int .i64 4)), (.v 18), (.v 19)]
  (.call 26 1 false [] [(.v 3), (.v 4), (.v 5), (.v 21)]
  (.call 26 1 false [] [(.v 8), (.v 9), (.v 10), (.v 21)]
  (.letj 2
   (.call 26 1 false [] [(.v 14), (.v 15), (.v 16), (.v 21)]
   (.op (.bin .eql true) [(.v 26), (.v 24)]
   (.ite (.v 27)
    (.jump 1 [(.v 24), (.c (.bool true))])
   (.op (.mk 3 1) [(.v 14), (.v 15), (.v 16)]
   (.call 24 3 false [] [(.c (.int .i64 4)), (.v 28)]
   (.call 26 1 false [] [(.v 29), (.v 30), (.v 31), (.v 21)]
   (.op (.bin .neq true) [(.v 32), (.v 24)]
   (.ite (.v 33)
    (.jump 1 [(.v 24), (.c (.bool true))])
   (.op (.mk 3 2) [(.v 3), (.v 4), (.v 5), (.v 8), (.v 9), (.v 10)]
   (.call 24 3 false [] [(.c (.int .i64 5)), (.v 34)]
   (.call 26 1 false [] [(.v 35), (.v 36), (.v 37), (.v 21)]
   (.ite (.v 24)
    (.op (.bin .neq true) [(.v 38), (.v 25)]
    (.ite (.v 39)
     (.jump 1 [(.c (.bool true)), (.c (.bool true))])
    (.op (.mk 3 2) [(.v 3), (.v 4), (.v 5), (.v 8), (.v 9), (.v 10)]
    (.call 24 3 false [] [(.c (.int .i64 6)), (.v 40)]
    (.call 26 1 false [] [(.v 41), (.v 42), (.v 43), (.v 21)]
    (.op (.bin .neq true) [(.v 44), (.c (.bool true))]
    (.jump 1 [(.c (.bool true)), (.v 45)])))))))
   (.op (.bin .neq true) [(.v 38), (.c (.bool false))]
   (.ite (.v 39)
    (.jump 1 [(.c (.bool false)), (.c (.bool true))])
   (.op (.mk 3 2) [(.v 3), (.v 4), (.v 5), (.v 8), (.v 9), (.v 10)]
   (.call 24 3 false [] [(.c (.int .i64 6)), (.v 40)]
   (.call 26 1 false [] [(.v 41), (.v 42), (.v 43), (.v 21)]
   (.op (.bin .neq true) [(.v 44), (.v 25)]
   (.jump 1 [(.c (.bool false)), (.v 45)])))))))))))))))))))
  ir4p1))))
 (.call 20 1 false [] []
 (.ret [(.v 21)]))))
def ir4 : IR :=
 (.call 9 2 false [] [(.v 0)]
 (.call 10 5 false [] [(.c (.int .i64 4)), (.c (.int .i64 3)), (.v 1), (.v 2)]
 (.call 10 5 false [] [(.c (.int .i64 4)), (.c (.int .i64 3)), (.v 6), (.v 7)]
 (.op (.mk 3 1) [(.v 3), (.v 4), (.v 5)]
 (.call 24 3 false [] [(.c (.int .i64 4)), (.v 13)]
 (.loop 3 [(.c (.int .i64 0)), (.v 11), (.v 12)] ir4p2))))))
theorem rd4 : readFn T SG sigs 3000 sg4 Tryd.f7 an4 = some ir4 := by kernel_rfl
/- 5:deliberationlaw02.FormulaLemma -/
def an5 : Ann := (.s none .z (.s none .z (.s none .z (.s none (.s none .z (.b (.l ⟨3, [(0, .junk), (2, .junk), (6, (.atm (.v 0))), (12, .junk), (13, .junk), (14, .junk), (15, .junk), (16, .junk), (17, .junk)], [(0, ⟨false, false, 59, 2, (.c (.sl [])), [[(.atm (.v 1)), (.atm (.v 2))]]⟩)], 3, []⟩ (.s none .z (.s none (.b (.s none .z (.s none .z (.s none .z (.s none (.s none .z (.b (.l ⟨2, [(18, .junk), (19, .junk), (22, .junk), (23, .junk), (24, .junk), (25, .junk), (26, .junk), (27, .junk), (28, .junk), (29, .junk), (32, (.atm (.v 0)))], [(4, ⟨false, true, 9, 1, (.v 1), []⟩)], 5, [⟨none, 9, 9, 1⟩]⟩ (.s none .z (.s none .z (.s (some ⟨1, [(33, .junk)], [(4, ⟨false, true, 9, 1, (.v 0), []⟩)], 5, []⟩) .z .z)))))) (.s (some ⟨1, [(30, .junk), (31, .junk), (32, .junk), (33, .junk)], [(4, ⟨false, true, 9, 1, (.v 0), []⟩)], 5, []⟩) .z .z)))))) .z))))) .z))))
def ir5p0 : IR :=
 (.op (.bin .add false) [(.v 28), (.c (.int .i64 1))]
 (.jump 1 [(.v 32), (.v 31)]))
def ir5p1 : IR :=
 (.call 28 3 false [] [(.v 3), (.v 4), (.v 5), (.v 23), (.v 8), (.v 9), (.v 10)]
 (.call 26 1 false [] [(.v 32), (.v 33), (.v 34), (.v 24)]
 (.call 26 1 true [] [(.v 3), (.v 4), (.v 5), (.v 31)]
 (.op (.bin .neq true) [(.v 35), (.v 36)]
 (.ite (.v 37)
  (.ret [(.c (.bool false))])
 (.op (.bin .add false) [(.v 13), (.c (.int .i64 1))]
 (.jump 0 [(.v 38), (.v 25), (.v 26)])))))))
def ir5p2 : IR :=
 (.op (.bin .lss false) [(.v 28), (.v 27)]
 (.ite (.v 30)
  (.letj 1
   (.op (.row 1) [(.v 24), (.v 28)]
   (.op (.bin .neq false) [(.v 31), (.v 23)]
   (.ite (.v 32)
    (.op (.mk 1 1) [(.v 31)]
    (.op (.app 1 16) [(.v 29), (.v 33)]
    (.jump 2 [(.v 34)])))
   (.jump 2 [(.v 29)]))))
  ir5p0)
 (.letj 1
  (.call 26 1 false [] [(.v 8), (.v 9), (.v 10), (.v 24)]
  (.ite (.v 31)
   (.op (.mk 1 1) [(.v 23)]
   (.op (.app 1 16) [(.v 29), (.v 32)]
   (.jump 2 [(.v 33)])))
  (.jump 2 [(.v 29)])))
 ir5p1)))
def ir5p3 : IR :=
 (.op (.bin .lss false) [(.v 13), (.c (.int .i64 4))]
 (.ite (.v 16)
  (.call 27 3 false [] [(.c (.int .i64 4)), (.v 14), (.v 15)]
  (.op (.bin .add false) [(.c (.int .i64 97)), (.v 17)]
  (.op (.conv .u8) [(.v 20)]
  (.op (.mk 1 1) [(.v 21)]
  (.op .toS [(.v 22)]
  (.call 25 3 false [] [(.c (.int .i64 4)), (.v 18), (.v 19)]
  (.op .lenL [(.v 24)]
  (.loop 2 [(.c (.int .i64 0)), (.c (.sl []))] ir5p2))))))))
 (.call 20 1 false [] []
 (.ret [(.v 17)]))))
def ir5 : IR :=
 (.call 9 2 false [] [(.v 0)]
 (.call 10 5 false [] [(.c (.int .i64 4)), (.c (.int .i64 3)), (.v 1), (.v 2)]
 (.call 10 5 false [] [(.c (.int .i64 4)), (.c (.int .i64 3)), (.v 6), (.v 7)]
 (.loop 3 [(.c (.int .i64 0)), (.v 11), (.v 12)] ir5p3))))
theorem rd5 : readFn T SG sigs 3000 sg5 Tryd.f8 an5 = some ir5 := by kernel_rfl
/- 6:deliberationlaw02.FormulaOwn -/
def an6 : Ann := (.s none .z (.s none .z (.s none .z (.s none .z (.s none .z (.s none .z (.s none (.s none .z (.b (.l ⟨2, [(0, .junk), (4, .junk), (5, .junk), (10, (.atm (.v 0))), (19, .junk), (20, .junk), (21, .junk), (22, .junk), (23, .junk), (24, .junk), (25, .junk), (26, .junk), (28, .junk), (29, .junk)], [(2, ⟨false, true, 9, 1, (.v 1), []⟩)], 3, []⟩ (.s none (.s (some ⟨1, [(37, (.atm (.v 0)))], [], 3, []⟩) .z .z) (.s (some ⟨1, [(37, .junk)], [(2, ⟨false, true, 9, 1, (.v 0), []⟩)], 3, []⟩) (.b (.s none .z (.s none (.s none .z (.b (.l ⟨2, [(11, (.atm (.v 0))), (37, .junk), (42, (.atm (.v 1)))], [], 3, []⟩ (.s none .z (.s none .z (.s (some ⟨1, [(11, (.atm (.v 0))), (43, .junk)], [], 3, []⟩) .z .z)))))) .z))) .z))))) (.s none .z (.s none (.s none .z (.b (.l ⟨2, [(1, .junk), (10, .junk), (37, .junk), (67, (.atm (.v 0)))], [(3, ⟨false, true, 9, 1, (.v 1), []⟩)], 4, [⟨none, 14, 9, 1⟩]⟩ (.s none .z (.s none .z (.s none (.b (.s none .z (.s none .z (.b (.l ⟨2, [(68, .junk), (69, .junk), (70, .junk), (73, (.atm (.v 0)))], [(3, ⟨false, true, 9, 1, (.v 1), []⟩)], 4, []⟩ (.s none .z (.s none .z (.s (some ⟨1, [(74, .junk)], [(3, ⟨false, true, 9, 1, (.v 0), []⟩)], 4, []⟩) .z .z)))))))) .z)))))) .z)))))))))
def ir6p0 : IR :=
 (.op (.bin .add false) [(.v 14), (.c (.int .i64 1))]
 (.jump 0 [(.v 18), (.v 17)]))
def ir6p1 : IR :=
 (.op (.bin .add false) [(.v 19), (.c (.int .i64 1))]
 (.jump 2 [(.v 21), (.v 22)]))
def ir6p2 : IR :=
 (.op (.bin .lss false) [(.v 19), (.v 17)]
 (.ite (.v 20)
  (.letj 1
   (.op (.row 1) [(.v 12), (.v 19)]
   (.ite (.v 18)
    (.jump 3 [(.c (.bool true))])
   (.op (.row 1) [(.v 1), (.v 14)]
   (.op (.bin .eql false) [(.v 21), (.v 22)]
   (.jump 3 [(.v 23)])))))
  ir6p1)
 (.op (.un .not) [(.v 18)]
 (.ite (.v 21)
  (.op (.row 1) [(.v 1), (.v 14)]
  (.op (.mk 1 1) [(.v 22)]
  (.op (.app 1 16) [(.v 15), (.v 23)]
  (.jump 1 [(.v 24)]))))
 (.jump 1 [(.v 15)])))))
def ir6p3 : IR :=
 (.op (.bin .add false) [(.v 23), (.c (.int .i64 1))]
 (.jump 2 [(.v 27), (.v 26)]))
def ir6p4 : IR :=
 (.op (.bin .lss false) [(.v 23), (.v 22)]
 (.ite (.v 25)
  (.letj 1
   (.op (.row 1) [(.v 12), (.v 23)]
   (.op (.bin .eql false) [(.v 21), (.v 26)]
   (.ite (.v 27)
    (.op (.mk 1 1) [(.v 21)]
    (.op (.app 1 16) [(.v 24), (.v 28)]
    (.jump 3 [(.v 29)])))
   (.jump 3 [(.v 24)]))))
  ir6p3)
 (.op (.bin .add false) [(.v 18), (.c (.int .i64 1))]
 (.jump 1 [(.v 26), (.v 24)]))))
def ir6p5 : IR :=
 (.op (.bin .lss false) [(.v 18), (.v 17)]
 (.ite (.v 20)
  (.op (.row 1) [(.v 9), (.v 18)]
  (.op .lenL [(.v 12)]
  (.loop 2 [(.c (.int .i64 0)), (.v 19)] ir6p4)))
 (.call 26 1 true [] [(.v 4), (.v 5), (.v 6), (.v 15)]
 (.call 26 1 false [] [(.v 4), (.v 5), (.v 6), (.v 9)]
 (.op (.bin .eql true) [(.v 21), (.v 22)]
 (.ite (.v 23)
  (.call 26 1 true [] [(.v 4), (.v 5), (.v 6), (.v 19)]
  (.call 26 1 false [] [(.v 4), (.v 5), (.v 6), (.v 9)]
  (.op (.bin .eql true) [(.v 24), (.v 25)]
  (.ite (.v 26)
   (.call 20 1 false [] []
   (.ret [(.v 27)]))
  (.ret [(.c (.bool false))])))))
 (.ret [(.c (.bool false))])))))))
def ir6p6 : IR :=
 (.ite (.v 16)
  (.letj 1
   (.op .lenL [(.v 12)]
   (.loop 2 [(.c (.bool false)), (.c (.int .i64 0))] ir6p2))
  ir6p0)
 (.op .lenL [(.v 9)]
 (.loop 2 [(.c (.int .i64 0)), (.c (.sl []))] ir6p5)))
def ir6p7 : IR :=
 (.letj 1
  (.op .lenL [(.v 1)]
  (.op (.bin .lss false) [(.v 14), (.v 16)]
  (.ite (.v 17)
   (.op (.bin .lss false) [(.v 14), (.c (.int .i64 20))]
   (.jump 1 [(.v 18)]))
  (.jump 1 [(.c (.bool false))]))))
 ir6p6)
def ir6 : IR :=
 (.call 9 2 false [] [(.v 0)]
 (.call 10 5 false [] [(.c (.int .i64 4)), (.c (.int .i64 4)), (.v 2), (.v 3)]
 (.call 25 3 false [] [(.c (.int .i64 4)), (.v 7), (.v 8)]
 (.call 29 1 false [] [(.v 4), (.v 5), (.v 6)]
 (.op (.app 1 16) [(.c (.sl [])), (.v 9)]
 (.loop 2 [(.c (.int .i64 0)), (.v 13)] ir6p7))))))
theorem rd6 : readFn T SG sigs 3000 sg6 Tryd.f9 an6 = some ir6 := by kernel_rfl
/- 7:deliberationlaw02.FormulaValues -/
def an7 : Ann := (.s none .z (.s none (.s (some ⟨1, [(0, .junk), (1, .junk), (10, .junk), (48, (.atm (.v 0)))], [], 2, []⟩) .z .z) (.s none .z (.s none .z (.s none .z (.s none (.s none .z (.b (.l ⟨3, [(4, .junk), (5, .junk), (6, .junk), (12, .junk), (48, .junk), (49, .junk), (50, .junk), (51, .junk), (52, .junk), (53, .junk), (54, .junk), (55, .junk), (56, .junk), (57, .junk), (58, .junk), (59, .junk), (62, (.atm (.v 0)))], [(2, ⟨false, false, 59, 2, (.c (.sl [])), [[(.atm (.v 1)), (.atm (.v 2))]]⟩)], 11, []⟩ (.s none .z (.s none .z (.s none (.b (.s none .z (.s none .z (.s none (.s (some ⟨1, [(63, .junk), (64, .junk), (65, .junk), (66, .junk), (67, .junk), (68, .junk), (69, .junk), (83, (.atm (.v 0)))], [], 12, []⟩) .z .z) (.s none (.s none .z (.b (.l ⟨1, [(83, .junk), (84, .junk), (86, (.atm (.v 0)))], [], 12, []⟩ .z))) (.s none (.s none .z (.b (.l ⟨3, [(16, .junk), (17, .junk), (19, (.atm (.v 0))), (85, .junk), (86, .junk), (87, .junk)], [(2, ⟨false, false, 59, 2, (.c (.sl [])), [[(.atm (.v 1)), (.atm (.v 2))]]⟩)], 12, []⟩ .z))) (.s none .z (.b (.l ⟨1, [(19, .junk), (99, .junk), (100, .junk), (114, (.atm (.v 0)))], [], 12, []⟩ (.s none .z (.s none .z (.s none (.b (.s none .z (.s (some ⟨1, [(22, .junk), (115, .junk), (116, .junk), (117, .junk), (146, (.atm (.v 0)))], [], 13, []⟩) .z .z))) .z)))))))))))) .z)))))) .z))))))
def ir7p0 : IR :=
 (.ite (.v 47)
  (.ret [(.c (.bool false))])
 (.op (.bin .add false) [(.v 42), (.c (.int .i64 1))]
 (.jump 3 [(.v 48)])))
def ir7p1 : IR :=
 (.op (.bin .lss false) [(.v 42), (.v 41)]
 (.ite (.v 43)
  (.op .chk [(.v 22), (.v 42)]
  (.op (.get 0 3) [(.v 22), (.v 42)]
  (.letj 1
   (.call 33 1 false [] [(.v 28), (.v 29), (.v 30), (.v 44), (.v 45), (.v 46)]
   (.call 22 1 false [] [(.v 28), (.v 29), (.v 30), (.v 44), (.v 45), (.v 46)]
   (.op (.bin .neq true) [(.v 47), (.v 48)]
   (.ite (.v 49)
    (.jump 4 [(.c (.bool true))])
   (.call 28 3 false [] [(.v 28), (.v 29), (.v 30), (.v 6), (.v 44), (.v 45), (.v 46)]
   (.call 34 3 false [] [(.v 28), (.v 29), (.v 30), (.v 6), (.v 44), (.v 45), (.v 46)]
   (.call 22 1 false [] [(.v 50), (.v 51), (.v 52), (.v 53), (.v 54), (.v 55)]
   (.op (.un .not) [(.v 56)]
   (.ite (.v 57)
    (.jump 4 [(.c (.bool true))])
   (.call 28 3 false [] [(.v 28), (.v 29), (.v 30), (.c (.str [97])), (.v 44), (.v 45), (.v 46)]
   (.call 34 3 false [] [(.v 28), (.v 29), (.v 30), (.c (.str [97])), (.v 44), (.v 45), (.v 46)]
   (.call 22 1 false [] [(.v 58), (.v 59), (.v 60), (.v 61), (.v 62), (.v 63)]
   (.op (.un .not) [(.v 64)]
   (.jump 4 [(.v 65)]))))))))))))))
  ir7p0)))
 (.op (.bin .add false) [(.v 24), (.c (.int .i64 1))]
 (.jump 0 [(.v 44), (.v 38), (.v 39)]))))
def ir7p2 : IR :=
 (.op (.bin .lss false) [(.v 37), (.c (.int .i64 3))]
 (.ite (.v 40)
  (.call 25 3 false [] [(.c (.int .i64 4)), (.v 38), (.v 39)]
  (.call 26 1 false [] [(.v 28), (.v 29), (.v 30), (.v 41)]
  (.call 32 1 false [] [(.v 28), (.v 29), (.v 30), (.v 41)]
  (.op (.bin .neq true) [(.v 44), (.v 45)]
  (.ite (.v 46)
   (.ret [(.c (.bool false))])
  (.op (.bin .add false) [(.v 37), (.c (.int .i64 1))]
  (.jump 2 [(.v 47), (.v 42), (.v 43)])))))))
 (.op .lenL [(.v 22)]
 (.loop 1 [(.c (.int .i64 0))] ir7p1))))
def ir7p3 : IR :=
 (.op (.bin .lss false) [(.v 35), (.v 34)]
 (.ite (.v 36)
  (.op (.row 1) [(.v 31), (.v 35)]
  (.op (.row 1) [(.v 32), (.v 35)]
  (.op (.bin .neq false) [(.v 37), (.v 38)]
  (.ite (.v 39)
   (.ret [(.c (.bool false))])
  (.op (.bin .add false) [(.v 35), (.c (.int .i64 1))]
  (.jump 1 [(.v 40)]))))))
 (.loop 3 [(.c (.int .i64 0)), (.v 25), (.v 26)] ir7p2)))
def ir7p4 : IR :=
 (.ite (.v 33)
  (.ret [(.c (.bool false))])
 (.op .lenL [(.v 31)]
 (.loop 1 [(.c (.int .i64 0))] ir7p3)))
def ir7p5 : IR :=
 (.op (.bin .lss false) [(.v 24), (.v 23)]
 (.ite (.v 27)
  (.op .chk [(.v 22), (.v 24)]
  (.op (.get 0 3) [(.v 22), (.v 24)]
  (.call 29 1 false [] [(.v 28), (.v 29), (.v 30)]
  (.call 31 1 false [] [(.v 28), (.v 29), (.v 30)]
  (.letj 1
   (.op .lenL [(.v 31)]
   (.op .lenL [(.v 32)]
   (.op (.bin .neq false) [(.v 33), (.v 34)]
   (.ite (.v 35)
    (.jump 1 [(.c (.bool true))])
   (.call 26 1 false [] [(.v 28), (.v 29), (.v 30), (.v 7)]
   (.call 32 1 false [] [(.v 28), (.v 29), (.v 30), (.v 7)]
   (.op (.bin .neq true) [(.v 36), (.v 37)]
   (.jump 1 [(.v 38)]))))))))
  ir7p4)))))
 (.call 20 1 false [] []
 (.ret [(.v 28)]))))
def ir7p6 : IR :=
 (.ite (.v 9)
  (.ret [(.c (.bool true))])
 (.call 9 2 false [] [(.v 8)]
 (.call 10 5 false [] [(.c (.int .i64 4)), (.c (.int .i64 3)), (.v 10), (.v 11)]
 (.call 11 5 false [] [(.v 12), (.v 13), (.v 14), (.v 15), (.v 16)]
 (.op (.mk 3 4) [(.v 0), (.v 1), (.v 2), (.v 3), (.v 4), (.v 5), (.v 12), (.v 13), (.v 14), (.v 17), (.v 18), (.v 19)]
 (.op .lenL [(.v 22)]
 (.loop 3 [(.c (.int .i64 0)), (.v 20), (.v 21)] ir7p5)))))))
def ir7 : IR :=
 (.letj 1
  (.call 8 1 false [] [(.v 0), (.v 1), (.v 2)]
  (.op (.un .not) [(.v 9)]
  (.ite (.v 10)
   (.jump 0 [(.c (.bool true))])
  (.call 8 1 false [] [(.v 3), (.v 4), (.v 5)]
  (.op (.un .not) [(.v 11)]
  (.ite (.v 12)
   (.jump 0 [(.c (.bool true))])
  (.op .lenS [(.v 6)]
  (.op (.bin .gtr false) [(.v 13), (.c (.int .i64 100))]
  (.ite (.v 14)
   (.jump 0 [(.c (.bool true))])
  (.op .lenL [(.v 7)]
  (.op (.bin .gtr false) [(.v 15), (.c (.int .i64 20))]
  (.ite (.v 16)
   (.jump 0 [(.c (.bool true))])
  (.call 30 1 false [] [(.v 0), (.v 1), (.v 2), (.c (.int .i64 60))]
  (.call 30 1 false [] [(.v 3), (.v 4), (.v 5), (.c (.int .i64 60))]
  (.op (.bin .mul false) [(.v 17), (.v 18)]
  (.op (.bin .gtr false) [(.v 19), (.c (.int .i64 2000))]
  (.jump 0 [(.v 20)])))))))))))))))))
 ir7p6)
theorem rd7 : readFn T SG sigs 3000 sg7 Tryd.f10 an7 = some ir7 := by kernel_rfl
/- 8:deliberationkeep.SmallFormula -/
def an8 : Ann := .z
def ir8 : IR :=
 (.call 30 1 false [] [(.v 0), (.v 1), (.v 2), (.c (.int .i64 800))]
 (.op (.bin .leq false) [(.v 3), (.c (.int .i64 800))]
 (.ite (.v 4)
  (.call 35 1 false [] [(.v 0), (.v 1), (.v 2), (.c (.int .i64 30))]
  (.op (.bin .leq false) [(.v 5), (.c (.int .i64 30))]
  (.ite (.v 6)
   (.call 36 1 false [] [(.v 0), (.v 1), (.v 2)]
   (.ret [(.v 7)]))
  (.ret [(.c (.bool false))]))))
 (.ret [(.c (.bool false))]))))
theorem rd8 : readFn T SG sigs 3000 sg8 Tryd.f11 an8 = some ir8 := by kernel_rfl
/- 9:deliberationkeep.New -/
def an9 : Ann := .z
def ir9 : IR :=
 (.op .lenL [(.v 0)]
 (.op .min [(.v 1), (.c (.int .i64 2000))]
 (.op (.subL 1) [(.v 0), (.c (.int .i64 0)), (.v 2)]
 (.ret [(.v 3), (.c (.int .i64 0))]))))
theorem rd9 : readFn T SG sigs 3000 sg9 Tryd.f12 an9 = some ir9 := by kernel_rfl
/- 10:deliberationkeep.Src).Formula -/
def an10 : Ann := (.s none .z (.s none .z (.s none (.s (some ⟨1, [(11, .junk), (12, .junk), (18, (.atm (.v 0)))], [], 2, []⟩) .z .z) (.s none .z (.s none .z (.s (some ⟨3, [(7, .junk), (9, (.atm (.v 0))), (18, .junk), (34, .junk), (35, .junk), (36, .junk), (37, .junk), (38, .junk), (39, .junk)], [(0, ⟨false, false, 59, 2, (.c (.sl [])), [[(.atm (.v 1)), (.atm (.v 2))]]⟩)], 4, []⟩) (.s none .z (.b (.s none .z (.c .z (.s (some ⟨1, [(7, .junk), (18, .junk), (34, .junk), (35, .junk), (36, .junk), (37, .junk), (38, .junk), (39, .junk), (40, .junk), (41, .junk), (42, .junk), (43, .junk), (44, (.atm (.v 0)))], [], 4, []⟩) .z .z))))) (.s none (.s none .z (.b (.l ⟨4, [(10, (.atm (.v 0)))], [(0, ⟨false, false, 59, 2, (.c (.sl [])), [[(.atm (.v 1)), (.atm (.v 2))]]⟩), (4, ⟨false, true, 24, 3, (.v 3), []⟩)], 5, [⟨some (3, 0, 2), 0, 24, 3⟩]⟩ .z))) .z)))))))
def ir10p0 : IR :=
 (.op (.bin .lss false) [(.v 14), (.v 11)]
 (.ite (.v 18)
  (.op (.bin .sub false) [(.v 1), (.c (.int .i64 1))]
  (.call 10 5 false [] [(.v 0), (.v 19), (.v 15), (.v 16)]
  (.op (.mk 3 1) [(.v 20), (.v 21), (.v 22)]
  (.op (.app 3 48) [(.v 17), (.v 25)]
  (.op (.bin .add false) [(.v 14), (.c (.int .i64 1))]
  (.jump 0 [(.v 27), (.v 23), (.v 24), (.v 26)]))))))
 (.ret [(.v 10), (.c (.str [])), (.v 17), (.v 15), (.v 16)])))
def ir10p1 : IR :=
 (.loop 4 [(.c (.int .i64 0)), (.v 12), (.v 13), (.c (.sl []))] ir10p0)
def ir10p2 : IR :=
 (.ite (.v 12)
  (.call 27 3 false [] [(.c (.int .i64 2)), (.v 5), (.v 6)]
  (.op (.bin .add false) [(.c (.int .i64 2)), (.v 13)]
  (.jump 0 [(.v 16), (.v 14), (.v 15)])))
 (.jump 0 [(.c (.int .i64 2)), (.v 5), (.v 6)]))
def ir10p3 : IR :=
 (.ite (.v 7)
  (.op (.bin .eql false) [(.v 4), (.c (.int .i64 0))]
  (.ite (.v 8)
   (.call 27 3 false [] [(.c (.int .i64 2)), (.v 5), (.v 6)]
   (.op (.bin .add false) [(.c (.int .i64 1)), (.v 9)]
   (.ret [(.v 12), (.c (.str [])), (.c (.sl [])), (.v 10), (.v 11)])))
  (.call 27 3 false [] [(.v 0), (.v 5), (.v 6)]
  (.op (.bin .add false) [(.c (.int .i64 97)), (.v 9)]
  (.op (.conv .u8) [(.v 12)]
  (.op (.mk 1 1) [(.v 13)]
  (.op .toS [(.v 14)]
  (.ret [(.c (.int .i64 3)), (.v 15), (.c (.sl [])), (.v 10), (.v 11)]))))))))
 (.op (.mk 1 8) [(.c (.int .i64 4)), (.c (.int .i64 4)), (.c (.int .i64 5)), (.c (.int .i64 5)), (.c (.int .i64 6)), (.c (.int .i64 6)), (.c (.int .i64 7)), (.c (.int .i64 8))]
 (.op (.bin .sub false) [(.v 4), (.c (.int .i64 4))]
 (.op .chk [(.v 8), (.v 9)]
 (.op (.get 0 1) [(.v 8), (.v 9)]
 (.letj 3
  (.op (.bin .eql false) [(.v 10), (.c (.int .i64 4))]
  (.ite (.v 11)
   (.jump 0 [(.c (.int .i64 1)), (.v 5), (.v 6)])
  (.letj 1
   (.op (.bin .eql false) [(.v 10), (.c (.int .i64 5))]
   (.ite (.v 12)
    (.jump 1 [(.c (.bool true))])
   (.op (.bin .eql false) [(.v 10), (.c (.int .i64 6))]
   (.jump 1 [(.v 13)]))))
  ir10p2)))
 ir10p1))))))
def ir10 : IR :=
 (.call 27 3 false [] [(.c (.int .i64 12)), (.v 2), (.v 3)]
 (.letj 1
  (.op (.bin .lss false) [(.v 1), (.c (.int .i64 1))]
  (.ite (.v 7)
   (.jump 0 [(.c (.bool true))])
  (.op (.bin .lss false) [(.v 4), (.c (.int .i64 4))]
  (.jump 0 [(.v 8)]))))
 ir10p3))
theorem rd10 : readFn T SG sigs 3000 sg10 Tryd.f13 an10 = some ir10 := by kernel_rfl
/- 11:deliberationkeep.Src).SpoiltFormula -/
def an11 : Ann := (.s none .z (.s none .z (.s none (.s (some ⟨3, [(1, .junk), (3, .junk), (7, .junk), (8, .junk), (9, .junk), (10, .junk), (12, .junk), (13, .junk), (14, .junk), (15, .junk), (24, (.atm (.v 0)))], [(0, ⟨false, false, 59, 2, (.c (.sl [])), [[(.atm (.v 1)), (.atm (.v 2))]]⟩)], 13, []⟩) .z .z) (.s (some ⟨6, [(0, .junk), (24, .junk)], [(0, ⟨false, false, 59, 2, (.c (.sl [])), [[(.atm (.v 0)), (.atm (.v 1))]]⟩), (7, ⟨true, true, 24, 3, (.v 2), []⟩), (12, ⟨false, false, 24, 3, (.c (.sl [])), [[(.atm (.v 3)), (.atm (.v 4)), (.atm (.v 5))]]⟩)], 13, []⟩) .z .z))))
def ir11p0 : IR :=
 (.ret [(.v 12), (.v 13), (.v 14), (.v 9), (.v 10)])
def ir11p1 : IR :=
 (.ite (.v 6)
  (.op .lenL [(.v 5)]
  (.call 27 3 false [] [(.v 9), (.v 7), (.v 8)]
  (.op .chk [(.v 5), (.v 10)]
  (.op (.get 0 3) [(.v 5), (.v 10)]
  (.call 11 5 false [] [(.v 13), (.v 14), (.v 15), (.v 11), (.v 12)]
  (.op .chk [(.v 5), (.v 10)]
  (.op (.set 0 3) [(.v 5), (.v 10), (.v 16), (.v 17), (.v 18)]
  (.ret [(.v 0), (.v 1), (.v 21), (.v 19), (.v 20)]))))))))
 (.letj 6
  (.call 27 3 false [] [(.c (.int .i64 5)), (.v 7), (.v 8)]
  (.op (.bin .eql false) [(.v 9), (.c (.int .i64 0))]
  (.ite (.v 12)
   (.call 27 3 false [] [(.c (.int .i64 11)), (.v 10), (.v 11)]
   (.op (.bin .sub false) [(.v 13), (.c (.int .i64 1))]
   (.jump 0 [(.v 14), (.v 15), (.v 5), (.v 16), (.v 1), (.v 5)])))
  (.op (.bin .eql false) [(.v 9), (.c (.int .i64 1))]
  (.ite (.v 13)
   (.op (.mk 1 4) [(.c (.str [97])), (.c (.str [65])), (.c (.str [])), (.c (.str [95]))]
   (.call 37 3 false [] [(.v 14), (.v 10), (.v 11)]
   (.op (.bin .add false) [(.v 1), (.v 15)]
   (.jump 0 [(.v 16), (.v 17), (.v 5), (.v 0), (.v 18), (.v 5)]))))
  (.op (.bin .eql false) [(.v 9), (.c (.int .i64 2))]
  (.ite (.v 14)
   (.call 10 5 false [] [(.c (.int .i64 3)), (.c (.int .i64 1)), (.v 10), (.v 11)]
   (.op (.mk 3 1) [(.v 15), (.v 16), (.v 17)]
   (.op (.app 3 48) [(.v 5), (.v 20)]
   (.jump 0 [(.v 18), (.v 19), (.v 21), (.v 0), (.v 1), (.v 21)]))))
  (.op (.bin .eql false) [(.v 9), (.c (.int .i64 3))]
  (.ite (.v 15)
   (.op .lenL [(.v 5)]
   (.op (.bin .gtr false) [(.v 16), (.c (.int .i64 0))]
   (.ite (.v 17)
    (.op .lenL [(.v 5)]
    (.op (.subL 3) [(.v 5), (.c (.int .i64 1)), (.v 18)]
    (.jump 0 [(.v 10), (.v 11), (.v 5), (.v 0), (.v 1), (.v 19)])))
   (.jump 0 [(.v 10), (.v 11), (.v 5), (.v 0), (.v 1), (.v 5)]))))
  (.jump 0 [(.v 10), (.v 11), (.v 5), (.v 0), (.c (.str [])), (.v 5)]))))))))))
 ir11p0))
def ir11 : IR :=
 (.op (.app 3 48) [(.c (.sl [])), (.v 2)]
 (.letj 3
  (.op .lenL [(.v 5)]
  (.op (.bin .gtr false) [(.v 6), (.c (.int .i64 0))]
  (.ite (.v 7)
   (.call 27 3 false [] [(.c (.int .i64 3)), (.v 3), (.v 4)]
   (.op (.bin .gtr false) [(.v 8), (.c (.int .i64 0))]
   (.jump 0 [(.v 11), (.v 9), (.v 10)])))
  (.jump 0 [(.c (.bool false)), (.v 3), (.v 4)]))))
 ir11p1))
theorem rd11 : readFn T SG sigs 3000 sg11 Tryd.f14 an11 = some ir11 := by kernel_rfl
/- 12:formula.Format: not read -/
/- 13:deliberationref02.Format -/
def an13 : Ann := .z
def ir13 : IR :=
 (.call 19 1 false [] [(.v 0), (.v 1), (.v 2)]
 (.op (.bin .neq false) [(.v 3), (.c (.int .i64 0))]
 (.ite (.v 4)
  (.ret [(.c (.str [])), (.v 3)])
 (.call 38 1 false [] [(.v 0), (.v 1), (.v 2)]
 (.op .lenS [(.v 5)]
 (.op (.bin .gtr false) [(.v 6), (.c (.int .i64 4096))]
 (.ite (.v 7)
  (.ret [(.c (.str [])), (.c (.int .i64 2))])
 (.ret [(.v 5), (.c (.int .i64 0))]))))))))
theorem rd13 : readFn T SG sigs 3000 sg13 Tryd.f16 an13 = some ir13 := by kernel_rfl
/- 14:formula.Size -/
def an14 : Ann := (.s none .z (.s none .z (.s none (.s none .z (.b (.l ⟨2, [(0, .junk), (1, .junk), (2, .junk), (3, (.atm (.v 0))), (6, .junk), (9, (.atm (.v 1)))], [], 1, []⟩ .z))) .z)))
def ir14p0 : IR :=
 (.op (.bin .lss false) [(.v 5), (.v 3)]
 (.ite (.v 6)
  (.op (.row 3) [(.v 2), (.v 5)]
  (.call 14 1 false [] [(.v 7), (.v 8), (.v 9)]
  (.op (.bin .add false) [(.v 4), (.v 10)]
  (.op (.bin .add false) [(.v 5), (.c (.int .i64 1))]
  (.jump 0 [(.v 11), (.v 12)])))))
 (.ret [(.v 4)])))
def ir14 : IR :=
 (.op .lenL [(.v 2)]
 (.loop 2 [(.c (.int .i64 1)), (.c (.int .i64 0))] ir14p0))
theorem rd14 : readFn T SG sigs 3000 sg14 Tryd.f17 an14 = some ir14 := by kernel_rfl
/- 15:deliberationref02.Size -/
def an15 : Ann := (.s none .z (.s none .z (.s none (.s none .z (.b (.l ⟨2, [(0, .junk), (2, .junk), (3, (.atm (.v 0))), (4, (.atm (.v 1)))], [], 1, []⟩ .z))) .z)))
def ir15p0 : IR :=
 (.op .lenL [(.v 2)]
 (.op (.bin .lss false) [(.v 4), (.v 5)]
 (.ite (.v 6)
  (.op (.row 3) [(.v 2), (.v 4)]
  (.call 15 1 false [] [(.v 7), (.v 8), (.v 9)]
  (.op (.bin .add false) [(.v 3), (.v 10)]
  (.op (.bin .add false) [(.v 4), (.c (.int .i64 1))]
  (.jump 0 [(.v 11), (.v 12)])))))
 (.ret [(.v 3)]))))
def ir15 : IR :=
 (.loop 2 [(.c (.int .i64 1)), (.c (.int .i64 0))] ir15p0)
theorem rd15 : readFn T SG sigs 3000 sg15 Tryd.f18 an15 = some ir15 := by kernel_rfl
/- 16:formula.Depth -/
def an16 : Ann := (.s none .z (.s none .z (.s none (.s none .z (.b (.l ⟨2, [(0, .junk), (1, .junk), (2, .junk), (3, (.atm (.v 0))), (6, .junk), (9, (.atm (.v 1)))], [], 1, []⟩ .z))) .z)))
def ir16p0 : IR :=
 (.op (.bin .lss false) [(.v 5), (.v 3)]
 (.ite (.v 6)
  (.op (.row 3) [(.v 2), (.v 5)]
  (.call 16 1 false [] [(.v 7), (.v 8), (.v 9)]
  (.op (.bin .add false) [(.c (.int .i64 1)), (.v 10)]
  (.op .max [(.v 4), (.v 11)]
  (.op (.bin .add false) [(.v 5), (.c (.int .i64 1))]
  (.jump 0 [(.v 12), (.v 13)]))))))
 (.ret [(.v 4)])))
def ir16 : IR :=
 (.op .lenL [(.v 2)]
 (.loop 2 [(.c (.int .i64 0)), (.c (.int .i64 0))] ir16p0))
theorem rd16 : readFn T SG sigs 3000 sg16 Tryd.f19 an16 = some ir16 := by kernel_rfl
/- 17:deliberationref02.Depth -/
def an17 : Ann := (.s none .z (.s none .z (.s none (.s none .z (.b (.l ⟨2, [(0, .junk), (2, .junk), (3, (.atm (.v 0))), (4, (.atm (.v 1)))], [], 1, []⟩ .z))) .z)))
def ir17p0 : IR :=
 (.op .lenL [(.v 2)]
 (.op (.bin .lss false) [(.v 4), (.v 5)]
 (.ite (.v 6)
  (.op (.row 3) [(.v 2), (.v 4)]
  (.call 17 1 false [] [(.v 7), (.v 8), (.v 9)]
  (.op (.bin .add false) [(.c (.int .i64 1)), (.v 10)]
  (.op .max [(.v 3), (.v 11)]
  (.op (.bin .add false) [(.v 4), (.c (.int .i64 1))]
  (.jump 0 [(.v 12), (.v 13)]))))))
 (.ret [(.v 3)]))))
def ir17 : IR :=
 (.loop 2 [(.c (.int .i64 0)), (.c (.int .i64 0))] ir17p0)
theorem rd17 : readFn T SG sigs 3000 sg17 Tryd.f20 an17 = some ir17 := by kernel_rfl
/- 18:formula.Validate -/
def an18 : Ann := (.s none .z (.s none (.b (.s (some ⟨1, [(0, .junk), (2, .junk), (3, (.atm (.v 0)))], [], 1, []⟩) .z .z)) .z))
def ir18p0 : IR :=
 (.ite (.v 3)
  (.ret [(.c (.int .i64 2))])
 (.call 39 1 false [] [(.v 0), (.v 1), (.v 2)]
 (.op (.un .not) [(.v 4)]
 (.ite (.v 5)
  (.ret [(.c (.int .i64 4))])
 (.call 40 1 false [] [(.v 0), (.v 1), (.v 2)]
 (.op (.un .not) [(.v 6)]
 (.ite (.v 7)
  (.ret [(.c (.int .i64 3))])
 (.ret [(.c (.int .i64 0))]))))))))
def ir18 : IR :=
 (.letj 1
  (.call 14 1 false [] [(.v 0), (.v 1), (.v 2)]
  (.op (.bin .gtr false) [(.v 3), (.c (.int .i64 600))]
  (.ite (.v 4)
   (.jump 0 [(.c (.bool true))])
  (.call 16 1 false [] [(.v 0), (.v 1), (.v 2)]
  (.op (.bin .gtr false) [(.v 5), (.c (.int .i64 20))]
  (.jump 0 [(.v 6)]))))))
 ir18p0)
theorem rd18 : readFn T SG sigs 3000 sg18 Tryd.f21 an18 = some ir18 := by kernel_rfl
/- 19:deliberationref02.Validate -/
def an19 : Ann := (.s none .z (.s none (.s (some ⟨1, [(0, .junk), (2, .junk), (10, (.atm (.v 0)))], [], 1, []⟩) .z .z) .z))
def ir19p0 : IR :=
 (.ite (.v 3)
  (.ret [(.c (.int .i64 2))])
 (.call 41 1 false [] [(.v 0), (.v 1), (.v 2)]
 (.op (.un .not) [(.v 4)]
 (.ite (.v 5)
  (.ret [(.c (.int .i64 4))])
 (.call 42 1 false [] [(.v 0), (.v 1), (.v 2)]
 (.op (.un .not) [(.v 6)]
 (.ite (.v 7)
  (.ret [(.c (.int .i64 3))])
 (.ret [(.c (.int .i64 0))]))))))))
def ir19 : IR :=
 (.letj 1
  (.call 15 1 false [] [(.v 0), (.v 1), (.v 2)]
  (.op (.bin .gtr false) [(.v 3), (.c (.int .i64 600))]
  (.ite (.v 4)
   (.jump 0 [(.c (.bool true))])
  (.call 17 1 false [] [(.v 0), (.v 1), (.v 2)]
  (.op (.bin .gtr false) [(.v 5), (.c (.int .i64 20))]
  (.jump 0 [(.v 6)]))))))
 ir19p0)
theorem rd19 : readFn T SG sigs 3000 sg19 Tryd.f22 an19 = some ir19 := by kernel_rfl
/- 20:deliberationlaw02.awake -/
def an20 : Ann := .z
def ir20 : IR :=
 (.call 21 5 false [] [(.c (.str [97, 38, 98, 32, 45, 62, 32, 40, 99, 41]))]
 (.call 12 2 false [] [(.v 0), (.v 1), (.v 2)]
 (.call 21 5 false [] [(.c (.str [97, 32, 60, 45, 62, 32, 98, 32, 60, 45, 62, 32, 99]))]
 (.call 21 5 false [] [(.c (.str [97, 32, 38]))]
 (.op (.bin .eql false) [(.v 4), (.c (.int .i64 0))]
 (.ite (.v 17)
  (.op (.bin .eql false) [(.v 6), (.c (.int .i64 0))]
  (.ite (.v 18)
   (.op (.bin .eql false) [(.v 5), (.c (.str [97, 32, 38, 32, 98, 32, 45, 62, 32, 99]))]
   (.ite (.v 19)
    (.op (.bin .eql false) [(.v 0), (.c (.int .i64 7))]
    (.ite (.v 20)
     (.op (.bin .eql false) [(.v 11), (.c (.int .i64 3))]
     (.ite (.v 21)
      (.op (.bin .eql false) [(.v 10), (.c (.int .i64 8))]
      (.ite (.v 22)
       (.op (.bin .eql false) [(.v 16), (.c (.int .i64 3))]
       (.ite (.v 23)
        (.op (.bin .eql false) [(.v 15), (.c (.int .i64 3))]
        (.ite (.v 24)
         (.call 14 1 false [] [(.v 0), (.v 1), (.v 2)]
         (.op (.bin .eql false) [(.v 25), (.c (.int .i64 5))]
         (.ite (.v 26)
          (.call 16 1 false [] [(.v 0), (.v 1), (.v 2)]
          (.op (.bin .eql false) [(.v 27), (.c (.int .i64 2))]
          (.ret [(.v 28)])))
         (.ret [(.c (.bool false))]))))
        (.ret [(.c (.bool false))])))
       (.ret [(.c (.bool false))])))
      (.ret [(.c (.bool false))])))
     (.ret [(.c (.bool false))])))
    (.ret [(.c (.bool false))])))
   (.ret [(.c (.bool false))])))
  (.ret [(.c (.bool false))])))
 (.ret [(.c (.bool false))])))))))
theorem rd20 : readFn T SG sigs 3000 sg20 Tryd.f23 an20 = some ir20 := by kernel_rfl
/- 21:formula.Parse -/
def an21 : Ann := (.s none .z (.s none .z (.s none .z (.s none .z (.s (some ⟨4, [(0, .junk), (3, .junk), (4, .junk), (7, .junk), (8, .junk), (9, .junk), (11, .junk), (12, .junk), (13, .junk), (14, .junk), (15, .junk)], [(1, ⟨false, false, 70, 4, (.c (.sl [])), [[(.atm (.v 0)), (.atm (.v 1)), (.atm (.v 2)), (.atm (.v 3))]]⟩)], 3, []⟩) .z (.s none .z (.s none (.s (some ⟨1, [(5, .junk), (21, .junk), (22, .junk), (23, .junk), (24, .junk), (25, .junk), (44, (.atm (.v 0)))], [], 3, []⟩) .z .z) .z)))))))
def ir21p0 : IR :=
 (.ite (.v 15)
  (.ret [(.c (.int .i64 0)), (.c (.str [])), (.c (.sl [])), (.c (.int .i64 0)), (.c (.int .i64 2))])
 (.ret [(.v 3), (.v 4), (.v 5), (.c (.int .i64 0)), (.c (.int .i64 0))]))
def ir21p1 : IR :=
 (.op (.bin .geq false) [(.v 12), (.c (.int .i64 0))]
 (.ite (.v 14)
  (.ret [(.c (.int .i64 0)), (.c (.str [])), (.c (.sl [])), (.v 12), (.c (.int .i64 3))])
 (.letj 1
  (.ite (.v 13)
   (.jump 0 [(.c (.bool true))])
  (.call 14 1 false [] [(.v 3), (.v 4), (.v 5)]
  (.op (.bin .gtr false) [(.v 15), (.c (.int .i64 600))]
  (.ite (.v 16)
   (.jump 0 [(.c (.bool true))])
  (.call 16 1 false [] [(.v 3), (.v 4), (.v 5)]
  (.op (.bin .gtr false) [(.v 17), (.c (.int .i64 20))]
  (.jump 0 [(.v 18)])))))))
 ir21p0)))
def ir21 : IR :=
 (.op .lenS [(.v 0)]
 (.op (.bin .gtr false) [(.v 1), (.c (.int .i64 4096))]
 (.ite (.v 2)
  (.ret [(.c (.int .i64 0)), (.c (.str [])), (.c (.sl [])), (.c (.int .i64 0)), (.c (.int .i64 2))])
 (.call 43 7 false [] [(.v 0), (.c (.int .i64 0)), (.c (.int .i64 (-1))), (.c (.bool false))]
 (.letj 4
  (.call 44 5 false [] [(.c (.str [])), (.v 6), (.v 7), (.v 8), (.v 9)]
  (.op (.un .not) [(.v 10)]
  (.ite (.v 15)
   (.call 45 7 false [] [(.v 11), (.v 12), (.v 13), (.v 14)]
   (.jump 0 [(.v 19), (.v 20), (.v 21), (.v 22)]))
  (.jump 0 [(.v 11), (.v 12), (.v 13), (.v 14)]))))
 ir21p1)))))
theorem rd21 : readFn T SG sigs 3000 sg21 Tryd.f27 an21 = some ir21 := by kernel_rfl
/- 22:deliberationref02.Same -/
def an22 : Ann := (.s none .z (.s none (.s (some ⟨1, [(0, .junk), (1, .junk), (4, .junk), (26, (.atm (.v 0)))], [], 2, []⟩) .z .z) (.s none (.s none .z (.b (.l ⟨1, [(5, (.atm (.v 0))), (26, .junk)], [], 2, []⟩ .z))) .z)))
def ir22p0 : IR :=
 (.op .lenL [(.v 2)]
 (.op (.bin .lss false) [(.v 7), (.v 8)]
 (.ite (.v 9)
  (.op (.row 3) [(.v 2), (.v 7)]
  (.op (.row 3) [(.v 5), (.v 7)]
  (.call 22 1 false [] [(.v 10), (.v 11), (.v 12), (.v 13), (.v 14), (.v 15)]
  (.op (.un .not) [(.v 16)]
  (.ite (.v 17)
   (.ret [(.c (.bool false))])
  (.op (.bin .add false) [(.v 7), (.c (.int .i64 1))]
  (.jump 0 [(.v 18)])))))))
 (.ret [(.c (.bool true))]))))
def ir22p1 : IR :=
 (.ite (.v 6)
  (.ret [(.c (.bool false))])
 (.loop 1 [(.c (.int .i64 0))] ir22p0))
def ir22 : IR :=
 (.letj 1
  (.op (.bin .neq false) [(.v 0), (.v 3)]
  (.ite (.v 6)
   (.jump 0 [(.c (.bool true))])
  (.op (.bin .neq false) [(.v 1), (.v 4)]
  (.ite (.v 7)
   (.jump 0 [(.c (.bool true))])
  (.op .lenL [(.v 2)]
  (.op .lenL [(.v 5)]
  (.op (.bin .neq false) [(.v 8), (.v 9)]
  (.jump 0 [(.v 10)]))))))))
 ir22p1)
theorem rd22 : readFn T SG sigs 3000 sg22 Tryd.f29 an22 = some ir22 := by kernel_rfl
/- 23:deliberationkeep.Mod -/
def an23 : Ann := (.s none .z (.s none .z (.s none .z (.s (some ⟨1, [(0, (.atm (.v 0))), (1, .junk), (4, .junk), (5, .junk), (6, .junk), (7, .junk), (8, .junk), (9, .junk)], [], 0, []⟩) .z .z))))
def ir23p0 : IR :=
 (.ret [(.v 4)])
def ir23 : IR :=
 (.op (.bin .lss false) [(.v 1), (.c (.int .i64 1))]
 (.ite (.v 2)
  (.ret [(.c (.int .i64 0))])
 (.op (.bin .rem false) [(.v 0), (.v 1)]
 (.letj 1
  (.op (.bin .lss false) [(.v 3), (.c (.int .i64 0))]
  (.ite (.v 4)
   (.op (.bin .add false) [(.v 3), (.v 1)]
   (.jump 0 [(.v 5)]))
  (.jump 0 [(.v 3)])))
 ir23p0))))
theorem rd23 : readFn T SG sigs 3000 sg23 Tryd.f24 an23 = some ir23 := by kernel_rfl
/- 24:deliberationlaw02.node -/
def an24 : Ann := .z
def ir24 : IR :=
 (.ret [(.v 0), (.c (.str [])), (.v 1)])
theorem rd24 : readFn T SG sigs 3000 sg24 Tryd.f30 an24 = some ir24 := by kernel_rfl
/- 25:deliberationkeep.Src).Yes -/
def an25 : Ann := (.s none .z (.s none .z (.s none (.s none .z (.b (.l ⟨4, [(4, .junk), (6, (.atm (.v 0)))], [(0, ⟨false, false, 59, 2, (.c (.sl [])), [[(.atm (.v 1)), (.atm (.v 2))]]⟩), (1, ⟨false, true, 9, 1, (.v 3), []⟩)], 2, [⟨none, 5, 9, 1⟩]⟩ (.s none .z (.s (some ⟨3, [(7, .junk), (8, .junk), (9, .junk)], [(0, ⟨false, false, 59, 2, (.c (.sl [])), [[(.atm (.v 0)), (.atm (.v 1))]]⟩), (1, ⟨false, true, 9, 1, (.v 2), []⟩)], 2, []⟩) .z .z))))) .z)))
def ir25p0 : IR :=
 (.op (.bin .add false) [(.v 3), (.c (.int .i64 1))]
 (.jump 0 [(.v 11), (.v 8), (.v 9), (.v 10)]))
def ir25p1 : IR :=
 (.op (.bin .lss false) [(.v 3), (.v 0)]
 (.ite (.v 7)
  (.letj 3
   (.call 27 3 false [] [(.c (.int .i64 2)), (.v 4), (.v 5)]
   (.op (.bin .eql false) [(.v 8), (.c (.int .i64 1))]
   (.ite (.v 11)
    (.op (.bin .add false) [(.c (.int .i64 97)), (.v 3)]
    (.op (.conv .u8) [(.v 12)]
    (.op (.mk 1 1) [(.v 13)]
    (.op .toS [(.v 14)]
    (.op (.mk 1 1) [(.v 15)]
    (.op (.app 1 16) [(.v 6), (.v 16)]
    (.jump 1 [(.v 9), (.v 10), (.v 17)])))))))
   (.jump 1 [(.v 9), (.v 10), (.v 6)]))))
  ir25p0)
 (.ret [(.v 6), (.v 4), (.v 5)])))
def ir25 : IR :=
 (.loop 4 [(.c (.int .i64 0)), (.v 1), (.v 2), (.c (.sl []))] ir25p1)
theorem rd25 : readFn T SG sigs 3000 sg25 Tryd.f31 an25 = some ir25 := by kernel_rfl
/- 26:formula.Eval -/
def an26 : Ann := (.s none .z (.s none (.s (some ⟨1, [(0, .junk), (4, .junk), (12, (.atm (.v 0)))], [], 1, []⟩) .z .z) .z))
def ir26p0 : IR :=
 (.ite (.v 4)
  (.ret [(.c (.bool false))])
 (.call 46 1 false [] [(.v 0), (.v 1), (.v 2), (.v 3)]
 (.ret [(.v 5)])))
def ir26 : IR :=
 (.letj 1
  (.call 39 1 false [] [(.v 0), (.v 1), (.v 2)]
  (.op (.un .not) [(.v 4)]
  (.ite (.v 5)
   (.jump 0 [(.c (.bool true))])
  (.call 40 1 false [] [(.v 0), (.v 1), (.v 2)]
  (.op (.un .not) [(.v 6)]
  (.jump 0 [(.v 7)]))))))
 ir26p0)
theorem rd26 : readFn T SG sigs 3000 sg26 Tryd.f32 an26 = some ir26 := by kernel_rfl
/- 27:deliberationkeep.Src).N -/
def an27 : Ann := .z
def ir27 : IR :=
 (.call 47 3 false [] [(.v 1), (.v 2)]
 (.call 23 1 false [] [(.v 3), (.v 0)]
 (.ret [(.v 6), (.v 4), (.v 5)])))
theorem rd27 : readFn T SG sigs 3000 sg27 Tryd.f25 an27 = some ir27 := by kernel_rfl
/- 28:formula.Substitute -/
def an28 : Ann := .z
def ir28 : IR :=
 (.call 48 7 false [] [(.v 0), (.v 1), (.v 2), (.v 3), (.v 4), (.v 5), (.v 6)]
 (.ret [(.v 7), (.v 8), (.v 9)]))
theorem rd28 : readFn T SG sigs 3000 sg28 Tryd.f33 an28 = some ir28 := by kernel_rfl
/- 29:formula.Atoms: not read -/
/- 30:deliberationkeep.Nodes -/
def an30 : Ann := (.s none .z (.s none .z (.s none (.s none .z (.b (.l ⟨2, [(0, .junk), (4, .junk), (5, (.atm (.v 0))), (7, .junk), (8, .junk), (10, (.atm (.v 1)))], [], 1, []⟩ .z))) .z)))
def ir30p0 : IR :=
 (.op (.bin .lss false) [(.v 6), (.v 4)]
 (.ite (.v 7)
  (.op (.bin .gtr false) [(.v 5), (.v 3)]
  (.ite (.v 8)
   (.ret [(.v 5)])
  (.op (.row 3) [(.v 2), (.v 6)]
  (.op (.bin .sub false) [(.v 3), (.v 5)]
  (.call 30 1 false [] [(.v 9), (.v 10), (.v 11), (.v 12)]
  (.op (.bin .add false) [(.v 5), (.v 13)]
  (.op (.bin .add false) [(.v 6), (.c (.int .i64 1))]
  (.jump 0 [(.v 14), (.v 15)]))))))))
 (.ret [(.v 5)])))
def ir30 : IR :=
 (.op .lenL [(.v 2)]
 (.loop 2 [(.c (.int .i64 1)), (.c (.int .i64 0))] ir30p0))
theorem rd30 : readFn T SG sigs 3000 sg30 Tryd.f35 an30 = some ir30 := by kernel_rfl
/- 31:deliberationref02.Atoms -/
def an31 : Ann := .z
def ir31 : IR :=
 (.call 49 1 false [] [(.c (.sl [])), (.v 0), (.v 1), (.v 2)]
 (.ret [(.v 3)]))
theorem rd31 : readFn T SG sigs 3000 sg31 Tryd.f36 an31 = some ir31 := by kernel_rfl
/- 32:deliberationref02.Eval -/
def an32 : Ann := .z
def ir32 : IR :=
 (.call 41 1 false [] [(.v 0), (.v 1), (.v 2)]
 (.ite (.v 4)
  (.call 42 1 false [] [(.v 0), (.v 1), (.v 2)]
  (.ite (.v 5)
   (.call 50 1 false [] [(.v 0), (.v 1), (.v 2), (.v 3)]
   (.ret [(.v 6)]))
  (.ret [(.c (.bool false))])))
 (.ret [(.c (.bool false))])))
theorem rd32 : readFn T SG sigs 3000 sg32 Tryd.f37 an32 = some ir32 := by kernel_rfl
/- 33:formula.Same -/
def an33 : Ann := .z
def ir33 : IR :=
 (.op (.bin .eql false) [(.v 0), (.v 3)]
 (.ite (.v 6)
  (.op (.bin .eql false) [(.v 1), (.v 4)]
  (.ite (.v 7)
   (.call 51 1 false [] [(.v 2), (.v 5)]
   (.ret [(.v 8)]))
  (.ret [(.c (.bool false))])))
 (.ret [(.c (.bool false))])))
theorem rd33 : readFn T SG sigs 3000 sg33 Tryd.f38 an33 = some ir33 := by kernel_rfl
/- 34:deliberationref02.Substitute -/
def an34 : Ann := (.s none .z (.s none (.s (some ⟨1, [(0, .junk), (2, .junk), (17, (.atm (.v 0)))], [], 3, []⟩) .z .z) (.s none .z (.s none (.s none .z (.b (.l ⟨2, [(8, (.atm (.v 0))), (17, .junk), (25, .junk), (26, .junk), (27, .junk), (28, .junk), (29, .junk)], [(4, ⟨false, true, 24, 3, (.v 1), []⟩)], 5, [⟨some (3, 0, 2), 0, 24, 3⟩]⟩ .z))) .z))))
def ir34p0 : IR :=
 (.op .lenL [(.v 2)]
 (.op (.bin .lss false) [(.v 8), (.v 10)]
 (.ite (.v 11)
  (.op (.row 3) [(.v 2), (.v 8)]
  (.call 34 3 false [] [(.v 12), (.v 13), (.v 14), (.v 3), (.v 4), (.v 5), (.v 6)]
  (.op (.mk 3 1) [(.v 15), (.v 16), (.v 17)]
  (.op (.app 3 48) [(.v 9), (.v 18)]
  (.op (.bin .add false) [(.v 8), (.c (.int .i64 1))]
  (.jump 0 [(.v 20), (.v 19)]))))))
 (.ret [(.v 0), (.v 1), (.v 9)]))))
def ir34p1 : IR :=
 (.ite (.v 7)
  (.op (.bin .eql false) [(.v 1), (.v 3)]
  (.ite (.v 8)
   (.call 52 3 false [] [(.v 4), (.v 5), (.v 6)]
   (.ret [(.v 9), (.v 10), (.v 11)]))
  (.ret [(.v 0), (.v 1), (.v 2)])))
 (.loop 2 [(.c (.int .i64 0)), (.c (.sl []))] ir34p0))
def ir34 : IR :=
 (.letj 1
  (.op (.bin .eql false) [(.v 0), (.c (.int .i64 3))]
  (.ite (.v 7)
   (.op .lenL [(.v 2)]
   (.op (.bin .eql false) [(.v 8), (.c (.int .i64 0))]
   (.jump 0 [(.v 9)])))
  (.jump 0 [(.c (.bool false))])))
 ir34p1)
theorem rd34 : readFn T SG sigs 3000 sg34 Tryd.f39 an34 = some ir34 := by kernel_rfl
/- 35:deliberationkeep.Levels -/
def an35 : Ann := (.s none .z (.s none .z (.s none .z (.s none (.s none .z (.b (.l ⟨2, [(0, .junk), (4, .junk), (5, (.atm (.v 0))), (7, .junk), (8, .junk), (9, .junk), (10, .junk), (12, (.atm (.v 1)))], [], 1, []⟩ .z))) .z))))
def ir35p0 : IR :=
 (.op (.bin .lss false) [(.v 7), (.v 5)]
 (.ite (.v 8)
  (.op (.row 3) [(.v 2), (.v 7)]
  (.op (.bin .sub false) [(.v 3), (.c (.int .i64 1))]
  (.call 35 1 false [] [(.v 9), (.v 10), (.v 11), (.v 12)]
  (.op (.bin .add false) [(.c (.int .i64 1)), (.v 13)]
  (.op .max [(.v 6), (.v 14)]
  (.op (.bin .add false) [(.v 7), (.c (.int .i64 1))]
  (.jump 0 [(.v 15), (.v 16)])))))))
 (.ret [(.v 6)])))
def ir35 : IR :=
 (.op (.bin .lss false) [(.v 3), (.c (.int .i64 0))]
 (.ite (.v 4)
  (.ret [(.c (.int .i64 0))])
 (.op .lenL [(.v 2)]
 (.loop 2 [(.c (.int .i64 0)), (.c (.int .i64 0))] ir35p0))))
theorem rd35 : readFn T SG sigs 3000 sg35 Tryd.f40 an35 = some ir35 := by kernel_rfl
/- 36:deliberationkeep.short -/
def an36 : Ann := (.s none .z (.s none .z (.s none (.s none .z (.b (.l ⟨1, [(0, .junk), (2, .junk), (4, .junk), (5, .junk), (6, .junk), (7, .junk), (8, .junk), (9, .junk), (11, (.atm (.v 0)))], [], 1, []⟩ .z))) .z)))
def ir36p0 : IR :=
 (.op (.bin .lss false) [(.v 6), (.v 5)]
 (.ite (.v 7)
  (.op (.row 3) [(.v 2), (.v 6)]
  (.call 36 1 false [] [(.v 8), (.v 9), (.v 10)]
  (.op (.un .not) [(.v 11)]
  (.ite (.v 12)
   (.ret [(.c (.bool false))])
  (.op (.bin .add false) [(.v 6), (.c (.int .i64 1))]
  (.jump 0 [(.v 13)]))))))
 (.ret [(.c (.bool true))])))
def ir36 : IR :=
 (.op .lenS [(.v 1)]
 (.op (.bin .gtr false) [(.v 3), (.c (.int .i64 100))]
 (.ite (.v 4)
  (.ret [(.c (.bool false))])
 (.op .lenL [(.v 2)]
 (.loop 1 [(.c (.int .i64 0))] ir36p0)))))
theorem rd36 : readFn T SG sigs 3000 sg36 Tryd.f41 an36 = some ir36 := by kernel_rfl
/- 37:deliberationkeep.Src).Text -/
def an37 : Ann := .z
def ir37 : IR :=
 (.op .lenL [(.v 0)]
 (.call 27 3 false [] [(.v 3), (.v 1), (.v 2)]
 (.op (.row 1) [(.v 0), (.v 4)]
 (.ret [(.v 7), (.v 5), (.v 6)]))))
theorem rd37 : readFn T SG sigs 3000 sg37 Tryd.f26 an37 = some ir37 := by kernel_rfl
/- 38:deliberationref02.text -/
def an38 : Ann := .z
def ir38 : IR :=
 (.op (.bin .eql false) [(.v 0), (.c (.int .i64 1))]
 (.ite (.v 3)
  (.ret [(.c (.str [49]))])
 (.op (.bin .eql false) [(.v 0), (.c (.int .i64 2))]
 (.ite (.v 4)
  (.ret [(.c (.str [48]))])
 (.op (.bin .eql false) [(.v 0), (.c (.int .i64 3))]
 (.ite (.v 5)
  (.ret [(.v 1)])
 (.op (.bin .eql false) [(.v 0), (.c (.int .i64 4))]
 (.ite (.v 6)
  (.op (.row 3) [(.v 2), (.c (.int .i64 0))]
  (.call 53 1 false [] [(.v 7), (.v 8), (.v 9), (.c (.int .i64 5))]
  (.op (.bin .add false) [(.c (.str [126])), (.v 10)]
  (.ret [(.v 11)]))))
 (.op (.bin .eql false) [(.v 0), (.c (.int .i64 5))]
 (.ite (.v 7)
  (.call 54 1 false [] [(.v 2), (.c (.str [32, 38, 32])), (.c (.int .i64 5))]
  (.ret [(.v 8)]))
 (.op (.bin .eql false) [(.v 0), (.c (.int .i64 6))]
 (.ite (.v 8)
  (.call 54 1 false [] [(.v 2), (.c (.str [32, 124, 32])), (.c (.int .i64 4))]
  (.ret [(.v 9)]))
 (.op (.bin .eql false) [(.v 0), (.c (.int .i64 7))]
 (.ite (.v 9)
  (.op (.row 3) [(.v 2), (.c (.int .i64 0))]
  (.call 53 1 false [] [(.v 10), (.v 11), (.v 12), (.c (.int .i64 3))]
  (.op (.bin .add false) [(.v 13), (.c (.str [32, 45, 62, 32]))]
  (.op (.row 3) [(.v 2), (.c (.int .i64 1))]
  (.call 53 1 false [] [(.v 15), (.v 16), (.v 17), (.c (.int .i64 2))]
  (.op (.bin .add false) [(.v 14), (.v 18)]
  (.ret [(.v 19)])))))))
 (.call 54 1 false [] [(.v 2), (.c (.str [32, 60, 45, 62, 32])), (.c (.int .i64 2))]
 (.ret [(.v 10)]))))))))))))))))
theorem rd38 : readFn T SG sigs 3000 sg38 Tryd.f45 an38 = some ir38 := by kernel_rfl
/- 39:formula.all -/
def an39 : Ann := (.s none .z (.s none .z (.s none (.s none .z (.b (.l ⟨1, [(0, .junk), (2, .junk), (4, .junk), (7, .junk), (8, .junk), (9, .junk), (10, .junk), (11, .junk), (14, (.atm (.v 0)))], [], 1, []⟩ .z))) .z)))
def ir39p0 : IR :=
 (.op (.bin .lss false) [(.v 6), (.v 5)]
 (.ite (.v 7)
  (.op (.row 3) [(.v 2), (.v 6)]
  (.call 39 1 false [] [(.v 8), (.v 9), (.v 10)]
  (.op (.un .not) [(.v 11)]
  (.ite (.v 12)
   (.ret [(.c (.bool false))])
  (.op (.bin .add false) [(.v 6), (.c (.int .i64 1))]
  (.jump 0 [(.v 13)]))))))
 (.ret [(.c (.bool true))])))
def ir39 : IR :=
 (.call 55 1 false [] [(.v 0), (.v 1), (.v 2)]
 (.op (.un .not) [(.v 3)]
 (.ite (.v 4)
  (.ret [(.c (.bool false))])
 (.op .lenL [(.v 2)]
 (.loop 1 [(.c (.int .i64 0))] ir39p0)))))
theorem rd39 : readFn T SG sigs 3000 sg39 Tryd.f46 an39 = some ir39 := by kernel_rfl
/- 40:formula.all -/
def an40 : Ann := (.s none .z (.s none .z (.s none (.s none .z (.b (.l ⟨1, [(0, .junk), (2, .junk), (4, .junk), (7, .junk), (8, .junk), (9, .junk), (10, .junk), (11, .junk), (14, (.atm (.v 0)))], [], 1, []⟩ .z))) .z)))
def ir40p0 : IR :=
 (.op (.bin .lss false) [(.v 6), (.v 5)]
 (.ite (.v 7)
  (.op (.row 3) [(.v 2), (.v 6)]
  (.call 40 1 false [] [(.v 8), (.v 9), (.v 10)]
  (.op (.un .not) [(.v 11)]
  (.ite (.v 12)
   (.ret [(.c (.bool false))])
  (.op (.bin .add false) [(.v 6), (.c (.int .i64 1))]
  (.jump 0 [(.v 13)]))))))
 (.ret [(.c (.bool true))])))
def ir40 : IR :=
 (.call 56 1 false [] [(.v 0), (.v 1), (.v 2)]
 (.op (.un .not) [(.v 3)]
 (.ite (.v 4)
  (.ret [(.c (.bool false))])
 (.op .lenL [(.v 2)]
 (.loop 1 [(.c (.int .i64 0))] ir40p0)))))
theorem rd40 : readFn T SG sigs 3000 sg40 Tryd.f46 an40 = some ir40 := by kernel_rfl
/- 41:deliberationref02.kinds -/
def an41 : Ann := (.s none .z (.s none .z (.s none .z (.s (some ⟨1, [(0, .junk), (2, .junk), (4, (.atm (.v 0))), (6, .junk), (7, .junk), (8, .junk)], [], 1, []⟩) (.s none .z (.b (.s (some ⟨1, [(0, .junk), (2, .junk), (6, .junk), (7, .junk), (8, .junk), (9, .junk), (11, (.atm (.v 0)))], [], 1, []⟩) .z (.c .z (.s none .z (.c .z (.s (some ⟨1, [(11, .junk), (17, .junk), (18, .junk), (21, (.atm (.v 0)))], [], 1, []⟩) .z (.c .z (.s (some ⟨1, [(10, .junk), (21, .junk), (30, (.atm (.v 0)))], [], 1, []⟩) .z .z))))))))) (.s none (.s none .z (.b (.l ⟨2, [(4, (.atm (.v 0))), (5, (.atm (.v 1)))], [], 1, []⟩ (.s none .z (.s (some ⟨1, [(4, (.atm (.v 0))), (35, .junk), (36, .junk), (37, .junk)], [], 1, []⟩) .z .z))))) .z)))))
def ir41p0 : IR :=
 (.op (.bin .add false) [(.v 6), (.c (.int .i64 1))]
 (.jump 0 [(.v 8), (.v 9)]))
def ir41p1 : IR :=
 (.op (.bin .lss false) [(.v 6), (.v 3)]
 (.ite (.v 7)
  (.letj 1
   (.ite (.v 5)
    (.op (.row 3) [(.v 2), (.v 6)]
    (.call 41 1 false [] [(.v 8), (.v 9), (.v 10)]
    (.jump 1 [(.v 11)])))
   (.jump 1 [(.c (.bool false))]))
  ir41p0)
 (.ret [(.v 5)])))
def ir41p2 : IR :=
 (.loop 2 [(.v 4), (.c (.int .i64 0))] ir41p1)
def ir41p3 : IR :=
 (.ite (.v 7)
  (.op (.bin .eql false) [(.v 3), (.c (.int .i64 2))]
  (.jump 0 [(.v 8)]))
 (.jump 0 [(.c (.bool false))]))
def ir41p4 : IR :=
 (.ite (.v 6)
  (.op (.bin .geq false) [(.v 3), (.c (.int .i64 2))]
  (.ite (.v 7)
   (.op (.bin .leq false) [(.v 3), (.c (.int .i64 6))]
   (.jump 0 [(.v 8)]))
  (.jump 0 [(.c (.bool false))])))
 (.letj 1
  (.op (.bin .eql false) [(.v 0), (.c (.int .i64 7))]
  (.ite (.v 7)
   (.jump 1 [(.c (.bool true))])
  (.op (.bin .eql false) [(.v 0), (.c (.int .i64 8))]
  (.jump 1 [(.v 8)]))))
 ir41p3))
def ir41p5 : IR :=
 (.ite (.v 4)
  (.op (.bin .eql false) [(.v 3), (.c (.int .i64 0))]
  (.jump 0 [(.v 5)]))
 (.op (.bin .eql false) [(.v 0), (.c (.int .i64 4))]
 (.ite (.v 5)
  (.op (.bin .eql false) [(.v 3), (.c (.int .i64 1))]
  (.jump 0 [(.v 6)]))
 (.letj 1
  (.op (.bin .eql false) [(.v 0), (.c (.int .i64 5))]
  (.ite (.v 6)
   (.jump 1 [(.c (.bool true))])
  (.op (.bin .eql false) [(.v 0), (.c (.int .i64 6))]
  (.jump 1 [(.v 7)]))))
 ir41p4))))
def ir41 : IR :=
 (.op .lenL [(.v 2)]
 (.letj 1
  (.letj 1
   (.op (.bin .eql false) [(.v 0), (.c (.int .i64 1))]
   (.ite (.v 4)
    (.jump 1 [(.c (.bool true))])
   (.op (.bin .eql false) [(.v 0), (.c (.int .i64 2))]
   (.ite (.v 5)
    (.jump 1 [(.c (.bool true))])
   (.op (.bin .eql false) [(.v 0), (.c (.int .i64 3))]
   (.jump 1 [(.v 6)]))))))
  ir41p5)
 ir41p2))
theorem rd41 : readFn T SG sigs 3000 sg41 Tryd.f49 an41 = some ir41 := by kernel_rfl
/- 42:deliberationref02.names -/
def an42 : Ann := (.s none .z (.s none .z (.s (some ⟨1, [(0, .junk), (2, .junk), (3, (.atm (.v 0))), (5, .junk), (6, .junk), (7, .junk)], [], 1, []⟩) .z (.s none (.s none .z (.b (.l ⟨2, [(3, (.atm (.v 0))), (4, (.atm (.v 1)))], [], 1, []⟩ (.s none .z (.s (some ⟨1, [(3, (.atm (.v 0))), (14, .junk), (15, .junk), (16, .junk), (17, .junk), (18, .junk)], [], 1, []⟩) .z .z))))) .z))))
def ir42p0 : IR :=
 (.op (.bin .add false) [(.v 6), (.c (.int .i64 1))]
 (.jump 0 [(.v 9), (.v 10)]))
def ir42p1 : IR :=
 (.op .lenL [(.v 2)]
 (.op (.bin .lss false) [(.v 6), (.v 7)]
 (.ite (.v 8)
  (.letj 1
   (.ite (.v 5)
    (.op (.row 3) [(.v 2), (.v 6)]
    (.call 42 1 false [] [(.v 9), (.v 10), (.v 11)]
    (.jump 1 [(.v 12)])))
   (.jump 1 [(.c (.bool false))]))
  ir42p0)
 (.ret [(.v 5)]))))
def ir42p2 : IR :=
 (.loop 2 [(.v 4), (.c (.int .i64 0))] ir42p1)
def ir42 : IR :=
 (.op (.bin .eql false) [(.v 1), (.c (.str []))]
 (.letj 1
  (.op (.bin .eql false) [(.v 0), (.c (.int .i64 3))]
  (.ite (.v 4)
   (.call 57 1 false [] [(.v 1)]
   (.jump 0 [(.v 5)]))
  (.jump 0 [(.v 3)])))
 ir42p2))
theorem rd42 : readFn T SG sigs 3000 sg42 Tryd.f50 an42 = some ir42 := by kernel_rfl
/- 43:formula.parser).iff -/
def an43 : Ann := .z
def ir43 : IR :=
 (.call 58 7 false [] [(.v 0), (.v 1), (.v 2), (.v 3)]
 (.call 44 5 false [] [(.c (.str [60, 45, 62])), (.v 7), (.v 8), (.v 9), (.v 10)]
 (.op (.un .not) [(.v 11)]
 (.ite (.v 16)
  (.ret [(.v 4), (.v 5), (.v 6), (.v 12), (.v 13), (.v 14), (.v 15)])
 (.call 58 7 false [] [(.v 12), (.v 13), (.v 14), (.v 15)]
 (.op (.mk 3 2) [(.v 4), (.v 5), (.v 6), (.v 17), (.v 18), (.v 19)]
 (.ret [(.c (.int .i64 8)), (.c (.str [])), (.v 24), (.v 20), (.v 21), (.v 22), (.v 23)])))))))
theorem rd43 : readFn T SG sigs 3000 sg43 Tryd.f52 an43 = some ir43 := by kernel_rfl
/- 44:formula.parser).take -/
def an44 : Ann := (.s none .z (.s none .z (.s none (.s (some ⟨1, [(1, .junk), (4, .junk), (6, .junk), (7, .junk), (18, (.atm (.v 0)))], [], 2, []⟩) .z .z) .z)))
def ir44p0 : IR :=
 (.ite (.v 12)
  (.ret [(.c (.bool false)), (.v 8), (.v 9), (.v 10), (.v 11)])
 (.op .lenS [(.v 6)]
 (.op (.bin .add false) [(.v 9), (.v 13)]
 (.ret [(.c (.bool true)), (.v 8), (.v 14), (.v 10), (.v 11)]))))
def ir44 : IR :=
 (.call 59 7 false [] [(.v 1), (.v 2), (.v 3), (.v 4)]
 (.letj 1
  (.op (.bin .geq false) [(.v 10), (.c (.int .i64 0))]
  (.ite (.v 12)
   (.jump 0 [(.c (.bool true))])
  (.op (.bin .neq false) [(.v 5), (.v 0)]
  (.jump 0 [(.v 13)]))))
 ir44p0))
theorem rd44 : readFn T SG sigs 3000 sg44 Tryd.f53 an44 = some ir44 := by kernel_rfl
/- 45:formula.parser).fail -/
def an45 : Ann := (.s none .z (.s (some ⟨4, [(0, .junk)], [(0, ⟨false, false, 70, 4, (.c (.sl [])), [[(.atm (.v 0)), (.atm (.v 1)), (.atm (.v 2)), (.atm (.v 3))]]⟩)], 2, []⟩) .z .z))
def ir45p0 : IR :=
 (.ret [(.c (.int .i64 0)), (.c (.str [])), (.c (.sl [])), (.v 4), (.v 5), (.v 6), (.v 7)])
def ir45 : IR :=
 (.letj 4
  (.op (.bin .lss false) [(.v 2), (.c (.int .i64 0))]
  (.ite (.v 4)
   (.call 59 7 false [] [(.v 0), (.v 1), (.v 2), (.v 3)]
   (.jump 0 [(.v 8), (.v 9), (.v 7), (.v 11)]))
  (.jump 0 [(.v 0), (.v 1), (.v 2), (.v 3)])))
 ir45p0)
theorem rd45 : readFn T SG sigs 3000 sg45 Tryd.f54 an45 = some ir45 := by kernel_rfl
/- 46:formula.value -/
def an46 : Ann := (.s none .z (.s none .z (.s none (.s none .z (.b (.s none .z (.c .z (.s none .z (.c .z (.s none .z (.c .z (.s none .z (.c .z (.s none .z (.c .z (.s (some ⟨1, [(0, .junk), (1, .junk), (3, .junk), (4, .junk), (8, .junk), (9, .junk), (10, .junk), (11, .junk), (12, .junk), (13, .junk), (14, .junk), (19, .junk), (20, .junk), (28, .junk), (29, .junk), (34, .junk), (35, .junk), (41, (.atm (.v 0)))], [], 3, []⟩) .z .z))))))))))))) .z)))
def ir46p0 : IR :=
 (.ite (.v 9)
  (.op (.row 3) [(.v 2), (.c (.int .i64 0))]
  (.call 61 2 false [] [(.v 10), (.v 11), (.v 12), (.v 3)]
  (.op (.row 3) [(.v 2), (.c (.int .i64 1))]
  (.call 61 2 false [] [(.v 15), (.v 16), (.v 17), (.v 14)]
  (.op (.bin .eql true) [(.v 13), (.v 18)]
  (.ite (.v 20)
   (.ret [(.c (.bool true))])
  (.op (.bin .eql false) [(.v 0), (.c (.int .i64 7))]
  (.ite (.v 21)
   (.ret [(.v 18)])
  (.ret [(.c (.bool false))])))))))))
 (.ret [(.c (.bool false))]))
def ir46 : IR :=
 (.op (.bin .eql false) [(.v 0), (.c (.int .i64 1))]
 (.ite (.v 4)
  (.ret [(.c (.bool true))])
 (.op (.bin .eql false) [(.v 0), (.c (.int .i64 3))]
 (.ite (.v 5)
  (.call 60 1 false [] [(.v 3), (.v 1)]
  (.ret [(.v 6)]))
 (.op (.bin .eql false) [(.v 0), (.c (.int .i64 4))]
 (.ite (.v 6)
  (.op (.row 3) [(.v 2), (.c (.int .i64 0))]
  (.call 61 2 false [] [(.v 7), (.v 8), (.v 9), (.v 3)]
  (.op (.un .not) [(.v 10)]
  (.ret [(.v 12)]))))
 (.op (.bin .eql false) [(.v 0), (.c (.int .i64 6))]
 (.ite (.v 7)
  (.call 62 2 false [] [(.v 2), (.v 3)]
  (.ret [(.v 8)]))
 (.op (.bin .eql false) [(.v 0), (.c (.int .i64 5))]
 (.ite (.v 8)
  (.call 63 2 false [] [(.v 2), (.v 3)]
  (.op (.un .not) [(.v 9)]
  (.ret [(.v 11)])))
 (.letj 1
  (.op (.bin .eql false) [(.v 0), (.c (.int .i64 7))]
  (.ite (.v 9)
   (.jump 0 [(.c (.bool true))])
  (.op (.bin .eql false) [(.v 0), (.c (.int .i64 8))]
  (.jump 0 [(.v 10)]))))
 ir46p0)))))))))))
theorem rd46 : readFn T SG sigs 3000 sg46 Tryd.f58 an46 = some ir46 := by kernel_rfl
/- 47:deliberationkeep.Src).Raw -/
def an47 : Ann := .z
def ir47 : IR :=
 (.op .lenL [(.v 0)]
 (.op (.bin .geq false) [(.v 1), (.v 2)]
 (.ite (.v 3)
  (.ret [(.c (.int .i64 0)), (.v 0), (.v 1)])
 (.op (.bin .add false) [(.v 1), (.c (.int .i64 1))]
 (.op (.bin .sub false) [(.v 4), (.c (.int .i64 1))]
 (.op (.row 1) [(.v 0), (.v 5)]
 (.ret [(.v 6), (.v 0), (.v 4)])))))))
theorem rd47 : readFn T SG sigs 3000 sg47 Tryd.f51 an47 = some ir47 := by kernel_rfl
/- 48:formula.replace -/
def an48 : Ann := (.s none .z (.s none .z (.s none .z (.s none (.s none .z (.b (.l ⟨6, [(0, .junk), (2, .junk), (5, .junk), (6, .junk), (10, .junk), (11, .junk), (12, .junk), (13, .junk), (14, .junk), (15, .junk), (16, .junk), (18, .junk), (19, .junk), (20, .junk), (21, .junk), (22, .junk), (23, .junk), (26, (.atm (.v 0)))], [(0, ⟨false, false, 9, 1, (.c (.sl [])), [[(.atm (.v 1))]]⟩), (1, ⟨false, false, 24, 3, (.c (.sl [])), [[(.atm (.v 2)), (.atm (.v 3)), (.atm (.v 4))]]⟩), (7, ⟨false, true, 24, 3, (.v 5), []⟩)], 8, [⟨some (6, 0, 2), 0, 24, 3⟩]⟩ .z))) .z))))
def ir48p0 : IR :=
 (.op (.bin .lss false) [(.v 16), (.v 15)]
 (.ite (.v 22)
  (.op (.row 3) [(.v 2), (.v 16)]
  (.call 48 7 false [] [(.v 23), (.v 24), (.v 25), (.v 17), (.v 18), (.v 19), (.v 20)]
  (.op (.mk 3 1) [(.v 26), (.v 27), (.v 28)]
  (.op (.app 3 48) [(.v 21), (.v 33)]
  (.op (.bin .add false) [(.v 16), (.c (.int .i64 1))]
  (.jump 0 [(.v 35), (.v 29), (.v 30), (.v 31), (.v 32), (.v 34)]))))))
 (.ret [(.v 0), (.v 1), (.v 21), (.v 17), (.v 18), (.v 19), (.v 20)])))
def ir48 : IR :=
 (.call 64 8 false [] [(.v 0), (.v 1), (.v 2), (.v 3), (.v 4), (.v 5), (.v 6)]
 (.ite (.v 10)
  (.ret [(.v 7), (.v 8), (.v 9), (.v 11), (.v 12), (.v 13), (.v 14)])
 (.op .lenL [(.v 2)]
 (.loop 6 [(.c (.int .i64 0)), (.v 11), (.v 12), (.v 13), (.v 14), (.c (.sl []))] ir48p0))))
theorem rd48 : readFn T SG sigs 3000 sg48 Tryd.f60 an48 = some ir48 := by kernel_rfl
/- 49:deliberationref02.collect -/
def an49 : Ann := (.s none .z (.s (some ⟨1, [(0, (.atm (.v 0))), (1, .junk), (4, .junk)], [], 1, []⟩) (.s (some ⟨1, [(1, .junk), (4, .junk), (14, (.atm (.v 0)))], [], 1, []⟩) .z .z) (.s none (.s none .z (.b (.l ⟨2, [(0, (.atm (.v 0))), (5, (.atm (.v 1)))], [], 1, []⟩ .z))) .z)))
def ir49p0 : IR :=
 (.op .lenL [(.v 3)]
 (.op (.bin .lss false) [(.v 6), (.v 7)]
 (.ite (.v 8)
  (.op (.row 3) [(.v 3), (.v 6)]
  (.call 49 1 false [] [(.v 5), (.v 9), (.v 10), (.v 11)]
  (.op (.bin .add false) [(.v 6), (.c (.int .i64 1))]
  (.jump 0 [(.v 12), (.v 13)]))))
 (.ret [(.v 5)]))))
def ir49p1 : IR :=
 (.loop 2 [(.v 4), (.c (.int .i64 0))] ir49p0)
def ir49p2 : IR :=
 (.ite (.v 4)
  (.call 65 1 false [] [(.v 0), (.v 2)]
  (.jump 0 [(.v 5)]))
 (.jump 0 [(.v 0)]))
def ir49 : IR :=
 (.letj 1
  (.letj 1
   (.op (.bin .eql false) [(.v 1), (.c (.int .i64 3))]
   (.ite (.v 4)
    (.op .lenL [(.v 3)]
    (.op (.bin .eql false) [(.v 5), (.c (.int .i64 0))]
    (.jump 1 [(.v 6)])))
   (.jump 1 [(.c (.bool false))])))
  ir49p2)
 ir49p1)
theorem rd49 : readFn T SG sigs 3000 sg49 Tryd.f66 an49 = some ir49 := by kernel_rfl
/- 50:deliberationref02.value -/
def an50 : Ann := (.s none .z (.s none (.s none .z (.b (.s none .z (.c .z (.s none .z (.c (.s none (.s none .z (.b (.l ⟨1, [(0, .junk), (4, .junk), (5, (.atm (.v 0))), (8, .junk), (9, .junk), (10, .junk), (11, .junk), (12, .junk), (13, .junk)], [], 1, []⟩ .z))) .z) (.s none .z (.c .z (.s none .z (.c (.s none (.s none .z (.b (.l ⟨1, [(0, .junk), (4, .junk), (6, (.atm (.v 0))), (8, .junk), (9, .junk), (10, .junk), (11, .junk), (12, .junk), (13, .junk), (27, .junk), (28, .junk), (36, .junk), (37, .junk)], [], 1, []⟩ .z))) .z) (.s none .z (.c (.s none (.s none .z (.b (.l ⟨1, [(0, .junk), (4, .junk), (7, (.atm (.v 0))), (8, .junk), (9, .junk), (10, .junk), (11, .junk), (12, .junk), (13, .junk), (27, .junk), (28, .junk), (36, .junk), (37, .junk), (53, .junk), (54, .junk)], [], 1, []⟩ .z))) .z) .z)))))))))))) .z))
def ir50p0 : IR :=
 (.op .lenL [(.v 3)]
 (.op (.bin .lss false) [(.v 6), (.v 7)]
 (.ite (.v 8)
  (.op (.row 1) [(.v 3), (.v 6)]
  (.op (.bin .eql false) [(.v 9), (.v 1)]
  (.ite (.v 10)
   (.ret [(.c (.bool true))])
  (.op (.bin .add false) [(.v 6), (.c (.int .i64 1))]
  (.jump 0 [(.v 11)])))))
 (.ret [(.c (.bool false))]))))
def ir50p1 : IR :=
 (.op .lenL [(.v 2)]
 (.op (.bin .lss false) [(.v 8), (.v 9)]
 (.ite (.v 10)
  (.op (.row 3) [(.v 2), (.v 8)]
  (.call 50 1 false [] [(.v 11), (.v 12), (.v 13), (.v 3)]
  (.op (.un .not) [(.v 14)]
  (.ite (.v 15)
   (.ret [(.c (.bool false))])
  (.op (.bin .add false) [(.v 8), (.c (.int .i64 1))]
  (.jump 0 [(.v 16)]))))))
 (.ret [(.c (.bool true))]))))
def ir50p2 : IR :=
 (.op .lenL [(.v 2)]
 (.op (.bin .lss false) [(.v 9), (.v 10)]
 (.ite (.v 11)
  (.op (.row 3) [(.v 2), (.v 9)]
  (.call 50 1 false [] [(.v 12), (.v 13), (.v 14), (.v 3)]
  (.ite (.v 15)
   (.ret [(.c (.bool true))])
  (.op (.bin .add false) [(.v 9), (.c (.int .i64 1))]
  (.jump 0 [(.v 16)])))))
 (.ret [(.c (.bool false))]))))
def ir50 : IR :=
 (.op (.bin .eql false) [(.v 0), (.c (.int .i64 1))]
 (.ite (.v 4)
  (.ret [(.c (.bool true))])
 (.op (.bin .eql false) [(.v 0), (.c (.int .i64 3))]
 (.ite (.v 5)
  (.loop 1 [(.c (.int .i64 0))] ir50p0)
 (.op (.bin .eql false) [(.v 0), (.c (.int .i64 4))]
 (.ite (.v 6)
  (.op (.row 3) [(.v 2), (.c (.int .i64 0))]
  (.call 50 1 false [] [(.v 7), (.v 8), (.v 9), (.v 3)]
  (.op (.un .not) [(.v 10)]
  (.ret [(.v 11)]))))
 (.op (.bin .eql false) [(.v 0), (.c (.int .i64 5))]
 (.ite (.v 7)
  (.loop 1 [(.c (.int .i64 0))] ir50p1)
 (.op (.bin .eql false) [(.v 0), (.c (.int .i64 6))]
 (.ite (.v 8)
  (.loop 1 [(.c (.int .i64 0))] ir50p2)
 (.op (.bin .eql false) [(.v 0), (.c (.int .i64 7))]
 (.ite (.v 9)
  (.op (.row 3) [(.v 2), (.c (.int .i64 0))]
  (.call 50 1 false [] [(.v 10), (.v 11), (.v 12), (.v 3)]
  (.op (.un .not) [(.v 13)]
  (.ite (.v 14)
   (.ret [(.c (.bool true))])
  (.op (.row 3) [(.v 2), (.c (.int .i64 1))]
  (.call 50 1 false [] [(.v 15), (.v 16), (.v 17), (.v 3)]
  (.ret [(.v 18)])))))))
 (.op (.bin .eql false) [(.v 0), (.c (.int .i64 8))]
 (.ite (.v 10)
  (.op (.row 3) [(.v 2), (.c (.int .i64 0))]
  (.call 50 1 false [] [(.v 11), (.v 12), (.v 13), (.v 3)]
  (.op (.row 3) [(.v 2), (.c (.int .i64 1))]
  (.call 50 1 false [] [(.v 15), (.v 16), (.v 17), (.v 3)]
  (.op (.bin .eql true) [(.v 14), (.v 18)]
  (.ret [(.v 19)]))))))
 (.ret [(.c (.bool false))])))))))))))))))
theorem rd50 : readFn T SG sigs 3000 sg50 Tryd.f67 an50 = some ir50 := by kernel_rfl
/- 51:api.Formula] -/
def an51 : Ann := (.s none .z (.s none .z (.s none (.s none .z (.b (.l ⟨1, [(0, .junk), (6, .junk), (10, .junk), (11, .junk), (12, .junk), (13, .junk), (14, .junk), (17, (.atm (.v 0)))], [], 0, []⟩ .z))) .z)))
def ir51p0 : IR :=
 (.op (.bin .lss false) [(.v 6), (.v 5)]
 (.ite (.v 7)
  (.op (.row 3) [(.v 0), (.v 6)]
  (.op (.row 3) [(.v 1), (.v 6)]
  (.call 33 1 false [] [(.v 8), (.v 9), (.v 10), (.v 11), (.v 12), (.v 13)]
  (.op (.un .not) [(.v 14)]
  (.ite (.v 15)
   (.ret [(.c (.bool false))])
  (.op (.bin .add false) [(.v 6), (.c (.int .i64 1))]
  (.jump 0 [(.v 16)])))))))
 (.ret [(.c (.bool true))])))
def ir51 : IR :=
 (.op .lenL [(.v 0)]
 (.op .lenL [(.v 1)]
 (.op (.bin .neq false) [(.v 2), (.v 3)]
 (.ite (.v 4)
  (.ret [(.c (.bool false))])
 (.op .lenL [(.v 0)]
 (.loop 1 [(.c (.int .i64 0))] ir51p0))))))
theorem rd51 : readFn T SG sigs 3000 sg51 Tryd.f68 an51 = some ir51 := by kernel_rfl
/- 52:deliberationref02.Copy -/
def an52 : Ann := (.s none .z (.s none .z (.s none (.s none .z (.b (.l ⟨2, [(0, .junk), (4, (.atm (.v 0))), (5, .junk), (6, .junk), (7, .junk), (8, .junk), (9, .junk)], [(3, ⟨false, true, 24, 3, (.v 1), []⟩)], 4, [⟨some (2, 0, 2), 0, 24, 3⟩]⟩ .z))) .z)))
def ir52p0 : IR :=
 (.op .lenL [(.v 2)]
 (.op (.bin .lss false) [(.v 3), (.v 5)]
 (.ite (.v 6)
  (.op (.row 3) [(.v 2), (.v 3)]
  (.call 52 3 false [] [(.v 7), (.v 8), (.v 9)]
  (.op (.mk 3 1) [(.v 10), (.v 11), (.v 12)]
  (.op (.app 3 48) [(.v 4), (.v 13)]
  (.op (.bin .add false) [(.v 3), (.c (.int .i64 1))]
  (.jump 0 [(.v 15), (.v 14)]))))))
 (.ret [(.v 0), (.v 1), (.v 4)]))))
def ir52 : IR :=
 (.loop 2 [(.c (.int .i64 0)), (.c (.sl []))] ir52p0)
theorem rd52 : readFn T SG sigs 3000 sg52 Tryd.f69 an52 = some ir52 := by kernel_rfl
/- 53:deliberationref02.argument -/
def an53 : Ann := .z
def ir53 : IR :=
 (.call 66 1 false [] [(.v 0), (.v 1), (.v 2)]
 (.op (.bin .lss false) [(.v 4), (.v 3)]
 (.ite (.v 5)
  (.call 38 1 false [] [(.v 0), (.v 1), (.v 2)]
  (.op (.bin .add false) [(.c (.str [40])), (.v 6)]
  (.op (.bin .add false) [(.v 7), (.c (.str [41]))]
  (.ret [(.v 8)]))))
 (.call 38 1 false [] [(.v 0), (.v 1), (.v 2)]
 (.ret [(.v 6)])))))
theorem rd53 : readFn T SG sigs 3000 sg53 Tryd.f74 an53 = some ir53 := by kernel_rfl
/- 54:deliberationref02.joined -/
def an54 : Ann := (.s none .z (.s none .z (.s none (.s none .z (.b (.l ⟨2, [(6, .junk), (7, (.atm (.v 0))), (8, (.atm (.v 1))), (9, .junk), (10, .junk), (11, .junk), (12, .junk), (13, .junk)], [], 0, []⟩ .z))) .z)))
def ir54p0 : IR :=
 (.op .lenL [(.v 0)]
 (.op (.bin .lss false) [(.v 8), (.v 9)]
 (.ite (.v 10)
  (.op (.bin .add false) [(.v 7), (.v 1)]
  (.op (.row 3) [(.v 0), (.v 8)]
  (.call 53 1 false [] [(.v 12), (.v 13), (.v 14), (.v 2)]
  (.op (.bin .add false) [(.v 11), (.v 15)]
  (.op (.bin .add false) [(.v 8), (.c (.int .i64 1))]
  (.jump 0 [(.v 16), (.v 17)]))))))
 (.ret [(.v 7)]))))
def ir54 : IR :=
 (.op (.row 3) [(.v 0), (.c (.int .i64 0))]
 (.call 53 1 false [] [(.v 3), (.v 4), (.v 5), (.v 2)]
 (.loop 2 [(.v 6), (.c (.int .i64 1))] ir54p0)))
theorem rd54 : readFn T SG sigs 3000 sg54 Tryd.f75 an54 = some ir54 := by kernel_rfl
/- 55:formula.counted -/
def an55 : Ann := (.s none .z (.s none .z (.s none (.s none .z (.b (.s (some ⟨1, [(0, .junk), (1, .junk), (2, .junk), (4, .junk), (5, .junk), (6, .junk), (7, .junk), (9, (.atm (.v 0)))], [], 1, []⟩) .z (.c .z (.s none .z (.c .z (.s (some ⟨1, [(9, .junk), (15, .junk), (16, .junk), (19, (.atm (.v 0)))], [], 1, []⟩) .z (.c .z (.s (some ⟨1, [(8, .junk), (19, .junk), (28, (.atm (.v 0)))], [], 1, []⟩) .z .z))))))))) .z)))
def ir55p0 : IR :=
 (.ite (.v 7)
  (.op (.bin .eql false) [(.v 3), (.c (.int .i64 2))]
  (.ret [(.v 8)]))
 (.ret [(.c (.bool false))]))
def ir55p1 : IR :=
 (.ite (.v 6)
  (.op (.bin .geq false) [(.v 3), (.c (.int .i64 2))]
  (.ite (.v 7)
   (.op (.bin .leq false) [(.v 3), (.c (.int .i64 6))]
   (.ret [(.v 8)]))
  (.ret [(.c (.bool false))])))
 (.letj 1
  (.op (.bin .eql false) [(.v 0), (.c (.int .i64 7))]
  (.ite (.v 7)
   (.jump 0 [(.c (.bool true))])
  (.op (.bin .eql false) [(.v 0), (.c (.int .i64 8))]
  (.jump 0 [(.v 8)]))))
 ir55p0))
def ir55p2 : IR :=
 (.ite (.v 4)
  (.op (.bin .eql false) [(.v 3), (.c (.int .i64 0))]
  (.ret [(.v 5)]))
 (.op (.bin .eql false) [(.v 0), (.c (.int .i64 4))]
 (.ite (.v 5)
  (.op (.bin .eql false) [(.v 3), (.c (.int .i64 1))]
  (.ret [(.v 6)]))
 (.letj 1
  (.op (.bin .eql false) [(.v 0), (.c (.int .i64 5))]
  (.ite (.v 6)
   (.jump 0 [(.c (.bool true))])
  (.op (.bin .eql false) [(.v 0), (.c (.int .i64 6))]
  (.jump 0 [(.v 7)]))))
 ir55p1))))
def ir55 : IR :=
 (.op .lenL [(.v 2)]
 (.letj 1
  (.op (.bin .eql false) [(.v 0), (.c (.int .i64 1))]
  (.ite (.v 4)
   (.jump 0 [(.c (.bool true))])
  (.op (.bin .eql false) [(.v 0), (.c (.int .i64 2))]
  (.ite (.v 5)
   (.jump 0 [(.c (.bool true))])
  (.op (.bin .eql false) [(.v 0), (.c (.int .i64 3))]
  (.jump 0 [(.v 6)]))))))
 ir55p2))
theorem rd55 : readFn T SG sigs 3000 sg55 Tryd.f47 an55 = some ir55 := by kernel_rfl
/- 56:formula.named -/
def an56 : Ann := .z
def ir56 : IR :=
 (.op (.bin .eql false) [(.v 0), (.c (.int .i64 3))]
 (.ite (.v 3)
  (.call 67 1 false [] [(.v 1)]
  (.ret [(.v 4)]))
 (.op (.bin .eql false) [(.v 1), (.c (.str []))]
 (.ret [(.v 4)]))))
theorem rd56 : readFn T SG sigs 3000 sg56 Tryd.f48 an56 = some ir56 := by kernel_rfl
/- 57:deliberationref01.ValidName -/
def an57 : Ann := (.s none .z (.s none (.s (some ⟨1, [(2, .junk), (21, (.atm (.v 0)))], [], 0, []⟩) .z .z) (.s none (.s none .z (.b (.l ⟨1, [(3, (.atm (.v 0))), (21, .junk)], [], 0, []⟩ (.s none .z (.s none (.b (.s (some ⟨1, [(22, .junk), (23, .junk), (24, .junk), (25, .junk), (55, (.atm (.v 0)))], [], 0, []⟩) .z .z)) .z))))) .z)))
def ir57p0 : IR :=
 (.ite (.v 5)
  (.ret [(.c (.bool false))])
 (.op (.bin .add false) [(.v 2), (.c (.int .i64 1))]
 (.jump 0 [(.v 6)])))
def ir57p1 : IR :=
 (.op .lenS [(.v 0)]
 (.op (.bin .lss false) [(.v 2), (.v 3)]
 (.ite (.v 4)
  (.letj 1
   (.op .idxS [(.v 0), (.v 2)]
   (.op (.bin .lss false) [(.v 5), (.c (.int .u8 97))]
   (.ite (.v 6)
    (.op .idxS [(.v 0), (.v 2)]
    (.op (.bin .lss false) [(.v 7), (.c (.int .u8 48))]
    (.ite (.v 8)
     (.op .idxS [(.v 0), (.v 2)]
     (.op (.bin .neq false) [(.v 9), (.c (.int .u8 95))]
     (.jump 1 [(.v 10)])))
    (.op .idxS [(.v 0), (.v 2)]
    (.op (.bin .gtr false) [(.v 9), (.c (.int .u8 57))]
    (.ite (.v 10)
     (.op .idxS [(.v 0), (.v 2)]
     (.op (.bin .neq false) [(.v 11), (.c (.int .u8 95))]
     (.jump 1 [(.v 12)])))
    (.jump 1 [(.c (.bool false))])))))))
   (.op .idxS [(.v 0), (.v 2)]
   (.op (.bin .gtr false) [(.v 7), (.c (.int .u8 122))]
   (.ite (.v 8)
    (.op .idxS [(.v 0), (.v 2)]
    (.op (.bin .lss false) [(.v 9), (.c (.int .u8 48))]
    (.ite (.v 10)
     (.op .idxS [(.v 0), (.v 2)]
     (.op (.bin .neq false) [(.v 11), (.c (.int .u8 95))]
     (.jump 1 [(.v 12)])))
    (.op .idxS [(.v 0), (.v 2)]
    (.op (.bin .gtr false) [(.v 11), (.c (.int .u8 57))]
    (.ite (.v 12)
     (.op .idxS [(.v 0), (.v 2)]
     (.op (.bin .neq false) [(.v 13), (.c (.int .u8 95))]
     (.jump 1 [(.v 14)])))
    (.jump 1 [(.c (.bool false))])))))))
   (.jump 1 [(.c (.bool false))])))))))
  ir57p0)
 (.ret [(.c (.bool true))]))))
def ir57p2 : IR :=
 (.ite (.v 1)
  (.ret [(.c (.bool false))])
 (.loop 1 [(.c (.int .i64 0))] ir57p1))
def ir57 : IR :=
 (.letj 1
  (.op .lenS [(.v 0)]
  (.op (.bin .lss false) [(.v 1), (.c (.int .i64 1))]
  (.ite (.v 2)
   (.jump 0 [(.c (.bool true))])
  (.op .lenS [(.v 0)]
  (.op (.bin .gtr false) [(.v 3), (.c (.int .i64 12))]
  (.ite (.v 4)
   (.jump 0 [(.c (.bool true))])
  (.op .idxS [(.v 0), (.c (.int .i64 0))]
  (.op (.bin .lss false) [(.v 5), (.c (.int .u8 97))]
  (.ite (.v 6)
   (.jump 0 [(.c (.bool true))])
  (.op .idxS [(.v 0), (.c (.int .i64 0))]
  (.op (.bin .gtr false) [(.v 7), (.c (.int .u8 122))]
  (.jump 0 [(.v 8)]))))))))))))
 ir57p2)
theorem rd57 : readFn T SG sigs 3000 sg57 Tryd.f77 an57 = some ir57 := by kernel_rfl
/- 58:formula.parser).implies -/
def an58 : Ann := .z
def ir58 : IR :=
 (.call 68 7 false [] [(.v 0), (.v 1), (.v 2), (.v 3)]
 (.call 44 5 false [] [(.c (.str [45, 62])), (.v 7), (.v 8), (.v 9), (.v 10)]
 (.op (.un .not) [(.v 11)]
 (.ite (.v 16)
  (.ret [(.v 4), (.v 5), (.v 6), (.v 12), (.v 13), (.v 14), (.v 15)])
 (.call 58 7 false [] [(.v 12), (.v 13), (.v 14), (.v 15)]
 (.op (.mk 3 2) [(.v 4), (.v 5), (.v 6), (.v 17), (.v 18), (.v 19)]
 (.ret [(.c (.int .i64 7)), (.c (.str [])), (.v 24), (.v 20), (.v 21), (.v 22), (.v 23)])))))))
theorem rd58 : readFn T SG sigs 3000 sg58 Tryd.f78 an58 = some ir58 := by kernel_rfl
/- 59:formula.parser).peek -/
def an59 : Ann := (.s none .z (.s none (.b (.l ⟨4, [], [(0, ⟨false, false, 70, 4, (.c (.sl [])), [[(.atm (.v 0)), (.atm (.v 1)), (.atm (.v 2)), (.atm (.v 3))]]⟩)], 2, []⟩ (.s none (.s (some ⟨1, [(29, (.atm (.v 0)))], [], 2, []⟩) .z .z) .z))) (.s none .z (.s none .z (.s none .z (.s none (.b (.l ⟨1, [(4, (.atm (.v 0))), (29, .junk), (37, .junk), (38, .junk), (39, .junk), (40, .junk), (41, .junk), (42, .junk), (43, .junk), (44, .junk), (45, .junk), (46, .junk), (47, .junk)], [], 2, []⟩ (.s none (.s (some ⟨1, [(63, (.atm (.v 0)))], [], 2, []⟩) .z .z) .z))) (.s none (.s none .z (.b (.s (some ⟨1, [(63, .junk), (66, .junk), (67, .junk), (68, .junk), (69, (.atm (.v 0)))], [], 2, []⟩) .z .z))) (.s none (.s none .z (.b (.l ⟨1, [(4, .junk), (5, .junk), (69, .junk), (83, .junk), (84, .junk), (85, .junk), (92, .junk), (93, .junk), (94, .junk), (103, (.atm (.v 0)))], [], 3, []⟩ (.s none .z (.s none .z (.s none (.b (.s none .z (.s (some ⟨1, [(104, .junk), (105, .junk), (106, .junk), (119, (.atm (.v 0)))], [], 3, []⟩) .z .z))) .z)))))) .z))))))))
def ir59p0 : IR :=
 (.ite (.v 23)
  (.ret [(.v 22), (.v 22), (.v 5), (.v 4), (.v 5), (.v 6), (.v 7)])
 (.op (.bin .add false) [(.v 20), (.c (.int .i64 1))]
 (.jump 2 [(.v 24)])))
def ir59p1 : IR :=
 (.op (.bin .lss false) [(.v 20), (.v 19)]
 (.ite (.v 21)
  (.op .chk [(.v 18), (.v 20)]
  (.op (.get 0 1) [(.v 18), (.v 20)]
  (.letj 1
   (.op .lenS [(.v 10)]
   (.op .lenS [(.v 22)]
   (.op (.bin .geq false) [(.v 23), (.v 24)]
   (.ite (.v 25)
    (.op .lenS [(.v 22)]
    (.op .subS [(.v 10), (.c (.int .i64 0)), (.v 26)]
    (.op (.bin .eql false) [(.v 27), (.v 22)]
    (.jump 3 [(.v 28)]))))
   (.jump 3 [(.c (.bool false))])))))
  ir59p0)))
 (.ret [(.c (.str [63])), (.c (.str [])), (.v 5), (.v 4), (.v 5), (.v 6), (.v 7)])))
def ir59p2 : IR :=
 (.ite (.v 15)
  (.ret [(.v 14), (.v 14), (.v 5), (.v 4), (.v 5), (.v 6), (.v 7)])
 (.call 67 1 false [] [(.v 14)]
 (.ite (.v 16)
  (.ret [(.c (.str [110, 97, 109, 101])), (.v 14), (.v 5), (.v 4), (.v 5), (.v 6), (.v 7)])
 (.op (.bin .gtr false) [(.v 12), (.c (.int .i64 0))]
 (.ite (.v 17)
  (.ret [(.c (.str [63])), (.v 14), (.v 5), (.v 4), (.v 5), (.v 6), (.v 7)])
 (.op (.mk 1 7) [(.c (.str [60, 45, 62])), (.c (.str [45, 62])), (.c (.str [126])), (.c (.str [38])), (.c (.str [124])), (.c (.str [40])), (.c (.str [41]))]
 (.op .lenL [(.v 18)]
 (.loop 1 [(.c (.int .i64 0))] ir59p1))))))))
def ir59p3 : IR :=
 (.ite (.v 13)
  (.op (.bin .add false) [(.v 12), (.c (.int .i64 1))]
  (.jump 1 [(.v 14)]))
 (.op .subS [(.v 10), (.c (.int .i64 0)), (.v 12)]
 (.letj 1
  (.op (.bin .eql false) [(.v 14), (.c (.str [48]))]
  (.ite (.v 15)
   (.jump 2 [(.c (.bool true))])
  (.op (.bin .eql false) [(.v 14), (.c (.str [49]))]
  (.jump 2 [(.v 16)]))))
 ir59p2)))
def ir59p4 : IR :=
 (.letj 1
  (.op .lenS [(.v 10)]
  (.op (.bin .lss false) [(.v 12), (.v 13)]
  (.ite (.v 14)
   (.op .idxS [(.v 10), (.v 12)]
   (.call 69 1 false [] [(.v 15)]
   (.jump 2 [(.v 16)])))
  (.jump 2 [(.c (.bool false))]))))
 ir59p3)
def ir59p5 : IR :=
 (.ite (.v 8)
  (.op (.bin .add false) [(.v 5), (.c (.int .i64 1))]
  (.jump 0 [(.v 4), (.v 9), (.v 6), (.v 7)]))
 (.op .lenS [(.v 4)]
 (.op .subS [(.v 4), (.v 5), (.v 9)]
 (.op (.bin .eql false) [(.v 10), (.c (.str []))]
 (.ite (.v 11)
  (.op .lenS [(.v 4)]
  (.ret [(.c (.str [])), (.c (.str [])), (.v 12), (.v 4), (.v 5), (.v 6), (.v 7)]))
 (.loop 1 [(.c (.int .i64 0))] ir59p4))))))
def ir59p6 : IR :=
 (.letj 1
  (.op .lenS [(.v 4)]
  (.op (.bin .lss false) [(.v 5), (.v 8)]
  (.ite (.v 9)
   (.op .idxS [(.v 4), (.v 5)]
   (.op (.bin .eql false) [(.v 10), (.c (.int .u8 32))]
   (.jump 1 [(.v 11)])))
  (.jump 1 [(.c (.bool false))]))))
 ir59p5)
def ir59 : IR :=
 (.loop 4 [(.v 0), (.v 1), (.v 2), (.v 3)] ir59p6)
theorem rd59 : readFn T SG sigs 3000 sg59 Tryd.f79 an59 = some ir59 := by kernel_rfl
/- 60:slices.Contains[[]string,string] -/
def an60 : Ann := .z
def ir60 : IR :=
 (.call 70 1 false [] [(.v 0), (.v 1)]
 (.op (.bin .geq false) [(.v 2), (.c (.int .i64 0))]
 (.ret [(.v 3)])))
theorem rd60 : readFn T SG sigs 3000 sg60 Tryd.f84 an60 = some ir60 := by kernel_rfl
/- 61:formula.value$1 -/
def an61 : Ann := .z
def ir61 : IR :=
 (.call 46 1 false [] [(.v 0), (.v 1), (.v 2), (.v 3)]
 (.ret [(.v 4), (.v 3)]))
theorem rd61 : readFn T SG sigs 3000 sg61 Tryd.f83 an61 = some ir61 := by kernel_rfl
/- 62:api.Formula] -/
def an62 : Ann := .z
def ir62 : IR :=
 (.call 71 2 false [] [(.v 0), (.v 1)]
 (.op (.bin .geq false) [(.v 2), (.c (.int .i64 0))]
 (.ret [(.v 4), (.v 3)])))
theorem rd62 : readFn T SG sigs 3000 sg62 Tryd.f85 an62 = some ir62 := by kernel_rfl
/- 63:api.Formula] -/
def an63 : Ann := .z
def ir63 : IR :=
 (.call 72 2 false [] [(.v 0), (.v 1)]
 (.op (.bin .geq false) [(.v 2), (.c (.int .i64 0))]
 (.ret [(.v 4), (.v 3)])))
theorem rd63 : readFn T SG sigs 3000 sg63 Tryd.f85 an63 = some ir63 := by kernel_rfl
/- 64:formula.Substitute$2 -/
def an64 : Ann := (.s none .z (.s none (.s (some ⟨1, [(0, .junk), (1, .junk), (4, .junk), (6, .junk), (14, (.atm (.v 0)))], [], 5, []⟩) .z .z) .z))
def ir64p0 : IR :=
 (.ite (.v 7)
  (.call 74 3 false [] [(.v 4), (.v 5), (.v 6)]
  (.ret [(.v 8), (.v 9), (.v 10), (.c (.bool true)), (.v 3), (.v 4), (.v 5), (.v 6)]))
 (.ret [(.c (.int .i64 0)), (.c (.str [])), (.c (.sl [])), (.c (.bool false)), (.v 3), (.v 4), (.v 5), (.v 6)]))
def ir64 : IR :=
 (.letj 1
  (.call 73 1 false [] [(.v 0), (.v 1), (.v 2)]
  (.ite (.v 7)
   (.op (.bin .eql false) [(.v 1), (.v 3)]
   (.jump 0 [(.v 8)]))
  (.jump 0 [(.c (.bool false))])))
 ir64p0)
theorem rd64 : readFn T SG sigs 3000 sg64 Tryd.f61 an64 = some ir64 := by kernel_rfl
/- 65:deliberationref02.insert -/
def an65 : Ann := (.s none .z (.s none .z (.s none (.b (.l ⟨1, [(4, .junk), (5, (.atm (.v 0)))], [], 0, []⟩ (.s none (.s (some ⟨1, [(18, (.atm (.v 0)))], [], 0, []⟩) .z .z) .z))) (.s none (.s (some ⟨1, [(18, .junk), (32, (.atm (.v 0)))], [], 0, []⟩) .z .z) .z))))
def ir65p0 : IR :=
 (.ite (.v 4)
  (.ret [(.v 0)])
 (.op (.subL 1) [(.v 0), (.c (.int .i64 0)), (.v 2)]
 (.op (.app 1 16) [(.c (.sl [])), (.v 5)]
 (.op (.mk 1 1) [(.v 1)]
 (.op (.app 1 16) [(.v 6), (.v 7)]
 (.op .lenL [(.v 0)]
 (.op (.subL 1) [(.v 0), (.v 2), (.v 9)]
 (.op (.app 1 16) [(.v 8), (.v 10)]
 (.ret [(.v 11)])))))))))
def ir65p1 : IR :=
 (.ite (.v 3)
  (.op (.bin .add false) [(.v 2), (.c (.int .i64 1))]
  (.jump 0 [(.v 4)]))
 (.letj 1
  (.op .lenL [(.v 0)]
  (.op (.bin .lss false) [(.v 2), (.v 4)]
  (.ite (.v 5)
   (.op (.row 1) [(.v 0), (.v 2)]
   (.op (.bin .eql false) [(.v 6), (.v 1)]
   (.jump 1 [(.v 7)])))
  (.jump 1 [(.c (.bool false))]))))
 ir65p0))
def ir65p2 : IR :=
 (.letj 1
  (.op .lenL [(.v 0)]
  (.op (.bin .lss false) [(.v 2), (.v 3)]
  (.ite (.v 4)
   (.op (.row 1) [(.v 0), (.v 2)]
   (.op (.bin .lss false) [(.v 5), (.v 1)]
   (.jump 1 [(.v 6)])))
  (.jump 1 [(.c (.bool false))]))))
 ir65p1)
def ir65 : IR :=
 (.loop 1 [(.c (.int .i64 0))] ir65p2)
theorem rd65 : readFn T SG sigs 3000 sg65 Tryd.f89 an65 = some ir65 := by kernel_rfl
/- 66:deliberationref02.strength -/
def an66 : Ann := .z
def ir66 : IR :=
 (.op (.bin .eql false) [(.v 0), (.c (.int .i64 8))]
 (.ite (.v 3)
  (.ret [(.c (.int .i64 1))])
 (.op (.bin .eql false) [(.v 0), (.c (.int .i64 7))]
 (.ite (.v 4)
  (.ret [(.c (.int .i64 2))])
 (.op (.bin .eql false) [(.v 0), (.c (.int .i64 6))]
 (.ite (.v 5)
  (.ret [(.c (.int .i64 3))])
 (.op (.bin .eql false) [(.v 0), (.c (.int .i64 5))]
 (.ite (.v 6)
  (.ret [(.c (.int .i64 4))])
 (.ret [(.c (.int .i64 5))])))))))))
theorem rd66 : readFn T SG sigs 3000 sg66 Tryd.f91 an66 = some ir66 := by kernel_rfl
/- 67:literal.ValidName -/
def an67 : Ann := (.s none .z (.s none (.s (some ⟨1, [(2, .junk), (12, (.atm (.v 0)))], [], 0, []⟩) .z .z) (.s none (.s none .z (.b (.l ⟨1, [(12, .junk), (13, .junk), (15, (.atm (.v 0)))], [], 0, []⟩ (.s none .z (.s none .z (.s (some ⟨0, [(16, .junk)], [], 0, []⟩) (.b (.s none .z (.s none .z (.b (.s (some ⟨1, [(16, .junk), (17, .junk), (18, .junk), (19, .junk), (20, .junk), (21, (.atm (.v 0)))], [], 0, []⟩) .z (.c .z (.s (some ⟨1, [(3, .junk), (4, .junk), (21, .junk), (28, (.atm (.v 0)))], [], 0, []⟩) .z .z))))))) .z)))))) .z)))
def ir67p0 : IR :=
 (.op (.bin .add false) [(.v 3), (.c (.int .i64 1))]
 (.jump 0 [(.v 5)]))
def ir67p1 : IR :=
 (.ite (.v 7)
  (.jump 1 [])
 (.ret [(.c (.bool false))]))
def ir67p2 : IR :=
 (.ite (.v 6)
  (.jump 1 [])
 (.letj 1
  (.op (.bin .gtr false) [(.v 3), (.c (.int .i64 0))]
  (.ite (.v 7)
   (.op (.bin .geq false) [(.v 5), (.c (.int .u8 48))]
   (.ite (.v 8)
    (.op (.bin .leq false) [(.v 5), (.c (.int .u8 57))]
    (.ite (.v 9)
     (.jump 2 [(.c (.bool true))])
    (.op (.bin .eql false) [(.v 5), (.c (.int .u8 95))]
    (.jump 2 [(.v 10)]))))
   (.op (.bin .eql false) [(.v 5), (.c (.int .u8 95))]
   (.jump 2 [(.v 9)]))))
  (.jump 2 [(.c (.bool false))])))
 ir67p1))
def ir67p3 : IR :=
 (.op (.bin .lss false) [(.v 3), (.v 2)]
 (.ite (.v 4)
  (.letj 0
   (.op .idxS [(.v 0), (.v 3)]
   (.letj 1
    (.op (.bin .geq false) [(.v 5), (.c (.int .u8 97))]
    (.ite (.v 6)
     (.op (.bin .leq false) [(.v 5), (.c (.int .u8 122))]
     (.jump 2 [(.v 7)]))
    (.jump 2 [(.c (.bool false))])))
   ir67p2))
  ir67p0)
 (.ret [(.c (.bool true))])))
def ir67p4 : IR :=
 (.ite (.v 1)
  (.ret [(.c (.bool false))])
 (.op .lenS [(.v 0)]
 (.loop 1 [(.c (.int .i64 0))] ir67p3)))
def ir67 : IR :=
 (.letj 1
  (.op .lenS [(.v 0)]
  (.op (.bin .eql false) [(.v 1), (.c (.int .i64 0))]
  (.ite (.v 2)
   (.jump 0 [(.c (.bool true))])
  (.op .lenS [(.v 0)]
  (.op (.bin .gtr false) [(.v 3), (.c (.int .i64 12))]
  (.jump 0 [(.v 4)]))))))
 ir67p4)
theorem rd67 : readFn T SG sigs 3000 sg67 Tryd.f76 an67 = some ir67 := by kernel_rfl
/- 68:formula.parser).or -/
def an68 : Ann := .z
def ir68 : IR :=
 (.call 75 7 false [] [(.c (.int .i64 6)), (.c (.str [124])), (.v 0), (.v 1), (.v 2), (.v 3)]
 (.ret [(.v 4), (.v 5), (.v 6), (.v 7), (.v 8), (.v 9), (.v 10)]))
theorem rd68 : readFn T SG sigs 3000 sg68 Tryd.f92 an68 = some ir68 := by kernel_rfl
/- 69:formula.word -/
def an69 : Ann := .z
def ir69 : IR :=
 (.op (.bin .geq false) [(.v 0), (.c (.int .u8 97))]
 (.ite (.v 1)
  (.op (.bin .leq false) [(.v 0), (.c (.int .u8 122))]
  (.ite (.v 2)
   (.ret [(.c (.bool true))])
  (.op (.bin .geq false) [(.v 0), (.c (.int .u8 65))]
  (.ite (.v 3)
   (.op (.bin .leq false) [(.v 0), (.c (.int .u8 90))]
   (.ite (.v 4)
    (.ret [(.c (.bool true))])
   (.op (.bin .geq false) [(.v 0), (.c (.int .u8 48))]
   (.ite (.v 5)
    (.op (.bin .leq false) [(.v 0), (.c (.int .u8 57))]
    (.ite (.v 6)
     (.ret [(.c (.bool true))])
    (.op (.bin .eql false) [(.v 0), (.c (.int .u8 95))]
    (.ret [(.v 7)]))))
   (.op (.bin .eql false) [(.v 0), (.c (.int .u8 95))]
   (.ret [(.v 6)]))))))
  (.op (.bin .geq false) [(.v 0), (.c (.int .u8 48))]
  (.ite (.v 4)
   (.op (.bin .leq false) [(.v 0), (.c (.int .u8 57))]
   (.ite (.v 5)
    (.ret [(.c (.bool true))])
   (.op (.bin .eql false) [(.v 0), (.c (.int .u8 95))]
   (.ret [(.v 6)]))))
  (.op (.bin .eql false) [(.v 0), (.c (.int .u8 95))]
  (.ret [(.v 5)]))))))))
 (.op (.bin .geq false) [(.v 0), (.c (.int .u8 65))]
 (.ite (.v 2)
  (.op (.bin .leq false) [(.v 0), (.c (.int .u8 90))]
  (.ite (.v 3)
   (.ret [(.c (.bool true))])
  (.op (.bin .geq false) [(.v 0), (.c (.int .u8 48))]
  (.ite (.v 4)
   (.op (.bin .leq false) [(.v 0), (.c (.int .u8 57))]
   (.ite (.v 5)
    (.ret [(.c (.bool true))])
   (.op (.bin .eql false) [(.v 0), (.c (.int .u8 95))]
   (.ret [(.v 6)]))))
  (.op (.bin .eql false) [(.v 0), (.c (.int .u8 95))]
  (.ret [(.v 5)]))))))
 (.op (.bin .geq false) [(.v 0), (.c (.int .u8 48))]
 (.ite (.v 3)
  (.op (.bin .leq false) [(.v 0), (.c (.int .u8 57))]
  (.ite (.v 4)
   (.ret [(.c (.bool true))])
  (.op (.bin .eql false) [(.v 0), (.c (.int .u8 95))]
  (.ret [(.v 5)]))))
 (.op (.bin .eql false) [(.v 0), (.c (.int .u8 95))]
 (.ret [(.v 4)]))))))))
theorem rd69 : readFn T SG sigs 3000 sg69 Tryd.f93 an69 = some ir69 := by kernel_rfl
/- 70:slices.Index[[]string,string] -/
def an70 : Ann := (.s none .z (.s none (.s none .z (.b (.l ⟨1, [(4, .junk), (6, .junk), (8, (.atm (.v 0)))], [], 0, []⟩ .z))) .z))
def ir70p0 : IR :=
 (.op (.bin .lss false) [(.v 3), (.v 2)]
 (.ite (.v 4)
  (.op (.row 1) [(.v 0), (.v 3)]
  (.op (.bin .eql false) [(.v 1), (.v 5)]
  (.ite (.v 6)
   (.ret [(.v 3)])
  (.op (.bin .add false) [(.v 3), (.c (.int .i64 1))]
  (.jump 0 [(.v 7)])))))
 (.ret [(.c (.int .i64 (-1)))])))
def ir70 : IR :=
 (.op .lenL [(.v 0)]
 (.loop 1 [(.c (.int .i64 0))] ir70p0))
theorem rd70 : readFn T SG sigs 3000 sg70 Tryd.f95 an70 = some ir70 := by kernel_rfl
/- 71:api.Formula] -/
def an71 : Ann := (.s none .z (.s none (.s none .z (.b (.l ⟨2, [(4, .junk), (6, .junk), (8, (.atm (.v 0)))], [(0, ⟨false, false, 42, 1, (.c (.sl [])), [[(.atm (.v 1))]]⟩)], 1, []⟩ .z))) .z))
def ir71p0 : IR :=
 (.op (.bin .lss false) [(.v 3), (.v 2)]
 (.ite (.v 5)
  (.op (.row 3) [(.v 0), (.v 3)]
  (.call 61 2 false [] [(.v 6), (.v 7), (.v 8), (.v 4)]
  (.ite (.v 9)
   (.ret [(.v 3), (.v 10)])
  (.op (.bin .add false) [(.v 3), (.c (.int .i64 1))]
  (.jump 0 [(.v 11), (.v 10)])))))
 (.ret [(.c (.int .i64 (-1))), (.v 4)])))
def ir71 : IR :=
 (.op .lenL [(.v 0)]
 (.loop 2 [(.c (.int .i64 0)), (.v 1)] ir71p0))
theorem rd71 : readFn T SG sigs 3000 sg71 Tryd.f96 an71 = some ir71 := by kernel_rfl
/- 72:api.Formula] -/
def an72 : Ann := (.s none .z (.s none (.s none .z (.b (.l ⟨2, [(4, .junk), (6, .junk), (8, (.atm (.v 0)))], [(1, ⟨false, false, 42, 1, (.c (.sl [])), [[(.atm (.v 1))]]⟩)], 2, []⟩ .z))) .z))
def ir72p0 : IR :=
 (.op (.bin .lss false) [(.v 3), (.v 2)]
 (.ite (.v 5)
  (.op (.row 3) [(.v 0), (.v 3)]
  (.call 76 2 false [] [(.v 6), (.v 7), (.v 8), (.v 4)]
  (.ite (.v 9)
   (.ret [(.v 3), (.v 10)])
  (.op (.bin .add false) [(.v 3), (.c (.int .i64 1))]
  (.jump 0 [(.v 11), (.v 10)])))))
 (.ret [(.c (.int .i64 (-1))), (.v 4)])))
def ir72 : IR :=
 (.op .lenL [(.v 0)]
 (.loop 2 [(.c (.int .i64 0)), (.v 1)] ir72p0))
theorem rd72 : readFn T SG sigs 3000 sg72 Tryd.f96 an72 = some ir72 := by kernel_rfl
/- 73:formula.atom -/
def an73 : Ann := .z
def ir73 : IR :=
 (.op (.bin .eql false) [(.v 0), (.c (.int .i64 3))]
 (.ite (.v 3)
  (.op .lenL [(.v 2)]
  (.op (.bin .eql false) [(.v 4), (.c (.int .i64 0))]
  (.ret [(.v 5)])))
 (.ret [(.c (.bool false))])))
theorem rd73 : readFn T SG sigs 3000 sg73 Tryd.f62 an73 = some ir73 := by kernel_rfl
/- 74:formula.replace -/
def an74 : Ann := (.s none .z (.s none .z (.s none .z (.s none (.s none .z (.b (.l ⟨2, [(0, .junk), (2, .junk), (5, .junk), (6, .junk), (10, .junk), (11, .junk), (12, .junk), (13, .junk), (14, .junk), (15, .junk), (16, .junk), (18, .junk), (19, .junk), (20, .junk), (21, .junk), (22, .junk), (23, .junk), (26, (.atm (.v 0)))], [(4, ⟨false, true, 24, 3, (.v 1), []⟩)], 5, [⟨some (3, 0, 2), 0, 24, 3⟩]⟩ .z))) .z))))
def ir74p0 : IR :=
 (.op (.bin .lss false) [(.v 8), (.v 7)]
 (.ite (.v 10)
  (.op (.row 3) [(.v 2), (.v 8)]
  (.call 74 3 false [] [(.v 11), (.v 12), (.v 13)]
  (.op (.mk 3 1) [(.v 14), (.v 15), (.v 16)]
  (.op (.app 3 48) [(.v 9), (.v 17)]
  (.op (.bin .add false) [(.v 8), (.c (.int .i64 1))]
  (.jump 0 [(.v 19), (.v 18)]))))))
 (.ret [(.v 0), (.v 1), (.v 9)])))
def ir74 : IR :=
 (.call 77 4 false [] [(.v 0), (.v 1), (.v 2)]
 (.ite (.v 6)
  (.ret [(.v 3), (.v 4), (.v 5)])
 (.op .lenL [(.v 2)]
 (.loop 2 [(.c (.int .i64 0)), (.c (.sl []))] ir74p0))))
theorem rd74 : readFn T SG sigs 3000 sg74 Tryd.f60 an74 = some ir74 := by kernel_rfl
/- 75:formula.parser).many -/
def an75 : Ann := (.s none .z (.s none .z (.s none .z (.s none .z (.s none (.b (.l ⟨5, [(1, .junk), (9, .junk), (11, .junk), (12, .junk), (13, .junk), (14, .junk), (15, .junk), (16, .junk), (17, .junk), (19, .junk), (20, .junk), (21, .junk), (22, .junk)], [(0, ⟨false, false, 70, 4, (.c (.sl [])), [[(.atm (.v 0)), (.atm (.v 1)), (.atm (.v 2)), (.atm (.v 3))]]⟩), (3, ⟨false, true, 24, 3, (.v 4), []⟩)], 5, []⟩ .z)) (.s (some ⟨4, [(0, .junk), (2, .junk), (3, .junk), (23, .junk), (24, .junk), (25, .junk)], [(0, ⟨false, false, 70, 4, (.c (.sl [])), [[(.atm (.v 0)), (.atm (.v 1)), (.atm (.v 2)), (.atm (.v 3))]]⟩)], 5, []⟩) .z .z))))))
def ir75p0 : IR :=
 (.ret [(.v 0), (.c (.str [])), (.v 26), (.v 32), (.v 33), (.v 34), (.v 35)])
def ir75p1 : IR :=
 (.call 44 5 false [] [(.v 1), (.v 22), (.v 23), (.v 24), (.v 25)]
 (.ite (.v 27)
  (.call 78 7 false [] [(.v 28), (.v 29), (.v 30), (.v 31)]
  (.op (.mk 3 1) [(.v 32), (.v 33), (.v 34)]
  (.op (.app 3 48) [(.v 26), (.v 39)]
  (.jump 0 [(.v 35), (.v 36), (.v 37), (.v 38), (.v 40)]))))
 (.letj 4
  (.ite (.v 31)
   (.jump 1 [(.v 28), (.v 29), (.v 30), (.c (.bool true))])
  (.op .lenL [(.v 26)]
  (.op (.bin .gtr false) [(.v 32), (.c (.int .i64 6))]
  (.jump 1 [(.v 28), (.v 29), (.v 30), (.v 33)]))))
 ir75p0)))
def ir75 : IR :=
 (.call 78 7 false [] [(.v 2), (.v 3), (.v 4), (.v 5)]
 (.call 59 7 false [] [(.v 9), (.v 10), (.v 11), (.v 12)]
 (.op (.bin .neq false) [(.v 13), (.v 1)]
 (.ite (.v 20)
  (.ret [(.v 6), (.v 7), (.v 8), (.v 16), (.v 17), (.v 18), (.v 19)])
 (.op (.mk 3 1) [(.v 6), (.v 7), (.v 8)]
 (.loop 5 [(.v 16), (.v 17), (.v 18), (.v 19), (.v 21)] ir75p1))))))
theorem rd75 : readFn T SG sigs 3000 sg75 Tryd.f109 an75 = some ir75 := by kernel_rfl
/- 76:formula.value$2 -/
def an76 : Ann := .z
def ir76 : IR :=
 (.call 61 2 false [] [(.v 0), (.v 1), (.v 2), (.v 3)]
 (.op (.un .not) [(.v 4)]
 (.ret [(.v 6), (.v 5)])))
theorem rd76 : readFn T SG sigs 3000 sg76 Tryd.f86 an76 = some ir76 := by kernel_rfl
/- 77:formula.Substitute$1 -/
def an77 : Ann := .z
def ir77 : IR :=
 (.ret [(.c (.int .i64 0)), (.c (.str [])), (.c (.sl [])), (.c (.bool false))])
theorem rd77 : readFn T SG sigs 3000 sg77 Tryd.f59 an77 = some ir77 := by kernel_rfl
/- 78:formula.parser).and -/
def an78 : Ann := .z
def ir78 : IR :=
 (.call 79 7 false [] [(.c (.int .i64 5)), (.c (.str [38])), (.v 0), (.v 1), (.v 2), (.v 3)]
 (.ret [(.v 4), (.v 5), (.v 6), (.v 7), (.v 8), (.v 9), (.v 10)]))
theorem rd78 : readFn T SG sigs 3000 sg78 Tryd.f110 an78 = some ir78 := by kernel_rfl
/- 79:formula.parser).many -/
def an79 : Ann := (.s none .z (.s none .z (.s none .z (.s none .z (.s none (.b (.l ⟨5, [(1, .junk), (9, .junk), (11, .junk), (12, .junk), (13, .junk), (14, .junk), (15, .junk), (16, .junk), (17, .junk), (19, .junk), (20, .junk), (21, .junk), (22, .junk)], [(0, ⟨false, false, 70, 4, (.c (.sl [])), [[(.atm (.v 0)), (.atm (.v 1)), (.atm (.v 2)), (.atm (.v 3))]]⟩), (3, ⟨false, true, 24, 3, (.v 4), []⟩)], 5, []⟩ .z)) (.s (some ⟨4, [(0, .junk), (2, .junk), (3, .junk), (23, .junk), (24, .junk), (25, .junk)], [(0, ⟨false, false, 70, 4, (.c (.sl [])), [[(.atm (.v 0)), (.atm (.v 1)), (.atm (.v 2)), (.atm (.v 3))]]⟩)], 5, []⟩) .z .z))))))
def ir79p0 : IR :=
 (.ret [(.v 0), (.c (.str [])), (.v 26), (.v 32), (.v 33), (.v 34), (.v 35)])
def ir79p1 : IR :=
 (.call 44 5 false [] [(.v 1), (.v 22), (.v 23), (.v 24), (.v 25)]
 (.ite (.v 27)
  (.call 80 7 false [] [(.v 28), (.v 29), (.v 30), (.v 31)]
  (.op (.mk 3 1) [(.v 32), (.v 33), (.v 34)]
  (.op (.app 3 48) [(.v 26), (.v 39)]
  (.jump 0 [(.v 35), (.v 36), (.v 37), (.v 38), (.v 40)]))))
 (.letj 4
  (.ite (.v 31)
   (.jump 1 [(.v 28), (.v 29), (.v 30), (.c (.bool true))])
  (.op .lenL [(.v 26)]
  (.op (.bin .gtr false) [(.v 32), (.c (.int .i64 6))]
  (.jump 1 [(.v 28), (.v 29), (.v 30), (.v 33)]))))
 ir79p0)))
def ir79 : IR :=
 (.call 80 7 false [] [(.v 2), (.v 3), (.v 4), (.v 5)]
 (.call 59 7 false [] [(.v 9), (.v 10), (.v 11), (.v 12)]
 (.op (.bin .neq false) [(.v 13), (.v 1)]
 (.ite (.v 20)
  (.ret [(.v 6), (.v 7), (.v 8), (.v 16), (.v 17), (.v 18), (.v 19)])
 (.op (.mk 3 1) [(.v 6), (.v 7), (.v 8)]
 (.loop 5 [(.v 16), (.v 17), (.v 18), (.v 19), (.v 21)] ir79p1))))))
theorem rd79 : readFn T SG sigs 3000 sg79 Tryd.f109 an79 = some ir79 := by kernel_rfl
/- 80:formula.parser).unary -/
def an80 : Ann := .z
def ir80 : IR :=
 (.call 59 7 false [] [(.v 0), (.v 1), (.v 2), (.v 3)]
 (.op (.bin .geq false) [(.v 9), (.c (.int .i64 0))]
 (.ite (.v 11)
  (.ret [(.c (.int .i64 0)), (.c (.str [])), (.c (.sl [])), (.v 7), (.v 8), (.v 9), (.v 10)])
 (.call 44 5 false [] [(.c (.str [110, 97, 109, 101])), (.v 7), (.v 8), (.v 9), (.v 10)]
 (.ite (.v 12)
  (.ret [(.c (.int .i64 3)), (.v 5), (.c (.sl [])), (.v 13), (.v 14), (.v 15), (.v 16)])
 (.call 44 5 false [] [(.c (.str [48])), (.v 13), (.v 14), (.v 15), (.v 16)]
 (.ite (.v 17)
  (.ret [(.c (.int .i64 2)), (.c (.str [])), (.c (.sl [])), (.v 18), (.v 19), (.v 20), (.v 21)])
 (.call 44 5 false [] [(.c (.str [49])), (.v 18), (.v 19), (.v 20), (.v 21)]
 (.ite (.v 22)
  (.ret [(.c (.int .i64 1)), (.c (.str [])), (.c (.sl [])), (.v 23), (.v 24), (.v 25), (.v 26)])
 (.call 44 5 false [] [(.c (.str [126])), (.v 23), (.v 24), (.v 25), (.v 26)]
 (.ite (.v 27)
  (.call 80 7 false [] [(.v 28), (.v 29), (.v 30), (.v 31)]
  (.op (.mk 3 1) [(.v 32), (.v 33), (.v 34)]
  (.ret [(.c (.int .i64 4)), (.c (.str [])), (.v 39), (.v 35), (.v 36), (.v 37), (.v 38)])))
 (.call 44 5 false [] [(.c (.str [40])), (.v 28), (.v 29), (.v 30), (.v 31)]
 (.ite (.v 32)
  (.call 43 7 false [] [(.v 33), (.v 34), (.v 35), (.v 36)]
  (.call 44 5 false [] [(.c (.str [41])), (.v 40), (.v 41), (.v 42), (.v 43)]
  (.op (.un .not) [(.v 44)]
  (.ite (.v 49)
   (.call 45 7 false [] [(.v 45), (.v 46), (.v 47), (.v 48)]
   (.ret [(.v 50), (.v 51), (.v 52), (.v 53), (.v 54), (.v 55), (.v 56)]))
  (.ret [(.v 37), (.v 38), (.v 39), (.v 45), (.v 46), (.v 47), (.v 48)])))))
 (.call 45 7 false [] [(.v 33), (.v 34), (.v 35), (.v 36)]
 (.ret [(.v 37), (.v 38), (.v 39), (.v 40), (.v 41), (.v 42), (.v 43)])))))))))))))))
theorem rd80 : readFn T SG sigs 3000 sg80 Tryd.f118 an80 = some ir80 := by kernel_rfl
end Go.Proofs.YtgmnlkjoiakoaaaDoor

/- The plain programs that the reader finds for the functions of the program, checked by the kernel. -/
import Derived.Test.YtgmnlkjoiakoaaaDoorSe21
import Derived.Test.YtgmnlkjoiakoaaaDoorProg
import Derived.KernelRfl
set_option linter.unusedSimpArgs false
set_option linter.unusedVariables false
set_option linter.unusedSectionVars false
namespace Go.Proofs.YtgmnlkjoiakoaaaDoor
open Go Am
set_option maxRecDepth 100000
abbrev fnD (f : Nat) : D := .raw (.func (.func f) #[] #[])
abbrev undD : D := .raw (.tuple #[])
def T : Tab := [
  (3, ⟨1, 8, true, true, false, none, none, (some .i64), false, false, (some (.int .i64 0)), [], none⟩),
  (4, ⟨1, 1, true, true, false, none, none, none, false, true, (some (.bool false)), [], none⟩),
  (5, ⟨1, 1, true, true, false, none, none, (some .u8), false, false, (some (.int .u8 0)), [], none⟩),
  (9, ⟨1, 16, true, true, false, none, none, none, true, false, (some (.string ⟨⟨[]⟩⟩)), [], none⟩),
  (22, ⟨1, 24, true, true, false, (some 24), none, none, false, false, (some (.slice none 0 0)), [], none⟩),
  (24, ⟨3, 48, true, true, true, none, none, none, false, false, (some (.agg #[(.int .i64 0), (.string ⟨⟨[]⟩⟩), (.slice none 0 0)])), [(0, 3), (1, 9), (2, 22)], (some [(0, 1), (1, 1), (2, 1)])⟩),
  (25, ⟨1, 24, true, true, false, (some 3), none, none, false, false, (some (.slice none 0 0)), [], none⟩),
  (26, ⟨1, 8, true, true, false, none, none, none, false, false, (some .nilFunc), [], none⟩),
  (27, ⟨1, 8, true, true, false, none, none, none, false, false, (some (.pointer none)), [], none⟩),
  (31, ⟨1, 8, true, true, false, none, none, (some .i64), false, false, (some (.int .i64 0)), [], none⟩),
  (38, ⟨1, 24, true, true, false, (some 5), none, none, false, false, (some (.slice none 0 0)), [], none⟩),
  (42, ⟨1, 24, true, true, false, (some 9), none, none, false, false, (some (.slice none 0 0)), [], none⟩),
  (59, ⟨2, 32, true, true, true, none, none, none, false, false, (some (.agg #[(.slice none 0 0), (.int .i64 0)])), [(0, 25), (1, 3)], (some [(0, 1), (1, 1)])⟩),
  (60, ⟨1, 8, true, true, false, none, none, none, false, false, (some (.pointer none)), [], none⟩),
  (62, ⟨2, 32, true, true, true, none, none, none, false, false, (some (.agg #[(.pointer none), (.slice none 0 0)])), [(0, 60), (1, 38)], (some [(0, 1), (1, 1)])⟩),
  (68, ⟨1, 8, true, true, false, none, none, none, false, false, (some (.pointer none)), [], none⟩),
  (70, ⟨4, 40, true, true, true, none, none, none, false, false, (some (.agg #[(.string ⟨⟨[]⟩⟩), (.int .i64 0), (.int .i64 0), (.bool false)])), [(0, 9), (1, 3), (2, 3), (3, 4)], (some [(0, 1), (1, 1), (2, 1), (3, 1)])⟩),
  (71, ⟨1, 8, true, true, false, none, none, none, false, false, (some .nilFunc), [], none⟩),
  (94, ⟨3, 40, true, true, true, none, none, none, false, false, (some (.agg #[(.string ⟨⟨[]⟩⟩), (.string ⟨⟨[]⟩⟩), (.int .i64 0)])), [(0, 9), (1, 9), (2, 3)], (some [(0, 1), (1, 1), (2, 1)])⟩)]
theorem tok : TOK Tryd.prog T := tok_of (by kernel_rfl)
def SG : SGlob := []
def sg0 : Sig := ⟨3, 4, [], [(.agg [(.atm (.v 0)), (.atm (.v 1)), (.atm (.v 2))]), (.atm (.v 3))], 1, [], (.atm (.v 0))⟩
def sg1 : Sig := ⟨4, 4, [], [(.atm (.v 0)), (.atm (.v 1)), (.atm (.v 2)), (.atm (.v 3))], 1, [], (.atm (.v 0))⟩
def sg2 : Sig := ⟨5, 2, [], [(.atm (.v 0)), (.atm (.v 1))], 1, [], (.atm (.v 0))⟩
def sg3 : Sig := ⟨6, 1, [], [(.atm (.v 0))], 1, [], (.atm (.v 0))⟩
def sg4 : Sig := ⟨7, 1, [], [(.atm (.v 0))], 1, [], (.atm (.v 0))⟩
def sg5 : Sig := ⟨11, 3, [], [(.agg [(.atm (.v 0)), (.atm (.v 1)), (.atm (.v 2))])], 1, [], (.atm (.v 0))⟩
def sg6 : Sig := ⟨12, 1, [], [(.atm (.v 0))], 2, [⟨false, false, 59, 2, (.c (.sl [])), [[(.atm (.v 0)), (.atm (.v 1))]]⟩], (.ptr 0 0 0)⟩
def sg7 : Sig := ⟨13, 4, [⟨false, false, 59, 2, (.c (.sl [])), [[(.atm (.v 2)), (.atm (.v 3))]]⟩], [(.ptr 0 0 0), (.atm (.v 0)), (.atm (.v 1))], 5, [⟨false, false, 59, 2, (.c (.sl [])), [[(.atm (.v 3)), (.atm (.v 4))]]⟩], (.agg [(.atm (.v 0)), (.atm (.v 1)), (.atm (.v 2))])⟩
def sg8 : Sig := ⟨14, 5, [⟨false, false, 59, 2, (.c (.sl [])), [[(.atm (.v 3)), (.atm (.v 4))]]⟩], [(.ptr 0 0 0), (.agg [(.atm (.v 0)), (.atm (.v 1)), (.atm (.v 2))])], 5, [⟨false, false, 59, 2, (.c (.sl [])), [[(.atm (.v 3)), (.atm (.v 4))]]⟩], (.agg [(.atm (.v 0)), (.atm (.v 1)), (.atm (.v 2))])⟩
def sg9 : Sig := ⟨15, 3, [], [(.agg [(.atm (.v 0)), (.atm (.v 1)), (.atm (.v 2))])], 2, [], (.tup [(.atm (.v 0)), (.atm (.v 1))])⟩
def sg10 : Sig := ⟨16, 3, [], [(.agg [(.atm (.v 0)), (.atm (.v 1)), (.atm (.v 2))])], 2, [], (.tup [(.atm (.v 0)), (.atm (.v 1))])⟩
def sg11 : Sig := ⟨17, 3, [], [(.agg [(.atm (.v 0)), (.atm (.v 1)), (.atm (.v 2))])], 1, [], (.atm (.v 0))⟩
def sg12 : Sig := ⟨18, 3, [], [(.agg [(.atm (.v 0)), (.atm (.v 1)), (.atm (.v 2))])], 1, [], (.atm (.v 0))⟩
def sg13 : Sig := ⟨19, 3, [], [(.agg [(.atm (.v 0)), (.atm (.v 1)), (.atm (.v 2))])], 1, [], (.atm (.v 0))⟩
def sg14 : Sig := ⟨20, 3, [], [(.agg [(.atm (.v 0)), (.atm (.v 1)), (.atm (.v 2))])], 1, [], (.atm (.v 0))⟩
def sg15 : Sig := ⟨21, 3, [], [(.agg [(.atm (.v 0)), (.atm (.v 1)), (.atm (.v 2))])], 1, [], (.atm (.v 0))⟩
def sg16 : Sig := ⟨22, 3, [], [(.agg [(.atm (.v 0)), (.atm (.v 1)), (.atm (.v 2))])], 1, [], (.atm (.v 0))⟩
def sg17 : Sig := ⟨23, 0, [], [], 1, [], (.atm (.v 0))⟩
def sg18 : Sig := ⟨27, 1, [], [(.atm (.v 0))], 5, [], (.tup [(.agg [(.atm (.v 0)), (.atm (.v 1)), (.atm (.v 2))]), (.atm (.v 3)), (.atm (.v 4))])⟩
def sg19 : Sig := ⟨29, 6, [], [(.agg [(.atm (.v 0)), (.atm (.v 1)), (.atm (.v 2))]), (.agg [(.atm (.v 3)), (.atm (.v 4)), (.atm (.v 5))])], 1, [], (.atm (.v 0))⟩
def sg20 : Sig := ⟨24, 2, [], [(.atm (.v 0)), (.atm (.v 1))], 1, [], (.atm (.v 0))⟩
def sg21 : Sig := ⟨30, 2, [], [(.atm (.v 0)), (.atm (.v 1))], 3, [], (.agg [(.atm (.v 0)), (.atm (.v 1)), (.atm (.v 2))])⟩
def sg22 : Sig := ⟨31, 3, [⟨false, false, 59, 2, (.c (.sl [])), [[(.atm (.v 1)), (.atm (.v 2))]]⟩], [(.ptr 0 0 0), (.atm (.v 0))], 3, [⟨false, false, 59, 2, (.c (.sl [])), [[(.atm (.v 1)), (.atm (.v 2))]]⟩], (.atm (.v 0))⟩
def sg23 : Sig := ⟨32, 4, [], [(.agg [(.atm (.v 0)), (.atm (.v 1)), (.atm (.v 2))]), (.atm (.v 3))], 1, [], (.atm (.v 0))⟩
def sg24 : Sig := ⟨35, 4, [], [(.agg [(.atm (.v 0)), (.atm (.v 1)), (.atm (.v 2))]), (.atm (.v 3))], 1, [], (.atm (.v 0))⟩
def sg25 : Sig := ⟨40, 4, [], [(.agg [(.atm (.v 0)), (.atm (.v 1)), (.atm (.v 2))]), (.atm (.v 3))], 1, [], (.atm (.v 0))⟩
def sg26 : Sig := ⟨41, 3, [], [(.agg [(.atm (.v 0)), (.atm (.v 1)), (.atm (.v 2))])], 1, [], (.atm (.v 0))⟩
def sg27 : Sig := ⟨25, 3, [⟨false, false, 59, 2, (.c (.sl [])), [[(.atm (.v 1)), (.atm (.v 2))]]⟩], [(.ptr 0 0 0), (.atm (.v 0))], 3, [⟨false, false, 59, 2, (.c (.sl [])), [[(.atm (.v 1)), (.atm (.v 2))]]⟩], (.atm (.v 0))⟩
def sg28 : Sig := ⟨26, 3, [⟨false, false, 59, 2, (.c (.sl [])), [[(.atm (.v 1)), (.atm (.v 2))]]⟩], [(.ptr 0 0 0), (.atm (.v 0))], 3, [⟨false, false, 59, 2, (.c (.sl [])), [[(.atm (.v 1)), (.atm (.v 2))]]⟩], (.atm (.v 0))⟩
def sg29 : Sig := ⟨45, 3, [], [(.agg [(.atm (.v 0)), (.atm (.v 1)), (.atm (.v 2))])], 1, [], (.atm (.v 0))⟩
def sg30 : Sig := ⟨46, 3, [], [(.agg [(.atm (.v 0)), (.atm (.v 1)), (.atm (.v 2))]), (.atm (.c (fnD 47)))], 1, [], (.atm (.v 0))⟩
def sg31 : Sig := ⟨46, 3, [], [(.agg [(.atm (.v 0)), (.atm (.v 1)), (.atm (.v 2))]), (.atm (.c (fnD 48)))], 1, [], (.atm (.v 0))⟩
def sg32 : Sig := ⟨49, 3, [], [(.agg [(.atm (.v 0)), (.atm (.v 1)), (.atm (.v 2))])], 1, [], (.atm (.v 0))⟩
def sg33 : Sig := ⟨50, 3, [], [(.agg [(.atm (.v 0)), (.atm (.v 1)), (.atm (.v 2))])], 1, [], (.atm (.v 0))⟩
def sg34 : Sig := ⟨52, 4, [⟨false, false, 70, 4, (.c (.sl [])), [[(.atm (.v 0)), (.atm (.v 1)), (.atm (.v 2)), (.atm (.v 3))]]⟩], [(.ptr 0 0 0)], 7, [⟨false, false, 70, 4, (.c (.sl [])), [[(.atm (.v 3)), (.atm (.v 4)), (.atm (.v 5)), (.atm (.v 6))]]⟩], (.agg [(.atm (.v 0)), (.atm (.v 1)), (.atm (.v 2))])⟩
def sg35 : Sig := ⟨53, 5, [⟨false, false, 70, 4, (.c (.sl [])), [[(.atm (.v 1)), (.atm (.v 2)), (.atm (.v 3)), (.atm (.v 4))]]⟩], [(.ptr 0 0 0), (.atm (.v 0))], 5, [⟨false, false, 70, 4, (.c (.sl [])), [[(.atm (.v 1)), (.atm (.v 2)), (.atm (.v 3)), (.atm (.v 4))]]⟩], (.atm (.v 0))⟩
def sg36 : Sig := ⟨54, 4, [⟨false, false, 70, 4, (.c (.sl [])), [[(.atm (.v 0)), (.atm (.v 1)), (.atm (.v 2)), (.atm (.v 3))]]⟩], [(.ptr 0 0 0)], 7, [⟨false, false, 70, 4, (.c (.sl [])), [[(.atm (.v 3)), (.atm (.v 4)), (.atm (.v 5)), (.atm (.v 6))]]⟩], (.agg [(.atm (.v 0)), (.atm (.v 1)), (.atm (.v 2))])⟩
def sg37 : Sig := ⟨58, 4, [], [(.agg [(.atm (.v 0)), (.atm (.v 1)), (.atm (.v 2))]), (.atm (.v 3))], 1, [], (.atm (.v 0))⟩
def sg38 : Sig := ⟨51, 2, [⟨false, false, 59, 2, (.c (.sl [])), [[(.atm (.v 0)), (.atm (.v 1))]]⟩], [(.ptr 0 0 0)], 3, [⟨false, false, 59, 2, (.c (.sl [])), [[(.atm (.v 1)), (.atm (.v 2))]]⟩], (.atm (.v 0))⟩
def sg39 : Sig := ⟨74, 4, [], [(.agg [(.atm (.v 0)), (.atm (.v 1)), (.atm (.v 2))]), (.atm (.v 3))], 1, [], (.atm (.v 0))⟩
def sg40 : Sig := ⟨75, 3, [], [(.atm (.v 0)), (.atm (.v 1)), (.atm (.v 2))], 1, [], (.atm (.v 0))⟩
def sg41 : Sig := ⟨47, 3, [], [(.agg [(.atm (.v 0)), (.atm (.v 1)), (.atm (.v 2))])], 1, [], (.atm (.v 0))⟩
def sg42 : Sig := ⟨48, 3, [], [(.agg [(.atm (.v 0)), (.atm (.v 1)), (.atm (.v 2))])], 1, [], (.atm (.v 0))⟩
def sg43 : Sig := ⟨77, 1, [], [(.atm (.v 0))], 1, [], (.atm (.v 0))⟩
def sg44 : Sig := ⟨78, 4, [⟨false, false, 70, 4, (.c (.sl [])), [[(.atm (.v 0)), (.atm (.v 1)), (.atm (.v 2)), (.atm (.v 3))]]⟩], [(.ptr 0 0 0)], 7, [⟨false, false, 70, 4, (.c (.sl [])), [[(.atm (.v 3)), (.atm (.v 4)), (.atm (.v 5)), (.atm (.v 6))]]⟩], (.agg [(.atm (.v 0)), (.atm (.v 1)), (.atm (.v 2))])⟩
def sg45 : Sig := ⟨79, 4, [⟨false, false, 70, 4, (.c (.sl [])), [[(.atm (.v 0)), (.atm (.v 1)), (.atm (.v 2)), (.atm (.v 3))]]⟩], [(.ptr 0 0 0)], 7, [⟨false, false, 70, 4, (.c (.sl [])), [[(.atm (.v 3)), (.atm (.v 4)), (.atm (.v 5)), (.atm (.v 6))]]⟩], (.agg [(.atm (.v 0)), (.atm (.v 1)), (.atm (.v 2))])⟩
def sg46 : Sig := ⟨84, 2, [], [(.atm (.v 0)), (.atm (.v 1))], 1, [], (.atm (.v 0))⟩
def sg47 : Sig := ⟨83, 4, [⟨false, false, 42, 1, (.c (.sl [])), [[(.atm (.v 3))]]⟩], [(.agg [(.atm (.v 0)), (.atm (.v 1)), (.atm (.v 2))]), (.ptr 0 0 0)], 2, [⟨false, false, 42, 1, (.c (.sl [])), [[(.atm (.v 1))]]⟩], (.atm (.v 0))⟩
def sg48 : Sig := ⟨85, 2, [⟨false, false, 42, 1, (.c (.sl [])), [[(.atm (.v 1))]]⟩], [(.atm (.v 0)), (.clo 83 [] [(.ptr 0 0 0)])], 2, [⟨false, false, 42, 1, (.c (.sl [])), [[(.atm (.v 1))]]⟩], (.atm (.v 0))⟩
def sg49 : Sig := ⟨85, 2, [⟨false, false, 26, 1, (.c (.sl [])), [[(.clo 83 [] [(.ptr 1 0 0)])]]⟩, ⟨false, false, 42, 1, (.c (.sl [])), [[(.atm (.v 1))]]⟩], [(.atm (.v 0)), (.clo 86 [] [(.ptr 0 0 0)])], 2, [⟨false, false, 26, 1, (.c (.sl [])), [[(.clo 83 [] [(.ptr 1 0 0)])]]⟩, ⟨false, false, 42, 1, (.c (.sl [])), [[(.atm (.v 1))]]⟩], (.atm (.v 0))⟩
def sg50 : Sig := ⟨91, 3, [], [(.agg [(.atm (.v 0)), (.atm (.v 1)), (.atm (.v 2))])], 1, [], (.atm (.v 0))⟩
def sg51 : Sig := ⟨76, 1, [], [(.atm (.v 0))], 1, [], (.atm (.v 0))⟩
def sg52 : Sig := ⟨92, 4, [⟨false, false, 70, 4, (.c (.sl [])), [[(.atm (.v 0)), (.atm (.v 1)), (.atm (.v 2)), (.atm (.v 3))]]⟩], [(.ptr 0 0 0)], 7, [⟨false, false, 70, 4, (.c (.sl [])), [[(.atm (.v 3)), (.atm (.v 4)), (.atm (.v 5)), (.atm (.v 6))]]⟩], (.agg [(.atm (.v 0)), (.atm (.v 1)), (.atm (.v 2))])⟩
def sg53 : Sig := ⟨93, 1, [], [(.atm (.v 0))], 1, [], (.atm (.v 0))⟩
def sg54 : Sig := ⟨95, 2, [], [(.atm (.v 0)), (.atm (.v 1))], 1, [], (.atm (.v 0))⟩
def sg55 : Sig := ⟨96, 2, [⟨false, false, 42, 1, (.c (.sl [])), [[(.atm (.v 1))]]⟩], [(.atm (.v 0)), (.clo 83 [] [(.ptr 0 0 0)])], 2, [⟨false, false, 42, 1, (.c (.sl [])), [[(.atm (.v 1))]]⟩], (.atm (.v 0))⟩
def sg56 : Sig := ⟨96, 2, [⟨false, false, 26, 1, (.c (.sl [])), [[(.clo 83 [] [(.ptr 1 0 0)])]]⟩, ⟨false, false, 42, 1, (.c (.sl [])), [[(.atm (.v 1))]]⟩], [(.atm (.v 0)), (.clo 86 [] [(.ptr 0 0 0)])], 2, [⟨false, false, 26, 1, (.c (.sl [])), [[(.clo 83 [] [(.ptr 1 0 0)])]]⟩, ⟨false, false, 42, 1, (.c (.sl [])), [[(.atm (.v 1))]]⟩], (.atm (.v 0))⟩
def sg57 : Sig := ⟨109, 6, [⟨false, false, 70, 4, (.c (.sl [])), [[(.atm (.v 2)), (.atm (.v 3)), (.atm (.v 4)), (.atm (.v 5))]]⟩], [(.ptr 0 0 0), (.atm (.v 0)), (.atm (.v 1)), (.clo 110 [(.ptr 0 0 0)] [])], 7, [⟨false, false, 70, 4, (.c (.sl [])), [[(.atm (.v 3)), (.atm (.v 4)), (.atm (.v 5)), (.atm (.v 6))]]⟩], (.agg [(.atm (.v 0)), (.atm (.v 1)), (.atm (.v 2))])⟩
def sg58 : Sig := ⟨86, 4, [⟨false, false, 26, 1, (.c (.sl [])), [[(.clo 83 [] [(.ptr 1 0 0)])]]⟩, ⟨false, false, 42, 1, (.c (.sl [])), [[(.atm (.v 3))]]⟩], [(.agg [(.atm (.v 0)), (.atm (.v 1)), (.atm (.v 2))]), (.ptr 0 0 0)], 2, [⟨false, false, 26, 1, (.c (.sl [])), [[(.clo 83 [] [(.ptr 1 0 0)])]]⟩, ⟨false, false, 42, 1, (.c (.sl [])), [[(.atm (.v 1))]]⟩], (.atm (.v 0))⟩
def sg59 : Sig := ⟨110, 4, [⟨false, false, 70, 4, (.c (.sl [])), [[(.atm (.v 0)), (.atm (.v 1)), (.atm (.v 2)), (.atm (.v 3))]]⟩], [(.ptr 0 0 0)], 7, [⟨false, false, 70, 4, (.c (.sl [])), [[(.atm (.v 3)), (.atm (.v 4)), (.atm (.v 5)), (.atm (.v 6))]]⟩], (.agg [(.atm (.v 0)), (.atm (.v 1)), (.atm (.v 2))])⟩
def sg60 : Sig := ⟨109, 6, [⟨false, false, 70, 4, (.c (.sl [])), [[(.atm (.v 2)), (.atm (.v 3)), (.atm (.v 4)), (.atm (.v 5))]]⟩], [(.ptr 0 0 0), (.atm (.v 0)), (.atm (.v 1)), (.clo 118 [(.ptr 0 0 0)] [])], 7, [⟨false, false, 70, 4, (.c (.sl [])), [[(.atm (.v 3)), (.atm (.v 4)), (.atm (.v 5)), (.atm (.v 6))]]⟩], (.agg [(.atm (.v 0)), (.atm (.v 1)), (.atm (.v 2))])⟩
def sg61 : Sig := ⟨118, 4, [⟨false, false, 70, 4, (.c (.sl [])), [[(.atm (.v 0)), (.atm (.v 1)), (.atm (.v 2)), (.atm (.v 3))]]⟩], [(.ptr 0 0 0)], 7, [⟨false, false, 70, 4, (.c (.sl [])), [[(.atm (.v 3)), (.atm (.v 4)), (.atm (.v 5)), (.atm (.v 6))]]⟩], (.agg [(.atm (.v 0)), (.atm (.v 1)), (.atm (.v 2))])⟩
def sigs : List Sig := [sg0, sg1, sg2, sg3, sg4, sg5, sg6, sg7, sg8, sg9, sg10, sg11, sg12, sg13, sg14, sg15, sg16, sg17, sg18, sg19, sg20, sg21, sg22, sg23, sg24, sg25, sg26, sg27, sg28, sg29, sg30, sg31, sg32, sg33, sg34, sg35, sg36, sg37, sg38, sg39, sg40, sg41, sg42, sg43, sg44, sg45, sg46, sg47, sg48, sg49, sg50, sg51, sg52, sg53, sg54, sg55, sg56, sg57, sg58, sg59, sg60, sg61]
/- 0:deliberationlaw02.FormulaTexts -/
def an0 : Ann := (.s none .z (.s none .z (.s none .z (.s none .z (.s none (.s none .z (.b (.l ⟨1, [(0, .junk), (1, .junk), (2, .junk), (4, .junk), (5, .junk), (6, .junk), (13, .junk), (14, .junk), (15, .junk), (16, .junk), (17, .junk), (18, .junk), (19, .junk), (20, .junk), (21, .junk), (22, .junk), (23, .junk), (24, .junk), (25, .junk), (26, .junk), (27, .junk), (28, .junk), (29, .junk), (32, (.atm (.v 0)))], [], 14, []⟩ (.s none .z (.s none .z (.s none (.b (.s none .z (.s none .z (.s none .z (.s (some ⟨1, [(8, .junk), (9, .junk), (10, .junk), (11, .junk), (12, .junk), (33, .junk), (34, .junk), (35, .junk), (36, .junk), (37, .junk), (38, .junk), (39, .junk), (40, .junk), (41, .junk), (42, .junk), (43, .junk), (44, .junk), (45, .junk), (74, (.atm (.v 0)))], [], 15, []⟩) .z .z))))) .z)))))) .z)))))
def ir0 : IR :=
 (.call 5 1 false [] [(.v 0), (.v 1), (.v 2)]
 (.op (.un .not) [(.v 4)]
 (.ite (.v 5)
  (.ret [(.c (.bool true))])
 (.call 6 2 false [] [(.v 3)]
 (.call 7 5 false [] [(.c (.int .i64 4)), (.c (.int .i64 4)), (.v 6), (.v 7)]
 (.call 8 5 false [] [(.v 8), (.v 9), (.v 10), (.v 11), (.v 12)]
 (.call 8 5 false [] [(.v 8), (.v 9), (.v 10), (.v 16), (.v 17)]
 (.call 8 5 false [] [(.v 18), (.v 19), (.v 20), (.v 21), (.v 22)]
 (.op (.mk 3 4) [(.v 0), (.v 1), (.v 2), (.v 8), (.v 9), (.v 10), (.v 13), (.v 14), (.v 15), (.v 23), (.v 24), (.v 25)]
 (.op .lenL [(.v 28)]
 (.loop 1 [(.c (.int .i64 0))]
  (.op (.bin .lss false) [(.v 30), (.v 29)]
  (.ite (.v 31)
   (.op .chk [(.v 28), (.v 30)]
   (.op (.get 0 3) [(.v 28), (.v 30)]
   (.call 9 2 false [] [(.v 32), (.v 33), (.v 34)]
   (.call 10 2 false [] [(.v 32), (.v 33), (.v 34)]
   (.letj 1
    (.call 11 1 false [] [(.v 32), (.v 33), (.v 34)]
    (.call 12 1 false [] [(.v 32), (.v 33), (.v 34)]
    (.op (.bin .neq false) [(.v 39), (.v 40)]
    (.ite (.v 41)
     (.jump 1 [(.c (.bool true))])
    (.call 13 1 false [] [(.v 32), (.v 33), (.v 34)]
    (.call 14 1 false [] [(.v 32), (.v 33), (.v 34)]
    (.op (.bin .neq false) [(.v 42), (.v 43)]
    (.ite (.v 44)
     (.jump 1 [(.c (.bool true))])
    (.call 15 1 false [] [(.v 32), (.v 33), (.v 34)]
    (.call 16 1 false [] [(.v 32), (.v 33), (.v 34)]
    (.op (.bin .neq false) [(.v 45), (.v 46)]
    (.ite (.v 47)
     (.jump 1 [(.c (.bool true))])
    (.op (.bin .neq false) [(.v 35), (.v 37)]
    (.ite (.v 48)
     (.jump 1 [(.c (.bool true))])
    (.op (.bin .neq false) [(.v 36), (.v 38)]
    (.jump 1 [(.v 49)]))))))))))))))))
   (.ite (.v 39)
    (.ret [(.c (.bool false))])
   (.op (.bin .add false) [(.v 30), (.c (.int .i64 1))]
   (.jump 0 [(.v 40)]))))))))
  (.call 17 1 false [] []
  (.ret [(.v 32)])))))))))))))))
theorem rd0 : readFn T SG sigs 3000 sg0 Tryd.f3 an0 = some ir0 := by kernel_rfl
/- 1:deliberationlaw02.FormulaParses: not read -/
/- 2:deliberationlaw02.FormulaBack -/
def an2 : Ann := (.s none .z (.s none .z (.s none .z (.s none .z (.s none .z (.s none .z (.s none .z (.s none (.s none .z (.b (.l ⟨1, [(1, .junk), (4, .junk), (5, .junk), (7, .junk), (8, .junk), (22, .junk), (23, .junk), (24, .junk), (25, .junk), (26, .junk), (27, .junk), (28, .junk), (29, .junk), (30, .junk), (31, .junk), (32, .junk), (33, .junk), (34, .junk), (35, .junk), (42, .junk), (43, .junk), (44, .junk), (45, .junk), (46, .junk), (47, .junk), (48, .junk), (49, .junk), (52, (.atm (.v 0)))], [], 3, []⟩ (.s none .z (.s none .z (.s none (.b (.s none .z (.s none .z (.s (some ⟨1, [(10, .junk), (11, .junk), (12, .junk), (13, .junk), (53, .junk), (54, .junk), (55, .junk), (56, .junk), (57, .junk), (58, .junk), (59, .junk), (60, .junk), (61, .junk), (73, (.atm (.v 0)))], [], 4, []⟩) .z .z)))) .z)))))) (.s (some ⟨0, [(0, .junk), (6, .junk), (50, .junk), (51, .junk), (52, .junk), (53, .junk)], [], 3, []⟩) (.s none .z (.s none .z (.c (.s none .z (.s none .z (.s (some ⟨1, [(0, .junk), (6, .junk), (14, .junk), (15, .junk), (16, .junk), (17, .junk), (18, .junk), (19, .junk), (20, .junk), (21, .junk), (50, .junk), (51, .junk), (52, .junk), (53, .junk), (75, .junk), (76, .junk), (77, .junk), (78, .junk), (79, .junk), (80, .junk), (81, .junk), (82, .junk), (83, .junk), (84, .junk), (85, .junk), (86, .junk), (87, .junk), (88, .junk), (89, .junk), (90, .junk), (91, .junk), (92, .junk), (93, .junk), (113, (.atm (.v 0)))], [], 5, []⟩) .z .z))) .z))) .z)))))))))
def ir2 : IR :=
 (.op .lenS [(.v 0)]
 (.op (.bin .gtr false) [(.v 2), (.c (.int .i64 300))]
 (.ite (.v 3)
  (.ret [(.c (.bool true))])
 (.call 6 2 false [] [(.v 1)]
 (.call 7 5 false [] [(.c (.int .i64 5)), (.c (.int .i64 4)), (.v 4), (.v 5)]
 (.call 9 2 false [] [(.v 6), (.v 7), (.v 8)]
 (.op (.bin .eql false) [(.v 12), (.c (.int .i64 2))]
 (.ite (.v 13)
  (.call 16 1 false [] [(.v 6), (.v 7), (.v 8)]
  (.op (.bin .eql false) [(.v 14), (.c (.int .i64 2))]
  (.ite (.v 15)
   (.call 17 1 false [] []
   (.ret [(.v 16)]))
  (.ret [(.c (.bool false))]))))
 (.op (.bin .neq false) [(.v 12), (.c (.int .i64 0))]
 (.ite (.v 14)
  (.ret [(.c (.bool false))])
 (.op (.bin .add false) [(.c (.str [32, 32])), (.v 11)]
 (.op (.bin .add false) [(.c (.str [40, 40])), (.v 11)]
 (.op (.bin .add false) [(.v 16), (.c (.str [32, 41, 32, 41]))]
 (.op (.mk 1 3) [(.v 11), (.v 15), (.v 17)]
 (.op .lenL [(.v 18)]
 (.loop 1 [(.c (.int .i64 0))]
  (.op (.bin .lss false) [(.v 20), (.v 19)]
  (.ite (.v 21)
   (.op .chk [(.v 18), (.v 20)]
   (.op (.get 0 1) [(.v 18), (.v 20)]
   (.call 18 5 false [] [(.v 22)]
   (.letj 1
    (.op (.bin .neq false) [(.v 27), (.c (.int .i64 0))]
    (.ite (.v 28)
     (.jump 1 [(.c (.bool true))])
    (.op (.bin .neq false) [(.v 26), (.c (.int .i64 0))]
    (.ite (.v 29)
     (.jump 1 [(.c (.bool true))])
    (.call 19 1 false [] [(.v 6), (.v 7), (.v 8), (.v 23), (.v 24), (.v 25)]
    (.op (.un .not) [(.v 30)]
    (.jump 1 [(.v 31)])))))))
   (.ite (.v 28)
    (.ret [(.c (.bool false))])
   (.op (.bin .add false) [(.v 20), (.c (.int .i64 1))]
   (.jump 0 [(.v 29)])))))))
  (.letj 0
   (.call 18 5 false [] [(.v 0)]
   (.op (.bin .eql false) [(.v 26), (.c (.int .i64 0))]
   (.ite (.v 27)
    (.call 9 2 false [] [(.v 22), (.v 23), (.v 24)]
    (.call 18 5 false [] [(.v 28)]
    (.letj 1
     (.op (.bin .eql false) [(.v 29), (.c (.int .i64 0))]
     (.ite (.v 35)
      (.op (.bin .neq false) [(.v 34), (.c (.int .i64 0))]
      (.ite (.v 36)
       (.jump 2 [(.c (.bool true))])
      (.call 19 1 false [] [(.v 22), (.v 23), (.v 24), (.v 30), (.v 31), (.v 32)]
      (.op (.un .not) [(.v 37)]
      (.ite (.v 38)
       (.jump 2 [(.c (.bool true))])
      (.op (.bin .neq false) [(.v 29), (.c (.int .i64 0))]
      (.ite (.v 39)
       (.op (.bin .neq false) [(.v 29), (.c (.int .i64 2))]
       (.jump 2 [(.v 40)]))
      (.jump 2 [(.c (.bool false))]))))))))
     (.op (.bin .neq false) [(.v 29), (.c (.int .i64 0))]
     (.ite (.v 36)
      (.op (.bin .neq false) [(.v 29), (.c (.int .i64 2))]
      (.jump 2 [(.v 37)]))
     (.jump 2 [(.c (.bool false))])))))
    (.ite (.v 35)
     (.ret [(.c (.bool false))])
    (.jump 1 [])))))
   (.jump 1 []))))
  (.call 17 1 false [] []
  (.ret [(.v 22)])))))))))))))))))))))
theorem rd2 : readFn T SG sigs 3000 sg2 Tryd.f5 an2 = some ir2 := by kernel_rfl
/- 3:deliberationlaw02.FormulaLimits -/
def an3 : Ann := (.s none .z (.s none .z (.s none .z (.s none .z (.s none (.s none .z (.b (.l ⟨5, [(2, .junk), (4, (.atm (.v 0))), (5, (.atm (.v 1))), (11, .junk), (12, .junk), (13, .junk), (14, .junk)], [(0, ⟨false, false, 24, 3, (.c (.sl [])), [[(.atm (.v 2)), (.atm (.v 3)), (.atm (.v 4))]]⟩), (1, ⟨true, true, 24, 3, (.c (.sl [])), []⟩)], 2, [⟨some (0, 0, 2), 0, 24, 3⟩]⟩ .z))) .z)))))
def ir3 : IR :=
 (.call 20 1 false [] [(.v 0), (.c (.int .i64 5))]
 (.op (.bin .add false) [(.c (.int .i64 18)), (.v 1)]
 (.loop 5 [(.c (.str [97])), (.c (.int .i64 0)), (.c (.int .i64 3)), (.c (.str [97])), (.c (.sl []))]
  (.op (.bin .lss false) [(.v 4), (.v 2)]
  (.ite (.v 8)
   (.op (.mk 3 1) [(.v 5), (.v 6), (.v 7)]
   (.op (.bin .add false) [(.c (.str [126])), (.v 3)]
   (.op (.bin .add false) [(.v 4), (.c (.int .i64 1))]
   (.jump 0 [(.v 10), (.v 11), (.c (.int .i64 4)), (.c (.str [])), (.v 9)]))))
  (.call 18 5 false [] [(.v 3)]
  (.op (.bin .gtr false) [(.v 2), (.c (.int .i64 20))]
  (.ite (.v 14)
   (.op (.bin .eql false) [(.v 13), (.c (.int .i64 2))]
   (.ite (.v 15)
    (.op (.bin .eql false) [(.v 12), (.c (.int .i64 0))]
    (.ite (.v 16)
     (.call 15 1 false [] [(.v 5), (.v 6), (.v 7)]
     (.op (.bin .eql false) [(.v 17), (.c (.int .i64 2))]
     (.ite (.v 18)
      (.call 17 1 false [] []
      (.ret [(.v 19)]))
     (.ret [(.c (.bool false))]))))
    (.ret [(.c (.bool false))])))
   (.ret [(.c (.bool false))])))
  (.call 9 2 false [] [(.v 5), (.v 6), (.v 7)]
  (.op (.bin .eql false) [(.v 13), (.c (.int .i64 0))]
  (.ite (.v 17)
   (.call 19 1 false [] [(.v 5), (.v 6), (.v 7), (.v 9), (.v 10), (.v 11)]
   (.ite (.v 18)
    (.op (.bin .eql false) [(.v 16), (.c (.int .i64 0))]
    (.ite (.v 19)
     (.op (.bin .eql false) [(.v 15), (.v 3)]
     (.ite (.v 20)
      (.call 13 1 false [] [(.v 9), (.v 10), (.v 11)]
      (.op (.bin .eql false) [(.v 21), (.v 2)]
      (.ite (.v 22)
       (.call 17 1 false [] []
       (.ret [(.v 23)]))
      (.ret [(.c (.bool false))]))))
     (.ret [(.c (.bool false))])))
    (.ret [(.c (.bool false))])))
   (.ret [(.c (.bool false))])))
  (.ret [(.c (.bool false))]))))))))))))
theorem rd3 : readFn T SG sigs 3000 sg3 Tryd.f6 an3 = some ir3 := by kernel_rfl
/- 4:deliberationlaw02.FormulaLaws -/
def an4 : Ann := (.s none .z (.s none .z (.s none .z (.s none .z (.s none (.s none .z (.b (.l ⟨3, [(0, .junk), (2, .junk), (7, (.atm (.v 0))), (11, .junk), (12, .junk), (13, .junk), (14, .junk), (15, .junk), (16, .junk), (17, .junk), (18, .junk), (19, .junk)], [(0, ⟨false, false, 59, 2, (.c (.sl [])), [[(.atm (.v 1)), (.atm (.v 2))]]⟩)], 5, []⟩ (.s none .z (.s none (.b (.s none .z (.s none .z (.s none (.s (some ⟨2, [(9, (.atm (.v 0))), (20, .junk), (21, .junk), (24, .junk), (25, .junk), (26, .junk), (27, .junk), (28, .junk), (29, .junk), (30, .junk), (31, .junk), (71, (.atm (.v 1)))], [], 5, []⟩) .z .z) (.s (some ⟨1, [(8, .junk), (9, .junk), (10, .junk), (71, .junk), (115, (.atm (.v 0)))], [], 5, []⟩) .z .z))))) .z))))) .z)))))
def ir4 : IR :=
 (.call 6 2 false [] [(.v 0)]
 (.call 7 5 false [] [(.c (.int .i64 4)), (.c (.int .i64 3)), (.v 1), (.v 2)]
 (.call 7 5 false [] [(.c (.int .i64 4)), (.c (.int .i64 3)), (.v 6), (.v 7)]
 (.op (.mk 3 1) [(.v 3), (.v 4), (.v 5)]
 (.call 21 3 true [] [(.c (.int .i64 4)), (.v 13)]
 (.loop 3 [(.c (.int .i64 0)), (.v 11), (.v 12)]
  (.op (.bin .lss false) [(.v 17), (.c (.int .i64 4))]
  (.ite (.v 20)
   (.call 22 3 false [] [(.c (.int .i64 4)), (.v 18), (.v 19)]
   (.call 23 1 false [] [(.v 3), (.v 4), (.v 5), (.v 21)]
   (.call 23 1 false [] [(.v 8), (.v 9), (.v 10), (.v 21)]
   (.letj 2
    (.call 23 1 false [] [(.v 14), (.v 15), (.v 16), (.v 21)]
    (.op (.bin .eql true) [(.v 26), (.v 24)]
    (.ite (.v 27)
     (.jump 1 [(.v 24), (.c (.bool true))])
    (.op (.mk 3 1) [(.v 14), (.v 15), (.v 16)]
    (.call 21 3 true [] [(.c (.int .i64 4)), (.v 28)]
    (.call 23 1 false [] [(.v 29), (.v 30), (.v 31), (.v 21)]
    (.op (.bin .neq true) [(.v 32), (.v 24)]
    (.ite (.v 33)
     (.jump 1 [(.v 24), (.c (.bool true))])
    (.op (.mk 3 2) [(.v 3), (.v 4), (.v 5), (.v 8), (.v 9), (.v 10)]
    (.call 21 3 true [] [(.c (.int .i64 5)), (.v 34)]
    (.call 23 1 false [] [(.v 35), (.v 36), (.v 37), (.v 21)]
    (.ite (.v 24)
     (.op (.bin .neq true) [(.v 38), (.v 25)]
     (.ite (.v 39)
      (.jump 1 [(.c (.bool true)), (.c (.bool true))])
     (.op (.mk 3 2) [(.v 3), (.v 4), (.v 5), (.v 8), (.v 9), (.v 10)]
     (.call 21 3 true [] [(.c (.int .i64 6)), (.v 40)]
     (.call 23 1 false [] [(.v 41), (.v 42), (.v 43), (.v 21)]
     (.op (.bin .neq true) [(.v 44), (.c (.bool true))]
     (.jump 1 [(.c (.bool true)), (.v 45)])))))))
    (.op (.bin .neq true) [(.v 38), (.c (.bool false))]
    (.ite (.v 39)
     (.jump 1 [(.c (.bool false)), (.c (.bool true))])
    (.op (.mk 3 2) [(.v 3), (.v 4), (.v 5), (.v 8), (.v 9), (.v 10)]
    (.call 21 3 true [] [(.c (.int .i64 6)), (.v 40)]
    (.call 23 1 false [] [(.v 41), (.v 42), (.v 43), (.v 21)]
    (.op (.bin .neq true) [(.v 44), (.v 25)]
    (.jump 1 [(.c (.bool false)), (.v 45)])))))))))))))))))))
   (.ite (.v 27)
    (.ret [(.c (.bool false))])
   (.letj 1
    (.op (.mk 3 2) [(.v 3), (.v 4), (.v 5), (.v 8), (.v 9), (.v 10)]
    (.call 21 3 true [] [(.c (.int .i64 7)), (.v 28)]
    (.call 23 1 false [] [(.v 29), (.v 30), (.v 31), (.v 21)]
    (.op (.mk 3 2) [(.v 14), (.v 15), (.v 16), (.v 8), (.v 9), (.v 10)]
    (.call 21 3 true [] [(.c (.int .i64 6)), (.v 33)]
    (.call 23 1 false [] [(.v 34), (.v 35), (.v 36), (.v 21)]
    (.op (.bin .neq true) [(.v 32), (.v 37)]
    (.ite (.v 38)
     (.jump 1 [(.c (.bool true))])
    (.op (.mk 3 2) [(.v 3), (.v 4), (.v 5), (.v 8), (.v 9), (.v 10)]
    (.call 21 3 true [] [(.c (.int .i64 8)), (.v 39)]
    (.call 23 1 false [] [(.v 40), (.v 41), (.v 42), (.v 21)]
    (.op (.bin .eql true) [(.v 26), (.v 25)]
    (.op (.bin .neq true) [(.v 43), (.v 44)]
    (.ite (.v 45)
     (.jump 1 [(.c (.bool true))])
    (.op (.mk 3 2) [(.v 3), (.v 4), (.v 5), (.v 8), (.v 9), (.v 10)]
    (.call 21 3 true [] [(.c (.int .i64 5)), (.v 46)]
    (.op (.mk 3 1) [(.v 47), (.v 48), (.v 49)]
    (.call 21 3 true [] [(.c (.int .i64 4)), (.v 50)]
    (.call 23 1 false [] [(.v 51), (.v 52), (.v 53), (.v 21)]
    (.op (.mk 3 1) [(.v 8), (.v 9), (.v 10)]
    (.call 21 3 true [] [(.c (.int .i64 4)), (.v 55)]
    (.op (.mk 3 2) [(.v 14), (.v 15), (.v 16), (.v 56), (.v 57), (.v 58)]
    (.call 21 3 true [] [(.c (.int .i64 6)), (.v 59)]
    (.call 23 1 false [] [(.v 60), (.v 61), (.v 62), (.v 21)]
    (.op (.bin .neq true) [(.v 54), (.v 63)]
    (.jump 1 [(.v 64)]))))))))))))))))))))))))))
   (.ite (.v 28)
    (.ret [(.c (.bool false))])
   (.op (.bin .add false) [(.v 17), (.c (.int .i64 1))]
   (.jump 0 [(.v 29), (.v 22), (.v 23)])))))))))
  (.call 17 1 false [] []
  (.ret [(.v 21)]))))))))))
theorem rd4 : readFn T SG sigs 3000 sg4 Tryd.f7 an4 = some ir4 := by kernel_rfl
/- 5:deliberationkeep.SmallFormula -/
def an5 : Ann := .z
def ir5 : IR :=
 (.call 24 1 false [] [(.v 0), (.v 1), (.v 2), (.c (.int .i64 800))]
 (.op (.bin .leq false) [(.v 3), (.c (.int .i64 800))]
 (.ite (.v 4)
  (.call 25 1 false [] [(.v 0), (.v 1), (.v 2), (.c (.int .i64 30))]
  (.op (.bin .leq false) [(.v 5), (.c (.int .i64 30))]
  (.ite (.v 6)
   (.call 26 1 false [] [(.v 0), (.v 1), (.v 2)]
   (.ret [(.v 7)]))
  (.ret [(.c (.bool false))]))))
 (.ret [(.c (.bool false))]))))
theorem rd5 : readFn T SG sigs 3000 sg5 Tryd.f11 an5 = some ir5 := by kernel_rfl
/- 6:deliberationkeep.New -/
def an6 : Ann := .z
def ir6 : IR :=
 (.op .lenL [(.v 0)]
 (.op .min [(.v 1), (.c (.int .i64 2000))]
 (.op (.subL 1) [(.v 0), (.c (.int .i64 0)), (.v 2)]
 (.ret [(.v 3), (.c (.int .i64 0))]))))
theorem rd6 : readFn T SG sigs 3000 sg6 Tryd.f12 an6 = some ir6 := by kernel_rfl
/- 7:deliberationkeep.Src).Formula -/
def an7 : Ann := (.s none .z (.s none .z (.s none (.s (some ⟨1, [(11, .junk), (12, .junk), (18, (.atm (.v 0)))], [], 2, []⟩) .z .z) (.s none .z (.s none .z (.s (some ⟨3, [(7, .junk), (9, (.atm (.v 0))), (18, .junk), (34, .junk), (35, .junk), (36, .junk), (37, .junk), (38, .junk), (39, .junk)], [(0, ⟨false, false, 59, 2, (.c (.sl [])), [[(.atm (.v 1)), (.atm (.v 2))]]⟩)], 4, []⟩) (.s none .z (.b (.s none .z (.c .z (.s (some ⟨1, [(7, .junk), (18, .junk), (34, .junk), (35, .junk), (36, .junk), (37, .junk), (38, .junk), (39, .junk), (40, .junk), (41, .junk), (42, .junk), (43, .junk), (44, (.atm (.v 0)))], [], 4, []⟩) .z .z))))) (.s none (.s none .z (.b (.l ⟨4, [(10, (.atm (.v 0)))], [(0, ⟨false, false, 59, 2, (.c (.sl [])), [[(.atm (.v 1)), (.atm (.v 2))]]⟩), (4, ⟨false, true, 24, 3, (.v 3), []⟩)], 5, [⟨some (3, 0, 2), 0, 24, 3⟩]⟩ .z))) .z)))))))
def ir7 : IR :=
 (.call 27 3 false [] [(.c (.int .i64 12)), (.v 2), (.v 3)]
 (.letj 1
  (.op (.bin .lss false) [(.v 1), (.c (.int .i64 1))]
  (.ite (.v 7)
   (.jump 0 [(.c (.bool true))])
  (.op (.bin .lss false) [(.v 4), (.c (.int .i64 4))]
  (.jump 0 [(.v 8)]))))
 (.ite (.v 7)
  (.op (.bin .eql false) [(.v 4), (.c (.int .i64 0))]
  (.ite (.v 8)
   (.call 27 3 false [] [(.c (.int .i64 2)), (.v 5), (.v 6)]
   (.op (.bin .add false) [(.c (.int .i64 1)), (.v 9)]
   (.ret [(.v 12), (.c (.str [])), (.c (.sl [])), (.v 10), (.v 11)])))
  (.call 27 3 false [] [(.v 0), (.v 5), (.v 6)]
  (.op (.bin .add false) [(.c (.int .i64 97)), (.v 9)]
  (.op (.conv .u8) [(.v 12)]
  (.op (.mk 1 1) [(.v 13)]
  (.op .toS [(.v 14)]
  (.ret [(.c (.int .i64 3)), (.v 15), (.c (.sl [])), (.v 10), (.v 11)]))))))))
 (.op (.mk 1 8) [(.c (.int .i64 4)), (.c (.int .i64 4)), (.c (.int .i64 5)), (.c (.int .i64 5)), (.c (.int .i64 6)), (.c (.int .i64 6)), (.c (.int .i64 7)), (.c (.int .i64 8))]
 (.op (.bin .sub false) [(.v 4), (.c (.int .i64 4))]
 (.op .chk [(.v 8), (.v 9)]
 (.op (.get 0 1) [(.v 8), (.v 9)]
 (.letj 3
  (.op (.bin .eql false) [(.v 10), (.c (.int .i64 4))]
  (.ite (.v 11)
   (.jump 0 [(.c (.int .i64 1)), (.v 5), (.v 6)])
  (.letj 1
   (.op (.bin .eql false) [(.v 10), (.c (.int .i64 5))]
   (.ite (.v 12)
    (.jump 1 [(.c (.bool true))])
   (.op (.bin .eql false) [(.v 10), (.c (.int .i64 6))]
   (.jump 1 [(.v 13)]))))
  (.ite (.v 12)
   (.call 27 3 false [] [(.c (.int .i64 2)), (.v 5), (.v 6)]
   (.op (.bin .add false) [(.c (.int .i64 2)), (.v 13)]
   (.jump 0 [(.v 16), (.v 14), (.v 15)])))
  (.jump 0 [(.c (.int .i64 2)), (.v 5), (.v 6)])))))
 (.loop 4 [(.c (.int .i64 0)), (.v 12), (.v 13), (.c (.sl []))]
  (.op (.bin .lss false) [(.v 14), (.v 11)]
  (.ite (.v 18)
   (.op (.bin .sub false) [(.v 1), (.c (.int .i64 1))]
   (.call 7 5 false [] [(.v 0), (.v 19), (.v 15), (.v 16)]
   (.op (.mk 3 1) [(.v 20), (.v 21), (.v 22)]
   (.op (.app 3 48) [(.v 17), (.v 25)]
   (.op (.bin .add false) [(.v 14), (.c (.int .i64 1))]
   (.jump 0 [(.v 27), (.v 23), (.v 24), (.v 26)]))))))
  (.ret [(.v 10), (.c (.str [])), (.v 17), (.v 15), (.v 16)]))))))))))))
theorem rd7 : readFn T SG sigs 3000 sg7 Tryd.f13 an7 = some ir7 := by kernel_rfl
/- 8:deliberationkeep.Src).SpoiltFormula -/
def an8 : Ann := (.s none .z (.s none .z (.s none (.s (some ⟨3, [(1, .junk), (3, .junk), (7, .junk), (8, .junk), (9, .junk), (10, .junk), (12, .junk), (13, .junk), (14, .junk), (15, .junk), (24, (.atm (.v 0)))], [(0, ⟨false, false, 59, 2, (.c (.sl [])), [[(.atm (.v 1)), (.atm (.v 2))]]⟩)], 13, []⟩) .z .z) (.s (some ⟨6, [(0, .junk), (24, .junk)], [(0, ⟨false, false, 59, 2, (.c (.sl [])), [[(.atm (.v 0)), (.atm (.v 1))]]⟩), (7, ⟨true, true, 24, 3, (.v 2), []⟩), (12, ⟨false, false, 24, 3, (.c (.sl [])), [[(.atm (.v 3)), (.atm (.v 4)), (.atm (.v 5))]]⟩)], 13, []⟩) .z .z))))
def ir8 : IR :=
 (.op (.app 3 48) [(.c (.sl [])), (.v 2)]
 (.letj 3
  (.op .lenL [(.v 5)]
  (.op (.bin .gtr false) [(.v 6), (.c (.int .i64 0))]
  (.ite (.v 7)
   (.call 27 3 false [] [(.c (.int .i64 3)), (.v 3), (.v 4)]
   (.op (.bin .gtr false) [(.v 8), (.c (.int .i64 0))]
   (.jump 0 [(.v 11), (.v 9), (.v 10)])))
  (.jump 0 [(.c (.bool false)), (.v 3), (.v 4)]))))
 (.ite (.v 6)
  (.op .lenL [(.v 5)]
  (.call 27 3 false [] [(.v 9), (.v 7), (.v 8)]
  (.op .chk [(.v 5), (.v 10)]
  (.op (.get 0 3) [(.v 5), (.v 10)]
  (.call 8 5 false [] [(.v 13), (.v 14), (.v 15), (.v 11), (.v 12)]
  (.op .chk [(.v 5), (.v 10)]
  (.op (.set 0 3) [(.v 5), (.v 10), (.v 16), (.v 17), (.v 18)]
  (.ret [(.v 0), (.v 1), (.v 21), (.v 19), (.v 20)]))))))))
 (.letj 6
  (.call 27 3 false [] [(.c (.int .i64 5)), (.v 7), (.v 8)]
  (.op (.bin .eql false) [(.v 9), (.c (.int .i64 0))]
  (.ite (.v 12)
   (.call 27 3 false [] [(.c (.int .i64 11)), (.v 10), (.v 11)]
   (.op (.bin .sub false) [(.v 13), (.c (.int .i64 1))]
   (.jump 0 [(.v 14), (.v 15), (.v 5), (.v 16), (.v 1), (.v 5)])))
  (.op (.bin .eql false) [(.v 9), (.c (.int .i64 1))]
  (.ite (.v 13)
   (.op (.mk 1 4) [(.c (.str [97])), (.c (.str [65])), (.c (.str [])), (.c (.str [95]))]
   (.call 28 3 false [] [(.v 14), (.v 10), (.v 11)]
   (.op (.bin .add false) [(.v 1), (.v 15)]
   (.jump 0 [(.v 16), (.v 17), (.v 5), (.v 0), (.v 18), (.v 5)]))))
  (.op (.bin .eql false) [(.v 9), (.c (.int .i64 2))]
  (.ite (.v 14)
   (.call 7 5 false [] [(.c (.int .i64 3)), (.c (.int .i64 1)), (.v 10), (.v 11)]
   (.op (.mk 3 1) [(.v 15), (.v 16), (.v 17)]
   (.op (.app 3 48) [(.v 5), (.v 20)]
   (.jump 0 [(.v 18), (.v 19), (.v 21), (.v 0), (.v 1), (.v 21)]))))
  (.op (.bin .eql false) [(.v 9), (.c (.int .i64 3))]
  (.ite (.v 15)
   (.op .lenL [(.v 5)]
   (.op (.bin .gtr false) [(.v 16), (.c (.int .i64 0))]
   (.ite (.v 17)
    (.op .lenL [(.v 5)]
    (.op (.subL 3) [(.v 5), (.c (.int .i64 1)), (.v 18)]
    (.jump 0 [(.v 10), (.v 11), (.v 5), (.v 0), (.v 1), (.v 19)])))
   (.jump 0 [(.v 10), (.v 11), (.v 5), (.v 0), (.v 1), (.v 5)]))))
  (.jump 0 [(.v 10), (.v 11), (.v 5), (.v 0), (.c (.str [])), (.v 5)]))))))))))
 (.ret [(.v 12), (.v 13), (.v 14), (.v 9), (.v 10)])))))
theorem rd8 : readFn T SG sigs 3000 sg8 Tryd.f14 an8 = some ir8 := by kernel_rfl
/- 9:formula.Format: not read -/
/- 10:deliberationref02.Format -/
def an10 : Ann := .z
def ir10 : IR :=
 (.call 16 1 false [] [(.v 0), (.v 1), (.v 2)]
 (.op (.bin .neq false) [(.v 3), (.c (.int .i64 0))]
 (.ite (.v 4)
  (.ret [(.c (.str [])), (.v 3)])
 (.call 29 1 false [] [(.v 0), (.v 1), (.v 2)]
 (.op .lenS [(.v 5)]
 (.op (.bin .gtr false) [(.v 6), (.c (.int .i64 4096))]
 (.ite (.v 7)
  (.ret [(.c (.str [])), (.c (.int .i64 2))])
 (.ret [(.v 5), (.c (.int .i64 0))]))))))))
theorem rd10 : readFn T SG sigs 3000 sg10 Tryd.f16 an10 = some ir10 := by kernel_rfl
/- 11:formula.Size -/
def an11 : Ann := (.s none .z (.s none .z (.s none (.s none .z (.b (.l ⟨2, [(0, .junk), (1, .junk), (2, .junk), (3, (.atm (.v 0))), (6, .junk), (9, (.atm (.v 1)))], [], 1, []⟩ .z))) .z)))
def ir11 : IR :=
 (.op .lenL [(.v 2)]
 (.loop 2 [(.c (.int .i64 1)), (.c (.int .i64 0))]
  (.op (.bin .lss false) [(.v 5), (.v 3)]
  (.ite (.v 6)
   (.op (.row 3) [(.v 2), (.v 5)]
   (.call 11 1 false [] [(.v 7), (.v 8), (.v 9)]
   (.op (.bin .add false) [(.v 4), (.v 10)]
   (.op (.bin .add false) [(.v 5), (.c (.int .i64 1))]
   (.jump 0 [(.v 11), (.v 12)])))))
  (.ret [(.v 4)])))))
theorem rd11 : readFn T SG sigs 3000 sg11 Tryd.f17 an11 = some ir11 := by kernel_rfl
/- 12:deliberationref02.Size -/
def an12 : Ann := (.s none .z (.s none .z (.s none (.s none .z (.b (.l ⟨2, [(0, .junk), (2, .junk), (3, (.atm (.v 0))), (4, (.atm (.v 1)))], [], 1, []⟩ .z))) .z)))
def ir12 : IR :=
 (.loop 2 [(.c (.int .i64 1)), (.c (.int .i64 0))]
  (.op .lenL [(.v 2)]
  (.op (.bin .lss false) [(.v 4), (.v 5)]
  (.ite (.v 6)
   (.op (.row 3) [(.v 2), (.v 4)]
   (.call 12 1 false [] [(.v 7), (.v 8), (.v 9)]
   (.op (.bin .add false) [(.v 3), (.v 10)]
   (.op (.bin .add false) [(.v 4), (.c (.int .i64 1))]
   (.jump 0 [(.v 11), (.v 12)])))))
  (.ret [(.v 3)])))))
theorem rd12 : readFn T SG sigs 3000 sg12 Tryd.f18 an12 = some ir12 := by kernel_rfl
/- 13:formula.Depth -/
def an13 : Ann := (.s none .z (.s none .z (.s none (.s none .z (.b (.l ⟨2, [(0, .junk), (1, .junk), (2, .junk), (3, (.atm (.v 0))), (6, .junk), (9, (.atm (.v 1)))], [], 1, []⟩ .z))) .z)))
def ir13 : IR :=
 (.op .lenL [(.v 2)]
 (.loop 2 [(.c (.int .i64 0)), (.c (.int .i64 0))]
  (.op (.bin .lss false) [(.v 5), (.v 3)]
  (.ite (.v 6)
   (.op (.row 3) [(.v 2), (.v 5)]
   (.call 13 1 false [] [(.v 7), (.v 8), (.v 9)]
   (.op (.bin .add false) [(.c (.int .i64 1)), (.v 10)]
   (.op .max [(.v 4), (.v 11)]
   (.op (.bin .add false) [(.v 5), (.c (.int .i64 1))]
   (.jump 0 [(.v 12), (.v 13)]))))))
  (.ret [(.v 4)])))))
theorem rd13 : readFn T SG sigs 3000 sg13 Tryd.f19 an13 = some ir13 := by kernel_rfl
/- 14:deliberationref02.Depth -/
def an14 : Ann := (.s none .z (.s none .z (.s none (.s none .z (.b (.l ⟨2, [(0, .junk), (2, .junk), (3, (.atm (.v 0))), (4, (.atm (.v 1)))], [], 1, []⟩ .z))) .z)))
def ir14 : IR :=
 (.loop 2 [(.c (.int .i64 0)), (.c (.int .i64 0))]
  (.op .lenL [(.v 2)]
  (.op (.bin .lss false) [(.v 4), (.v 5)]
  (.ite (.v 6)
   (.op (.row 3) [(.v 2), (.v 4)]
   (.call 14 1 false [] [(.v 7), (.v 8), (.v 9)]
   (.op (.bin .add false) [(.c (.int .i64 1)), (.v 10)]
   (.op .max [(.v 3), (.v 11)]
   (.op (.bin .add false) [(.v 4), (.c (.int .i64 1))]
   (.jump 0 [(.v 12), (.v 13)]))))))
  (.ret [(.v 3)])))))
theorem rd14 : readFn T SG sigs 3000 sg14 Tryd.f20 an14 = some ir14 := by kernel_rfl
/- 15:formula.Validate -/
def an15 : Ann := (.s none .z (.s none (.b (.s (some ⟨1, [(0, .junk), (2, .junk), (3, (.atm (.v 0)))], [], 1, []⟩) .z .z)) .z))
def ir15 : IR :=
 (.letj 1
  (.call 11 1 false [] [(.v 0), (.v 1), (.v 2)]
  (.op (.bin .gtr false) [(.v 3), (.c (.int .i64 600))]
  (.ite (.v 4)
   (.jump 0 [(.c (.bool true))])
  (.call 13 1 false [] [(.v 0), (.v 1), (.v 2)]
  (.op (.bin .gtr false) [(.v 5), (.c (.int .i64 20))]
  (.jump 0 [(.v 6)]))))))
 (.ite (.v 3)
  (.ret [(.c (.int .i64 2))])
 (.call 30 1 false [] [(.v 0), (.v 1), (.v 2)]
 (.op (.un .not) [(.v 4)]
 (.ite (.v 5)
  (.ret [(.c (.int .i64 4))])
 (.call 31 1 false [] [(.v 0), (.v 1), (.v 2)]
 (.op (.un .not) [(.v 6)]
 (.ite (.v 7)
  (.ret [(.c (.int .i64 3))])
 (.ret [(.c (.int .i64 0))])))))))))
theorem rd15 : readFn T SG sigs 3000 sg15 Tryd.f21 an15 = some ir15 := by kernel_rfl
/- 16:deliberationref02.Validate -/
def an16 : Ann := (.s none .z (.s none (.s (some ⟨1, [(0, .junk), (2, .junk), (10, (.atm (.v 0)))], [], 1, []⟩) .z .z) .z))
def ir16 : IR :=
 (.letj 1
  (.call 12 1 false [] [(.v 0), (.v 1), (.v 2)]
  (.op (.bin .gtr false) [(.v 3), (.c (.int .i64 600))]
  (.ite (.v 4)
   (.jump 0 [(.c (.bool true))])
  (.call 14 1 false [] [(.v 0), (.v 1), (.v 2)]
  (.op (.bin .gtr false) [(.v 5), (.c (.int .i64 20))]
  (.jump 0 [(.v 6)]))))))
 (.ite (.v 3)
  (.ret [(.c (.int .i64 2))])
 (.call 32 1 false [] [(.v 0), (.v 1), (.v 2)]
 (.op (.un .not) [(.v 4)]
 (.ite (.v 5)
  (.ret [(.c (.int .i64 4))])
 (.call 33 1 false [] [(.v 0), (.v 1), (.v 2)]
 (.op (.un .not) [(.v 6)]
 (.ite (.v 7)
  (.ret [(.c (.int .i64 3))])
 (.ret [(.c (.int .i64 0))])))))))))
theorem rd16 : readFn T SG sigs 3000 sg16 Tryd.f22 an16 = some ir16 := by kernel_rfl
/- 17:deliberationlaw02.awake -/
def an17 : Ann := .z
def ir17 : IR :=
 (.call 18 5 false [] [(.c (.str [97, 38, 98, 32, 45, 62, 32, 40, 99, 41]))]
 (.call 9 2 false [] [(.v 0), (.v 1), (.v 2)]
 (.call 18 5 false [] [(.c (.str [97, 32, 60, 45, 62, 32, 98, 32, 60, 45, 62, 32, 99]))]
 (.call 18 5 false [] [(.c (.str [97, 32, 38]))]
 (.op (.bin .eql false) [(.v 4), (.c (.int .i64 0))]
 (.ite (.v 17)
  (.op (.bin .eql false) [(.v 6), (.c (.int .i64 0))]
  (.ite (.v 18)
   (.op (.bin .eql false) [(.v 5), (.c (.str [97, 32, 38, 32, 98, 32, 45, 62, 32, 99]))]
   (.ite (.v 19)
    (.op (.bin .eql false) [(.v 0), (.c (.int .i64 7))]
    (.ite (.v 20)
     (.op (.bin .eql false) [(.v 11), (.c (.int .i64 3))]
     (.ite (.v 21)
      (.op (.bin .eql false) [(.v 10), (.c (.int .i64 8))]
      (.ite (.v 22)
       (.op (.bin .eql false) [(.v 16), (.c (.int .i64 3))]
       (.ite (.v 23)
        (.op (.bin .eql false) [(.v 15), (.c (.int .i64 3))]
        (.ite (.v 24)
         (.call 11 1 false [] [(.v 0), (.v 1), (.v 2)]
         (.op (.bin .eql false) [(.v 25), (.c (.int .i64 5))]
         (.ite (.v 26)
          (.call 13 1 false [] [(.v 0), (.v 1), (.v 2)]
          (.op (.bin .eql false) [(.v 27), (.c (.int .i64 2))]
          (.ret [(.v 28)])))
         (.ret [(.c (.bool false))]))))
        (.ret [(.c (.bool false))])))
       (.ret [(.c (.bool false))])))
      (.ret [(.c (.bool false))])))
     (.ret [(.c (.bool false))])))
    (.ret [(.c (.bool false))])))
   (.ret [(.c (.bool false))])))
  (.ret [(.c (.bool false))])))
 (.ret [(.c (.bool false))])))))))
theorem rd17 : readFn T SG sigs 3000 sg17 Tryd.f23 an17 = some ir17 := by kernel_rfl
/- 18:formula.Parse -/
def an18 : Ann := (.s none .z (.s none .z (.s none .z (.s none .z (.s (some ⟨4, [(0, .junk), (3, .junk), (4, .junk), (7, .junk), (8, .junk), (9, .junk), (11, .junk), (12, .junk), (13, .junk), (14, .junk), (15, .junk)], [(1, ⟨false, false, 70, 4, (.c (.sl [])), [[(.atm (.v 0)), (.atm (.v 1)), (.atm (.v 2)), (.atm (.v 3))]]⟩)], 3, []⟩) .z (.s none .z (.s none (.s (some ⟨1, [(5, .junk), (21, .junk), (22, .junk), (23, .junk), (24, .junk), (25, .junk), (44, (.atm (.v 0)))], [], 3, []⟩) .z .z) .z)))))))
def ir18 : IR :=
 (.op .lenS [(.v 0)]
 (.op (.bin .gtr false) [(.v 1), (.c (.int .i64 4096))]
 (.ite (.v 2)
  (.ret [(.c (.int .i64 0)), (.c (.str [])), (.c (.sl [])), (.c (.int .i64 0)), (.c (.int .i64 2))])
 (.call 34 7 false [] [(.v 0), (.c (.int .i64 0)), (.c (.int .i64 (-1))), (.c (.bool false))]
 (.letj 4
  (.call 35 5 false [] [(.c (.str [])), (.v 6), (.v 7), (.v 8), (.v 9)]
  (.op (.un .not) [(.v 10)]
  (.ite (.v 15)
   (.call 36 7 false [] [(.v 11), (.v 12), (.v 13), (.v 14)]
   (.jump 0 [(.v 19), (.v 20), (.v 21), (.v 22)]))
  (.jump 0 [(.v 11), (.v 12), (.v 13), (.v 14)]))))
 (.op (.bin .geq false) [(.v 12), (.c (.int .i64 0))]
 (.ite (.v 14)
  (.ret [(.c (.int .i64 0)), (.c (.str [])), (.c (.sl [])), (.v 12), (.c (.int .i64 3))])
 (.letj 1
  (.ite (.v 13)
   (.jump 0 [(.c (.bool true))])
  (.call 11 1 false [] [(.v 3), (.v 4), (.v 5)]
  (.op (.bin .gtr false) [(.v 15), (.c (.int .i64 600))]
  (.ite (.v 16)
   (.jump 0 [(.c (.bool true))])
  (.call 13 1 false [] [(.v 3), (.v 4), (.v 5)]
  (.op (.bin .gtr false) [(.v 17), (.c (.int .i64 20))]
  (.jump 0 [(.v 18)])))))))
 (.ite (.v 15)
  (.ret [(.c (.int .i64 0)), (.c (.str [])), (.c (.sl [])), (.c (.int .i64 0)), (.c (.int .i64 2))])
 (.ret [(.v 3), (.v 4), (.v 5), (.c (.int .i64 0)), (.c (.int .i64 0))]))))))))))
theorem rd18 : readFn T SG sigs 3000 sg18 Tryd.f27 an18 = some ir18 := by kernel_rfl
/- 19:deliberationref02.Same -/
def an19 : Ann := (.s none .z (.s none (.s (some ⟨1, [(0, .junk), (1, .junk), (4, .junk), (26, (.atm (.v 0)))], [], 2, []⟩) .z .z) (.s none (.s none .z (.b (.l ⟨1, [(5, (.atm (.v 0))), (26, .junk)], [], 2, []⟩ .z))) .z)))
def ir19 : IR :=
 (.letj 1
  (.op (.bin .neq false) [(.v 0), (.v 3)]
  (.ite (.v 6)
   (.jump 0 [(.c (.bool true))])
  (.op (.bin .neq false) [(.v 1), (.v 4)]
  (.ite (.v 7)
   (.jump 0 [(.c (.bool true))])
  (.op .lenL [(.v 2)]
  (.op .lenL [(.v 5)]
  (.op (.bin .neq false) [(.v 8), (.v 9)]
  (.jump 0 [(.v 10)]))))))))
 (.ite (.v 6)
  (.ret [(.c (.bool false))])
 (.loop 1 [(.c (.int .i64 0))]
  (.op .lenL [(.v 2)]
  (.op (.bin .lss false) [(.v 7), (.v 8)]
  (.ite (.v 9)
   (.op (.row 3) [(.v 2), (.v 7)]
   (.op (.row 3) [(.v 5), (.v 7)]
   (.call 19 1 false [] [(.v 10), (.v 11), (.v 12), (.v 13), (.v 14), (.v 15)]
   (.op (.un .not) [(.v 16)]
   (.ite (.v 17)
    (.ret [(.c (.bool false))])
   (.op (.bin .add false) [(.v 7), (.c (.int .i64 1))]
   (.jump 0 [(.v 18)])))))))
  (.ret [(.c (.bool true))])))))))
theorem rd19 : readFn T SG sigs 3000 sg19 Tryd.f29 an19 = some ir19 := by kernel_rfl
/- 20:deliberationkeep.Mod -/
def an20 : Ann := (.s none .z (.s none .z (.s none .z (.s (some ⟨1, [(0, (.atm (.v 0))), (1, .junk), (4, .junk), (5, .junk), (6, .junk), (7, .junk), (8, .junk), (9, .junk)], [], 0, []⟩) .z .z))))
def ir20 : IR :=
 (.op (.bin .lss false) [(.v 1), (.c (.int .i64 1))]
 (.ite (.v 2)
  (.ret [(.c (.int .i64 0))])
 (.op (.bin .rem false) [(.v 0), (.v 1)]
 (.letj 1
  (.op (.bin .lss false) [(.v 3), (.c (.int .i64 0))]
  (.ite (.v 4)
   (.op (.bin .add false) [(.v 3), (.v 1)]
   (.jump 0 [(.v 5)]))
  (.jump 0 [(.v 3)])))
 (.ret [(.v 4)])))))
theorem rd20 : readFn T SG sigs 3000 sg20 Tryd.f24 an20 = some ir20 := by kernel_rfl
/- 21:deliberationlaw02.node -/
def an21 : Ann := .z
def ir21 : IR :=
 (.ret [(.v 0), (.c (.str [])), (.v 1)])
theorem rd21 : readFn T SG sigs 3000 sg21 Tryd.f30 an21 = some ir21 := by kernel_rfl
/- 22:deliberationkeep.Src).Yes: not read -/
/- 23:formula.Eval -/
def an23 : Ann := (.s none .z (.s none (.s (some ⟨1, [(0, .junk), (4, .junk), (12, (.atm (.v 0)))], [], 1, []⟩) .z .z) .z))
def ir23 : IR :=
 (.letj 1
  (.call 30 1 false [] [(.v 0), (.v 1), (.v 2)]
  (.op (.un .not) [(.v 4)]
  (.ite (.v 5)
   (.jump 0 [(.c (.bool true))])
  (.call 31 1 false [] [(.v 0), (.v 1), (.v 2)]
  (.op (.un .not) [(.v 6)]
  (.jump 0 [(.v 7)]))))))
 (.ite (.v 4)
  (.ret [(.c (.bool false))])
 (.call 37 1 false [] [(.v 0), (.v 1), (.v 2), (.v 3)]
 (.ret [(.v 5)]))))
theorem rd23 : readFn T SG sigs 3000 sg23 Tryd.f32 an23 = some ir23 := by kernel_rfl
/- 24:deliberationkeep.Nodes -/
def an24 : Ann := (.s none .z (.s none .z (.s none (.s none .z (.b (.l ⟨2, [(0, .junk), (4, .junk), (5, (.atm (.v 0))), (7, .junk), (8, .junk), (10, (.atm (.v 1)))], [], 1, []⟩ .z))) .z)))
def ir24 : IR :=
 (.op .lenL [(.v 2)]
 (.loop 2 [(.c (.int .i64 1)), (.c (.int .i64 0))]
  (.op (.bin .lss false) [(.v 6), (.v 4)]
  (.ite (.v 7)
   (.op (.bin .gtr false) [(.v 5), (.v 3)]
   (.ite (.v 8)
    (.ret [(.v 5)])
   (.op (.row 3) [(.v 2), (.v 6)]
   (.op (.bin .sub false) [(.v 3), (.v 5)]
   (.call 24 1 false [] [(.v 9), (.v 10), (.v 11), (.v 12)]
   (.op (.bin .add false) [(.v 5), (.v 13)]
   (.op (.bin .add false) [(.v 6), (.c (.int .i64 1))]
   (.jump 0 [(.v 14), (.v 15)]))))))))
  (.ret [(.v 5)])))))
theorem rd24 : readFn T SG sigs 3000 sg24 Tryd.f35 an24 = some ir24 := by kernel_rfl
/- 25:deliberationkeep.Levels -/
def an25 : Ann := (.s none .z (.s none .z (.s none .z (.s none (.s none .z (.b (.l ⟨2, [(0, .junk), (4, .junk), (5, (.atm (.v 0))), (7, .junk), (8, .junk), (9, .junk), (10, .junk), (12, (.atm (.v 1)))], [], 1, []⟩ .z))) .z))))
def ir25 : IR :=
 (.op (.bin .lss false) [(.v 3), (.c (.int .i64 0))]
 (.ite (.v 4)
  (.ret [(.c (.int .i64 0))])
 (.op .lenL [(.v 2)]
 (.loop 2 [(.c (.int .i64 0)), (.c (.int .i64 0))]
  (.op (.bin .lss false) [(.v 7), (.v 5)]
  (.ite (.v 8)
   (.op (.row 3) [(.v 2), (.v 7)]
   (.op (.bin .sub false) [(.v 3), (.c (.int .i64 1))]
   (.call 25 1 false [] [(.v 9), (.v 10), (.v 11), (.v 12)]
   (.op (.bin .add false) [(.c (.int .i64 1)), (.v 13)]
   (.op .max [(.v 6), (.v 14)]
   (.op (.bin .add false) [(.v 7), (.c (.int .i64 1))]
   (.jump 0 [(.v 15), (.v 16)])))))))
  (.ret [(.v 6)])))))))
theorem rd25 : readFn T SG sigs 3000 sg25 Tryd.f40 an25 = some ir25 := by kernel_rfl
/- 26:deliberationkeep.short -/
def an26 : Ann := (.s none .z (.s none .z (.s none (.s none .z (.b (.l ⟨1, [(0, .junk), (2, .junk), (4, .junk), (5, .junk), (6, .junk), (7, .junk), (8, .junk), (9, .junk), (11, (.atm (.v 0)))], [], 1, []⟩ .z))) .z)))
def ir26 : IR :=
 (.op .lenS [(.v 1)]
 (.op (.bin .gtr false) [(.v 3), (.c (.int .i64 100))]
 (.ite (.v 4)
  (.ret [(.c (.bool false))])
 (.op .lenL [(.v 2)]
 (.loop 1 [(.c (.int .i64 0))]
  (.op (.bin .lss false) [(.v 6), (.v 5)]
  (.ite (.v 7)
   (.op (.row 3) [(.v 2), (.v 6)]
   (.call 26 1 false [] [(.v 8), (.v 9), (.v 10)]
   (.op (.un .not) [(.v 11)]
   (.ite (.v 12)
    (.ret [(.c (.bool false))])
   (.op (.bin .add false) [(.v 6), (.c (.int .i64 1))]
   (.jump 0 [(.v 13)]))))))
  (.ret [(.c (.bool true))]))))))))
theorem rd26 : readFn T SG sigs 3000 sg26 Tryd.f41 an26 = some ir26 := by kernel_rfl
/- 27:deliberationkeep.Src).N -/
def an27 : Ann := .z
def ir27 : IR :=
 (.call 38 3 false [] [(.v 1), (.v 2)]
 (.call 20 1 false [] [(.v 3), (.v 0)]
 (.ret [(.v 6), (.v 4), (.v 5)])))
theorem rd27 : readFn T SG sigs 3000 sg27 Tryd.f25 an27 = some ir27 := by kernel_rfl
/- 28:deliberationkeep.Src).Text -/
def an28 : Ann := .z
def ir28 : IR :=
 (.op .lenL [(.v 0)]
 (.call 27 3 false [] [(.v 3), (.v 1), (.v 2)]
 (.op (.row 1) [(.v 0), (.v 4)]
 (.ret [(.v 7), (.v 5), (.v 6)]))))
theorem rd28 : readFn T SG sigs 3000 sg28 Tryd.f26 an28 = some ir28 := by kernel_rfl
/- 29:deliberationref02.text -/
def an29 : Ann := .z
def ir29 : IR :=
 (.op (.bin .eql false) [(.v 0), (.c (.int .i64 1))]
 (.ite (.v 3)
  (.ret [(.c (.str [49]))])
 (.op (.bin .eql false) [(.v 0), (.c (.int .i64 2))]
 (.ite (.v 4)
  (.ret [(.c (.str [48]))])
 (.op (.bin .eql false) [(.v 0), (.c (.int .i64 3))]
 (.ite (.v 5)
  (.ret [(.v 1)])
 (.op (.bin .eql false) [(.v 0), (.c (.int .i64 4))]
 (.ite (.v 6)
  (.op (.row 3) [(.v 2), (.c (.int .i64 0))]
  (.call 39 1 false [] [(.v 7), (.v 8), (.v 9), (.c (.int .i64 5))]
  (.op (.bin .add false) [(.c (.str [126])), (.v 10)]
  (.ret [(.v 11)]))))
 (.op (.bin .eql false) [(.v 0), (.c (.int .i64 5))]
 (.ite (.v 7)
  (.call 40 1 false [] [(.v 2), (.c (.str [32, 38, 32])), (.c (.int .i64 5))]
  (.ret [(.v 8)]))
 (.op (.bin .eql false) [(.v 0), (.c (.int .i64 6))]
 (.ite (.v 8)
  (.call 40 1 false [] [(.v 2), (.c (.str [32, 124, 32])), (.c (.int .i64 4))]
  (.ret [(.v 9)]))
 (.op (.bin .eql false) [(.v 0), (.c (.int .i64 7))]
 (.ite (.v 9)
  (.op (.row 3) [(.v 2), (.c (.int .i64 0))]
  (.call 39 1 false [] [(.v 10), (.v 11), (.v 12), (.c (.int .i64 3))]
  (.op (.bin .add false) [(.v 13), (.c (.str [32, 45, 62, 32]))]
  (.op (.row 3) [(.v 2), (.c (.int .i64 1))]
  (.call 39 1 false [] [(.v 15), (.v 16), (.v 17), (.c (.int .i64 2))]
  (.op (.bin .add false) [(.v 14), (.v 18)]
  (.ret [(.v 19)])))))))
 (.call 40 1 false [] [(.v 2), (.c (.str [32, 60, 45, 62, 32])), (.c (.int .i64 2))]
 (.ret [(.v 10)]))))))))))))))))
theorem rd29 : readFn T SG sigs 3000 sg29 Tryd.f45 an29 = some ir29 := by kernel_rfl
/- 30:formula.all -/
def an30 : Ann := (.s none .z (.s none .z (.s none (.s none .z (.b (.l ⟨1, [(0, .junk), (2, .junk), (4, .junk), (7, .junk), (8, .junk), (9, .junk), (10, .junk), (11, .junk), (14, (.atm (.v 0)))], [], 1, []⟩ .z))) .z)))
def ir30 : IR :=
 (.call 41 1 false [] [(.v 0), (.v 1), (.v 2)]
 (.op (.un .not) [(.v 3)]
 (.ite (.v 4)
  (.ret [(.c (.bool false))])
 (.op .lenL [(.v 2)]
 (.loop 1 [(.c (.int .i64 0))]
  (.op (.bin .lss false) [(.v 6), (.v 5)]
  (.ite (.v 7)
   (.op (.row 3) [(.v 2), (.v 6)]
   (.call 30 1 false [] [(.v 8), (.v 9), (.v 10)]
   (.op (.un .not) [(.v 11)]
   (.ite (.v 12)
    (.ret [(.c (.bool false))])
   (.op (.bin .add false) [(.v 6), (.c (.int .i64 1))]
   (.jump 0 [(.v 13)]))))))
  (.ret [(.c (.bool true))]))))))))
theorem rd30 : readFn T SG sigs 3000 sg30 Tryd.f46 an30 = some ir30 := by kernel_rfl
/- 31:formula.all -/
def an31 : Ann := (.s none .z (.s none .z (.s none (.s none .z (.b (.l ⟨1, [(0, .junk), (2, .junk), (4, .junk), (7, .junk), (8, .junk), (9, .junk), (10, .junk), (11, .junk), (14, (.atm (.v 0)))], [], 1, []⟩ .z))) .z)))
def ir31 : IR :=
 (.call 42 1 false [] [(.v 0), (.v 1), (.v 2)]
 (.op (.un .not) [(.v 3)]
 (.ite (.v 4)
  (.ret [(.c (.bool false))])
 (.op .lenL [(.v 2)]
 (.loop 1 [(.c (.int .i64 0))]
  (.op (.bin .lss false) [(.v 6), (.v 5)]
  (.ite (.v 7)
   (.op (.row 3) [(.v 2), (.v 6)]
   (.call 31 1 false [] [(.v 8), (.v 9), (.v 10)]
   (.op (.un .not) [(.v 11)]
   (.ite (.v 12)
    (.ret [(.c (.bool false))])
   (.op (.bin .add false) [(.v 6), (.c (.int .i64 1))]
   (.jump 0 [(.v 13)]))))))
  (.ret [(.c (.bool true))]))))))))
theorem rd31 : readFn T SG sigs 3000 sg31 Tryd.f46 an31 = some ir31 := by kernel_rfl
/- 32:deliberationref02.kinds -/
def an32 : Ann := (.s none .z (.s none .z (.s none .z (.s (some ⟨1, [(0, .junk), (2, .junk), (4, (.atm (.v 0))), (6, .junk), (7, .junk), (8, .junk)], [], 1, []⟩) (.s none .z (.b (.s (some ⟨1, [(0, .junk), (2, .junk), (6, .junk), (7, .junk), (8, .junk), (9, .junk), (11, (.atm (.v 0)))], [], 1, []⟩) .z (.c .z (.s none .z (.c .z (.s (some ⟨1, [(11, .junk), (17, .junk), (18, .junk), (21, (.atm (.v 0)))], [], 1, []⟩) .z (.c .z (.s (some ⟨1, [(10, .junk), (21, .junk), (30, (.atm (.v 0)))], [], 1, []⟩) .z .z))))))))) (.s none (.s none .z (.b (.l ⟨2, [(4, (.atm (.v 0))), (5, (.atm (.v 1)))], [], 1, []⟩ (.s none .z (.s (some ⟨1, [(4, (.atm (.v 0))), (35, .junk), (36, .junk), (37, .junk)], [], 1, []⟩) .z .z))))) .z)))))
def ir32 : IR :=
 (.op .lenL [(.v 2)]
 (.letj 1
  (.letj 1
   (.op (.bin .eql false) [(.v 0), (.c (.int .i64 1))]
   (.ite (.v 4)
    (.jump 1 [(.c (.bool true))])
   (.op (.bin .eql false) [(.v 0), (.c (.int .i64 2))]
   (.ite (.v 5)
    (.jump 1 [(.c (.bool true))])
   (.op (.bin .eql false) [(.v 0), (.c (.int .i64 3))]
   (.jump 1 [(.v 6)]))))))
  (.ite (.v 4)
   (.op (.bin .eql false) [(.v 3), (.c (.int .i64 0))]
   (.jump 0 [(.v 5)]))
  (.op (.bin .eql false) [(.v 0), (.c (.int .i64 4))]
  (.ite (.v 5)
   (.op (.bin .eql false) [(.v 3), (.c (.int .i64 1))]
   (.jump 0 [(.v 6)]))
  (.letj 1
   (.op (.bin .eql false) [(.v 0), (.c (.int .i64 5))]
   (.ite (.v 6)
    (.jump 1 [(.c (.bool true))])
   (.op (.bin .eql false) [(.v 0), (.c (.int .i64 6))]
   (.jump 1 [(.v 7)]))))
  (.ite (.v 6)
   (.op (.bin .geq false) [(.v 3), (.c (.int .i64 2))]
   (.ite (.v 7)
    (.op (.bin .leq false) [(.v 3), (.c (.int .i64 6))]
    (.jump 0 [(.v 8)]))
   (.jump 0 [(.c (.bool false))])))
  (.letj 1
   (.op (.bin .eql false) [(.v 0), (.c (.int .i64 7))]
   (.ite (.v 7)
    (.jump 1 [(.c (.bool true))])
   (.op (.bin .eql false) [(.v 0), (.c (.int .i64 8))]
   (.jump 1 [(.v 8)]))))
  (.ite (.v 7)
   (.op (.bin .eql false) [(.v 3), (.c (.int .i64 2))]
   (.jump 0 [(.v 8)]))
  (.jump 0 [(.c (.bool false))])))))))))
 (.loop 2 [(.v 4), (.c (.int .i64 0))]
  (.op (.bin .lss false) [(.v 6), (.v 3)]
  (.ite (.v 7)
   (.letj 1
    (.ite (.v 5)
     (.op (.row 3) [(.v 2), (.v 6)]
     (.call 32 1 false [] [(.v 8), (.v 9), (.v 10)]
     (.jump 1 [(.v 11)])))
    (.jump 1 [(.c (.bool false))]))
   (.op (.bin .add false) [(.v 6), (.c (.int .i64 1))]
   (.jump 0 [(.v 8), (.v 9)])))
  (.ret [(.v 5)]))))))
theorem rd32 : readFn T SG sigs 3000 sg32 Tryd.f49 an32 = some ir32 := by kernel_rfl
/- 33:deliberationref02.names -/
def an33 : Ann := (.s none .z (.s none .z (.s (some ⟨1, [(0, .junk), (2, .junk), (3, (.atm (.v 0))), (5, .junk), (6, .junk), (7, .junk)], [], 1, []⟩) .z (.s none (.s none .z (.b (.l ⟨2, [(3, (.atm (.v 0))), (4, (.atm (.v 1)))], [], 1, []⟩ (.s none .z (.s (some ⟨1, [(3, (.atm (.v 0))), (14, .junk), (15, .junk), (16, .junk), (17, .junk), (18, .junk)], [], 1, []⟩) .z .z))))) .z))))
def ir33 : IR :=
 (.op (.bin .eql false) [(.v 1), (.c (.str []))]
 (.letj 1
  (.op (.bin .eql false) [(.v 0), (.c (.int .i64 3))]
  (.ite (.v 4)
   (.call 43 1 false [] [(.v 1)]
   (.jump 0 [(.v 5)]))
  (.jump 0 [(.v 3)])))
 (.loop 2 [(.v 4), (.c (.int .i64 0))]
  (.op .lenL [(.v 2)]
  (.op (.bin .lss false) [(.v 6), (.v 7)]
  (.ite (.v 8)
   (.letj 1
    (.ite (.v 5)
     (.op (.row 3) [(.v 2), (.v 6)]
     (.call 33 1 false [] [(.v 9), (.v 10), (.v 11)]
     (.jump 1 [(.v 12)])))
    (.jump 1 [(.c (.bool false))]))
   (.op (.bin .add false) [(.v 6), (.c (.int .i64 1))]
   (.jump 0 [(.v 9), (.v 10)])))
  (.ret [(.v 5)])))))))
theorem rd33 : readFn T SG sigs 3000 sg33 Tryd.f50 an33 = some ir33 := by kernel_rfl
/- 34:formula.parser).iff -/
def an34 : Ann := .z
def ir34 : IR :=
 (.call 44 7 false [] [(.v 0), (.v 1), (.v 2), (.v 3)]
 (.call 35 5 false [] [(.c (.str [60, 45, 62])), (.v 7), (.v 8), (.v 9), (.v 10)]
 (.op (.un .not) [(.v 11)]
 (.ite (.v 16)
  (.ret [(.v 4), (.v 5), (.v 6), (.v 12), (.v 13), (.v 14), (.v 15)])
 (.call 44 7 false [] [(.v 12), (.v 13), (.v 14), (.v 15)]
 (.op (.mk 3 2) [(.v 4), (.v 5), (.v 6), (.v 17), (.v 18), (.v 19)]
 (.ret [(.c (.int .i64 8)), (.c (.str [])), (.v 24), (.v 20), (.v 21), (.v 22), (.v 23)])))))))
theorem rd34 : readFn T SG sigs 3000 sg34 Tryd.f52 an34 = some ir34 := by kernel_rfl
/- 35:formula.parser).take -/
def an35 : Ann := (.s none .z (.s none .z (.s none (.s (some ⟨1, [(1, .junk), (4, .junk), (6, .junk), (7, .junk), (18, (.atm (.v 0)))], [], 2, []⟩) .z .z) .z)))
def ir35 : IR :=
 (.call 45 7 false [] [(.v 1), (.v 2), (.v 3), (.v 4)]
 (.letj 1
  (.op (.bin .geq false) [(.v 10), (.c (.int .i64 0))]
  (.ite (.v 12)
   (.jump 0 [(.c (.bool true))])
  (.op (.bin .neq false) [(.v 5), (.v 0)]
  (.jump 0 [(.v 13)]))))
 (.ite (.v 12)
  (.ret [(.c (.bool false)), (.v 8), (.v 9), (.v 10), (.v 11)])
 (.op .lenS [(.v 6)]
 (.op (.bin .add false) [(.v 9), (.v 13)]
 (.ret [(.c (.bool true)), (.v 8), (.v 14), (.v 10), (.v 11)]))))))
theorem rd35 : readFn T SG sigs 3000 sg35 Tryd.f53 an35 = some ir35 := by kernel_rfl
/- 36:formula.parser).fail -/
def an36 : Ann := (.s none .z (.s (some ⟨4, [(0, .junk)], [(0, ⟨false, false, 70, 4, (.c (.sl [])), [[(.atm (.v 0)), (.atm (.v 1)), (.atm (.v 2)), (.atm (.v 3))]]⟩)], 2, []⟩) .z .z))
def ir36 : IR :=
 (.letj 4
  (.op (.bin .lss false) [(.v 2), (.c (.int .i64 0))]
  (.ite (.v 4)
   (.call 45 7 false [] [(.v 0), (.v 1), (.v 2), (.v 3)]
   (.jump 0 [(.v 8), (.v 9), (.v 7), (.v 11)]))
  (.jump 0 [(.v 0), (.v 1), (.v 2), (.v 3)])))
 (.ret [(.c (.int .i64 0)), (.c (.str [])), (.c (.sl [])), (.v 4), (.v 5), (.v 6), (.v 7)]))
theorem rd36 : readFn T SG sigs 3000 sg36 Tryd.f54 an36 = some ir36 := by kernel_rfl
/- 37:formula.value -/
def an37 : Ann := (.s none .z (.s none .z (.s none (.s none .z (.b (.s none .z (.c .z (.s none .z (.c .z (.s none .z (.c .z (.s none .z (.c .z (.s none .z (.c .z (.s (some ⟨1, [(0, .junk), (1, .junk), (3, .junk), (4, .junk), (8, .junk), (9, .junk), (10, .junk), (11, .junk), (12, .junk), (13, .junk), (14, .junk), (19, .junk), (20, .junk), (28, .junk), (29, .junk), (34, .junk), (35, .junk), (41, (.atm (.v 0)))], [], 3, []⟩) .z .z))))))))))))) .z)))
def ir37 : IR :=
 (.op (.bin .eql false) [(.v 0), (.c (.int .i64 1))]
 (.ite (.v 4)
  (.ret [(.c (.bool true))])
 (.op (.bin .eql false) [(.v 0), (.c (.int .i64 3))]
 (.ite (.v 5)
  (.call 46 1 false [] [(.v 3), (.v 1)]
  (.ret [(.v 6)]))
 (.op (.bin .eql false) [(.v 0), (.c (.int .i64 4))]
 (.ite (.v 6)
  (.op (.row 3) [(.v 2), (.c (.int .i64 0))]
  (.call 47 2 false [] [(.v 7), (.v 8), (.v 9), (.v 3)]
  (.op (.un .not) [(.v 10)]
  (.ret [(.v 12)]))))
 (.op (.bin .eql false) [(.v 0), (.c (.int .i64 6))]
 (.ite (.v 7)
  (.call 48 2 false [] [(.v 2), (.v 3)]
  (.ret [(.v 8)]))
 (.op (.bin .eql false) [(.v 0), (.c (.int .i64 5))]
 (.ite (.v 8)
  (.call 49 2 false [] [(.v 2), (.v 3)]
  (.op (.un .not) [(.v 9)]
  (.ret [(.v 11)])))
 (.letj 1
  (.op (.bin .eql false) [(.v 0), (.c (.int .i64 7))]
  (.ite (.v 9)
   (.jump 0 [(.c (.bool true))])
  (.op (.bin .eql false) [(.v 0), (.c (.int .i64 8))]
  (.jump 0 [(.v 10)]))))
 (.ite (.v 9)
  (.op (.row 3) [(.v 2), (.c (.int .i64 0))]
  (.call 47 2 false [] [(.v 10), (.v 11), (.v 12), (.v 3)]
  (.op (.row 3) [(.v 2), (.c (.int .i64 1))]
  (.call 47 2 false [] [(.v 15), (.v 16), (.v 17), (.v 14)]
  (.op (.bin .eql true) [(.v 13), (.v 18)]
  (.ite (.v 20)
   (.ret [(.c (.bool true))])
  (.op (.bin .eql false) [(.v 0), (.c (.int .i64 7))]
  (.ite (.v 21)
   (.ret [(.v 18)])
  (.ret [(.c (.bool false))])))))))))
 (.ret [(.c (.bool false))])))))))))))))
theorem rd37 : readFn T SG sigs 3000 sg37 Tryd.f58 an37 = some ir37 := by kernel_rfl
/- 38:deliberationkeep.Src).Raw -/
def an38 : Ann := .z
def ir38 : IR :=
 (.op .lenL [(.v 0)]
 (.op (.bin .geq false) [(.v 1), (.v 2)]
 (.ite (.v 3)
  (.ret [(.c (.int .i64 0)), (.v 0), (.v 1)])
 (.op (.bin .add false) [(.v 1), (.c (.int .i64 1))]
 (.op (.bin .sub false) [(.v 4), (.c (.int .i64 1))]
 (.op (.row 1) [(.v 0), (.v 5)]
 (.ret [(.v 6), (.v 0), (.v 4)])))))))
theorem rd38 : readFn T SG sigs 3000 sg38 Tryd.f51 an38 = some ir38 := by kernel_rfl
/- 39:deliberationref02.argument -/
def an39 : Ann := .z
def ir39 : IR :=
 (.call 50 1 false [] [(.v 0), (.v 1), (.v 2)]
 (.op (.bin .lss false) [(.v 4), (.v 3)]
 (.ite (.v 5)
  (.call 29 1 false [] [(.v 0), (.v 1), (.v 2)]
  (.op (.bin .add false) [(.c (.str [40])), (.v 6)]
  (.op (.bin .add false) [(.v 7), (.c (.str [41]))]
  (.ret [(.v 8)]))))
 (.call 29 1 false [] [(.v 0), (.v 1), (.v 2)]
 (.ret [(.v 6)])))))
theorem rd39 : readFn T SG sigs 3000 sg39 Tryd.f74 an39 = some ir39 := by kernel_rfl
/- 40:deliberationref02.joined -/
def an40 : Ann := (.s none .z (.s none .z (.s none (.s none .z (.b (.l ⟨2, [(6, .junk), (7, (.atm (.v 0))), (8, (.atm (.v 1))), (9, .junk), (10, .junk), (11, .junk), (12, .junk), (13, .junk)], [], 0, []⟩ .z))) .z)))
def ir40 : IR :=
 (.op (.row 3) [(.v 0), (.c (.int .i64 0))]
 (.call 39 1 false [] [(.v 3), (.v 4), (.v 5), (.v 2)]
 (.loop 2 [(.v 6), (.c (.int .i64 1))]
  (.op .lenL [(.v 0)]
  (.op (.bin .lss false) [(.v 8), (.v 9)]
  (.ite (.v 10)
   (.op (.bin .add false) [(.v 7), (.v 1)]
   (.op (.row 3) [(.v 0), (.v 8)]
   (.call 39 1 false [] [(.v 12), (.v 13), (.v 14), (.v 2)]
   (.op (.bin .add false) [(.v 11), (.v 15)]
   (.op (.bin .add false) [(.v 8), (.c (.int .i64 1))]
   (.jump 0 [(.v 16), (.v 17)]))))))
  (.ret [(.v 7)])))))))
theorem rd40 : readFn T SG sigs 3000 sg40 Tryd.f75 an40 = some ir40 := by kernel_rfl
/- 41:formula.counted -/
def an41 : Ann := (.s none .z (.s none .z (.s none (.s none .z (.b (.s (some ⟨1, [(0, .junk), (1, .junk), (2, .junk), (4, .junk), (5, .junk), (6, .junk), (7, .junk), (9, (.atm (.v 0)))], [], 1, []⟩) .z (.c .z (.s none .z (.c .z (.s (some ⟨1, [(9, .junk), (15, .junk), (16, .junk), (19, (.atm (.v 0)))], [], 1, []⟩) .z (.c .z (.s (some ⟨1, [(8, .junk), (19, .junk), (28, (.atm (.v 0)))], [], 1, []⟩) .z .z))))))))) .z)))
def ir41 : IR :=
 (.op .lenL [(.v 2)]
 (.letj 1
  (.op (.bin .eql false) [(.v 0), (.c (.int .i64 1))]
  (.ite (.v 4)
   (.jump 0 [(.c (.bool true))])
  (.op (.bin .eql false) [(.v 0), (.c (.int .i64 2))]
  (.ite (.v 5)
   (.jump 0 [(.c (.bool true))])
  (.op (.bin .eql false) [(.v 0), (.c (.int .i64 3))]
  (.jump 0 [(.v 6)]))))))
 (.ite (.v 4)
  (.op (.bin .eql false) [(.v 3), (.c (.int .i64 0))]
  (.ret [(.v 5)]))
 (.op (.bin .eql false) [(.v 0), (.c (.int .i64 4))]
 (.ite (.v 5)
  (.op (.bin .eql false) [(.v 3), (.c (.int .i64 1))]
  (.ret [(.v 6)]))
 (.letj 1
  (.op (.bin .eql false) [(.v 0), (.c (.int .i64 5))]
  (.ite (.v 6)
   (.jump 0 [(.c (.bool true))])
  (.op (.bin .eql false) [(.v 0), (.c (.int .i64 6))]
  (.jump 0 [(.v 7)]))))
 (.ite (.v 6)
  (.op (.bin .geq false) [(.v 3), (.c (.int .i64 2))]
  (.ite (.v 7)
   (.op (.bin .leq false) [(.v 3), (.c (.int .i64 6))]
   (.ret [(.v 8)]))
  (.ret [(.c (.bool false))])))
 (.letj 1
  (.op (.bin .eql false) [(.v 0), (.c (.int .i64 7))]
  (.ite (.v 7)
   (.jump 0 [(.c (.bool true))])
  (.op (.bin .eql false) [(.v 0), (.c (.int .i64 8))]
  (.jump 0 [(.v 8)]))))
 (.ite (.v 7)
  (.op (.bin .eql false) [(.v 3), (.c (.int .i64 2))]
  (.ret [(.v 8)]))
 (.ret [(.c (.bool false))]))))))))))
theorem rd41 : readFn T SG sigs 3000 sg41 Tryd.f47 an41 = some ir41 := by kernel_rfl
/- 42:formula.named -/
def an42 : Ann := .z
def ir42 : IR :=
 (.op (.bin .eql false) [(.v 0), (.c (.int .i64 3))]
 (.ite (.v 3)
  (.call 51 1 false [] [(.v 1)]
  (.ret [(.v 4)]))
 (.op (.bin .eql false) [(.v 1), (.c (.str []))]
 (.ret [(.v 4)]))))
theorem rd42 : readFn T SG sigs 3000 sg42 Tryd.f48 an42 = some ir42 := by kernel_rfl
/- 43:deliberationref01.ValidName -/
def an43 : Ann := (.s none .z (.s none (.s (some ⟨1, [(2, .junk), (21, (.atm (.v 0)))], [], 0, []⟩) .z .z) (.s none (.s none .z (.b (.l ⟨1, [(3, (.atm (.v 0))), (21, .junk)], [], 0, []⟩ (.s none .z (.s none (.b (.s (some ⟨1, [(22, .junk), (23, .junk), (24, .junk), (25, .junk), (55, (.atm (.v 0)))], [], 0, []⟩) .z .z)) .z))))) .z)))
def ir43 : IR :=
 (.letj 1
  (.op .lenS [(.v 0)]
  (.op (.bin .lss false) [(.v 1), (.c (.int .i64 1))]
  (.ite (.v 2)
   (.jump 0 [(.c (.bool true))])
  (.op .lenS [(.v 0)]
  (.op (.bin .gtr false) [(.v 3), (.c (.int .i64 12))]
  (.ite (.v 4)
   (.jump 0 [(.c (.bool true))])
  (.op .idxS [(.v 0), (.c (.int .i64 0))]
  (.op (.bin .lss false) [(.v 5), (.c (.int .u8 97))]
  (.ite (.v 6)
   (.jump 0 [(.c (.bool true))])
  (.op .idxS [(.v 0), (.c (.int .i64 0))]
  (.op (.bin .gtr false) [(.v 7), (.c (.int .u8 122))]
  (.jump 0 [(.v 8)]))))))))))))
 (.ite (.v 1)
  (.ret [(.c (.bool false))])
 (.loop 1 [(.c (.int .i64 0))]
  (.op .lenS [(.v 0)]
  (.op (.bin .lss false) [(.v 2), (.v 3)]
  (.ite (.v 4)
   (.letj 1
    (.op .idxS [(.v 0), (.v 2)]
    (.op (.bin .lss false) [(.v 5), (.c (.int .u8 97))]
    (.ite (.v 6)
     (.op .idxS [(.v 0), (.v 2)]
     (.op (.bin .lss false) [(.v 7), (.c (.int .u8 48))]
     (.ite (.v 8)
      (.op .idxS [(.v 0), (.v 2)]
      (.op (.bin .neq false) [(.v 9), (.c (.int .u8 95))]
      (.jump 1 [(.v 10)])))
     (.op .idxS [(.v 0), (.v 2)]
     (.op (.bin .gtr false) [(.v 9), (.c (.int .u8 57))]
     (.ite (.v 10)
      (.op .idxS [(.v 0), (.v 2)]
      (.op (.bin .neq false) [(.v 11), (.c (.int .u8 95))]
      (.jump 1 [(.v 12)])))
     (.jump 1 [(.c (.bool false))])))))))
    (.op .idxS [(.v 0), (.v 2)]
    (.op (.bin .gtr false) [(.v 7), (.c (.int .u8 122))]
    (.ite (.v 8)
     (.op .idxS [(.v 0), (.v 2)]
     (.op (.bin .lss false) [(.v 9), (.c (.int .u8 48))]
     (.ite (.v 10)
      (.op .idxS [(.v 0), (.v 2)]
      (.op (.bin .neq false) [(.v 11), (.c (.int .u8 95))]
      (.jump 1 [(.v 12)])))
     (.op .idxS [(.v 0), (.v 2)]
     (.op (.bin .gtr false) [(.v 11), (.c (.int .u8 57))]
     (.ite (.v 12)
      (.op .idxS [(.v 0), (.v 2)]
      (.op (.bin .neq false) [(.v 13), (.c (.int .u8 95))]
      (.jump 1 [(.v 14)])))
     (.jump 1 [(.c (.bool false))])))))))
    (.jump 1 [(.c (.bool false))])))))))
   (.ite (.v 5)
    (.ret [(.c (.bool false))])
   (.op (.bin .add false) [(.v 2), (.c (.int .i64 1))]
   (.jump 0 [(.v 6)]))))
  (.ret [(.c (.bool true))])))))))
theorem rd43 : readFn T SG sigs 3000 sg43 Tryd.f77 an43 = some ir43 := by kernel_rfl
/- 44:formula.parser).implies -/
def an44 : Ann := .z
def ir44 : IR :=
 (.call 52 7 false [] [(.v 0), (.v 1), (.v 2), (.v 3)]
 (.call 35 5 false [] [(.c (.str [45, 62])), (.v 7), (.v 8), (.v 9), (.v 10)]
 (.op (.un .not) [(.v 11)]
 (.ite (.v 16)
  (.ret [(.v 4), (.v 5), (.v 6), (.v 12), (.v 13), (.v 14), (.v 15)])
 (.call 44 7 false [] [(.v 12), (.v 13), (.v 14), (.v 15)]
 (.op (.mk 3 2) [(.v 4), (.v 5), (.v 6), (.v 17), (.v 18), (.v 19)]
 (.ret [(.c (.int .i64 7)), (.c (.str [])), (.v 24), (.v 20), (.v 21), (.v 22), (.v 23)])))))))
theorem rd44 : readFn T SG sigs 3000 sg44 Tryd.f78 an44 = some ir44 := by kernel_rfl
/- 45:formula.parser).peek -/
def an45 : Ann := (.s none .z (.s none (.b (.l ⟨4, [], [(0, ⟨false, false, 70, 4, (.c (.sl [])), [[(.atm (.v 0)), (.atm (.v 1)), (.atm (.v 2)), (.atm (.v 3))]]⟩)], 2, []⟩ (.s none (.s (some ⟨1, [(29, (.atm (.v 0)))], [], 2, []⟩) .z .z) .z))) (.s none .z (.s none .z (.s none .z (.s none (.b (.l ⟨1, [(4, (.atm (.v 0))), (29, .junk), (37, .junk), (38, .junk), (39, .junk), (40, .junk), (41, .junk), (42, .junk), (43, .junk), (44, .junk), (45, .junk), (46, .junk), (47, .junk)], [], 2, []⟩ (.s none (.s (some ⟨1, [(63, (.atm (.v 0)))], [], 2, []⟩) .z .z) .z))) (.s none (.s none .z (.b (.s (some ⟨1, [(63, .junk), (66, .junk), (67, .junk), (68, .junk), (69, (.atm (.v 0)))], [], 2, []⟩) .z .z))) (.s none (.s none .z (.b (.l ⟨1, [(4, .junk), (5, .junk), (69, .junk), (83, .junk), (84, .junk), (85, .junk), (92, .junk), (93, .junk), (94, .junk), (103, (.atm (.v 0)))], [], 3, []⟩ (.s none .z (.s none .z (.s none (.b (.s none .z (.s (some ⟨1, [(104, .junk), (105, .junk), (106, .junk), (119, (.atm (.v 0)))], [], 3, []⟩) .z .z))) .z)))))) .z))))))))
def ir45 : IR :=
 (.loop 4 [(.v 0), (.v 1), (.v 2), (.v 3)]
  (.letj 1
   (.op .lenS [(.v 4)]
   (.op (.bin .lss false) [(.v 5), (.v 8)]
   (.ite (.v 9)
    (.op .idxS [(.v 4), (.v 5)]
    (.op (.bin .eql false) [(.v 10), (.c (.int .u8 32))]
    (.jump 1 [(.v 11)])))
   (.jump 1 [(.c (.bool false))]))))
  (.ite (.v 8)
   (.op (.bin .add false) [(.v 5), (.c (.int .i64 1))]
   (.jump 0 [(.v 4), (.v 9), (.v 6), (.v 7)]))
  (.op .lenS [(.v 4)]
  (.op .subS [(.v 4), (.v 5), (.v 9)]
  (.op (.bin .eql false) [(.v 10), (.c (.str []))]
  (.ite (.v 11)
   (.op .lenS [(.v 4)]
   (.ret [(.c (.str [])), (.c (.str [])), (.v 12), (.v 4), (.v 5), (.v 6), (.v 7)]))
  (.loop 1 [(.c (.int .i64 0))]
   (.letj 1
    (.op .lenS [(.v 10)]
    (.op (.bin .lss false) [(.v 12), (.v 13)]
    (.ite (.v 14)
     (.op .idxS [(.v 10), (.v 12)]
     (.call 53 1 false [] [(.v 15)]
     (.jump 2 [(.v 16)])))
    (.jump 2 [(.c (.bool false))]))))
   (.ite (.v 13)
    (.op (.bin .add false) [(.v 12), (.c (.int .i64 1))]
    (.jump 1 [(.v 14)]))
   (.op .subS [(.v 10), (.c (.int .i64 0)), (.v 12)]
   (.letj 1
    (.op (.bin .eql false) [(.v 14), (.c (.str [48]))]
    (.ite (.v 15)
     (.jump 2 [(.c (.bool true))])
    (.op (.bin .eql false) [(.v 14), (.c (.str [49]))]
    (.jump 2 [(.v 16)]))))
   (.ite (.v 15)
    (.ret [(.v 14), (.v 14), (.v 5), (.v 4), (.v 5), (.v 6), (.v 7)])
   (.call 51 1 false [] [(.v 14)]
   (.ite (.v 16)
    (.ret [(.c (.str [110, 97, 109, 101])), (.v 14), (.v 5), (.v 4), (.v 5), (.v 6), (.v 7)])
   (.op (.bin .gtr false) [(.v 12), (.c (.int .i64 0))]
   (.ite (.v 17)
    (.ret [(.c (.str [63])), (.v 14), (.v 5), (.v 4), (.v 5), (.v 6), (.v 7)])
   (.op (.mk 1 7) [(.c (.str [60, 45, 62])), (.c (.str [45, 62])), (.c (.str [126])), (.c (.str [38])), (.c (.str [124])), (.c (.str [40])), (.c (.str [41]))]
   (.op .lenL [(.v 18)]
   (.loop 1 [(.c (.int .i64 0))]
    (.op (.bin .lss false) [(.v 20), (.v 19)]
    (.ite (.v 21)
     (.op .chk [(.v 18), (.v 20)]
     (.op (.get 0 1) [(.v 18), (.v 20)]
     (.letj 1
      (.op .lenS [(.v 10)]
      (.op .lenS [(.v 22)]
      (.op (.bin .geq false) [(.v 23), (.v 24)]
      (.ite (.v 25)
       (.op .lenS [(.v 22)]
       (.op .subS [(.v 10), (.c (.int .i64 0)), (.v 26)]
       (.op (.bin .eql false) [(.v 27), (.v 22)]
       (.jump 3 [(.v 28)]))))
      (.jump 3 [(.c (.bool false))])))))
     (.ite (.v 23)
      (.ret [(.v 22), (.v 22), (.v 5), (.v 4), (.v 5), (.v 6), (.v 7)])
     (.op (.bin .add false) [(.v 20), (.c (.int .i64 1))]
     (.jump 2 [(.v 24)]))))))
    (.ret [(.c (.str [63])), (.c (.str [])), (.v 5), (.v 4), (.v 5), (.v 6), (.v 7)])))))))))))))))))))))))
theorem rd45 : readFn T SG sigs 3000 sg45 Tryd.f79 an45 = some ir45 := by kernel_rfl
/- 46:slices.Contains[[]string,string] -/
def an46 : Ann := .z
def ir46 : IR :=
 (.call 54 1 false [] [(.v 0), (.v 1)]
 (.op (.bin .geq false) [(.v 2), (.c (.int .i64 0))]
 (.ret [(.v 3)])))
theorem rd46 : readFn T SG sigs 3000 sg46 Tryd.f84 an46 = some ir46 := by kernel_rfl
/- 47:formula.value$1 -/
def an47 : Ann := .z
def ir47 : IR :=
 (.call 37 1 false [] [(.v 0), (.v 1), (.v 2), (.v 3)]
 (.ret [(.v 4), (.v 3)]))
theorem rd47 : readFn T SG sigs 3000 sg47 Tryd.f83 an47 = some ir47 := by kernel_rfl
/- 48:api.Formula] -/
def an48 : Ann := .z
def ir48 : IR :=
 (.call 55 2 false [] [(.v 0), (.v 1)]
 (.op (.bin .geq false) [(.v 2), (.c (.int .i64 0))]
 (.ret [(.v 4), (.v 3)])))
theorem rd48 : readFn T SG sigs 3000 sg48 Tryd.f85 an48 = some ir48 := by kernel_rfl
/- 49:api.Formula] -/
def an49 : Ann := .z
def ir49 : IR :=
 (.call 56 2 false [] [(.v 0), (.v 1)]
 (.op (.bin .geq false) [(.v 2), (.c (.int .i64 0))]
 (.ret [(.v 4), (.v 3)])))
theorem rd49 : readFn T SG sigs 3000 sg49 Tryd.f85 an49 = some ir49 := by kernel_rfl
/- 50:deliberationref02.strength -/
def an50 : Ann := .z
def ir50 : IR :=
 (.op (.bin .eql false) [(.v 0), (.c (.int .i64 8))]
 (.ite (.v 3)
  (.ret [(.c (.int .i64 1))])
 (.op (.bin .eql false) [(.v 0), (.c (.int .i64 7))]
 (.ite (.v 4)
  (.ret [(.c (.int .i64 2))])
 (.op (.bin .eql false) [(.v 0), (.c (.int .i64 6))]
 (.ite (.v 5)
  (.ret [(.c (.int .i64 3))])
 (.op (.bin .eql false) [(.v 0), (.c (.int .i64 5))]
 (.ite (.v 6)
  (.ret [(.c (.int .i64 4))])
 (.ret [(.c (.int .i64 5))])))))))))
theorem rd50 : readFn T SG sigs 3000 sg50 Tryd.f91 an50 = some ir50 := by kernel_rfl
/- 51:literal.ValidName -/
def an51 : Ann := (.s none .z (.s none (.s (some ⟨1, [(2, .junk), (12, (.atm (.v 0)))], [], 0, []⟩) .z .z) (.s none (.s none .z (.b (.l ⟨1, [(12, .junk), (13, .junk), (15, (.atm (.v 0)))], [], 0, []⟩ (.s none .z (.s none .z (.s (some ⟨0, [(16, .junk)], [], 0, []⟩) (.b (.s none .z (.s none .z (.b (.s (some ⟨1, [(16, .junk), (17, .junk), (18, .junk), (19, .junk), (20, .junk), (21, (.atm (.v 0)))], [], 0, []⟩) .z (.c .z (.s (some ⟨1, [(3, .junk), (4, .junk), (21, .junk), (28, (.atm (.v 0)))], [], 0, []⟩) .z .z))))))) .z)))))) .z)))
def ir51 : IR :=
 (.letj 1
  (.op .lenS [(.v 0)]
  (.op (.bin .eql false) [(.v 1), (.c (.int .i64 0))]
  (.ite (.v 2)
   (.jump 0 [(.c (.bool true))])
  (.op .lenS [(.v 0)]
  (.op (.bin .gtr false) [(.v 3), (.c (.int .i64 12))]
  (.jump 0 [(.v 4)]))))))
 (.ite (.v 1)
  (.ret [(.c (.bool false))])
 (.op .lenS [(.v 0)]
 (.loop 1 [(.c (.int .i64 0))]
  (.op (.bin .lss false) [(.v 3), (.v 2)]
  (.ite (.v 4)
   (.letj 0
    (.op .idxS [(.v 0), (.v 3)]
    (.letj 1
     (.op (.bin .geq false) [(.v 5), (.c (.int .u8 97))]
     (.ite (.v 6)
      (.op (.bin .leq false) [(.v 5), (.c (.int .u8 122))]
      (.jump 2 [(.v 7)]))
     (.jump 2 [(.c (.bool false))])))
    (.ite (.v 6)
     (.jump 1 [])
    (.letj 1
     (.op (.bin .gtr false) [(.v 3), (.c (.int .i64 0))]
     (.ite (.v 7)
      (.op (.bin .geq false) [(.v 5), (.c (.int .u8 48))]
      (.ite (.v 8)
       (.op (.bin .leq false) [(.v 5), (.c (.int .u8 57))]
       (.ite (.v 9)
        (.jump 2 [(.c (.bool true))])
       (.op (.bin .eql false) [(.v 5), (.c (.int .u8 95))]
       (.jump 2 [(.v 10)]))))
      (.op (.bin .eql false) [(.v 5), (.c (.int .u8 95))]
      (.jump 2 [(.v 9)]))))
     (.jump 2 [(.c (.bool false))])))
    (.ite (.v 7)
     (.jump 1 [])
    (.ret [(.c (.bool false))]))))))
   (.op (.bin .add false) [(.v 3), (.c (.int .i64 1))]
   (.jump 0 [(.v 5)])))
  (.ret [(.c (.bool true))])))))))
theorem rd51 : readFn T SG sigs 3000 sg51 Tryd.f76 an51 = some ir51 := by kernel_rfl
/- 52:formula.parser).or -/
def an52 : Ann := .z
def ir52 : IR :=
 (.call 57 7 false [] [(.c (.int .i64 6)), (.c (.str [124])), (.v 0), (.v 1), (.v 2), (.v 3)]
 (.ret [(.v 4), (.v 5), (.v 6), (.v 7), (.v 8), (.v 9), (.v 10)]))
theorem rd52 : readFn T SG sigs 3000 sg52 Tryd.f92 an52 = some ir52 := by kernel_rfl
/- 53:formula.word -/
def an53 : Ann := .z
def ir53 : IR :=
 (.op (.bin .geq false) [(.v 0), (.c (.int .u8 97))]
 (.ite (.v 1)
  (.op (.bin .leq false) [(.v 0), (.c (.int .u8 122))]
  (.ite (.v 2)
   (.ret [(.c (.bool true))])
  (.op (.bin .geq false) [(.v 0), (.c (.int .u8 65))]
  (.ite (.v 3)
   (.op (.bin .leq false) [(.v 0), (.c (.int .u8 90))]
   (.ite (.v 4)
    (.ret [(.c (.bool true))])
   (.op (.bin .geq false) [(.v 0), (.c (.int .u8 48))]
   (.ite (.v 5)
    (.op (.bin .leq false) [(.v 0), (.c (.int .u8 57))]
    (.ite (.v 6)
     (.ret [(.c (.bool true))])
    (.op (.bin .eql false) [(.v 0), (.c (.int .u8 95))]
    (.ret [(.v 7)]))))
   (.op (.bin .eql false) [(.v 0), (.c (.int .u8 95))]
   (.ret [(.v 6)]))))))
  (.op (.bin .geq false) [(.v 0), (.c (.int .u8 48))]
  (.ite (.v 4)
   (.op (.bin .leq false) [(.v 0), (.c (.int .u8 57))]
   (.ite (.v 5)
    (.ret [(.c (.bool true))])
   (.op (.bin .eql false) [(.v 0), (.c (.int .u8 95))]
   (.ret [(.v 6)]))))
  (.op (.bin .eql false) [(.v 0), (.c (.int .u8 95))]
  (.ret [(.v 5)]))))))))
 (.op (.bin .geq false) [(.v 0), (.c (.int .u8 65))]
 (.ite (.v 2)
  (.op (.bin .leq false) [(.v 0), (.c (.int .u8 90))]
  (.ite (.v 3)
   (.ret [(.c (.bool true))])
  (.op (.bin .geq false) [(.v 0), (.c (.int .u8 48))]
  (.ite (.v 4)
   (.op (.bin .leq false) [(.v 0), (.c (.int .u8 57))]
   (.ite (.v 5)
    (.ret [(.c (.bool true))])
   (.op (.bin .eql false) [(.v 0), (.c (.int .u8 95))]
   (.ret [(.v 6)]))))
  (.op (.bin .eql false) [(.v 0), (.c (.int .u8 95))]
  (.ret [(.v 5)]))))))
 (.op (.bin .geq false) [(.v 0), (.c (.int .u8 48))]
 (.ite (.v 3)
  (.op (.bin .leq false) [(.v 0), (.c (.int .u8 57))]
  (.ite (.v 4)
   (.ret [(.c (.bool true))])
  (.op (.bin .eql false) [(.v 0), (.c (.int .u8 95))]
  (.ret [(.v 5)]))))
 (.op (.bin .eql false) [(.v 0), (.c (.int .u8 95))]
 (.ret [(.v 4)]))))))))
theorem rd53 : readFn T SG sigs 3000 sg53 Tryd.f93 an53 = some ir53 := by kernel_rfl
/- 54:slices.Index[[]string,string] -/
def an54 : Ann := (.s none .z (.s none (.s none .z (.b (.l ⟨1, [(4, .junk), (6, .junk), (8, (.atm (.v 0)))], [], 0, []⟩ .z))) .z))
def ir54 : IR :=
 (.op .lenL [(.v 0)]
 (.loop 1 [(.c (.int .i64 0))]
  (.op (.bin .lss false) [(.v 3), (.v 2)]
  (.ite (.v 4)
   (.op (.row 1) [(.v 0), (.v 3)]
   (.op (.bin .eql false) [(.v 1), (.v 5)]
   (.ite (.v 6)
    (.ret [(.v 3)])
   (.op (.bin .add false) [(.v 3), (.c (.int .i64 1))]
   (.jump 0 [(.v 7)])))))
  (.ret [(.c (.int .i64 (-1)))])))))
theorem rd54 : readFn T SG sigs 3000 sg54 Tryd.f95 an54 = some ir54 := by kernel_rfl
/- 55:api.Formula] -/
def an55 : Ann := (.s none .z (.s none (.s none .z (.b (.l ⟨2, [(4, .junk), (6, .junk), (8, (.atm (.v 0)))], [(0, ⟨false, false, 42, 1, (.c (.sl [])), [[(.atm (.v 1))]]⟩)], 1, []⟩ .z))) .z))
def ir55 : IR :=
 (.op .lenL [(.v 0)]
 (.loop 2 [(.c (.int .i64 0)), (.v 1)]
  (.op (.bin .lss false) [(.v 3), (.v 2)]
  (.ite (.v 5)
   (.op (.row 3) [(.v 0), (.v 3)]
   (.call 47 2 false [] [(.v 6), (.v 7), (.v 8), (.v 4)]
   (.ite (.v 9)
    (.ret [(.v 3), (.v 10)])
   (.op (.bin .add false) [(.v 3), (.c (.int .i64 1))]
   (.jump 0 [(.v 11), (.v 10)])))))
  (.ret [(.c (.int .i64 (-1))), (.v 4)])))))
theorem rd55 : readFn T SG sigs 3000 sg55 Tryd.f96 an55 = some ir55 := by kernel_rfl
/- 56:api.Formula] -/
def an56 : Ann := (.s none .z (.s none (.s none .z (.b (.l ⟨2, [(4, .junk), (6, .junk), (8, (.atm (.v 0)))], [(1, ⟨false, false, 42, 1, (.c (.sl [])), [[(.atm (.v 1))]]⟩)], 2, []⟩ .z))) .z))
def ir56 : IR :=
 (.op .lenL [(.v 0)]
 (.loop 2 [(.c (.int .i64 0)), (.v 1)]
  (.op (.bin .lss false) [(.v 3), (.v 2)]
  (.ite (.v 5)
   (.op (.row 3) [(.v 0), (.v 3)]
   (.call 58 2 false [] [(.v 6), (.v 7), (.v 8), (.v 4)]
   (.ite (.v 9)
    (.ret [(.v 3), (.v 10)])
   (.op (.bin .add false) [(.v 3), (.c (.int .i64 1))]
   (.jump 0 [(.v 11), (.v 10)])))))
  (.ret [(.c (.int .i64 (-1))), (.v 4)])))))
theorem rd56 : readFn T SG sigs 3000 sg56 Tryd.f96 an56 = some ir56 := by kernel_rfl
/- 57:formula.parser).many -/
def an57 : Ann := (.s none .z (.s none .z (.s none .z (.s none .z (.s none (.b (.l ⟨5, [(1, .junk), (9, .junk), (11, .junk), (12, .junk), (13, .junk), (14, .junk), (15, .junk), (16, .junk), (17, .junk), (19, .junk), (20, .junk), (21, .junk), (22, .junk)], [(0, ⟨false, false, 70, 4, (.c (.sl [])), [[(.atm (.v 0)), (.atm (.v 1)), (.atm (.v 2)), (.atm (.v 3))]]⟩), (3, ⟨false, true, 24, 3, (.v 4), []⟩)], 5, []⟩ .z)) (.s (some ⟨4, [(0, .junk), (2, .junk), (3, .junk), (23, .junk), (24, .junk), (25, .junk)], [(0, ⟨false, false, 70, 4, (.c (.sl [])), [[(.atm (.v 0)), (.atm (.v 1)), (.atm (.v 2)), (.atm (.v 3))]]⟩)], 5, []⟩) .z .z))))))
def ir57 : IR :=
 (.call 59 7 false [] [(.v 2), (.v 3), (.v 4), (.v 5)]
 (.call 45 7 false [] [(.v 9), (.v 10), (.v 11), (.v 12)]
 (.op (.bin .neq false) [(.v 13), (.v 1)]
 (.ite (.v 20)
  (.ret [(.v 6), (.v 7), (.v 8), (.v 16), (.v 17), (.v 18), (.v 19)])
 (.op (.mk 3 1) [(.v 6), (.v 7), (.v 8)]
 (.loop 5 [(.v 16), (.v 17), (.v 18), (.v 19), (.v 21)]
  (.call 35 5 false [] [(.v 1), (.v 22), (.v 23), (.v 24), (.v 25)]
  (.ite (.v 27)
   (.call 59 7 false [] [(.v 28), (.v 29), (.v 30), (.v 31)]
   (.op (.mk 3 1) [(.v 32), (.v 33), (.v 34)]
   (.op (.app 3 48) [(.v 26), (.v 39)]
   (.jump 0 [(.v 35), (.v 36), (.v 37), (.v 38), (.v 40)]))))
  (.letj 4
   (.ite (.v 31)
    (.jump 1 [(.v 28), (.v 29), (.v 30), (.c (.bool true))])
   (.op .lenL [(.v 26)]
   (.op (.bin .gtr false) [(.v 32), (.c (.int .i64 6))]
   (.jump 1 [(.v 28), (.v 29), (.v 30), (.v 33)]))))
  (.ret [(.v 0), (.c (.str [])), (.v 26), (.v 32), (.v 33), (.v 34), (.v 35)]))))))))))
theorem rd57 : readFn T SG sigs 3000 sg57 Tryd.f109 an57 = some ir57 := by kernel_rfl
/- 58:formula.value$2 -/
def an58 : Ann := .z
def ir58 : IR :=
 (.call 47 2 false [] [(.v 0), (.v 1), (.v 2), (.v 3)]
 (.op (.un .not) [(.v 4)]
 (.ret [(.v 6), (.v 5)])))
theorem rd58 : readFn T SG sigs 3000 sg58 Tryd.f86 an58 = some ir58 := by kernel_rfl
/- 59:formula.parser).and -/
def an59 : Ann := .z
def ir59 : IR :=
 (.call 60 7 false [] [(.c (.int .i64 5)), (.c (.str [38])), (.v 0), (.v 1), (.v 2), (.v 3)]
 (.ret [(.v 4), (.v 5), (.v 6), (.v 7), (.v 8), (.v 9), (.v 10)]))
theorem rd59 : readFn T SG sigs 3000 sg59 Tryd.f110 an59 = some ir59 := by kernel_rfl
/- 60:formula.parser).many -/
def an60 : Ann := (.s none .z (.s none .z (.s none .z (.s none .z (.s none (.b (.l ⟨5, [(1, .junk), (9, .junk), (11, .junk), (12, .junk), (13, .junk), (14, .junk), (15, .junk), (16, .junk), (17, .junk), (19, .junk), (20, .junk), (21, .junk), (22, .junk)], [(0, ⟨false, false, 70, 4, (.c (.sl [])), [[(.atm (.v 0)), (.atm (.v 1)), (.atm (.v 2)), (.atm (.v 3))]]⟩), (3, ⟨false, true, 24, 3, (.v 4), []⟩)], 5, []⟩ .z)) (.s (some ⟨4, [(0, .junk), (2, .junk), (3, .junk), (23, .junk), (24, .junk), (25, .junk)], [(0, ⟨false, false, 70, 4, (.c (.sl [])), [[(.atm (.v 0)), (.atm (.v 1)), (.atm (.v 2)), (.atm (.v 3))]]⟩)], 5, []⟩) .z .z))))))
def ir60 : IR :=
 (.call 61 7 false [] [(.v 2), (.v 3), (.v 4), (.v 5)]
 (.call 45 7 false [] [(.v 9), (.v 10), (.v 11), (.v 12)]
 (.op (.bin .neq false) [(.v 13), (.v 1)]
 (.ite (.v 20)
  (.ret [(.v 6), (.v 7), (.v 8), (.v 16), (.v 17), (.v 18), (.v 19)])
 (.op (.mk 3 1) [(.v 6), (.v 7), (.v 8)]
 (.loop 5 [(.v 16), (.v 17), (.v 18), (.v 19), (.v 21)]
  (.call 35 5 false [] [(.v 1), (.v 22), (.v 23), (.v 24), (.v 25)]
  (.ite (.v 27)
   (.call 61 7 false [] [(.v 28), (.v 29), (.v 30), (.v 31)]
   (.op (.mk 3 1) [(.v 32), (.v 33), (.v 34)]
   (.op (.app 3 48) [(.v 26), (.v 39)]
   (.jump 0 [(.v 35), (.v 36), (.v 37), (.v 38), (.v 40)]))))
  (.letj 4
   (.ite (.v 31)
    (.jump 1 [(.v 28), (.v 29), (.v 30), (.c (.bool true))])
   (.op .lenL [(.v 26)]
   (.op (.bin .gtr false) [(.v 32), (.c (.int .i64 6))]
   (.jump 1 [(.v 28), (.v 29), (.v 30), (.v 33)]))))
  (.ret [(.v 0), (.c (.str [])), (.v 26), (.v 32), (.v 33), (.v 34), (.v 35)]))))))))))
theorem rd60 : readFn T SG sigs 3000 sg60 Tryd.f109 an60 = some ir60 := by kernel_rfl
/- 61:formula.parser).unary -/
def an61 : Ann := .z
def ir61 : IR :=
 (.call 45 7 false [] [(.v 0), (.v 1), (.v 2), (.v 3)]
 (.op (.bin .geq false) [(.v 9), (.c (.int .i64 0))]
 (.ite (.v 11)
  (.ret [(.c (.int .i64 0)), (.c (.str [])), (.c (.sl [])), (.v 7), (.v 8), (.v 9), (.v 10)])
 (.call 35 5 false [] [(.c (.str [110, 97, 109, 101])), (.v 7), (.v 8), (.v 9), (.v 10)]
 (.ite (.v 12)
  (.ret [(.c (.int .i64 3)), (.v 5), (.c (.sl [])), (.v 13), (.v 14), (.v 15), (.v 16)])
 (.call 35 5 false [] [(.c (.str [48])), (.v 13), (.v 14), (.v 15), (.v 16)]
 (.ite (.v 17)
  (.ret [(.c (.int .i64 2)), (.c (.str [])), (.c (.sl [])), (.v 18), (.v 19), (.v 20), (.v 21)])
 (.call 35 5 false [] [(.c (.str [49])), (.v 18), (.v 19), (.v 20), (.v 21)]
 (.ite (.v 22)
  (.ret [(.c (.int .i64 1)), (.c (.str [])), (.c (.sl [])), (.v 23), (.v 24), (.v 25), (.v 26)])
 (.call 35 5 false [] [(.c (.str [126])), (.v 23), (.v 24), (.v 25), (.v 26)]
 (.ite (.v 27)
  (.call 61 7 false [] [(.v 28), (.v 29), (.v 30), (.v 31)]
  (.op (.mk 3 1) [(.v 32), (.v 33), (.v 34)]
  (.ret [(.c (.int .i64 4)), (.c (.str [])), (.v 39), (.v 35), (.v 36), (.v 37), (.v 38)])))
 (.call 35 5 false [] [(.c (.str [40])), (.v 28), (.v 29), (.v 30), (.v 31)]
 (.ite (.v 32)
  (.call 34 7 false [] [(.v 33), (.v 34), (.v 35), (.v 36)]
  (.call 35 5 false [] [(.c (.str [41])), (.v 40), (.v 41), (.v 42), (.v 43)]
  (.op (.un .not) [(.v 44)]
  (.ite (.v 49)
   (.call 36 7 false [] [(.v 45), (.v 46), (.v 47), (.v 48)]
   (.ret [(.v 50), (.v 51), (.v 52), (.v 53), (.v 54), (.v 55), (.v 56)]))
  (.ret [(.v 37), (.v 38), (.v 39), (.v 45), (.v 46), (.v 47), (.v 48)])))))
 (.call 36 7 false [] [(.v 33), (.v 34), (.v 35), (.v 36)]
 (.ret [(.v 37), (.v 38), (.v 39), (.v 40), (.v 41), (.v 42), (.v 43)])))))))))))))))
theorem rd61 : readFn T SG sigs 3000 sg61 Tryd.f118 an61 = some ir61 := by kernel_rfl
end Go.Proofs.YtgmnlkjoiakoaaaDoor

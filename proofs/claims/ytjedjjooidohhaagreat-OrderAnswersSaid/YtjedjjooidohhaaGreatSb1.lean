/- Plain programs of the functions of the program and lemmas about what they compute. -/
import Derived.Test.YtjedjjooidohhaaGreatAmSe21
import Derived.Test.YtjedjjooidohhaaGreatProg
import Derived.KernelRfl
set_option linter.unusedSimpArgs false
set_option linter.unusedVariables false
set_option linter.unusedSectionVars false
namespace Go.Proofs.YtjedjjooidohhaaGreat
open Go Am
set_option maxRecDepth 100000
abbrev fnD (f : Nat) : D := .raw (.func (.func f) #[] #[])
abbrev undD : D := .raw (.tuple #[])
def T : Tab := [
  (3, ⟨1, 8, true, true, false, none, none, (some .i64), false, false, (some (.int .i64 0)), [], none⟩),
  (4, ⟨1, 1, true, true, false, none, none, none, false, true, (some (.bool false)), [], none⟩),
  (5, ⟨1, 1, true, true, false, none, none, (some .u8), false, false, (some (.int .u8 0)), [], none⟩),
  (9, ⟨1, 16, true, true, false, none, none, none, true, false, (some (.string ⟨⟨[]⟩⟩)), [], none⟩),
  (22, ⟨1, 24, true, true, false, (some 9), none, none, false, false, (some (.slice none 0 0)), [], none⟩),
  (23, ⟨1, 24, true, true, false, (some 3), none, none, false, false, (some (.slice none 0 0)), [], none⟩),
  (25, ⟨2, 48, true, true, true, none, none, none, false, false, (some (.agg #[(.slice none 0 0), (.slice none 0 0)])), [(0, 22), (1, 23)], (some [(0, 1), (1, 1)])⟩),
  (26, ⟨1, 8, true, true, false, none, none, (some .u64), false, false, (some (.int .u64 0)), [], none⟩),
  (27, ⟨1, 24, true, true, false, (some 29), none, none, false, false, (some (.slice none 0 0)), [], none⟩),
  (29, ⟨3, 48, true, true, true, none, none, none, false, false, (some (.agg #[(.int .i64 0), (.string ⟨⟨[]⟩⟩), (.slice none 0 0)])), [(0, 3), (1, 9), (2, 27)], (some [(0, 1), (1, 1), (2, 1)])⟩),
  (31, ⟨1, 8, true, true, false, none, none, none, false, false, (some .nilFunc), [], none⟩),
  (33, ⟨1, 8, true, true, false, none, none, none, false, false, (some (.pointer none)), [], none⟩),
  (39, ⟨1, 24, true, true, false, (some 25), none, none, false, false, (some (.slice none 0 0)), [], none⟩),
  (41, ⟨1, 24, true, true, false, (some 26), none, none, false, false, (some (.slice none 0 0)), [], none⟩),
  (43, ⟨1, 8, true, true, false, none, none, (some .i64), false, false, (some (.int .i64 0)), [], none⟩),
  (65, ⟨2, 32, true, true, true, none, none, none, false, false, (some (.agg #[(.slice none 0 0), (.int .i64 0)])), [(0, 23), (1, 3)], (some [(0, 1), (1, 1)])⟩),
  (66, ⟨1, 8, true, true, false, none, none, (some .u64), false, false, (some (.int .u64 0)), [], none⟩),
  (68, ⟨1, 24, true, true, false, (some 5), none, none, false, false, (some (.slice none 0 0)), [], none⟩),
  (73, ⟨1, 24, true, true, false, (some 4), none, none, false, false, (some (.slice none 0 0)), [], none⟩),
  (87, ⟨1, 8, true, true, false, none, none, none, false, false, (some .nilFunc), [], none⟩)]
theorem tok : TOK Tryz.prog T := tok_of (by kernel_rfl)
def SG : SGlob := []
def sg0 : Sig := ⟨3, 7, [], [(.agg [(.atm (.v 0)), (.atm (.v 1))]), (.atm (.v 2)), (.atm (.v 3)), (.agg [(.atm (.v 4)), (.atm (.v 5)), (.atm (.v 6))])], 1, [], (.atm (.v 0)), false, []⟩
def sg1 : Sig := ⟨5, 2, [], [(.agg [(.atm (.v 0)), (.atm (.v 1))])], 1, [], (.atm (.v 0)), false, []⟩
def sg2 : Sig := ⟨6, 3, [], [(.agg [(.atm (.v 0)), (.atm (.v 1)), (.atm (.v 2))])], 1, [], (.atm (.v 0)), false, []⟩
def sg3 : Sig := ⟨7, 0, [], [], 1, [], (.atm (.v 0)), false, []⟩
def sg4 : Sig := ⟨8, 1, [], [(.atm (.v 0))], 2, [⟨false, false, 65, 2, (.c (.sl [])), [[(.atm (.v 0)), (.atm (.v 1))]]⟩], (.ptr 0 0 0), false, []⟩
def sg5 : Sig := ⟨10, 4, [⟨false, false, 65, 2, (.c (.sl [])), [[(.atm (.v 2)), (.atm (.v 3))]]⟩], [(.ptr 0 0 0), (.atm (.v 0)), (.atm (.v 1))], 3, [⟨false, false, 65, 2, (.c (.sl [])), [[(.atm (.v 1)), (.atm (.v 2))]]⟩], (.atm (.v 0)), false, []⟩
def sg6 : Sig := ⟨9, 3, [⟨false, false, 65, 2, (.c (.sl [])), [[(.atm (.v 1)), (.atm (.v 2))]]⟩], [(.ptr 0 0 0), (.atm (.v 0))], 4, [⟨false, false, 65, 2, (.c (.sl [])), [[(.atm (.v 2)), (.atm (.v 3))]]⟩], (.agg [(.atm (.v 0)), (.atm (.v 1))]), true, []⟩
def sg7 : Sig := ⟨11, 3, [⟨false, false, 65, 2, (.c (.sl [])), [[(.atm (.v 1)), (.atm (.v 2))]]⟩], [(.ptr 0 0 0), (.atm (.v 0))], 3, [⟨false, false, 65, 2, (.c (.sl [])), [[(.atm (.v 1)), (.atm (.v 2))]]⟩], (.atm (.v 0)), false, []⟩
def sg8 : Sig := ⟨12, 4, [⟨false, false, 65, 2, (.c (.sl [])), [[(.atm (.v 2)), (.atm (.v 3))]]⟩], [(.ptr 0 0 0), (.atm (.v 0)), (.atm (.v 1))], 5, [⟨false, false, 65, 2, (.c (.sl [])), [[(.atm (.v 3)), (.atm (.v 4))]]⟩], (.agg [(.atm (.v 0)), (.atm (.v 1)), (.atm (.v 2))]), true, []⟩
def sg9 : Sig := ⟨13, 2, [⟨false, false, 65, 2, (.c (.sl [])), [[(.atm (.v 0)), (.atm (.v 1))]]⟩], [(.ptr 0 0 0)], 3, [⟨false, false, 65, 2, (.c (.sl [])), [[(.atm (.v 1)), (.atm (.v 2))]]⟩], (.atm (.v 0)), false, []⟩
def sg10 : Sig := ⟨14, 3, [], [(.agg [(.atm (.v 0)), (.atm (.v 1))]), (.atm (.v 2))], 1, [], (.atm (.v 0)), false, []⟩
def sg11 : Sig := ⟨15, 3, [], [(.agg [(.atm (.v 0)), (.atm (.v 1))]), (.atm (.v 2))], 1, [], (.atm (.v 0)), false, []⟩
def sg12 : Sig := ⟨16, 5, [], [(.agg [(.atm (.v 0)), (.atm (.v 1))]), (.agg [(.atm (.v 2)), (.atm (.v 3)), (.atm (.v 4))])], 2, [], (.tup [(.atm (.v 0)), (.atm (.v 1))]), false, []⟩
def sg13 : Sig := ⟨17, 5, [], [(.agg [(.atm (.v 0)), (.atm (.v 1))]), (.agg [(.atm (.v 2)), (.atm (.v 3)), (.atm (.v 4))])], 2, [], (.tup [(.atm (.v 0)), (.atm (.v 1))]), false, []⟩
def sg14 : Sig := ⟨18, 2, [], [(.agg [(.atm (.v 0)), (.atm (.v 1))])], 1, [], (.atm (.v 0)), false, []⟩
def sg15 : Sig := ⟨19, 2, [], [(.agg [(.atm (.v 0)), (.atm (.v 1))])], 1, [], (.atm (.v 0)), false, []⟩
def sg16 : Sig := ⟨21, 2, [], [(.agg [(.atm (.v 0)), (.atm (.v 1))])], 1, [], (.atm (.v 0)), true, []⟩
def sg17 : Sig := ⟨22, 2, [], [(.agg [(.atm (.v 0)), (.atm (.v 1))])], 1, [], (.atm (.v 0)), true, []⟩
def sg18 : Sig := ⟨20, 2, [], [(.atm (.v 0)), (.atm (.v 1))], 1, [], (.atm (.v 0)), false, []⟩
def sg19 : Sig := ⟨23, 2, [], [(.agg [(.atm (.v 0)), (.atm (.v 1))])], 1, [], (.atm (.v 0)), false, []⟩
def sg20 : Sig := ⟨24, 2, [], [(.agg [(.atm (.v 0)), (.atm (.v 1))])], 1, [], (.atm (.v 0)), false, []⟩
def sg21 : Sig := ⟨25, 4, [], [(.agg [(.atm (.v 0)), (.atm (.v 1))]), (.agg [(.atm (.v 2)), (.atm (.v 3))])], 1, [], (.atm (.v 0)), false, []⟩
def sg22 : Sig := ⟨26, 4, [], [(.agg [(.atm (.v 0)), (.atm (.v 1))]), (.agg [(.atm (.v 2)), (.atm (.v 3))])], 1, [], (.atm (.v 0)), false, []⟩
def sg23 : Sig := ⟨40, 4, [], [(.agg [(.atm (.v 0)), (.atm (.v 1)), (.atm (.v 2))]), (.atm (.v 3))], 1, [], (.atm (.v 0)), false, []⟩
def sg24 : Sig := ⟨41, 4, [], [(.agg [(.atm (.v 0)), (.atm (.v 1)), (.atm (.v 2))]), (.atm (.v 3))], 1, [], (.atm (.v 0)), false, []⟩
def sg25 : Sig := ⟨42, 3, [], [(.agg [(.atm (.v 0)), (.atm (.v 1)), (.atm (.v 2))])], 1, [], (.atm (.v 0)), false, []⟩
def sg26 : Sig := ⟨44, 1, [], [(.atm (.v 0))], 1, [], (.atm (.v 0)), true, []⟩
def sg27 : Sig := ⟨43, 2, [], [(.atm (.v 0)), (.atm (.v 1))], 3, [], (.tup [(.agg [(.atm (.v 0)), (.atm (.v 1))]), (.atm (.v 2))]), true, []⟩
def sg28 : Sig := ⟨45, 2, [], [(.atm (.v 0)), (.atm (.v 1))], 1, [], (.atm (.v 0)), false, []⟩
def sg29 : Sig := ⟨46, 2, [], [(.atm (.v 0)), (.atm (.v 1))], 3, [], (.tup [(.agg [(.atm (.v 0)), (.atm (.v 1))]), (.atm (.v 2))]), true, []⟩
def sg30 : Sig := ⟨48, 2, [⟨false, false, 65, 2, (.c (.sl [])), [[(.atm (.v 0)), (.atm (.v 1))]]⟩], [(.ptr 0 0 0)], 3, [⟨false, false, 65, 2, (.c (.sl [])), [[(.atm (.v 1)), (.atm (.v 2))]]⟩], (.atm (.v 0)), false, []⟩
def sg31 : Sig := ⟨47, 2, [], [(.atm (.v 0)), (.atm (.v 1))], 1, [], (.atm (.v 0)), false, []⟩
def sg32 : Sig := ⟨49, 2, [], [(.agg [(.atm (.v 0)), (.atm (.v 1))])], 1, [], (.atm (.v 0)), false, []⟩
def sg33 : Sig := ⟨50, 4, [], [(.agg [(.atm (.v 0)), (.atm (.v 1))]), (.atm (.v 2)), (.atm (.v 3))], 1, [], (.atm (.v 0)), false, []⟩
def sg34 : Sig := ⟨51, 4, [], [(.atm (.v 0)), (.agg [(.atm (.v 1)), (.atm (.v 2)), (.atm (.v 3))])], 2, [], (.tup [(.atm (.v 0)), (.atm (.v 1))]), false, []⟩
def sg35 : Sig := ⟨52, 4, [], [(.atm (.v 0)), (.agg [(.atm (.v 1)), (.atm (.v 2)), (.atm (.v 3))])], 2, [], (.tup [(.atm (.v 0)), (.atm (.v 1))]), false, []⟩
def sg36 : Sig := ⟨53, 1, [], [(.atm (.v 0))], 1, [], (.atm (.v 0)), false, []⟩
def sg37 : Sig := ⟨54, 2, [], [(.atm (.v 0)), (.atm (.v 1))], 1, [], (.atm (.v 0)), false, []⟩
def sg38 : Sig := ⟨55, 1, [], [(.atm (.v 0))], 1, [], (.atm (.v 0)), false, []⟩
def sg39 : Sig := ⟨56, 2, [], [(.atm (.v 0)), (.atm (.v 1))], 1, [], (.atm (.v 0)), false, []⟩
def sg40 : Sig := ⟨57, 1, [], [(.atm (.v 0))], 1, [], (.atm (.v 0)), false, []⟩
def sg41 : Sig := ⟨58, 1, [], [(.atm (.v 0))], 1, [], (.atm (.v 0)), false, []⟩
def sg42 : Sig := ⟨59, 2, [], [(.atm (.v 0)), (.atm (.v 1))], 1, [], (.atm (.v 0)), false, []⟩
def sg43 : Sig := ⟨60, 2, [], [(.atm (.v 0)), (.atm (.v 1))], 1, [], (.atm (.v 0)), false, []⟩
def sg44 : Sig := ⟨61, 2, [], [(.atm (.v 0)), (.atm (.v 1))], 1, [], (.atm (.v 0)), false, []⟩
def sg45 : Sig := ⟨68, 1, [], [(.atm (.v 0))], 1, [⟨false, false, 23, 1, (.c (.sl [])), [[(.atm (.v 0))]]⟩], (.clo 89 [] [(.ptr 0 0 0)]), false, []⟩
def sg46 : Sig := ⟨67, 1, [⟨false, false, 23, 1, (.c (.sl [])), [[(.atm (.v 0))]]⟩], [(.clo 89 [] [(.ptr 0 0 0)])], 2, [⟨false, false, 23, 1, (.c (.sl [])), [[(.atm (.v 1))]]⟩, ⟨false, true, 3, 1, (.v 0), []⟩], (.own 1), true, []⟩
def sg47 : Sig := ⟨66, 1, [⟨false, true, 3, 1, (.v 0), []⟩], [(.own 0)], 2, [⟨true, true, 3, 1, (.v 1), []⟩], (.atm (.v 0)), true, []⟩
def sg48 : Sig := ⟨69, 1, [], [(.atm (.v 0))], 1, [⟨false, true, 9, 1, (.v 0), []⟩], (.own 0), true, []⟩
def sg49 : Sig := ⟨70, 2, [], [(.atm (.v 0)), (.atm (.v 1))], 2, [], (.tup [(.atm (.v 0)), (.atm (.v 1))]), false, []⟩
def sg50 : Sig := ⟨71, 3, [], [(.agg [(.atm (.v 0)), (.atm (.v 1)), (.atm (.v 2))])], 1, [], (.atm (.v 0)), false, []⟩
def sg51 : Sig := ⟨72, 3, [], [(.agg [(.atm (.v 0)), (.atm (.v 1)), (.atm (.v 2))])], 1, [], (.atm (.v 0)), true, []⟩
def sg52 : Sig := ⟨73, 2, [], [(.atm (.v 0)), (.atm (.v 1))], 1, [], (.atm (.v 0)), false, []⟩
def sg53 : Sig := ⟨74, 4, [], [(.atm (.v 0)), (.agg [(.atm (.v 1)), (.atm (.v 2)), (.atm (.v 3))])], 1, [], (.atm (.v 0)), false, []⟩
def sg54 : Sig := ⟨75, 1, [], [(.atm (.v 0))], 1, [], (.atm (.v 0)), false, []⟩
def sg55 : Sig := ⟨76, 3, [], [(.agg [(.atm (.v 0)), (.atm (.v 1)), (.atm (.v 2))])], 1, [], (.atm (.v 0)), false, []⟩
def sg56 : Sig := ⟨77, 3, [], [(.agg [(.atm (.v 0)), (.atm (.v 1)), (.atm (.v 2))])], 1, [], (.atm (.v 0)), true, []⟩
def sg57 : Sig := ⟨78, 2, [], [(.atm (.v 0)), (.atm (.v 1))], 1, [], (.atm (.v 0)), false, []⟩
def sg58 : Sig := ⟨79, 1, [], [(.atm (.v 0))], 1, [], (.atm (.v 0)), false, []⟩
def sg59 : Sig := ⟨81, 2, [], [(.atm (.v 0)), (.atm (.v 1))], 1, [], (.atm (.v 0)), true, []⟩
def sg60 : Sig := ⟨80, 4, [], [(.agg [(.atm (.v 0)), (.atm (.v 1)), (.atm (.v 2))]), (.atm (.v 3))], 1, [], (.atm (.v 0)), false, []⟩
def sg61 : Sig := ⟨82, 1, [], [(.atm (.v 0))], 1, [], (.atm (.v 0)), false, []⟩
def sg62 : Sig := ⟨83, 2, [], [(.atm (.v 0)), (.atm (.v 1))], 1, [], (.atm (.v 0)), false, []⟩
def sg63 : Sig := ⟨84, 1, [], [(.atm (.v 0))], 1, [], (.atm (.v 0)), false, []⟩
def sg64 : Sig := ⟨87, 1, [⟨false, false, 23, 1, (.c (.sl [])), [[(.atm (.v 0))]]⟩], [(.clo 89 [] [(.ptr 0 0 0)])], 2, [⟨false, false, 23, 1, (.c (.sl [])), [[(.atm (.v 1))]]⟩, ⟨false, true, 3, 1, (.v 0), []⟩], (.own 1), true, []⟩
def sg65 : Sig := ⟨88, 1, [⟨false, true, 3, 1, (.v 0), []⟩], [(.own 0)], 1, [⟨false, true, 3, 1, (.v 0), []⟩], (.tup []), false, [0]⟩
def sg66 : Sig := ⟨90, 2, [], [(.atm (.v 0)), (.atm (.v 1))], 1, [], (.atm (.v 0)), false, []⟩
def sg67 : Sig := ⟨91, 1, [], [(.atm (.v 0))], 1, [], (.atm (.v 0)), false, []⟩
def sg68 : Sig := ⟨92, 3, [], [(.agg [(.atm (.v 0)), (.atm (.v 1)), (.atm (.v 2))])], 1, [], (.atm (.v 0)), false, []⟩
def sg69 : Sig := ⟨93, 3, [], [(.agg [(.atm (.v 0)), (.atm (.v 1)), (.atm (.v 2))])], 1, [], (.atm (.v 0)), false, []⟩
def sg70 : Sig := ⟨94, 3, [], [(.agg [(.atm (.v 0)), (.atm (.v 1)), (.atm (.v 2))]), (.atm (.c (fnD 95)))], 1, [], (.atm (.v 0)), false, []⟩
def sg71 : Sig := ⟨94, 3, [], [(.agg [(.atm (.v 0)), (.atm (.v 1)), (.atm (.v 2))]), (.atm (.c (fnD 96)))], 1, [], (.atm (.v 0)), false, []⟩
def sg72 : Sig := ⟨100, 2, [], [(.atm (.v 0)), (.atm (.v 1))], 1, [], (.atm (.v 0)), false, []⟩
def sg73 : Sig := ⟨101, 1, [], [(.atm (.v 0))], 1, [], (.atm (.v 0)), false, []⟩
def sg74 : Sig := ⟨102, 1, [], [(.atm (.v 0))], 1, [], (.atm (.v 0)), false, []⟩
def sg75 : Sig := ⟨103, 3, [], [(.agg [(.atm (.v 0)), (.atm (.v 1)), (.atm (.v 2))])], 1, [], (.atm (.v 0)), false, []⟩
def sg76 : Sig := ⟨104, 3, [], [(.agg [(.atm (.v 0)), (.atm (.v 1)), (.atm (.v 2))])], 1, [], (.atm (.v 0)), false, []⟩
def sg77 : Sig := ⟨105, 3, [], [(.agg [(.atm (.v 0)), (.atm (.v 1)), (.atm (.v 2))])], 1, [], (.atm (.v 0)), false, []⟩
def sg78 : Sig := ⟨106, 3, [], [(.agg [(.atm (.v 0)), (.atm (.v 1)), (.atm (.v 2))])], 1, [], (.atm (.v 0)), false, []⟩
def sg79 : Sig := ⟨107, 4, [], [(.atm (.v 0)), (.agg [(.atm (.v 1)), (.atm (.v 2)), (.atm (.v 3))])], 1, [], (.atm (.v 0)), true, []⟩
def sg80 : Sig := ⟨108, 4, [], [(.agg [(.atm (.v 0)), (.atm (.v 1)), (.atm (.v 2))]), (.atm (.v 3))], 1, [], (.atm (.v 0)), false, []⟩
def sg81 : Sig := ⟨117, 1, [], [(.atm (.v 0))], 1, [], (.atm (.v 0)), false, []⟩
def sg82 : Sig := ⟨95, 3, [], [(.agg [(.atm (.v 0)), (.atm (.v 1)), (.atm (.v 2))])], 1, [], (.atm (.v 0)), false, []⟩
def sg83 : Sig := ⟨96, 3, [], [(.agg [(.atm (.v 0)), (.atm (.v 1)), (.atm (.v 2))])], 1, [], (.atm (.v 0)), false, []⟩
def sg84 : Sig := ⟨120, 2, [], [(.atm (.v 0)), (.atm (.v 1))], 1, [], (.atm (.v 0)), true, []⟩
def sigs : List Sig := [sg0, sg1, sg2, sg3, sg4, sg5, sg6, sg7, sg8, sg9, sg10, sg11, sg12, sg13, sg14, sg15, sg16, sg17, sg18, sg19, sg20, sg21, sg22, sg23, sg24, sg25, sg26, sg27, sg28, sg29, sg30, sg31, sg32, sg33, sg34, sg35, sg36, sg37, sg38, sg39, sg40, sg41, sg42, sg43, sg44, sg45, sg46, sg47, sg48, sg49, sg50, sg51, sg52, sg53, sg54, sg55, sg56, sg57, sg58, sg59, sg60, sg61, sg62, sg63, sg64, sg65, sg66, sg67, sg68, sg69, sg70, sg71, sg72, sg73, sg74, sg75, sg76, sg77, sg78, sg79, sg80, sg81, sg82, sg83, sg84]
/- 0:deliberationlaw31.OrderAnswers -/
def an0 : Ann := (.s none .z (.s none (.s (some ⟨1, [(0, .junk), (3, .junk), (8, .junk), (30, (.atm (.v 0)))], [], 2, []⟩) .z .z) (.s none .z (.s none .z (.s none .z (.s none .z (.s none .z (.s none (.s none .z (.b (.l ⟨3, [(1, .junk), (4, .junk), (11, .junk), (30, .junk), (32, .junk), (33, .junk), (34, .junk), (35, .junk), (36, .junk), (37, .junk), (38, .junk), (39, .junk), (41, .junk), (42, .junk), (43, .junk), (44, .junk), (45, .junk), (46, .junk), (47, .junk), (48, .junk), (49, .junk), (50, .junk), (51, .junk), (52, .junk), (53, .junk), (54, .junk), (55, .junk), (56, .junk), (57, .junk), (58, .junk), (59, .junk), (62, (.atm (.v 0)))], [(2, ⟨false, false, 65, 2, (.c (.sl [])), [[(.atm (.v 1)), (.atm (.v 2))]]⟩)], 14, []⟩ (.s none .z (.s none .z (.s none (.b (.s none .z (.s none (.s none .z (.b (.l ⟨1, [(63, .junk), (64, .junk), (65, .junk), (66, .junk), (67, .junk), (68, .junk), (71, (.atm (.v 0)))], [], 16, []⟩ .z))) (.s none (.s none .z (.b (.l ⟨1, [(69, .junk), (70, .junk), (71, .junk), (72, .junk), (83, .junk), (84, .junk), (87, (.atm (.v 0)))], [], 17, []⟩ (.s none .z (.s none .z (.s none (.b (.s none .z (.s none .z (.s none .z (.s (some ⟨1, [(18, .junk), (19, .junk), (20, .junk), (21, .junk), (22, .junk), (88, .junk), (89, .junk), (90, .junk), (91, .junk), (92, .junk), (93, .junk), (94, .junk), (95, .junk), (96, .junk), (97, .junk), (98, .junk), (99, .junk), (100, .junk), (101, .junk), (102, .junk), (110, (.atm (.v 0)))], [], 18, []⟩) .z .z))))) .z)))))) (.s (some ⟨1, [(14, .junk), (85, .junk), (86, .junk), (87, .junk), (88, .junk), (146, (.atm (.v 0)))], [], 17, []⟩) .z .z))))) .z)))))) .z))))))))
def ir0p0 : IR :=
 (.ite (.v 57)
  (.ret [(.c (.bool false))])
 (.op (.bin .add false) [(.v 48), (.c (.int .i64 1))]
 (.jump 2 [(.v 58)])))
def ir0p1 : IR :=
 (.ite (.v 50)
  (.ret [(.c (.bool false))])
 (.op (.bin .add false) [(.v 33), (.c (.int .i64 1))]
 (.jump 0 [(.v 51), (.v 40), (.v 41)])))
def ir0p2 : IR :=
 (.op (.bin .lss false) [(.v 48), (.v 47)]
 (.ite (.v 49)
  (.op .chk [(.v 46), (.v 48)]
  (.op (.get 0 3) [(.v 46), (.v 48)]
  (.call 12 2 false [] [(.v 37), (.v 38), (.v 50), (.v 51), (.v 52)]
  (.call 13 2 false [] [(.v 37), (.v 38), (.v 50), (.v 51), (.v 52)]
  (.letj 1
   (.op (.bin .neq true) [(.v 53), (.v 55)]
   (.ite (.v 57)
    (.jump 3 [(.c (.bool true))])
   (.op (.bin .neq false) [(.v 54), (.v 56)]
   (.jump 3 [(.v 58)]))))
  ir0p0)))))
 (.letj 1
  (.call 14 1 false [] [(.v 37), (.v 38)]
  (.call 15 1 false [] [(.v 37), (.v 38)]
  (.op (.bin .neq false) [(.v 50), (.v 51)]
  (.ite (.v 52)
   (.jump 3 [(.c (.bool true))])
  (.call 16 1 false [] [(.v 37), (.v 38)]
  (.call 17 1 false [] [(.v 37), (.v 38)]
  (.call 18 1 false [] [(.v 53), (.v 54)]
  (.op (.un .not) [(.v 55)]
  (.ite (.v 56)
   (.jump 3 [(.c (.bool true))])
  (.call 19 1 false [] [(.v 37), (.v 38)]
  (.call 20 1 false [] [(.v 37), (.v 38)]
  (.op (.bin .neq false) [(.v 57), (.v 58)]
  (.ite (.v 59)
   (.jump 3 [(.c (.bool true))])
  (.call 21 1 false [] [(.v 37), (.v 38), (.v 13), (.v 14)]
  (.call 22 1 false [] [(.v 37), (.v 38), (.v 13), (.v 14)]
  (.op (.bin .neq true) [(.v 60), (.v 61)]
  (.ite (.v 62)
   (.jump 3 [(.c (.bool true))])
  (.call 21 1 false [] [(.v 37), (.v 38), (.v 37), (.v 38)]
  (.op (.un .not) [(.v 63)]
  (.jump 3 [(.v 64)]))))))))))))))))))))
 ir0p1)))
def ir0p3 : IR :=
 (.op (.bin .lss false) [(.v 44), (.v 43)]
 (.ite (.v 45)
  (.op .chk [(.v 42), (.v 44)]
  (.op (.get 0 1) [(.v 42), (.v 44)]
  (.call 10 1 false [] [(.v 37), (.v 38), (.v 46)]
  (.call 11 1 false [] [(.v 37), (.v 38), (.v 46)]
  (.op (.bin .neq false) [(.v 47), (.v 48)]
  (.ite (.v 49)
   (.ret [(.c (.bool false))])
  (.op (.bin .add false) [(.v 44), (.c (.int .i64 1))]
  (.jump 1 [(.v 50)]))))))))
 (.op (.mk 3 2) [(.v 4), (.v 5), (.v 6), (.v 26), (.v 27), (.v 28)]
 (.op .lenL [(.v 46)]
 (.loop 1 [(.c (.int .i64 0))] ir0p2)))))
def ir0p4 : IR :=
 (.op (.bin .lss false) [(.v 33), (.v 32)]
 (.ite (.v 36)
  (.op .chk [(.v 31), (.v 33)]
  (.op (.get 0 2) [(.v 31), (.v 33)]
  (.call 9 3 false [] [(.v 34), (.v 35)]
  (.op (.mk 1 2) [(.v 3), (.v 39)]
  (.op .lenL [(.v 42)]
  (.loop 1 [(.c (.int .i64 0))] ir0p3))))))
 (.call 3 1 false [] []
 (.ret [(.v 37)]))))
def ir0p5 : IR :=
 (.ite (.v 7)
  (.call 3 1 false [] []
  (.ret [(.v 8)]))
 (.call 4 2 false [] [(.v 2)]
 (.call 5 3 false [] [(.c (.int .i64 0)), (.c (.int .i64 3)), (.v 8), (.v 9)]
 (.call 6 4 false [] [(.v 10), (.v 11), (.v 12)]
 (.op (.app 1 8) [(.c (.sl [])), (.v 14)]
 (.op .lenL [(.v 17)]
 (.call 7 3 false [] [(.v 18), (.v 15), (.v 16)]
 (.call 5 3 false [] [(.c (.int .i64 (-1))), (.c (.int .i64 9)), (.v 20), (.v 21)]
 (.op .chk [(.v 17), (.v 19)]
 (.op (.set 0 1) [(.v 17), (.v 19), (.v 22)]
 (.call 8 5 false [] [(.c (.int .i64 3)), (.c (.int .i64 3)), (.v 23), (.v 24)]
 (.op (.mk 2 3) [(.v 0), (.v 1), (.v 13), (.v 14), (.v 13), (.v 25)]
 (.op .lenL [(.v 31)]
 (.loop 3 [(.c (.int .i64 0)), (.v 29), (.v 30)] ir0p4))))))))))))))
def ir0 : IR :=
 (.letj 1
  (.call 1 1 false [] [(.v 0), (.v 1)]
  (.op (.un .not) [(.v 7)]
  (.ite (.v 8)
   (.jump 0 [(.c (.bool true))])
  (.call 2 1 false [] [(.v 4), (.v 5), (.v 6)]
  (.op (.un .not) [(.v 9)]
  (.jump 0 [(.v 10)]))))))
 ir0p5)
theorem rd0 : readFn T SG sigs 3000 sg0 Tryz.f3 an0 = some ir0 := by kernel_rfl
/- 1:deliberationlaw31.small -/
def an1 : Ann := .z
def ir1 : IR :=
 (.op .lenL [(.v 0)]
 (.op (.bin .leq false) [(.v 2), (.c (.int .i64 10))]
 (.ite (.v 3)
  (.op .lenL [(.v 1)]
  (.op (.bin .leq false) [(.v 4), (.c (.int .i64 100))]
  (.ret [(.v 5)])))
 (.ret [(.c (.bool false))]))))
theorem rd1 : readFn T SG sigs 3000 sg1 Tryz.f5 an1 = some ir1 := by kernel_rfl
/- 2:deliberationkeep.SmallFormula -/
def an2 : Ann := .z
def ir2 : IR :=
 (.call 23 1 false [] [(.v 0), (.v 1), (.v 2), (.c (.int .i64 800))]
 (.op (.bin .leq false) [(.v 3), (.c (.int .i64 800))]
 (.ite (.v 4)
  (.call 24 1 false [] [(.v 0), (.v 1), (.v 2), (.c (.int .i64 30))]
  (.op (.bin .leq false) [(.v 5), (.c (.int .i64 30))]
  (.ite (.v 6)
   (.call 25 1 false [] [(.v 0), (.v 1), (.v 2)]
   (.ret [(.v 7)]))
  (.ret [(.c (.bool false))]))))
 (.ret [(.c (.bool false))]))))
theorem rd2 : readFn T SG sigs 3000 sg2 Tryz.f6 an2 = some ir2 := by kernel_rfl
/- 3:deliberationlaw31.awake -/
def an3 : Ann := .z
def ir3 : IR :=
 (.call 26 1 false [] [(.c (.int .i64 2))]
 (.op (.mk 1 4) [(.c (.int .i64 7)), (.c (.int .i64 (-2))), (.c (.int .i64 7)), (.c (.int .i64 3))]
 (.call 27 3 false [] [(.v 0), (.v 1)]
 (.call 16 1 false [] [(.v 2), (.v 3)]
 (.op (.bin .eql false) [(.v 4), (.c (.int .i64 0))]
 (.ite (.v 6)
  (.op (.mk 1 4) [(.c (.int .i64 2)), (.c (.int .i64 0)), (.c (.int .i64 2)), (.c (.int .i64 1))]
  (.call 28 1 true [] [(.v 3), (.v 7)]
  (.ite (.v 8)
   (.op .lenL [(.v 5)]
   (.op (.bin .eql false) [(.v 9), (.c (.int .i64 3))]
   (.ite (.v 10)
    (.op (.row 1) [(.v 5), (.c (.int .i64 0))]
    (.op (.bin .eql false) [(.v 11), (.c (.int .u64 2))]
    (.ite (.v 12)
     (.op (.row 1) [(.v 5), (.c (.int .i64 1))]
     (.op (.bin .eql false) [(.v 13), (.c (.int .u64 8))]
     (.ite (.v 14)
      (.op (.row 1) [(.v 5), (.c (.int .i64 2))]
      (.op (.bin .eql false) [(.v 15), (.c (.int .u64 5))]
      (.ite (.v 16)
       (.call 10 1 false [] [(.v 2), (.v 3), (.c (.int .u64 9))]
       (.op (.bin .eql false) [(.v 17), (.c (.int .u64 8))]
       (.ret [(.v 18)])))
      (.ret [(.c (.bool false))]))))
     (.ret [(.c (.bool false))]))))
    (.ret [(.c (.bool false))]))))
   (.ret [(.c (.bool false))]))))
  (.ret [(.c (.bool false))]))))
 (.ret [(.c (.bool false))])))))))
theorem rd3 : readFn T SG sigs 3000 sg3 Tryz.f7 an3 = some ir3 := by kernel_rfl
/- 4:deliberationkeep.New -/
def an4 : Ann := .z
def ir4 : IR :=
 (.op .lenL [(.v 0)]
 (.op .min [(.v 1), (.c (.int .i64 2000))]
 (.op (.subL 1) [(.v 0), (.c (.int .i64 0)), (.v 2)]
 (.ret [(.v 3), (.c (.int .i64 0))]))))
theorem rd4 : readFn T SG sigs 3000 sg4 Tryz.f8 an4 = some ir4 := by kernel_rfl
/- 5:deliberationkeep.Src).Range -/
def an5 : Ann := .z
def ir5 : IR :=
 (.op (.bin .sub false) [(.v 1), (.v 0)]
 (.op (.bin .add false) [(.v 4), (.c (.int .i64 1))]
 (.call 7 3 false [] [(.v 5), (.v 2), (.v 3)]
 (.op (.bin .add false) [(.v 0), (.v 6)]
 (.ret [(.v 9), (.v 7), (.v 8)])))))
theorem rd5 : readFn T SG sigs 3000 sg5 Tryz.f10 an5 = some ir5 := by kernel_rfl
/- 6:deliberationref31.Some -/
def an6 : Ann := (.s none .z (.s none .z (.s none .z (.s none (.s none .z (.b (.l ⟨4, [(7, (.atm (.v 0))), (10, .junk), (11, .junk), (12, .junk), (13, .junk), (14, .junk), (15, .junk)], [(0, ⟨false, false, 65, 2, (.c (.sl [])), [[(.atm (.v 1)), (.atm (.v 2))]]⟩), (2, ⟨false, true, 3, 1, (.v 3), []⟩)], 3, []⟩ .z))) .z))))
def ir6p0 : IR :=
 (.op .lenL [(.v 12)]
 (.op (.bin .lss false) [(.v 9), (.v 13)]
 (.ite (.v 14)
  (.call 7 3 false [] [(.v 6), (.v 10), (.v 11)]
  (.op .chk [(.v 12), (.v 9)]
  (.op (.set 0 1) [(.v 12), (.v 9), (.v 15)]
  (.op (.bin .add false) [(.v 9), (.c (.int .i64 1))]
  (.jump 0 [(.v 19), (.v 16), (.v 17), (.v 18)])))))
 (.call 26 1 false [] [(.v 0)]
 (.call 29 3 false [] [(.v 15), (.v 12)]
 (.ret [(.v 16), (.v 17), (.v 10), (.v 11)]))))))
def ir6 : IR :=
 (.op (.conv .u64) [(.v 0)]
 (.op (.bin .shl false) [(.c (.int .i64 1)), (.v 3)]
 (.op (.mkL 8 [(.int .i64 0)]) [(.v 4)]
 (.call 5 3 false [] [(.c (.int .i64 1)), (.c (.int .i64 6)), (.v 1), (.v 2)]
 (.loop 4 [(.c (.int .i64 0)), (.v 7), (.v 8), (.v 5)] ir6p0)))))
theorem rd6 : readFn T SG sigs 3000 sg6 Tryz.f9 an6 = some ir6 := by kernel_rfl
/- 7:deliberationkeep.Src).N -/
def an7 : Ann := .z
def ir7 : IR :=
 (.call 30 3 false [] [(.v 1), (.v 2)]
 (.call 31 1 false [] [(.v 3), (.v 0)]
 (.ret [(.v 6), (.v 4), (.v 5)])))
theorem rd7 : readFn T SG sigs 3000 sg7 Tryz.f11 an7 = some ir7 := by kernel_rfl
/- 8:deliberationkeep.Src).Formula -/
def an8 : Ann := (.s none .z (.s none .z (.s none (.s (some ⟨1, [(11, .junk), (12, .junk), (18, (.atm (.v 0)))], [], 2, []⟩) .z .z) (.s none .z (.s none .z (.s (some ⟨3, [(7, .junk), (9, (.atm (.v 0))), (18, .junk), (34, .junk), (35, .junk), (36, .junk), (37, .junk), (38, .junk), (39, .junk)], [(0, ⟨false, false, 65, 2, (.c (.sl [])), [[(.atm (.v 1)), (.atm (.v 2))]]⟩)], 4, []⟩) (.s none .z (.b (.s none .z (.c .z (.s (some ⟨1, [(7, .junk), (18, .junk), (34, .junk), (35, .junk), (36, .junk), (37, .junk), (38, .junk), (39, .junk), (40, .junk), (41, .junk), (42, .junk), (43, .junk), (44, (.atm (.v 0)))], [], 4, []⟩) .z .z))))) (.s none (.s none .z (.b (.l ⟨4, [(10, (.atm (.v 0)))], [(0, ⟨false, false, 65, 2, (.c (.sl [])), [[(.atm (.v 1)), (.atm (.v 2))]]⟩), (4, ⟨false, true, 29, 3, (.v 3), []⟩)], 5, [⟨some (3, 0, 2), 0, 29, 3⟩]⟩ .z))) .z)))))))
def ir8p0 : IR :=
 (.op (.bin .lss false) [(.v 14), (.v 11)]
 (.ite (.v 18)
  (.op (.bin .sub false) [(.v 1), (.c (.int .i64 1))]
  (.call 8 5 false [] [(.v 0), (.v 19), (.v 15), (.v 16)]
  (.op (.mk 3 1) [(.v 20), (.v 21), (.v 22)]
  (.op (.app 3 48) [(.v 17), (.v 25)]
  (.op (.bin .add false) [(.v 14), (.c (.int .i64 1))]
  (.jump 0 [(.v 27), (.v 23), (.v 24), (.v 26)]))))))
 (.ret [(.v 10), (.c (.str [])), (.v 17), (.v 15), (.v 16)])))
def ir8p1 : IR :=
 (.loop 4 [(.c (.int .i64 0)), (.v 12), (.v 13), (.c (.sl []))] ir8p0)
def ir8p2 : IR :=
 (.ite (.v 12)
  (.call 7 3 false [] [(.c (.int .i64 2)), (.v 5), (.v 6)]
  (.op (.bin .add false) [(.c (.int .i64 2)), (.v 13)]
  (.jump 0 [(.v 16), (.v 14), (.v 15)])))
 (.jump 0 [(.c (.int .i64 2)), (.v 5), (.v 6)]))
def ir8p3 : IR :=
 (.ite (.v 7)
  (.op (.bin .eql false) [(.v 4), (.c (.int .i64 0))]
  (.ite (.v 8)
   (.call 7 3 false [] [(.c (.int .i64 2)), (.v 5), (.v 6)]
   (.op (.bin .add false) [(.c (.int .i64 1)), (.v 9)]
   (.ret [(.v 12), (.c (.str [])), (.c (.sl [])), (.v 10), (.v 11)])))
  (.call 7 3 false [] [(.v 0), (.v 5), (.v 6)]
  (.op (.bin .add false) [(.c (.int .i64 97)), (.v 9)]
  (.op (.conv .u8) [(.v 12)]
  (.op (.mk 1 1) [(.v 13)]
  (.op .toS [(.v 14)]
  (.ret [(.c (.int .i64 3)), (.v 15), (.c (.sl [])), (.v 10), (.v 11)]))))))))
 (.op (.mk 1 8) [(.c (.int .i64 4)), (.c (.int .i64 4)), (.c (.int .i64 5)), (.c (.int .i64 5)), (.c (.int .i64 6)), (.c (.int .i64 6)), (.c (.int .i64 7)), (.c (.int .i64 8))]
 (.op (.bin .sub false) [(.v 4), (.c (.int .i64 4))]
 (.op .chk [(.v 8), (.v 9)]
 (.op (.get 0 1) [(.v 8), (.v 9)]
 (.letj 3
  (.op (.bin .eql false) [(.v 10), (.c (.int .i64 4))]
  (.ite (.v 11)
   (.jump 0 [(.c (.int .i64 1)), (.v 5), (.v 6)])
  (.letj 1
   (.op (.bin .eql false) [(.v 10), (.c (.int .i64 5))]
   (.ite (.v 12)
    (.jump 1 [(.c (.bool true))])
   (.op (.bin .eql false) [(.v 10), (.c (.int .i64 6))]
   (.jump 1 [(.v 13)]))))
  ir8p2)))
 ir8p1))))))
def ir8 : IR :=
 (.call 7 3 false [] [(.c (.int .i64 12)), (.v 2), (.v 3)]
 (.letj 1
  (.op (.bin .lss false) [(.v 1), (.c (.int .i64 1))]
  (.ite (.v 7)
   (.jump 0 [(.c (.bool true))])
  (.op (.bin .lss false) [(.v 4), (.c (.int .i64 4))]
  (.jump 0 [(.v 8)]))))
 ir8p3))
theorem rd8 : readFn T SG sigs 3000 sg8 Tryz.f12 an8 = some ir8 := by kernel_rfl
/- 9:deliberationkeep.Src).Set -/
def an9 : Ann := .z
def ir9 : IR :=
 (.call 7 3 false [] [(.c (.int .i64 4)), (.v 0), (.v 1)]
 (.op (.bin .eql false) [(.v 2), (.c (.int .i64 0))]
 (.ite (.v 5)
  (.call 30 3 false [] [(.v 3), (.v 4)]
  (.op (.conv .u64) [(.v 6)]
  (.ret [(.v 9), (.v 7), (.v 8)])))
 (.op (.bin .eql false) [(.v 2), (.c (.int .i64 1))]
 (.ite (.v 6)
  (.call 30 3 false [] [(.v 3), (.v 4)]
  (.op (.conv .u64) [(.v 7)]
  (.call 30 3 false [] [(.v 8), (.v 9)]
  (.op (.conv .u64) [(.v 11)]
  (.op (.bin .and false) [(.v 10), (.v 14)]
  (.ret [(.v 15), (.v 12), (.v 13)]))))))
 (.op (.bin .eql false) [(.v 2), (.c (.int .i64 2))]
 (.ite (.v 7)
  (.call 7 3 false [] [(.c (.int .i64 64)), (.v 3), (.v 4)]
  (.op (.conv .u64) [(.v 8)]
  (.op (.bin .shl false) [(.c (.int .u64 1)), (.v 11)]
  (.call 7 3 false [] [(.c (.int .i64 64)), (.v 9), (.v 10)]
  (.op (.conv .u64) [(.v 13)]
  (.op (.bin .shl false) [(.c (.int .u64 1)), (.v 16)]
  (.op (.bin .or false) [(.v 12), (.v 17)]
  (.ret [(.v 18), (.v 14), (.v 15)]))))))))
 (.call 30 3 false [] [(.v 3), (.v 4)]
 (.op (.conv .u64) [(.v 8)]
 (.op (.bin .mul false) [(.v 11), (.c (.int .u64 11400714819323198485))]
 (.call 30 3 false [] [(.v 9), (.v 10)]
 (.op (.conv .u64) [(.v 13)]
 (.op (.bin .xor false) [(.v 12), (.v 16)]
 (.ret [(.v 17), (.v 14), (.v 15)]))))))))))))))
theorem rd9 : readFn T SG sigs 3000 sg9 Tryz.f13 an9 = some ir9 := by kernel_rfl
/- 10:order.Least -/
def an10 : Ann := (.s none .z (.s none (.s none .z (.b (.l ⟨1, [(0, .junk), (2, .junk), (4, .junk), (7, .junk), (10, (.atm (.v 0)))], [], 1, []⟩ .z))) .z))
def ir10p0 : IR :=
 (.op (.bin .lss false) [(.v 5), (.v 4)]
 (.ite (.v 6)
  (.op (.row 1) [(.v 3), (.v 5)]
  (.op (.bin .and false) [(.v 7), (.v 2)]
  (.op (.bin .neq false) [(.v 8), (.c (.int .u64 0))]
  (.ite (.v 9)
   (.op (.bin .and false) [(.v 7), (.v 2)]
   (.ret [(.v 10)]))
  (.op (.bin .add false) [(.v 5), (.c (.int .i64 1))]
  (.jump 0 [(.v 10)]))))))
 (.ret [(.c (.int .u64 0))])))
def ir10 : IR :=
 (.call 16 1 false [] [(.v 0), (.v 1)]
 (.op .lenL [(.v 3)]
 (.loop 1 [(.c (.int .i64 0))] ir10p0)))
theorem rd10 : readFn T SG sigs 3000 sg10 Tryz.f14 an10 = some ir10 := by kernel_rfl
/- 11:deliberationref31.Least -/
def an11 : Ann := (.s none .z (.s none .z (.s none (.s none .z (.b (.l ⟨1, [(0, .junk), (4, .junk), (5, (.atm (.v 0))), (7, .junk), (8, .junk), (9, .junk)], [], 1, []⟩ .z))) .z)))
def ir11p0 : IR :=
 (.call 32 1 false [] [(.v 0), (.v 1)]
 (.op (.bin .leq false) [(.v 5), (.v 6)]
 (.ite (.v 7)
  (.call 33 1 false [] [(.v 0), (.v 1), (.v 5), (.v 5)]
  (.op (.bin .and false) [(.v 8), (.v 2)]
  (.op (.bin .neq false) [(.v 9), (.c (.int .u64 0))]
  (.ite (.v 10)
   (.ret [(.v 9)])
  (.op (.bin .add false) [(.v 5), (.c (.int .i64 1))]
  (.jump 0 [(.v 11)]))))))
 (.ret [(.c (.int .u64 0))]))))
def ir11 : IR :=
 (.call 15 1 false [] [(.v 0), (.v 1)]
 (.op (.bin .neq false) [(.v 3), (.c (.int .i64 0))]
 (.ite (.v 4)
  (.ret [(.c (.int .u64 0))])
 (.loop 1 [(.c (.int .i64 0))] ir11p0))))
theorem rd11 : readFn T SG sigs 3000 sg11 Tryz.f15 an11 = some ir11 := by kernel_rfl
/- 12:order.Believes -/
def an12 : Ann := .z
def ir12 : IR :=
 (.call 14 1 false [] [(.v 0), (.v 1)]
 (.op (.bin .neq false) [(.v 5), (.c (.int .i64 0))]
 (.ite (.v 6)
  (.ret [(.c (.bool false)), (.v 5)])
 (.call 34 2 false [] [(.v 0), (.v 2), (.v 3), (.v 4)]
 (.op (.bin .neq false) [(.v 8), (.c (.int .i64 0))]
 (.ite (.v 9)
  (.ret [(.c (.bool false)), (.v 8)])
 (.call 19 1 false [] [(.v 0), (.v 1)]
 (.op (.bin .andNot false) [(.v 10), (.v 7)]
 (.op (.bin .eql false) [(.v 11), (.c (.int .u64 0))]
 (.ret [(.v 12), (.c (.int .i64 0))]))))))))))
theorem rd12 : readFn T SG sigs 3000 sg12 Tryz.f16 an12 = some ir12 := by kernel_rfl
/- 13:deliberationref31.Believes -/
def an13 : Ann := .z
def ir13 : IR :=
 (.call 15 1 false [] [(.v 0), (.v 1)]
 (.op (.bin .neq false) [(.v 5), (.c (.int .i64 0))]
 (.ite (.v 6)
  (.ret [(.c (.bool false)), (.v 5)])
 (.call 35 2 false [] [(.v 0), (.v 2), (.v 3), (.v 4)]
 (.op (.bin .neq false) [(.v 8), (.c (.int .i64 0))]
 (.ite (.v 9)
  (.ret [(.c (.bool false)), (.v 8)])
 (.call 20 1 false [] [(.v 0), (.v 1)]
 (.op (.bin .andNot false) [(.v 10), (.v 7)]
 (.op (.bin .eql false) [(.v 11), (.c (.int .u64 0))]
 (.ret [(.v 12), (.c (.int .i64 0))]))))))))))
theorem rd13 : readFn T SG sigs 3000 sg13 Tryz.f17 an13 = some ir13 := by kernel_rfl
/- 14:order.Validate -/
def an14 : Ann := (.s none .z (.s none (.s (some ⟨1, [(0, .junk), (2, .junk), (20, (.atm (.v 0)))], [], 1, []⟩) .z .z) (.s none .z (.s none .z (.s none (.s none .z (.b (.l ⟨3, [(1, .junk), (4, (.atm (.v 0))), (20, .junk), (21, .junk), (22, .junk), (23, .junk), (24, .junk), (25, .junk), (28, (.atm (.v 1)))], [(1, ⟨false, true, 4, 1, (.v 2), []⟩)], 2, []⟩ (.s none .z (.s none .z (.s none (.b (.s none .z (.s none (.s (some ⟨1, [(29, .junk), (30, .junk), (31, .junk), (39, (.atm (.v 0)))], [], 2, []⟩) .z .z) .z))) .z)))))) .z)))))
def ir14p0 : IR :=
 (.ite (.v 11)
  (.ret [(.c (.int .i64 8))])
 (.op .max [(.v 6), (.v 10)]
 (.op .chk [(.v 8), (.v 10)]
 (.op (.set 0 1) [(.v 8), (.v 10), (.c (.bool true))]
 (.op (.bin .add false) [(.v 7), (.c (.int .i64 1))]
 (.jump 0 [(.v 12), (.v 14), (.v 13)]))))))
def ir14p1 : IR :=
 (.op (.bin .lss false) [(.v 7), (.v 5)]
 (.ite (.v 9)
  (.op (.row 1) [(.v 1), (.v 7)]
  (.letj 1
   (.op (.bin .lss false) [(.v 10), (.c (.int .i64 0))]
   (.ite (.v 11)
    (.jump 1 [(.c (.bool true))])
   (.op .lenL [(.v 8)]
   (.op (.bin .geq false) [(.v 10), (.v 12)]
   (.jump 1 [(.v 13)])))))
  ir14p0))
 (.op (.subL 1) [(.v 8), (.c (.int .i64 0)), (.v 6)]
 (.call 37 1 false [] [(.v 10), (.c (.bool false))]
 (.ite (.v 11)
  (.ret [(.c (.int .i64 8))])
 (.ret [(.c (.int .i64 0))]))))))
def ir14p2 : IR :=
 (.ite (.v 2)
  (.ret [(.c (.int .i64 1))])
 (.op .lenL [(.v 1)]
 (.op (.mkL 1 [(.bool false)]) [(.v 3)]
 (.op .lenL [(.v 1)]
 (.loop 3 [(.c (.int .i64 0)), (.c (.int .i64 0)), (.v 4)] ir14p1)))))
def ir14 : IR :=
 (.letj 1
  (.call 36 1 false [] [(.v 0)]
  (.op (.un .not) [(.v 2)]
  (.ite (.v 3)
   (.jump 0 [(.c (.bool true))])
  (.op .lenL [(.v 1)]
  (.op .lenL [(.v 0)]
  (.op (.bin .shl false) [(.c (.int .i64 1)), (.v 5)]
  (.op (.bin .neq false) [(.v 4), (.v 6)]
  (.jump 0 [(.v 7)]))))))))
 ir14p2)
theorem rd14 : readFn T SG sigs 3000 sg14 Tryz.f18 an14 = some ir14 := by kernel_rfl
/- 15:deliberationref31.Validate -/
def an15 : Ann := (.s none .z (.s none (.s (some ⟨1, [(0, .junk), (2, .junk), (20, (.atm (.v 0)))], [], 1, []⟩) .z .z) (.s none .z (.s none (.s none .z (.b (.l ⟨2, [(3, (.atm (.v 0))), (4, (.atm (.v 1))), (20, .junk)], [], 1, []⟩ (.s none .z (.s none (.b (.s none (.s (some ⟨1, [(21, .junk), (22, .junk), (23, .junk), (24, .junk), (25, .junk), (44, (.atm (.v 0)))], [], 1, []⟩) .z .z) .z)) .z))))) (.s none (.s none .z (.b (.l ⟨1, [(4, .junk), (5, (.atm (.v 0))), (21, .junk), (22, .junk), (23, .junk), (24, .junk), (25, .junk)], [], 1, []⟩ .z))) .z)))))
def ir15p0 : IR :=
 (.ite (.v 7)
  (.ret [(.c (.int .i64 8))])
 (.op (.row 1) [(.v 1), (.v 4)]
 (.op .max [(.v 3), (.v 8)]
 (.op (.bin .add false) [(.v 4), (.c (.int .i64 1))]
 (.jump 0 [(.v 9), (.v 10)])))))
def ir15p1 : IR :=
 (.op (.bin .lss false) [(.v 7), (.v 3)]
 (.ite (.v 8)
  (.call 39 1 false [] [(.v 1), (.v 7)]
  (.op (.un .not) [(.v 9)]
  (.ite (.v 10)
   (.ret [(.c (.int .i64 8))])
  (.op (.bin .add false) [(.v 7), (.c (.int .i64 1))]
  (.jump 1 [(.v 11)])))))
 (.ret [(.c (.int .i64 0))])))
def ir15p2 : IR :=
 (.op .lenL [(.v 1)]
 (.op (.bin .lss false) [(.v 4), (.v 5)]
 (.ite (.v 6)
  (.letj 1
   (.op (.row 1) [(.v 1), (.v 4)]
   (.op (.bin .lss false) [(.v 7), (.c (.int .i64 0))]
   (.ite (.v 8)
    (.jump 1 [(.c (.bool true))])
   (.op (.row 1) [(.v 1), (.v 4)]
   (.op .lenL [(.v 1)]
   (.op (.bin .geq false) [(.v 9), (.v 10)]
   (.jump 1 [(.v 11)])))))))
  ir15p0)
 (.loop 1 [(.c (.int .i64 0))] ir15p1))))
def ir15p3 : IR :=
 (.ite (.v 2)
  (.ret [(.c (.int .i64 1))])
 (.loop 2 [(.c (.int .i64 0)), (.c (.int .i64 0))] ir15p2))
def ir15 : IR :=
 (.letj 1
  (.call 38 1 false [] [(.v 0)]
  (.op (.un .not) [(.v 2)]
  (.ite (.v 3)
   (.jump 0 [(.c (.bool true))])
  (.op .lenL [(.v 1)]
  (.op .lenL [(.v 0)]
  (.op (.conv .u64) [(.v 5)]
  (.op (.bin .shl false) [(.c (.int .i64 1)), (.v 6)]
  (.op (.bin .neq false) [(.v 4), (.v 7)]
  (.jump 0 [(.v 8)])))))))))
 ir15p3)
theorem rd15 : readFn T SG sigs 3000 sg15 Tryz.f19 an15 = some ir15 := by kernel_rfl
/- 16:order.Levels -/
def an16 : Ann := (.s none .z (.s none .z (.s none .z (.s none (.s none .z (.b (.l ⟨2, [(0, .junk), (1, .junk), (2, .junk), (6, .junk), (7, .junk), (8, .junk), (9, .junk), (10, .junk), (11, .junk), (12, .junk), (13, .junk), (14, .junk), (17, (.atm (.v 0)))], [(1, ⟨false, true, 26, 1, (.v 1), []⟩)], 2, []⟩ .z))) .z))))
def ir16p0 : IR :=
 (.op (.bin .lss false) [(.v 8), (.v 7)]
 (.ite (.v 10)
  (.op (.row 1) [(.v 1), (.v 8)]
  (.op .chk [(.v 9), (.v 11)]
  (.op (.get 0 1) [(.v 9), (.v 11)]
  (.op (.conv .u64) [(.v 8)]
  (.op (.bin .shl false) [(.c (.int .u64 1)), (.v 13)]
  (.op (.bin .or false) [(.v 12), (.v 14)]
  (.op .chk [(.v 9), (.v 11)]
  (.op (.set 0 1) [(.v 9), (.v 11), (.v 15)]
  (.op (.bin .add false) [(.v 8), (.c (.int .i64 1))]
  (.jump 0 [(.v 17), (.v 16)]))))))))))
 (.ret [(.v 9)])))
def ir16 : IR :=
 (.call 14 1 false [] [(.v 0), (.v 1)]
 (.op (.bin .neq false) [(.v 2), (.c (.int .i64 0))]
 (.ite (.v 3)
  (.ret [(.c (.sl []))])
 (.call 40 1 false [] [(.v 1)]
 (.op (.bin .add false) [(.v 4), (.c (.int .i64 1))]
 (.op (.mkL 8 [(.int .u64 0)]) [(.v 5)]
 (.op .lenL [(.v 1)]
 (.loop 2 [(.c (.int .i64 0)), (.v 6)] ir16p0))))))))
theorem rd16 : readFn T SG sigs 3000 sg16 Tryz.f21 an16 = some ir16 := by kernel_rfl
/- 17:deliberationref31.Levels -/
def an17 : Ann := (.s none .z (.s none .z (.s none .z (.s none (.s none .z (.b (.l ⟨2, [(0, .junk), (2, .junk), (4, (.atm (.v 0))), (5, .junk), (6, .junk), (7, .junk)], [(1, ⟨false, true, 26, 1, (.v 1), []⟩)], 2, [⟨none, 3, 26, 1⟩]⟩ .z))) .z))))
def ir17p0 : IR :=
 (.call 32 1 false [] [(.v 0), (.v 1)]
 (.op (.bin .leq false) [(.v 4), (.v 6)]
 (.ite (.v 7)
  (.call 33 1 false [] [(.v 0), (.v 1), (.v 4), (.v 4)]
  (.op (.mk 1 1) [(.v 8)]
  (.op (.app 1 8) [(.v 5), (.v 9)]
  (.op (.bin .add false) [(.v 4), (.c (.int .i64 1))]
  (.jump 0 [(.v 11), (.v 10)])))))
 (.ret [(.v 5)]))))
def ir17 : IR :=
 (.call 15 1 false [] [(.v 0), (.v 1)]
 (.op (.bin .neq false) [(.v 2), (.c (.int .i64 0))]
 (.ite (.v 3)
  (.ret [(.c (.sl []))])
 (.loop 2 [(.c (.int .i64 0)), (.c (.sl []))] ir17p0))))
theorem rd17 : readFn T SG sigs 3000 sg17 Tryz.f22 an17 = some ir17 := by kernel_rfl
/- 18:deliberationlaw31.sets -/
def an18 : Ann := (.s none .z (.s none .z (.s none (.s none .z (.b (.l ⟨1, [(4, .junk), (5, (.atm (.v 0))), (6, .junk), (7, .junk), (8, .junk), (9, .junk), (10, .junk)], [], 0, []⟩ .z))) .z)))
def ir18p0 : IR :=
 (.op .lenL [(.v 0)]
 (.op (.bin .lss false) [(.v 5), (.v 6)]
 (.ite (.v 7)
  (.op (.row 1) [(.v 0), (.v 5)]
  (.op (.row 1) [(.v 1), (.v 5)]
  (.op (.bin .neq false) [(.v 8), (.v 9)]
  (.ite (.v 10)
   (.ret [(.c (.bool false))])
  (.op (.bin .add false) [(.v 5), (.c (.int .i64 1))]
  (.jump 0 [(.v 11)]))))))
 (.ret [(.c (.bool true))]))))
def ir18 : IR :=
 (.op .lenL [(.v 0)]
 (.op .lenL [(.v 1)]
 (.op (.bin .neq false) [(.v 2), (.v 3)]
 (.ite (.v 4)
  (.ret [(.c (.bool false))])
 (.loop 1 [(.c (.int .i64 0))] ir18p0)))))
theorem rd18 : readFn T SG sigs 3000 sg18 Tryz.f20 an18 = some ir18 := by kernel_rfl
/- 19:order.Beliefs -/
def an19 : Ann := .z
def ir19 : IR :=
 (.call 10 1 false [] [(.v 0), (.v 1), (.c (.int .u64 18446744073709551615))]
 (.ret [(.v 2)]))
theorem rd19 : readFn T SG sigs 3000 sg19 Tryz.f23 an19 = some ir19 := by kernel_rfl
/- 20:deliberationref31.Beliefs -/
def an20 : Ann := .z
def ir20 : IR :=
 (.call 41 1 false [] [(.v 0)]
 (.call 11 1 false [] [(.v 0), (.v 1), (.v 2)]
 (.ret [(.v 3)])))
theorem rd20 : readFn T SG sigs 3000 sg20 Tryz.f24 an20 = some ir20 := by kernel_rfl
/- 21:order.Same -/
def an21 : Ann := .z
def ir21 : IR :=
 (.call 42 1 false [] [(.v 0), (.v 2)]
 (.ite (.v 4)
  (.call 43 1 false [] [(.v 1), (.v 3)]
  (.ret [(.v 5)]))
 (.ret [(.c (.bool false))])))
theorem rd21 : readFn T SG sigs 3000 sg21 Tryz.f25 an21 = some ir21 := by kernel_rfl
/- 22:deliberationref31.Same -/
def an22 : Ann := .z
def ir22 : IR :=
 (.call 44 1 false [] [(.v 0), (.v 2)]
 (.ite (.v 4)
  (.call 28 1 false [] [(.v 1), (.v 3)]
  (.ret [(.v 5)]))
 (.ret [(.c (.bool false))])))
theorem rd22 : readFn T SG sigs 3000 sg22 Tryz.f26 an22 = some ir22 := by kernel_rfl
/- 23:deliberationkeep.Nodes -/
def an23 : Ann := (.s none .z (.s none .z (.s none (.s none .z (.b (.l ⟨2, [(0, .junk), (4, .junk), (5, (.atm (.v 0))), (7, .junk), (8, .junk), (10, (.atm (.v 1)))], [], 1, []⟩ .z))) .z)))
def ir23p0 : IR :=
 (.op (.bin .lss false) [(.v 6), (.v 4)]
 (.ite (.v 7)
  (.op (.bin .gtr false) [(.v 5), (.v 3)]
  (.ite (.v 8)
   (.ret [(.v 5)])
  (.op (.row 3) [(.v 2), (.v 6)]
  (.op (.bin .sub false) [(.v 3), (.v 5)]
  (.call 23 1 false [] [(.v 9), (.v 10), (.v 11), (.v 12)]
  (.op (.bin .add false) [(.v 5), (.v 13)]
  (.op (.bin .add false) [(.v 6), (.c (.int .i64 1))]
  (.jump 0 [(.v 14), (.v 15)]))))))))
 (.ret [(.v 5)])))
def ir23 : IR :=
 (.op .lenL [(.v 2)]
 (.loop 2 [(.c (.int .i64 1)), (.c (.int .i64 0))] ir23p0))
theorem rd23 : readFn T SG sigs 3000 sg23 Tryz.f40 an23 = some ir23 := by kernel_rfl
/- 24:deliberationkeep.Levels -/
def an24 : Ann := (.s none .z (.s none .z (.s none .z (.s none (.s none .z (.b (.l ⟨2, [(0, .junk), (4, .junk), (5, (.atm (.v 0))), (7, .junk), (8, .junk), (9, .junk), (10, .junk), (12, (.atm (.v 1)))], [], 1, []⟩ .z))) .z))))
def ir24p0 : IR :=
 (.op (.bin .lss false) [(.v 7), (.v 5)]
 (.ite (.v 8)
  (.op (.row 3) [(.v 2), (.v 7)]
  (.op (.bin .sub false) [(.v 3), (.c (.int .i64 1))]
  (.call 24 1 false [] [(.v 9), (.v 10), (.v 11), (.v 12)]
  (.op (.bin .add false) [(.c (.int .i64 1)), (.v 13)]
  (.op .max [(.v 6), (.v 14)]
  (.op (.bin .add false) [(.v 7), (.c (.int .i64 1))]
  (.jump 0 [(.v 15), (.v 16)])))))))
 (.ret [(.v 6)])))
def ir24 : IR :=
 (.op (.bin .lss false) [(.v 3), (.c (.int .i64 0))]
 (.ite (.v 4)
  (.ret [(.c (.int .i64 0))])
 (.op .lenL [(.v 2)]
 (.loop 2 [(.c (.int .i64 0)), (.c (.int .i64 0))] ir24p0))))
theorem rd24 : readFn T SG sigs 3000 sg24 Tryz.f41 an24 = some ir24 := by kernel_rfl
/- 25:deliberationkeep.short -/
def an25 : Ann := (.s none .z (.s none .z (.s none (.s none .z (.b (.l ⟨1, [(0, .junk), (2, .junk), (4, .junk), (5, .junk), (6, .junk), (7, .junk), (8, .junk), (9, .junk), (11, (.atm (.v 0)))], [], 1, []⟩ .z))) .z)))
def ir25p0 : IR :=
 (.op (.bin .lss false) [(.v 6), (.v 5)]
 (.ite (.v 7)
  (.op (.row 3) [(.v 2), (.v 6)]
  (.call 25 1 false [] [(.v 8), (.v 9), (.v 10)]
  (.op (.un .not) [(.v 11)]
  (.ite (.v 12)
   (.ret [(.c (.bool false))])
  (.op (.bin .add false) [(.v 6), (.c (.int .i64 1))]
  (.jump 0 [(.v 13)]))))))
 (.ret [(.c (.bool true))])))
def ir25 : IR :=
 (.op .lenS [(.v 1)]
 (.op (.bin .gtr false) [(.v 3), (.c (.int .i64 100))]
 (.ite (.v 4)
  (.ret [(.c (.bool false))])
 (.op .lenL [(.v 2)]
 (.loop 1 [(.c (.int .i64 0))] ir25p0)))))
theorem rd25 : readFn T SG sigs 3000 sg25 Tryz.f42 an25 = some ir25 := by kernel_rfl
/- 26:deliberationkeep.Voc -/
def an26 : Ann := (.s none .z (.s none .z (.s none (.s none .z (.b (.l ⟨2, [(2, .junk), (4, (.atm (.v 0)))], [(0, ⟨false, true, 9, 1, (.v 1), []⟩)], 1, [⟨none, 3, 9, 1⟩]⟩ .z))) .z)))
def ir26p0 : IR :=
 (.op (.bin .lss false) [(.v 1), (.v 0)]
 (.ite (.v 3)
  (.op (.bin .add false) [(.c (.int .i64 97)), (.v 1)]
  (.op (.conv .u8) [(.v 4)]
  (.op (.mk 1 1) [(.v 5)]
  (.op .toS [(.v 6)]
  (.op (.mk 1 1) [(.v 7)]
  (.op (.app 1 16) [(.v 2), (.v 8)]
  (.op (.bin .add false) [(.v 1), (.c (.int .i64 1))]
  (.jump 0 [(.v 10), (.v 9)]))))))))
 (.ret [(.v 2)])))
def ir26 : IR :=
 (.loop 2 [(.c (.int .i64 0)), (.c (.sl []))] ir26p0)
theorem rd26 : readFn T SG sigs 3000 sg26 Tryz.f44 an26 = some ir26 := by kernel_rfl
/- 27:order.Normal -/
def an27 : Ann := (.s none .z (.s none (.s (some ⟨1, [(5, .junk), (22, (.atm (.v 0)))], [], 1, []⟩) .z .z) (.s none .z (.s none .z (.s none (.s none .z (.b (.l ⟨2, [(0, .junk), (1, .junk), (22, .junk), (24, .junk), (25, .junk), (27, .junk), (28, .junk), (29, .junk), (30, .junk), (33, (.atm (.v 0)))], [(5, ⟨false, true, 3, 1, (.v 1), []⟩)], 6, [⟨some (4, 0, 1), 0, 3, 1⟩]⟩ .z))) .z)))))
def ir27p0 : IR :=
 (.op (.bin .lss false) [(.v 10), (.v 9)]
 (.ite (.v 12)
  (.op (.row 1) [(.v 1), (.v 10)]
  (.call 49 2 false [] [(.v 6), (.v 13)]
  (.op (.mk 1 1) [(.v 14)]
  (.op (.app 1 8) [(.v 11), (.v 16)]
  (.op (.bin .add false) [(.v 10), (.c (.int .i64 1))]
  (.jump 0 [(.v 18), (.v 17)]))))))
 (.ret [(.v 8), (.v 11), (.c (.int .i64 0))])))
def ir27p1 : IR :=
 (.ite (.v 2)
  (.ret [(.c (.sl [])), (.c (.sl [])), (.c (.int .i64 1))])
 (.call 45 1 false [] [(.v 1)]
 (.call 46 2 false [0] [(.v 3)]
 (.call 47 2 false [1] [(.v 4)]
 (.call 48 1 false [0] [(.v 0)]
 (.op .lenL [(.v 1)]
 (.loop 2 [(.c (.int .i64 0)), (.c (.sl []))] ir27p0)))))))
def ir27 : IR :=
 (.letj 1
  (.call 36 1 false [] [(.v 0)]
  (.op (.un .not) [(.v 2)]
  (.ite (.v 3)
   (.jump 0 [(.c (.bool true))])
  (.op .lenL [(.v 1)]
  (.op .lenL [(.v 0)]
  (.op (.bin .shl false) [(.c (.int .i64 1)), (.v 5)]
  (.op (.bin .neq false) [(.v 4), (.v 6)]
  (.jump 0 [(.v 7)]))))))))
 ir27p1)
theorem rd27 : readFn T SG sigs 3000 sg27 Tryz.f43 an27 = some ir27 := by kernel_rfl
/- 28:deliberationkeep.Ints -/
def an28 : Ann := (.s none .z (.s none .z (.s none (.s none .z (.b (.l ⟨1, [(4, .junk), (6, .junk), (7, .junk), (8, .junk), (9, .junk), (10, .junk), (11, .junk), (13, (.atm (.v 0)))], [], 0, []⟩ .z))) .z)))
def ir28p0 : IR :=
 (.op (.bin .lss false) [(.v 6), (.v 5)]
 (.ite (.v 7)
  (.op (.row 1) [(.v 0), (.v 6)]
  (.op (.row 1) [(.v 1), (.v 6)]
  (.op (.bin .neq false) [(.v 8), (.v 9)]
  (.ite (.v 10)
   (.ret [(.c (.bool false))])
  (.op (.bin .add false) [(.v 6), (.c (.int .i64 1))]
  (.jump 0 [(.v 11)]))))))
 (.ret [(.c (.bool true))])))
def ir28 : IR :=
 (.op .lenL [(.v 0)]
 (.op .lenL [(.v 1)]
 (.op (.bin .neq false) [(.v 2), (.v 3)]
 (.ite (.v 4)
  (.ret [(.c (.bool false))])
 (.op .lenL [(.v 0)]
 (.loop 1 [(.c (.int .i64 0))] ir28p0))))))
theorem rd28 : readFn T SG sigs 3000 sg28 Tryz.f45 an28 = some ir28 := by kernel_rfl
/- 29:deliberationref31.Normal -/
def an29 : Ann := (.s none .z (.s none (.s (some ⟨1, [(5, .junk), (21, (.atm (.v 0)))], [], 1, []⟩) .z .z) (.s none .z (.s none (.s none .z (.b (.l ⟨2, [(0, .junk), (7, (.atm (.v 0))), (21, .junk), (24, .junk), (25, .junk), (26, .junk), (27, .junk), (28, .junk), (29, .junk)], [(6, ⟨false, true, 3, 1, (.v 1), []⟩)], 9, []⟩ (.s none .z (.s none (.b (.s none .z (.s none (.s none .z (.b (.l ⟨2, [(9, (.atm (.v 0))), (30, .junk), (31, .junk), (32, .junk), (33, .junk)], [(9, ⟨false, true, 3, 1, (.v 1), []⟩)], 10, [⟨none, 8, 3, 1⟩]⟩ (.s none .z (.s (some ⟨1, [(36, .junk), (37, .junk), (38, .junk), (39, .junk)], [(9, ⟨false, true, 3, 1, (.v 0), []⟩)], 10, []⟩) (.b (.s (some ⟨1, [(36, .junk), (37, .junk), (38, .junk), (39, .junk), (59, (.atm (.v 0)))], [], 10, []⟩) .z .z)) .z))))) .z))) .z))))) .z))))
def ir29p0 : IR :=
 (.op (.bin .add false) [(.v 10), (.c (.int .i64 1))]
 (.jump 1 [(.v 15), (.v 14)]))
def ir29p1 : IR :=
 (.ite (.v 14)
  (.op (.row 1) [(.v 1), (.v 10)]
  (.op (.mk 1 1) [(.v 15)]
  (.op (.app 1 8) [(.v 11), (.v 16)]
  (.jump 2 [(.v 17)]))))
 (.jump 2 [(.v 11)]))
def ir29p2 : IR :=
 (.op .lenL [(.v 1)]
 (.op (.bin .lss false) [(.v 10), (.v 12)]
 (.ite (.v 13)
  (.letj 1
   (.letj 1
    (.op (.row 1) [(.v 1), (.v 10)]
    (.op (.row 1) [(.v 1), (.v 6)]
    (.op (.bin .lss false) [(.v 14), (.v 15)]
    (.ite (.v 16)
     (.op (.row 1) [(.v 1), (.v 10)]
     (.call 39 1 true [] [(.v 11), (.v 17)]
     (.op (.un .not) [(.v 18)]
     (.jump 3 [(.v 19)]))))
    (.jump 3 [(.c (.bool false))])))))
   ir29p1)
  ir29p0)
 (.op .lenL [(.v 11)]
 (.op .chk [(.v 7), (.v 6)]
 (.op (.set 0 1) [(.v 7), (.v 6), (.v 14)]
 (.op (.bin .add false) [(.v 6), (.c (.int .i64 1))]
 (.jump 0 [(.v 16), (.v 15)]))))))))
def ir29p3 : IR :=
 (.op .lenL [(.v 1)]
 (.op (.bin .lss false) [(.v 6), (.v 8)]
 (.ite (.v 9)
  (.loop 2 [(.c (.int .i64 0)), (.c (.sl []))] ir29p2)
 (.ret [(.v 3), (.v 7), (.c (.int .i64 0))]))))
def ir29p4 : IR :=
 (.ite (.v 2)
  (.ret [(.c (.sl [])), (.c (.sl [])), (.c (.int .i64 1))])
 (.op (.app 1 16) [(.c (.sl [])), (.v 0)]
 (.op .lenL [(.v 1)]
 (.op (.mkL 8 [(.int .i64 0)]) [(.v 4)]
 (.loop 2 [(.c (.int .i64 0)), (.v 5)] ir29p3)))))
def ir29 : IR :=
 (.letj 1
  (.call 38 1 false [] [(.v 0)]
  (.op (.un .not) [(.v 2)]
  (.ite (.v 3)
   (.jump 0 [(.c (.bool true))])
  (.op .lenL [(.v 1)]
  (.op .lenL [(.v 0)]
  (.op (.conv .u64) [(.v 5)]
  (.op (.bin .shl false) [(.c (.int .i64 1)), (.v 6)]
  (.op (.bin .neq false) [(.v 4), (.v 7)]
  (.jump 0 [(.v 8)])))))))))
 ir29p4)
theorem rd29 : readFn T SG sigs 3000 sg29 Tryz.f46 an29 = some ir29 := by kernel_rfl
/- 30:deliberationkeep.Src).Raw -/
def an30 : Ann := .z
def ir30 : IR :=
 (.op .lenL [(.v 0)]
 (.op (.bin .geq false) [(.v 1), (.v 2)]
 (.ite (.v 3)
  (.ret [(.c (.int .i64 0)), (.v 0), (.v 1)])
 (.op (.bin .add false) [(.v 1), (.c (.int .i64 1))]
 (.op (.bin .sub false) [(.v 4), (.c (.int .i64 1))]
 (.op (.row 1) [(.v 0), (.v 5)]
 (.ret [(.v 6), (.v 0), (.v 4)])))))))
theorem rd30 : readFn T SG sigs 3000 sg30 Tryz.f48 an30 = some ir30 := by kernel_rfl
/- 31:deliberationkeep.Mod -/
def an31 : Ann := (.s none .z (.s none .z (.s none .z (.s (some ⟨1, [(0, (.atm (.v 0))), (1, .junk), (4, .junk), (5, .junk), (6, .junk), (7, .junk), (8, .junk), (9, .junk)], [], 0, []⟩) .z .z))))
def ir31p0 : IR :=
 (.ret [(.v 4)])
def ir31 : IR :=
 (.op (.bin .lss false) [(.v 1), (.c (.int .i64 1))]
 (.ite (.v 2)
  (.ret [(.c (.int .i64 0))])
 (.op (.bin .rem false) [(.v 0), (.v 1)]
 (.letj 1
  (.op (.bin .lss false) [(.v 3), (.c (.int .i64 0))]
  (.ite (.v 4)
   (.op (.bin .add false) [(.v 3), (.v 1)]
   (.jump 0 [(.v 5)]))
  (.jump 0 [(.v 3)])))
 ir31p0))))
theorem rd31 : readFn T SG sigs 3000 sg31 Tryz.f47 an31 = some ir31 := by kernel_rfl
/- 32:deliberationref31.Most -/
def an32 : Ann := (.s none .z (.s none .z (.s none (.s none .z (.b (.l ⟨2, [(0, .junk), (2, .junk), (3, (.atm (.v 0))), (4, (.atm (.v 1)))], [], 1, []⟩ .z))) .z)))
def ir32p0 : IR :=
 (.op .lenL [(.v 1)]
 (.op (.bin .lss false) [(.v 3), (.v 4)]
 (.ite (.v 5)
  (.op (.row 1) [(.v 1), (.v 3)]
  (.op .max [(.v 2), (.v 6)]
  (.op (.bin .add false) [(.v 3), (.c (.int .i64 1))]
  (.jump 0 [(.v 7), (.v 8)]))))
 (.ret [(.v 2)]))))
def ir32 : IR :=
 (.loop 2 [(.c (.int .i64 0)), (.c (.int .i64 0))] ir32p0)
theorem rd32 : readFn T SG sigs 3000 sg32 Tryz.f49 an32 = some ir32 := by kernel_rfl
/- 33:deliberationref31.Where -/
def an33 : Ann := (.s none .z (.s none .z (.s none (.s none .z (.b (.l ⟨2, [(0, .junk), (6, .junk), (7, (.atm (.v 0))), (8, (.atm (.v 1)))], [], 1, []⟩ (.s none .z (.s (some ⟨1, [(7, (.atm (.v 0))), (9, .junk), (10, .junk), (11, .junk), (12, .junk), (13, .junk)], [], 1, []⟩) (.b (.s (some ⟨1, [(9, .junk), (10, .junk), (11, .junk), (12, .junk), (13, .junk), (31, (.atm (.v 0)))], [], 1, []⟩) .z .z)) .z))))) .z)))
def ir33p0 : IR :=
 (.op (.bin .add false) [(.v 5), (.c (.int .i64 1))]
 (.jump 0 [(.v 8), (.v 9)]))
def ir33p1 : IR :=
 (.ite (.v 8)
  (.op (.conv .u64) [(.v 5)]
  (.op (.bin .shl false) [(.c (.int .u64 1)), (.v 9)]
  (.op (.bin .or false) [(.v 4), (.v 10)]
  (.jump 1 [(.v 11)]))))
 (.jump 1 [(.v 4)]))
def ir33p2 : IR :=
 (.op .lenL [(.v 1)]
 (.op (.bin .lss false) [(.v 5), (.v 6)]
 (.ite (.v 7)
  (.letj 1
   (.letj 1
    (.op (.row 1) [(.v 1), (.v 5)]
    (.op (.bin .geq false) [(.v 8), (.v 2)]
    (.ite (.v 9)
     (.op (.row 1) [(.v 1), (.v 5)]
     (.op (.bin .leq false) [(.v 10), (.v 3)]
     (.jump 2 [(.v 11)])))
    (.jump 2 [(.c (.bool false))]))))
   ir33p1)
  ir33p0)
 (.ret [(.v 4)]))))
def ir33 : IR :=
 (.loop 2 [(.c (.int .u64 0)), (.c (.int .i64 0))] ir33p2)
theorem rd33 : readFn T SG sigs 3000 sg33 Tryz.f50 an33 = some ir33 := by kernel_rfl
/- 34:world.Models -/
def an34 : Ann := (.s none .z (.s none .z (.s none .z (.s none (.s none .z (.b (.l ⟨1, [(1, .junk), (4, .junk), (5, .junk), (6, .junk), (9, .junk), (10, .junk), (11, .junk), (12, .junk), (13, .junk), (14, .junk), (15, .junk), (17, .junk), (20, (.atm (.v 0)))], [], 1, []⟩ .z))) .z))))
def ir34p0 : IR :=
 (.op (.bin .lss false) [(.v 10), (.v 9)]
 (.ite (.v 11)
  (.op (.row 1) [(.v 8), (.v 10)]
  (.call 52 1 false [] [(.v 0), (.v 12)]
  (.op (.un .not) [(.v 13)]
  (.ite (.v 14)
   (.ret [(.c (.int .u64 0)), (.c (.int .i64 6))])
  (.op (.bin .add false) [(.v 10), (.c (.int .i64 1))]
  (.jump 0 [(.v 15)]))))))
 (.call 53 1 false [] [(.v 0), (.v 1), (.v 2), (.v 3)]
 (.call 54 1 false [] [(.v 0)]
 (.op (.bin .and false) [(.v 12), (.v 13)]
 (.ret [(.v 14), (.c (.int .i64 0))]))))))
def ir34 : IR :=
 (.call 36 1 false [] [(.v 0)]
 (.op (.un .not) [(.v 4)]
 (.ite (.v 5)
  (.ret [(.c (.int .u64 0)), (.c (.int .i64 1))])
 (.call 50 1 false [] [(.v 1), (.v 2), (.v 3)]
 (.op (.bin .neq false) [(.v 6), (.c (.int .i64 0))]
 (.ite (.v 7)
  (.ret [(.c (.int .u64 0)), (.v 6)])
 (.call 51 1 false [] [(.v 1), (.v 2), (.v 3)]
 (.op .lenL [(.v 8)]
 (.loop 1 [(.c (.int .i64 0))] ir34p0)))))))))
theorem rd34 : readFn T SG sigs 3000 sg34 Tryz.f51 an34 = some ir34 := by kernel_rfl
/- 35:deliberationref03.Models -/
def an35 : Ann := (.s none .z (.s none .z (.s none .z (.s none .z (.s none (.s none .z (.b (.l ⟨1, [(1, .junk), (4, .junk), (5, .junk), (6, .junk), (8, (.atm (.v 0))), (11, .junk), (12, .junk), (13, .junk), (14, .junk), (15, .junk), (16, .junk), (17, .junk), (19, .junk), (20, .junk)], [], 1, []⟩ .z))) (.s none .z (.s none (.s none .z (.b (.l ⟨2, [(7, .junk), (8, .junk), (9, (.atm (.v 0))), (10, (.atm (.v 1))), (21, .junk), (22, .junk), (23, .junk), (24, .junk)], [], 1, []⟩ (.s none .z (.s (some ⟨1, [(9, (.atm (.v 0))), (34, .junk), (35, .junk), (36, .junk), (37, .junk)], [], 1, []⟩) .z .z))))) .z)))))))
def ir35p0 : IR :=
 (.op (.bin .add false) [(.v 13), (.c (.int .i64 1))]
 (.jump 1 [(.v 16), (.v 17)]))
def ir35p1 : IR :=
 (.call 58 1 false [] [(.v 0)]
 (.op (.bin .lss false) [(.v 13), (.v 14)]
 (.ite (.v 15)
  (.letj 1
   (.call 59 1 false [] [(.v 0), (.v 13)]
   (.call 60 1 false [] [(.v 1), (.v 2), (.v 3), (.v 16)]
   (.ite (.v 17)
    (.op (.conv .u64) [(.v 13)]
    (.op (.bin .shl false) [(.c (.int .u64 1)), (.v 18)]
    (.op (.bin .or false) [(.v 12), (.v 19)]
    (.jump 2 [(.v 20)]))))
   (.jump 2 [(.v 12)]))))
  ir35p0)
 (.ret [(.v 12), (.c (.int .i64 0))]))))
def ir35p2 : IR :=
 (.op .lenL [(.v 8)]
 (.op (.bin .lss false) [(.v 9), (.v 10)]
 (.ite (.v 11)
  (.op (.row 1) [(.v 8), (.v 9)]
  (.call 57 1 false [] [(.v 0), (.v 12)]
  (.op (.bin .lss false) [(.v 13), (.c (.int .i64 0))]
  (.ite (.v 14)
   (.ret [(.c (.int .u64 0)), (.c (.int .i64 6))])
  (.op (.bin .add false) [(.v 9), (.c (.int .i64 1))]
  (.jump 0 [(.v 15)]))))))
 (.loop 2 [(.c (.int .u64 0)), (.c (.int .i64 0))] ir35p1))))
def ir35 : IR :=
 (.call 38 1 false [] [(.v 0)]
 (.op (.un .not) [(.v 4)]
 (.ite (.v 5)
  (.ret [(.c (.int .u64 0)), (.c (.int .i64 1))])
 (.call 55 1 false [] [(.v 1), (.v 2), (.v 3)]
 (.op (.bin .neq false) [(.v 6), (.c (.int .i64 0))]
 (.ite (.v 7)
  (.ret [(.c (.int .u64 0)), (.v 6)])
 (.call 56 1 false [] [(.v 1), (.v 2), (.v 3)]
 (.loop 1 [(.c (.int .i64 0))] ir35p2))))))))
theorem rd35 : readFn T SG sigs 3000 sg35 Tryz.f52 an35 = some ir35 := by kernel_rfl
/- 36:world.Valid -/
def an36 : Ann := (.s none .z (.s none .z (.s none (.s none .z (.b (.l ⟨1, [(2, .junk), (5, .junk), (6, .junk), (7, .junk), (10, (.atm (.v 0)))], [], 0, []⟩ (.s none .z (.s none .z (.s none (.b (.s none .z (.s (some ⟨1, [(3, .junk), (4, .junk), (11, .junk), (12, .junk), (13, .junk), (14, .junk), (30, (.atm (.v 0)))], [], 0, []⟩) .z .z))) .z)))))) .z)))
def ir36p0 : IR :=
 (.ite (.v 7)
  (.ret [(.c (.bool false))])
 (.op (.bin .add false) [(.v 4), (.c (.int .i64 1))]
 (.jump 0 [(.v 8)])))
def ir36p1 : IR :=
 (.op (.bin .lss false) [(.v 4), (.v 3)]
 (.ite (.v 5)
  (.op (.row 1) [(.v 0), (.v 4)]
  (.letj 1
   (.call 61 1 false [] [(.v 6)]
   (.op (.un .not) [(.v 7)]
   (.ite (.v 8)
    (.jump 1 [(.c (.bool true))])
   (.op (.bin .gtr false) [(.v 4), (.c (.int .i64 0))]
   (.ite (.v 9)
    (.op (.bin .sub false) [(.v 4), (.c (.int .i64 1))]
    (.op (.row 1) [(.v 0), (.v 10)]
    (.op (.bin .geq false) [(.v 11), (.v 6)]
    (.jump 1 [(.v 12)]))))
   (.jump 1 [(.c (.bool false))]))))))
  ir36p0))
 (.ret [(.c (.bool true))])))
def ir36 : IR :=
 (.op .lenL [(.v 0)]
 (.op (.bin .gtr false) [(.v 1), (.c (.int .i64 6))]
 (.ite (.v 2)
  (.ret [(.c (.bool false))])
 (.op .lenL [(.v 0)]
 (.loop 1 [(.c (.int .i64 0))] ir36p1)))))
theorem rd36 : readFn T SG sigs 3000 sg36 Tryz.f53 an36 = some ir36 := by kernel_rfl
/- 37:slices.Contains[[]bool,bool] -/
def an37 : Ann := .z
def ir37 : IR :=
 (.call 62 1 false [] [(.v 0), (.v 1)]
 (.op (.bin .geq false) [(.v 2), (.c (.int .i64 0))]
 (.ret [(.v 3)])))
theorem rd37 : readFn T SG sigs 3000 sg37 Tryz.f54 an37 = some ir37 := by kernel_rfl
/- 38:deliberationref03.Valid -/
def an38 : Ann := (.s none .z (.s none (.s none .z (.b (.l ⟨1, [(2, .junk), (3, (.atm (.v 0)))], [], 0, []⟩ (.s none .z (.s none (.b (.s (some ⟨1, [(4, .junk), (5, .junk), (6, .junk), (7, .junk), (31, (.atm (.v 0)))], [], 0, []⟩) .z .z)) .z))))) .z))
def ir38p0 : IR :=
 (.ite (.v 4)
  (.ret [(.c (.bool false))])
 (.op (.bin .add false) [(.v 1), (.c (.int .i64 1))]
 (.jump 0 [(.v 5)])))
def ir38p1 : IR :=
 (.op .lenL [(.v 0)]
 (.op (.bin .lss false) [(.v 1), (.v 2)]
 (.ite (.v 3)
  (.letj 1
   (.op (.row 1) [(.v 0), (.v 1)]
   (.call 63 1 false [] [(.v 4)]
   (.op (.un .not) [(.v 5)]
   (.ite (.v 6)
    (.jump 1 [(.c (.bool true))])
   (.op (.bin .gtr false) [(.v 1), (.c (.int .i64 0))]
   (.ite (.v 7)
    (.op (.row 1) [(.v 0), (.v 1)]
    (.op (.bin .sub false) [(.v 1), (.c (.int .i64 1))]
    (.op (.row 1) [(.v 0), (.v 9)]
    (.op (.bin .leq false) [(.v 8), (.v 10)]
    (.jump 1 [(.v 11)])))))
   (.jump 1 [(.c (.bool false))])))))))
  ir38p0)
 (.op .lenL [(.v 0)]
 (.op (.bin .leq false) [(.v 4), (.c (.int .i64 6))]
 (.ret [(.v 5)]))))))
def ir38 : IR :=
 (.loop 1 [(.c (.int .i64 0))] ir38p1)
theorem rd38 : readFn T SG sigs 3000 sg38 Tryz.f55 an38 = some ir38 := by kernel_rfl
/- 39:deliberationkeep.In -/
def an39 : Ann := (.s none .z (.s none (.s none .z (.b (.l ⟨1, [(4, .junk), (6, .junk), (8, (.atm (.v 0)))], [], 0, []⟩ .z))) .z))
def ir39p0 : IR :=
 (.op (.bin .lss false) [(.v 3), (.v 2)]
 (.ite (.v 4)
  (.op (.row 1) [(.v 0), (.v 3)]
  (.op (.bin .eql false) [(.v 5), (.v 1)]
  (.ite (.v 6)
   (.ret [(.c (.bool true))])
  (.op (.bin .add false) [(.v 3), (.c (.int .i64 1))]
  (.jump 0 [(.v 7)])))))
 (.ret [(.c (.bool false))])))
def ir39 : IR :=
 (.op .lenL [(.v 0)]
 (.loop 1 [(.c (.int .i64 0))] ir39p0))
theorem rd39 : readFn T SG sigs 3000 sg39 Tryz.f56 an39 = some ir39 := by kernel_rfl
/- 40:slices.Max[[]int,int] -/
def an40 : Ann := (.s none .z (.s none .z (.s none .z (.s none (.s none .z (.b (.l ⟨2, [(2, .junk), (3, (.atm (.v 0))), (4, (.atm (.v 1))), (5, .junk), (6, .junk), (7, .junk), (9, .junk), (10, .junk), (11, .junk)], [], 0, []⟩ .z))) .z))))
def ir40p0 : IR :=
 (.op .lenL [(.v 0)]
 (.op (.bin .lss false) [(.v 5), (.v 6)]
 (.ite (.v 7)
  (.op (.row 1) [(.v 0), (.v 5)]
  (.op .max [(.v 4), (.v 8)]
  (.op (.bin .add false) [(.v 5), (.c (.int .i64 1))]
  (.jump 0 [(.v 9), (.v 10)]))))
 (.ret [(.v 4)]))))
def ir40 : IR :=
 (.op .lenL [(.v 0)]
 (.op (.bin .lss false) [(.v 1), (.c (.int .i64 1))]
 (.ite (.v 2)
  .fail
 (.op (.row 1) [(.v 0), (.c (.int .i64 0))]
 (.loop 2 [(.v 3), (.c (.int .i64 1))] ir40p0)))))
theorem rd40 : readFn T SG sigs 3000 sg40 Tryz.f57 an40 = some ir40 := by kernel_rfl
/- 41:deliberationref03.All -/
def an41 : Ann := (.s none .z (.s none .z (.s none .z (.s none (.s none .z (.b (.l ⟨2, [(2, .junk), (3, (.atm (.v 0))), (4, (.atm (.v 1))), (5, .junk), (6, .junk), (7, .junk)], [], 0, []⟩ .z))) .z))))
def ir41p0 : IR :=
 (.call 58 1 false [] [(.v 0)]
 (.op (.bin .lss false) [(.v 4), (.v 5)]
 (.ite (.v 6)
  (.op (.conv .u64) [(.v 4)]
  (.op (.bin .shl false) [(.c (.int .u64 1)), (.v 7)]
  (.op (.bin .or false) [(.v 3), (.v 8)]
  (.op (.bin .add false) [(.v 4), (.c (.int .i64 1))]
  (.jump 0 [(.v 9), (.v 10)])))))
 (.ret [(.v 3)]))))
def ir41 : IR :=
 (.call 38 1 false [] [(.v 0)]
 (.op (.un .not) [(.v 1)]
 (.ite (.v 2)
  (.ret [(.c (.int .u64 0))])
 (.loop 2 [(.c (.int .u64 0)), (.c (.int .i64 0))] ir41p0))))
theorem rd41 : readFn T SG sigs 3000 sg41 Tryz.f58 an41 = some ir41 := by kernel_rfl
/- 42:slices.Equal[[]string,string] -/
def an42 : Ann := (.s none .z (.s none .z (.s none (.s none .z (.b (.l ⟨1, [(4, .junk), (6, .junk), (7, .junk), (8, .junk), (9, .junk), (10, .junk), (11, .junk), (13, (.atm (.v 0)))], [], 0, []⟩ .z))) .z)))
def ir42p0 : IR :=
 (.op (.bin .lss false) [(.v 6), (.v 5)]
 (.ite (.v 7)
  (.op (.row 1) [(.v 0), (.v 6)]
  (.op (.row 1) [(.v 1), (.v 6)]
  (.op (.bin .neq false) [(.v 8), (.v 9)]
  (.ite (.v 10)
   (.ret [(.c (.bool false))])
  (.op (.bin .add false) [(.v 6), (.c (.int .i64 1))]
  (.jump 0 [(.v 11)]))))))
 (.ret [(.c (.bool true))])))
def ir42 : IR :=
 (.op .lenL [(.v 0)]
 (.op .lenL [(.v 1)]
 (.op (.bin .neq false) [(.v 2), (.v 3)]
 (.ite (.v 4)
  (.ret [(.c (.bool false))])
 (.op .lenL [(.v 0)]
 (.loop 1 [(.c (.int .i64 0))] ir42p0))))))
theorem rd42 : readFn T SG sigs 3000 sg42 Tryz.f59 an42 = some ir42 := by kernel_rfl
/- 43:slices.Equal[[]int,int] -/
def an43 : Ann := (.s none .z (.s none .z (.s none (.s none .z (.b (.l ⟨1, [(4, .junk), (6, .junk), (7, .junk), (8, .junk), (9, .junk), (10, .junk), (11, .junk), (13, (.atm (.v 0)))], [], 0, []⟩ .z))) .z)))
def ir43p0 : IR :=
 (.op (.bin .lss false) [(.v 6), (.v 5)]
 (.ite (.v 7)
  (.op (.row 1) [(.v 0), (.v 6)]
  (.op (.row 1) [(.v 1), (.v 6)]
  (.op (.bin .neq false) [(.v 8), (.v 9)]
  (.ite (.v 10)
   (.ret [(.c (.bool false))])
  (.op (.bin .add false) [(.v 6), (.c (.int .i64 1))]
  (.jump 0 [(.v 11)]))))))
 (.ret [(.c (.bool true))])))
def ir43 : IR :=
 (.op .lenL [(.v 0)]
 (.op .lenL [(.v 1)]
 (.op (.bin .neq false) [(.v 2), (.v 3)]
 (.ite (.v 4)
  (.ret [(.c (.bool false))])
 (.op .lenL [(.v 0)]
 (.loop 1 [(.c (.int .i64 0))] ir43p0))))))
theorem rd43 : readFn T SG sigs 3000 sg43 Tryz.f60 an43 = some ir43 := by kernel_rfl
/- 44:deliberationref31.SameNames -/
def an44 : Ann := (.s none .z (.s none .z (.s none (.s none .z (.b (.l ⟨1, [(4, .junk), (5, (.atm (.v 0))), (6, .junk), (7, .junk), (8, .junk), (9, .junk), (10, .junk)], [], 0, []⟩ .z))) .z)))
def ir44p0 : IR :=
 (.op .lenL [(.v 0)]
 (.op (.bin .lss false) [(.v 5), (.v 6)]
 (.ite (.v 7)
  (.op (.row 1) [(.v 0), (.v 5)]
  (.op (.row 1) [(.v 1), (.v 5)]
  (.op (.bin .neq false) [(.v 8), (.v 9)]
  (.ite (.v 10)
   (.ret [(.c (.bool false))])
  (.op (.bin .add false) [(.v 5), (.c (.int .i64 1))]
  (.jump 0 [(.v 11)]))))))
 (.ret [(.c (.bool true))]))))
def ir44 : IR :=
 (.op .lenL [(.v 0)]
 (.op .lenL [(.v 1)]
 (.op (.bin .neq false) [(.v 2), (.v 3)]
 (.ite (.v 4)
  (.ret [(.c (.bool false))])
 (.loop 1 [(.c (.int .i64 0))] ir44p0)))))
theorem rd44 : readFn T SG sigs 3000 sg44 Tryz.f61 an44 = some ir44 := by kernel_rfl
/- 45:slices.Values[[]int,int]: not read -/
/- 46:slices.Sorted[int] -/
def an46 : Ann := .z
def ir46 : IR :=
 (.call 64 2 false [0] [(.v 0)]
 (.call 65 1 false [0] [(.v 1)]
 (.ret [(.v 3), (.v 2)])))
theorem rd46 : readFn T SG sigs 3000 sg46 Tryz.f67 an46 = some ir46 := by kernel_rfl
/- 47:slices.Compact[[]int,int]: not read -/
/- 48:slices.Clone[[]string,string]: not read -/
/- 49:slices.BinarySearch[[]int,int] -/
def an49 : Ann := (.s none .z (.s none .z (.s none .z (.s none (.b (.l ⟨2, [(4, .junk), (5, .junk), (7, (.atm (.v 0))), (8, (.atm (.v 1))), (10, .junk), (11, .junk), (12, .junk)], [], 0, []⟩ .z)) .z))))
def ir49p0 : IR :=
 (.op (.bin .lss false) [(.v 3), (.v 4)]
 (.ite (.v 5)
  (.op (.bin .add false) [(.v 3), (.v 4)]
  (.op (.conv .u64) [(.v 6)]
  (.op (.bin .shr false) [(.v 7), (.c (.int .u64 1))]
  (.op (.conv .i64) [(.v 8)]
  (.op (.row 1) [(.v 0), (.v 9)]
  (.call 66 1 false [] [(.v 10), (.v 1)]
  (.ite (.v 11)
   (.op (.bin .add false) [(.v 9), (.c (.int .i64 1))]
   (.jump 0 [(.v 12), (.v 4)]))
  (.jump 0 [(.v 3), (.v 9)]))))))))
 (.op (.bin .lss false) [(.v 3), (.v 2)]
 (.ite (.v 6)
  (.op (.row 1) [(.v 0), (.v 3)]
  (.op (.bin .eql false) [(.v 7), (.v 1)]
  (.ite (.v 8)
   (.ret [(.v 3), (.c (.bool true))])
  (.op (.row 1) [(.v 0), (.v 3)]
  (.call 67 1 false [] [(.v 9)]
  (.ite (.v 10)
   (.call 67 1 false [] [(.v 1)]
   (.ret [(.v 3), (.v 11)]))
  (.ret [(.v 3), (.c (.bool false))])))))))
 (.ret [(.v 3), (.c (.bool false))])))))
def ir49 : IR :=
 (.op .lenL [(.v 0)]
 (.loop 2 [(.c (.int .i64 0)), (.v 2)] ir49p0))
theorem rd49 : readFn T SG sigs 3000 sg49 Tryz.f70 an49 = some ir49 := by kernel_rfl
/- 50:formula.Validate -/
def an50 : Ann := (.s none .z (.s none (.b (.s (some ⟨1, [(0, .junk), (2, .junk), (3, (.atm (.v 0)))], [], 1, []⟩) .z .z)) .z))
def ir50p0 : IR :=
 (.ite (.v 3)
  (.ret [(.c (.int .i64 2))])
 (.call 70 1 false [] [(.v 0), (.v 1), (.v 2)]
 (.op (.un .not) [(.v 4)]
 (.ite (.v 5)
  (.ret [(.c (.int .i64 4))])
 (.call 71 1 false [] [(.v 0), (.v 1), (.v 2)]
 (.op (.un .not) [(.v 6)]
 (.ite (.v 7)
  (.ret [(.c (.int .i64 3))])
 (.ret [(.c (.int .i64 0))]))))))))
def ir50 : IR :=
 (.letj 1
  (.call 68 1 false [] [(.v 0), (.v 1), (.v 2)]
  (.op (.bin .gtr false) [(.v 3), (.c (.int .i64 600))]
  (.ite (.v 4)
   (.jump 0 [(.c (.bool true))])
  (.call 69 1 false [] [(.v 0), (.v 1), (.v 2)]
  (.op (.bin .gtr false) [(.v 5), (.c (.int .i64 20))]
  (.jump 0 [(.v 6)]))))))
 ir50p0)
theorem rd50 : readFn T SG sigs 3000 sg50 Tryz.f71 an50 = some ir50 := by kernel_rfl
/- 51:formula.Atoms: not read -/
/- 52:slices.Contains[[]string,string] -/
def an52 : Ann := .z
def ir52 : IR :=
 (.call 72 1 false [] [(.v 0), (.v 1)]
 (.op (.bin .geq false) [(.v 2), (.c (.int .i64 0))]
 (.ret [(.v 3)])))
theorem rd52 : readFn T SG sigs 3000 sg52 Tryz.f73 an52 = some ir52 := by kernel_rfl
/- 53:world.models -/
def an53 : Ann := (.s none .z (.s none (.s none .z (.b (.s none .z (.c .z (.s none .z (.c .z (.s none .z (.c .z (.s none .z (.c .z (.s none .z (.c .z (.s none .z (.c (.s none .z (.s none (.s none .z (.b (.l ⟨2, [(1, .junk), (3, .junk), (4, .junk), (5, (.atm (.v 0))), (11, .junk), (12, .junk), (13, .junk), (14, .junk), (15, .junk), (16, .junk), (22, .junk), (23, .junk), (31, .junk), (32, .junk), (47, .junk), (48, .junk), (63, .junk), (64, .junk), (65, .junk), (68, (.atm (.v 1)))], [], 1, []⟩ .z))) .z)) .z)))))))))))))) (.s none .z (.s none (.s none .z (.b (.l ⟨2, [(1, .junk), (3, .junk), (4, .junk), (8, (.atm (.v 0))), (11, .junk), (12, .junk), (13, .junk), (14, .junk), (15, .junk), (16, .junk), (22, .junk), (23, .junk), (31, .junk), (32, .junk), (47, .junk), (48, .junk), (63, .junk), (64, .junk), (79, .junk), (82, (.atm (.v 1)))], [], 1, []⟩ .z))) .z))))
def ir53p0 : IR :=
 (.op (.bin .lss false) [(.v 12), (.v 10)]
 (.ite (.v 13)
  (.op (.row 3) [(.v 3), (.v 12)]
  (.call 53 1 false [] [(.v 0), (.v 14), (.v 15), (.v 16)]
  (.op (.bin .and false) [(.v 11), (.v 17)]
  (.op (.bin .add false) [(.v 12), (.c (.int .i64 1))]
  (.jump 0 [(.v 18), (.v 19)])))))
 (.ret [(.v 11)])))
def ir53p1 : IR :=
 (.op (.bin .lss false) [(.v 12), (.v 10)]
 (.ite (.v 13)
  (.op (.row 3) [(.v 3), (.v 12)]
  (.call 53 1 false [] [(.v 0), (.v 14), (.v 15), (.v 16)]
  (.op (.bin .or false) [(.v 11), (.v 17)]
  (.op (.bin .add false) [(.v 12), (.c (.int .i64 1))]
  (.jump 0 [(.v 18), (.v 19)])))))
 (.ret [(.v 11)])))
def ir53 : IR :=
 (.op (.bin .eql false) [(.v 1), (.c (.int .i64 1))]
 (.ite (.v 4)
  (.ret [(.c (.int .u64 18446744073709551615))])
 (.op (.bin .eql false) [(.v 1), (.c (.int .i64 3))]
 (.ite (.v 5)
  (.call 72 1 false [] [(.v 0), (.v 2)]
  (.call 73 1 false [] [(.v 6)]
  (.ret [(.v 7)])))
 (.op (.bin .eql false) [(.v 1), (.c (.int .i64 4))]
 (.ite (.v 6)
  (.op (.row 3) [(.v 3), (.c (.int .i64 0))]
  (.call 53 1 false [] [(.v 0), (.v 7), (.v 8), (.v 9)]
  (.op (.un .xor) [(.v 10)]
  (.ret [(.v 11)]))))
 (.op (.bin .eql false) [(.v 1), (.c (.int .i64 7))]
 (.ite (.v 7)
  (.op (.row 3) [(.v 3), (.c (.int .i64 0))]
  (.call 53 1 false [] [(.v 0), (.v 8), (.v 9), (.v 10)]
  (.op (.un .xor) [(.v 11)]
  (.op (.row 3) [(.v 3), (.c (.int .i64 1))]
  (.call 53 1 false [] [(.v 0), (.v 13), (.v 14), (.v 15)]
  (.op (.bin .or false) [(.v 12), (.v 16)]
  (.ret [(.v 17)])))))))
 (.op (.bin .eql false) [(.v 1), (.c (.int .i64 8))]
 (.ite (.v 8)
  (.op (.row 3) [(.v 3), (.c (.int .i64 0))]
  (.call 53 1 false [] [(.v 0), (.v 9), (.v 10), (.v 11)]
  (.op (.row 3) [(.v 3), (.c (.int .i64 1))]
  (.call 53 1 false [] [(.v 0), (.v 13), (.v 14), (.v 15)]
  (.op (.bin .xor false) [(.v 12), (.v 16)]
  (.op (.un .xor) [(.v 17)]
  (.ret [(.v 18)])))))))
 (.op (.bin .eql false) [(.v 1), (.c (.int .i64 5))]
 (.ite (.v 9)
  (.op .lenL [(.v 3)]
  (.loop 2 [(.c (.int .u64 18446744073709551615)), (.c (.int .i64 0))] ir53p0))
 (.op .lenL [(.v 3)]
 (.loop 2 [(.c (.int .u64 0)), (.c (.int .i64 0))] ir53p1))))))))))))))
theorem rd53 : readFn T SG sigs 3000 sg53 Tryz.f74 an53 = some ir53 := by kernel_rfl
/- 54:world.All -/
def an54 : Ann := .z
def ir54 : IR :=
 (.call 36 1 false [] [(.v 0)]
 (.op (.un .not) [(.v 1)]
 (.ite (.v 2)
  (.ret [(.c (.int .u64 0))])
 (.op .lenL [(.v 0)]
 (.call 74 1 false [] [(.v 3)]
 (.ret [(.v 4)]))))))
theorem rd54 : readFn T SG sigs 3000 sg54 Tryz.f75 an54 = some ir54 := by kernel_rfl
/- 55:deliberationref02.Validate -/
def an55 : Ann := (.s none .z (.s none (.s (some ⟨1, [(0, .junk), (2, .junk), (10, (.atm (.v 0)))], [], 1, []⟩) .z .z) .z))
def ir55p0 : IR :=
 (.ite (.v 3)
  (.ret [(.c (.int .i64 2))])
 (.call 77 1 false [] [(.v 0), (.v 1), (.v 2)]
 (.op (.un .not) [(.v 4)]
 (.ite (.v 5)
  (.ret [(.c (.int .i64 4))])
 (.call 78 1 false [] [(.v 0), (.v 1), (.v 2)]
 (.op (.un .not) [(.v 6)]
 (.ite (.v 7)
  (.ret [(.c (.int .i64 3))])
 (.ret [(.c (.int .i64 0))]))))))))
def ir55 : IR :=
 (.letj 1
  (.call 75 1 false [] [(.v 0), (.v 1), (.v 2)]
  (.op (.bin .gtr false) [(.v 3), (.c (.int .i64 600))]
  (.ite (.v 4)
   (.jump 0 [(.c (.bool true))])
  (.call 76 1 false [] [(.v 0), (.v 1), (.v 2)]
  (.op (.bin .gtr false) [(.v 5), (.c (.int .i64 20))]
  (.jump 0 [(.v 6)]))))))
 ir55p0)
theorem rd55 : readFn T SG sigs 3000 sg55 Tryz.f76 an55 = some ir55 := by kernel_rfl
/- 56:deliberationref02.Atoms -/
def an56 : Ann := .z
def ir56 : IR :=
 (.call 79 1 false [] [(.c (.sl [])), (.v 0), (.v 1), (.v 2)]
 (.ret [(.v 3)]))
theorem rd56 : readFn T SG sigs 3000 sg56 Tryz.f77 an56 = some ir56 := by kernel_rfl
/- 57:deliberationref03.index -/
def an57 : Ann := (.s none .z (.s none (.s none .z (.b (.l ⟨1, [(4, .junk), (5, (.atm (.v 0)))], [], 0, []⟩ .z))) .z))
def ir57p0 : IR :=
 (.op .lenL [(.v 0)]
 (.op (.bin .lss false) [(.v 2), (.v 3)]
 (.ite (.v 4)
  (.op (.row 1) [(.v 0), (.v 2)]
  (.op (.bin .eql false) [(.v 5), (.v 1)]
  (.ite (.v 6)
   (.ret [(.v 2)])
  (.op (.bin .add false) [(.v 2), (.c (.int .i64 1))]
  (.jump 0 [(.v 7)])))))
 (.ret [(.c (.int .i64 (-1)))]))))
def ir57 : IR :=
 (.loop 1 [(.c (.int .i64 0))] ir57p0)
theorem rd57 : readFn T SG sigs 3000 sg57 Tryz.f78 an57 = some ir57 := by kernel_rfl
/- 58:deliberationref03.count -/
def an58 : Ann := .z
def ir58 : IR :=
 (.op .lenL [(.v 0)]
 (.op (.conv .u64) [(.v 1)]
 (.op (.bin .shl false) [(.c (.int .i64 1)), (.v 2)]
 (.ret [(.v 3)]))))
theorem rd58 : readFn T SG sigs 3000 sg58 Tryz.f79 an58 = some ir58 := by kernel_rfl
/- 59:deliberationref03.Yes -/
def an59 : Ann := (.s none .z (.s none .z (.s none (.s none .z (.b (.l ⟨2, [(4, .junk), (6, (.atm (.v 0)))], [(0, ⟨false, true, 9, 1, (.v 1), []⟩)], 1, [⟨none, 5, 9, 1⟩]⟩ (.s none .z (.s (some ⟨1, [(7, .junk), (8, .junk), (9, .junk), (10, .junk)], [(0, ⟨false, true, 9, 1, (.v 0), []⟩)], 1, []⟩) .z .z))))) .z)))
def ir59p0 : IR :=
 (.op (.bin .add false) [(.v 2), (.c (.int .i64 1))]
 (.jump 0 [(.v 7), (.v 6)]))
def ir59p1 : IR :=
 (.op .lenL [(.v 0)]
 (.op (.bin .lss false) [(.v 2), (.v 4)]
 (.ite (.v 5)
  (.letj 1
   (.op (.conv .u64) [(.v 2)]
   (.op (.bin .shr false) [(.v 1), (.v 6)]
   (.op (.bin .and false) [(.v 7), (.c (.int .i64 1))]
   (.op (.bin .eql false) [(.v 8), (.c (.int .i64 1))]
   (.ite (.v 9)
    (.op (.row 1) [(.v 0), (.v 2)]
    (.op (.mk 1 1) [(.v 10)]
    (.op (.app 1 16) [(.v 3), (.v 11)]
    (.jump 1 [(.v 12)]))))
   (.jump 1 [(.v 3)]))))))
  ir59p0)
 (.ret [(.v 3)]))))
def ir59 : IR :=
 (.loop 2 [(.c (.int .i64 0)), (.c (.sl []))] ir59p1)
theorem rd59 : readFn T SG sigs 3000 sg59 Tryz.f81 an59 = some ir59 := by kernel_rfl
/- 60:deliberationref02.Eval -/
def an60 : Ann := .z
def ir60 : IR :=
 (.call 77 1 false [] [(.v 0), (.v 1), (.v 2)]
 (.ite (.v 4)
  (.call 78 1 false [] [(.v 0), (.v 1), (.v 2)]
  (.ite (.v 5)
   (.call 80 1 false [] [(.v 0), (.v 1), (.v 2), (.v 3)]
   (.ret [(.v 6)]))
  (.ret [(.c (.bool false))])))
 (.ret [(.c (.bool false))])))
theorem rd60 : readFn T SG sigs 3000 sg60 Tryz.f80 an60 = some ir60 := by kernel_rfl
/- 61:literal.ValidName -/
def an61 : Ann := (.s none .z (.s none (.s (some ⟨1, [(2, .junk), (12, (.atm (.v 0)))], [], 0, []⟩) .z .z) (.s none (.s none .z (.b (.l ⟨1, [(12, .junk), (13, .junk), (15, (.atm (.v 0)))], [], 0, []⟩ (.s none .z (.s none .z (.s (some ⟨0, [(16, .junk)], [], 0, []⟩) (.b (.s none .z (.s none .z (.b (.s (some ⟨1, [(16, .junk), (17, .junk), (18, .junk), (19, .junk), (20, .junk), (21, (.atm (.v 0)))], [], 0, []⟩) .z (.c .z (.s (some ⟨1, [(3, .junk), (4, .junk), (21, .junk), (28, (.atm (.v 0)))], [], 0, []⟩) .z .z))))))) .z)))))) .z)))
def ir61p0 : IR :=
 (.op (.bin .add false) [(.v 3), (.c (.int .i64 1))]
 (.jump 0 [(.v 5)]))
def ir61p1 : IR :=
 (.ite (.v 7)
  (.jump 1 [])
 (.ret [(.c (.bool false))]))
def ir61p2 : IR :=
 (.ite (.v 6)
  (.jump 1 [])
 (.letj 1
  (.op (.bin .gtr false) [(.v 3), (.c (.int .i64 0))]
  (.ite (.v 7)
   (.op (.bin .geq false) [(.v 5), (.c (.int .u8 48))]
   (.ite (.v 8)
    (.op (.bin .leq false) [(.v 5), (.c (.int .u8 57))]
    (.ite (.v 9)
     (.jump 2 [(.c (.bool true))])
    (.op (.bin .eql false) [(.v 5), (.c (.int .u8 95))]
    (.jump 2 [(.v 10)]))))
   (.op (.bin .eql false) [(.v 5), (.c (.int .u8 95))]
   (.jump 2 [(.v 9)]))))
  (.jump 2 [(.c (.bool false))])))
 ir61p1))
def ir61p3 : IR :=
 (.op (.bin .lss false) [(.v 3), (.v 2)]
 (.ite (.v 4)
  (.letj 0
   (.op .idxS [(.v 0), (.v 3)]
   (.letj 1
    (.op (.bin .geq false) [(.v 5), (.c (.int .u8 97))]
    (.ite (.v 6)
     (.op (.bin .leq false) [(.v 5), (.c (.int .u8 122))]
     (.jump 2 [(.v 7)]))
    (.jump 2 [(.c (.bool false))])))
   ir61p2))
  ir61p0)
 (.ret [(.c (.bool true))])))
def ir61p4 : IR :=
 (.ite (.v 1)
  (.ret [(.c (.bool false))])
 (.op .lenS [(.v 0)]
 (.loop 1 [(.c (.int .i64 0))] ir61p3)))
def ir61 : IR :=
 (.letj 1
  (.op .lenS [(.v 0)]
  (.op (.bin .eql false) [(.v 1), (.c (.int .i64 0))]
  (.ite (.v 2)
   (.jump 0 [(.c (.bool true))])
  (.op .lenS [(.v 0)]
  (.op (.bin .gtr false) [(.v 3), (.c (.int .i64 12))]
  (.jump 0 [(.v 4)]))))))
 ir61p4)
theorem rd61 : readFn T SG sigs 3000 sg61 Tryz.f82 an61 = some ir61 := by kernel_rfl
/- 62:slices.Index[[]bool,bool] -/
def an62 : Ann := (.s none .z (.s none (.s none .z (.b (.l ⟨1, [(4, .junk), (6, .junk), (8, (.atm (.v 0)))], [], 0, []⟩ .z))) .z))
def ir62p0 : IR :=
 (.op (.bin .lss false) [(.v 3), (.v 2)]
 (.ite (.v 4)
  (.op (.row 1) [(.v 0), (.v 3)]
  (.op (.bin .eql true) [(.v 1), (.v 5)]
  (.ite (.v 6)
   (.ret [(.v 3)])
  (.op (.bin .add false) [(.v 3), (.c (.int .i64 1))]
  (.jump 0 [(.v 7)])))))
 (.ret [(.c (.int .i64 (-1)))])))
def ir62 : IR :=
 (.op .lenL [(.v 0)]
 (.loop 1 [(.c (.int .i64 0))] ir62p0))
theorem rd62 : readFn T SG sigs 3000 sg62 Tryz.f83 an62 = some ir62 := by kernel_rfl
/- 63:deliberationref01.ValidName -/
def an63 : Ann := (.s none .z (.s none (.s (some ⟨1, [(2, .junk), (21, (.atm (.v 0)))], [], 0, []⟩) .z .z) (.s none (.s none .z (.b (.l ⟨1, [(3, (.atm (.v 0))), (21, .junk)], [], 0, []⟩ (.s none .z (.s none (.b (.s (some ⟨1, [(22, .junk), (23, .junk), (24, .junk), (25, .junk), (55, (.atm (.v 0)))], [], 0, []⟩) .z .z)) .z))))) .z)))
def ir63p0 : IR :=
 (.ite (.v 5)
  (.ret [(.c (.bool false))])
 (.op (.bin .add false) [(.v 2), (.c (.int .i64 1))]
 (.jump 0 [(.v 6)])))
def ir63p1 : IR :=
 (.op .lenS [(.v 0)]
 (.op (.bin .lss false) [(.v 2), (.v 3)]
 (.ite (.v 4)
  (.letj 1
   (.op .idxS [(.v 0), (.v 2)]
   (.op (.bin .lss false) [(.v 5), (.c (.int .u8 97))]
   (.ite (.v 6)
    (.op .idxS [(.v 0), (.v 2)]
    (.op (.bin .lss false) [(.v 7), (.c (.int .u8 48))]
    (.ite (.v 8)
     (.op .idxS [(.v 0), (.v 2)]
     (.op (.bin .neq false) [(.v 9), (.c (.int .u8 95))]
     (.jump 1 [(.v 10)])))
    (.op .idxS [(.v 0), (.v 2)]
    (.op (.bin .gtr false) [(.v 9), (.c (.int .u8 57))]
    (.ite (.v 10)
     (.op .idxS [(.v 0), (.v 2)]
     (.op (.bin .neq false) [(.v 11), (.c (.int .u8 95))]
     (.jump 1 [(.v 12)])))
    (.jump 1 [(.c (.bool false))])))))))
   (.op .idxS [(.v 0), (.v 2)]
   (.op (.bin .gtr false) [(.v 7), (.c (.int .u8 122))]
   (.ite (.v 8)
    (.op .idxS [(.v 0), (.v 2)]
    (.op (.bin .lss false) [(.v 9), (.c (.int .u8 48))]
    (.ite (.v 10)
     (.op .idxS [(.v 0), (.v 2)]
     (.op (.bin .neq false) [(.v 11), (.c (.int .u8 95))]
     (.jump 1 [(.v 12)])))
    (.op .idxS [(.v 0), (.v 2)]
    (.op (.bin .gtr false) [(.v 11), (.c (.int .u8 57))]
    (.ite (.v 12)
     (.op .idxS [(.v 0), (.v 2)]
     (.op (.bin .neq false) [(.v 13), (.c (.int .u8 95))]
     (.jump 1 [(.v 14)])))
    (.jump 1 [(.c (.bool false))])))))))
   (.jump 1 [(.c (.bool false))])))))))
  ir63p0)
 (.ret [(.c (.bool true))]))))
def ir63p2 : IR :=
 (.ite (.v 1)
  (.ret [(.c (.bool false))])
 (.loop 1 [(.c (.int .i64 0))] ir63p1))
def ir63 : IR :=
 (.letj 1
  (.op .lenS [(.v 0)]
  (.op (.bin .lss false) [(.v 1), (.c (.int .i64 1))]
  (.ite (.v 2)
   (.jump 0 [(.c (.bool true))])
  (.op .lenS [(.v 0)]
  (.op (.bin .gtr false) [(.v 3), (.c (.int .i64 12))]
  (.ite (.v 4)
   (.jump 0 [(.c (.bool true))])
  (.op .idxS [(.v 0), (.c (.int .i64 0))]
  (.op (.bin .lss false) [(.v 5), (.c (.int .u8 97))]
  (.ite (.v 6)
   (.jump 0 [(.c (.bool true))])
  (.op .idxS [(.v 0), (.c (.int .i64 0))]
  (.op (.bin .gtr false) [(.v 7), (.c (.int .u8 122))]
  (.jump 0 [(.v 8)]))))))))))))
 ir63p2)
theorem rd63 : readFn T SG sigs 3000 sg63 Tryz.f84 an63 = some ir63 := by kernel_rfl
/- 64:slices.Collect[int]: not read -/
/- 65:slices.Sort[[]int,int]: not read -/
/- 66:cmp.Less[int] -/
def an66 : Ann := .z
def ir66 : IR :=
 (.call 81 1 false [] [(.v 0)]
 (.ite (.v 2)
  (.call 81 1 false [] [(.v 1)]
  (.op (.un .not) [(.v 3)]
  (.ite (.v 4)
   (.ret [(.c (.bool true))])
  (.op (.bin .lss false) [(.v 0), (.v 1)]
  (.ret [(.v 5)])))))
 (.op (.bin .lss false) [(.v 0), (.v 1)]
 (.ret [(.v 3)]))))
theorem rd66 : readFn T SG sigs 3000 sg66 Tryz.f90 an66 = some ir66 := by kernel_rfl
/- 67:slices.isNaN[int] -/
def an67 : Ann := .z
def ir67 : IR :=
 (.op (.bin .neq false) [(.v 0), (.v 0)]
 (.ret [(.v 1)]))
theorem rd67 : readFn T SG sigs 3000 sg67 Tryz.f91 an67 = some ir67 := by kernel_rfl
/- 68:formula.Size -/
def an68 : Ann := (.s none .z (.s none .z (.s none (.s none .z (.b (.l ⟨2, [(0, .junk), (1, .junk), (2, .junk), (3, (.atm (.v 0))), (6, .junk), (9, (.atm (.v 1)))], [], 1, []⟩ .z))) .z)))
def ir68p0 : IR :=
 (.op (.bin .lss false) [(.v 5), (.v 3)]
 (.ite (.v 6)
  (.op (.row 3) [(.v 2), (.v 5)]
  (.call 68 1 false [] [(.v 7), (.v 8), (.v 9)]
  (.op (.bin .add false) [(.v 4), (.v 10)]
  (.op (.bin .add false) [(.v 5), (.c (.int .i64 1))]
  (.jump 0 [(.v 11), (.v 12)])))))
 (.ret [(.v 4)])))
def ir68 : IR :=
 (.op .lenL [(.v 2)]
 (.loop 2 [(.c (.int .i64 1)), (.c (.int .i64 0))] ir68p0))
theorem rd68 : readFn T SG sigs 3000 sg68 Tryz.f92 an68 = some ir68 := by kernel_rfl
/- 69:formula.Depth -/
def an69 : Ann := (.s none .z (.s none .z (.s none (.s none .z (.b (.l ⟨2, [(0, .junk), (1, .junk), (2, .junk), (3, (.atm (.v 0))), (6, .junk), (9, (.atm (.v 1)))], [], 1, []⟩ .z))) .z)))
def ir69p0 : IR :=
 (.op (.bin .lss false) [(.v 5), (.v 3)]
 (.ite (.v 6)
  (.op (.row 3) [(.v 2), (.v 5)]
  (.call 69 1 false [] [(.v 7), (.v 8), (.v 9)]
  (.op (.bin .add false) [(.c (.int .i64 1)), (.v 10)]
  (.op .max [(.v 4), (.v 11)]
  (.op (.bin .add false) [(.v 5), (.c (.int .i64 1))]
  (.jump 0 [(.v 12), (.v 13)]))))))
 (.ret [(.v 4)])))
def ir69 : IR :=
 (.op .lenL [(.v 2)]
 (.loop 2 [(.c (.int .i64 0)), (.c (.int .i64 0))] ir69p0))
theorem rd69 : readFn T SG sigs 3000 sg69 Tryz.f93 an69 = some ir69 := by kernel_rfl
/- 70:formula.all -/
def an70 : Ann := (.s none .z (.s none .z (.s none (.s none .z (.b (.l ⟨1, [(0, .junk), (2, .junk), (4, .junk), (7, .junk), (8, .junk), (9, .junk), (10, .junk), (11, .junk), (14, (.atm (.v 0)))], [], 1, []⟩ .z))) .z)))
def ir70p0 : IR :=
 (.op (.bin .lss false) [(.v 6), (.v 5)]
 (.ite (.v 7)
  (.op (.row 3) [(.v 2), (.v 6)]
  (.call 70 1 false [] [(.v 8), (.v 9), (.v 10)]
  (.op (.un .not) [(.v 11)]
  (.ite (.v 12)
   (.ret [(.c (.bool false))])
  (.op (.bin .add false) [(.v 6), (.c (.int .i64 1))]
  (.jump 0 [(.v 13)]))))))
 (.ret [(.c (.bool true))])))
def ir70 : IR :=
 (.call 82 1 false [] [(.v 0), (.v 1), (.v 2)]
 (.op (.un .not) [(.v 3)]
 (.ite (.v 4)
  (.ret [(.c (.bool false))])
 (.op .lenL [(.v 2)]
 (.loop 1 [(.c (.int .i64 0))] ir70p0)))))
theorem rd70 : readFn T SG sigs 3000 sg70 Tryz.f94 an70 = some ir70 := by kernel_rfl
/- 71:formula.all -/
def an71 : Ann := (.s none .z (.s none .z (.s none (.s none .z (.b (.l ⟨1, [(0, .junk), (2, .junk), (4, .junk), (7, .junk), (8, .junk), (9, .junk), (10, .junk), (11, .junk), (14, (.atm (.v 0)))], [], 1, []⟩ .z))) .z)))
def ir71p0 : IR :=
 (.op (.bin .lss false) [(.v 6), (.v 5)]
 (.ite (.v 7)
  (.op (.row 3) [(.v 2), (.v 6)]
  (.call 71 1 false [] [(.v 8), (.v 9), (.v 10)]
  (.op (.un .not) [(.v 11)]
  (.ite (.v 12)
   (.ret [(.c (.bool false))])
  (.op (.bin .add false) [(.v 6), (.c (.int .i64 1))]
  (.jump 0 [(.v 13)]))))))
 (.ret [(.c (.bool true))])))
def ir71 : IR :=
 (.call 83 1 false [] [(.v 0), (.v 1), (.v 2)]
 (.op (.un .not) [(.v 3)]
 (.ite (.v 4)
  (.ret [(.c (.bool false))])
 (.op .lenL [(.v 2)]
 (.loop 1 [(.c (.int .i64 0))] ir71p0)))))
theorem rd71 : readFn T SG sigs 3000 sg71 Tryz.f94 an71 = some ir71 := by kernel_rfl
/- 72:slices.Index[[]string,string] -/
def an72 : Ann := (.s none .z (.s none (.s none .z (.b (.l ⟨1, [(4, .junk), (6, .junk), (8, (.atm (.v 0)))], [], 0, []⟩ .z))) .z))
def ir72p0 : IR :=
 (.op (.bin .lss false) [(.v 3), (.v 2)]
 (.ite (.v 4)
  (.op (.row 1) [(.v 0), (.v 3)]
  (.op (.bin .eql false) [(.v 1), (.v 5)]
  (.ite (.v 6)
   (.ret [(.v 3)])
  (.op (.bin .add false) [(.v 3), (.c (.int .i64 1))]
  (.jump 0 [(.v 7)])))))
 (.ret [(.c (.int .i64 (-1)))])))
def ir72 : IR :=
 (.op .lenL [(.v 0)]
 (.loop 1 [(.c (.int .i64 0))] ir72p0))
theorem rd72 : readFn T SG sigs 3000 sg72 Tryz.f100 an72 = some ir72 := by kernel_rfl
/- 73:world.true_ -/
def an73 : Ann := (.s none .z (.s none .z (.s none (.s none .z (.b (.l ⟨2, [(2, .junk), (3, (.atm (.v 0))), (5, (.atm (.v 1)))], [], 0, []⟩ .z))) .z)))
def ir73p0 : IR :=
 (.op (.bin .lss false) [(.v 2), (.c (.int .i64 64))]
 (.ite (.v 3)
  (.op (.bin .shr false) [(.v 2), (.v 0)]
  (.op (.bin .and false) [(.v 4), (.c (.int .i64 1))]
  (.op (.conv .u64) [(.v 5)]
  (.op (.bin .shl false) [(.v 6), (.v 2)]
  (.op (.bin .or false) [(.v 1), (.v 7)]
  (.op (.bin .add false) [(.v 2), (.c (.int .i64 1))]
  (.jump 0 [(.v 8), (.v 9)])))))))
 (.ret [(.v 1)])))
def ir73 : IR :=
 (.loop 2 [(.c (.int .u64 0)), (.c (.int .i64 0))] ir73p0)
theorem rd73 : readFn T SG sigs 3000 sg73 Tryz.f101 an73 = some ir73 := by kernel_rfl
/- 74:world.whole -/
def an74 : Ann := .z
def ir74 : IR :=
 (.op (.bin .shl false) [(.c (.int .u64 1)), (.v 0)]
 (.op (.bin .sub false) [(.c (.int .u64 64)), (.v 1)]
 (.op (.bin .shr false) [(.c (.int .u64 18446744073709551615)), (.v 2)]
 (.ret [(.v 3)]))))
theorem rd74 : readFn T SG sigs 3000 sg74 Tryz.f102 an74 = some ir74 := by kernel_rfl
/- 75:deliberationref02.Size -/
def an75 : Ann := (.s none .z (.s none .z (.s none (.s none .z (.b (.l ⟨2, [(0, .junk), (2, .junk), (3, (.atm (.v 0))), (4, (.atm (.v 1)))], [], 1, []⟩ .z))) .z)))
def ir75p0 : IR :=
 (.op .lenL [(.v 2)]
 (.op (.bin .lss false) [(.v 4), (.v 5)]
 (.ite (.v 6)
  (.op (.row 3) [(.v 2), (.v 4)]
  (.call 75 1 false [] [(.v 7), (.v 8), (.v 9)]
  (.op (.bin .add false) [(.v 3), (.v 10)]
  (.op (.bin .add false) [(.v 4), (.c (.int .i64 1))]
  (.jump 0 [(.v 11), (.v 12)])))))
 (.ret [(.v 3)]))))
def ir75 : IR :=
 (.loop 2 [(.c (.int .i64 1)), (.c (.int .i64 0))] ir75p0)
theorem rd75 : readFn T SG sigs 3000 sg75 Tryz.f103 an75 = some ir75 := by kernel_rfl
/- 76:deliberationref02.Depth -/
def an76 : Ann := (.s none .z (.s none .z (.s none (.s none .z (.b (.l ⟨2, [(0, .junk), (2, .junk), (3, (.atm (.v 0))), (4, (.atm (.v 1)))], [], 1, []⟩ .z))) .z)))
def ir76p0 : IR :=
 (.op .lenL [(.v 2)]
 (.op (.bin .lss false) [(.v 4), (.v 5)]
 (.ite (.v 6)
  (.op (.row 3) [(.v 2), (.v 4)]
  (.call 76 1 false [] [(.v 7), (.v 8), (.v 9)]
  (.op (.bin .add false) [(.c (.int .i64 1)), (.v 10)]
  (.op .max [(.v 3), (.v 11)]
  (.op (.bin .add false) [(.v 4), (.c (.int .i64 1))]
  (.jump 0 [(.v 12), (.v 13)]))))))
 (.ret [(.v 3)]))))
def ir76 : IR :=
 (.loop 2 [(.c (.int .i64 0)), (.c (.int .i64 0))] ir76p0)
theorem rd76 : readFn T SG sigs 3000 sg76 Tryz.f104 an76 = some ir76 := by kernel_rfl
/- 77:deliberationref02.kinds -/
def an77 : Ann := (.s none .z (.s none .z (.s none .z (.s (some ⟨1, [(0, .junk), (2, .junk), (4, (.atm (.v 0))), (6, .junk), (7, .junk), (8, .junk)], [], 1, []⟩) (.s none .z (.b (.s (some ⟨1, [(0, .junk), (2, .junk), (6, .junk), (7, .junk), (8, .junk), (9, .junk), (11, (.atm (.v 0)))], [], 1, []⟩) .z (.c .z (.s none .z (.c .z (.s (some ⟨1, [(11, .junk), (17, .junk), (18, .junk), (21, (.atm (.v 0)))], [], 1, []⟩) .z (.c .z (.s (some ⟨1, [(10, .junk), (21, .junk), (30, (.atm (.v 0)))], [], 1, []⟩) .z .z))))))))) (.s none (.s none .z (.b (.l ⟨2, [(4, (.atm (.v 0))), (5, (.atm (.v 1)))], [], 1, []⟩ (.s none .z (.s (some ⟨1, [(4, (.atm (.v 0))), (35, .junk), (36, .junk), (37, .junk)], [], 1, []⟩) .z .z))))) .z)))))
def ir77p0 : IR :=
 (.op (.bin .add false) [(.v 6), (.c (.int .i64 1))]
 (.jump 0 [(.v 8), (.v 9)]))
def ir77p1 : IR :=
 (.op (.bin .lss false) [(.v 6), (.v 3)]
 (.ite (.v 7)
  (.letj 1
   (.ite (.v 5)
    (.op (.row 3) [(.v 2), (.v 6)]
    (.call 77 1 false [] [(.v 8), (.v 9), (.v 10)]
    (.jump 1 [(.v 11)])))
   (.jump 1 [(.c (.bool false))]))
  ir77p0)
 (.ret [(.v 5)])))
def ir77p2 : IR :=
 (.loop 2 [(.v 4), (.c (.int .i64 0))] ir77p1)
def ir77p3 : IR :=
 (.ite (.v 7)
  (.op (.bin .eql false) [(.v 3), (.c (.int .i64 2))]
  (.jump 0 [(.v 8)]))
 (.jump 0 [(.c (.bool false))]))
def ir77p4 : IR :=
 (.ite (.v 6)
  (.op (.bin .geq false) [(.v 3), (.c (.int .i64 2))]
  (.ite (.v 7)
   (.op (.bin .leq false) [(.v 3), (.c (.int .i64 6))]
   (.jump 0 [(.v 8)]))
  (.jump 0 [(.c (.bool false))])))
 (.letj 1
  (.op (.bin .eql false) [(.v 0), (.c (.int .i64 7))]
  (.ite (.v 7)
   (.jump 1 [(.c (.bool true))])
  (.op (.bin .eql false) [(.v 0), (.c (.int .i64 8))]
  (.jump 1 [(.v 8)]))))
 ir77p3))
def ir77p5 : IR :=
 (.ite (.v 4)
  (.op (.bin .eql false) [(.v 3), (.c (.int .i64 0))]
  (.jump 0 [(.v 5)]))
 (.op (.bin .eql false) [(.v 0), (.c (.int .i64 4))]
 (.ite (.v 5)
  (.op (.bin .eql false) [(.v 3), (.c (.int .i64 1))]
  (.jump 0 [(.v 6)]))
 (.letj 1
  (.op (.bin .eql false) [(.v 0), (.c (.int .i64 5))]
  (.ite (.v 6)
   (.jump 1 [(.c (.bool true))])
  (.op (.bin .eql false) [(.v 0), (.c (.int .i64 6))]
  (.jump 1 [(.v 7)]))))
 ir77p4))))
def ir77 : IR :=
 (.op .lenL [(.v 2)]
 (.letj 1
  (.letj 1
   (.op (.bin .eql false) [(.v 0), (.c (.int .i64 1))]
   (.ite (.v 4)
    (.jump 1 [(.c (.bool true))])
   (.op (.bin .eql false) [(.v 0), (.c (.int .i64 2))]
   (.ite (.v 5)
    (.jump 1 [(.c (.bool true))])
   (.op (.bin .eql false) [(.v 0), (.c (.int .i64 3))]
   (.jump 1 [(.v 6)]))))))
  ir77p5)
 ir77p2))
theorem rd77 : readFn T SG sigs 3000 sg77 Tryz.f105 an77 = some ir77 := by kernel_rfl
/- 78:deliberationref02.names -/
def an78 : Ann := (.s none .z (.s none .z (.s (some ⟨1, [(0, .junk), (2, .junk), (3, (.atm (.v 0))), (5, .junk), (6, .junk), (7, .junk)], [], 1, []⟩) .z (.s none (.s none .z (.b (.l ⟨2, [(3, (.atm (.v 0))), (4, (.atm (.v 1)))], [], 1, []⟩ (.s none .z (.s (some ⟨1, [(3, (.atm (.v 0))), (14, .junk), (15, .junk), (16, .junk), (17, .junk), (18, .junk)], [], 1, []⟩) .z .z))))) .z))))
def ir78p0 : IR :=
 (.op (.bin .add false) [(.v 6), (.c (.int .i64 1))]
 (.jump 0 [(.v 9), (.v 10)]))
def ir78p1 : IR :=
 (.op .lenL [(.v 2)]
 (.op (.bin .lss false) [(.v 6), (.v 7)]
 (.ite (.v 8)
  (.letj 1
   (.ite (.v 5)
    (.op (.row 3) [(.v 2), (.v 6)]
    (.call 78 1 false [] [(.v 9), (.v 10), (.v 11)]
    (.jump 1 [(.v 12)])))
   (.jump 1 [(.c (.bool false))]))
  ir78p0)
 (.ret [(.v 5)]))))
def ir78p2 : IR :=
 (.loop 2 [(.v 4), (.c (.int .i64 0))] ir78p1)
def ir78 : IR :=
 (.op (.bin .eql false) [(.v 1), (.c (.str []))]
 (.letj 1
  (.op (.bin .eql false) [(.v 0), (.c (.int .i64 3))]
  (.ite (.v 4)
   (.call 63 1 false [] [(.v 1)]
   (.jump 0 [(.v 5)]))
  (.jump 0 [(.v 3)])))
 ir78p2))
theorem rd78 : readFn T SG sigs 3000 sg78 Tryz.f106 an78 = some ir78 := by kernel_rfl
/- 79:deliberationref02.collect -/
def an79 : Ann := (.s none .z (.s (some ⟨1, [(0, (.atm (.v 0))), (1, .junk), (4, .junk)], [], 1, []⟩) (.s (some ⟨1, [(1, .junk), (4, .junk), (14, (.atm (.v 0)))], [], 1, []⟩) .z .z) (.s none (.s none .z (.b (.l ⟨2, [(0, (.atm (.v 0))), (5, (.atm (.v 1)))], [], 1, []⟩ .z))) .z)))
def ir79p0 : IR :=
 (.op .lenL [(.v 3)]
 (.op (.bin .lss false) [(.v 6), (.v 7)]
 (.ite (.v 8)
  (.op (.row 3) [(.v 3), (.v 6)]
  (.call 79 1 false [] [(.v 5), (.v 9), (.v 10), (.v 11)]
  (.op (.bin .add false) [(.v 6), (.c (.int .i64 1))]
  (.jump 0 [(.v 12), (.v 13)]))))
 (.ret [(.v 5)]))))
def ir79p1 : IR :=
 (.loop 2 [(.v 4), (.c (.int .i64 0))] ir79p0)
def ir79p2 : IR :=
 (.ite (.v 4)
  (.call 84 1 false [] [(.v 0), (.v 2)]
  (.jump 0 [(.v 5)]))
 (.jump 0 [(.v 0)]))
def ir79 : IR :=
 (.letj 1
  (.letj 1
   (.op (.bin .eql false) [(.v 1), (.c (.int .i64 3))]
   (.ite (.v 4)
    (.op .lenL [(.v 3)]
    (.op (.bin .eql false) [(.v 5), (.c (.int .i64 0))]
    (.jump 1 [(.v 6)])))
   (.jump 1 [(.c (.bool false))])))
  ir79p2)
 ir79p1)
theorem rd79 : readFn T SG sigs 3000 sg79 Tryz.f107 an79 = some ir79 := by kernel_rfl
/- 80:deliberationref02.value -/
def an80 : Ann := (.s none .z (.s none (.s none .z (.b (.s none .z (.c .z (.s none .z (.c (.s none (.s none .z (.b (.l ⟨1, [(0, .junk), (4, .junk), (5, (.atm (.v 0))), (8, .junk), (9, .junk), (10, .junk), (11, .junk), (12, .junk), (13, .junk)], [], 1, []⟩ .z))) .z) (.s none .z (.c .z (.s none .z (.c (.s none (.s none .z (.b (.l ⟨1, [(0, .junk), (4, .junk), (6, (.atm (.v 0))), (8, .junk), (9, .junk), (10, .junk), (11, .junk), (12, .junk), (13, .junk), (27, .junk), (28, .junk), (36, .junk), (37, .junk)], [], 1, []⟩ .z))) .z) (.s none .z (.c (.s none (.s none .z (.b (.l ⟨1, [(0, .junk), (4, .junk), (7, (.atm (.v 0))), (8, .junk), (9, .junk), (10, .junk), (11, .junk), (12, .junk), (13, .junk), (27, .junk), (28, .junk), (36, .junk), (37, .junk), (53, .junk), (54, .junk)], [], 1, []⟩ .z))) .z) .z)))))))))))) .z))
def ir80p0 : IR :=
 (.op .lenL [(.v 3)]
 (.op (.bin .lss false) [(.v 6), (.v 7)]
 (.ite (.v 8)
  (.op (.row 1) [(.v 3), (.v 6)]
  (.op (.bin .eql false) [(.v 9), (.v 1)]
  (.ite (.v 10)
   (.ret [(.c (.bool true))])
  (.op (.bin .add false) [(.v 6), (.c (.int .i64 1))]
  (.jump 0 [(.v 11)])))))
 (.ret [(.c (.bool false))]))))
def ir80p1 : IR :=
 (.op .lenL [(.v 2)]
 (.op (.bin .lss false) [(.v 8), (.v 9)]
 (.ite (.v 10)
  (.op (.row 3) [(.v 2), (.v 8)]
  (.call 80 1 false [] [(.v 11), (.v 12), (.v 13), (.v 3)]
  (.op (.un .not) [(.v 14)]
  (.ite (.v 15)
   (.ret [(.c (.bool false))])
  (.op (.bin .add false) [(.v 8), (.c (.int .i64 1))]
  (.jump 0 [(.v 16)]))))))
 (.ret [(.c (.bool true))]))))
def ir80p2 : IR :=
 (.op .lenL [(.v 2)]
 (.op (.bin .lss false) [(.v 9), (.v 10)]
 (.ite (.v 11)
  (.op (.row 3) [(.v 2), (.v 9)]
  (.call 80 1 false [] [(.v 12), (.v 13), (.v 14), (.v 3)]
  (.ite (.v 15)
   (.ret [(.c (.bool true))])
  (.op (.bin .add false) [(.v 9), (.c (.int .i64 1))]
  (.jump 0 [(.v 16)])))))
 (.ret [(.c (.bool false))]))))
def ir80 : IR :=
 (.op (.bin .eql false) [(.v 0), (.c (.int .i64 1))]
 (.ite (.v 4)
  (.ret [(.c (.bool true))])
 (.op (.bin .eql false) [(.v 0), (.c (.int .i64 3))]
 (.ite (.v 5)
  (.loop 1 [(.c (.int .i64 0))] ir80p0)
 (.op (.bin .eql false) [(.v 0), (.c (.int .i64 4))]
 (.ite (.v 6)
  (.op (.row 3) [(.v 2), (.c (.int .i64 0))]
  (.call 80 1 false [] [(.v 7), (.v 8), (.v 9), (.v 3)]
  (.op (.un .not) [(.v 10)]
  (.ret [(.v 11)]))))
 (.op (.bin .eql false) [(.v 0), (.c (.int .i64 5))]
 (.ite (.v 7)
  (.loop 1 [(.c (.int .i64 0))] ir80p1)
 (.op (.bin .eql false) [(.v 0), (.c (.int .i64 6))]
 (.ite (.v 8)
  (.loop 1 [(.c (.int .i64 0))] ir80p2)
 (.op (.bin .eql false) [(.v 0), (.c (.int .i64 7))]
 (.ite (.v 9)
  (.op (.row 3) [(.v 2), (.c (.int .i64 0))]
  (.call 80 1 false [] [(.v 10), (.v 11), (.v 12), (.v 3)]
  (.op (.un .not) [(.v 13)]
  (.ite (.v 14)
   (.ret [(.c (.bool true))])
  (.op (.row 3) [(.v 2), (.c (.int .i64 1))]
  (.call 80 1 false [] [(.v 15), (.v 16), (.v 17), (.v 3)]
  (.ret [(.v 18)])))))))
 (.op (.bin .eql false) [(.v 0), (.c (.int .i64 8))]
 (.ite (.v 10)
  (.op (.row 3) [(.v 2), (.c (.int .i64 0))]
  (.call 80 1 false [] [(.v 11), (.v 12), (.v 13), (.v 3)]
  (.op (.row 3) [(.v 2), (.c (.int .i64 1))]
  (.call 80 1 false [] [(.v 15), (.v 16), (.v 17), (.v 3)]
  (.op (.bin .eql true) [(.v 14), (.v 18)]
  (.ret [(.v 19)]))))))
 (.ret [(.c (.bool false))])))))))))))))))
theorem rd80 : readFn T SG sigs 3000 sg80 Tryz.f108 an80 = some ir80 := by kernel_rfl
/- 81:cmp.isNaN[int] -/
def an81 : Ann := .z
def ir81 : IR :=
 (.op (.bin .neq false) [(.v 0), (.v 0)]
 (.ret [(.v 1)]))
theorem rd81 : readFn T SG sigs 3000 sg81 Tryz.f117 an81 = some ir81 := by kernel_rfl
/- 82:formula.counted -/
def an82 : Ann := (.s none .z (.s none .z (.s none (.s none .z (.b (.s (some ⟨1, [(0, .junk), (1, .junk), (2, .junk), (4, .junk), (5, .junk), (6, .junk), (7, .junk), (9, (.atm (.v 0)))], [], 1, []⟩) .z (.c .z (.s none .z (.c .z (.s (some ⟨1, [(9, .junk), (15, .junk), (16, .junk), (19, (.atm (.v 0)))], [], 1, []⟩) .z (.c .z (.s (some ⟨1, [(8, .junk), (19, .junk), (28, (.atm (.v 0)))], [], 1, []⟩) .z .z))))))))) .z)))
def ir82p0 : IR :=
 (.ite (.v 7)
  (.op (.bin .eql false) [(.v 3), (.c (.int .i64 2))]
  (.ret [(.v 8)]))
 (.ret [(.c (.bool false))]))
def ir82p1 : IR :=
 (.ite (.v 6)
  (.op (.bin .geq false) [(.v 3), (.c (.int .i64 2))]
  (.ite (.v 7)
   (.op (.bin .leq false) [(.v 3), (.c (.int .i64 6))]
   (.ret [(.v 8)]))
  (.ret [(.c (.bool false))])))
 (.letj 1
  (.op (.bin .eql false) [(.v 0), (.c (.int .i64 7))]
  (.ite (.v 7)
   (.jump 0 [(.c (.bool true))])
  (.op (.bin .eql false) [(.v 0), (.c (.int .i64 8))]
  (.jump 0 [(.v 8)]))))
 ir82p0))
def ir82p2 : IR :=
 (.ite (.v 4)
  (.op (.bin .eql false) [(.v 3), (.c (.int .i64 0))]
  (.ret [(.v 5)]))
 (.op (.bin .eql false) [(.v 0), (.c (.int .i64 4))]
 (.ite (.v 5)
  (.op (.bin .eql false) [(.v 3), (.c (.int .i64 1))]
  (.ret [(.v 6)]))
 (.letj 1
  (.op (.bin .eql false) [(.v 0), (.c (.int .i64 5))]
  (.ite (.v 6)
   (.jump 0 [(.c (.bool true))])
  (.op (.bin .eql false) [(.v 0), (.c (.int .i64 6))]
  (.jump 0 [(.v 7)]))))
 ir82p1))))
def ir82 : IR :=
 (.op .lenL [(.v 2)]
 (.letj 1
  (.op (.bin .eql false) [(.v 0), (.c (.int .i64 1))]
  (.ite (.v 4)
   (.jump 0 [(.c (.bool true))])
  (.op (.bin .eql false) [(.v 0), (.c (.int .i64 2))]
  (.ite (.v 5)
   (.jump 0 [(.c (.bool true))])
  (.op (.bin .eql false) [(.v 0), (.c (.int .i64 3))]
  (.jump 0 [(.v 6)]))))))
 ir82p2))
theorem rd82 : readFn T SG sigs 3000 sg82 Tryz.f95 an82 = some ir82 := by kernel_rfl
/- 83:formula.named -/
def an83 : Ann := .z
def ir83 : IR :=
 (.op (.bin .eql false) [(.v 0), (.c (.int .i64 3))]
 (.ite (.v 3)
  (.call 61 1 false [] [(.v 1)]
  (.ret [(.v 4)]))
 (.op (.bin .eql false) [(.v 1), (.c (.str []))]
 (.ret [(.v 4)]))))
theorem rd83 : readFn T SG sigs 3000 sg83 Tryz.f96 an83 = some ir83 := by kernel_rfl
/- 84:deliberationref02.insert -/
def an84 : Ann := (.s none .z (.s none .z (.s none (.b (.l ⟨1, [(4, .junk), (5, (.atm (.v 0)))], [], 0, []⟩ (.s none (.s (some ⟨1, [(18, (.atm (.v 0)))], [], 0, []⟩) .z .z) .z))) (.s none (.s (some ⟨1, [(18, .junk), (32, (.atm (.v 0)))], [], 0, []⟩) .z .z) .z))))
def ir84p0 : IR :=
 (.ite (.v 4)
  (.ret [(.v 0)])
 (.op (.subL 1) [(.v 0), (.c (.int .i64 0)), (.v 2)]
 (.op (.app 1 16) [(.c (.sl [])), (.v 5)]
 (.op (.mk 1 1) [(.v 1)]
 (.op (.app 1 16) [(.v 6), (.v 7)]
 (.op .lenL [(.v 0)]
 (.op (.subL 1) [(.v 0), (.v 2), (.v 9)]
 (.op (.app 1 16) [(.v 8), (.v 10)]
 (.ret [(.v 11)])))))))))
def ir84p1 : IR :=
 (.ite (.v 3)
  (.op (.bin .add false) [(.v 2), (.c (.int .i64 1))]
  (.jump 0 [(.v 4)]))
 (.letj 1
  (.op .lenL [(.v 0)]
  (.op (.bin .lss false) [(.v 2), (.v 4)]
  (.ite (.v 5)
   (.op (.row 1) [(.v 0), (.v 2)]
   (.op (.bin .eql false) [(.v 6), (.v 1)]
   (.jump 1 [(.v 7)])))
  (.jump 1 [(.c (.bool false))]))))
 ir84p0))
def ir84p2 : IR :=
 (.letj 1
  (.op .lenL [(.v 0)]
  (.op (.bin .lss false) [(.v 2), (.v 3)]
  (.ite (.v 4)
   (.op (.row 1) [(.v 0), (.v 2)]
   (.op (.bin .lss false) [(.v 5), (.v 1)]
   (.jump 1 [(.v 6)])))
  (.jump 1 [(.c (.bool false))]))))
 ir84p1)
def ir84 : IR :=
 (.loop 1 [(.c (.int .i64 0))] ir84p2)
theorem rd84 : readFn T SG sigs 3000 sg84 Tryz.f120 an84 = some ir84 := by kernel_rfl
end Go.Proofs.YtjedjjooidohhaaGreat

/- Plain programs of the functions of the program and lemmas about what they compute. -/
import Derived.Test.YtjedjjooidohhaaGreatAmSe21
import Derived.Test.YtjedjjooidohhaaGreatProg
import Derived.KernelRfl
set_option linter.unusedSimpArgs false
set_option linter.unusedVariables false
set_option linter.unusedSectionVars false
namespace Go.Proofs.YtjedjjooidohhaaGreat
open Go Am
set_option maxRecDepth 100000
abbrev fnD (f : Nat) : D := .raw (.func (.func f) #[] #[])
abbrev undD : D := .raw (.tuple #[])
def T : Tab := [
  (3, ⟨1, 8, true, true, false, none, none, (some .i64), false, false, (some (.int .i64 0)), [], none⟩),
  (4, ⟨1, 1, true, true, false, none, none, none, false, true, (some (.bool false)), [], none⟩),
  (5, ⟨1, 1, true, true, false, none, none, (some .u8), false, false, (some (.int .u8 0)), [], none⟩),
  (9, ⟨1, 16, true, true, false, none, none, none, true, false, (some (.string ⟨⟨[]⟩⟩)), [], none⟩),
  (22, ⟨1, 24, true, true, false, (some 9), none, none, false, false, (some (.slice none 0 0)), [], none⟩),
  (23, ⟨1, 24, true, true, false, (some 3), none, none, false, false, (some (.slice none 0 0)), [], none⟩),
  (25, ⟨2, 48, true, true, true, none, none, none, false, false, (some (.agg #[(.slice none 0 0), (.slice none 0 0)])), [(0, 22), (1, 23)], (some [(0, 1), (1, 1)])⟩),
  (26, ⟨1, 8, true, true, false, none, none, (some .u64), false, false, (some (.int .u64 0)), [], none⟩),
  (27, ⟨1, 24, true, true, false, (some 29), none, none, false, false, (some (.slice none 0 0)), [], none⟩),
  (29, ⟨3, 48, true, true, true, none, none, none, false, false, (some (.agg #[(.int .i64 0), (.string ⟨⟨[]⟩⟩), (.slice none 0 0)])), [(0, 3), (1, 9), (2, 27)], (some [(0, 1), (1, 1), (2, 1)])⟩),
  (31, ⟨1, 8, true, true, false, none, none, none, false, false, (some .nilFunc), [], none⟩),
  (33, ⟨1, 8, true, true, false, none, none, none, false, false, (some (.pointer none)), [], none⟩),
  (39, ⟨1, 24, true, true, false, (some 25), none, none, false, false, (some (.slice none 0 0)), [], none⟩),
  (41, ⟨1, 24, true, true, false, (some 26), none, none, false, false, (some (.slice none 0 0)), [], none⟩),
  (43, ⟨1, 8, true, true, false, none, none, (some .i64), false, false, (some (.int .i64 0)), [], none⟩),
  (65, ⟨2, 32, true, true, true, none, none, none, false, false, (some (.agg #[(.slice none 0 0), (.int .i64 0)])), [(0, 23), (1, 3)], (some [(0, 1), (1, 1)])⟩),
  (66, ⟨1, 8, true, true, false, none, none, (some .u64), false, false, (some (.int .u64 0)), [], none⟩),
  (68, ⟨1, 24, true, true, false, (some 5), none, none, false, false, (some (.slice none 0 0)), [], none⟩),
  (73, ⟨1, 24, true, true, false, (some 4), none, none, false, false, (some (.slice none 0 0)), [], none⟩)]
theorem tok : TOK Tryz.prog T := tok_of (by kernel_rfl)
def SG : SGlob := []
def sg0 : Sig := ⟨4, 6, [], [(.agg [(.atm (.v 0)), (.atm (.v 1))]), (.agg [(.atm (.v 2)), (.atm (.v 3)), (.atm (.v 4))]), (.atm (.v 5))], 1, [], (.atm (.v 0)), false, []⟩
def sg1 : Sig := ⟨6, 3, [], [(.agg [(.atm (.v 0)), (.atm (.v 1)), (.atm (.v 2))])], 1, [], (.atm (.v 0)), false, []⟩
def sg2 : Sig := ⟨27, 0, [], [], 1, [], (.atm (.v 0)), false, []⟩
def sg3 : Sig := ⟨8, 1, [], [(.atm (.v 0))], 2, [⟨false, false, 65, 2, (.c (.sl [])), [[(.atm (.v 0)), (.atm (.v 1))]]⟩], (.ptr 0 0 0), false, []⟩
def sg4 : Sig := ⟨10, 4, [⟨false, false, 65, 2, (.c (.sl [])), [[(.atm (.v 2)), (.atm (.v 3))]]⟩], [(.ptr 0 0 0), (.atm (.v 0)), (.atm (.v 1))], 3, [⟨false, false, 65, 2, (.c (.sl [])), [[(.atm (.v 1)), (.atm (.v 2))]]⟩], (.atm (.v 0)), false, []⟩
def sg5 : Sig := ⟨9, 3, [⟨false, false, 65, 2, (.c (.sl [])), [[(.atm (.v 1)), (.atm (.v 2))]]⟩], [(.ptr 0 0 0), (.atm (.v 0))], 4, [⟨false, false, 65, 2, (.c (.sl [])), [[(.atm (.v 2)), (.atm (.v 3))]]⟩], (.agg [(.atm (.v 0)), (.atm (.v 1))]), true, []⟩
def sg6 : Sig := ⟨12, 4, [⟨false, false, 65, 2, (.c (.sl [])), [[(.atm (.v 2)), (.atm (.v 3))]]⟩], [(.ptr 0 0 0), (.atm (.v 0)), (.atm (.v 1))], 5, [⟨false, false, 65, 2, (.c (.sl [])), [[(.atm (.v 3)), (.atm (.v 4))]]⟩], (.agg [(.atm (.v 0)), (.atm (.v 1)), (.atm (.v 2))]), true, []⟩
def sg7 : Sig := ⟨13, 2, [⟨false, false, 65, 2, (.c (.sl [])), [[(.atm (.v 0)), (.atm (.v 1))]]⟩], [(.ptr 0 0 0)], 3, [⟨false, false, 65, 2, (.c (.sl [])), [[(.atm (.v 1)), (.atm (.v 2))]]⟩], (.atm (.v 0)), false, []⟩
def sg8 : Sig := ⟨28, 3, [], [(.agg [(.atm (.v 0)), (.atm (.v 1))]), (.atm (.v 2))], 3, [], (.agg [(.atm (.v 0)), (.atm (.v 1)), (.atm (.v 2))]), true, []⟩
def sg9 : Sig := ⟨29, 5, [], [(.agg [(.atm (.v 0)), (.atm (.v 1))]), (.agg [(.atm (.v 2)), (.atm (.v 3)), (.atm (.v 4))])], 2, [], (.tup [(.atm (.v 0)), (.atm (.v 1))]), false, []⟩
def sg10 : Sig := ⟨30, 5, [], [(.agg [(.atm (.v 0)), (.atm (.v 1))]), (.agg [(.atm (.v 2)), (.atm (.v 3)), (.atm (.v 4))])], 2, [], (.tup [(.atm (.v 0)), (.atm (.v 1))]), false, []⟩
def sg11 : Sig := ⟨31, 5, [], [(.agg [(.atm (.v 0)), (.atm (.v 1))]), (.agg [(.atm (.v 2)), (.atm (.v 3)), (.atm (.v 4))])], 2, [], (.tup [(.atm (.v 0)), (.atm (.v 1))]), false, []⟩
def sg12 : Sig := ⟨32, 5, [], [(.agg [(.atm (.v 0)), (.atm (.v 1))]), (.agg [(.atm (.v 2)), (.atm (.v 3)), (.atm (.v 4))])], 2, [], (.tup [(.atm (.v 0)), (.atm (.v 1))]), false, []⟩
def sg13 : Sig := ⟨33, 5, [], [(.agg [(.atm (.v 0)), (.atm (.v 1))]), (.agg [(.atm (.v 2)), (.atm (.v 3)), (.atm (.v 4))])], 2, [], (.tup [(.atm (.v 0)), (.atm (.v 1))]), false, []⟩
def sg14 : Sig := ⟨34, 5, [], [(.agg [(.atm (.v 0)), (.atm (.v 1))]), (.agg [(.atm (.v 2)), (.atm (.v 3)), (.atm (.v 4))])], 2, [], (.tup [(.atm (.v 0)), (.atm (.v 1))]), false, []⟩
def sg15 : Sig := ⟨35, 5, [], [(.agg [(.atm (.v 0)), (.atm (.v 1))]), (.agg [(.atm (.v 2)), (.atm (.v 3)), (.atm (.v 4))])], 2, [], (.tup [(.atm (.v 0)), (.atm (.v 1))]), false, []⟩
def sg16 : Sig := ⟨36, 5, [], [(.agg [(.atm (.v 0)), (.atm (.v 1))]), (.agg [(.atm (.v 2)), (.atm (.v 3)), (.atm (.v 4))])], 2, [], (.tup [(.atm (.v 0)), (.atm (.v 1))]), false, []⟩
def sg17 : Sig := ⟨37, 5, [], [(.agg [(.atm (.v 0)), (.atm (.v 1))]), (.agg [(.atm (.v 2)), (.atm (.v 3)), (.atm (.v 4))])], 4, [], (.tup [(.agg [(.atm (.v 0)), (.atm (.v 1)), (.atm (.v 2))]), (.atm (.v 3))]), true, []⟩
def sg18 : Sig := ⟨38, 5, [], [(.agg [(.atm (.v 0)), (.atm (.v 1))]), (.agg [(.atm (.v 2)), (.atm (.v 3)), (.atm (.v 4))])], 4, [], (.tup [(.agg [(.atm (.v 0)), (.atm (.v 1)), (.atm (.v 2))]), (.atm (.v 3))]), true, []⟩
def sg19 : Sig := ⟨39, 6, [], [(.agg [(.atm (.v 0)), (.atm (.v 1)), (.atm (.v 2))]), (.agg [(.atm (.v 3)), (.atm (.v 4)), (.atm (.v 5))])], 1, [], (.atm (.v 0)), false, []⟩
def sg20 : Sig := ⟨40, 4, [], [(.agg [(.atm (.v 0)), (.atm (.v 1)), (.atm (.v 2))]), (.atm (.v 3))], 1, [], (.atm (.v 0)), false, []⟩
def sg21 : Sig := ⟨41, 4, [], [(.agg [(.atm (.v 0)), (.atm (.v 1)), (.atm (.v 2))]), (.atm (.v 3))], 1, [], (.atm (.v 0)), false, []⟩
def sg22 : Sig := ⟨42, 3, [], [(.agg [(.atm (.v 0)), (.atm (.v 1)), (.atm (.v 2))])], 1, [], (.atm (.v 0)), false, []⟩
def sg23 : Sig := ⟨44, 1, [], [(.atm (.v 0))], 1, [], (.atm (.v 0)), true, []⟩
def sg24 : Sig := ⟨11, 3, [⟨false, false, 65, 2, (.c (.sl [])), [[(.atm (.v 1)), (.atm (.v 2))]]⟩], [(.ptr 0 0 0), (.atm (.v 0))], 3, [⟨false, false, 65, 2, (.c (.sl [])), [[(.atm (.v 1)), (.atm (.v 2))]]⟩], (.atm (.v 0)), false, []⟩
def sg25 : Sig := ⟨46, 2, [], [(.atm (.v 0)), (.atm (.v 1))], 3, [], (.tup [(.agg [(.atm (.v 0)), (.atm (.v 1))]), (.atm (.v 2))]), true, []⟩
def sg26 : Sig := ⟨48, 2, [⟨false, false, 65, 2, (.c (.sl [])), [[(.atm (.v 0)), (.atm (.v 1))]]⟩], [(.ptr 0 0 0)], 3, [⟨false, false, 65, 2, (.c (.sl [])), [[(.atm (.v 1)), (.atm (.v 2))]]⟩], (.atm (.v 0)), false, []⟩
def sg27 : Sig := ⟨58, 1, [], [(.atm (.v 0))], 1, [], (.atm (.v 0)), false, []⟩
def sg28 : Sig := ⟨62, 2, [], [(.atm (.v 0)), (.atm (.v 1))], 4, [], (.tup [(.agg [(.atm (.v 0)), (.atm (.v 1)), (.atm (.v 2))]), (.atm (.v 3))]), true, []⟩
def sg29 : Sig := ⟨63, 5, [], [(.agg [(.atm (.v 0)), (.atm (.v 1))]), (.agg [(.atm (.v 2)), (.atm (.v 3)), (.atm (.v 4))])], 3, [], (.tup [(.atm (.v 0)), (.atm (.v 1)), (.atm (.v 2))]), false, []⟩
def sg30 : Sig := ⟨23, 2, [], [(.agg [(.atm (.v 0)), (.atm (.v 1))])], 1, [], (.atm (.v 0)), false, []⟩
def sg31 : Sig := ⟨64, 5, [], [(.agg [(.atm (.v 0)), (.atm (.v 1))]), (.agg [(.atm (.v 2)), (.atm (.v 3)), (.atm (.v 4))])], 4, [], (.tup [(.atm (.v 0)), (.atm (.v 1)), (.atm (.v 2)), (.atm (.v 3))]), false, []⟩
def sg32 : Sig := ⟨14, 3, [], [(.agg [(.atm (.v 0)), (.atm (.v 1))]), (.atm (.v 2))], 1, [], (.atm (.v 0)), false, []⟩
def sg33 : Sig := ⟨15, 3, [], [(.agg [(.atm (.v 0)), (.atm (.v 1))]), (.atm (.v 2))], 1, [], (.atm (.v 0)), false, []⟩
def sg34 : Sig := ⟨21, 2, [], [(.agg [(.atm (.v 0)), (.atm (.v 1))])], 1, [], (.atm (.v 0)), true, []⟩
def sg35 : Sig := ⟨50, 4, [], [(.agg [(.atm (.v 0)), (.atm (.v 1))]), (.atm (.v 2)), (.atm (.v 3))], 1, [], (.atm (.v 0)), false, []⟩
def sg36 : Sig := ⟨65, 2, [], [(.atm (.v 0)), (.atm (.v 1))], 4, [], (.tup [(.agg [(.atm (.v 0)), (.atm (.v 1)), (.atm (.v 2))]), (.atm (.v 3))]), true, []⟩
def sg37 : Sig := ⟨47, 2, [], [(.atm (.v 0)), (.atm (.v 1))], 1, [], (.atm (.v 0)), false, []⟩
def sg38 : Sig := ⟨55, 1, [], [(.atm (.v 0))], 1, [], (.atm (.v 0)), false, []⟩
def sg39 : Sig := ⟨56, 2, [], [(.atm (.v 0)), (.atm (.v 1))], 1, [], (.atm (.v 0)), false, []⟩
def sg40 : Sig := ⟨79, 1, [], [(.atm (.v 0))], 1, [], (.atm (.v 0)), false, []⟩
def sg41 : Sig := ⟨85, 2, [], [(.atm (.v 0)), (.atm (.v 1))], 3, [], (.agg [(.atm (.v 0)), (.atm (.v 1)), (.atm (.v 2))]), true, []⟩
def sg42 : Sig := ⟨18, 2, [], [(.agg [(.atm (.v 0)), (.atm (.v 1))])], 1, [], (.atm (.v 0)), false, []⟩
def sg43 : Sig := ⟨51, 4, [], [(.atm (.v 0)), (.agg [(.atm (.v 1)), (.atm (.v 2)), (.atm (.v 3))])], 2, [], (.tup [(.atm (.v 0)), (.atm (.v 1))]), false, []⟩
def sg44 : Sig := ⟨75, 1, [], [(.atm (.v 0))], 1, [], (.atm (.v 0)), false, []⟩
def sg45 : Sig := ⟨19, 2, [], [(.agg [(.atm (.v 0)), (.atm (.v 1))])], 1, [], (.atm (.v 0)), false, []⟩
def sg46 : Sig := ⟨52, 4, [], [(.atm (.v 0)), (.agg [(.atm (.v 1)), (.atm (.v 2)), (.atm (.v 3))])], 2, [], (.tup [(.atm (.v 0)), (.atm (.v 1))]), false, []⟩
def sg47 : Sig := ⟨24, 2, [], [(.agg [(.atm (.v 0)), (.atm (.v 1))])], 1, [], (.atm (.v 0)), false, []⟩
def sg48 : Sig := ⟨49, 2, [], [(.agg [(.atm (.v 0)), (.atm (.v 1))])], 1, [], (.atm (.v 0)), false, []⟩
def sg49 : Sig := ⟨57, 1, [], [(.atm (.v 0))], 1, [], (.atm (.v 0)), false, []⟩
def sg50 : Sig := ⟨53, 1, [], [(.atm (.v 0))], 1, [], (.atm (.v 0)), false, []⟩
def sg51 : Sig := ⟨86, 2, [], [(.atm (.v 0)), (.atm (.v 1))], 3, [], (.agg [(.atm (.v 0)), (.atm (.v 1)), (.atm (.v 2))]), true, []⟩
def sg52 : Sig := ⟨84, 1, [], [(.atm (.v 0))], 1, [], (.atm (.v 0)), false, []⟩
def sg53 : Sig := ⟨109, 3, [], [(.atm (.v 0)), (.atm (.v 1)), (.atm (.v 2))], 1, [], (.atm (.v 0)), false, []⟩
def sg54 : Sig := ⟨110, 6, [], [(.agg [(.atm (.v 0)), (.atm (.v 1)), (.atm (.v 2))]), (.agg [(.atm (.v 3)), (.atm (.v 4)), (.atm (.v 5))])], 1, [], (.atm (.v 0)), false, []⟩
def sg55 : Sig := ⟨111, 7, [], [(.atm (.v 0)), (.agg [(.atm (.v 1)), (.atm (.v 2)), (.atm (.v 3))]), (.agg [(.atm (.v 4)), (.atm (.v 5)), (.atm (.v 6))])], 3, [], (.agg [(.atm (.v 0)), (.atm (.v 1)), (.atm (.v 2))]), true, []⟩
def sg56 : Sig := ⟨54, 2, [], [(.atm (.v 0)), (.atm (.v 1))], 1, [], (.atm (.v 0)), false, []⟩
def sg57 : Sig := ⟨71, 3, [], [(.agg [(.atm (.v 0)), (.atm (.v 1)), (.atm (.v 2))])], 1, [], (.atm (.v 0)), false, []⟩
def sg58 : Sig := ⟨72, 3, [], [(.agg [(.atm (.v 0)), (.atm (.v 1)), (.atm (.v 2))])], 1, [], (.atm (.v 0)), true, []⟩
def sg59 : Sig := ⟨73, 2, [], [(.atm (.v 0)), (.atm (.v 1))], 1, [], (.atm (.v 0)), false, []⟩
def sg60 : Sig := ⟨74, 4, [], [(.atm (.v 0)), (.agg [(.atm (.v 1)), (.atm (.v 2)), (.atm (.v 3))])], 1, [], (.atm (.v 0)), false, []⟩
def sg61 : Sig := ⟨102, 1, [], [(.atm (.v 0))], 1, [], (.atm (.v 0)), false, []⟩
def sg62 : Sig := ⟨76, 3, [], [(.agg [(.atm (.v 0)), (.atm (.v 1)), (.atm (.v 2))])], 1, [], (.atm (.v 0)), false, []⟩
def sg63 : Sig := ⟨77, 3, [], [(.agg [(.atm (.v 0)), (.atm (.v 1)), (.atm (.v 2))])], 1, [], (.atm (.v 0)), true, []⟩
def sg64 : Sig := ⟨78, 2, [], [(.atm (.v 0)), (.atm (.v 1))], 1, [], (.atm (.v 0)), false, []⟩
def sg65 : Sig := ⟨81, 2, [], [(.atm (.v 0)), (.atm (.v 1))], 1, [], (.atm (.v 0)), true, []⟩
def sg66 : Sig := ⟨80, 4, [], [(.agg [(.atm (.v 0)), (.atm (.v 1)), (.atm (.v 2))]), (.atm (.v 3))], 1, [], (.atm (.v 0)), false, []⟩
def sg67 : Sig := ⟨82, 1, [], [(.atm (.v 0))], 1, [], (.atm (.v 0)), false, []⟩
def sg68 : Sig := ⟨112, 1, [], [(.atm (.v 0))], 2, [], (.tup [(.atm (.v 0)), (.atm (.v 1))]), false, []⟩
def sg69 : Sig := ⟨113, 7, [], [(.atm (.v 0)), (.agg [(.atm (.v 1)), (.atm (.v 2)), (.atm (.v 3))]), (.agg [(.atm (.v 4)), (.atm (.v 5)), (.atm (.v 6))])], 3, [], (.agg [(.atm (.v 0)), (.atm (.v 1)), (.atm (.v 2))]), true, []⟩
def sg70 : Sig := ⟨121, 2, [], [(.atm (.v 0)), (.atm (.v 1))], 1, [], (.atm (.v 0)), false, []⟩
def sg71 : Sig := ⟨83, 2, [], [(.atm (.v 0)), (.atm (.v 1))], 1, [], (.atm (.v 0)), false, []⟩
def sg72 : Sig := ⟨92, 3, [], [(.agg [(.atm (.v 0)), (.atm (.v 1)), (.atm (.v 2))])], 1, [], (.atm (.v 0)), false, []⟩
def sg73 : Sig := ⟨93, 3, [], [(.agg [(.atm (.v 0)), (.atm (.v 1)), (.atm (.v 2))])], 1, [], (.atm (.v 0)), false, []⟩
def sg74 : Sig := ⟨94, 3, [], [(.agg [(.atm (.v 0)), (.atm (.v 1)), (.atm (.v 2))]), (.atm (.c (fnD 95)))], 1, [], (.atm (.v 0)), false, []⟩
def sg75 : Sig := ⟨94, 3, [], [(.agg [(.atm (.v 0)), (.atm (.v 1)), (.atm (.v 2))]), (.atm (.c (fnD 96)))], 1, [], (.atm (.v 0)), false, []⟩
def sg76 : Sig := ⟨100, 2, [], [(.atm (.v 0)), (.atm (.v 1))], 1, [], (.atm (.v 0)), false, []⟩
def sg77 : Sig := ⟨101, 1, [], [(.atm (.v 0))], 1, [], (.atm (.v 0)), false, []⟩
def sg78 : Sig := ⟨103, 3, [], [(.agg [(.atm (.v 0)), (.atm (.v 1)), (.atm (.v 2))])], 1, [], (.atm (.v 0)), false, []⟩
def sg79 : Sig := ⟨104, 3, [], [(.agg [(.atm (.v 0)), (.atm (.v 1)), (.atm (.v 2))])], 1, [], (.atm (.v 0)), false, []⟩
def sg80 : Sig := ⟨105, 3, [], [(.agg [(.atm (.v 0)), (.atm (.v 1)), (.atm (.v 2))])], 1, [], (.atm (.v 0)), false, []⟩
def sg81 : Sig := ⟨106, 3, [], [(.agg [(.atm (.v 0)), (.atm (.v 1)), (.atm (.v 2))])], 1, [], (.atm (.v 0)), false, []⟩
def sg82 : Sig := ⟨107, 4, [], [(.atm (.v 0)), (.agg [(.atm (.v 1)), (.atm (.v 2)), (.atm (.v 3))])], 1, [], (.atm (.v 0)), true, []⟩
def sg83 : Sig := ⟨108, 4, [], [(.agg [(.atm (.v 0)), (.atm (.v 1)), (.atm (.v 2))]), (.atm (.v 3))], 1, [], (.atm (.v 0)), false, []⟩
def sg84 : Sig := ⟨95, 3, [], [(.agg [(.atm (.v 0)), (.atm (.v 1)), (.atm (.v 2))])], 1, [], (.atm (.v 0)), false, []⟩
def sg85 : Sig := ⟨96, 3, [], [(.agg [(.atm (.v 0)), (.atm (.v 1)), (.atm (.v 2))])], 1, [], (.atm (.v 0)), false, []⟩
def sg86 : Sig := ⟨120, 2, [], [(.atm (.v 0)), (.atm (.v 1))], 1, [], (.atm (.v 0)), true, []⟩
def sigs : List Sig := [sg0, sg1, sg2, sg3, sg4, sg5, sg6, sg7, sg8, sg9, sg10, sg11, sg12, sg13, sg14, sg15, sg16, sg17, sg18, sg19, sg20, sg21, sg22, sg23, sg24, sg25, sg26, sg27, sg28, sg29, sg30, sg31, sg32, sg33, sg34, sg35, sg36, sg37, sg38, sg39, sg40, sg41, sg42, sg43, sg44, sg45, sg46, sg47, sg48, sg49, sg50, sg51, sg52, sg53, sg54, sg55, sg56, sg57, sg58, sg59, sg60, sg61, sg62, sg63, sg64, sg65, sg66, sg67, sg68, sg69, sg70, sg71, sg72, sg73, sg74, sg75, sg76, sg77, sg78, sg79, sg80, sg81, sg82, sg83, sg84, sg85, sg86]
/- 0:deliberationlaw33.ChangeAnswers -/
def an0 : Ann := (.s none .z (.s none (.s (some ⟨1, [(0, .junk), (1, .junk), (6, .junk), (35, (.atm (.v 0)))], [], 2, []⟩) .z .z) (.s none .z (.s none .z (.s none .z (.s none .z (.s none (.s none .z (.b (.l ⟨3, [(2, .junk), (3, .junk), (8, .junk), (35, .junk), (37, .junk), (38, .junk), (39, .junk), (40, .junk), (41, .junk), (42, .junk), (43, .junk), (44, .junk), (45, .junk), (46, .junk), (47, .junk), (50, (.atm (.v 0)))], [(2, ⟨false, false, 65, 2, (.c (.sl [])), [[(.atm (.v 1)), (.atm (.v 2))]]⟩)], 6, []⟩ (.s none .z (.s none .z (.s none (.b (.s none .z (.s none .z (.b (.l ⟨1, [(51, .junk), (52, .junk), (53, .junk), (54, .junk), (55, .junk), (56, .junk), (57, .junk), (58, .junk), (59, .junk), (62, (.atm (.v 0)))], [], 14, []⟩ (.s none .z (.s none .z (.s none (.b (.s none .z (.s none .z (.s none .z (.s none (.s (some ⟨1, [(15, .junk), (16, .junk), (17, .junk), (18, .junk), (63, .junk), (64, .junk), (65, .junk), (66, .junk), (67, .junk), (68, .junk), (69, .junk), (70, .junk), (71, .junk), (72, .junk), (73, .junk), (74, .junk), (75, .junk), (76, .junk), (77, .junk), (85, (.atm (.v 0)))], [], 15, []⟩) .z .z) (.s none .z (.s none .z (.s none (.s (some ⟨1, [(15, .junk), (16, .junk), (17, .junk), (18, .junk), (85, .junk), (86, .junk), (87, .junk), (88, .junk), (89, .junk), (90, .junk), (91, .junk), (92, .junk), (93, .junk), (94, .junk), (95, .junk), (96, .junk), (97, .junk), (105, (.atm (.v 0)))], [], 15, []⟩) .z .z) (.s none .z (.s none .z (.s none (.s (some ⟨1, [(15, .junk), (16, .junk), (17, .junk), (18, .junk), (105, .junk), (106, .junk), (107, .junk), (108, .junk), (109, .junk), (110, .junk), (111, .junk), (112, .junk), (113, .junk), (114, .junk), (115, .junk), (116, .junk), (117, .junk), (125, (.atm (.v 0)))], [], 15, []⟩) .z .z) (.s none .z (.s none .z (.s none (.s (some ⟨1, [(15, .junk), (16, .junk), (17, .junk), (18, .junk), (125, .junk), (126, .junk), (127, .junk), (128, .junk), (129, .junk), (130, .junk), (131, .junk), (132, .junk), (133, .junk), (134, .junk), (135, .junk), (136, .junk), (137, .junk), (145, (.atm (.v 0)))], [], 15, []⟩) .z .z) (.s none .z (.s none .z (.s (some ⟨1, [(14, .junk), (16, .junk), (18, .junk), (19, .junk), (20, .junk), (145, .junk), (146, .junk), (147, .junk), (148, .junk), (149, .junk), (150, .junk), (151, .junk), (152, .junk), (153, .junk), (154, .junk), (155, .junk), (156, .junk), (157, .junk), (166, (.atm (.v 0)))], [], 17, []⟩) .z .z))))))))))))))))) .z)))))))) .z)))))) .z)))))))
def ir0p0 : IR :=
 (.ite (.v 70)
  (.ret [(.c (.bool false))])
 (.op (.bin .add false) [(.v 37), (.c (.int .i64 1))]
 (.jump 1 [(.v 71)])))
def ir0p1 : IR :=
 (.ite (.v 61)
  (.ret [(.c (.bool false))])
 (.call 17 4 false [] [(.v 27), (.v 28), (.v 39), (.v 40), (.v 41)]
 (.call 18 4 false [] [(.v 27), (.v 28), (.v 39), (.v 40), (.v 41)]
 (.letj 1
  (.op (.bin .neq false) [(.v 65), (.v 69)]
  (.ite (.v 70)
   (.jump 2 [(.c (.bool true))])
  (.call 19 1 false [] [(.v 62), (.v 63), (.v 64), (.v 66), (.v 67), (.v 68)]
  (.op (.un .not) [(.v 71)]
  (.jump 2 [(.v 72)])))))
 ir0p0))))
def ir0p2 : IR :=
 (.ite (.v 56)
  (.ret [(.c (.bool false))])
 (.call 15 2 false [] [(.v 27), (.v 28), (.v 39), (.v 40), (.v 41)]
 (.call 16 2 false [] [(.v 27), (.v 28), (.v 39), (.v 40), (.v 41)]
 (.letj 1
  (.op (.bin .neq false) [(.v 57), (.v 59)]
  (.ite (.v 61)
   (.jump 2 [(.c (.bool true))])
  (.op (.bin .neq false) [(.v 58), (.v 60)]
  (.jump 2 [(.v 62)]))))
 ir0p1))))
def ir0p3 : IR :=
 (.ite (.v 51)
  (.ret [(.c (.bool false))])
 (.call 13 2 false [] [(.v 27), (.v 28), (.v 39), (.v 40), (.v 41)]
 (.call 14 2 false [] [(.v 27), (.v 28), (.v 39), (.v 40), (.v 41)]
 (.letj 1
  (.op (.bin .neq false) [(.v 52), (.v 54)]
  (.ite (.v 56)
   (.jump 2 [(.c (.bool true))])
  (.op (.bin .neq false) [(.v 53), (.v 55)]
  (.jump 2 [(.v 57)]))))
 ir0p2))))
def ir0p4 : IR :=
 (.ite (.v 46)
  (.ret [(.c (.bool false))])
 (.call 11 2 false [] [(.v 27), (.v 28), (.v 39), (.v 40), (.v 41)]
 (.call 12 2 false [] [(.v 27), (.v 28), (.v 39), (.v 40), (.v 41)]
 (.letj 1
  (.op (.bin .neq false) [(.v 47), (.v 49)]
  (.ite (.v 51)
   (.jump 2 [(.c (.bool true))])
  (.op (.bin .neq false) [(.v 48), (.v 50)]
  (.jump 2 [(.v 52)]))))
 ir0p3))))
def ir0p5 : IR :=
 (.op (.bin .lss false) [(.v 37), (.v 36)]
 (.ite (.v 38)
  (.op .chk [(.v 35), (.v 37)]
  (.op (.get 0 3) [(.v 35), (.v 37)]
  (.call 9 2 false [] [(.v 27), (.v 28), (.v 39), (.v 40), (.v 41)]
  (.call 10 2 false [] [(.v 27), (.v 28), (.v 39), (.v 40), (.v 41)]
  (.letj 1
   (.op (.bin .neq false) [(.v 42), (.v 44)]
   (.ite (.v 46)
    (.jump 2 [(.c (.bool true))])
   (.op (.bin .neq false) [(.v 43), (.v 45)]
   (.jump 2 [(.v 47)]))))
  ir0p4)))))
 (.op (.bin .add false) [(.v 23), (.c (.int .i64 1))]
 (.jump 0 [(.v 39), (.v 30), (.v 31)]))))
def ir0p6 : IR :=
 (.op (.bin .lss false) [(.v 23), (.v 22)]
 (.ite (.v 26)
  (.op .chk [(.v 21), (.v 23)]
  (.op (.get 0 2) [(.v 21), (.v 23)]
  (.call 7 3 false [] [(.v 24), (.v 25)]
  (.call 8 3 false [] [(.v 12), (.v 13), (.v 29)]
  (.op (.mk 3 3) [(.v 2), (.v 3), (.v 4), (.v 16), (.v 17), (.v 18), (.v 32), (.v 33), (.v 34)]
  (.op .lenL [(.v 35)]
  (.loop 1 [(.c (.int .i64 0))] ir0p5)))))))
 (.call 2 1 false [] []
 (.ret [(.v 27)]))))
def ir0p7 : IR :=
 (.ite (.v 6)
  (.call 2 1 false [] []
  (.ret [(.v 7)]))
 (.call 3 2 false [] [(.v 5)]
 (.call 4 3 false [] [(.c (.int .i64 0)), (.c (.int .i64 3)), (.v 7), (.v 8)]
 (.call 5 4 false [] [(.v 9), (.v 10), (.v 11)]
 (.call 6 5 false [] [(.c (.int .i64 3)), (.c (.int .i64 3)), (.v 14), (.v 15)]
 (.op (.mk 2 2) [(.v 0), (.v 1), (.v 12), (.v 13)]
 (.op .lenL [(.v 21)]
 (.loop 3 [(.c (.int .i64 0)), (.v 19), (.v 20)] ir0p6))))))))
def ir0 : IR :=
 (.letj 1
  (.op .lenL [(.v 0)]
  (.op (.bin .gtr false) [(.v 6), (.c (.int .i64 10))]
  (.ite (.v 7)
   (.jump 0 [(.c (.bool true))])
  (.op .lenL [(.v 1)]
  (.op (.bin .gtr false) [(.v 8), (.c (.int .i64 100))]
  (.ite (.v 9)
   (.jump 0 [(.c (.bool true))])
  (.call 1 1 false [] [(.v 2), (.v 3), (.v 4)]
  (.op (.un .not) [(.v 10)]
  (.jump 0 [(.v 11)])))))))))
 ir0p7)
theorem rd0 : readFn T SG sigs 3000 sg0 Tryz.f4 an0 = some ir0 := by kernel_rfl
/- 1:deliberationkeep.SmallFormula -/
def an1 : Ann := .z
def ir1 : IR :=
 (.call 20 1 false [] [(.v 0), (.v 1), (.v 2), (.c (.int .i64 800))]
 (.op (.bin .leq false) [(.v 3), (.c (.int .i64 800))]
 (.ite (.v 4)
  (.call 21 1 false [] [(.v 0), (.v 1), (.v 2), (.c (.int .i64 30))]
  (.op (.bin .leq false) [(.v 5), (.c (.int .i64 30))]
  (.ite (.v 6)
   (.call 22 1 false [] [(.v 0), (.v 1), (.v 2)]
   (.ret [(.v 7)]))
  (.ret [(.c (.bool false))]))))
 (.ret [(.c (.bool false))]))))
theorem rd1 : readFn T SG sigs 3000 sg1 Tryz.f6 an1 = some ir1 := by kernel_rfl
/- 2:deliberationlaw33.awake -/
def an2 : Ann := .z
def ir2 : IR :=
 (.call 23 1 false [] [(.c (.int .i64 2))]
 (.op (.mk 1 4) [(.c (.int .i64 2)), (.c (.int .i64 1)), (.c (.int .i64 2)), (.c (.int .i64 0))]
 (.call 8 3 false [] [(.v 0), (.v 1), (.c (.int .u64 10))]
 (.call 8 3 false [] [(.v 0), (.v 1), (.c (.int .u64 12))]
 (.call 8 3 false [] [(.v 0), (.v 1), (.c (.int .u64 3))]
 (.call 11 2 true [] [(.v 0), (.v 1), (.v 8), (.v 9), (.v 10)]
 (.call 13 2 true [] [(.v 0), (.v 1), (.v 5), (.v 6), (.v 7)]
 (.call 8 3 false [] [(.v 0), (.v 1), (.c (.int .u64 5))]
 (.call 11 2 true [] [(.v 0), (.v 1), (.v 15), (.v 16), (.v 17)]
 (.call 15 2 true [] [(.v 0), (.v 1), (.v 2), (.v 3), (.v 4)]
 (.op (.bin .eql false) [(.v 12), (.c (.int .i64 0))]
 (.ite (.v 22)
  (.op (.bin .eql false) [(.v 14), (.c (.int .i64 0))]
  (.ite (.v 23)
   (.op (.bin .eql false) [(.v 19), (.c (.int .i64 0))]
   (.ite (.v 24)
    (.op (.bin .eql false) [(.v 21), (.c (.int .i64 0))]
    (.ite (.v 25)
     (.op (.bin .eql false) [(.v 11), (.c (.int .u64 2))]
     (.ite (.v 26)
      (.op (.bin .eql false) [(.v 13), (.c (.int .u64 10))]
      (.ite (.v 27)
       (.op (.bin .eql false) [(.v 18), (.c (.int .u64 5))]
       (.ite (.v 28)
        (.op (.bin .eql false) [(.v 20), (.c (.int .u64 15))]
        (.ret [(.v 29)]))
       (.ret [(.c (.bool false))])))
      (.ret [(.c (.bool false))])))
     (.ret [(.c (.bool false))])))
    (.ret [(.c (.bool false))])))
   (.ret [(.c (.bool false))])))
  (.ret [(.c (.bool false))])))
 (.ret [(.c (.bool false))])))))))))))))
theorem rd2 : readFn T SG sigs 3000 sg2 Tryz.f27 an2 = some ir2 := by kernel_rfl
/- 3:deliberationkeep.New -/
def an3 : Ann := .z
def ir3 : IR :=
 (.op .lenL [(.v 0)]
 (.op .min [(.v 1), (.c (.int .i64 2000))]
 (.op (.subL 1) [(.v 0), (.c (.int .i64 0)), (.v 2)]
 (.ret [(.v 3), (.c (.int .i64 0))]))))
theorem rd3 : readFn T SG sigs 3000 sg3 Tryz.f8 an3 = some ir3 := by kernel_rfl
/- 4:deliberationkeep.Src).Range -/
def an4 : Ann := .z
def ir4 : IR :=
 (.op (.bin .sub false) [(.v 1), (.v 0)]
 (.op (.bin .add false) [(.v 4), (.c (.int .i64 1))]
 (.call 24 3 false [] [(.v 5), (.v 2), (.v 3)]
 (.op (.bin .add false) [(.v 0), (.v 6)]
 (.ret [(.v 9), (.v 7), (.v 8)])))))
theorem rd4 : readFn T SG sigs 3000 sg4 Tryz.f10 an4 = some ir4 := by kernel_rfl
/- 5:deliberationref31.Some -/
def an5 : Ann := (.s none .z (.s none .z (.s none .z (.s none (.s none .z (.b (.l ⟨4, [(7, (.atm (.v 0))), (10, .junk), (11, .junk), (12, .junk), (13, .junk), (14, .junk), (15, .junk)], [(0, ⟨false, false, 65, 2, (.c (.sl [])), [[(.atm (.v 1)), (.atm (.v 2))]]⟩), (2, ⟨false, true, 3, 1, (.v 3), []⟩)], 3, []⟩ .z))) .z))))
def ir5p0 : IR :=
 (.op .lenL [(.v 12)]
 (.op (.bin .lss false) [(.v 9), (.v 13)]
 (.ite (.v 14)
  (.call 24 3 false [] [(.v 6), (.v 10), (.v 11)]
  (.op .chk [(.v 12), (.v 9)]
  (.op (.set 0 1) [(.v 12), (.v 9), (.v 15)]
  (.op (.bin .add false) [(.v 9), (.c (.int .i64 1))]
  (.jump 0 [(.v 19), (.v 16), (.v 17), (.v 18)])))))
 (.call 23 1 false [] [(.v 0)]
 (.call 25 3 false [] [(.v 15), (.v 12)]
 (.ret [(.v 16), (.v 17), (.v 10), (.v 11)]))))))
def ir5 : IR :=
 (.op (.conv .u64) [(.v 0)]
 (.op (.bin .shl false) [(.c (.int .i64 1)), (.v 3)]
 (.op (.mkL 8 [(.int .i64 0)]) [(.v 4)]
 (.call 4 3 false [] [(.c (.int .i64 1)), (.c (.int .i64 6)), (.v 1), (.v 2)]
 (.loop 4 [(.c (.int .i64 0)), (.v 7), (.v 8), (.v 5)] ir5p0)))))
theorem rd5 : readFn T SG sigs 3000 sg5 Tryz.f9 an5 = some ir5 := by kernel_rfl
/- 6:deliberationkeep.Src).Formula -/
def an6 : Ann := (.s none .z (.s none .z (.s none (.s (some ⟨1, [(11, .junk), (12, .junk), (18, (.atm (.v 0)))], [], 2, []⟩) .z .z) (.s none .z (.s none .z (.s (some ⟨3, [(7, .junk), (9, (.atm (.v 0))), (18, .junk), (34, .junk), (35, .junk), (36, .junk), (37, .junk), (38, .junk), (39, .junk)], [(0, ⟨false, false, 65, 2, (.c (.sl [])), [[(.atm (.v 1)), (.atm (.v 2))]]⟩)], 4, []⟩) (.s none .z (.b (.s none .z (.c .z (.s (some ⟨1, [(7, .junk), (18, .junk), (34, .junk), (35, .junk), (36, .junk), (37, .junk), (38, .junk), (39, .junk), (40, .junk), (41, .junk), (42, .junk), (43, .junk), (44, (.atm (.v 0)))], [], 4, []⟩) .z .z))))) (.s none (.s none .z (.b (.l ⟨4, [(10, (.atm (.v 0)))], [(0, ⟨false, false, 65, 2, (.c (.sl [])), [[(.atm (.v 1)), (.atm (.v 2))]]⟩), (4, ⟨false, true, 29, 3, (.v 3), []⟩)], 5, [⟨some (3, 0, 2), 0, 29, 3⟩]⟩ .z))) .z)))))))
def ir6p0 : IR :=
 (.op (.bin .lss false) [(.v 14), (.v 11)]
 (.ite (.v 18)
  (.op (.bin .sub false) [(.v 1), (.c (.int .i64 1))]
  (.call 6 5 false [] [(.v 0), (.v 19), (.v 15), (.v 16)]
  (.op (.mk 3 1) [(.v 20), (.v 21), (.v 22)]
  (.op (.app 3 48) [(.v 17), (.v 25)]
  (.op (.bin .add false) [(.v 14), (.c (.int .i64 1))]
  (.jump 0 [(.v 27), (.v 23), (.v 24), (.v 26)]))))))
 (.ret [(.v 10), (.c (.str [])), (.v 17), (.v 15), (.v 16)])))
def ir6p1 : IR :=
 (.loop 4 [(.c (.int .i64 0)), (.v 12), (.v 13), (.c (.sl []))] ir6p0)
def ir6p2 : IR :=
 (.ite (.v 12)
  (.call 24 3 false [] [(.c (.int .i64 2)), (.v 5), (.v 6)]
  (.op (.bin .add false) [(.c (.int .i64 2)), (.v 13)]
  (.jump 0 [(.v 16), (.v 14), (.v 15)])))
 (.jump 0 [(.c (.int .i64 2)), (.v 5), (.v 6)]))
def ir6p3 : IR :=
 (.ite (.v 7)
  (.op (.bin .eql false) [(.v 4), (.c (.int .i64 0))]
  (.ite (.v 8)
   (.call 24 3 false [] [(.c (.int .i64 2)), (.v 5), (.v 6)]
   (.op (.bin .add false) [(.c (.int .i64 1)), (.v 9)]
   (.ret [(.v 12), (.c (.str [])), (.c (.sl [])), (.v 10), (.v 11)])))
  (.call 24 3 false [] [(.v 0), (.v 5), (.v 6)]
  (.op (.bin .add false) [(.c (.int .i64 97)), (.v 9)]
  (.op (.conv .u8) [(.v 12)]
  (.op (.mk 1 1) [(.v 13)]
  (.op .toS [(.v 14)]
  (.ret [(.c (.int .i64 3)), (.v 15), (.c (.sl [])), (.v 10), (.v 11)]))))))))
 (.op (.mk 1 8) [(.c (.int .i64 4)), (.c (.int .i64 4)), (.c (.int .i64 5)), (.c (.int .i64 5)), (.c (.int .i64 6)), (.c (.int .i64 6)), (.c (.int .i64 7)), (.c (.int .i64 8))]
 (.op (.bin .sub false) [(.v 4), (.c (.int .i64 4))]
 (.op .chk [(.v 8), (.v 9)]
 (.op (.get 0 1) [(.v 8), (.v 9)]
 (.letj 3
  (.op (.bin .eql false) [(.v 10), (.c (.int .i64 4))]
  (.ite (.v 11)
   (.jump 0 [(.c (.int .i64 1)), (.v 5), (.v 6)])
  (.letj 1
   (.op (.bin .eql false) [(.v 10), (.c (.int .i64 5))]
   (.ite (.v 12)
    (.jump 1 [(.c (.bool true))])
   (.op (.bin .eql false) [(.v 10), (.c (.int .i64 6))]
   (.jump 1 [(.v 13)]))))
  ir6p2)))
 ir6p1))))))
def ir6 : IR :=
 (.call 24 3 false [] [(.c (.int .i64 12)), (.v 2), (.v 3)]
 (.letj 1
  (.op (.bin .lss false) [(.v 1), (.c (.int .i64 1))]
  (.ite (.v 7)
   (.jump 0 [(.c (.bool true))])
  (.op (.bin .lss false) [(.v 4), (.c (.int .i64 4))]
  (.jump 0 [(.v 8)]))))
 ir6p3))
theorem rd6 : readFn T SG sigs 3000 sg6 Tryz.f12 an6 = some ir6 := by kernel_rfl
/- 7:deliberationkeep.Src).Set -/
def an7 : Ann := .z
def ir7 : IR :=
 (.call 24 3 false [] [(.c (.int .i64 4)), (.v 0), (.v 1)]
 (.op (.bin .eql false) [(.v 2), (.c (.int .i64 0))]
 (.ite (.v 5)
  (.call 26 3 false [] [(.v 3), (.v 4)]
  (.op (.conv .u64) [(.v 6)]
  (.ret [(.v 9), (.v 7), (.v 8)])))
 (.op (.bin .eql false) [(.v 2), (.c (.int .i64 1))]
 (.ite (.v 6)
  (.call 26 3 false [] [(.v 3), (.v 4)]
  (.op (.conv .u64) [(.v 7)]
  (.call 26 3 false [] [(.v 8), (.v 9)]
  (.op (.conv .u64) [(.v 11)]
  (.op (.bin .and false) [(.v 10), (.v 14)]
  (.ret [(.v 15), (.v 12), (.v 13)]))))))
 (.op (.bin .eql false) [(.v 2), (.c (.int .i64 2))]
 (.ite (.v 7)
  (.call 24 3 false [] [(.c (.int .i64 64)), (.v 3), (.v 4)]
  (.op (.conv .u64) [(.v 8)]
  (.op (.bin .shl false) [(.c (.int .u64 1)), (.v 11)]
  (.call 24 3 false [] [(.c (.int .i64 64)), (.v 9), (.v 10)]
  (.op (.conv .u64) [(.v 13)]
  (.op (.bin .shl false) [(.c (.int .u64 1)), (.v 16)]
  (.op (.bin .or false) [(.v 12), (.v 17)]
  (.ret [(.v 18), (.v 14), (.v 15)]))))))))
 (.call 26 3 false [] [(.v 3), (.v 4)]
 (.op (.conv .u64) [(.v 8)]
 (.op (.bin .mul false) [(.v 11), (.c (.int .u64 11400714819323198485))]
 (.call 26 3 false [] [(.v 9), (.v 10)]
 (.op (.conv .u64) [(.v 13)]
 (.op (.bin .xor false) [(.v 12), (.v 16)]
 (.ret [(.v 17), (.v 14), (.v 15)]))))))))))))))
theorem rd7 : readFn T SG sigs 3000 sg7 Tryz.f13 an7 = some ir7 := by kernel_rfl
/- 8:deliberationlaw33.theory -/
def an8 : Ann := .z
def ir8 : IR :=
 (.call 27 1 false [] [(.v 0)]
 (.op (.bin .and false) [(.v 2), (.v 3)]
 (.call 28 4 false [] [(.v 0), (.v 4)]
 (.ret [(.v 5), (.v 6), (.v 7)]))))
theorem rd8 : readFn T SG sigs 3000 sg8 Tryz.f28 an8 = some ir8 := by kernel_rfl
/- 9:change.Expand -/
def an9 : Ann := .z
def ir9 : IR :=
 (.call 29 3 false [] [(.v 0), (.v 1), (.v 2), (.v 3), (.v 4)]
 (.op (.bin .neq false) [(.v 7), (.c (.int .i64 0))]
 (.ite (.v 8)
  (.ret [(.c (.int .u64 0)), (.v 7)])
 (.call 30 1 false [] [(.v 0), (.v 1)]
 (.op (.bin .and false) [(.v 9), (.v 5)]
 (.ret [(.v 10), (.c (.int .i64 0))]))))))
theorem rd9 : readFn T SG sigs 3000 sg9 Tryz.f29 an9 = some ir9 := by kernel_rfl
/- 10:deliberationref33.Expand -/
def an10 : Ann := .z
def ir10 : IR :=
 (.call 31 4 false [] [(.v 0), (.v 1), (.v 2), (.v 3), (.v 4)]
 (.op (.bin .and false) [(.v 5), (.v 6)]
 (.ret [(.v 9), (.v 8)])))
theorem rd10 : readFn T SG sigs 3000 sg10 Tryz.f30 an10 = some ir10 := by kernel_rfl
/- 11:change.Revise -/
def an11 : Ann := .z
def ir11 : IR :=
 (.call 29 3 false [] [(.v 0), (.v 1), (.v 2), (.v 3), (.v 4)]
 (.op (.bin .neq false) [(.v 7), (.c (.int .i64 0))]
 (.ite (.v 8)
  (.ret [(.c (.int .u64 0)), (.v 7)])
 (.call 32 1 false [] [(.v 0), (.v 1), (.v 5)]
 (.ret [(.v 9), (.c (.int .i64 0))])))))
theorem rd11 : readFn T SG sigs 3000 sg11 Tryz.f31 an11 = some ir11 := by kernel_rfl
/- 12:deliberationref33.Revise -/
def an12 : Ann := .z
def ir12 : IR :=
 (.call 31 4 false [] [(.v 0), (.v 1), (.v 2), (.v 3), (.v 4)]
 (.call 33 1 false [] [(.v 0), (.v 1), (.v 6)]
 (.ret [(.v 9), (.v 8)])))
theorem rd12 : readFn T SG sigs 3000 sg12 Tryz.f32 an12 = some ir12 := by kernel_rfl
/- 13:change.Contract -/
def an13 : Ann := .z
def ir13 : IR :=
 (.call 29 3 false [] [(.v 0), (.v 1), (.v 2), (.v 3), (.v 4)]
 (.op (.bin .neq false) [(.v 7), (.c (.int .i64 0))]
 (.ite (.v 8)
  (.ret [(.c (.int .u64 0)), (.v 7)])
 (.call 30 1 false [] [(.v 0), (.v 1)]
 (.op (.bin .andNot false) [(.v 6), (.v 5)]
 (.call 32 1 false [] [(.v 0), (.v 1), (.v 10)]
 (.op (.bin .or false) [(.v 9), (.v 11)]
 (.ret [(.v 12), (.c (.int .i64 0))]))))))))
theorem rd13 : readFn T SG sigs 3000 sg13 Tryz.f33 an13 = some ir13 := by kernel_rfl
/- 14:deliberationref33.Contract -/
def an14 : Ann := .z
def ir14 : IR :=
 (.call 31 4 false [] [(.v 0), (.v 1), (.v 2), (.v 3), (.v 4)]
 (.call 33 1 false [] [(.v 0), (.v 1), (.v 7)]
 (.op (.bin .or false) [(.v 5), (.v 9)]
 (.ret [(.v 10), (.v 8)]))))
theorem rd14 : readFn T SG sigs 3000 sg14 Tryz.f34 an14 = some ir14 := by kernel_rfl
/- 15:change.Withdraw -/
def an15 : Ann := (.s none .z (.s none .z (.s none .z (.s none .z (.s none .z (.s (some ⟨1, [(0, .junk), (1, .junk), (2, .junk), (3, .junk), (4, .junk), (5, .junk), (6, .junk), (7, .junk), (8, .junk), (9, (.atm (.v 0))), (12, .junk), (13, .junk), (14, .junk), (15, .junk), (16, .junk), (17, .junk), (18, .junk), (19, .junk), (20, .junk), (22, .junk), (23, .junk), (24, .junk), (25, .junk)], [], 2, []⟩) (.s none .z (.b (.l ⟨2, [(0, .junk), (1, .junk), (2, .junk), (3, .junk), (4, .junk), (5, .junk), (7, .junk), (8, .junk), (9, (.atm (.v 0))), (12, .junk), (13, .junk), (14, .junk), (15, .junk), (16, .junk), (17, .junk), (18, .junk), (19, .junk), (20, .junk), (22, .junk), (23, .junk), (24, .junk), (25, .junk), (28, .junk), (31, (.atm (.v 1)))], [], 2, []⟩ .z))) .z))))))
def ir15p0 : IR :=
 (.ret [(.v 11), (.c (.int .i64 0))])
def ir15p1 : IR :=
 (.op (.bin .lss false) [(.v 14), (.v 12)]
 (.ite (.v 15)
  (.op (.row 1) [(.v 11), (.v 14)]
  (.op (.bin .or false) [(.v 13), (.v 16)]
  (.op (.bin .andNot false) [(.v 16), (.v 5)]
  (.op (.bin .neq false) [(.v 18), (.c (.int .u64 0))]
  (.ite (.v 19)
   (.jump 0 [(.v 17)])
  (.op (.bin .add false) [(.v 14), (.c (.int .i64 1))]
  (.jump 1 [(.v 17), (.v 20)])))))))
 (.jump 0 [(.v 13)])))
def ir15 : IR :=
 (.call 29 3 false [] [(.v 0), (.v 1), (.v 2), (.v 3), (.v 4)]
 (.op (.bin .neq false) [(.v 7), (.c (.int .i64 0))]
 (.ite (.v 8)
  (.ret [(.c (.int .u64 0)), (.v 7)])
 (.op (.bin .andNot false) [(.v 6), (.v 5)]
 (.op (.bin .eql false) [(.v 9), (.c (.int .u64 0))]
 (.ite (.v 10)
  (.call 30 1 false [] [(.v 0), (.v 1)]
  (.ret [(.v 11), (.c (.int .i64 0))]))
 (.letj 1
  (.call 34 1 false [] [(.v 0), (.v 1)]
  (.op .lenL [(.v 11)]
  (.loop 2 [(.c (.int .u64 0)), (.c (.int .i64 0))] ir15p1)))
 ir15p0)))))))
theorem rd15 : readFn T SG sigs 3000 sg15 Tryz.f35 an15 = some ir15 := by kernel_rfl
/- 16:deliberationref33.Withdraw -/
def an16 : Ann := (.s none .z (.s none .z (.s none (.s (some ⟨1, [(0, .junk), (1, .junk), (3, .junk), (4, .junk), (5, .junk), (7, .junk), (12, .junk), (13, .junk), (14, .junk), (15, .junk), (16, .junk), (17, .junk), (18, .junk), (19, .junk), (25, (.atm (.v 0)))], [], 2, []⟩) .z .z) (.s none .z (.b (.l ⟨1, [(6, .junk), (9, .junk), (10, (.atm (.v 0))), (25, .junk)], [], 2, []⟩ .z))))))
def ir16p0 : IR :=
 (.call 35 1 false [] [(.v 0), (.v 1), (.c (.int .i64 0)), (.v 10)]
 (.op (.bin .and false) [(.v 11), (.v 7)]
 (.op (.bin .neq false) [(.v 12), (.c (.int .u64 0))]
 (.ite (.v 13)
  (.ret [(.v 11), (.c (.int .i64 0))])
 (.op (.bin .add false) [(.v 10), (.c (.int .i64 1))]
 (.jump 0 [(.v 14)]))))))
def ir16p1 : IR :=
 (.ite (.v 9)
  (.ret [(.v 5), (.v 8)])
 (.loop 1 [(.c (.int .i64 0))] ir16p0))
def ir16 : IR :=
 (.call 31 4 false [] [(.v 0), (.v 1), (.v 2), (.v 3), (.v 4)]
 (.letj 1
  (.op (.bin .neq false) [(.v 8), (.c (.int .i64 0))]
  (.ite (.v 9)
   (.jump 0 [(.c (.bool true))])
  (.op (.bin .eql false) [(.v 7), (.c (.int .u64 0))]
  (.jump 0 [(.v 10)]))))
 ir16p1))
theorem rd16 : readFn T SG sigs 3000 sg16 Tryz.f36 an16 = some ir16 := by kernel_rfl
/- 17:change.Explain -/
def an17 : Ann := .z
def ir17 : IR :=
 (.call 11 2 false [] [(.v 0), (.v 1), (.v 2), (.v 3), (.v 4)]
 (.op (.bin .neq false) [(.v 6), (.c (.int .i64 0))]
 (.ite (.v 7)
  (.ret [(.c (.int .i64 0)), (.c (.str [])), (.c (.sl [])), (.v 6)])
 (.call 36 4 false [] [(.v 0), (.v 5)]
 (.ret [(.v 8), (.v 9), (.v 10), (.v 11)])))))
theorem rd17 : readFn T SG sigs 3000 sg17 Tryz.f37 an17 = some ir17 := by kernel_rfl
/- 18:deliberationref33.Explain -/
def an18 : Ann := .z
def ir18 : IR :=
 (.call 12 2 false [] [(.v 0), (.v 1), (.v 2), (.v 3), (.v 4)]
 (.op (.bin .neq false) [(.v 6), (.c (.int .i64 0))]
 (.ite (.v 7)
  (.ret [(.c (.int .i64 0)), (.c (.str [])), (.c (.sl [])), (.v 6)])
 (.call 28 4 false [] [(.v 0), (.v 5)]
 (.ret [(.v 8), (.v 9), (.v 10), (.v 11)])))))
theorem rd18 : readFn T SG sigs 3000 sg18 Tryz.f38 an18 = some ir18 := by kernel_rfl
/- 19:deliberationlaw33.same -/
def an19 : Ann := (.s none .z (.s none (.s (some ⟨1, [(0, .junk), (1, .junk), (4, .junk), (26, (.atm (.v 0)))], [], 2, []⟩) .z .z) (.s none (.s none .z (.b (.l ⟨1, [(5, (.atm (.v 0))), (26, .junk)], [], 2, []⟩ .z))) .z)))
def ir19p0 : IR :=
 (.op .lenL [(.v 2)]
 (.op (.bin .lss false) [(.v 7), (.v 8)]
 (.ite (.v 9)
  (.op (.row 3) [(.v 2), (.v 7)]
  (.op (.row 3) [(.v 5), (.v 7)]
  (.call 19 1 false [] [(.v 10), (.v 11), (.v 12), (.v 13), (.v 14), (.v 15)]
  (.op (.un .not) [(.v 16)]
  (.ite (.v 17)
   (.ret [(.c (.bool false))])
  (.op (.bin .add false) [(.v 7), (.c (.int .i64 1))]
  (.jump 0 [(.v 18)])))))))
 (.ret [(.c (.bool true))]))))
def ir19p1 : IR :=
 (.ite (.v 6)
  (.ret [(.c (.bool false))])
 (.loop 1 [(.c (.int .i64 0))] ir19p0))
def ir19 : IR :=
 (.letj 1
  (.op (.bin .neq false) [(.v 0), (.v 3)]
  (.ite (.v 6)
   (.jump 0 [(.c (.bool true))])
  (.op (.bin .neq false) [(.v 1), (.v 4)]
  (.ite (.v 7)
   (.jump 0 [(.c (.bool true))])
  (.op .lenL [(.v 2)]
  (.op .lenL [(.v 5)]
  (.op (.bin .neq false) [(.v 8), (.v 9)]
  (.jump 0 [(.v 10)]))))))))
 ir19p1)
theorem rd19 : readFn T SG sigs 3000 sg19 Tryz.f39 an19 = some ir19 := by kernel_rfl
/- 20:deliberationkeep.Nodes -/
def an20 : Ann := (.s none .z (.s none .z (.s none (.s none .z (.b (.l ⟨2, [(0, .junk), (4, .junk), (5, (.atm (.v 0))), (7, .junk), (8, .junk), (10, (.atm (.v 1)))], [], 1, []⟩ .z))) .z)))
def ir20p0 : IR :=
 (.op (.bin .lss false) [(.v 6), (.v 4)]
 (.ite (.v 7)
  (.op (.bin .gtr false) [(.v 5), (.v 3)]
  (.ite (.v 8)
   (.ret [(.v 5)])
  (.op (.row 3) [(.v 2), (.v 6)]
  (.op (.bin .sub false) [(.v 3), (.v 5)]
  (.call 20 1 false [] [(.v 9), (.v 10), (.v 11), (.v 12)]
  (.op (.bin .add false) [(.v 5), (.v 13)]
  (.op (.bin .add false) [(.v 6), (.c (.int .i64 1))]
  (.jump 0 [(.v 14), (.v 15)]))))))))
 (.ret [(.v 5)])))
def ir20 : IR :=
 (.op .lenL [(.v 2)]
 (.loop 2 [(.c (.int .i64 1)), (.c (.int .i64 0))] ir20p0))
theorem rd20 : readFn T SG sigs 3000 sg20 Tryz.f40 an20 = some ir20 := by kernel_rfl
/- 21:deliberationkeep.Levels -/
def an21 : Ann := (.s none .z (.s none .z (.s none .z (.s none (.s none .z (.b (.l ⟨2, [(0, .junk), (4, .junk), (5, (.atm (.v 0))), (7, .junk), (8, .junk), (9, .junk), (10, .junk), (12, (.atm (.v 1)))], [], 1, []⟩ .z))) .z))))
def ir21p0 : IR :=
 (.op (.bin .lss false) [(.v 7), (.v 5)]
 (.ite (.v 8)
  (.op (.row 3) [(.v 2), (.v 7)]
  (.op (.bin .sub false) [(.v 3), (.c (.int .i64 1))]
  (.call 21 1 false [] [(.v 9), (.v 10), (.v 11), (.v 12)]
  (.op (.bin .add false) [(.c (.int .i64 1)), (.v 13)]
  (.op .max [(.v 6), (.v 14)]
  (.op (.bin .add false) [(.v 7), (.c (.int .i64 1))]
  (.jump 0 [(.v 15), (.v 16)])))))))
 (.ret [(.v 6)])))
def ir21 : IR :=
 (.op (.bin .lss false) [(.v 3), (.c (.int .i64 0))]
 (.ite (.v 4)
  (.ret [(.c (.int .i64 0))])
 (.op .lenL [(.v 2)]
 (.loop 2 [(.c (.int .i64 0)), (.c (.int .i64 0))] ir21p0))))
theorem rd21 : readFn T SG sigs 3000 sg21 Tryz.f41 an21 = some ir21 := by kernel_rfl
/- 22:deliberationkeep.short -/
def an22 : Ann := (.s none .z (.s none .z (.s none (.s none .z (.b (.l ⟨1, [(0, .junk), (2, .junk), (4, .junk), (5, .junk), (6, .junk), (7, .junk), (8, .junk), (9, .junk), (11, (.atm (.v 0)))], [], 1, []⟩ .z))) .z)))
def ir22p0 : IR :=
 (.op (.bin .lss false) [(.v 6), (.v 5)]
 (.ite (.v 7)
  (.op (.row 3) [(.v 2), (.v 6)]
  (.call 22 1 false [] [(.v 8), (.v 9), (.v 10)]
  (.op (.un .not) [(.v 11)]
  (.ite (.v 12)
   (.ret [(.c (.bool false))])
  (.op (.bin .add false) [(.v 6), (.c (.int .i64 1))]
  (.jump 0 [(.v 13)]))))))
 (.ret [(.c (.bool true))])))
def ir22 : IR :=
 (.op .lenS [(.v 1)]
 (.op (.bin .gtr false) [(.v 3), (.c (.int .i64 100))]
 (.ite (.v 4)
  (.ret [(.c (.bool false))])
 (.op .lenL [(.v 2)]
 (.loop 1 [(.c (.int .i64 0))] ir22p0)))))
theorem rd22 : readFn T SG sigs 3000 sg22 Tryz.f42 an22 = some ir22 := by kernel_rfl
/- 23:deliberationkeep.Voc -/
def an23 : Ann := (.s none .z (.s none .z (.s none (.s none .z (.b (.l ⟨2, [(2, .junk), (4, (.atm (.v 0)))], [(0, ⟨false, true, 9, 1, (.v 1), []⟩)], 1, [⟨none, 3, 9, 1⟩]⟩ .z))) .z)))
def ir23p0 : IR :=
 (.op (.bin .lss false) [(.v 1), (.v 0)]
 (.ite (.v 3)
  (.op (.bin .add false) [(.c (.int .i64 97)), (.v 1)]
  (.op (.conv .u8) [(.v 4)]
  (.op (.mk 1 1) [(.v 5)]
  (.op .toS [(.v 6)]
  (.op (.mk 1 1) [(.v 7)]
  (.op (.app 1 16) [(.v 2), (.v 8)]
  (.op (.bin .add false) [(.v 1), (.c (.int .i64 1))]
  (.jump 0 [(.v 10), (.v 9)]))))))))
 (.ret [(.v 2)])))
def ir23 : IR :=
 (.loop 2 [(.c (.int .i64 0)), (.c (.sl []))] ir23p0)
theorem rd23 : readFn T SG sigs 3000 sg23 Tryz.f44 an23 = some ir23 := by kernel_rfl
/- 24:deliberationkeep.Src).N -/
def an24 : Ann := .z
def ir24 : IR :=
 (.call 26 3 false [] [(.v 1), (.v 2)]
 (.call 37 1 false [] [(.v 3), (.v 0)]
 (.ret [(.v 6), (.v 4), (.v 5)])))
theorem rd24 : readFn T SG sigs 3000 sg24 Tryz.f11 an24 = some ir24 := by kernel_rfl
/- 25:deliberationref31.Normal -/
def an25 : Ann := (.s none .z (.s none (.s (some ⟨1, [(5, .junk), (21, (.atm (.v 0)))], [], 1, []⟩) .z .z) (.s none .z (.s none (.s none .z (.b (.l ⟨2, [(0, .junk), (7, (.atm (.v 0))), (21, .junk), (24, .junk), (25, .junk), (26, .junk), (27, .junk), (28, .junk), (29, .junk)], [(6, ⟨false, true, 3, 1, (.v 1), []⟩)], 9, []⟩ (.s none .z (.s none (.b (.s none .z (.s none (.s none .z (.b (.l ⟨2, [(9, (.atm (.v 0))), (30, .junk), (31, .junk), (32, .junk), (33, .junk)], [(9, ⟨false, true, 3, 1, (.v 1), []⟩)], 10, [⟨none, 8, 3, 1⟩]⟩ (.s none .z (.s (some ⟨1, [(36, .junk), (37, .junk), (38, .junk), (39, .junk)], [(9, ⟨false, true, 3, 1, (.v 0), []⟩)], 10, []⟩) (.b (.s (some ⟨1, [(36, .junk), (37, .junk), (38, .junk), (39, .junk), (59, (.atm (.v 0)))], [], 10, []⟩) .z .z)) .z))))) .z))) .z))))) .z))))
def ir25p0 : IR :=
 (.op (.bin .add false) [(.v 10), (.c (.int .i64 1))]
 (.jump 1 [(.v 15), (.v 14)]))
def ir25p1 : IR :=
 (.ite (.v 14)
  (.op (.row 1) [(.v 1), (.v 10)]
  (.op (.mk 1 1) [(.v 15)]
  (.op (.app 1 8) [(.v 11), (.v 16)]
  (.jump 2 [(.v 17)]))))
 (.jump 2 [(.v 11)]))
def ir25p2 : IR :=
 (.op .lenL [(.v 1)]
 (.op (.bin .lss false) [(.v 10), (.v 12)]
 (.ite (.v 13)
  (.letj 1
   (.letj 1
    (.op (.row 1) [(.v 1), (.v 10)]
    (.op (.row 1) [(.v 1), (.v 6)]
    (.op (.bin .lss false) [(.v 14), (.v 15)]
    (.ite (.v 16)
     (.op (.row 1) [(.v 1), (.v 10)]
     (.call 39 1 true [] [(.v 11), (.v 17)]
     (.op (.un .not) [(.v 18)]
     (.jump 3 [(.v 19)]))))
    (.jump 3 [(.c (.bool false))])))))
   ir25p1)
  ir25p0)
 (.op .lenL [(.v 11)]
 (.op .chk [(.v 7), (.v 6)]
 (.op (.set 0 1) [(.v 7), (.v 6), (.v 14)]
 (.op (.bin .add false) [(.v 6), (.c (.int .i64 1))]
 (.jump 0 [(.v 16), (.v 15)]))))))))
def ir25p3 : IR :=
 (.op .lenL [(.v 1)]
 (.op (.bin .lss false) [(.v 6), (.v 8)]
 (.ite (.v 9)
  (.loop 2 [(.c (.int .i64 0)), (.c (.sl []))] ir25p2)
 (.ret [(.v 3), (.v 7), (.c (.int .i64 0))]))))
def ir25p4 : IR :=
 (.ite (.v 2)
  (.ret [(.c (.sl [])), (.c (.sl [])), (.c (.int .i64 1))])
 (.op (.app 1 16) [(.c (.sl [])), (.v 0)]
 (.op .lenL [(.v 1)]
 (.op (.mkL 8 [(.int .i64 0)]) [(.v 4)]
 (.loop 2 [(.c (.int .i64 0)), (.v 5)] ir25p3)))))
def ir25 : IR :=
 (.letj 1
  (.call 38 1 false [] [(.v 0)]
  (.op (.un .not) [(.v 2)]
  (.ite (.v 3)
   (.jump 0 [(.c (.bool true))])
  (.op .lenL [(.v 1)]
  (.op .lenL [(.v 0)]
  (.op (.conv .u64) [(.v 5)]
  (.op (.bin .shl false) [(.c (.int .i64 1)), (.v 6)]
  (.op (.bin .neq false) [(.v 4), (.v 7)]
  (.jump 0 [(.v 8)])))))))))
 ir25p4)
theorem rd25 : readFn T SG sigs 3000 sg25 Tryz.f46 an25 = some ir25 := by kernel_rfl
/- 26:deliberationkeep.Src).Raw -/
def an26 : Ann := .z
def ir26 : IR :=
 (.op .lenL [(.v 0)]
 (.op (.bin .geq false) [(.v 1), (.v 2)]
 (.ite (.v 3)
  (.ret [(.c (.int .i64 0)), (.v 0), (.v 1)])
 (.op (.bin .add false) [(.v 1), (.c (.int .i64 1))]
 (.op (.bin .sub false) [(.v 4), (.c (.int .i64 1))]
 (.op (.row 1) [(.v 0), (.v 5)]
 (.ret [(.v 6), (.v 0), (.v 4)])))))))
theorem rd26 : readFn T SG sigs 3000 sg26 Tryz.f48 an26 = some ir26 := by kernel_rfl
/- 27:deliberationref03.All -/
def an27 : Ann := (.s none .z (.s none .z (.s none .z (.s none (.s none .z (.b (.l ⟨2, [(2, .junk), (3, (.atm (.v 0))), (4, (.atm (.v 1))), (5, .junk), (6, .junk), (7, .junk)], [], 0, []⟩ .z))) .z))))
def ir27p0 : IR :=
 (.call 40 1 false [] [(.v 0)]
 (.op (.bin .lss false) [(.v 4), (.v 5)]
 (.ite (.v 6)
  (.op (.conv .u64) [(.v 4)]
  (.op (.bin .shl false) [(.c (.int .u64 1)), (.v 7)]
  (.op (.bin .or false) [(.v 3), (.v 8)]
  (.op (.bin .add false) [(.v 4), (.c (.int .i64 1))]
  (.jump 0 [(.v 9), (.v 10)])))))
 (.ret [(.v 3)]))))
def ir27 : IR :=
 (.call 38 1 false [] [(.v 0)]
 (.op (.un .not) [(.v 1)]
 (.ite (.v 2)
  (.ret [(.c (.int .u64 0))])
 (.loop 2 [(.c (.int .u64 0)), (.c (.int .i64 0))] ir27p0))))
theorem rd27 : readFn T SG sigs 3000 sg27 Tryz.f58 an27 = some ir27 := by kernel_rfl
/- 28:deliberationref03.Theory -/
def an28 : Ann := .z
def ir28 : IR :=
 (.call 38 1 false [] [(.v 0)]
 (.op (.un .not) [(.v 2)]
 (.ite (.v 3)
  (.ret [(.c (.int .i64 0)), (.c (.str [])), (.c (.sl [])), (.c (.int .i64 1))])
 (.call 41 3 false [] [(.v 0), (.v 1)]
 (.ret [(.v 4), (.v 5), (.v 6), (.c (.int .i64 0))])))))
theorem rd28 : readFn T SG sigs 3000 sg28 Tryz.f62 an28 = some ir28 := by kernel_rfl
/- 29:change.models -/
def an29 : Ann := .z
def ir29 : IR :=
 (.call 42 1 false [] [(.v 0), (.v 1)]
 (.op (.bin .neq false) [(.v 5), (.c (.int .i64 0))]
 (.ite (.v 6)
  (.ret [(.c (.int .u64 0)), (.c (.int .u64 0)), (.v 5)])
 (.call 43 2 false [] [(.v 0), (.v 2), (.v 3), (.v 4)]
 (.call 44 1 false [] [(.v 0)]
 (.ret [(.v 7), (.v 9), (.v 8)]))))))
theorem rd29 : readFn T SG sigs 3000 sg29 Tryz.f63 an29 = some ir29 := by kernel_rfl
/- 30:order.Beliefs -/
def an30 : Ann := .z
def ir30 : IR :=
 (.call 32 1 false [] [(.v 0), (.v 1), (.c (.int .u64 18446744073709551615))]
 (.ret [(.v 2)]))
theorem rd30 : readFn T SG sigs 3000 sg30 Tryz.f23 an30 = some ir30 := by kernel_rfl
/- 31:deliberationref33.Sets -/
def an31 : Ann := .z
def ir31 : IR :=
 (.call 45 1 false [] [(.v 0), (.v 1)]
 (.op (.bin .neq false) [(.v 5), (.c (.int .i64 0))]
 (.ite (.v 6)
  (.ret [(.c (.int .u64 0)), (.c (.int .u64 0)), (.c (.int .u64 0)), (.v 5)])
 (.call 46 2 false [] [(.v 0), (.v 2), (.v 3), (.v 4)]
 (.op (.bin .neq false) [(.v 8), (.c (.int .i64 0))]
 (.ite (.v 9)
  (.ret [(.c (.int .u64 0)), (.c (.int .u64 0)), (.c (.int .u64 0)), (.v 8)])
 (.call 47 1 false [] [(.v 0), (.v 1)]
 (.call 27 1 false [] [(.v 0)]
 (.op (.bin .andNot false) [(.v 11), (.v 7)]
 (.ret [(.v 10), (.v 7), (.v 12), (.c (.int .i64 0))]))))))))))
theorem rd31 : readFn T SG sigs 3000 sg31 Tryz.f64 an31 = some ir31 := by kernel_rfl
/- 32:order.Least -/
def an32 : Ann := (.s none .z (.s none (.s none .z (.b (.l ⟨1, [(0, .junk), (2, .junk), (4, .junk), (7, .junk), (10, (.atm (.v 0)))], [], 1, []⟩ .z))) .z))
def ir32p0 : IR :=
 (.op (.bin .lss false) [(.v 5), (.v 4)]
 (.ite (.v 6)
  (.op (.row 1) [(.v 3), (.v 5)]
  (.op (.bin .and false) [(.v 7), (.v 2)]
  (.op (.bin .neq false) [(.v 8), (.c (.int .u64 0))]
  (.ite (.v 9)
   (.op (.bin .and false) [(.v 7), (.v 2)]
   (.ret [(.v 10)]))
  (.op (.bin .add false) [(.v 5), (.c (.int .i64 1))]
  (.jump 0 [(.v 10)]))))))
 (.ret [(.c (.int .u64 0))])))
def ir32 : IR :=
 (.call 34 1 false [] [(.v 0), (.v 1)]
 (.op .lenL [(.v 3)]
 (.loop 1 [(.c (.int .i64 0))] ir32p0)))
theorem rd32 : readFn T SG sigs 3000 sg32 Tryz.f14 an32 = some ir32 := by kernel_rfl
/- 33:deliberationref31.Least -/
def an33 : Ann := (.s none .z (.s none .z (.s none (.s none .z (.b (.l ⟨1, [(0, .junk), (4, .junk), (5, (.atm (.v 0))), (7, .junk), (8, .junk), (9, .junk)], [], 1, []⟩ .z))) .z)))
def ir33p0 : IR :=
 (.call 48 1 false [] [(.v 0), (.v 1)]
 (.op (.bin .leq false) [(.v 5), (.v 6)]
 (.ite (.v 7)
  (.call 35 1 false [] [(.v 0), (.v 1), (.v 5), (.v 5)]
  (.op (.bin .and false) [(.v 8), (.v 2)]
  (.op (.bin .neq false) [(.v 9), (.c (.int .u64 0))]
  (.ite (.v 10)
   (.ret [(.v 9)])
  (.op (.bin .add false) [(.v 5), (.c (.int .i64 1))]
  (.jump 0 [(.v 11)]))))))
 (.ret [(.c (.int .u64 0))]))))
def ir33 : IR :=
 (.call 45 1 false [] [(.v 0), (.v 1)]
 (.op (.bin .neq false) [(.v 3), (.c (.int .i64 0))]
 (.ite (.v 4)
  (.ret [(.c (.int .u64 0))])
 (.loop 1 [(.c (.int .i64 0))] ir33p0))))
theorem rd33 : readFn T SG sigs 3000 sg33 Tryz.f15 an33 = some ir33 := by kernel_rfl
/- 34:order.Levels -/
def an34 : Ann := (.s none .z (.s none .z (.s none .z (.s none (.s none .z (.b (.l ⟨2, [(0, .junk), (1, .junk), (2, .junk), (6, .junk), (7, .junk), (8, .junk), (9, .junk), (10, .junk), (11, .junk), (12, .junk), (13, .junk), (14, .junk), (17, (.atm (.v 0)))], [(1, ⟨false, true, 26, 1, (.v 1), []⟩)], 2, []⟩ .z))) .z))))
def ir34p0 : IR :=
 (.op (.bin .lss false) [(.v 8), (.v 7)]
 (.ite (.v 10)
  (.op (.row 1) [(.v 1), (.v 8)]
  (.op .chk [(.v 9), (.v 11)]
  (.op (.get 0 1) [(.v 9), (.v 11)]
  (.op (.conv .u64) [(.v 8)]
  (.op (.bin .shl false) [(.c (.int .u64 1)), (.v 13)]
  (.op (.bin .or false) [(.v 12), (.v 14)]
  (.op .chk [(.v 9), (.v 11)]
  (.op (.set 0 1) [(.v 9), (.v 11), (.v 15)]
  (.op (.bin .add false) [(.v 8), (.c (.int .i64 1))]
  (.jump 0 [(.v 17), (.v 16)]))))))))))
 (.ret [(.v 9)])))
def ir34 : IR :=
 (.call 42 1 false [] [(.v 0), (.v 1)]
 (.op (.bin .neq false) [(.v 2), (.c (.int .i64 0))]
 (.ite (.v 3)
  (.ret [(.c (.sl []))])
 (.call 49 1 false [] [(.v 1)]
 (.op (.bin .add false) [(.v 4), (.c (.int .i64 1))]
 (.op (.mkL 8 [(.int .u64 0)]) [(.v 5)]
 (.op .lenL [(.v 1)]
 (.loop 2 [(.c (.int .i64 0)), (.v 6)] ir34p0))))))))
theorem rd34 : readFn T SG sigs 3000 sg34 Tryz.f21 an34 = some ir34 := by kernel_rfl
/- 35:deliberationref31.Where -/
def an35 : Ann := (.s none .z (.s none .z (.s none (.s none .z (.b (.l ⟨2, [(0, .junk), (6, .junk), (7, (.atm (.v 0))), (8, (.atm (.v 1)))], [], 1, []⟩ (.s none .z (.s (some ⟨1, [(7, (.atm (.v 0))), (9, .junk), (10, .junk), (11, .junk), (12, .junk), (13, .junk)], [], 1, []⟩) (.b (.s (some ⟨1, [(9, .junk), (10, .junk), (11, .junk), (12, .junk), (13, .junk), (31, (.atm (.v 0)))], [], 1, []⟩) .z .z)) .z))))) .z)))
def ir35p0 : IR :=
 (.op (.bin .add false) [(.v 5), (.c (.int .i64 1))]
 (.jump 0 [(.v 8), (.v 9)]))
def ir35p1 : IR :=
 (.ite (.v 8)
  (.op (.conv .u64) [(.v 5)]
  (.op (.bin .shl false) [(.c (.int .u64 1)), (.v 9)]
  (.op (.bin .or false) [(.v 4), (.v 10)]
  (.jump 1 [(.v 11)]))))
 (.jump 1 [(.v 4)]))
def ir35p2 : IR :=
 (.op .lenL [(.v 1)]
 (.op (.bin .lss false) [(.v 5), (.v 6)]
 (.ite (.v 7)
  (.letj 1
   (.letj 1
    (.op (.row 1) [(.v 1), (.v 5)]
    (.op (.bin .geq false) [(.v 8), (.v 2)]
    (.ite (.v 9)
     (.op (.row 1) [(.v 1), (.v 5)]
     (.op (.bin .leq false) [(.v 10), (.v 3)]
     (.jump 2 [(.v 11)])))
    (.jump 2 [(.c (.bool false))]))))
   ir35p1)
  ir35p0)
 (.ret [(.v 4)]))))
def ir35 : IR :=
 (.loop 2 [(.c (.int .u64 0)), (.c (.int .i64 0))] ir35p2)
theorem rd35 : readFn T SG sigs 3000 sg35 Tryz.f50 an35 = some ir35 := by kernel_rfl
/- 36:world.Theory -/
def an36 : Ann := .z
def ir36 : IR :=
 (.call 50 1 false [] [(.v 0)]
 (.op (.un .not) [(.v 2)]
 (.ite (.v 3)
  (.ret [(.c (.int .i64 0)), (.c (.str [])), (.c (.sl [])), (.c (.int .i64 1))])
 (.call 44 1 false [] [(.v 0)]
 (.op (.bin .and false) [(.v 1), (.v 4)]
 (.call 51 3 false [] [(.v 0), (.v 5)]
 (.ret [(.v 6), (.v 7), (.v 8), (.c (.int .i64 0))])))))))
theorem rd36 : readFn T SG sigs 3000 sg36 Tryz.f65 an36 = some ir36 := by kernel_rfl
/- 37:deliberationkeep.Mod -/
def an37 : Ann := (.s none .z (.s none .z (.s none .z (.s (some ⟨1, [(0, (.atm (.v 0))), (1, .junk), (4, .junk), (5, .junk), (6, .junk), (7, .junk), (8, .junk), (9, .junk)], [], 0, []⟩) .z .z))))
def ir37p0 : IR :=
 (.ret [(.v 4)])
def ir37 : IR :=
 (.op (.bin .lss false) [(.v 1), (.c (.int .i64 1))]
 (.ite (.v 2)
  (.ret [(.c (.int .i64 0))])
 (.op (.bin .rem false) [(.v 0), (.v 1)]
 (.letj 1
  (.op (.bin .lss false) [(.v 3), (.c (.int .i64 0))]
  (.ite (.v 4)
   (.op (.bin .add false) [(.v 3), (.v 1)]
   (.jump 0 [(.v 5)]))
  (.jump 0 [(.v 3)])))
 ir37p0))))
theorem rd37 : readFn T SG sigs 3000 sg37 Tryz.f47 an37 = some ir37 := by kernel_rfl
/- 38:deliberationref03.Valid -/
def an38 : Ann := (.s none .z (.s none (.s none .z (.b (.l ⟨1, [(2, .junk), (3, (.atm (.v 0)))], [], 0, []⟩ (.s none .z (.s none (.b (.s (some ⟨1, [(4, .junk), (5, .junk), (6, .junk), (7, .junk), (31, (.atm (.v 0)))], [], 0, []⟩) .z .z)) .z))))) .z))
def ir38p0 : IR :=
 (.ite (.v 4)
  (.ret [(.c (.bool false))])
 (.op (.bin .add false) [(.v 1), (.c (.int .i64 1))]
 (.jump 0 [(.v 5)])))
def ir38p1 : IR :=
 (.op .lenL [(.v 0)]
 (.op (.bin .lss false) [(.v 1), (.v 2)]
 (.ite (.v 3)
  (.letj 1
   (.op (.row 1) [(.v 0), (.v 1)]
   (.call 52 1 false [] [(.v 4)]
   (.op (.un .not) [(.v 5)]
   (.ite (.v 6)
    (.jump 1 [(.c (.bool true))])
   (.op (.bin .gtr false) [(.v 1), (.c (.int .i64 0))]
   (.ite (.v 7)
    (.op (.row 1) [(.v 0), (.v 1)]
    (.op (.bin .sub false) [(.v 1), (.c (.int .i64 1))]
    (.op (.row 1) [(.v 0), (.v 9)]
    (.op (.bin .leq false) [(.v 8), (.v 10)]
    (.jump 1 [(.v 11)])))))
   (.jump 1 [(.c (.bool false))])))))))
  ir38p0)
 (.op .lenL [(.v 0)]
 (.op (.bin .leq false) [(.v 4), (.c (.int .i64 6))]
 (.ret [(.v 5)]))))))
def ir38 : IR :=
 (.loop 1 [(.c (.int .i64 0))] ir38p1)
theorem rd38 : readFn T SG sigs 3000 sg38 Tryz.f55 an38 = some ir38 := by kernel_rfl
/- 39:deliberationkeep.In -/
def an39 : Ann := (.s none .z (.s none (.s none .z (.b (.l ⟨1, [(4, .junk), (6, .junk), (8, (.atm (.v 0)))], [], 0, []⟩ .z))) .z))
def ir39p0 : IR :=
 (.op (.bin .lss false) [(.v 3), (.v 2)]
 (.ite (.v 4)
  (.op (.row 1) [(.v 0), (.v 3)]
  (.op (.bin .eql false) [(.v 5), (.v 1)]
  (.ite (.v 6)
   (.ret [(.c (.bool true))])
  (.op (.bin .add false) [(.v 3), (.c (.int .i64 1))]
  (.jump 0 [(.v 7)])))))
 (.ret [(.c (.bool false))])))
def ir39 : IR :=
 (.op .lenL [(.v 0)]
 (.loop 1 [(.c (.int .i64 0))] ir39p0))
theorem rd39 : readFn T SG sigs 3000 sg39 Tryz.f56 an39 = some ir39 := by kernel_rfl
/- 40:deliberationref03.count -/
def an40 : Ann := .z
def ir40 : IR :=
 (.op .lenL [(.v 0)]
 (.op (.conv .u64) [(.v 1)]
 (.op (.bin .shl false) [(.c (.int .i64 1)), (.v 2)]
 (.ret [(.v 3)]))))
theorem rd40 : readFn T SG sigs 3000 sg40 Tryz.f79 an40 = some ir40 := by kernel_rfl
/- 41:deliberationref03.theory -/
def an41 : Ann := (.s none .z (.s none .z (.s none .z (.s none .z (.s none .z (.s none .z (.s none (.b (.s none .z (.c .z (.s (some ⟨1, [(0, .junk), (1, .junk), (9, .junk), (10, .junk), (11, .junk), (12, .junk), (13, .junk), (15, .junk), (16, .junk), (17, .junk), (18, .junk), (19, .junk), (20, .junk), (21, .junk), (23, .junk), (24, .junk), (25, .junk), (26, .junk), (27, .junk), (28, .junk), (29, .junk), (30, .junk), (31, .junk), (32, .junk), (33, .junk), (34, .junk), (35, .junk), (36, .junk), (37, .junk), (38, .junk), (39, .junk), (40, .junk), (41, .junk), (42, .junk), (43, .junk), (44, .junk), (45, .junk), (47, (.atm (.v 0)))], [], 18, []⟩) .z (.c .z (.s none .z (.c .z (.s (some ⟨1, [(47, .junk), (57, .junk), (58, .junk), (59, .junk), (60, .junk), (64, (.atm (.v 0)))], [], 18, []⟩) .z .z)))))))) .z)))))))
def ir41p0 : IR :=
 (.ite (.v 26)
  (.ret [(.c (.int .i64 4)), (.c (.str [])), (.v 10)])
 (.op (.bin .eql false) [(.v 14), (.c (.int .i64 2))]
 (.ite (.v 27)
  (.call 55 3 false [] [(.c (.int .i64 5)), (.c (.int .i64 4)), (.c (.str [])), (.v 10), (.v 20), (.v 21), (.v 22)]
  (.ret [(.v 28), (.v 29), (.v 30)]))
 (.op (.bin .eql false) [(.v 20), (.c (.int .i64 1))]
 (.ite (.v 28)
  (.call 55 3 false [] [(.c (.int .i64 6)), (.c (.int .i64 4)), (.c (.str [])), (.v 10), (.v 14), (.v 15), (.v 16)]
  (.ret [(.v 29), (.v 30), (.v 31)]))
 (.op (.bin .eql false) [(.v 20), (.c (.int .i64 2))]
 (.ite (.v 29)
  (.call 55 3 false [] [(.c (.int .i64 5)), (.c (.int .i64 3)), (.v 9), (.c (.sl [])), (.v 14), (.v 15), (.v 16)]
  (.ret [(.v 30), (.v 31), (.v 32)]))
 (.call 55 3 false [] [(.c (.int .i64 5)), (.c (.int .i64 3)), (.v 9), (.c (.sl [])), (.v 14), (.v 15), (.v 16)]
 (.call 55 3 false [] [(.c (.int .i64 5)), (.c (.int .i64 4)), (.c (.str [])), (.v 10), (.v 20), (.v 21), (.v 22)]
 (.call 55 3 false [] [(.c (.int .i64 6)), (.v 30), (.v 31), (.v 32), (.v 33), (.v 34), (.v 35)]
 (.ret [(.v 36), (.v 37), (.v 38)])))))))))))
def ir41p1 : IR :=
 (.ite (.v 24)
  (.ret [(.c (.int .i64 3)), (.v 9), (.c (.sl []))])
 (.op (.bin .eql false) [(.v 14), (.c (.int .i64 1))]
 (.ite (.v 25)
  (.call 55 3 false [] [(.c (.int .i64 6)), (.c (.int .i64 3)), (.v 9), (.c (.sl [])), (.v 20), (.v 21), (.v 22)]
  (.ret [(.v 26), (.v 27), (.v 28)]))
 (.letj 1
  (.op (.bin .eql false) [(.v 14), (.c (.int .i64 2))]
  (.ite (.v 26)
   (.op (.bin .eql false) [(.v 20), (.c (.int .i64 1))]
   (.jump 0 [(.v 27)]))
  (.jump 0 [(.c (.bool false))])))
 ir41p0))))
def ir41 : IR :=
 (.call 27 1 false [] [(.v 0)]
 (.op (.bin .and false) [(.v 1), (.v 2)]
 (.op (.bin .eql false) [(.v 3), (.c (.int .u64 0))]
 (.ite (.v 4)
  (.ret [(.c (.int .i64 2)), (.c (.str [])), (.c (.sl []))])
 (.call 27 1 false [] [(.v 0)]
 (.op (.bin .and false) [(.v 1), (.v 5)]
 (.call 27 1 false [] [(.v 0)]
 (.op (.bin .eql false) [(.v 6), (.v 7)]
 (.ite (.v 8)
  (.ret [(.c (.int .i64 1)), (.c (.str [])), (.c (.sl []))])
 (.op (.row 1) [(.v 0), (.c (.int .i64 0))]
 (.op (.mk 3 1) [(.c (.int .i64 3)), (.v 9), (.c (.sl []))]
 (.op .lenL [(.v 0)]
 (.op (.subL 1) [(.v 0), (.c (.int .i64 1)), (.v 11)]
 (.call 53 1 false [] [(.v 0), (.v 1), (.c (.int .i64 1))]
 (.call 41 3 false [] [(.v 12), (.v 13)]
 (.op .lenL [(.v 0)]
 (.op (.subL 1) [(.v 0), (.c (.int .i64 1)), (.v 17)]
 (.call 53 1 false [] [(.v 0), (.v 1), (.c (.int .i64 0))]
 (.call 41 3 false [] [(.v 18), (.v 19)]
 (.call 54 1 false [] [(.v 14), (.v 15), (.v 16), (.v 20), (.v 21), (.v 22)]
 (.ite (.v 23)
  (.ret [(.v 14), (.v 15), (.v 16)])
 (.letj 1
  (.op (.bin .eql false) [(.v 14), (.c (.int .i64 1))]
  (.ite (.v 24)
   (.op (.bin .eql false) [(.v 20), (.c (.int .i64 2))]
   (.jump 0 [(.v 25)]))
  (.jump 0 [(.c (.bool false))])))
 ir41p1))))))))))))))))))))))
theorem rd41 : readFn T SG sigs 3000 sg41 Tryz.f85 an41 = some ir41 := by kernel_rfl
/- 42:order.Validate -/
def an42 : Ann := (.s none .z (.s none (.s (some ⟨1, [(0, .junk), (2, .junk), (20, (.atm (.v 0)))], [], 1, []⟩) .z .z) (.s none .z (.s none .z (.s none (.s none .z (.b (.l ⟨3, [(1, .junk), (4, (.atm (.v 0))), (20, .junk), (21, .junk), (22, .junk), (23, .junk), (24, .junk), (25, .junk), (28, (.atm (.v 1)))], [(1, ⟨false, true, 4, 1, (.v 2), []⟩)], 2, []⟩ (.s none .z (.s none .z (.s none (.b (.s none .z (.s none (.s (some ⟨1, [(29, .junk), (30, .junk), (31, .junk), (39, (.atm (.v 0)))], [], 2, []⟩) .z .z) .z))) .z)))))) .z)))))
def ir42p0 : IR :=
 (.ite (.v 11)
  (.ret [(.c (.int .i64 8))])
 (.op .max [(.v 6), (.v 10)]
 (.op .chk [(.v 8), (.v 10)]
 (.op (.set 0 1) [(.v 8), (.v 10), (.c (.bool true))]
 (.op (.bin .add false) [(.v 7), (.c (.int .i64 1))]
 (.jump 0 [(.v 12), (.v 14), (.v 13)]))))))
def ir42p1 : IR :=
 (.op (.bin .lss false) [(.v 7), (.v 5)]
 (.ite (.v 9)
  (.op (.row 1) [(.v 1), (.v 7)]
  (.letj 1
   (.op (.bin .lss false) [(.v 10), (.c (.int .i64 0))]
   (.ite (.v 11)
    (.jump 1 [(.c (.bool true))])
   (.op .lenL [(.v 8)]
   (.op (.bin .geq false) [(.v 10), (.v 12)]
   (.jump 1 [(.v 13)])))))
  ir42p0))
 (.op (.subL 1) [(.v 8), (.c (.int .i64 0)), (.v 6)]
 (.call 56 1 false [] [(.v 10), (.c (.bool false))]
 (.ite (.v 11)
  (.ret [(.c (.int .i64 8))])
 (.ret [(.c (.int .i64 0))]))))))
def ir42p2 : IR :=
 (.ite (.v 2)
  (.ret [(.c (.int .i64 1))])
 (.op .lenL [(.v 1)]
 (.op (.mkL 1 [(.bool false)]) [(.v 3)]
 (.op .lenL [(.v 1)]
 (.loop 3 [(.c (.int .i64 0)), (.c (.int .i64 0)), (.v 4)] ir42p1)))))
def ir42 : IR :=
 (.letj 1
  (.call 50 1 false [] [(.v 0)]
  (.op (.un .not) [(.v 2)]
  (.ite (.v 3)
   (.jump 0 [(.c (.bool true))])
  (.op .lenL [(.v 1)]
  (.op .lenL [(.v 0)]
  (.op (.bin .shl false) [(.c (.int .i64 1)), (.v 5)]
  (.op (.bin .neq false) [(.v 4), (.v 6)]
  (.jump 0 [(.v 7)]))))))))
 ir42p2)
theorem rd42 : readFn T SG sigs 3000 sg42 Tryz.f18 an42 = some ir42 := by kernel_rfl
/- 43:world.Models -/
def an43 : Ann := (.s none .z (.s none .z (.s none .z (.s none (.s none .z (.b (.l ⟨1, [(1, .junk), (4, .junk), (5, .junk), (6, .junk), (9, .junk), (10, .junk), (11, .junk), (12, .junk), (13, .junk), (14, .junk), (15, .junk), (17, .junk), (20, (.atm (.v 0)))], [], 1, []⟩ .z))) .z))))
def ir43p0 : IR :=
 (.op (.bin .lss false) [(.v 10), (.v 9)]
 (.ite (.v 11)
  (.op (.row 1) [(.v 8), (.v 10)]
  (.call 59 1 false [] [(.v 0), (.v 12)]
  (.op (.un .not) [(.v 13)]
  (.ite (.v 14)
   (.ret [(.c (.int .u64 0)), (.c (.int .i64 6))])
  (.op (.bin .add false) [(.v 10), (.c (.int .i64 1))]
  (.jump 0 [(.v 15)]))))))
 (.call 60 1 false [] [(.v 0), (.v 1), (.v 2), (.v 3)]
 (.call 44 1 false [] [(.v 0)]
 (.op (.bin .and false) [(.v 12), (.v 13)]
 (.ret [(.v 14), (.c (.int .i64 0))]))))))
def ir43 : IR :=
 (.call 50 1 false [] [(.v 0)]
 (.op (.un .not) [(.v 4)]
 (.ite (.v 5)
  (.ret [(.c (.int .u64 0)), (.c (.int .i64 1))])
 (.call 57 1 false [] [(.v 1), (.v 2), (.v 3)]
 (.op (.bin .neq false) [(.v 6), (.c (.int .i64 0))]
 (.ite (.v 7)
  (.ret [(.c (.int .u64 0)), (.v 6)])
 (.call 58 1 false [] [(.v 1), (.v 2), (.v 3)]
 (.op .lenL [(.v 8)]
 (.loop 1 [(.c (.int .i64 0))] ir43p0)))))))))
theorem rd43 : readFn T SG sigs 3000 sg43 Tryz.f51 an43 = some ir43 := by kernel_rfl
/- 44:world.All -/
def an44 : Ann := .z
def ir44 : IR :=
 (.call 50 1 false [] [(.v 0)]
 (.op (.un .not) [(.v 1)]
 (.ite (.v 2)
  (.ret [(.c (.int .u64 0))])
 (.op .lenL [(.v 0)]
 (.call 61 1 false [] [(.v 3)]
 (.ret [(.v 4)]))))))
theorem rd44 : readFn T SG sigs 3000 sg44 Tryz.f75 an44 = some ir44 := by kernel_rfl
/- 45:deliberationref31.Validate -/
def an45 : Ann := (.s none .z (.s none (.s (some ⟨1, [(0, .junk), (2, .junk), (20, (.atm (.v 0)))], [], 1, []⟩) .z .z) (.s none .z (.s none (.s none .z (.b (.l ⟨2, [(3, (.atm (.v 0))), (4, (.atm (.v 1))), (20, .junk)], [], 1, []⟩ (.s none .z (.s none (.b (.s none (.s (some ⟨1, [(21, .junk), (22, .junk), (23, .junk), (24, .junk), (25, .junk), (44, (.atm (.v 0)))], [], 1, []⟩) .z .z) .z)) .z))))) (.s none (.s none .z (.b (.l ⟨1, [(4, .junk), (5, (.atm (.v 0))), (21, .junk), (22, .junk), (23, .junk), (24, .junk), (25, .junk)], [], 1, []⟩ .z))) .z)))))
def ir45p0 : IR :=
 (.ite (.v 7)
  (.ret [(.c (.int .i64 8))])
 (.op (.row 1) [(.v 1), (.v 4)]
 (.op .max [(.v 3), (.v 8)]
 (.op (.bin .add false) [(.v 4), (.c (.int .i64 1))]
 (.jump 0 [(.v 9), (.v 10)])))))
def ir45p1 : IR :=
 (.op (.bin .lss false) [(.v 7), (.v 3)]
 (.ite (.v 8)
  (.call 39 1 false [] [(.v 1), (.v 7)]
  (.op (.un .not) [(.v 9)]
  (.ite (.v 10)
   (.ret [(.c (.int .i64 8))])
  (.op (.bin .add false) [(.v 7), (.c (.int .i64 1))]
  (.jump 1 [(.v 11)])))))
 (.ret [(.c (.int .i64 0))])))
def ir45p2 : IR :=
 (.op .lenL [(.v 1)]
 (.op (.bin .lss false) [(.v 4), (.v 5)]
 (.ite (.v 6)
  (.letj 1
   (.op (.row 1) [(.v 1), (.v 4)]
   (.op (.bin .lss false) [(.v 7), (.c (.int .i64 0))]
   (.ite (.v 8)
    (.jump 1 [(.c (.bool true))])
   (.op (.row 1) [(.v 1), (.v 4)]
   (.op .lenL [(.v 1)]
   (.op (.bin .geq false) [(.v 9), (.v 10)]
   (.jump 1 [(.v 11)])))))))
  ir45p0)
 (.loop 1 [(.c (.int .i64 0))] ir45p1))))
def ir45p3 : IR :=
 (.ite (.v 2)
  (.ret [(.c (.int .i64 1))])
 (.loop 2 [(.c (.int .i64 0)), (.c (.int .i64 0))] ir45p2))
def ir45 : IR :=
 (.letj 1
  (.call 38 1 false [] [(.v 0)]
  (.op (.un .not) [(.v 2)]
  (.ite (.v 3)
   (.jump 0 [(.c (.bool true))])
  (.op .lenL [(.v 1)]
  (.op .lenL [(.v 0)]
  (.op (.conv .u64) [(.v 5)]
  (.op (.bin .shl false) [(.c (.int .i64 1)), (.v 6)]
  (.op (.bin .neq false) [(.v 4), (.v 7)]
  (.jump 0 [(.v 8)])))))))))
 ir45p3)
theorem rd45 : readFn T SG sigs 3000 sg45 Tryz.f19 an45 = some ir45 := by kernel_rfl
/- 46:deliberationref03.Models -/
def an46 : Ann := (.s none .z (.s none .z (.s none .z (.s none .z (.s none (.s none .z (.b (.l ⟨1, [(1, .junk), (4, .junk), (5, .junk), (6, .junk), (8, (.atm (.v 0))), (11, .junk), (12, .junk), (13, .junk), (14, .junk), (15, .junk), (16, .junk), (17, .junk), (19, .junk), (20, .junk)], [], 1, []⟩ .z))) (.s none .z (.s none (.s none .z (.b (.l ⟨2, [(7, .junk), (8, .junk), (9, (.atm (.v 0))), (10, (.atm (.v 1))), (21, .junk), (22, .junk), (23, .junk), (24, .junk)], [], 1, []⟩ (.s none .z (.s (some ⟨1, [(9, (.atm (.v 0))), (34, .junk), (35, .junk), (36, .junk), (37, .junk)], [], 1, []⟩) .z .z))))) .z)))))))
def ir46p0 : IR :=
 (.op (.bin .add false) [(.v 13), (.c (.int .i64 1))]
 (.jump 1 [(.v 16), (.v 17)]))
def ir46p1 : IR :=
 (.call 40 1 false [] [(.v 0)]
 (.op (.bin .lss false) [(.v 13), (.v 14)]
 (.ite (.v 15)
  (.letj 1
   (.call 65 1 false [] [(.v 0), (.v 13)]
   (.call 66 1 false [] [(.v 1), (.v 2), (.v 3), (.v 16)]
   (.ite (.v 17)
    (.op (.conv .u64) [(.v 13)]
    (.op (.bin .shl false) [(.c (.int .u64 1)), (.v 18)]
    (.op (.bin .or false) [(.v 12), (.v 19)]
    (.jump 2 [(.v 20)]))))
   (.jump 2 [(.v 12)]))))
  ir46p0)
 (.ret [(.v 12), (.c (.int .i64 0))]))))
def ir46p2 : IR :=
 (.op .lenL [(.v 8)]
 (.op (.bin .lss false) [(.v 9), (.v 10)]
 (.ite (.v 11)
  (.op (.row 1) [(.v 8), (.v 9)]
  (.call 64 1 false [] [(.v 0), (.v 12)]
  (.op (.bin .lss false) [(.v 13), (.c (.int .i64 0))]
  (.ite (.v 14)
   (.ret [(.c (.int .u64 0)), (.c (.int .i64 6))])
  (.op (.bin .add false) [(.v 9), (.c (.int .i64 1))]
  (.jump 0 [(.v 15)]))))))
 (.loop 2 [(.c (.int .u64 0)), (.c (.int .i64 0))] ir46p1))))
def ir46 : IR :=
 (.call 38 1 false [] [(.v 0)]
 (.op (.un .not) [(.v 4)]
 (.ite (.v 5)
  (.ret [(.c (.int .u64 0)), (.c (.int .i64 1))])
 (.call 62 1 false [] [(.v 1), (.v 2), (.v 3)]
 (.op (.bin .neq false) [(.v 6), (.c (.int .i64 0))]
 (.ite (.v 7)
  (.ret [(.c (.int .u64 0)), (.v 6)])
 (.call 63 1 false [] [(.v 1), (.v 2), (.v 3)]
 (.loop 1 [(.c (.int .i64 0))] ir46p2))))))))
theorem rd46 : readFn T SG sigs 3000 sg46 Tryz.f52 an46 = some ir46 := by kernel_rfl
/- 47:deliberationref31.Beliefs -/
def an47 : Ann := .z
def ir47 : IR :=
 (.call 27 1 false [] [(.v 0)]
 (.call 33 1 false [] [(.v 0), (.v 1), (.v 2)]
 (.ret [(.v 3)])))
theorem rd47 : readFn T SG sigs 3000 sg47 Tryz.f24 an47 = some ir47 := by kernel_rfl
/- 48:deliberationref31.Most -/
def an48 : Ann := (.s none .z (.s none .z (.s none (.s none .z (.b (.l ⟨2, [(0, .junk), (2, .junk), (3, (.atm (.v 0))), (4, (.atm (.v 1)))], [], 1, []⟩ .z))) .z)))
def ir48p0 : IR :=
 (.op .lenL [(.v 1)]
 (.op (.bin .lss false) [(.v 3), (.v 4)]
 (.ite (.v 5)
  (.op (.row 1) [(.v 1), (.v 3)]
  (.op .max [(.v 2), (.v 6)]
  (.op (.bin .add false) [(.v 3), (.c (.int .i64 1))]
  (.jump 0 [(.v 7), (.v 8)]))))
 (.ret [(.v 2)]))))
def ir48 : IR :=
 (.loop 2 [(.c (.int .i64 0)), (.c (.int .i64 0))] ir48p0)
theorem rd48 : readFn T SG sigs 3000 sg48 Tryz.f49 an48 = some ir48 := by kernel_rfl
/- 49:slices.Max[[]int,int] -/
def an49 : Ann := (.s none .z (.s none .z (.s none .z (.s none (.s none .z (.b (.l ⟨2, [(2, .junk), (3, (.atm (.v 0))), (4, (.atm (.v 1))), (5, .junk), (6, .junk), (7, .junk), (9, .junk), (10, .junk), (11, .junk)], [], 0, []⟩ .z))) .z))))
def ir49p0 : IR :=
 (.op .lenL [(.v 0)]
 (.op (.bin .lss false) [(.v 5), (.v 6)]
 (.ite (.v 7)
  (.op (.row 1) [(.v 0), (.v 5)]
  (.op .max [(.v 4), (.v 8)]
  (.op (.bin .add false) [(.v 5), (.c (.int .i64 1))]
  (.jump 0 [(.v 9), (.v 10)]))))
 (.ret [(.v 4)]))))
def ir49 : IR :=
 (.op .lenL [(.v 0)]
 (.op (.bin .lss false) [(.v 1), (.c (.int .i64 1))]
 (.ite (.v 2)
  .fail
 (.op (.row 1) [(.v 0), (.c (.int .i64 0))]
 (.loop 2 [(.v 3), (.c (.int .i64 1))] ir49p0)))))
theorem rd49 : readFn T SG sigs 3000 sg49 Tryz.f57 an49 = some ir49 := by kernel_rfl
/- 50:world.Valid -/
def an50 : Ann := (.s none .z (.s none .z (.s none (.s none .z (.b (.l ⟨1, [(2, .junk), (5, .junk), (6, .junk), (7, .junk), (10, (.atm (.v 0)))], [], 0, []⟩ (.s none .z (.s none .z (.s none (.b (.s none .z (.s (some ⟨1, [(3, .junk), (4, .junk), (11, .junk), (12, .junk), (13, .junk), (14, .junk), (30, (.atm (.v 0)))], [], 0, []⟩) .z .z))) .z)))))) .z)))
def ir50p0 : IR :=
 (.ite (.v 7)
  (.ret [(.c (.bool false))])
 (.op (.bin .add false) [(.v 4), (.c (.int .i64 1))]
 (.jump 0 [(.v 8)])))
def ir50p1 : IR :=
 (.op (.bin .lss false) [(.v 4), (.v 3)]
 (.ite (.v 5)
  (.op (.row 1) [(.v 0), (.v 4)]
  (.letj 1
   (.call 67 1 false [] [(.v 6)]
   (.op (.un .not) [(.v 7)]
   (.ite (.v 8)
    (.jump 1 [(.c (.bool true))])
   (.op (.bin .gtr false) [(.v 4), (.c (.int .i64 0))]
   (.ite (.v 9)
    (.op (.bin .sub false) [(.v 4), (.c (.int .i64 1))]
    (.op (.row 1) [(.v 0), (.v 10)]
    (.op (.bin .geq false) [(.v 11), (.v 6)]
    (.jump 1 [(.v 12)]))))
   (.jump 1 [(.c (.bool false))]))))))
  ir50p0))
 (.ret [(.c (.bool true))])))
def ir50 : IR :=
 (.op .lenL [(.v 0)]
 (.op (.bin .gtr false) [(.v 1), (.c (.int .i64 6))]
 (.ite (.v 2)
  (.ret [(.c (.bool false))])
 (.op .lenL [(.v 0)]
 (.loop 1 [(.c (.int .i64 0))] ir50p1)))))
theorem rd50 : readFn T SG sigs 3000 sg50 Tryz.f53 an50 = some ir50 := by kernel_rfl
/- 51:world.theory -/
def an51 : Ann := (.s none .z (.s none .z (.s none .z (.s none .z (.s none .z (.s none .z (.s none .z (.s none .z (.s none .z (.s none (.b (.s (some ⟨1, [(0, .junk), (1, .junk), (5, .junk), (12, .junk), (13, .junk), (14, .junk), (15, .junk), (16, .junk), (17, .junk), (19, .junk), (20, .junk), (21, .junk), (23, .junk), (24, .junk), (25, .junk), (26, .junk), (27, .junk), (28, .junk), (29, .junk), (30, .junk), (31, .junk), (32, .junk), (36, .junk), (37, .junk), (38, .junk), (39, .junk), (40, .junk), (41, .junk), (42, .junk), (43, .junk), (44, .junk), (45, .junk), (46, .junk), (47, .junk), (48, .junk), (49, (.atm (.v 0)))], [], 4, []⟩) .z (.c .z (.s none .z (.c .z (.s (some ⟨1, [(49, .junk), (58, .junk), (59, .junk), (60, .junk), (61, .junk), (67, (.atm (.v 0)))], [], 4, []⟩) .z .z)))))) .z))))))))))
def ir51p0 : IR :=
 (.ite (.v 18)
  (.ret [(.c (.int .i64 4)), (.c (.str [])), (.v 13)])
 (.op (.bin .eql false) [(.v 8), (.c (.int .u64 0))]
 (.ite (.v 19)
  (.call 51 3 false [] [(.v 7), (.v 9)]
  (.call 69 3 false [] [(.c (.int .i64 5)), (.c (.int .i64 4)), (.c (.str [])), (.v 13), (.v 20), (.v 21), (.v 22)]
  (.ret [(.v 23), (.v 24), (.v 25)])))
 (.op (.bin .eql false) [(.v 9), (.v 15)]
 (.ite (.v 20)
  (.call 51 3 false [] [(.v 7), (.v 8)]
  (.call 69 3 false [] [(.c (.int .i64 6)), (.c (.int .i64 4)), (.c (.str [])), (.v 13), (.v 21), (.v 22), (.v 23)]
  (.ret [(.v 24), (.v 25), (.v 26)])))
 (.op (.bin .eql false) [(.v 9), (.c (.int .u64 0))]
 (.ite (.v 21)
  (.call 51 3 false [] [(.v 7), (.v 8)]
  (.call 69 3 false [] [(.c (.int .i64 5)), (.c (.int .i64 3)), (.v 11), (.c (.sl [])), (.v 22), (.v 23), (.v 24)]
  (.ret [(.v 25), (.v 26), (.v 27)])))
 (.call 51 3 false [] [(.v 7), (.v 8)]
 (.call 69 3 false [] [(.c (.int .i64 5)), (.c (.int .i64 3)), (.v 11), (.c (.sl [])), (.v 22), (.v 23), (.v 24)]
 (.call 51 3 false [] [(.v 7), (.v 9)]
 (.call 69 3 false [] [(.c (.int .i64 5)), (.c (.int .i64 4)), (.c (.str [])), (.v 13), (.v 28), (.v 29), (.v 30)]
 (.call 69 3 false [] [(.c (.int .i64 6)), (.v 25), (.v 26), (.v 27), (.v 31), (.v 32), (.v 33)]
 (.ret [(.v 34), (.v 35), (.v 36)])))))))))))))
def ir51p1 : IR :=
 (.ite (.v 16)
  (.ret [(.c (.int .i64 3)), (.v 11), (.c (.sl []))])
 (.op (.bin .eql false) [(.v 8), (.v 15)]
 (.ite (.v 17)
  (.call 51 3 false [] [(.v 7), (.v 9)]
  (.call 69 3 false [] [(.c (.int .i64 6)), (.c (.int .i64 3)), (.v 11), (.c (.sl [])), (.v 18), (.v 19), (.v 20)]
  (.ret [(.v 21), (.v 22), (.v 23)])))
 (.letj 1
  (.op (.bin .eql false) [(.v 8), (.c (.int .u64 0))]
  (.ite (.v 18)
   (.op (.bin .eql false) [(.v 9), (.v 15)]
   (.jump 0 [(.v 19)]))
  (.jump 0 [(.c (.bool false))])))
 ir51p0))))
def ir51 : IR :=
 (.op .lenL [(.v 0)]
 (.call 61 1 false [] [(.v 2)]
 (.op (.bin .eql false) [(.v 1), (.c (.int .u64 0))]
 (.ite (.v 4)
  (.ret [(.c (.int .i64 2)), (.c (.str [])), (.c (.sl []))])
 (.op (.bin .eql false) [(.v 1), (.v 3)]
 (.ite (.v 5)
  (.ret [(.c (.int .i64 1)), (.c (.str [])), (.c (.sl []))])
 (.op .lenL [(.v 0)]
 (.op (.subL 1) [(.v 0), (.c (.int .i64 1)), (.v 6)]
 (.call 68 2 false [] [(.v 1)]
 (.op (.bin .eql false) [(.v 8), (.v 9)]
 (.ite (.v 10)
  (.call 51 3 false [] [(.v 7), (.v 8)]
  (.ret [(.v 11), (.v 12), (.v 13)]))
 (.op (.row 1) [(.v 0), (.c (.int .i64 0))]
 (.op (.row 1) [(.v 0), (.c (.int .i64 0))]
 (.op (.mk 3 1) [(.c (.int .i64 3)), (.v 12), (.c (.sl []))]
 (.op .lenL [(.v 7)]
 (.call 61 1 false [] [(.v 14)]
 (.letj 1
  (.op (.bin .eql false) [(.v 8), (.v 15)]
  (.ite (.v 16)
   (.op (.bin .eql false) [(.v 9), (.c (.int .u64 0))]
   (.jump 0 [(.v 17)]))
  (.jump 0 [(.c (.bool false))])))
 ir51p1)))))))))))))))))
theorem rd51 : readFn T SG sigs 3000 sg51 Tryz.f86 an51 = some ir51 := by kernel_rfl
/- 52:deliberationref01.ValidName -/
def an52 : Ann := (.s none .z (.s none (.s (some ⟨1, [(2, .junk), (21, (.atm (.v 0)))], [], 0, []⟩) .z .z) (.s none (.s none .z (.b (.l ⟨1, [(3, (.atm (.v 0))), (21, .junk)], [], 0, []⟩ (.s none .z (.s none (.b (.s (some ⟨1, [(22, .junk), (23, .junk), (24, .junk), (25, .junk), (55, (.atm (.v 0)))], [], 0, []⟩) .z .z)) .z))))) .z)))
def ir52p0 : IR :=
 (.ite (.v 5)
  (.ret [(.c (.bool false))])
 (.op (.bin .add false) [(.v 2), (.c (.int .i64 1))]
 (.jump 0 [(.v 6)])))
def ir52p1 : IR :=
 (.op .lenS [(.v 0)]
 (.op (.bin .lss false) [(.v 2), (.v 3)]
 (.ite (.v 4)
  (.letj 1
   (.op .idxS [(.v 0), (.v 2)]
   (.op (.bin .lss false) [(.v 5), (.c (.int .u8 97))]
   (.ite (.v 6)
    (.op .idxS [(.v 0), (.v 2)]
    (.op (.bin .lss false) [(.v 7), (.c (.int .u8 48))]
    (.ite (.v 8)
     (.op .idxS [(.v 0), (.v 2)]
     (.op (.bin .neq false) [(.v 9), (.c (.int .u8 95))]
     (.jump 1 [(.v 10)])))
    (.op .idxS [(.v 0), (.v 2)]
    (.op (.bin .gtr false) [(.v 9), (.c (.int .u8 57))]
    (.ite (.v 10)
     (.op .idxS [(.v 0), (.v 2)]
     (.op (.bin .neq false) [(.v 11), (.c (.int .u8 95))]
     (.jump 1 [(.v 12)])))
    (.jump 1 [(.c (.bool false))])))))))
   (.op .idxS [(.v 0), (.v 2)]
   (.op (.bin .gtr false) [(.v 7), (.c (.int .u8 122))]
   (.ite (.v 8)
    (.op .idxS [(.v 0), (.v 2)]
    (.op (.bin .lss false) [(.v 9), (.c (.int .u8 48))]
    (.ite (.v 10)
     (.op .idxS [(.v 0), (.v 2)]
     (.op (.bin .neq false) [(.v 11), (.c (.int .u8 95))]
     (.jump 1 [(.v 12)])))
    (.op .idxS [(.v 0), (.v 2)]
    (.op (.bin .gtr false) [(.v 11), (.c (.int .u8 57))]
    (.ite (.v 12)
     (.op .idxS [(.v 0), (.v 2)]
     (.op (.bin .neq false) [(.v 13), (.c (.int .u8 95))]
     (.jump 1 [(.v 14)])))
    (.jump 1 [(.c (.bool false))])))))))
   (.jump 1 [(.c (.bool false))])))))))
  ir52p0)
 (.ret [(.c (.bool true))]))))
def ir52p2 : IR :=
 (.ite (.v 1)
  (.ret [(.c (.bool false))])
 (.loop 1 [(.c (.int .i64 0))] ir52p1))
def ir52 : IR :=
 (.letj 1
  (.op .lenS [(.v 0)]
  (.op (.bin .lss false) [(.v 1), (.c (.int .i64 1))]
  (.ite (.v 2)
   (.jump 0 [(.c (.bool true))])
  (.op .lenS [(.v 0)]
  (.op (.bin .gtr false) [(.v 3), (.c (.int .i64 12))]
  (.ite (.v 4)
   (.jump 0 [(.c (.bool true))])
  (.op .idxS [(.v 0), (.c (.int .i64 0))]
  (.op (.bin .lss false) [(.v 5), (.c (.int .u8 97))]
  (.ite (.v 6)
   (.jump 0 [(.c (.bool true))])
  (.op .idxS [(.v 0), (.c (.int .i64 0))]
  (.op (.bin .gtr false) [(.v 7), (.c (.int .u8 122))]
  (.jump 0 [(.v 8)]))))))))))))
 ir52p2)
theorem rd52 : readFn T SG sigs 3000 sg52 Tryz.f84 an52 = some ir52 := by kernel_rfl
/- 53:deliberationref03.half -/
def an53 : Ann := (.s none .z (.s none .z (.s none (.s none .z (.b (.l ⟨2, [(6, .junk), (7, (.atm (.v 0))), (8, (.atm (.v 1)))], [], 0, []⟩ (.s none .z (.s (some ⟨1, [(7, (.atm (.v 0))), (9, .junk), (10, .junk), (11, .junk), (12, .junk)], [], 0, []⟩) (.b (.s (some ⟨1, [(9, .junk), (10, .junk), (11, .junk), (12, .junk), (23, (.atm (.v 0)))], [], 0, []⟩) .z .z)) .z))))) .z)))
def ir53p0 : IR :=
 (.op (.bin .add false) [(.v 4), (.c (.int .i64 1))]
 (.jump 0 [(.v 7), (.v 8)]))
def ir53p1 : IR :=
 (.ite (.v 7)
  (.op (.bin .shr false) [(.v 4), (.c (.int .u64 1))]
  (.op (.conv .u64) [(.v 8)]
  (.op (.bin .shl false) [(.c (.int .u64 1)), (.v 9)]
  (.op (.bin .or false) [(.v 3), (.v 10)]
  (.jump 1 [(.v 11)])))))
 (.jump 1 [(.v 3)]))
def ir53p2 : IR :=
 (.call 40 1 false [] [(.v 0)]
 (.op (.bin .lss false) [(.v 4), (.v 5)]
 (.ite (.v 6)
  (.letj 1
   (.letj 1
    (.call 70 1 false [] [(.v 1), (.v 4)]
    (.ite (.v 7)
     (.op (.bin .and false) [(.v 4), (.c (.int .i64 1))]
     (.op (.bin .eql false) [(.v 8), (.v 2)]
     (.jump 2 [(.v 9)])))
    (.jump 2 [(.c (.bool false))])))
   ir53p1)
  ir53p0)
 (.ret [(.v 3)]))))
def ir53 : IR :=
 (.loop 2 [(.c (.int .u64 0)), (.c (.int .i64 0))] ir53p2)
theorem rd53 : readFn T SG sigs 3000 sg53 Tryz.f109 an53 = some ir53 := by kernel_rfl
/- 54:deliberationref02.Same -/
def an54 : Ann := (.s none .z (.s none (.s (some ⟨1, [(0, .junk), (1, .junk), (4, .junk), (26, (.atm (.v 0)))], [], 2, []⟩) .z .z) (.s none (.s none .z (.b (.l ⟨1, [(5, (.atm (.v 0))), (26, .junk)], [], 2, []⟩ .z))) .z)))
def ir54p0 : IR :=
 (.op .lenL [(.v 2)]
 (.op (.bin .lss false) [(.v 7), (.v 8)]
 (.ite (.v 9)
  (.op (.row 3) [(.v 2), (.v 7)]
  (.op (.row 3) [(.v 5), (.v 7)]
  (.call 54 1 false [] [(.v 10), (.v 11), (.v 12), (.v 13), (.v 14), (.v 15)]
  (.op (.un .not) [(.v 16)]
  (.ite (.v 17)
   (.ret [(.c (.bool false))])
  (.op (.bin .add false) [(.v 7), (.c (.int .i64 1))]
  (.jump 0 [(.v 18)])))))))
 (.ret [(.c (.bool true))]))))
def ir54p1 : IR :=
 (.ite (.v 6)
  (.ret [(.c (.bool false))])
 (.loop 1 [(.c (.int .i64 0))] ir54p0))
def ir54 : IR :=
 (.letj 1
  (.op (.bin .neq false) [(.v 0), (.v 3)]
  (.ite (.v 6)
   (.jump 0 [(.c (.bool true))])
  (.op (.bin .neq false) [(.v 1), (.v 4)]
  (.ite (.v 7)
   (.jump 0 [(.c (.bool true))])
  (.op .lenL [(.v 2)]
  (.op .lenL [(.v 5)]
  (.op (.bin .neq false) [(.v 8), (.v 9)]
  (.jump 0 [(.v 10)]))))))))
 ir54p1)
theorem rd54 : readFn T SG sigs 3000 sg54 Tryz.f110 an54 = some ir54 := by kernel_rfl
/- 55:deliberationref03.pair -/
def an55 : Ann := .z
def ir55 : IR :=
 (.op (.mk 3 2) [(.v 1), (.v 2), (.v 3), (.v 4), (.v 5), (.v 6)]
 (.ret [(.v 0), (.c (.str [])), (.v 7)]))
theorem rd55 : readFn T SG sigs 3000 sg55 Tryz.f111 an55 = some ir55 := by kernel_rfl
/- 56:slices.Contains[[]bool,bool] -/
def an56 : Ann := .z
def ir56 : IR :=
 (.call 71 1 false [] [(.v 0), (.v 1)]
 (.op (.bin .geq false) [(.v 2), (.c (.int .i64 0))]
 (.ret [(.v 3)])))
theorem rd56 : readFn T SG sigs 3000 sg56 Tryz.f54 an56 = some ir56 := by kernel_rfl
/- 57:formula.Validate -/
def an57 : Ann := (.s none .z (.s none (.b (.s (some ⟨1, [(0, .junk), (2, .junk), (3, (.atm (.v 0)))], [], 1, []⟩) .z .z)) .z))
def ir57p0 : IR :=
 (.ite (.v 3)
  (.ret [(.c (.int .i64 2))])
 (.call 74 1 false [] [(.v 0), (.v 1), (.v 2)]
 (.op (.un .not) [(.v 4)]
 (.ite (.v 5)
  (.ret [(.c (.int .i64 4))])
 (.call 75 1 false [] [(.v 0), (.v 1), (.v 2)]
 (.op (.un .not) [(.v 6)]
 (.ite (.v 7)
  (.ret [(.c (.int .i64 3))])
 (.ret [(.c (.int .i64 0))]))))))))
def ir57 : IR :=
 (.letj 1
  (.call 72 1 false [] [(.v 0), (.v 1), (.v 2)]
  (.op (.bin .gtr false) [(.v 3), (.c (.int .i64 600))]
  (.ite (.v 4)
   (.jump 0 [(.c (.bool true))])
  (.call 73 1 false [] [(.v 0), (.v 1), (.v 2)]
  (.op (.bin .gtr false) [(.v 5), (.c (.int .i64 20))]
  (.jump 0 [(.v 6)]))))))
 ir57p0)
theorem rd57 : readFn T SG sigs 3000 sg57 Tryz.f71 an57 = some ir57 := by kernel_rfl
/- 58:formula.Atoms: not read -/
/- 59:slices.Contains[[]string,string] -/
def an59 : Ann := .z
def ir59 : IR :=
 (.call 76 1 false [] [(.v 0), (.v 1)]
 (.op (.bin .geq false) [(.v 2), (.c (.int .i64 0))]
 (.ret [(.v 3)])))
theorem rd59 : readFn T SG sigs 3000 sg59 Tryz.f73 an59 = some ir59 := by kernel_rfl
/- 60:world.models -/
def an60 : Ann := (.s none .z (.s none (.s none .z (.b (.s none .z (.c .z (.s none .z (.c .z (.s none .z (.c .z (.s none .z (.c .z (.s none .z (.c .z (.s none .z (.c (.s none .z (.s none (.s none .z (.b (.l ⟨2, [(1, .junk), (3, .junk), (4, .junk), (5, (.atm (.v 0))), (11, .junk), (12, .junk), (13, .junk), (14, .junk), (15, .junk), (16, .junk), (22, .junk), (23, .junk), (31, .junk), (32, .junk), (47, .junk), (48, .junk), (63, .junk), (64, .junk), (65, .junk), (68, (.atm (.v 1)))], [], 1, []⟩ .z))) .z)) .z)))))))))))))) (.s none .z (.s none (.s none .z (.b (.l ⟨2, [(1, .junk), (3, .junk), (4, .junk), (8, (.atm (.v 0))), (11, .junk), (12, .junk), (13, .junk), (14, .junk), (15, .junk), (16, .junk), (22, .junk), (23, .junk), (31, .junk), (32, .junk), (47, .junk), (48, .junk), (63, .junk), (64, .junk), (79, .junk), (82, (.atm (.v 1)))], [], 1, []⟩ .z))) .z))))
def ir60p0 : IR :=
 (.op (.bin .lss false) [(.v 12), (.v 10)]
 (.ite (.v 13)
  (.op (.row 3) [(.v 3), (.v 12)]
  (.call 60 1 false [] [(.v 0), (.v 14), (.v 15), (.v 16)]
  (.op (.bin .and false) [(.v 11), (.v 17)]
  (.op (.bin .add false) [(.v 12), (.c (.int .i64 1))]
  (.jump 0 [(.v 18), (.v 19)])))))
 (.ret [(.v 11)])))
def ir60p1 : IR :=
 (.op (.bin .lss false) [(.v 12), (.v 10)]
 (.ite (.v 13)
  (.op (.row 3) [(.v 3), (.v 12)]
  (.call 60 1 false [] [(.v 0), (.v 14), (.v 15), (.v 16)]
  (.op (.bin .or false) [(.v 11), (.v 17)]
  (.op (.bin .add false) [(.v 12), (.c (.int .i64 1))]
  (.jump 0 [(.v 18), (.v 19)])))))
 (.ret [(.v 11)])))
def ir60 : IR :=
 (.op (.bin .eql false) [(.v 1), (.c (.int .i64 1))]
 (.ite (.v 4)
  (.ret [(.c (.int .u64 18446744073709551615))])
 (.op (.bin .eql false) [(.v 1), (.c (.int .i64 3))]
 (.ite (.v 5)
  (.call 76 1 false [] [(.v 0), (.v 2)]
  (.call 77 1 false [] [(.v 6)]
  (.ret [(.v 7)])))
 (.op (.bin .eql false) [(.v 1), (.c (.int .i64 4))]
 (.ite (.v 6)
  (.op (.row 3) [(.v 3), (.c (.int .i64 0))]
  (.call 60 1 false [] [(.v 0), (.v 7), (.v 8), (.v 9)]
  (.op (.un .xor) [(.v 10)]
  (.ret [(.v 11)]))))
 (.op (.bin .eql false) [(.v 1), (.c (.int .i64 7))]
 (.ite (.v 7)
  (.op (.row 3) [(.v 3), (.c (.int .i64 0))]
  (.call 60 1 false [] [(.v 0), (.v 8), (.v 9), (.v 10)]
  (.op (.un .xor) [(.v 11)]
  (.op (.row 3) [(.v 3), (.c (.int .i64 1))]
  (.call 60 1 false [] [(.v 0), (.v 13), (.v 14), (.v 15)]
  (.op (.bin .or false) [(.v 12), (.v 16)]
  (.ret [(.v 17)])))))))
 (.op (.bin .eql false) [(.v 1), (.c (.int .i64 8))]
 (.ite (.v 8)
  (.op (.row 3) [(.v 3), (.c (.int .i64 0))]
  (.call 60 1 false [] [(.v 0), (.v 9), (.v 10), (.v 11)]
  (.op (.row 3) [(.v 3), (.c (.int .i64 1))]
  (.call 60 1 false [] [(.v 0), (.v 13), (.v 14), (.v 15)]
  (.op (.bin .xor false) [(.v 12), (.v 16)]
  (.op (.un .xor) [(.v 17)]
  (.ret [(.v 18)])))))))
 (.op (.bin .eql false) [(.v 1), (.c (.int .i64 5))]
 (.ite (.v 9)
  (.op .lenL [(.v 3)]
  (.loop 2 [(.c (.int .u64 18446744073709551615)), (.c (.int .i64 0))] ir60p0))
 (.op .lenL [(.v 3)]
 (.loop 2 [(.c (.int .u64 0)), (.c (.int .i64 0))] ir60p1))))))))))))))
theorem rd60 : readFn T SG sigs 3000 sg60 Tryz.f74 an60 = some ir60 := by kernel_rfl
/- 61:world.whole -/
def an61 : Ann := .z
def ir61 : IR :=
 (.op (.bin .shl false) [(.c (.int .u64 1)), (.v 0)]
 (.op (.bin .sub false) [(.c (.int .u64 64)), (.v 1)]
 (.op (.bin .shr false) [(.c (.int .u64 18446744073709551615)), (.v 2)]
 (.ret [(.v 3)]))))
theorem rd61 : readFn T SG sigs 3000 sg61 Tryz.f102 an61 = some ir61 := by kernel_rfl
/- 62:deliberationref02.Validate -/
def an62 : Ann := (.s none .z (.s none (.s (some ⟨1, [(0, .junk), (2, .junk), (10, (.atm (.v 0)))], [], 1, []⟩) .z .z) .z))
def ir62p0 : IR :=
 (.ite (.v 3)
  (.ret [(.c (.int .i64 2))])
 (.call 80 1 false [] [(.v 0), (.v 1), (.v 2)]
 (.op (.un .not) [(.v 4)]
 (.ite (.v 5)
  (.ret [(.c (.int .i64 4))])
 (.call 81 1 false [] [(.v 0), (.v 1), (.v 2)]
 (.op (.un .not) [(.v 6)]
 (.ite (.v 7)
  (.ret [(.c (.int .i64 3))])
 (.ret [(.c (.int .i64 0))]))))))))
def ir62 : IR :=
 (.letj 1
  (.call 78 1 false [] [(.v 0), (.v 1), (.v 2)]
  (.op (.bin .gtr false) [(.v 3), (.c (.int .i64 600))]
  (.ite (.v 4)
   (.jump 0 [(.c (.bool true))])
  (.call 79 1 false [] [(.v 0), (.v 1), (.v 2)]
  (.op (.bin .gtr false) [(.v 5), (.c (.int .i64 20))]
  (.jump 0 [(.v 6)]))))))
 ir62p0)
theorem rd62 : readFn T SG sigs 3000 sg62 Tryz.f76 an62 = some ir62 := by kernel_rfl
/- 63:deliberationref02.Atoms -/
def an63 : Ann := .z
def ir63 : IR :=
 (.call 82 1 false [] [(.c (.sl [])), (.v 0), (.v 1), (.v 2)]
 (.ret [(.v 3)]))
theorem rd63 : readFn T SG sigs 3000 sg63 Tryz.f77 an63 = some ir63 := by kernel_rfl
/- 64:deliberationref03.index -/
def an64 : Ann := (.s none .z (.s none (.s none .z (.b (.l ⟨1, [(4, .junk), (5, (.atm (.v 0)))], [], 0, []⟩ .z))) .z))
def ir64p0 : IR :=
 (.op .lenL [(.v 0)]
 (.op (.bin .lss false) [(.v 2), (.v 3)]
 (.ite (.v 4)
  (.op (.row 1) [(.v 0), (.v 2)]
  (.op (.bin .eql false) [(.v 5), (.v 1)]
  (.ite (.v 6)
   (.ret [(.v 2)])
  (.op (.bin .add false) [(.v 2), (.c (.int .i64 1))]
  (.jump 0 [(.v 7)])))))
 (.ret [(.c (.int .i64 (-1)))]))))
def ir64 : IR :=
 (.loop 1 [(.c (.int .i64 0))] ir64p0)
theorem rd64 : readFn T SG sigs 3000 sg64 Tryz.f78 an64 = some ir64 := by kernel_rfl
/- 65:deliberationref03.Yes -/
def an65 : Ann := (.s none .z (.s none .z (.s none (.s none .z (.b (.l ⟨2, [(4, .junk), (6, (.atm (.v 0)))], [(0, ⟨false, true, 9, 1, (.v 1), []⟩)], 1, [⟨none, 5, 9, 1⟩]⟩ (.s none .z (.s (some ⟨1, [(7, .junk), (8, .junk), (9, .junk), (10, .junk)], [(0, ⟨false, true, 9, 1, (.v 0), []⟩)], 1, []⟩) .z .z))))) .z)))
def ir65p0 : IR :=
 (.op (.bin .add false) [(.v 2), (.c (.int .i64 1))]
 (.jump 0 [(.v 7), (.v 6)]))
def ir65p1 : IR :=
 (.op .lenL [(.v 0)]
 (.op (.bin .lss false) [(.v 2), (.v 4)]
 (.ite (.v 5)
  (.letj 1
   (.op (.conv .u64) [(.v 2)]
   (.op (.bin .shr false) [(.v 1), (.v 6)]
   (.op (.bin .and false) [(.v 7), (.c (.int .i64 1))]
   (.op (.bin .eql false) [(.v 8), (.c (.int .i64 1))]
   (.ite (.v 9)
    (.op (.row 1) [(.v 0), (.v 2)]
    (.op (.mk 1 1) [(.v 10)]
    (.op (.app 1 16) [(.v 3), (.v 11)]
    (.jump 1 [(.v 12)]))))
   (.jump 1 [(.v 3)]))))))
  ir65p0)
 (.ret [(.v 3)]))))
def ir65 : IR :=
 (.loop 2 [(.c (.int .i64 0)), (.c (.sl []))] ir65p1)
theorem rd65 : readFn T SG sigs 3000 sg65 Tryz.f81 an65 = some ir65 := by kernel_rfl
/- 66:deliberationref02.Eval -/
def an66 : Ann := .z
def ir66 : IR :=
 (.call 80 1 false [] [(.v 0), (.v 1), (.v 2)]
 (.ite (.v 4)
  (.call 81 1 false [] [(.v 0), (.v 1), (.v 2)]
  (.ite (.v 5)
   (.call 83 1 false [] [(.v 0), (.v 1), (.v 2), (.v 3)]
   (.ret [(.v 6)]))
  (.ret [(.c (.bool false))])))
 (.ret [(.c (.bool false))])))
theorem rd66 : readFn T SG sigs 3000 sg66 Tryz.f80 an66 = some ir66 := by kernel_rfl
/- 67:literal.ValidName -/
def an67 : Ann := (.s none .z (.s none (.s (some ⟨1, [(2, .junk), (12, (.atm (.v 0)))], [], 0, []⟩) .z .z) (.s none (.s none .z (.b (.l ⟨1, [(12, .junk), (13, .junk), (15, (.atm (.v 0)))], [], 0, []⟩ (.s none .z (.s none .z (.s (some ⟨0, [(16, .junk)], [], 0, []⟩) (.b (.s none .z (.s none .z (.b (.s (some ⟨1, [(16, .junk), (17, .junk), (18, .junk), (19, .junk), (20, .junk), (21, (.atm (.v 0)))], [], 0, []⟩) .z (.c .z (.s (some ⟨1, [(3, .junk), (4, .junk), (21, .junk), (28, (.atm (.v 0)))], [], 0, []⟩) .z .z))))))) .z)))))) .z)))
def ir67p0 : IR :=
 (.op (.bin .add false) [(.v 3), (.c (.int .i64 1))]
 (.jump 0 [(.v 5)]))
def ir67p1 : IR :=
 (.ite (.v 7)
  (.jump 1 [])
 (.ret [(.c (.bool false))]))
def ir67p2 : IR :=
 (.ite (.v 6)
  (.jump 1 [])
 (.letj 1
  (.op (.bin .gtr false) [(.v 3), (.c (.int .i64 0))]
  (.ite (.v 7)
   (.op (.bin .geq false) [(.v 5), (.c (.int .u8 48))]
   (.ite (.v 8)
    (.op (.bin .leq false) [(.v 5), (.c (.int .u8 57))]
    (.ite (.v 9)
     (.jump 2 [(.c (.bool true))])
    (.op (.bin .eql false) [(.v 5), (.c (.int .u8 95))]
    (.jump 2 [(.v 10)]))))
   (.op (.bin .eql false) [(.v 5), (.c (.int .u8 95))]
   (.jump 2 [(.v 9)]))))
  (.jump 2 [(.c (.bool false))])))
 ir67p1))
def ir67p3 : IR :=
 (.op (.bin .lss false) [(.v 3), (.v 2)]
 (.ite (.v 4)
  (.letj 0
   (.op .idxS [(.v 0), (.v 3)]
   (.letj 1
    (.op (.bin .geq false) [(.v 5), (.c (.int .u8 97))]
    (.ite (.v 6)
     (.op (.bin .leq false) [(.v 5), (.c (.int .u8 122))]
     (.jump 2 [(.v 7)]))
    (.jump 2 [(.c (.bool false))])))
   ir67p2))
  ir67p0)
 (.ret [(.c (.bool true))])))
def ir67p4 : IR :=
 (.ite (.v 1)
  (.ret [(.c (.bool false))])
 (.op .lenS [(.v 0)]
 (.loop 1 [(.c (.int .i64 0))] ir67p3)))
def ir67 : IR :=
 (.letj 1
  (.op .lenS [(.v 0)]
  (.op (.bin .eql false) [(.v 1), (.c (.int .i64 0))]
  (.ite (.v 2)
   (.jump 0 [(.c (.bool true))])
  (.op .lenS [(.v 0)]
  (.op (.bin .gtr false) [(.v 3), (.c (.int .i64 12))]
  (.jump 0 [(.v 4)]))))))
 ir67p4)
theorem rd67 : readFn T SG sigs 3000 sg67 Tryz.f82 an67 = some ir67 := by kernel_rfl
/- 68:world.split -/
def an68 : Ann := (.s none .z (.s none (.s none .z (.b (.l ⟨3, [(2, (.atm (.v 0))), (3, (.atm (.v 1))), (5, (.atm (.v 2)))], [], 0, []⟩ .z))) .z))
def ir68p0 : IR :=
 (.op (.bin .lss false) [(.v 3), (.c (.int .i64 32))]
 (.ite (.v 4)
  (.op (.bin .mul false) [(.c (.int .i64 2)), (.v 3)]
  (.op (.bin .shr false) [(.v 0), (.v 5)]
  (.op (.bin .and false) [(.v 6), (.c (.int .u64 1))]
  (.op (.bin .shl false) [(.v 7), (.v 3)]
  (.op (.bin .or false) [(.v 2), (.v 8)]
  (.op (.bin .mul false) [(.c (.int .i64 2)), (.v 3)]
  (.op (.bin .add false) [(.v 10), (.c (.int .i64 1))]
  (.op (.bin .shr false) [(.v 0), (.v 11)]
  (.op (.bin .and false) [(.v 12), (.c (.int .u64 1))]
  (.op (.bin .shl false) [(.v 13), (.v 3)]
  (.op (.bin .or false) [(.v 1), (.v 14)]
  (.op (.bin .add false) [(.v 3), (.c (.int .i64 1))]
  (.jump 0 [(.v 15), (.v 9), (.v 16)])))))))))))))
 (.ret [(.v 1), (.v 2)])))
def ir68 : IR :=
 (.loop 3 [(.c (.int .u64 0)), (.c (.int .u64 0)), (.c (.int .i64 0))] ir68p0)
theorem rd68 : readFn T SG sigs 3000 sg68 Tryz.f112 an68 = some ir68 := by kernel_rfl
/- 69:world.two -/
def an69 : Ann := .z
def ir69 : IR :=
 (.op (.mk 3 2) [(.v 1), (.v 2), (.v 3), (.v 4), (.v 5), (.v 6)]
 (.ret [(.v 0), (.c (.str [])), (.v 7)]))
theorem rd69 : readFn T SG sigs 3000 sg69 Tryz.f113 an69 = some ir69 := by kernel_rfl
/- 70:deliberationref03.has -/
def an70 : Ann := .z
def ir70 : IR :=
 (.op (.conv .u64) [(.v 1)]
 (.op (.bin .shr false) [(.v 0), (.v 2)]
 (.op (.bin .and false) [(.v 3), (.c (.int .u64 1))]
 (.op (.bin .eql false) [(.v 4), (.c (.int .u64 1))]
 (.ret [(.v 5)])))))
theorem rd70 : readFn T SG sigs 3000 sg70 Tryz.f121 an70 = some ir70 := by kernel_rfl
/- 71:slices.Index[[]bool,bool] -/
def an71 : Ann := (.s none .z (.s none (.s none .z (.b (.l ⟨1, [(4, .junk), (6, .junk), (8, (.atm (.v 0)))], [], 0, []⟩ .z))) .z))
def ir71p0 : IR :=
 (.op (.bin .lss false) [(.v 3), (.v 2)]
 (.ite (.v 4)
  (.op (.row 1) [(.v 0), (.v 3)]
  (.op (.bin .eql true) [(.v 1), (.v 5)]
  (.ite (.v 6)
   (.ret [(.v 3)])
  (.op (.bin .add false) [(.v 3), (.c (.int .i64 1))]
  (.jump 0 [(.v 7)])))))
 (.ret [(.c (.int .i64 (-1)))])))
def ir71 : IR :=
 (.op .lenL [(.v 0)]
 (.loop 1 [(.c (.int .i64 0))] ir71p0))
theorem rd71 : readFn T SG sigs 3000 sg71 Tryz.f83 an71 = some ir71 := by kernel_rfl
/- 72:formula.Size -/
def an72 : Ann := (.s none .z (.s none .z (.s none (.s none .z (.b (.l ⟨2, [(0, .junk), (1, .junk), (2, .junk), (3, (.atm (.v 0))), (6, .junk), (9, (.atm (.v 1)))], [], 1, []⟩ .z))) .z)))
def ir72p0 : IR :=
 (.op (.bin .lss false) [(.v 5), (.v 3)]
 (.ite (.v 6)
  (.op (.row 3) [(.v 2), (.v 5)]
  (.call 72 1 false [] [(.v 7), (.v 8), (.v 9)]
  (.op (.bin .add false) [(.v 4), (.v 10)]
  (.op (.bin .add false) [(.v 5), (.c (.int .i64 1))]
  (.jump 0 [(.v 11), (.v 12)])))))
 (.ret [(.v 4)])))
def ir72 : IR :=
 (.op .lenL [(.v 2)]
 (.loop 2 [(.c (.int .i64 1)), (.c (.int .i64 0))] ir72p0))
theorem rd72 : readFn T SG sigs 3000 sg72 Tryz.f92 an72 = some ir72 := by kernel_rfl
/- 73:formula.Depth -/
def an73 : Ann := (.s none .z (.s none .z (.s none (.s none .z (.b (.l ⟨2, [(0, .junk), (1, .junk), (2, .junk), (3, (.atm (.v 0))), (6, .junk), (9, (.atm (.v 1)))], [], 1, []⟩ .z))) .z)))
def ir73p0 : IR :=
 (.op (.bin .lss false) [(.v 5), (.v 3)]
 (.ite (.v 6)
  (.op (.row 3) [(.v 2), (.v 5)]
  (.call 73 1 false [] [(.v 7), (.v 8), (.v 9)]
  (.op (.bin .add false) [(.c (.int .i64 1)), (.v 10)]
  (.op .max [(.v 4), (.v 11)]
  (.op (.bin .add false) [(.v 5), (.c (.int .i64 1))]
  (.jump 0 [(.v 12), (.v 13)]))))))
 (.ret [(.v 4)])))
def ir73 : IR :=
 (.op .lenL [(.v 2)]
 (.loop 2 [(.c (.int .i64 0)), (.c (.int .i64 0))] ir73p0))
theorem rd73 : readFn T SG sigs 3000 sg73 Tryz.f93 an73 = some ir73 := by kernel_rfl
/- 74:formula.all -/
def an74 : Ann := (.s none .z (.s none .z (.s none (.s none .z (.b (.l ⟨1, [(0, .junk), (2, .junk), (4, .junk), (7, .junk), (8, .junk), (9, .junk), (10, .junk), (11, .junk), (14, (.atm (.v 0)))], [], 1, []⟩ .z))) .z)))
def ir74p0 : IR :=
 (.op (.bin .lss false) [(.v 6), (.v 5)]
 (.ite (.v 7)
  (.op (.row 3) [(.v 2), (.v 6)]
  (.call 74 1 false [] [(.v 8), (.v 9), (.v 10)]
  (.op (.un .not) [(.v 11)]
  (.ite (.v 12)
   (.ret [(.c (.bool false))])
  (.op (.bin .add false) [(.v 6), (.c (.int .i64 1))]
  (.jump 0 [(.v 13)]))))))
 (.ret [(.c (.bool true))])))
def ir74 : IR :=
 (.call 84 1 false [] [(.v 0), (.v 1), (.v 2)]
 (.op (.un .not) [(.v 3)]
 (.ite (.v 4)
  (.ret [(.c (.bool false))])
 (.op .lenL [(.v 2)]
 (.loop 1 [(.c (.int .i64 0))] ir74p0)))))
theorem rd74 : readFn T SG sigs 3000 sg74 Tryz.f94 an74 = some ir74 := by kernel_rfl
/- 75:formula.all -/
def an75 : Ann := (.s none .z (.s none .z (.s none (.s none .z (.b (.l ⟨1, [(0, .junk), (2, .junk), (4, .junk), (7, .junk), (8, .junk), (9, .junk), (10, .junk), (11, .junk), (14, (.atm (.v 0)))], [], 1, []⟩ .z))) .z)))
def ir75p0 : IR :=
 (.op (.bin .lss false) [(.v 6), (.v 5)]
 (.ite (.v 7)
  (.op (.row 3) [(.v 2), (.v 6)]
  (.call 75 1 false [] [(.v 8), (.v 9), (.v 10)]
  (.op (.un .not) [(.v 11)]
  (.ite (.v 12)
   (.ret [(.c (.bool false))])
  (.op (.bin .add false) [(.v 6), (.c (.int .i64 1))]
  (.jump 0 [(.v 13)]))))))
 (.ret [(.c (.bool true))])))
def ir75 : IR :=
 (.call 85 1 false [] [(.v 0), (.v 1), (.v 2)]
 (.op (.un .not) [(.v 3)]
 (.ite (.v 4)
  (.ret [(.c (.bool false))])
 (.op .lenL [(.v 2)]
 (.loop 1 [(.c (.int .i64 0))] ir75p0)))))
theorem rd75 : readFn T SG sigs 3000 sg75 Tryz.f94 an75 = some ir75 := by kernel_rfl
/- 76:slices.Index[[]string,string] -/
def an76 : Ann := (.s none .z (.s none (.s none .z (.b (.l ⟨1, [(4, .junk), (6, .junk), (8, (.atm (.v 0)))], [], 0, []⟩ .z))) .z))
def ir76p0 : IR :=
 (.op (.bin .lss false) [(.v 3), (.v 2)]
 (.ite (.v 4)
  (.op (.row 1) [(.v 0), (.v 3)]
  (.op (.bin .eql false) [(.v 1), (.v 5)]
  (.ite (.v 6)
   (.ret [(.v 3)])
  (.op (.bin .add false) [(.v 3), (.c (.int .i64 1))]
  (.jump 0 [(.v 7)])))))
 (.ret [(.c (.int .i64 (-1)))])))
def ir76 : IR :=
 (.op .lenL [(.v 0)]
 (.loop 1 [(.c (.int .i64 0))] ir76p0))
theorem rd76 : readFn T SG sigs 3000 sg76 Tryz.f100 an76 = some ir76 := by kernel_rfl
/- 77:world.true_ -/
def an77 : Ann := (.s none .z (.s none .z (.s none (.s none .z (.b (.l ⟨2, [(2, .junk), (3, (.atm (.v 0))), (5, (.atm (.v 1)))], [], 0, []⟩ .z))) .z)))
def ir77p0 : IR :=
 (.op (.bin .lss false) [(.v 2), (.c (.int .i64 64))]
 (.ite (.v 3)
  (.op (.bin .shr false) [(.v 2), (.v 0)]
  (.op (.bin .and false) [(.v 4), (.c (.int .i64 1))]
  (.op (.conv .u64) [(.v 5)]
  (.op (.bin .shl false) [(.v 6), (.v 2)]
  (.op (.bin .or false) [(.v 1), (.v 7)]
  (.op (.bin .add false) [(.v 2), (.c (.int .i64 1))]
  (.jump 0 [(.v 8), (.v 9)])))))))
 (.ret [(.v 1)])))
def ir77 : IR :=
 (.loop 2 [(.c (.int .u64 0)), (.c (.int .i64 0))] ir77p0)
theorem rd77 : readFn T SG sigs 3000 sg77 Tryz.f101 an77 = some ir77 := by kernel_rfl
/- 78:deliberationref02.Size -/
def an78 : Ann := (.s none .z (.s none .z (.s none (.s none .z (.b (.l ⟨2, [(0, .junk), (2, .junk), (3, (.atm (.v 0))), (4, (.atm (.v 1)))], [], 1, []⟩ .z))) .z)))
def ir78p0 : IR :=
 (.op .lenL [(.v 2)]
 (.op (.bin .lss false) [(.v 4), (.v 5)]
 (.ite (.v 6)
  (.op (.row 3) [(.v 2), (.v 4)]
  (.call 78 1 false [] [(.v 7), (.v 8), (.v 9)]
  (.op (.bin .add false) [(.v 3), (.v 10)]
  (.op (.bin .add false) [(.v 4), (.c (.int .i64 1))]
  (.jump 0 [(.v 11), (.v 12)])))))
 (.ret [(.v 3)]))))
def ir78 : IR :=
 (.loop 2 [(.c (.int .i64 1)), (.c (.int .i64 0))] ir78p0)
theorem rd78 : readFn T SG sigs 3000 sg78 Tryz.f103 an78 = some ir78 := by kernel_rfl
/- 79:deliberationref02.Depth -/
def an79 : Ann := (.s none .z (.s none .z (.s none (.s none .z (.b (.l ⟨2, [(0, .junk), (2, .junk), (3, (.atm (.v 0))), (4, (.atm (.v 1)))], [], 1, []⟩ .z))) .z)))
def ir79p0 : IR :=
 (.op .lenL [(.v 2)]
 (.op (.bin .lss false) [(.v 4), (.v 5)]
 (.ite (.v 6)
  (.op (.row 3) [(.v 2), (.v 4)]
  (.call 79 1 false [] [(.v 7), (.v 8), (.v 9)]
  (.op (.bin .add false) [(.c (.int .i64 1)), (.v 10)]
  (.op .max [(.v 3), (.v 11)]
  (.op (.bin .add false) [(.v 4), (.c (.int .i64 1))]
  (.jump 0 [(.v 12), (.v 13)]))))))
 (.ret [(.v 3)]))))
def ir79 : IR :=
 (.loop 2 [(.c (.int .i64 0)), (.c (.int .i64 0))] ir79p0)
theorem rd79 : readFn T SG sigs 3000 sg79 Tryz.f104 an79 = some ir79 := by kernel_rfl
/- 80:deliberationref02.kinds -/
def an80 : Ann := (.s none .z (.s none .z (.s none .z (.s (some ⟨1, [(0, .junk), (2, .junk), (4, (.atm (.v 0))), (6, .junk), (7, .junk), (8, .junk)], [], 1, []⟩) (.s none .z (.b (.s (some ⟨1, [(0, .junk), (2, .junk), (6, .junk), (7, .junk), (8, .junk), (9, .junk), (11, (.atm (.v 0)))], [], 1, []⟩) .z (.c .z (.s none .z (.c .z (.s (some ⟨1, [(11, .junk), (17, .junk), (18, .junk), (21, (.atm (.v 0)))], [], 1, []⟩) .z (.c .z (.s (some ⟨1, [(10, .junk), (21, .junk), (30, (.atm (.v 0)))], [], 1, []⟩) .z .z))))))))) (.s none (.s none .z (.b (.l ⟨2, [(4, (.atm (.v 0))), (5, (.atm (.v 1)))], [], 1, []⟩ (.s none .z (.s (some ⟨1, [(4, (.atm (.v 0))), (35, .junk), (36, .junk), (37, .junk)], [], 1, []⟩) .z .z))))) .z)))))
def ir80p0 : IR :=
 (.op (.bin .add false) [(.v 6), (.c (.int .i64 1))]
 (.jump 0 [(.v 8), (.v 9)]))
def ir80p1 : IR :=
 (.op (.bin .lss false) [(.v 6), (.v 3)]
 (.ite (.v 7)
  (.letj 1
   (.ite (.v 5)
    (.op (.row 3) [(.v 2), (.v 6)]
    (.call 80 1 false [] [(.v 8), (.v 9), (.v 10)]
    (.jump 1 [(.v 11)])))
   (.jump 1 [(.c (.bool false))]))
  ir80p0)
 (.ret [(.v 5)])))
def ir80p2 : IR :=
 (.loop 2 [(.v 4), (.c (.int .i64 0))] ir80p1)
def ir80p3 : IR :=
 (.ite (.v 7)
  (.op (.bin .eql false) [(.v 3), (.c (.int .i64 2))]
  (.jump 0 [(.v 8)]))
 (.jump 0 [(.c (.bool false))]))
def ir80p4 : IR :=
 (.ite (.v 6)
  (.op (.bin .geq false) [(.v 3), (.c (.int .i64 2))]
  (.ite (.v 7)
   (.op (.bin .leq false) [(.v 3), (.c (.int .i64 6))]
   (.jump 0 [(.v 8)]))
  (.jump 0 [(.c (.bool false))])))
 (.letj 1
  (.op (.bin .eql false) [(.v 0), (.c (.int .i64 7))]
  (.ite (.v 7)
   (.jump 1 [(.c (.bool true))])
  (.op (.bin .eql false) [(.v 0), (.c (.int .i64 8))]
  (.jump 1 [(.v 8)]))))
 ir80p3))
def ir80p5 : IR :=
 (.ite (.v 4)
  (.op (.bin .eql false) [(.v 3), (.c (.int .i64 0))]
  (.jump 0 [(.v 5)]))
 (.op (.bin .eql false) [(.v 0), (.c (.int .i64 4))]
 (.ite (.v 5)
  (.op (.bin .eql false) [(.v 3), (.c (.int .i64 1))]
  (.jump 0 [(.v 6)]))
 (.letj 1
  (.op (.bin .eql false) [(.v 0), (.c (.int .i64 5))]
  (.ite (.v 6)
   (.jump 1 [(.c (.bool true))])
  (.op (.bin .eql false) [(.v 0), (.c (.int .i64 6))]
  (.jump 1 [(.v 7)]))))
 ir80p4))))
def ir80 : IR :=
 (.op .lenL [(.v 2)]
 (.letj 1
  (.letj 1
   (.op (.bin .eql false) [(.v 0), (.c (.int .i64 1))]
   (.ite (.v 4)
    (.jump 1 [(.c (.bool true))])
   (.op (.bin .eql false) [(.v 0), (.c (.int .i64 2))]
   (.ite (.v 5)
    (.jump 1 [(.c (.bool true))])
   (.op (.bin .eql false) [(.v 0), (.c (.int .i64 3))]
   (.jump 1 [(.v 6)]))))))
  ir80p5)
 ir80p2))
theorem rd80 : readFn T SG sigs 3000 sg80 Tryz.f105 an80 = some ir80 := by kernel_rfl
/- 81:deliberationref02.names -/
def an81 : Ann := (.s none .z (.s none .z (.s (some ⟨1, [(0, .junk), (2, .junk), (3, (.atm (.v 0))), (5, .junk), (6, .junk), (7, .junk)], [], 1, []⟩) .z (.s none (.s none .z (.b (.l ⟨2, [(3, (.atm (.v 0))), (4, (.atm (.v 1)))], [], 1, []⟩ (.s none .z (.s (some ⟨1, [(3, (.atm (.v 0))), (14, .junk), (15, .junk), (16, .junk), (17, .junk), (18, .junk)], [], 1, []⟩) .z .z))))) .z))))
def ir81p0 : IR :=
 (.op (.bin .add false) [(.v 6), (.c (.int .i64 1))]
 (.jump 0 [(.v 9), (.v 10)]))
def ir81p1 : IR :=
 (.op .lenL [(.v 2)]
 (.op (.bin .lss false) [(.v 6), (.v 7)]
 (.ite (.v 8)
  (.letj 1
   (.ite (.v 5)
    (.op (.row 3) [(.v 2), (.v 6)]
    (.call 81 1 false [] [(.v 9), (.v 10), (.v 11)]
    (.jump 1 [(.v 12)])))
   (.jump 1 [(.c (.bool false))]))
  ir81p0)
 (.ret [(.v 5)]))))
def ir81p2 : IR :=
 (.loop 2 [(.v 4), (.c (.int .i64 0))] ir81p1)
def ir81 : IR :=
 (.op (.bin .eql false) [(.v 1), (.c (.str []))]
 (.letj 1
  (.op (.bin .eql false) [(.v 0), (.c (.int .i64 3))]
  (.ite (.v 4)
   (.call 52 1 false [] [(.v 1)]
   (.jump 0 [(.v 5)]))
  (.jump 0 [(.v 3)])))
 ir81p2))
theorem rd81 : readFn T SG sigs 3000 sg81 Tryz.f106 an81 = some ir81 := by kernel_rfl
/- 82:deliberationref02.collect -/
def an82 : Ann := (.s none .z (.s (some ⟨1, [(0, (.atm (.v 0))), (1, .junk), (4, .junk)], [], 1, []⟩) (.s (some ⟨1, [(1, .junk), (4, .junk), (14, (.atm (.v 0)))], [], 1, []⟩) .z .z) (.s none (.s none .z (.b (.l ⟨2, [(0, (.atm (.v 0))), (5, (.atm (.v 1)))], [], 1, []⟩ .z))) .z)))
def ir82p0 : IR :=
 (.op .lenL [(.v 3)]
 (.op (.bin .lss false) [(.v 6), (.v 7)]
 (.ite (.v 8)
  (.op (.row 3) [(.v 3), (.v 6)]
  (.call 82 1 false [] [(.v 5), (.v 9), (.v 10), (.v 11)]
  (.op (.bin .add false) [(.v 6), (.c (.int .i64 1))]
  (.jump 0 [(.v 12), (.v 13)]))))
 (.ret [(.v 5)]))))
def ir82p1 : IR :=
 (.loop 2 [(.v 4), (.c (.int .i64 0))] ir82p0)
def ir82p2 : IR :=
 (.ite (.v 4)
  (.call 86 1 false [] [(.v 0), (.v 2)]
  (.jump 0 [(.v 5)]))
 (.jump 0 [(.v 0)]))
def ir82 : IR :=
 (.letj 1
  (.letj 1
   (.op (.bin .eql false) [(.v 1), (.c (.int .i64 3))]
   (.ite (.v 4)
    (.op .lenL [(.v 3)]
    (.op (.bin .eql false) [(.v 5), (.c (.int .i64 0))]
    (.jump 1 [(.v 6)])))
   (.jump 1 [(.c (.bool false))])))
  ir82p2)
 ir82p1)
theorem rd82 : readFn T SG sigs 3000 sg82 Tryz.f107 an82 = some ir82 := by kernel_rfl
/- 83:deliberationref02.value -/
def an83 : Ann := (.s none .z (.s none (.s none .z (.b (.s none .z (.c .z (.s none .z (.c (.s none (.s none .z (.b (.l ⟨1, [(0, .junk), (4, .junk), (5, (.atm (.v 0))), (8, .junk), (9, .junk), (10, .junk), (11, .junk), (12, .junk), (13, .junk)], [], 1, []⟩ .z))) .z) (.s none .z (.c .z (.s none .z (.c (.s none (.s none .z (.b (.l ⟨1, [(0, .junk), (4, .junk), (6, (.atm (.v 0))), (8, .junk), (9, .junk), (10, .junk), (11, .junk), (12, .junk), (13, .junk), (27, .junk), (28, .junk), (36, .junk), (37, .junk)], [], 1, []⟩ .z))) .z) (.s none .z (.c (.s none (.s none .z (.b (.l ⟨1, [(0, .junk), (4, .junk), (7, (.atm (.v 0))), (8, .junk), (9, .junk), (10, .junk), (11, .junk), (12, .junk), (13, .junk), (27, .junk), (28, .junk), (36, .junk), (37, .junk), (53, .junk), (54, .junk)], [], 1, []⟩ .z))) .z) .z)))))))))))) .z))
def ir83p0 : IR :=
 (.op .lenL [(.v 3)]
 (.op (.bin .lss false) [(.v 6), (.v 7)]
 (.ite (.v 8)
  (.op (.row 1) [(.v 3), (.v 6)]
  (.op (.bin .eql false) [(.v 9), (.v 1)]
  (.ite (.v 10)
   (.ret [(.c (.bool true))])
  (.op (.bin .add false) [(.v 6), (.c (.int .i64 1))]
  (.jump 0 [(.v 11)])))))
 (.ret [(.c (.bool false))]))))
def ir83p1 : IR :=
 (.op .lenL [(.v 2)]
 (.op (.bin .lss false) [(.v 8), (.v 9)]
 (.ite (.v 10)
  (.op (.row 3) [(.v 2), (.v 8)]
  (.call 83 1 false [] [(.v 11), (.v 12), (.v 13), (.v 3)]
  (.op (.un .not) [(.v 14)]
  (.ite (.v 15)
   (.ret [(.c (.bool false))])
  (.op (.bin .add false) [(.v 8), (.c (.int .i64 1))]
  (.jump 0 [(.v 16)]))))))
 (.ret [(.c (.bool true))]))))
def ir83p2 : IR :=
 (.op .lenL [(.v 2)]
 (.op (.bin .lss false) [(.v 9), (.v 10)]
 (.ite (.v 11)
  (.op (.row 3) [(.v 2), (.v 9)]
  (.call 83 1 false [] [(.v 12), (.v 13), (.v 14), (.v 3)]
  (.ite (.v 15)
   (.ret [(.c (.bool true))])
  (.op (.bin .add false) [(.v 9), (.c (.int .i64 1))]
  (.jump 0 [(.v 16)])))))
 (.ret [(.c (.bool false))]))))
def ir83 : IR :=
 (.op (.bin .eql false) [(.v 0), (.c (.int .i64 1))]
 (.ite (.v 4)
  (.ret [(.c (.bool true))])
 (.op (.bin .eql false) [(.v 0), (.c (.int .i64 3))]
 (.ite (.v 5)
  (.loop 1 [(.c (.int .i64 0))] ir83p0)
 (.op (.bin .eql false) [(.v 0), (.c (.int .i64 4))]
 (.ite (.v 6)
  (.op (.row 3) [(.v 2), (.c (.int .i64 0))]
  (.call 83 1 false [] [(.v 7), (.v 8), (.v 9), (.v 3)]
  (.op (.un .not) [(.v 10)]
  (.ret [(.v 11)]))))
 (.op (.bin .eql false) [(.v 0), (.c (.int .i64 5))]
 (.ite (.v 7)
  (.loop 1 [(.c (.int .i64 0))] ir83p1)
 (.op (.bin .eql false) [(.v 0), (.c (.int .i64 6))]
 (.ite (.v 8)
  (.loop 1 [(.c (.int .i64 0))] ir83p2)
 (.op (.bin .eql false) [(.v 0), (.c (.int .i64 7))]
 (.ite (.v 9)
  (.op (.row 3) [(.v 2), (.c (.int .i64 0))]
  (.call 83 1 false [] [(.v 10), (.v 11), (.v 12), (.v 3)]
  (.op (.un .not) [(.v 13)]
  (.ite (.v 14)
   (.ret [(.c (.bool true))])
  (.op (.row 3) [(.v 2), (.c (.int .i64 1))]
  (.call 83 1 false [] [(.v 15), (.v 16), (.v 17), (.v 3)]
  (.ret [(.v 18)])))))))
 (.op (.bin .eql false) [(.v 0), (.c (.int .i64 8))]
 (.ite (.v 10)
  (.op (.row 3) [(.v 2), (.c (.int .i64 0))]
  (.call 83 1 false [] [(.v 11), (.v 12), (.v 13), (.v 3)]
  (.op (.row 3) [(.v 2), (.c (.int .i64 1))]
  (.call 83 1 false [] [(.v 15), (.v 16), (.v 17), (.v 3)]
  (.op (.bin .eql true) [(.v 14), (.v 18)]
  (.ret [(.v 19)]))))))
 (.ret [(.c (.bool false))])))))))))))))))
theorem rd83 : readFn T SG sigs 3000 sg83 Tryz.f108 an83 = some ir83 := by kernel_rfl
/- 84:formula.counted -/
def an84 : Ann := (.s none .z (.s none .z (.s none (.s none .z (.b (.s (some ⟨1, [(0, .junk), (1, .junk), (2, .junk), (4, .junk), (5, .junk), (6, .junk), (7, .junk), (9, (.atm (.v 0)))], [], 1, []⟩) .z (.c .z (.s none .z (.c .z (.s (some ⟨1, [(9, .junk), (15, .junk), (16, .junk), (19, (.atm (.v 0)))], [], 1, []⟩) .z (.c .z (.s (some ⟨1, [(8, .junk), (19, .junk), (28, (.atm (.v 0)))], [], 1, []⟩) .z .z))))))))) .z)))
def ir84p0 : IR :=
 (.ite (.v 7)
  (.op (.bin .eql false) [(.v 3), (.c (.int .i64 2))]
  (.ret [(.v 8)]))
 (.ret [(.c (.bool false))]))
def ir84p1 : IR :=
 (.ite (.v 6)
  (.op (.bin .geq false) [(.v 3), (.c (.int .i64 2))]
  (.ite (.v 7)
   (.op (.bin .leq false) [(.v 3), (.c (.int .i64 6))]
   (.ret [(.v 8)]))
  (.ret [(.c (.bool false))])))
 (.letj 1
  (.op (.bin .eql false) [(.v 0), (.c (.int .i64 7))]
  (.ite (.v 7)
   (.jump 0 [(.c (.bool true))])
  (.op (.bin .eql false) [(.v 0), (.c (.int .i64 8))]
  (.jump 0 [(.v 8)]))))
 ir84p0))
def ir84p2 : IR :=
 (.ite (.v 4)
  (.op (.bin .eql false) [(.v 3), (.c (.int .i64 0))]
  (.ret [(.v 5)]))
 (.op (.bin .eql false) [(.v 0), (.c (.int .i64 4))]
 (.ite (.v 5)
  (.op (.bin .eql false) [(.v 3), (.c (.int .i64 1))]
  (.ret [(.v 6)]))
 (.letj 1
  (.op (.bin .eql false) [(.v 0), (.c (.int .i64 5))]
  (.ite (.v 6)
   (.jump 0 [(.c (.bool true))])
  (.op (.bin .eql false) [(.v 0), (.c (.int .i64 6))]
  (.jump 0 [(.v 7)]))))
 ir84p1))))
def ir84 : IR :=
 (.op .lenL [(.v 2)]
 (.letj 1
  (.op (.bin .eql false) [(.v 0), (.c (.int .i64 1))]
  (.ite (.v 4)
   (.jump 0 [(.c (.bool true))])
  (.op (.bin .eql false) [(.v 0), (.c (.int .i64 2))]
  (.ite (.v 5)
   (.jump 0 [(.c (.bool true))])
  (.op (.bin .eql false) [(.v 0), (.c (.int .i64 3))]
  (.jump 0 [(.v 6)]))))))
 ir84p2))
theorem rd84 : readFn T SG sigs 3000 sg84 Tryz.f95 an84 = some ir84 := by kernel_rfl
/- 85:formula.named -/
def an85 : Ann := .z
def ir85 : IR :=
 (.op (.bin .eql false) [(.v 0), (.c (.int .i64 3))]
 (.ite (.v 3)
  (.call 67 1 false [] [(.v 1)]
  (.ret [(.v 4)]))
 (.op (.bin .eql false) [(.v 1), (.c (.str []))]
 (.ret [(.v 4)]))))
theorem rd85 : readFn T SG sigs 3000 sg85 Tryz.f96 an85 = some ir85 := by kernel_rfl
/- 86:deliberationref02.insert -/
def an86 : Ann := (.s none .z (.s none .z (.s none (.b (.l ⟨1, [(4, .junk), (5, (.atm (.v 0)))], [], 0, []⟩ (.s none (.s (some ⟨1, [(18, (.atm (.v 0)))], [], 0, []⟩) .z .z) .z))) (.s none (.s (some ⟨1, [(18, .junk), (32, (.atm (.v 0)))], [], 0, []⟩) .z .z) .z))))
def ir86p0 : IR :=
 (.ite (.v 4)
  (.ret [(.v 0)])
 (.op (.subL 1) [(.v 0), (.c (.int .i64 0)), (.v 2)]
 (.op (.app 1 16) [(.c (.sl [])), (.v 5)]
 (.op (.mk 1 1) [(.v 1)]
 (.op (.app 1 16) [(.v 6), (.v 7)]
 (.op .lenL [(.v 0)]
 (.op (.subL 1) [(.v 0), (.v 2), (.v 9)]
 (.op (.app 1 16) [(.v 8), (.v 10)]
 (.ret [(.v 11)])))))))))
def ir86p1 : IR :=
 (.ite (.v 3)
  (.op (.bin .add false) [(.v 2), (.c (.int .i64 1))]
  (.jump 0 [(.v 4)]))
 (.letj 1
  (.op .lenL [(.v 0)]
  (.op (.bin .lss false) [(.v 2), (.v 4)]
  (.ite (.v 5)
   (.op (.row 1) [(.v 0), (.v 2)]
   (.op (.bin .eql false) [(.v 6), (.v 1)]
   (.jump 1 [(.v 7)])))
  (.jump 1 [(.c (.bool false))]))))
 ir86p0))
def ir86p2 : IR :=
 (.letj 1
  (.op .lenL [(.v 0)]
  (.op (.bin .lss false) [(.v 2), (.v 3)]
  (.ite (.v 4)
   (.op (.row 1) [(.v 0), (.v 2)]
   (.op (.bin .lss false) [(.v 5), (.v 1)]
   (.jump 1 [(.v 6)])))
  (.jump 1 [(.c (.bool false))]))))
 ir86p1)
def ir86 : IR :=
 (.loop 1 [(.c (.int .i64 0))] ir86p2)
theorem rd86 : readFn T SG sigs 3000 sg86 Tryz.f120 an86 = some ir86 := by kernel_rfl
end Go.Proofs.YtjedjjooidohhaaGreat

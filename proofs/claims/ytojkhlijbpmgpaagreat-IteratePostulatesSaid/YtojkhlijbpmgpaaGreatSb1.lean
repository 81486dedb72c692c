/- What functions of the program compute: lemmas. -/
import Derived.Test.YtojkhlijbpmgpaaGreatAmSe21
import Derived.Test.YtojkhlijbpmgpaaGreatProg
import Derived.KernelRfl
set_option linter.unusedSimpArgs false
set_option linter.unusedVariables false
set_option linter.unusedSectionVars false
namespace Go.Proofs.YtojkhlijbpmgpaaGreat
open Go Am
set_option maxRecDepth 100000
abbrev fnD (f : Nat) : D := .raw (.func (.func f) #[] #[])
def T : Tab := [
 (3, ⟨1, 8, true, true, false, none, none, (some .i64), false, false, (some (.int .i64 0)), [], none⟩),
 (4, ⟨1, 1, true, true, false, none, none, none, false, true, (some (.bool false)), [], none⟩),
 (5, ⟨1, 1, true, true, false, none, none, (some .u8), false, false, (some (.int .u8 0)), [], none⟩),
 (9, ⟨1, 16, true, true, false, none, none, none, true, false, (some (.string ⟨⟨[]⟩⟩)), [], none⟩),
 (22, ⟨1, 24, true, true, false, (some 3), none, none, false, false, (some (.slice none 0 0)), [], none⟩),
 (23, ⟨1, 8, true, true, false, none, none, none, false, false, (some (.pointer none)), [], none⟩),
 (26, ⟨1, 24, true, true, false, (some 9), none, none, false, false, (some (.slice none 0 0)), [], none⟩),
 (28, ⟨2, 48, true, true, true, none, none, none, false, false, (some (.agg #[(.slice none 0 0), (.slice none 0 0)])), [(0, 26), (1, 22)], (some [(0, 1), (1, 1)])⟩),
 (30, ⟨1, 8, true, true, false, none, none, (some .u64), false, false, (some (.int .u64 0)), [], none⟩),
 (34, ⟨1, 8, true, true, false, none, none, (some .i64), false, false, (some (.int .i64 0)), [], none⟩),
 (37, ⟨1, 24, true, true, false, (some 39), none, none, false, false, (some (.slice none 0 0)), [], none⟩),
 (39, ⟨3, 48, true, true, true, none, none, none, false, false, (some (.agg #[(.int .i64 0), (.string ⟨⟨[]⟩⟩), (.slice none 0 0)])), [(0, 3), (1, 9), (2, 37)], (some [(0, 1), (1, 1), (2, 1)])⟩),
 (52, ⟨1, 8, true, true, false, none, none, none, false, false, (some .nilFunc), [], none⟩),
 (53, ⟨1, 24, true, true, false, (some 28), none, none, false, false, (some (.slice none 0 0)), [], none⟩),
 (64, ⟨9, 9, true, true, true, none, (some (9, 4)), none, false, false, (some (.agg #[(.bool false), (.bool false), (.bool false), (.bool false), (.bool false), (.bool false), (.bool false), (.bool false), (.bool false)])), [], (some [(0, 1), (1, 1), (2, 1), (3, 1), (4, 1), (5, 1), (6, 1), (7, 1), (8, 1)])⟩),
 (73, ⟨4, 96, true, true, true, none, (some (2, 28)), none, false, false, (some (.agg #[(.slice none 0 0), (.slice none 0 0), (.slice none 0 0), (.slice none 0 0)])), [], (some [(0, 2), (2, 2)])⟩),
 (74, ⟨1, 24, true, true, false, (some 73), none, none, false, false, (some (.slice none 0 0)), [], none⟩),
 (94, ⟨1, 8, true, true, false, none, none, (some .u64), false, false, (some (.int .u64 0)), [], none⟩),
 (96, ⟨2, 32, true, true, true, none, none, none, false, false, (some (.agg #[(.slice none 0 0), (.int .i64 0)])), [(0, 22), (1, 3)], (some [(0, 1), (1, 1)])⟩),
 (117, ⟨1, 24, true, true, false, (some 5), none, none, false, false, (some (.slice none 0 0)), [], none⟩),
 (128, ⟨1, 24, true, true, false, (some 133), none, none, false, false, (some (.slice none 0 0)), [], none⟩),
 (130, ⟨1, 24, true, true, false, (some 4), none, none, false, false, (some (.slice none 0 0)), [], none⟩),
 (132, ⟨5, 24, true, true, true, none, none, none, false, false, (some (.agg #[(.int .i64 0), (.int .i64 0), (.bool false), (.bool false), (.bool false)])), [(0, 3), (1, 3), (2, 4), (3, 4), (4, 4)], (some [(0, 1), (1, 1), (2, 1), (3, 1), (4, 1)])⟩),
 (133, ⟨1, 8, true, true, false, none, none, none, false, false, (some .nilFunc), [], none⟩),
 (134, ⟨8, 8, true, true, true, none, (some (8, 4)), none, false, false, (some (.agg #[(.bool false), (.bool false), (.bool false), (.bool false), (.bool false), (.bool false), (.bool false), (.bool false)])), [], (some [(0, 1), (1, 1), (2, 1), (3, 1), (4, 1), (5, 1), (6, 1), (7, 1)])⟩),
 (139, ⟨1, 24, true, true, false, (some 30), none, none, false, false, (some (.slice none 0 0)), [], none⟩),
 (156, ⟨1, 8, true, true, false, none, none, none, false, false, (some .nilFunc), [], none⟩)]
theorem tok : TOK Tryz.prog T := tok_of (by kernel_rfl)
def SG : SGlob := []
def sg0 : Sig := ⟨10, 8, [], [(.agg [(.atm (.v 0)), (.atm (.v 1))]), (.agg [(.atm (.v 2)), (.atm (.v 3))]), (.agg [(.atm (.v 4)), (.atm (.v 5)), (.atm (.v 6))]), (.atm (.v 7))], 1, [], (.atm (.v 0)), false, []⟩
def sg1 : Sig := ⟨11, 1, [], [(.atm (.v 0))], 1, [], (.atm (.v 0)), false, []⟩
def sg2 : Sig := ⟨31, 2, [], [(.agg [(.atm (.v 0)), (.atm (.v 1))])], 1, [], (.atm (.v 0)), false, []⟩
def sg3 : Sig := ⟨32, 3, [], [(.agg [(.atm (.v 0)), (.atm (.v 1)), (.atm (.v 2))])], 1, [], (.atm (.v 0)), false, []⟩
def sg4 : Sig := ⟨20, 0, [], [], 1, [], (.atm (.v 0)), false, []⟩
def sg5 : Sig := ⟨15, 1, [], [(.atm (.v 0))], 2, [⟨false, false, 96, 2, (.c (.sl [])), [[(.atm (.v 0)), (.atm (.v 1))]]⟩], (.ptr 0 0 0), false, []⟩
def sg6 : Sig := ⟨16, 4, [⟨false, false, 96, 2, (.c (.sl [])), [[(.atm (.v 2)), (.atm (.v 3))]]⟩], [(.ptr 0 0 0), (.atm (.v 0)), (.atm (.v 1))], 3, [⟨false, false, 96, 2, (.c (.sl [])), [[(.atm (.v 1)), (.atm (.v 2))]]⟩], (.atm (.v 0)), false, []⟩
def sg7 : Sig := ⟨17, 3, [⟨false, false, 96, 2, (.c (.sl [])), [[(.atm (.v 1)), (.atm (.v 2))]]⟩], [(.ptr 0 0 0), (.atm (.v 0))], 4, [⟨false, false, 96, 2, (.c (.sl [])), [[(.atm (.v 2)), (.atm (.v 3))]]⟩], (.agg [(.atm (.v 0)), (.atm (.v 1))]), true, []⟩
def sg8 : Sig := ⟨35, 4, [⟨false, false, 96, 2, (.c (.sl [])), [[(.atm (.v 2)), (.atm (.v 3))]]⟩], [(.ptr 0 0 0), (.atm (.v 0)), (.atm (.v 1))], 5, [⟨false, false, 96, 2, (.c (.sl [])), [[(.atm (.v 3)), (.atm (.v 4))]]⟩], (.agg [(.atm (.v 0)), (.atm (.v 1)), (.atm (.v 2))]), true, []⟩
def sg9 : Sig := ⟨25, 6, [], [(.agg [(.atm (.v 0)), (.atm (.v 1))]), (.agg [(.atm (.v 2)), (.atm (.v 3)), (.atm (.v 4))]), (.atm (.v 5))], 3, [], (.tup [(.agg [(.atm (.v 0)), (.atm (.v 1))]), (.atm (.v 2))]), true, []⟩
def sg10 : Sig := ⟨49, 7, [], [(.agg [(.atm (.v 0)), (.atm (.v 1))]), (.agg [(.atm (.v 2)), (.atm (.v 3))]), (.agg [(.atm (.v 4)), (.atm (.v 5)), (.atm (.v 6))])], 2, [], (.tup [(.atm (.v 0)), (.atm (.v 1))]), true, []⟩
def sg11 : Sig := ⟨50, 7, [], [(.agg [(.atm (.v 0)), (.atm (.v 1))]), (.agg [(.atm (.v 2)), (.atm (.v 3))]), (.agg [(.atm (.v 4)), (.atm (.v 5)), (.atm (.v 6))])], 2, [], (.tup [(.atm (.v 0)), (.atm (.v 1))]), true, []⟩
def sg12 : Sig := ⟨51, 2, [], [(.atm (.v 0)), (.atm (.v 1))], 1, [], (.atm (.v 0)), false, []⟩
def sg13 : Sig := ⟨29, 4, [], [(.atm (.v 0)), (.agg [(.atm (.v 1)), (.atm (.v 2)), (.atm (.v 3))])], 2, [], (.tup [(.atm (.v 0)), (.atm (.v 1))]), false, []⟩
def sg14 : Sig := ⟨21, 6, [], [(.agg [(.atm (.v 0)), (.atm (.v 1))]), (.agg [(.atm (.v 2)), (.atm (.v 3)), (.atm (.v 4))]), (.atm (.v 5))], 3, [], (.tup [(.agg [(.atm (.v 0)), (.atm (.v 1))]), (.atm (.v 2))]), true, []⟩
def sg15 : Sig := ⟨88, 4, [], [(.agg [(.atm (.v 0)), (.atm (.v 1)), (.atm (.v 2))]), (.atm (.v 3))], 1, [], (.atm (.v 0)), false, []⟩
def sg16 : Sig := ⟨89, 4, [], [(.agg [(.atm (.v 0)), (.atm (.v 1)), (.atm (.v 2))]), (.atm (.v 3))], 1, [], (.atm (.v 0)), false, []⟩
def sg17 : Sig := ⟨90, 3, [], [(.agg [(.atm (.v 0)), (.atm (.v 1)), (.atm (.v 2))])], 1, [], (.atm (.v 0)), false, []⟩
def sg18 : Sig := ⟨47, 1, [], [(.atm (.v 0))], 1, [], (.atm (.v 0)), true, []⟩
def sg19 : Sig := ⟨22, 2, [], [(.atm (.v 0)), (.atm (.v 1))], 3, [], (.agg [(.atm (.v 0)), (.atm (.v 1)), (.atm (.v 2))]), true, []⟩
def sg20 : Sig := ⟨67, 3, [⟨false, false, 96, 2, (.c (.sl [])), [[(.atm (.v 1)), (.atm (.v 2))]]⟩], [(.ptr 0 0 0), (.atm (.v 0))], 3, [⟨false, false, 96, 2, (.c (.sl [])), [[(.atm (.v 1)), (.atm (.v 2))]]⟩], (.atm (.v 0)), false, []⟩
def sg21 : Sig := ⟨68, 2, [], [(.atm (.v 0)), (.atm (.v 1))], 3, [], (.tup [(.agg [(.atm (.v 0)), (.atm (.v 1))]), (.atm (.v 2))]), true, []⟩
def sg22 : Sig := ⟨77, 2, [], [(.agg [(.atm (.v 0)), (.atm (.v 1))])], 1, [], (.atm (.v 0)), false, []⟩
def sg23 : Sig := ⟨78, 1, [], [(.atm (.v 0))], 1, [], (.atm (.v 0)), false, []⟩
def sg24 : Sig := ⟨79, 4, [], [(.agg [(.atm (.v 0)), (.atm (.v 1))]), (.atm (.v 2)), (.atm (.v 3))], 2, [], (.agg [(.atm (.v 0)), (.atm (.v 1))]), true, []⟩
def sg25 : Sig := ⟨91, 2, [], [(.agg [(.atm (.v 0)), (.atm (.v 1))])], 1, [], (.atm (.v 0)), false, []⟩
def sg26 : Sig := ⟨99, 2, [], [(.atm (.v 0)), (.atm (.v 1))], 1, [], (.atm (.v 0)), false, []⟩
def sg27 : Sig := ⟨73, 4, [], [(.atm (.v 0)), (.agg [(.atm (.v 1)), (.atm (.v 2)), (.atm (.v 3))])], 2, [], (.tup [(.atm (.v 0)), (.atm (.v 1))]), false, []⟩
def sg28 : Sig := ⟨96, 3, [], [(.agg [(.atm (.v 0)), (.atm (.v 1))]), (.atm (.v 2))], 1, [], (.atm (.v 0)), false, []⟩
def sg29 : Sig := ⟨100, 0, [], [], 1, [], (.atm (.v 0)), true, []⟩
def sg30 : Sig := ⟨101, 2, [], [(.atm (.v 0)), (.atm (.v 1))], 1, [], (.atm (.v 0)), false, []⟩
def sg31 : Sig := ⟨102, 2, [], [(.atm (.v 0)), (.atm (.v 1))], 1, [], (.atm (.v 0)), false, []⟩
def sg32 : Sig := ⟨138, 5, [], [(.agg [(.atm (.v 0)), (.atm (.v 1)), (.atm (.v 2)), (.atm (.v 3)), (.atm (.v 4))])], 1, [], (.atm (.v 0)), false, []⟩
def sg33 : Sig := ⟨139, 5, [], [(.agg [(.atm (.v 0)), (.atm (.v 1)), (.atm (.v 2)), (.atm (.v 3)), (.atm (.v 4))])], 1, [], (.atm (.v 0)), false, []⟩
def sg34 : Sig := ⟨140, 5, [], [(.agg [(.atm (.v 0)), (.atm (.v 1)), (.atm (.v 2)), (.atm (.v 3)), (.atm (.v 4))])], 1, [], (.atm (.v 0)), false, []⟩
def sg35 : Sig := ⟨141, 5, [], [(.agg [(.atm (.v 0)), (.atm (.v 1)), (.atm (.v 2)), (.atm (.v 3)), (.atm (.v 4))])], 1, [], (.atm (.v 0)), false, []⟩
def sg36 : Sig := ⟨142, 5, [], [(.agg [(.atm (.v 0)), (.atm (.v 1)), (.atm (.v 2)), (.atm (.v 3)), (.atm (.v 4))])], 1, [], (.atm (.v 0)), false, []⟩
def sg37 : Sig := ⟨143, 5, [], [(.agg [(.atm (.v 0)), (.atm (.v 1)), (.atm (.v 2)), (.atm (.v 3)), (.atm (.v 4))])], 1, [], (.atm (.v 0)), false, []⟩
def sg38 : Sig := ⟨144, 5, [], [(.agg [(.atm (.v 0)), (.atm (.v 1)), (.atm (.v 2)), (.atm (.v 3)), (.atm (.v 4))])], 1, [], (.atm (.v 0)), false, []⟩
def sg39 : Sig := ⟨103, 2, [], [(.agg [(.atm (.v 0)), (.atm (.v 1))])], 1, [], (.atm (.v 0)), false, []⟩
def sg40 : Sig := ⟨76, 2, [], [(.atm (.v 0)), (.atm (.v 1))], 1, [], (.atm (.v 0)), false, []⟩
def sg41 : Sig := ⟨75, 3, [], [(.agg [(.atm (.v 0)), (.atm (.v 1))]), (.atm (.v 2))], 1, [], (.atm (.v 0)), false, []⟩
def sg42 : Sig := ⟨23, 2, [], [(.agg [(.atm (.v 0)), (.atm (.v 1))])], 1, [], (.atm (.v 0)), false, []⟩
def sg43 : Sig := ⟨104, 8, [], [(.agg [(.atm (.v 0)), (.atm (.v 1))]), (.agg [(.atm (.v 2)), (.atm (.v 3))]), (.atm (.v 4)), (.atm (.v 5)), (.atm (.v 6)), (.atm (.v 7))], 8, [], (.agg [(.atm (.v 0)), (.atm (.v 1)), (.atm (.v 2)), (.atm (.v 3)), (.atm (.v 4)), (.atm (.v 5)), (.atm (.v 6)), (.atm (.v 7))]), false, []⟩
def sg44 : Sig := ⟨69, 1, [], [(.atm (.v 0))], 1, [], (.atm (.v 0)), false, []⟩
def sg45 : Sig := ⟨82, 3, [], [(.agg [(.atm (.v 0)), (.atm (.v 1)), (.atm (.v 2))])], 1, [], (.atm (.v 0)), false, []⟩
def sg46 : Sig := ⟨83, 3, [], [(.agg [(.atm (.v 0)), (.atm (.v 1)), (.atm (.v 2))])], 1, [], (.atm (.v 0)), true, []⟩
def sg47 : Sig := ⟨84, 2, [], [(.atm (.v 0)), (.atm (.v 1))], 1, [], (.atm (.v 0)), false, []⟩
def sg48 : Sig := ⟨70, 1, [], [(.atm (.v 0))], 1, [], (.atm (.v 0)), false, []⟩
def sg49 : Sig := ⟨86, 2, [], [(.atm (.v 0)), (.atm (.v 1))], 1, [], (.atm (.v 0)), true, []⟩
def sg50 : Sig := ⟨85, 4, [], [(.agg [(.atm (.v 0)), (.atm (.v 1)), (.atm (.v 2))]), (.atm (.v 3))], 1, [], (.atm (.v 0)), false, []⟩
def sg51 : Sig := ⟨72, 3, [], [(.agg [(.atm (.v 0)), (.atm (.v 1))]), (.atm (.v 2))], 1, [], (.atm (.v 0)), false, []⟩
def sg52 : Sig := ⟨74, 4, [], [(.agg [(.atm (.v 0)), (.atm (.v 1))]), (.atm (.v 2)), (.atm (.v 3))], 3, [], (.tup [(.agg [(.atm (.v 0)), (.atm (.v 1))]), (.atm (.v 2))]), true, []⟩
def sg53 : Sig := ⟨18, 1, [], [(.atm (.v 0))], 1, [], (.atm (.v 0)), false, []⟩
def sg54 : Sig := ⟨66, 2, [], [(.atm (.v 0)), (.atm (.v 1))], 4, [], (.tup [(.agg [(.atm (.v 0)), (.atm (.v 1)), (.atm (.v 2))]), (.atm (.v 3))]), true, []⟩
def sg55 : Sig := ⟨71, 2, [⟨false, false, 96, 2, (.c (.sl [])), [[(.atm (.v 0)), (.atm (.v 1))]]⟩], [(.ptr 0 0 0)], 3, [⟨false, false, 96, 2, (.c (.sl [])), [[(.atm (.v 1)), (.atm (.v 2))]]⟩], (.atm (.v 0)), false, []⟩
def sg56 : Sig := ⟨115, 2, [], [(.atm (.v 0)), (.atm (.v 1))], 1, [], (.atm (.v 0)), false, []⟩
def sg57 : Sig := ⟨116, 2, [], [(.atm (.v 0)), (.atm (.v 1))], 1, [], (.atm (.v 0)), false, []⟩
def sg58 : Sig := ⟨108, 2, [], [(.atm (.v 0)), (.atm (.v 1))], 1, [], (.atm (.v 0)), false, []⟩
def sg59 : Sig := ⟨105, 1, [], [(.atm (.v 0))], 1, [], (.atm (.v 0)), false, []⟩
def sg60 : Sig := ⟨136, 2, [], [(.atm (.v 0)), (.atm (.v 1))], 1, [], (.atm (.v 0)), false, []⟩
def sg61 : Sig := ⟨119, 3, [], [(.agg [(.atm (.v 0)), (.atm (.v 1)), (.atm (.v 2))])], 1, [], (.atm (.v 0)), false, []⟩
def sg62 : Sig := ⟨120, 3, [], [(.agg [(.atm (.v 0)), (.atm (.v 1)), (.atm (.v 2))])], 1, [], (.atm (.v 0)), true, []⟩
def sg63 : Sig := ⟨121, 2, [], [(.atm (.v 0)), (.atm (.v 1))], 1, [], (.atm (.v 0)), false, []⟩
def sg64 : Sig := ⟨122, 4, [], [(.atm (.v 0)), (.agg [(.atm (.v 1)), (.atm (.v 2)), (.atm (.v 3))])], 1, [], (.atm (.v 0)), false, []⟩
def sg65 : Sig := ⟨87, 1, [], [(.atm (.v 0))], 1, [], (.atm (.v 0)), false, []⟩
def sg66 : Sig := ⟨109, 2, [], [(.agg [(.atm (.v 0)), (.atm (.v 1))])], 1, [], (.atm (.v 0)), true, []⟩
def sg67 : Sig := ⟨145, 1, [], [(.atm (.v 0))], 1, [], (.atm (.v 0)), false, []⟩
def sg68 : Sig := ⟨41, 2, [], [(.agg [(.atm (.v 0)), (.atm (.v 1))])], 1, [], (.atm (.v 0)), false, []⟩
def sg69 : Sig := ⟨112, 4, [], [(.agg [(.atm (.v 0)), (.atm (.v 1))]), (.atm (.v 2)), (.atm (.v 3))], 1, [], (.atm (.v 0)), false, []⟩
def sg70 : Sig := ⟨146, 2, [], [(.atm (.v 0)), (.atm (.v 1))], 1, [], (.atm (.v 0)), false, []⟩
def sg71 : Sig := ⟨117, 1, [], [(.atm (.v 0))], 1, [], (.atm (.v 0)), false, []⟩
def sg72 : Sig := ⟨129, 3, [], [(.agg [(.atm (.v 0)), (.atm (.v 1)), (.atm (.v 2))])], 1, [], (.atm (.v 0)), false, []⟩
def sg73 : Sig := ⟨130, 3, [], [(.agg [(.atm (.v 0)), (.atm (.v 1)), (.atm (.v 2))])], 1, [], (.atm (.v 0)), false, []⟩
def sg74 : Sig := ⟨131, 3, [], [(.agg [(.atm (.v 0)), (.atm (.v 1)), (.atm (.v 2))])], 1, [], (.atm (.v 0)), false, []⟩
def sg75 : Sig := ⟨132, 3, [], [(.agg [(.atm (.v 0)), (.atm (.v 1)), (.atm (.v 2))])], 1, [], (.atm (.v 0)), false, []⟩
def sg76 : Sig := ⟨133, 4, [], [(.atm (.v 0)), (.agg [(.atm (.v 1)), (.atm (.v 2)), (.atm (.v 3))])], 1, [], (.atm (.v 0)), true, []⟩
def sg77 : Sig := ⟨134, 4, [], [(.agg [(.atm (.v 0)), (.atm (.v 1)), (.atm (.v 2))]), (.atm (.v 3))], 1, [], (.atm (.v 0)), false, []⟩
def sg78 : Sig := ⟨118, 1, [], [(.atm (.v 0))], 1, [], (.atm (.v 0)), false, []⟩
def sg79 : Sig := ⟨123, 6, [], [(.agg [(.atm (.v 0)), (.atm (.v 1))]), (.atm (.v 2)), (.atm (.v 3)), (.atm (.v 4)), (.atm (.v 5))], 1, [], (.atm (.v 0)), false, []⟩
def sg80 : Sig := ⟨81, 2, [], [(.atm (.v 0)), (.atm (.v 1))], 3, [], (.tup [(.agg [(.atm (.v 0)), (.atm (.v 1))]), (.atm (.v 2))]), true, []⟩
def sg81 : Sig := ⟨114, 2, [], [(.atm (.v 0)), (.atm (.v 1))], 3, [], (.agg [(.atm (.v 0)), (.atm (.v 1)), (.atm (.v 2))]), true, []⟩
def sg82 : Sig := ⟨147, 1, [], [(.atm (.v 0))], 1, [], (.atm (.v 0)), false, []⟩
def sg83 : Sig := ⟨169, 2, [], [(.atm (.v 0)), (.atm (.v 1))], 1, [], (.atm (.v 0)), false, []⟩
def sg84 : Sig := ⟨153, 3, [], [(.agg [(.atm (.v 0)), (.atm (.v 1)), (.atm (.v 2))])], 1, [], (.atm (.v 0)), false, []⟩
def sg85 : Sig := ⟨154, 3, [], [(.agg [(.atm (.v 0)), (.atm (.v 1)), (.atm (.v 2))])], 1, [], (.atm (.v 0)), false, []⟩
def sg86 : Sig := ⟨155, 3, [], [(.agg [(.atm (.v 0)), (.atm (.v 1)), (.atm (.v 2))]), (.atm (.c (fnD 156)))], 1, [], (.atm (.v 0)), false, []⟩
def sg87 : Sig := ⟨155, 3, [], [(.agg [(.atm (.v 0)), (.atm (.v 1)), (.atm (.v 2))]), (.atm (.c (fnD 157)))], 1, [], (.atm (.v 0)), false, []⟩
def sg88 : Sig := ⟨161, 2, [], [(.atm (.v 0)), (.atm (.v 1))], 1, [], (.atm (.v 0)), false, []⟩
def sg89 : Sig := ⟨162, 1, [], [(.atm (.v 0))], 1, [], (.atm (.v 0)), false, []⟩
def sg90 : Sig := ⟨135, 1, [], [(.atm (.v 0))], 1, [], (.atm (.v 0)), false, []⟩
def sg91 : Sig := ⟨92, 1, [], [(.atm (.v 0))], 1, [], (.atm (.v 0)), false, []⟩
def sg92 : Sig := ⟨168, 2, [], [(.atm (.v 0)), (.atm (.v 1))], 1, [], (.atm (.v 0)), true, []⟩
def sg93 : Sig := ⟨126, 1, [], [(.atm (.v 0))], 1, [⟨false, false, 22, 1, (.c (.sl [])), [[(.atm (.v 0))]]⟩], (.clo 165 [] [(.ptr 0 0 0)]), false, []⟩
def sg94 : Sig := ⟨125, 1, [⟨false, false, 22, 1, (.c (.sl [])), [[(.atm (.v 0))]]⟩], [(.clo 165 [] [(.ptr 0 0 0)])], 2, [⟨false, false, 22, 1, (.c (.sl [])), [[(.atm (.v 1))]]⟩, ⟨false, true, 3, 1, (.v 0), []⟩], (.own 1), true, []⟩
def sg95 : Sig := ⟨124, 1, [⟨false, true, 3, 1, (.v 0), []⟩], [(.own 0)], 2, [⟨true, true, 3, 1, (.v 1), []⟩], (.atm (.v 0)), true, []⟩
def sg96 : Sig := ⟨127, 1, [], [(.atm (.v 0))], 1, [⟨false, true, 9, 1, (.v 0), []⟩], (.own 0), true, []⟩
def sg97 : Sig := ⟨128, 2, [], [(.atm (.v 0)), (.atm (.v 1))], 2, [], (.tup [(.atm (.v 0)), (.atm (.v 1))]), false, []⟩
def sg98 : Sig := ⟨150, 3, [], [(.atm (.v 0)), (.atm (.v 1)), (.atm (.v 2))], 1, [], (.atm (.v 0)), false, []⟩
def sg99 : Sig := ⟨151, 6, [], [(.agg [(.atm (.v 0)), (.atm (.v 1)), (.atm (.v 2))]), (.agg [(.atm (.v 3)), (.atm (.v 4)), (.atm (.v 5))])], 1, [], (.atm (.v 0)), false, []⟩
def sg100 : Sig := ⟨152, 7, [], [(.atm (.v 0)), (.agg [(.atm (.v 1)), (.atm (.v 2)), (.atm (.v 3))]), (.agg [(.atm (.v 4)), (.atm (.v 5)), (.atm (.v 6))])], 3, [], (.agg [(.atm (.v 0)), (.atm (.v 1)), (.atm (.v 2))]), true, []⟩
def sg101 : Sig := ⟨156, 3, [], [(.agg [(.atm (.v 0)), (.atm (.v 1)), (.atm (.v 2))])], 1, [], (.atm (.v 0)), false, []⟩
def sg102 : Sig := ⟨157, 3, [], [(.agg [(.atm (.v 0)), (.atm (.v 1)), (.atm (.v 2))])], 1, [], (.atm (.v 0)), false, []⟩
def sg103 : Sig := ⟨163, 1, [⟨false, false, 22, 1, (.c (.sl [])), [[(.atm (.v 0))]]⟩], [(.clo 165 [] [(.ptr 0 0 0)])], 2, [⟨false, false, 22, 1, (.c (.sl [])), [[(.atm (.v 1))]]⟩, ⟨false, true, 3, 1, (.v 0), []⟩], (.own 1), true, []⟩
def sg104 : Sig := ⟨164, 1, [⟨false, true, 3, 1, (.v 0), []⟩], [(.own 0)], 1, [⟨false, true, 3, 1, (.v 0), []⟩], (.tup []), false, [0]⟩
def sg105 : Sig := ⟨166, 2, [], [(.atm (.v 0)), (.atm (.v 1))], 1, [], (.atm (.v 0)), false, []⟩
def sg106 : Sig := ⟨167, 1, [], [(.atm (.v 0))], 1, [], (.atm (.v 0)), false, []⟩
def sg107 : Sig := ⟨173, 2, [], [(.atm (.v 0)), (.atm (.v 1))], 1, [], (.atm (.v 0)), false, []⟩
def sigs : List Sig := [sg0, sg1, sg2, sg3, sg4, sg5, sg6, sg7, sg8, sg9, sg10, sg11, sg12, sg13, sg14, sg15, sg16, sg17, sg18, sg19, sg20, sg21, sg22, sg23, sg24, sg25, sg26, sg27, sg28, sg29, sg30, sg31, sg32, sg33, sg34, sg35, sg36, sg37, sg38, sg39, sg40, sg41, sg42, sg43, sg44, sg45, sg46, sg47, sg48, sg49, sg50, sg51, sg52, sg53, sg54, sg55, sg56, sg57, sg58, sg59, sg60, sg61, sg62, sg63, sg64, sg65, sg66, sg67, sg68, sg69, sg70, sg71, sg72, sg73, sg74, sg75, sg76, sg77, sg78, sg79, sg80, sg81, sg82, sg83, sg84, sg85, sg86, sg87, sg88, sg89, sg90, sg91, sg92, sg93, sg94, sg95, sg96, sg97, sg98, sg99, sg100, sg101, sg102, sg103, sg104, sg105, sg106, sg107]
def an0 : Ann := (.s none .z (.s none (.s (some ⟨1, [(0, .junk), (1, .junk), (2, .junk), (8, .junk), (36, (.atm (.v 0)))], [], 3, []⟩) .z .z) (.s none .z (.s none .z (.s none .z (.s none .z (.s none .z (.s (some ⟨2, [(3, .junk), (10, .junk), (15, .junk), (36, .junk), (38, .junk), (39, .junk), (40, .junk), (41, .junk), (42, .junk), (43, .junk), (44, .junk), (45, .junk), (46, .junk), (47, .junk), (48, .junk), (49, .junk), (50, .junk), (51, .junk), (52, .junk), (53, .junk), (54, .junk), (55, .junk), (56, .junk), (57, .junk), (58, .junk)], [(15, ⟨false, false, 28, 2, (.c (.sl [])), [[(.atm (.v 0)), (.atm (.v 1))]]⟩)], 16, []⟩) .z (.s none (.s none .z (.b (.l ⟨1, [(4, .junk), (5, .junk), (9, .junk), (11, .junk), (12, .junk), (14, .junk), (62, .junk), (63, .junk), (64, .junk), (65, .junk), (66, .junk), (67, .junk), (68, .junk), (69, .junk), (70, .junk), (71, .junk), (72, .junk), (73, .junk), (74, .junk), (75, .junk), (76, .junk), (77, .junk), (78, .junk), (79, .junk), (80, .junk), (81, .junk), (82, .junk), (83, .junk), (84, .junk), (85, .junk), (88, (.atm (.v 0)))], [], 41, []⟩ (.s none .z (.s none .z (.s none (.b (.s none .z (.s none .z (.b (.l ⟨1, [(89, .junk), (90, .junk), (91, .junk), (92, .junk), (93, .junk), (96, (.atm (.v 0)))], [], 43, []⟩ (.s none .z (.s none .z (.s none (.b (.s none .z (.s none .z (.s none .z (.s (some ⟨1, [(19, .junk), (20, .junk), (21, .junk), (22, .junk), (23, .junk), (97, .junk), (98, .junk), (99, .junk), (100, .junk), (101, .junk), (102, .junk), (103, .junk), (104, .junk), (105, .junk), (106, .junk), (107, .junk), (108, .junk), (109, .junk), (110, .junk), (111, .junk), (112, .junk), (113, .junk), (114, .junk), (115, .junk), (116, .junk), (117, .junk), (126, (.atm (.v 0)))], [], 44, []⟩) .z .z))))) .z)))))))) .z)))))) .z)))))))))
def ir0p0 : IR :=
 (.ite (.v 61)
  (.ret [(.c (.bool false))])
 (.op (.bin .add false) [(.v 52), (.c (.int .i64 1))]
 (.jump 1 [(.v 62)])))
def ir0p1 : IR :=
 (.op (.bin .lss false) [(.v 52), (.v 51)]
 (.ite (.v 53)
  (.op .chk [(.v 50), (.v 52)]
  (.op (.get 0 3) [(.v 50), (.v 52)]
  (.call 10 2 false [] [(.v 46), (.v 47), (.v 48), (.v 49), (.v 54), (.v 55), (.v 56)]
  (.call 11 2 false [] [(.v 46), (.v 47), (.v 48), (.v 49), (.v 54), (.v 55), (.v 56)]
  (.letj 1
   (.op (.bin .neq false) [(.v 58), (.v 60)]
   (.ite (.v 61)
    (.jump 2 [(.c (.bool true))])
   (.call 12 1 false [] [(.v 57), (.v 59)]
   (.op (.un .not) [(.v 62)]
   (.jump 2 [(.v 63)])))))
  ir0p0)))))
 (.op (.bin .add false) [(.v 44), (.c (.int .i64 1))]
 (.jump 0 [(.v 54)]))))
def ir0p2 : IR :=
 (.op (.bin .lss false) [(.v 44), (.v 43)]
 (.ite (.v 45)
  (.op .chk [(.v 42), (.v 44)]
  (.op (.get 0 4) [(.v 42), (.v 44)]
  (.op (.mk 3 2) [(.v 4), (.v 5), (.v 6), (.v 22), (.v 23), (.v 24)]
  (.op .lenL [(.v 50)]
  (.loop 1 [(.c (.int .i64 0))] ir0p1)))))
 (.call 4 1 false [] []
 (.ret [(.v 46)]))))
def ir0p3 : IR :=
 (.call 6 3 false [] [(.c (.int .i64 1)), (.c (.int .i64 3)), (.v 28), (.v 29)]
 (.call 7 4 false [] [(.v 35), (.v 36), (.v 37)]
 (.op (.mk 4 7) [(.v 14), (.v 15), (.v 18), (.v 19), (.v 14), (.v 15), (.v 33), (.v 34), (.v 33), (.v 34), (.v 14), (.v 15), (.v 0), (.v 1), (.v 14), (.v 15), (.v 14), (.v 15), (.v 0), (.v 1), (.v 0), (.v 1), (.v 2), (.v 3), (.v 14), (.v 15), (.v 38), (.v 39)]
 (.op .lenL [(.v 42)]
 (.loop 1 [(.c (.int .i64 0))] ir0p2)))))
def ir0p4 : IR :=
 (.ite (.v 8)
  (.call 4 1 false [] []
  (.ret [(.v 9)]))
 (.call 5 2 false [] [(.v 7)]
 (.call 6 3 false [] [(.c (.int .i64 1)), (.c (.int .i64 3)), (.v 9), (.v 10)]
 (.call 7 4 false [] [(.v 11), (.v 12), (.v 13)]
 (.call 7 4 false [] [(.v 11), (.v 16), (.v 17)]
 (.call 8 5 false [] [(.v 11), (.c (.int .i64 3)), (.v 20), (.v 21)]
 (.call 6 3 false [] [(.c (.int .i64 1)), (.c (.int .i64 3)), (.v 25), (.v 26)]
 (.call 9 3 false [] [(.v 14), (.v 15), (.v 22), (.v 23), (.v 24), (.v 27)]
 (.letj 2
  (.op (.bin .neq false) [(.v 32), (.c (.int .i64 0))]
  (.ite (.v 33)
   (.jump 0 [(.v 18), (.v 19)])
  (.jump 0 [(.v 30), (.v 31)])))
 ir0p3)))))))))
def ir0 : IR :=
 (.letj 1
  (.call 2 1 false [] [(.v 0), (.v 1)]
  (.op (.un .not) [(.v 8)]
  (.ite (.v 9)
   (.jump 0 [(.c (.bool true))])
  (.call 2 1 false [] [(.v 2), (.v 3)]
  (.op (.un .not) [(.v 10)]
  (.ite (.v 11)
   (.jump 0 [(.c (.bool true))])
  (.call 3 1 false [] [(.v 4), (.v 5), (.v 6)]
  (.op (.un .not) [(.v 12)]
  (.jump 0 [(.v 13)])))))))))
 ir0p4)
theorem rd0 : readFn T SG sigs 3000 sg0 Tryz.f10 an0 = some ir0 := by kernel_rfl
def an1 : Ann := (.s none .z (.s none .z (.s none .z (.s none .z (.s none .z (.s none .z (.s none (.s none .z (.b (.l ⟨1, [(0, .junk), (2, .junk), (3, .junk), (4, .junk), (7, .junk), (8, .junk), (17, .junk), (18, .junk), (19, .junk), (20, .junk), (21, .junk), (22, .junk), (23, .junk), (24, .junk), (25, .junk), (26, .junk), (27, .junk), (28, .junk), (29, .junk), (30, .junk), (31, .junk), (32, .junk), (33, .junk), (34, .junk), (35, .junk), (39, (.atm (.v 0)))], [], 4, []⟩ (.s none .z (.s none .z (.s none (.b (.s none .z (.s none .z (.s none .z (.s none (.s (some ⟨1, [(11, .junk), (12, .junk), (14, .junk), (40, .junk), (41, .junk), (42, .junk), (43, .junk), (44, .junk), (45, .junk), (46, .junk), (47, .junk), (48, .junk), (49, .junk), (50, .junk), (51, .junk), (52, .junk), (53, .junk), (54, .junk), (55, .junk), (56, .junk), (62, (.atm (.v 0)))], [], 5, []⟩) .z .z) (.s none .z (.b (.l ⟨1, [(13, .junk), (62, .junk), (65, (.atm (.v 0)))], [], 5, []⟩ (.s none .z (.s none .z (.s none (.b (.s none .z (.s (some ⟨1, [(16, .junk), (66, .junk), (67, .junk), (68, .junk), (98, (.atm (.v 0)))], [], 5, []⟩) .z .z))) .z))))))))))) .z)))))) .z)))))))
def ir1p0 : IR :=
 (.ite (.v 33)
  (.ret [(.c (.bool false))])
 (.op (.bin .add false) [(.v 30), (.c (.int .i64 1))]
 (.jump 1 [(.v 34)])))
def ir1p1 : IR :=
 (.op (.bin .lss false) [(.v 30), (.v 29)]
 (.ite (.v 31)
  (.op (.row 1) [(.v 26), (.v 30)]
  (.letj 1
   (.op (.bin .leq false) [(.v 32), (.c (.int .i64 4))]
   (.ite (.v 33)
    (.jump 2 [(.c (.bool true))])
   (.op (.bin .eql false) [(.v 32), (.c (.int .i64 8))]
   (.ite (.v 34)
    (.jump 2 [(.c (.bool true))])
   (.op (.bin .eql false) [(.v 32), (.c (.int .i64 5))]
   (.ite (.v 35)
    (.op (.bin .neq false) [(.v 22), (.c (.int .i64 1))]
    (.ite (.v 36)
     (.jump 2 [(.c (.bool true))])
    (.op (.bin .eql false) [(.v 32), (.c (.int .i64 6))]
    (.ite (.v 37)
     (.op (.bin .eql false) [(.v 22), (.c (.int .i64 2))]
     (.ite (.v 38)
      (.jump 2 [(.c (.bool true))])
     (.op (.bin .eql false) [(.v 32), (.c (.int .i64 7))]
     (.ite (.v 39)
      (.op (.bin .eql false) [(.v 22), (.c (.int .i64 1))]
      (.jump 2 [(.v 40)]))
     (.jump 2 [(.c (.bool false))])))))
    (.op (.bin .eql false) [(.v 32), (.c (.int .i64 7))]
    (.ite (.v 38)
     (.op (.bin .eql false) [(.v 22), (.c (.int .i64 1))]
     (.jump 2 [(.v 39)]))
    (.jump 2 [(.c (.bool false))])))))))
   (.op (.bin .eql false) [(.v 32), (.c (.int .i64 6))]
   (.ite (.v 36)
    (.op (.bin .eql false) [(.v 22), (.c (.int .i64 2))]
    (.ite (.v 37)
     (.jump 2 [(.c (.bool true))])
    (.op (.bin .eql false) [(.v 32), (.c (.int .i64 7))]
    (.ite (.v 38)
     (.op (.bin .eql false) [(.v 22), (.c (.int .i64 1))]
     (.jump 2 [(.v 39)]))
    (.jump 2 [(.c (.bool false))])))))
   (.op (.bin .eql false) [(.v 32), (.c (.int .i64 7))]
   (.ite (.v 37)
    (.op (.bin .eql false) [(.v 22), (.c (.int .i64 1))]
    (.jump 2 [(.v 38)]))
   (.jump 2 [(.c (.bool false))])))))))))))
  ir1p0))
 (.op (.bin .add false) [(.v 20), (.c (.int .i64 1))]
 (.jump 0 [(.v 32)]))))
def ir1p2 : IR :=
 (.ite (.v 28)
  (.ret [(.c (.bool false))])
 (.op .lenL [(.v 26)]
 (.loop 1 [(.c (.int .i64 0))] ir1p1)))
def ir1p3 : IR :=
 (.op (.bin .lss false) [(.v 20), (.v 19)]
 (.ite (.v 21)
  (.op .chk [(.v 18), (.v 20)]
  (.op (.get 0 1) [(.v 18), (.v 20)]
  (.call 14 3 false [] [(.v 6), (.v 7), (.v 10), (.v 11), (.v 12), (.v 22)]
  (.call 10 2 false [] [(.v 6), (.v 7), (.v 23), (.v 24), (.v 10), (.v 11), (.v 12)]
  (.letj 1
   (.op (.bin .neq false) [(.v 25), (.c (.int .i64 0))]
   (.ite (.v 28)
    (.jump 1 [(.c (.bool true))])
   (.op (.bin .neq false) [(.v 27), (.c (.int .i64 0))]
   (.jump 1 [(.v 29)]))))
  ir1p2)))))
 (.call 4 1 false [] []
 (.ret [(.v 22)]))))
def ir1 : IR :=
 (.call 5 2 false [] [(.v 0)]
 (.call 6 3 false [] [(.c (.int .i64 1)), (.c (.int .i64 3)), (.v 1), (.v 2)]
 (.call 7 4 false [] [(.v 3), (.v 4), (.v 5)]
 (.call 8 5 false [] [(.v 3), (.c (.int .i64 3)), (.v 8), (.v 9)]
 (.call 13 2 false [] [(.v 6), (.v 10), (.v 11), (.v 12)]
 (.op (.bin .eql false) [(.v 15), (.c (.int .u64 0))]
 (.ite (.v 17)
  (.call 4 1 false [] []
  (.ret [(.v 18)]))
 (.op (.mk 1 3) [(.c (.int .i64 1)), (.c (.int .i64 2)), (.c (.int .i64 3))]
 (.op .lenL [(.v 18)]
 (.loop 1 [(.c (.int .i64 0))] ir1p3))))))))))
theorem rd1 : readFn T SG sigs 3000 sg1 Tryz.f11 an1 = some ir1 := by kernel_rfl
def an2 : Ann := .z
def ir2 : IR :=
 (.op .lenL [(.v 0)]
 (.op (.bin .leq false) [(.v 2), (.c (.int .i64 10))]
 (.ite (.v 3)
  (.op .lenL [(.v 1)]
  (.op (.bin .leq false) [(.v 4), (.c (.int .i64 100))]
  (.ret [(.v 5)])))
 (.ret [(.c (.bool false))]))))
theorem rd2 : readFn T SG sigs 3000 sg2 Tryz.f31 an2 = some ir2 := by kernel_rfl
def an3 : Ann := .z
def ir3 : IR :=
 (.call 15 1 false [] [(.v 0), (.v 1), (.v 2), (.c (.int .i64 800))]
 (.op (.bin .leq false) [(.v 3), (.c (.int .i64 800))]
 (.ite (.v 4)
  (.call 16 1 false [] [(.v 0), (.v 1), (.v 2), (.c (.int .i64 30))]
  (.op (.bin .leq false) [(.v 5), (.c (.int .i64 30))]
  (.ite (.v 6)
   (.call 17 1 false [] [(.v 0), (.v 1), (.v 2)]
   (.ret [(.v 7)]))
  (.ret [(.c (.bool false))]))))
 (.ret [(.c (.bool false))]))))
theorem rd3 : readFn T SG sigs 3000 sg3 Tryz.f32 an3 = some ir3 := by kernel_rfl
def an4 : Ann := .z
def ir4 : IR :=
 (.call 18 1 false [] [(.c (.int .i64 2))]
 (.op (.mk 1 4) [(.c (.int .i64 0)), (.c (.int .i64 1)), (.c (.int .i64 2)), (.c (.int .i64 3))]
 (.call 19 3 false [] [(.c (.int .i64 2)), (.c (.int .u64 12))]
 (.call 14 3 false [] [(.v 0), (.v 1), (.v 2), (.v 3), (.v 4), (.c (.int .i64 1))]
 (.call 19 3 false [] [(.c (.int .i64 2)), (.c (.int .u64 12))]
 (.call 14 3 false [] [(.v 0), (.v 1), (.v 8), (.v 9), (.v 10), (.c (.int .i64 2))]
 (.call 19 3 false [] [(.c (.int .i64 2)), (.c (.int .u64 12))]
 (.call 14 3 false [] [(.v 0), (.v 1), (.v 14), (.v 15), (.v 16), (.c (.int .i64 3))]
 (.call 18 1 false [] [(.c (.int .i64 2))]
 (.op (.mk 1 4) [(.c (.int .i64 1)), (.c (.int .i64 0)), (.c (.int .i64 0)), (.c (.int .i64 1))]
 (.call 19 3 false [] [(.c (.int .i64 2)), (.c (.int .u64 14))]
 (.call 14 3 false [] [(.v 20), (.v 21), (.v 22), (.v 23), (.v 24), (.c (.int .i64 3))]
 (.op (.bin .eql false) [(.v 7), (.c (.int .i64 0))]
 (.ite (.v 28)
  (.op (.bin .eql false) [(.v 13), (.c (.int .i64 0))]
  (.ite (.v 29)
   (.op (.bin .eql false) [(.v 19), (.c (.int .i64 0))]
   (.ite (.v 30)
    (.op (.bin .eql false) [(.v 27), (.c (.int .i64 0))]
    (.ite (.v 31)
     (.op (.mk 1 4) [(.c (.int .i64 1)), (.c (.int .i64 2)), (.c (.int .i64 0)), (.c (.int .i64 3))]
     (.call 12 1 true [] [(.v 6), (.v 32)]
     (.ite (.v 33)
      (.op (.mk 1 4) [(.c (.int .i64 2)), (.c (.int .i64 3)), (.c (.int .i64 0)), (.c (.int .i64 1))]
      (.call 12 1 true [] [(.v 12), (.v 34)]
      (.ite (.v 35)
       (.op (.mk 1 4) [(.c (.int .i64 1)), (.c (.int .i64 2)), (.c (.int .i64 0)), (.c (.int .i64 3))]
       (.call 12 1 true [] [(.v 18), (.v 36)]
       (.ite (.v 37)
        (.op (.mk 1 4) [(.c (.int .i64 2)), (.c (.int .i64 0)), (.c (.int .i64 0)), (.c (.int .i64 1))]
        (.call 12 1 true [] [(.v 26), (.v 38)]
        (.ret [(.v 39)])))
       (.ret [(.c (.bool false))]))))
      (.ret [(.c (.bool false))]))))
     (.ret [(.c (.bool false))]))))
    (.ret [(.c (.bool false))])))
   (.ret [(.c (.bool false))])))
  (.ret [(.c (.bool false))])))
 (.ret [(.c (.bool false))])))))))))))))))
theorem rd4 : readFn T SG sigs 3000 sg4 Tryz.f20 an4 = some ir4 := by kernel_rfl
def an5 : Ann := .z
def ir5 : IR :=
 (.op .lenL [(.v 0)]
 (.op .min [(.v 1), (.c (.int .i64 2000))]
 (.op (.subL 1) [(.v 0), (.c (.int .i64 0)), (.v 2)]
 (.ret [(.v 3), (.c (.int .i64 0))]))))
theorem rd5 : readFn T SG sigs 3000 sg5 Tryz.f15 an5 = some ir5 := by kernel_rfl
def an6 : Ann := .z
def ir6 : IR :=
 (.op (.bin .sub false) [(.v 1), (.v 0)]
 (.op (.bin .add false) [(.v 4), (.c (.int .i64 1))]
 (.call 20 3 false [] [(.v 5), (.v 2), (.v 3)]
 (.op (.bin .add false) [(.v 0), (.v 6)]
 (.ret [(.v 9), (.v 7), (.v 8)])))))
theorem rd6 : readFn T SG sigs 3000 sg6 Tryz.f16 an6 = some ir6 := by kernel_rfl
def an7 : Ann := (.s none .z (.s none .z (.s none .z (.s none (.s none .z (.b (.l ⟨4, [(7, (.atm (.v 0))), (10, .junk), (11, .junk), (12, .junk), (13, .junk), (14, .junk), (15, .junk)], [(0, ⟨false, false, 96, 2, (.c (.sl [])), [[(.atm (.v 1)), (.atm (.v 2))]]⟩), (2, ⟨false, true, 3, 1, (.v 3), []⟩)], 3, []⟩ .z))) .z))))
def ir7p0 : IR :=
 (.op .lenL [(.v 12)]
 (.op (.bin .lss false) [(.v 9), (.v 13)]
 (.ite (.v 14)
  (.call 20 3 false [] [(.v 6), (.v 10), (.v 11)]
  (.op .chk [(.v 12), (.v 9)]
  (.op (.set 0 1) [(.v 12), (.v 9), (.v 15)]
  (.op (.bin .add false) [(.v 9), (.c (.int .i64 1))]
  (.jump 0 [(.v 19), (.v 16), (.v 17), (.v 18)])))))
 (.call 18 1 false [] [(.v 0)]
 (.call 21 3 false [] [(.v 15), (.v 12)]
 (.ret [(.v 16), (.v 17), (.v 10), (.v 11)]))))))
def ir7 : IR :=
 (.op (.conv .u64) [(.v 0)]
 (.op (.bin .shl false) [(.c (.int .i64 1)), (.v 3)]
 (.op (.mkL 8 [(.int .i64 0)]) [(.v 4)]
 (.call 6 3 false [] [(.c (.int .i64 1)), (.c (.int .i64 6)), (.v 1), (.v 2)]
 (.loop 4 [(.c (.int .i64 0)), (.v 7), (.v 8), (.v 5)] ir7p0)))))
theorem rd7 : readFn T SG sigs 3000 sg7 Tryz.f17 an7 = some ir7 := by kernel_rfl
def an8 : Ann := (.s none .z (.s none .z (.s none (.s (some ⟨1, [(11, .junk), (12, .junk), (18, (.atm (.v 0)))], [], 2, []⟩) .z .z) (.s none .z (.s none .z (.s (some ⟨3, [(7, .junk), (9, (.atm (.v 0))), (18, .junk), (34, .junk), (35, .junk), (36, .junk), (37, .junk), (38, .junk), (39, .junk)], [(0, ⟨false, false, 96, 2, (.c (.sl [])), [[(.atm (.v 1)), (.atm (.v 2))]]⟩)], 4, []⟩) (.s none .z (.b (.s none .z (.c .z (.s (some ⟨1, [(7, .junk), (18, .junk), (34, .junk), (35, .junk), (36, .junk), (37, .junk), (38, .junk), (39, .junk), (40, .junk), (41, .junk), (42, .junk), (43, .junk), (44, (.atm (.v 0)))], [], 4, []⟩) .z .z))))) (.s none (.s none .z (.b (.l ⟨4, [(10, (.atm (.v 0)))], [(0, ⟨false, false, 96, 2, (.c (.sl [])), [[(.atm (.v 1)), (.atm (.v 2))]]⟩), (4, ⟨false, true, 39, 3, (.v 3), []⟩)], 5, [⟨some (3, 0, 2), 0, 39, 3⟩]⟩ .z))) .z)))))))
def ir8p0 : IR :=
 (.op (.bin .lss false) [(.v 14), (.v 11)]
 (.ite (.v 18)
  (.op (.bin .sub false) [(.v 1), (.c (.int .i64 1))]
  (.call 8 5 false [] [(.v 0), (.v 19), (.v 15), (.v 16)]
  (.op (.mk 3 1) [(.v 20), (.v 21), (.v 22)]
  (.op (.app 3 48) [(.v 17), (.v 25)]
  (.op (.bin .add false) [(.v 14), (.c (.int .i64 1))]
  (.jump 0 [(.v 27), (.v 23), (.v 24), (.v 26)]))))))
 (.ret [(.v 10), (.c (.str [])), (.v 17), (.v 15), (.v 16)])))
def ir8p1 : IR :=
 (.loop 4 [(.c (.int .i64 0)), (.v 12), (.v 13), (.c (.sl []))] ir8p0)
def ir8p2 : IR :=
 (.ite (.v 12)
  (.call 20 3 false [] [(.c (.int .i64 2)), (.v 5), (.v 6)]
  (.op (.bin .add false) [(.c (.int .i64 2)), (.v 13)]
  (.jump 0 [(.v 16), (.v 14), (.v 15)])))
 (.jump 0 [(.c (.int .i64 2)), (.v 5), (.v 6)]))
def ir8p3 : IR :=
 (.ite (.v 7)
  (.op (.bin .eql false) [(.v 4), (.c (.int .i64 0))]
  (.ite (.v 8)
   (.call 20 3 false [] [(.c (.int .i64 2)), (.v 5), (.v 6)]
   (.op (.bin .add false) [(.c (.int .i64 1)), (.v 9)]
   (.ret [(.v 12), (.c (.str [])), (.c (.sl [])), (.v 10), (.v 11)])))
  (.call 20 3 false [] [(.v 0), (.v 5), (.v 6)]
  (.op (.bin .add false) [(.c (.int .i64 97)), (.v 9)]
  (.op (.conv .u8) [(.v 12)]
  (.op (.mk 1 1) [(.v 13)]
  (.op .toS [(.v 14)]
  (.ret [(.c (.int .i64 3)), (.v 15), (.c (.sl [])), (.v 10), (.v 11)]))))))))
 (.op (.mk 1 8) [(.c (.int .i64 4)), (.c (.int .i64 4)), (.c (.int .i64 5)), (.c (.int .i64 5)), (.c (.int .i64 6)), (.c (.int .i64 6)), (.c (.int .i64 7)), (.c (.int .i64 8))]
 (.op (.bin .sub false) [(.v 4), (.c (.int .i64 4))]
 (.op .chk [(.v 8), (.v 9)]
 (.op (.get 0 1) [(.v 8), (.v 9)]
 (.letj 3
  (.op (.bin .eql false) [(.v 10), (.c (.int .i64 4))]
  (.ite (.v 11)
   (.jump 0 [(.c (.int .i64 1)), (.v 5), (.v 6)])
  (.letj 1
   (.op (.bin .eql false) [(.v 10), (.c (.int .i64 5))]
   (.ite (.v 12)
    (.jump 1 [(.c (.bool true))])
   (.op (.bin .eql false) [(.v 10), (.c (.int .i64 6))]
   (.jump 1 [(.v 13)]))))
  ir8p2)))
 ir8p1))))))
def ir8 : IR :=
 (.call 20 3 false [] [(.c (.int .i64 12)), (.v 2), (.v 3)]
 (.letj 1
  (.op (.bin .lss false) [(.v 1), (.c (.int .i64 1))]
  (.ite (.v 7)
   (.jump 0 [(.c (.bool true))])
  (.op (.bin .lss false) [(.v 4), (.c (.int .i64 4))]
  (.jump 0 [(.v 8)]))))
 ir8p3))
theorem rd8 : readFn T SG sigs 3000 sg8 Tryz.f35 an8 = some ir8 := by kernel_rfl
def an9 : Ann := .z
def ir9 : IR :=
 (.call 22 1 false [] [(.v 0), (.v 1)]
 (.op (.bin .neq false) [(.v 6), (.c (.int .i64 0))]
 (.ite (.v 7)
  (.ret [(.c (.sl [])), (.c (.sl [])), (.v 6)])
 (.call 23 1 false [] [(.v 5)]
 (.op (.un .not) [(.v 8)]
 (.ite (.v 9)
  (.ret [(.c (.sl [])), (.c (.sl [])), (.c (.int .i64 4))])
 (.call 13 2 false [] [(.v 0), (.v 2), (.v 3), (.v 4)]
 (.op (.bin .neq false) [(.v 11), (.c (.int .i64 0))]
 (.ite (.v 12)
  (.ret [(.c (.sl [])), (.c (.sl [])), (.v 11)])
 (.op (.bin .eql false) [(.v 10), (.c (.int .u64 0))]
 (.ite (.v 13)
  (.ret [(.c (.sl [])), (.c (.sl [])), (.c (.int .i64 9))])
 (.call 24 2 false [] [(.v 0), (.v 1), (.v 10), (.v 5)]
 (.ret [(.v 14), (.v 15), (.c (.int .i64 0))])))))))))))))
theorem rd9 : readFn T SG sigs 3000 sg9 Tryz.f25 an9 = some ir9 := by kernel_rfl
def an10 : Ann := (.f [138, 139, 140, 141, 142, 143, 144] (.s none .z (.s none (.s none .z (.b (.l ⟨1, [(0, .junk), (1, .junk), (2, .junk), (6, .junk), (7, .junk), (24, .junk), (25, .junk), (28, (.atm (.v 0)))], [], 4, []⟩ .z))) (.s none .z (.s none .z (.s none .z (.s none .z (.s none .z (.s none .z (.s none (.s none .z (.b (.l ⟨2, [(5, .junk), (12, .junk), (26, .junk), (27, .junk), (28, .junk), (29, .junk), (38, .junk), (39, .junk), (40, .junk), (41, .junk), (42, .junk), (43, .junk), (44, .junk), (45, .junk), (46, .junk), (47, .junk), (48, .junk), (49, .junk), (50, .junk), (51, .junk), (52, .junk), (53, .junk), (55, .junk), (56, .junk), (57, .junk), (58, .junk), (59, .junk), (60, .junk), (61, .junk), (62, .junk), (63, .junk), (64, .junk), (65, .junk), (66, .junk), (67, .junk), (69, (.atm (.v 0)))], [(4, ⟨false, true, 4, 1, (.v 1), []⟩)], 5, []⟩ (.s none .z (.s none .z (.s none (.b (.s none .z (.s none .z (.b (.l ⟨2, [(70, .junk), (71, .junk), (72, .junk), (73, .junk), (75, (.atm (.v 0)))], [(4, ⟨false, true, 4, 1, (.v 1), []⟩)], 5, []⟩ (.s none .z (.s none .z (.s none (.b (.s none .z (.s (some ⟨5, [(17, .junk), (18, (.ptr 44 0 0)), (76, .junk), (77, .junk)], [(44, ⟨false, false, 132, 5, (.c (.sl [])), [[(.atm (.v 0)), (.atm (.v 1)), (.atm (.v 2)), (.atm (.v 3)), (.atm (.v 4))]]⟩)], 45, []⟩) .z (.s none .z (.b (.l ⟨2, [(119, (.atm (.v 0)))], [(4, ⟨false, true, 4, 1, (.v 1), []⟩)], 45, []⟩ (.s none .z (.s none .z (.s (some ⟨1, [(120, .junk)], [(4, ⟨false, true, 4, 1, (.v 0), []⟩)], 45, []⟩) .z .z))))))))) .z)))))))) .z)))))) (.s none .z (.s none .z (.s none (.s none .z (.b (.l ⟨2, [(3, .junk), (4, .junk), (11, .junk), (13, .junk), (14, .junk), (15, .junk), (68, .junk), (69, .junk), (70, .junk), (140, .junk), (141, .junk), (142, .junk), (143, .junk), (144, .junk), (145, .junk), (146, .junk), (147, .junk), (150, (.atm (.v 0)))], [(5, ⟨false, true, 3, 1, (.v 1), []⟩)], 6, [⟨none, 21, 3, 1⟩]⟩ (.s none .z (.s none .z (.s (some ⟨1, [(151, .junk)], [(5, ⟨false, true, 3, 1, (.v 0), []⟩)], 6, []⟩) .z .z)))))) .z)))))))))))))
def ir10p0 : IR :=
 (.op (.bin .add false) [(.v 36), (.c (.int .i64 1))]
 (.jump 3 [(.v 40), (.v 39)]))
def ir10p1 : IR :=
 (.op (.bin .lss false) [(.v 36), (.v 35)]
 (.ite (.v 38)
  (.letj 1
   (.op (.row 1) [(.v 18), (.v 36)]
   (.op .chk [(.v 37), (.v 36)]
   (.op (.get 0 1) [(.v 37), (.v 36)]
   (.ite (.v 40)
    (.op .chk [(.v 37), (.v 36)]
    (.op (.set 0 1) [(.v 37), (.v 36), (.c (.bool true))]
    (.jump 4 [(.v 41)])))
   (.isf (.v 39) 138
    (.call 32 1 false [] [(.v 30), (.v 31), (.v 32), (.v 33), (.v 34)]
    (.op (.un .not) [(.v 41)]
    (.op .chk [(.v 37), (.v 36)]
    (.op (.set 0 1) [(.v 37), (.v 36), (.v 42)]
    (.jump 4 [(.v 43)])))))
   (.isf (.v 39) 139
    (.call 33 1 false [] [(.v 30), (.v 31), (.v 32), (.v 33), (.v 34)]
    (.op (.un .not) [(.v 41)]
    (.op .chk [(.v 37), (.v 36)]
    (.op (.set 0 1) [(.v 37), (.v 36), (.v 42)]
    (.jump 4 [(.v 43)])))))
   (.isf (.v 39) 140
    (.call 34 1 false [] [(.v 30), (.v 31), (.v 32), (.v 33), (.v 34)]
    (.op (.un .not) [(.v 41)]
    (.op .chk [(.v 37), (.v 36)]
    (.op (.set 0 1) [(.v 37), (.v 36), (.v 42)]
    (.jump 4 [(.v 43)])))))
   (.isf (.v 39) 141
    (.call 35 1 false [] [(.v 30), (.v 31), (.v 32), (.v 33), (.v 34)]
    (.op (.un .not) [(.v 41)]
    (.op .chk [(.v 37), (.v 36)]
    (.op (.set 0 1) [(.v 37), (.v 36), (.v 42)]
    (.jump 4 [(.v 43)])))))
   (.isf (.v 39) 142
    (.call 36 1 false [] [(.v 30), (.v 31), (.v 32), (.v 33), (.v 34)]
    (.op (.un .not) [(.v 41)]
    (.op .chk [(.v 37), (.v 36)]
    (.op (.set 0 1) [(.v 37), (.v 36), (.v 42)]
    (.jump 4 [(.v 43)])))))
   (.isf (.v 39) 143
    (.call 37 1 false [] [(.v 30), (.v 31), (.v 32), (.v 33), (.v 34)]
    (.op (.un .not) [(.v 41)]
    (.op .chk [(.v 37), (.v 36)]
    (.op (.set 0 1) [(.v 37), (.v 36), (.v 42)]
    (.jump 4 [(.v 43)])))))
   (.isf (.v 39) 144
    (.call 38 1 false [] [(.v 30), (.v 31), (.v 32), (.v 33), (.v 34)]
    (.op (.un .not) [(.v 41)]
    (.op .chk [(.v 37), (.v 36)]
    (.op (.set 0 1) [(.v 37), (.v 36), (.v 42)]
    (.jump 4 [(.v 43)])))))
   .fail)))))))))))
  ir10p0)
 (.op (.bin .add false) [(.v 27), (.c (.int .i64 1))]
 (.jump 2 [(.v 39), (.v 37)]))))
def ir10p2 : IR :=
 (.op .lenL [(.v 18)]
 (.loop 2 [(.c (.int .i64 0)), (.v 28)] ir10p1))
def ir10p3 : IR :=
 (.op (.bin .lss false) [(.v 27), (.v 26)]
 (.ite (.v 29)
  (.letj 5
   (.op (.row 1) [(.v 1), (.v 23)]
   (.op (.row 1) [(.v 1), (.v 27)]
   (.call 30 1 false [] [(.v 30), (.v 31)]
   (.op (.row 1) [(.v 3), (.v 23)]
   (.op (.row 1) [(.v 3), (.v 27)]
   (.call 30 1 false [] [(.v 33), (.v 34)]
   (.call 31 1 false [] [(.v 13), (.v 23)]
   (.call 31 1 false [] [(.v 13), (.v 27)]
   (.call 31 1 false [] [(.v 17), (.v 23)]
   (.op (.un .not) [(.v 38)]
   (.ite (.v 39)
    (.call 31 1 false [] [(.v 17), (.v 27)]
    (.op (.un .not) [(.v 40)]
    (.jump 3 [(.v 32), (.v 35), (.v 36), (.v 37), (.v 41)])))
   (.jump 3 [(.v 32), (.v 35), (.v 36), (.v 37), (.c (.bool false))]))))))))))))
  ir10p2)
 (.op (.bin .add false) [(.v 23), (.c (.int .i64 1))]
 (.jump 1 [(.v 30), (.v 28)]))))
def ir10p4 : IR :=
 (.op (.bin .add false) [(.v 31), (.c (.int .i64 1))]
 (.jump 2 [(.v 35), (.v 34)]))
def ir10p5 : IR :=
 (.op (.bin .lss false) [(.v 31), (.v 30)]
 (.ite (.v 33)
  (.letj 1
   (.op .chk [(.v 29), (.v 31)]
   (.op (.get 0 1) [(.v 29), (.v 31)]
   (.ite (.v 34)
    (.op (.bin .add false) [(.v 31), (.c (.int .i64 1))]
    (.op (.mk 1 1) [(.v 35)]
    (.op (.app 1 8) [(.v 32), (.v 36)]
    (.jump 3 [(.v 37)]))))
   (.jump 3 [(.v 32)]))))
  ir10p4)
 (.ret [(.v 32), (.c (.int .i64 0))])))
def ir10p6 : IR :=
 (.op (.bin .lss false) [(.v 23), (.v 22)]
 (.ite (.v 25)
  (.op .lenL [(.v 1)]
  (.loop 2 [(.c (.int .i64 0)), (.v 24)] ir10p3))
 (.op .lenL [(.v 18)]
 (.call 39 1 false [] [(.v 2), (.v 3)]
 (.op (.bin .neq false) [(.v 27), (.v 17)]
 (.op .chk [(.v 24), (.v 26)]
 (.op (.set 0 1) [(.v 24), (.v 26), (.v 28)]
 (.op .lenL [(.v 29)]
 (.loop 2 [(.c (.int .i64 0)), (.c (.sl []))] ir10p5)))))))))
def ir10p7 : IR :=
 (.op (.bin .lss false) [(.v 9), (.v 8)]
 (.ite (.v 10)
  (.op .chk [(.v 7), (.v 9)]
  (.op (.get 0 2) [(.v 7), (.v 9)]
  (.call 25 1 false [] [(.v 11), (.v 12)]
  (.op (.bin .neq false) [(.v 13), (.c (.int .i64 0))]
  (.ite (.v 14)
   (.ret [(.c (.sl [])), (.v 13)])
  (.op (.bin .add false) [(.v 9), (.c (.int .i64 1))]
  (.jump 0 [(.v 15)])))))))
 (.call 26 1 false [] [(.v 0), (.v 2)]
 (.op (.un .not) [(.v 11)]
 (.ite (.v 12)
  (.ret [(.c (.sl [])), (.c (.int .i64 10))])
 (.call 27 2 false [] [(.v 0), (.v 4), (.v 5), (.v 6)]
 (.op (.bin .neq false) [(.v 14), (.c (.int .i64 0))]
 (.ite (.v 15)
  (.ret [(.c (.sl [])), (.v 14)])
 (.op (.bin .eql false) [(.v 13), (.c (.int .u64 0))]
 (.ite (.v 16)
  (.ret [(.c (.sl [])), (.c (.int .i64 9))])
 (.call 28 1 false [] [(.v 0), (.v 1), (.v 13)]
 (.call 29 1 false [] []
 (.op .lenL [(.v 18)]
 (.op (.bin .add false) [(.v 19), (.c (.int .i64 1))]
 (.op (.mkL 1 [(.bool false)]) [(.v 20)]
 (.op .lenL [(.v 1)]
 (.loop 2 [(.c (.int .i64 0)), (.v 21)] ir10p6)))))))))))))))))
def ir10 : IR :=
 (.op (.mk 2 2) [(.v 0), (.v 1), (.v 2), (.v 3)]
 (.op .lenL [(.v 7)]
 (.loop 1 [(.c (.int .i64 0))] ir10p7)))
theorem rd10 : readFn T SG sigs 3000 sg10 Tryz.f49 an10 = some ir10 := by kernel_rfl
def an11 : Ann := (.s none .z (.s none .z (.s none .z (.s none .z (.s none .z (.s none .z (.s none .z (.s none .z (.s none .z (.s none .z (.s none (.s none .z (.b (.l ⟨10, [(0, .junk), (1, .junk), (2, .junk), (5, .junk), (6, .junk), (7, .junk), (8, .junk), (9, .junk), (11, .junk), (14, (.atm (.v 0))), (20, .junk), (21, .junk), (22, .junk), (23, .junk), (25, .junk), (26, .junk), (27, .junk), (28, .junk), (30, .junk), (31, .junk), (32, .junk), (33, .junk), (34, .junk), (35, .junk), (36, .junk), (37, .junk), (38, .junk), (39, .junk), (40, .junk), (41, .junk), (42, .junk), (43, .junk), (44, .junk), (46, .junk), (47, .junk), (48, .junk), (49, .junk), (50, .junk), (51, .junk), (52, .junk), (53, .junk), (54, .junk), (55, .junk)], [(3, ⟨false, false, 64, 9, (.c (.sl [])), [[(.atm (.v 1)), (.atm (.v 2)), (.atm (.v 3)), (.atm (.v 4)), (.atm (.v 5)), (.atm (.v 6)), (.atm (.v 7)), (.atm (.v 8)), (.atm (.v 9))]]⟩)], 4, []⟩ (.s none .z (.s none (.b (.s none .z (.b (.l ⟨10, [(15, (.atm (.v 0))), (56, .junk), (57, .junk), (58, .junk), (59, .junk), (60, .junk)], [(3, ⟨false, false, 64, 9, (.c (.sl [])), [[(.atm (.v 1)), (.atm (.v 2)), (.atm (.v 3)), (.atm (.v 4)), (.atm (.v 5)), (.atm (.v 6)), (.atm (.v 7)), (.atm (.v 8)), (.atm (.v 9))]]⟩)], 4, []⟩ (.s none .z (.s none (.b (.s none .z (.s none .z (.b (.l ⟨10, [(17, (.atm (.v 0))), (63, .junk), (64, .junk), (65, .junk), (66, .junk), (67, .junk), (70, .junk), (71, .junk), (72, .junk), (73, .junk), (74, .junk), (75, .junk), (76, .junk)], [(3, ⟨false, false, 64, 9, (.c (.sl [])), [[(.atm (.v 1)), (.atm (.v 2)), (.atm (.v 3)), (.atm (.v 4)), (.atm (.v 5)), (.atm (.v 6)), (.atm (.v 7)), (.atm (.v 8)), (.atm (.v 9))]]⟩)], 5, []⟩ (.s none .z (.s (some ⟨10, [(17, (.atm (.v 0))), (77, .junk), (78, .junk)], [(3, ⟨false, false, 64, 9, (.c (.sl [])), [[(.atm (.v 1)), (.atm (.v 2)), (.atm (.v 3)), (.atm (.v 4)), (.atm (.v 5)), (.atm (.v 6)), (.atm (.v 7)), (.atm (.v 8)), (.atm (.v 9))]]⟩)], 5, []⟩) .z .z))))))) .z)))))) .z))))) (.s none .z (.s none (.s none .z (.b (.l ⟨2, [(3, .junk), (4, .junk), (10, .junk), (12, .junk), (14, .junk), (19, (.atm (.v 0))), (56, .junk), (57, .junk), (58, .junk), (59, .junk), (60, .junk)], [(4, ⟨false, true, 3, 1, (.v 1), []⟩)], 5, [⟨none, 18, 3, 1⟩]⟩ (.s none .z (.s (some ⟨2, [(19, (.atm (.v 0))), (91, .junk), (92, .junk)], [(4, ⟨false, true, 3, 1, (.v 1), []⟩)], 5, []⟩) (.b (.s (some ⟨2, [(19, (.atm (.v 0))), (91, .junk), (92, .junk), (97, (.atm (.v 1)))], [], 5, []⟩) .z .z)) .z))))) .z)))))))))))))
def ir11p0 : IR :=
 (.op (.bin .add false) [(.v 63), (.c (.int .i64 1))]
 (.jump 2 [(.v 73), (.v 64), (.v 65), (.v 66), (.v 67), (.v 68), (.v 69), (.v 70), (.v 71), (.v 72)]))
def ir11p1 : IR :=
 (.op (.bin .leq false) [(.v 52), (.c (.int .i64 7))]
 (.ite (.v 62)
  (.letj 10
   (.op (.bin .eql false) [(.v 52), (.c (.int .i64 0))]
   (.ite (.v 63)
    (.ite (.v 53)
     (.jump 3 [(.c (.int .i64 0)), (.c (.bool true)), (.v 54), (.v 55), (.v 56), (.v 57), (.v 58), (.v 59), (.v 60), (.v 61)])
    (.jump 3 [(.c (.int .i64 0)), (.v 44), (.v 54), (.v 55), (.v 56), (.v 57), (.v 58), (.v 59), (.v 60), (.v 61)]))
   (.op (.bin .eql false) [(.v 52), (.c (.int .i64 1))]
   (.ite (.v 64)
    (.ite (.v 54)
     (.jump 3 [(.c (.int .i64 1)), (.v 53), (.c (.bool true)), (.v 55), (.v 56), (.v 57), (.v 58), (.v 59), (.v 60), (.v 61)])
    (.jump 3 [(.c (.int .i64 1)), (.v 53), (.v 45), (.v 55), (.v 56), (.v 57), (.v 58), (.v 59), (.v 60), (.v 61)]))
   (.op (.bin .eql false) [(.v 52), (.c (.int .i64 2))]
   (.ite (.v 65)
    (.ite (.v 55)
     (.jump 3 [(.c (.int .i64 2)), (.v 53), (.v 54), (.c (.bool true)), (.v 56), (.v 57), (.v 58), (.v 59), (.v 60), (.v 61)])
    (.jump 3 [(.c (.int .i64 2)), (.v 53), (.v 54), (.v 46), (.v 56), (.v 57), (.v 58), (.v 59), (.v 60), (.v 61)]))
   (.op (.bin .eql false) [(.v 52), (.c (.int .i64 3))]
   (.ite (.v 66)
    (.ite (.v 56)
     (.jump 3 [(.c (.int .i64 3)), (.v 53), (.v 54), (.v 55), (.c (.bool true)), (.v 57), (.v 58), (.v 59), (.v 60), (.v 61)])
    (.jump 3 [(.c (.int .i64 3)), (.v 53), (.v 54), (.v 55), (.v 47), (.v 57), (.v 58), (.v 59), (.v 60), (.v 61)]))
   (.op (.bin .eql false) [(.v 52), (.c (.int .i64 4))]
   (.ite (.v 67)
    (.ite (.v 57)
     (.jump 3 [(.c (.int .i64 4)), (.v 53), (.v 54), (.v 55), (.v 56), (.c (.bool true)), (.v 58), (.v 59), (.v 60), (.v 61)])
    (.jump 3 [(.c (.int .i64 4)), (.v 53), (.v 54), (.v 55), (.v 56), (.v 48), (.v 58), (.v 59), (.v 60), (.v 61)]))
   (.op (.bin .eql false) [(.v 52), (.c (.int .i64 5))]
   (.ite (.v 68)
    (.ite (.v 58)
     (.jump 3 [(.c (.int .i64 5)), (.v 53), (.v 54), (.v 55), (.v 56), (.v 57), (.c (.bool true)), (.v 59), (.v 60), (.v 61)])
    (.jump 3 [(.c (.int .i64 5)), (.v 53), (.v 54), (.v 55), (.v 56), (.v 57), (.v 49), (.v 59), (.v 60), (.v 61)]))
   (.op (.bin .eql false) [(.v 52), (.c (.int .i64 6))]
   (.ite (.v 69)
    (.ite (.v 59)
     (.jump 3 [(.c (.int .i64 6)), (.v 53), (.v 54), (.v 55), (.v 56), (.v 57), (.v 58), (.c (.bool true)), (.v 60), (.v 61)])
    (.jump 3 [(.c (.int .i64 6)), (.v 53), (.v 54), (.v 55), (.v 56), (.v 57), (.v 58), (.v 50), (.v 60), (.v 61)]))
   (.op (.bin .eql false) [(.v 52), (.c (.int .i64 7))]
   (.ite (.v 70)
    (.ite (.v 60)
     (.jump 3 [(.c (.int .i64 7)), (.v 53), (.v 54), (.v 55), (.v 56), (.v 57), (.v 58), (.v 59), (.c (.bool true)), (.v 61)])
    (.jump 3 [(.c (.int .i64 7)), (.v 53), (.v 54), (.v 55), (.v 56), (.v 57), (.v 58), (.v 59), (.v 51), (.v 61)]))
   (.op (.bin .eql false) [(.v 52), (.c (.int .i64 8))]
   (.ite (.v 71)
    (.ite (.v 61)
     (.jump 3 [(.c (.int .i64 8)), (.v 53), (.v 54), (.v 55), (.v 56), (.v 57), (.v 58), (.v 59), (.v 60), (.c (.bool true))])
    .fail)
   .fail))))))))))))))))))
  ir11p0)
 (.op (.bin .add false) [(.v 32), (.c (.int .i64 1))]
 (.jump 1 [(.v 63), (.v 53), (.v 54), (.v 55), (.v 56), (.v 57), (.v 58), (.v 59), (.v 60), (.v 61)]))))
def ir11p2 : IR :=
 (.op .lenL [(.v 1)]
 (.op (.bin .lss false) [(.v 32), (.v 42)]
 (.ite (.v 43)
  (.call 43 8 false [] [(.v 0), (.v 1), (.v 2), (.v 3), (.v 13), (.v 17), (.v 20), (.v 32)]
  (.loop 10 [(.c (.int .i64 1)), (.v 33), (.v 34), (.v 35), (.v 36), (.v 37), (.v 38), (.v 39), (.v 40), (.v 41)] ir11p1))
 (.op (.bin .add false) [(.v 20), (.c (.int .i64 1))]
 (.jump 0 [(.v 44), (.v 33), (.v 34), (.v 35), (.v 36), (.v 37), (.v 38), (.v 39), (.v 40), (.v 41)])))))
def ir11p3 : IR :=
 (.op (.bin .add false) [(.v 35), (.c (.int .i64 1))]
 (.jump 1 [(.v 37), (.v 36)]))
def ir11p4 : IR :=
 (.ite (.v 36)
  (.op (.mk 1 1) [(.v 35)]
  (.op (.app 1 8) [(.v 33), (.v 37)]
  (.jump 2 [(.v 35), (.v 38)])))
 (.jump 2 [(.v 35), (.v 33)]))
def ir11p5 : IR :=
 (.op (.bin .leq false) [(.v 32), (.c (.int .i64 8))]
 (.ite (.v 34)
  (.letj 2
   (.letj 2
    (.op (.bin .eql false) [(.v 32), (.c (.int .i64 0))]
    (.ite (.v 35)
     (.jump 3 [(.c (.int .i64 0)), (.v 21)])
    (.op (.bin .eql false) [(.v 32), (.c (.int .i64 1))]
    (.ite (.v 36)
     (.jump 3 [(.c (.int .i64 1)), (.v 22)])
    (.op (.bin .eql false) [(.v 32), (.c (.int .i64 2))]
    (.ite (.v 37)
     (.jump 3 [(.c (.int .i64 2)), (.v 23)])
    (.op (.bin .eql false) [(.v 32), (.c (.int .i64 3))]
    (.ite (.v 38)
     (.jump 3 [(.c (.int .i64 3)), (.v 24)])
    (.op (.bin .eql false) [(.v 32), (.c (.int .i64 4))]
    (.ite (.v 39)
     (.jump 3 [(.c (.int .i64 4)), (.v 25)])
    (.op (.bin .eql false) [(.v 32), (.c (.int .i64 5))]
    (.ite (.v 40)
     (.jump 3 [(.c (.int .i64 5)), (.v 26)])
    (.op (.bin .eql false) [(.v 32), (.c (.int .i64 6))]
    (.ite (.v 41)
     (.jump 3 [(.c (.int .i64 6)), (.v 27)])
    (.op (.bin .eql false) [(.v 32), (.c (.int .i64 7))]
    (.ite (.v 42)
     (.jump 3 [(.c (.int .i64 7)), (.v 28)])
    (.op (.bin .eql false) [(.v 32), (.c (.int .i64 8))]
    (.ite (.v 43)
     (.jump 3 [(.c (.int .i64 8)), (.v 29)])
    .fail))))))))))))))))))
   ir11p4)
  ir11p3)
 (.ret [(.v 33), (.c (.int .i64 0))])))
def ir11p6 : IR :=
 (.op .lenL [(.v 1)]
 (.op (.bin .lss false) [(.v 20), (.v 30)]
 (.ite (.v 31)
  (.loop 10 [(.c (.int .i64 0)), (.v 21), (.v 22), (.v 23), (.v 24), (.v 25), (.v 26), (.v 27), (.v 28), (.v 29)] ir11p2)
 (.loop 2 [(.c (.int .i64 1)), (.c (.sl []))] ir11p5))))
def ir11 : IR :=
 (.call 22 1 false [] [(.v 0), (.v 1)]
 (.op (.bin .neq false) [(.v 7), (.c (.int .i64 0))]
 (.ite (.v 8)
  (.ret [(.c (.sl [])), (.v 7)])
 (.call 22 1 false [] [(.v 2), (.v 3)]
 (.op (.bin .neq false) [(.v 9), (.c (.int .i64 0))]
 (.ite (.v 10)
  (.ret [(.c (.sl [])), (.v 9)])
 (.call 40 1 false [] [(.v 0), (.v 2)]
 (.op (.un .not) [(.v 11)]
 (.ite (.v 12)
  (.ret [(.c (.sl [])), (.c (.int .i64 10))])
 (.call 13 2 false [] [(.v 0), (.v 4), (.v 5), (.v 6)]
 (.op (.bin .neq false) [(.v 14), (.c (.int .i64 0))]
 (.ite (.v 15)
  (.ret [(.c (.sl [])), (.v 14)])
 (.op (.bin .eql false) [(.v 13), (.c (.int .u64 0))]
 (.ite (.v 16)
  (.ret [(.c (.sl [])), (.c (.int .i64 9))])
 (.call 41 1 false [] [(.v 0), (.v 1), (.v 13)]
 (.call 42 1 false [] [(.v 2), (.v 3)]
 (.op (.bin .neq false) [(.v 18), (.v 17)]
 (.loop 10 [(.c (.int .i64 0)), (.c (.bool false)), (.c (.bool false)), (.c (.bool false)), (.c (.bool false)), (.c (.bool false)), (.c (.bool false)), (.c (.bool false)), (.c (.bool false)), (.v 19)] ir11p6))))))))))))))))))
theorem rd11 : readFn T SG sigs 3000 sg11 Tryz.f50 an11 = some ir11 := by kernel_rfl
def an12 : Ann := (.s none .z (.s none .z (.s none (.s none .z (.b (.l ⟨1, [(4, .junk), (6, .junk), (7, .junk), (8, .junk), (9, .junk), (10, .junk), (11, .junk), (13, (.atm (.v 0)))], [], 0, []⟩ .z))) .z)))
def ir12p0 : IR :=
 (.op (.bin .lss false) [(.v 6), (.v 5)]
 (.ite (.v 7)
  (.op (.row 1) [(.v 0), (.v 6)]
  (.op (.row 1) [(.v 1), (.v 6)]
  (.op (.bin .neq false) [(.v 8), (.v 9)]
  (.ite (.v 10)
   (.ret [(.c (.bool false))])
  (.op (.bin .add false) [(.v 6), (.c (.int .i64 1))]
  (.jump 0 [(.v 11)]))))))
 (.ret [(.c (.bool true))])))
def ir12 : IR :=
 (.op .lenL [(.v 0)]
 (.op .lenL [(.v 1)]
 (.op (.bin .neq false) [(.v 2), (.v 3)]
 (.ite (.v 4)
  (.ret [(.c (.bool false))])
 (.op .lenL [(.v 0)]
 (.loop 1 [(.c (.int .i64 0))] ir12p0))))))
theorem rd12 : readFn T SG sigs 3000 sg12 Tryz.f51 an12 = some ir12 := by kernel_rfl
def an13 : Ann := (.s none .z (.s none .z (.s none .z (.s none .z (.s none (.s none .z (.b (.l ⟨1, [(1, .junk), (4, .junk), (5, .junk), (6, .junk), (8, (.atm (.v 0))), (11, .junk), (12, .junk), (13, .junk), (14, .junk), (15, .junk), (16, .junk), (17, .junk), (19, .junk), (20, .junk)], [], 1, []⟩ .z))) (.s none .z (.s none (.s none .z (.b (.l ⟨2, [(7, .junk), (8, .junk), (9, (.atm (.v 0))), (10, (.atm (.v 1))), (21, .junk), (22, .junk), (23, .junk), (24, .junk)], [], 1, []⟩ (.s none .z (.s (some ⟨1, [(9, (.atm (.v 0))), (34, .junk), (35, .junk), (36, .junk), (37, .junk)], [], 1, []⟩) .z .z))))) .z)))))))
def ir13p0 : IR :=
 (.op (.bin .add false) [(.v 13), (.c (.int .i64 1))]
 (.jump 1 [(.v 16), (.v 17)]))
def ir13p1 : IR :=
 (.call 48 1 false [] [(.v 0)]
 (.op (.bin .lss false) [(.v 13), (.v 14)]
 (.ite (.v 15)
  (.letj 1
   (.call 49 1 false [] [(.v 0), (.v 13)]
   (.call 50 1 false [] [(.v 1), (.v 2), (.v 3), (.v 16)]
   (.ite (.v 17)
    (.op (.conv .u64) [(.v 13)]
    (.op (.bin .shl false) [(.c (.int .u64 1)), (.v 18)]
    (.op (.bin .or false) [(.v 12), (.v 19)]
    (.jump 2 [(.v 20)]))))
   (.jump 2 [(.v 12)]))))
  ir13p0)
 (.ret [(.v 12), (.c (.int .i64 0))]))))
def ir13p2 : IR :=
 (.op .lenL [(.v 8)]
 (.op (.bin .lss false) [(.v 9), (.v 10)]
 (.ite (.v 11)
  (.op (.row 1) [(.v 8), (.v 9)]
  (.call 47 1 false [] [(.v 0), (.v 12)]
  (.op (.bin .lss false) [(.v 13), (.c (.int .i64 0))]
  (.ite (.v 14)
   (.ret [(.c (.int .u64 0)), (.c (.int .i64 6))])
  (.op (.bin .add false) [(.v 9), (.c (.int .i64 1))]
  (.jump 0 [(.v 15)]))))))
 (.loop 2 [(.c (.int .u64 0)), (.c (.int .i64 0))] ir13p1))))
def ir13 : IR :=
 (.call 44 1 false [] [(.v 0)]
 (.op (.un .not) [(.v 4)]
 (.ite (.v 5)
  (.ret [(.c (.int .u64 0)), (.c (.int .i64 1))])
 (.call 45 1 false [] [(.v 1), (.v 2), (.v 3)]
 (.op (.bin .neq false) [(.v 6), (.c (.int .i64 0))]
 (.ite (.v 7)
  (.ret [(.c (.int .u64 0)), (.v 6)])
 (.call 46 1 false [] [(.v 1), (.v 2), (.v 3)]
 (.loop 1 [(.c (.int .i64 0))] ir13p2))))))))
theorem rd13 : readFn T SG sigs 3000 sg13 Tryz.f29 an13 = some ir13 := by kernel_rfl
def an14 : Ann := .z
def ir14 : IR :=
 (.call 51 1 false [] [(.v 0), (.v 1), (.v 5)]
 (.op (.bin .neq false) [(.v 6), (.c (.int .i64 0))]
 (.ite (.v 7)
  (.ret [(.c (.sl [])), (.c (.sl [])), (.v 6)])
 (.call 27 2 false [] [(.v 0), (.v 2), (.v 3), (.v 4)]
 (.op (.bin .neq false) [(.v 9), (.c (.int .i64 0))]
 (.ite (.v 10)
  (.ret [(.c (.sl [])), (.c (.sl [])), (.v 9)])
 (.op (.bin .eql false) [(.v 8), (.c (.int .u64 0))]
 (.ite (.v 11)
  (.ret [(.c (.sl [])), (.c (.sl [])), (.c (.int .i64 9))])
 (.call 52 3 false [] [(.v 0), (.v 1), (.v 8), (.v 5)]
 (.ret [(.v 12), (.v 13), (.v 14)]))))))))))
theorem rd14 : readFn T SG sigs 3000 sg14 Tryz.f21 an14 = some ir14 := by kernel_rfl
def an15 : Ann := (.s none .z (.s none .z (.s none (.s none .z (.b (.l ⟨2, [(0, .junk), (4, .junk), (5, (.atm (.v 0))), (7, .junk), (8, .junk), (10, (.atm (.v 1)))], [], 1, []⟩ .z))) .z)))
def ir15p0 : IR :=
 (.op (.bin .lss false) [(.v 6), (.v 4)]
 (.ite (.v 7)
  (.op (.bin .gtr false) [(.v 5), (.v 3)]
  (.ite (.v 8)
   (.ret [(.v 5)])
  (.op (.row 3) [(.v 2), (.v 6)]
  (.op (.bin .sub false) [(.v 3), (.v 5)]
  (.call 15 1 false [] [(.v 9), (.v 10), (.v 11), (.v 12)]
  (.op (.bin .add false) [(.v 5), (.v 13)]
  (.op (.bin .add false) [(.v 6), (.c (.int .i64 1))]
  (.jump 0 [(.v 14), (.v 15)]))))))))
 (.ret [(.v 5)])))
def ir15 : IR :=
 (.op .lenL [(.v 2)]
 (.loop 2 [(.c (.int .i64 1)), (.c (.int .i64 0))] ir15p0))
theorem rd15 : readFn T SG sigs 3000 sg15 Tryz.f88 an15 = some ir15 := by kernel_rfl
def an16 : Ann := (.s none .z (.s none .z (.s none .z (.s none (.s none .z (.b (.l ⟨2, [(0, .junk), (4, .junk), (5, (.atm (.v 0))), (7, .junk), (8, .junk), (9, .junk), (10, .junk), (12, (.atm (.v 1)))], [], 1, []⟩ .z))) .z))))
def ir16p0 : IR :=
 (.op (.bin .lss false) [(.v 7), (.v 5)]
 (.ite (.v 8)
  (.op (.row 3) [(.v 2), (.v 7)]
  (.op (.bin .sub false) [(.v 3), (.c (.int .i64 1))]
  (.call 16 1 false [] [(.v 9), (.v 10), (.v 11), (.v 12)]
  (.op (.bin .add false) [(.c (.int .i64 1)), (.v 13)]
  (.op .max [(.v 6), (.v 14)]
  (.op (.bin .add false) [(.v 7), (.c (.int .i64 1))]
  (.jump 0 [(.v 15), (.v 16)])))))))
 (.ret [(.v 6)])))
def ir16 : IR :=
 (.op (.bin .lss false) [(.v 3), (.c (.int .i64 0))]
 (.ite (.v 4)
  (.ret [(.c (.int .i64 0))])
 (.op .lenL [(.v 2)]
 (.loop 2 [(.c (.int .i64 0)), (.c (.int .i64 0))] ir16p0))))
theorem rd16 : readFn T SG sigs 3000 sg16 Tryz.f89 an16 = some ir16 := by kernel_rfl
def an17 : Ann := (.s none .z (.s none .z (.s none (.s none .z (.b (.l ⟨1, [(0, .junk), (2, .junk), (4, .junk), (5, .junk), (6, .junk), (7, .junk), (8, .junk), (9, .junk), (11, (.atm (.v 0)))], [], 1, []⟩ .z))) .z)))
def ir17p0 : IR :=
 (.op (.bin .lss false) [(.v 6), (.v 5)]
 (.ite (.v 7)
  (.op (.row 3) [(.v 2), (.v 6)]
  (.call 17 1 false [] [(.v 8), (.v 9), (.v 10)]
  (.op (.un .not) [(.v 11)]
  (.ite (.v 12)
   (.ret [(.c (.bool false))])
  (.op (.bin .add false) [(.v 6), (.c (.int .i64 1))]
  (.jump 0 [(.v 13)]))))))
 (.ret [(.c (.bool true))])))
def ir17 : IR :=
 (.op .lenS [(.v 1)]
 (.op (.bin .gtr false) [(.v 3), (.c (.int .i64 100))]
 (.ite (.v 4)
  (.ret [(.c (.bool false))])
 (.op .lenL [(.v 2)]
 (.loop 1 [(.c (.int .i64 0))] ir17p0)))))
theorem rd17 : readFn T SG sigs 3000 sg17 Tryz.f90 an17 = some ir17 := by kernel_rfl
def an18 : Ann := (.s none .z (.s none .z (.s none (.s none .z (.b (.l ⟨2, [(2, .junk), (4, (.atm (.v 0)))], [(0, ⟨false, true, 9, 1, (.v 1), []⟩)], 1, [⟨none, 3, 9, 1⟩]⟩ .z))) .z)))
def ir18p0 : IR :=
 (.op (.bin .lss false) [(.v 1), (.v 0)]
 (.ite (.v 3)
  (.op (.bin .add false) [(.c (.int .i64 97)), (.v 1)]
  (.op (.conv .u8) [(.v 4)]
  (.op (.mk 1 1) [(.v 5)]
  (.op .toS [(.v 6)]
  (.op (.mk 1 1) [(.v 7)]
  (.op (.app 1 16) [(.v 2), (.v 8)]
  (.op (.bin .add false) [(.v 1), (.c (.int .i64 1))]
  (.jump 0 [(.v 10), (.v 9)]))))))))
 (.ret [(.v 2)])))
def ir18 : IR :=
 (.loop 2 [(.c (.int .i64 0)), (.c (.sl []))] ir18p0)
theorem rd18 : readFn T SG sigs 3000 sg18 Tryz.f47 an18 = some ir18 := by kernel_rfl
def an19 : Ann := .z
def ir19 : IR :=
 (.call 18 1 false [] [(.v 0)]
 (.call 18 1 false [] [(.v 0)]
 (.call 53 1 false [] [(.v 3)]
 (.op (.bin .and false) [(.v 1), (.v 4)]
 (.call 54 4 false [] [(.v 2), (.v 5)]
 (.ret [(.v 6), (.v 7), (.v 8)]))))))
theorem rd19 : readFn T SG sigs 3000 sg19 Tryz.f22 an19 = some ir19 := by kernel_rfl
def an20 : Ann := .z
def ir20 : IR :=
 (.call 55 3 false [] [(.v 1), (.v 2)]
 (.call 56 1 false [] [(.v 3), (.v 0)]
 (.ret [(.v 6), (.v 4), (.v 5)])))
theorem rd20 : readFn T SG sigs 3000 sg20 Tryz.f67 an20 = some ir20 := by kernel_rfl
def an21 : Ann := (.s none .z (.s none (.s (some ⟨1, [(5, .junk), (21, (.atm (.v 0)))], [], 1, []⟩) .z .z) (.s none .z (.s none (.s none .z (.b (.l ⟨2, [(0, .junk), (7, (.atm (.v 0))), (21, .junk), (24, .junk), (25, .junk), (26, .junk), (27, .junk), (28, .junk), (29, .junk)], [(6, ⟨false, true, 3, 1, (.v 1), []⟩)], 9, []⟩ (.s none .z (.s none (.b (.s none .z (.s none (.s none .z (.b (.l ⟨2, [(9, (.atm (.v 0))), (30, .junk), (31, .junk), (32, .junk), (33, .junk)], [(9, ⟨false, true, 3, 1, (.v 1), []⟩)], 10, [⟨none, 8, 3, 1⟩]⟩ (.s none .z (.s (some ⟨1, [(36, .junk), (37, .junk), (38, .junk), (39, .junk)], [(9, ⟨false, true, 3, 1, (.v 0), []⟩)], 10, []⟩) (.b (.s (some ⟨1, [(36, .junk), (37, .junk), (38, .junk), (39, .junk), (59, (.atm (.v 0)))], [], 10, []⟩) .z .z)) .z))))) .z))) .z))))) .z))))
def ir21p0 : IR :=
 (.op (.bin .add false) [(.v 10), (.c (.int .i64 1))]
 (.jump 1 [(.v 15), (.v 14)]))
def ir21p1 : IR :=
 (.ite (.v 14)
  (.op (.row 1) [(.v 1), (.v 10)]
  (.op (.mk 1 1) [(.v 15)]
  (.op (.app 1 8) [(.v 11), (.v 16)]
  (.jump 2 [(.v 17)]))))
 (.jump 2 [(.v 11)]))
def ir21p2 : IR :=
 (.op .lenL [(.v 1)]
 (.op (.bin .lss false) [(.v 10), (.v 12)]
 (.ite (.v 13)
  (.letj 1
   (.letj 1
    (.op (.row 1) [(.v 1), (.v 10)]
    (.op (.row 1) [(.v 1), (.v 6)]
    (.op (.bin .lss false) [(.v 14), (.v 15)]
    (.ite (.v 16)
     (.op (.row 1) [(.v 1), (.v 10)]
     (.call 57 1 true [] [(.v 11), (.v 17)]
     (.op (.un .not) [(.v 18)]
     (.jump 3 [(.v 19)]))))
    (.jump 3 [(.c (.bool false))])))))
   ir21p1)
  ir21p0)
 (.op .lenL [(.v 11)]
 (.op .chk [(.v 7), (.v 6)]
 (.op (.set 0 1) [(.v 7), (.v 6), (.v 14)]
 (.op (.bin .add false) [(.v 6), (.c (.int .i64 1))]
 (.jump 0 [(.v 16), (.v 15)]))))))))
def ir21p3 : IR :=
 (.op .lenL [(.v 1)]
 (.op (.bin .lss false) [(.v 6), (.v 8)]
 (.ite (.v 9)
  (.loop 2 [(.c (.int .i64 0)), (.c (.sl []))] ir21p2)
 (.ret [(.v 3), (.v 7), (.c (.int .i64 0))]))))
def ir21p4 : IR :=
 (.ite (.v 2)
  (.ret [(.c (.sl [])), (.c (.sl [])), (.c (.int .i64 1))])
 (.op (.app 1 16) [(.c (.sl [])), (.v 0)]
 (.op .lenL [(.v 1)]
 (.op (.mkL 8 [(.int .i64 0)]) [(.v 4)]
 (.loop 2 [(.c (.int .i64 0)), (.v 5)] ir21p3)))))
def ir21 : IR :=
 (.letj 1
  (.call 44 1 false [] [(.v 0)]
  (.op (.un .not) [(.v 2)]
  (.ite (.v 3)
   (.jump 0 [(.c (.bool true))])
  (.op .lenL [(.v 1)]
  (.op .lenL [(.v 0)]
  (.op (.conv .u64) [(.v 5)]
  (.op (.bin .shl false) [(.c (.int .i64 1)), (.v 6)]
  (.op (.bin .neq false) [(.v 4), (.v 7)]
  (.jump 0 [(.v 8)])))))))))
 ir21p4)
theorem rd21 : readFn T SG sigs 3000 sg21 Tryz.f68 an21 = some ir21 := by kernel_rfl
def an22 : Ann := (.s none .z (.s none (.s (some ⟨1, [(0, .junk), (2, .junk), (20, (.atm (.v 0)))], [], 1, []⟩) .z .z) (.s none .z (.s none (.s none .z (.b (.l ⟨2, [(3, (.atm (.v 0))), (4, (.atm (.v 1))), (20, .junk)], [], 1, []⟩ (.s none .z (.s none (.b (.s none (.s (some ⟨1, [(21, .junk), (22, .junk), (23, .junk), (24, .junk), (25, .junk), (44, (.atm (.v 0)))], [], 1, []⟩) .z .z) .z)) .z))))) (.s none (.s none .z (.b (.l ⟨1, [(4, .junk), (5, (.atm (.v 0))), (21, .junk), (22, .junk), (23, .junk), (24, .junk), (25, .junk)], [], 1, []⟩ .z))) .z)))))
def ir22p0 : IR :=
 (.ite (.v 7)
  (.ret [(.c (.int .i64 8))])
 (.op (.row 1) [(.v 1), (.v 4)]
 (.op .max [(.v 3), (.v 8)]
 (.op (.bin .add false) [(.v 4), (.c (.int .i64 1))]
 (.jump 0 [(.v 9), (.v 10)])))))
def ir22p1 : IR :=
 (.op (.bin .lss false) [(.v 7), (.v 3)]
 (.ite (.v 8)
  (.call 57 1 false [] [(.v 1), (.v 7)]
  (.op (.un .not) [(.v 9)]
  (.ite (.v 10)
   (.ret [(.c (.int .i64 8))])
  (.op (.bin .add false) [(.v 7), (.c (.int .i64 1))]
  (.jump 1 [(.v 11)])))))
 (.ret [(.c (.int .i64 0))])))
def ir22p2 : IR :=
 (.op .lenL [(.v 1)]
 (.op (.bin .lss false) [(.v 4), (.v 5)]
 (.ite (.v 6)
  (.letj 1
   (.op (.row 1) [(.v 1), (.v 4)]
   (.op (.bin .lss false) [(.v 7), (.c (.int .i64 0))]
   (.ite (.v 8)
    (.jump 1 [(.c (.bool true))])
   (.op (.row 1) [(.v 1), (.v 4)]
   (.op .lenL [(.v 1)]
   (.op (.bin .geq false) [(.v 9), (.v 10)]
   (.jump 1 [(.v 11)])))))))
  ir22p0)
 (.loop 1 [(.c (.int .i64 0))] ir22p1))))
def ir22p3 : IR :=
 (.ite (.v 2)
  (.ret [(.c (.int .i64 1))])
 (.loop 2 [(.c (.int .i64 0)), (.c (.int .i64 0))] ir22p2))
def ir22 : IR :=
 (.letj 1
  (.call 44 1 false [] [(.v 0)]
  (.op (.un .not) [(.v 2)]
  (.ite (.v 3)
   (.jump 0 [(.c (.bool true))])
  (.op .lenL [(.v 1)]
  (.op .lenL [(.v 0)]
  (.op (.conv .u64) [(.v 5)]
  (.op (.bin .shl false) [(.c (.int .i64 1)), (.v 6)]
  (.op (.bin .neq false) [(.v 4), (.v 7)]
  (.jump 0 [(.v 8)])))))))))
 ir22p3)
theorem rd22 : readFn T SG sigs 3000 sg22 Tryz.f77 an22 = some ir22 := by kernel_rfl
def an23 : Ann := .z
def ir23 : IR :=
 (.op (.bin .geq false) [(.v 0), (.c (.int .i64 1))]
 (.ite (.v 1)
  (.op (.bin .leq false) [(.v 0), (.c (.int .i64 3))]
  (.ret [(.v 2)]))
 (.ret [(.c (.bool false))])))
theorem rd23 : readFn T SG sigs 3000 sg23 Tryz.f78 an23 = some ir23 := by kernel_rfl
def an24 : Ann := (.s none .z (.s none .z (.s none .z (.s none (.s none .z (.b (.l ⟨2, [(0, .junk), (9, (.atm (.v 0))), (13, .junk), (14, .junk), (15, .junk), (16, .junk), (17, .junk), (18, .junk), (19, .junk)], [(2, ⟨false, true, 3, 1, (.v 1), []⟩)], 3, []⟩ (.s none .z (.s (some ⟨1, [(20, .junk), (21, .junk), (22, .junk), (23, .junk)], [(2, ⟨false, true, 3, 1, (.v 0), []⟩)], 3, []⟩) (.b (.s none .z (.s none .z (.s (some ⟨1, [(10, .junk), (20, .junk), (21, .junk), (22, .junk), (23, .junk), (26, .junk), (27, .junk), (28, .junk), (29, .junk), (30, .junk), (31, .junk), (32, .junk), (33, .junk), (34, .junk), (35, .junk), (36, .junk), (37, .junk), (38, .junk)], [(2, ⟨false, true, 3, 1, (.v 0), []⟩)], 3, []⟩) (.b (.s (some ⟨1, [(20, .junk), (21, .junk), (22, .junk), (23, .junk), (26, .junk), (27, .junk), (28, .junk), (29, .junk), (30, .junk), (31, .junk), (32, .junk), (33, .junk), (34, .junk), (35, .junk), (36, .junk), (37, .junk), (38, .junk), (39, (.atm (.v 0)))], [], 3, []⟩) .z (.c .z (.s (some ⟨1, [(10, .junk), (39, .junk), (52, (.atm (.v 0)))], [], 3, []⟩) .z .z)))) (.s (some ⟨1, [(71, (.atm (.v 0)))], [], 3, []⟩) .z .z))))) .z))))) .z))))
def ir24p0 : IR :=
 (.op (.bin .add false) [(.v 7), (.c (.int .i64 1))]
 (.jump 0 [(.v 12), (.v 11)]))
def ir24p1 : IR :=
 (.ite (.v 17)
  (.op .chk [(.v 16), (.v 7)]
  (.op (.set 0 1) [(.v 16), (.v 7), (.c (.int .i64 0))]
  (.jump 1 [(.v 18)])))
 (.jump 1 [(.v 16)]))
def ir24p2 : IR :=
 (.letj 1
  (.op (.bin .neq false) [(.v 3), (.c (.int .i64 2))]
  (.ite (.v 17)
   (.call 58 1 false [] [(.v 4), (.v 7)]
   (.jump 2 [(.v 18)]))
  (.jump 2 [(.c (.bool false))])))
 ir24p1)
def ir24p3 : IR :=
 (.ite (.v 17)
  (.op .chk [(.v 15), (.v 7)]
  (.op (.get 0 1) [(.v 15), (.v 7)]
  (.op (.bin .add false) [(.v 18), (.c (.int .i64 1))]
  (.op .chk [(.v 15), (.v 7)]
  (.op (.set 0 1) [(.v 15), (.v 7), (.v 19)]
  (.jump 2 [(.v 20)]))))))
 (.jump 2 [(.v 15)]))
def ir24p4 : IR :=
 (.ite (.v 16)
  (.op .chk [(.v 15), (.v 7)]
  (.op (.get 0 1) [(.v 15), (.v 7)]
  (.op (.bin .add false) [(.v 17), (.c (.int .i64 1000))]
  (.op .chk [(.v 15), (.v 7)]
  (.op (.set 0 1) [(.v 15), (.v 7), (.v 18)]
  (.jump 2 [(.v 19)]))))))
 (.letj 1
  (.op (.bin .eql false) [(.v 3), (.c (.int .i64 3))]
  (.ite (.v 17)
   (.op (.un .not) [(.v 11)]
   (.jump 3 [(.v 18)]))
  (.jump 3 [(.c (.bool false))])))
 ir24p3))
def ir24p5 : IR :=
 (.op .lenL [(.v 8)]
 (.op (.bin .lss false) [(.v 7), (.v 9)]
 (.ite (.v 10)
  (.letj 1
   (.call 58 1 false [] [(.v 2), (.v 7)]
   (.op (.row 1) [(.v 1), (.v 7)]
   (.op (.bin .mul false) [(.c (.int .i64 2)), (.v 12)]
   (.op (.bin .add false) [(.v 13), (.c (.int .i64 1))]
   (.op .chk [(.v 8), (.v 7)]
   (.op (.set 0 1) [(.v 8), (.v 7), (.v 14)]
   (.letj 1
    (.letj 1
     (.op (.bin .eql false) [(.v 3), (.c (.int .i64 2))]
     (.ite (.v 16)
      (.op (.un .not) [(.v 11)]
      (.jump 3 [(.v 17)]))
     (.jump 3 [(.c (.bool false))])))
    ir24p4)
   ir24p2)))))))
  ir24p0)
 (.call 21 3 false [] [(.v 0), (.v 8)]
 (.ret [(.v 11), (.v 12)])))))
def ir24 : IR :=
 (.call 41 1 false [] [(.v 0), (.v 1), (.v 2)]
 (.op .lenL [(.v 1)]
 (.op (.mkL 8 [(.int .i64 0)]) [(.v 5)]
 (.loop 2 [(.c (.int .i64 0)), (.v 6)] ir24p5))))
theorem rd24 : readFn T SG sigs 3000 sg24 Tryz.f79 an24 = some ir24 := by kernel_rfl
def an25 : Ann := (.s none .z (.s none (.s (some ⟨1, [(0, .junk), (2, .junk), (20, (.atm (.v 0)))], [], 1, []⟩) .z .z) (.s none .z (.s none .z (.s none (.s none .z (.b (.l ⟨3, [(1, .junk), (4, (.atm (.v 0))), (20, .junk), (21, .junk), (22, .junk), (23, .junk), (24, .junk), (25, .junk), (28, (.atm (.v 1)))], [(1, ⟨false, true, 4, 1, (.v 2), []⟩)], 2, []⟩ (.s none .z (.s none .z (.s none (.b (.s none .z (.s none (.s (some ⟨1, [(29, .junk), (30, .junk), (31, .junk), (39, (.atm (.v 0)))], [], 2, []⟩) .z .z) .z))) .z)))))) .z)))))
def ir25p0 : IR :=
 (.ite (.v 11)
  (.ret [(.c (.int .i64 8))])
 (.op .max [(.v 6), (.v 10)]
 (.op .chk [(.v 8), (.v 10)]
 (.op (.set 0 1) [(.v 8), (.v 10), (.c (.bool true))]
 (.op (.bin .add false) [(.v 7), (.c (.int .i64 1))]
 (.jump 0 [(.v 12), (.v 14), (.v 13)]))))))
def ir25p1 : IR :=
 (.op (.bin .lss false) [(.v 7), (.v 5)]
 (.ite (.v 9)
  (.op (.row 1) [(.v 1), (.v 7)]
  (.letj 1
   (.op (.bin .lss false) [(.v 10), (.c (.int .i64 0))]
   (.ite (.v 11)
    (.jump 1 [(.c (.bool true))])
   (.op .lenL [(.v 8)]
   (.op (.bin .geq false) [(.v 10), (.v 12)]
   (.jump 1 [(.v 13)])))))
  ir25p0))
 (.op (.subL 1) [(.v 8), (.c (.int .i64 0)), (.v 6)]
 (.call 60 1 false [] [(.v 10), (.c (.bool false))]
 (.ite (.v 11)
  (.ret [(.c (.int .i64 8))])
 (.ret [(.c (.int .i64 0))]))))))
def ir25p2 : IR :=
 (.ite (.v 2)
  (.ret [(.c (.int .i64 1))])
 (.op .lenL [(.v 1)]
 (.op (.mkL 1 [(.bool false)]) [(.v 3)]
 (.op .lenL [(.v 1)]
 (.loop 3 [(.c (.int .i64 0)), (.c (.int .i64 0)), (.v 4)] ir25p1)))))
def ir25 : IR :=
 (.letj 1
  (.call 59 1 false [] [(.v 0)]
  (.op (.un .not) [(.v 2)]
  (.ite (.v 3)
   (.jump 0 [(.c (.bool true))])
  (.op .lenL [(.v 1)]
  (.op .lenL [(.v 0)]
  (.op (.bin .shl false) [(.c (.int .i64 1)), (.v 5)]
  (.op (.bin .neq false) [(.v 4), (.v 6)]
  (.jump 0 [(.v 7)]))))))))
 ir25p2)
theorem rd25 : readFn T SG sigs 3000 sg25 Tryz.f91 an25 = some ir25 := by kernel_rfl
def an26 : Ann := (.s none .z (.s none .z (.s none (.s none .z (.b (.l ⟨1, [(4, .junk), (6, .junk), (7, .junk), (8, .junk), (9, .junk), (10, .junk), (11, .junk), (13, (.atm (.v 0)))], [], 0, []⟩ .z))) .z)))
def ir26p0 : IR :=
 (.op (.bin .lss false) [(.v 6), (.v 5)]
 (.ite (.v 7)
  (.op (.row 1) [(.v 0), (.v 6)]
  (.op (.row 1) [(.v 1), (.v 6)]
  (.op (.bin .neq false) [(.v 8), (.v 9)]
  (.ite (.v 10)
   (.ret [(.c (.bool false))])
  (.op (.bin .add false) [(.v 6), (.c (.int .i64 1))]
  (.jump 0 [(.v 11)]))))))
 (.ret [(.c (.bool true))])))
def ir26 : IR :=
 (.op .lenL [(.v 0)]
 (.op .lenL [(.v 1)]
 (.op (.bin .neq false) [(.v 2), (.v 3)]
 (.ite (.v 4)
  (.ret [(.c (.bool false))])
 (.op .lenL [(.v 0)]
 (.loop 1 [(.c (.int .i64 0))] ir26p0))))))
theorem rd26 : readFn T SG sigs 3000 sg26 Tryz.f99 an26 = some ir26 := by kernel_rfl
def an27 : Ann := (.s none .z (.s none .z (.s none .z (.s none (.s none .z (.b (.l ⟨1, [(1, .junk), (4, .junk), (5, .junk), (6, .junk), (9, .junk), (10, .junk), (11, .junk), (12, .junk), (13, .junk), (14, .junk), (15, .junk), (17, .junk), (20, (.atm (.v 0)))], [], 1, []⟩ .z))) .z))))
def ir27p0 : IR :=
 (.op (.bin .lss false) [(.v 10), (.v 9)]
 (.ite (.v 11)
  (.op (.row 1) [(.v 8), (.v 10)]
  (.call 63 1 false [] [(.v 0), (.v 12)]
  (.op (.un .not) [(.v 13)]
  (.ite (.v 14)
   (.ret [(.c (.int .u64 0)), (.c (.int .i64 6))])
  (.op (.bin .add false) [(.v 10), (.c (.int .i64 1))]
  (.jump 0 [(.v 15)]))))))
 (.call 64 1 false [] [(.v 0), (.v 1), (.v 2), (.v 3)]
 (.call 65 1 false [] [(.v 0)]
 (.op (.bin .and false) [(.v 12), (.v 13)]
 (.ret [(.v 14), (.c (.int .i64 0))]))))))
def ir27 : IR :=
 (.call 59 1 false [] [(.v 0)]
 (.op (.un .not) [(.v 4)]
 (.ite (.v 5)
  (.ret [(.c (.int .u64 0)), (.c (.int .i64 1))])
 (.call 61 1 false [] [(.v 1), (.v 2), (.v 3)]
 (.op (.bin .neq false) [(.v 6), (.c (.int .i64 0))]
 (.ite (.v 7)
  (.ret [(.c (.int .u64 0)), (.v 6)])
 (.call 62 1 false [] [(.v 1), (.v 2), (.v 3)]
 (.op .lenL [(.v 8)]
 (.loop 1 [(.c (.int .i64 0))] ir27p0)))))))))
theorem rd27 : readFn T SG sigs 3000 sg27 Tryz.f73 an27 = some ir27 := by kernel_rfl
def an28 : Ann := (.s none .z (.s none (.s none .z (.b (.l ⟨1, [(0, .junk), (2, .junk), (4, .junk), (7, .junk), (10, (.atm (.v 0)))], [], 1, []⟩ .z))) .z))
def ir28p0 : IR :=
 (.op (.bin .lss false) [(.v 5), (.v 4)]
 (.ite (.v 6)
  (.op (.row 1) [(.v 3), (.v 5)]
  (.op (.bin .and false) [(.v 7), (.v 2)]
  (.op (.bin .neq false) [(.v 8), (.c (.int .u64 0))]
  (.ite (.v 9)
   (.op (.bin .and false) [(.v 7), (.v 2)]
   (.ret [(.v 10)]))
  (.op (.bin .add false) [(.v 5), (.c (.int .i64 1))]
  (.jump 0 [(.v 10)]))))))
 (.ret [(.c (.int .u64 0))])))
def ir28 : IR :=
 (.call 66 1 false [] [(.v 0), (.v 1)]
 (.op .lenL [(.v 3)]
 (.loop 1 [(.c (.int .i64 0))] ir28p0)))
theorem rd28 : readFn T SG sigs 3000 sg28 Tryz.f96 an28 = some ir28 := by kernel_rfl
def an29 : Ann := .z
def ir29 : IR :=
 (.op (.mk 1 7) [(.c (fnD 138)), (.c (fnD 139)), (.c (fnD 140)), (.c (fnD 141)), (.c (fnD 142)), (.c (fnD 143)), (.c (fnD 144))]
 (.ret [(.v 0)]))
theorem rd29 : readFn T SG sigs 3000 sg29 Tryz.f100 an29 = some ir29 := by kernel_rfl
def an30 : Ann := .z
def ir30 : IR :=
 (.call 67 1 false [] [(.v 0)]
 (.call 67 1 false [] [(.v 1)]
 (.ite (.v 2)
  (.ite (.v 3)
   (.ret [(.c (.int .i64 0))])
  (.ret [(.c (.int .i64 (-1)))]))
 (.ite (.v 3)
  (.ret [(.c (.int .i64 1))])
 (.op (.bin .lss false) [(.v 0), (.v 1)]
 (.ite (.v 4)
  (.ret [(.c (.int .i64 (-1)))])
 (.op (.bin .gtr false) [(.v 0), (.v 1)]
 (.ite (.v 5)
  (.ret [(.c (.int .i64 1))])
 (.ret [(.c (.int .i64 0))])))))))))
theorem rd30 : readFn T SG sigs 3000 sg30 Tryz.f101 an30 = some ir30 := by kernel_rfl
def an31 : Ann := .z
def ir31 : IR :=
 (.op (.conv .u64) [(.v 1)]
 (.op (.bin .shr false) [(.v 0), (.v 2)]
 (.op (.bin .and false) [(.v 3), (.c (.int .u64 1))]
 (.op (.bin .eql false) [(.v 4), (.c (.int .u64 1))]
 (.ret [(.v 5)])))))
theorem rd31 : readFn T SG sigs 3000 sg31 Tryz.f102 an31 = some ir31 := by kernel_rfl
def an32 : Ann := .z
def ir32 : IR :=
 (.op (.un .not) [(.v 2)]
 (.ite (.v 5)
  (.ret [(.c (.bool true))])
 (.op (.un .not) [(.v 3)]
 (.ite (.v 6)
  (.ret [(.c (.bool true))])
 (.op (.bin .eql false) [(.v 0), (.v 1)]
 (.ret [(.v 7)]))))))
theorem rd32 : readFn T SG sigs 3000 sg32 Tryz.f138 an32 = some ir32 := by kernel_rfl
def an33 : Ann := .z
def ir33 : IR :=
 (.ite (.v 2)
  (.ret [(.c (.bool true))])
 (.ite (.v 3)
  (.ret [(.c (.bool true))])
 (.op (.bin .eql false) [(.v 0), (.v 1)]
 (.ret [(.v 5)]))))
theorem rd33 : readFn T SG sigs 3000 sg33 Tryz.f139 an33 = some ir33 := by kernel_rfl
def an34 : Ann := .z
def ir34 : IR :=
 (.op (.un .not) [(.v 2)]
 (.ite (.v 5)
  (.ret [(.c (.bool true))])
 (.ite (.v 3)
  (.ret [(.c (.bool true))])
 (.op (.bin .geq false) [(.v 0), (.c (.int .i64 0))]
 (.ite (.v 6)
  (.ret [(.c (.bool true))])
 (.op (.bin .lss false) [(.v 1), (.c (.int .i64 0))]
 (.ret [(.v 7)])))))))
theorem rd34 : readFn T SG sigs 3000 sg34 Tryz.f140 an34 = some ir34 := by kernel_rfl
def an35 : Ann := .z
def ir35 : IR :=
 (.op (.un .not) [(.v 2)]
 (.ite (.v 5)
  (.ret [(.c (.bool true))])
 (.ite (.v 3)
  (.ret [(.c (.bool true))])
 (.op (.bin .gtr false) [(.v 0), (.c (.int .i64 0))]
 (.ite (.v 6)
  (.ret [(.c (.bool true))])
 (.op (.bin .leq false) [(.v 1), (.c (.int .i64 0))]
 (.ret [(.v 7)])))))))
theorem rd35 : readFn T SG sigs 3000 sg35 Tryz.f141 an35 = some ir35 := by kernel_rfl
def an36 : Ann := .z
def ir36 : IR :=
 (.op (.un .not) [(.v 2)]
 (.ite (.v 5)
  (.ret [(.c (.bool true))])
 (.ite (.v 3)
  (.ret [(.c (.bool true))])
 (.op (.bin .gtr false) [(.v 0), (.c (.int .i64 0))]
 (.ite (.v 6)
  (.ret [(.c (.bool true))])
 (.op (.bin .lss false) [(.v 1), (.c (.int .i64 0))]
 (.ret [(.v 7)])))))))
theorem rd36 : readFn T SG sigs 3000 sg36 Tryz.f142 an36 = some ir36 := by kernel_rfl
def an37 : Ann := .z
def ir37 : IR :=
 (.op (.un .not) [(.v 2)]
 (.ite (.v 5)
  (.ret [(.c (.bool true))])
 (.ite (.v 3)
  (.ret [(.c (.bool true))])
 (.op (.bin .lss false) [(.v 1), (.c (.int .i64 0))]
 (.ret [(.v 6)])))))
theorem rd37 : readFn T SG sigs 3000 sg37 Tryz.f143 an37 = some ir37 := by kernel_rfl
def an38 : Ann := .z
def ir38 : IR :=
 (.op (.un .not) [(.v 4)]
 (.ite (.v 5)
  (.ret [(.c (.bool true))])
 (.op (.bin .eql false) [(.v 0), (.v 1)]
 (.ret [(.v 6)]))))
theorem rd38 : readFn T SG sigs 3000 sg38 Tryz.f144 an38 = some ir38 := by kernel_rfl
def an39 : Ann := .z
def ir39 : IR :=
 (.call 28 1 false [] [(.v 0), (.v 1), (.c (.int .u64 18446744073709551615))]
 (.ret [(.v 2)]))
theorem rd39 : readFn T SG sigs 3000 sg39 Tryz.f103 an39 = some ir39 := by kernel_rfl
def an40 : Ann := (.s none .z (.s none .z (.s none (.s none .z (.b (.l ⟨1, [(4, .junk), (5, (.atm (.v 0))), (6, .junk), (7, .junk), (8, .junk), (9, .junk), (10, .junk)], [], 0, []⟩ .z))) .z)))
def ir40p0 : IR :=
 (.op .lenL [(.v 0)]
 (.op (.bin .lss false) [(.v 5), (.v 6)]
 (.ite (.v 7)
  (.op (.row 1) [(.v 0), (.v 5)]
  (.op (.row 1) [(.v 1), (.v 5)]
  (.op (.bin .neq false) [(.v 8), (.v 9)]
  (.ite (.v 10)
   (.ret [(.c (.bool false))])
  (.op (.bin .add false) [(.v 5), (.c (.int .i64 1))]
  (.jump 0 [(.v 11)]))))))
 (.ret [(.c (.bool true))]))))
def ir40 : IR :=
 (.op .lenL [(.v 0)]
 (.op .lenL [(.v 1)]
 (.op (.bin .neq false) [(.v 2), (.v 3)]
 (.ite (.v 4)
  (.ret [(.c (.bool false))])
 (.loop 1 [(.c (.int .i64 0))] ir40p0)))))
theorem rd40 : readFn T SG sigs 3000 sg40 Tryz.f76 an40 = some ir40 := by kernel_rfl
def an41 : Ann := (.s none .z (.s none .z (.s none (.s none .z (.b (.l ⟨1, [(0, .junk), (4, .junk), (5, (.atm (.v 0))), (7, .junk), (8, .junk), (9, .junk)], [], 1, []⟩ .z))) .z)))
def ir41p0 : IR :=
 (.call 68 1 false [] [(.v 0), (.v 1)]
 (.op (.bin .leq false) [(.v 5), (.v 6)]
 (.ite (.v 7)
  (.call 69 1 false [] [(.v 0), (.v 1), (.v 5), (.v 5)]
  (.op (.bin .and false) [(.v 8), (.v 2)]
  (.op (.bin .neq false) [(.v 9), (.c (.int .u64 0))]
  (.ite (.v 10)
   (.ret [(.v 9)])
  (.op (.bin .add false) [(.v 5), (.c (.int .i64 1))]
  (.jump 0 [(.v 11)]))))))
 (.ret [(.c (.int .u64 0))]))))
def ir41 : IR :=
 (.call 22 1 false [] [(.v 0), (.v 1)]
 (.op (.bin .neq false) [(.v 3), (.c (.int .i64 0))]
 (.ite (.v 4)
  (.ret [(.c (.int .u64 0))])
 (.loop 1 [(.c (.int .i64 0))] ir41p0))))
theorem rd41 : readFn T SG sigs 3000 sg41 Tryz.f75 an41 = some ir41 := by kernel_rfl
def an42 : Ann := .z
def ir42 : IR :=
 (.call 53 1 false [] [(.v 0)]
 (.call 41 1 false [] [(.v 0), (.v 1), (.v 2)]
 (.ret [(.v 3)])))
theorem rd42 : readFn T SG sigs 3000 sg42 Tryz.f23 an42 = some ir42 := by kernel_rfl
def an43 : Ann := (.s none .z (.s none .z (.s none .z (.s none .z (.s (some ⟨3, [(0, .junk), (1, .junk), (2, .junk), (6, .junk), (7, .junk), (15, (.atm (.v 0))), (16, (.atm (.v 1))), (18, .junk), (19, .junk), (20, .junk), (21, .junk), (22, .junk), (23, .junk), (24, .junk), (25, .junk), (26, .junk), (27, .junk), (28, .junk), (29, .junk), (30, .junk), (31, .junk), (32, .junk), (33, .junk), (34, .junk), (35, .junk), (36, .junk), (37, .junk), (38, .junk), (39, .junk), (40, .junk), (41, .junk), (42, .junk), (43, .junk), (44, .junk), (45, .junk)], [(3, ⟨false, false, 134, 8, (.c (.sl [])), [[(.atm (.c (.bool false))), (.atm (.v 2)), (.atm (.c (.bool false))), (.atm (.c (.bool false))), (.atm (.c (.bool false))), (.atm (.c (.bool false))), (.atm (.c (.bool false))), (.atm (.c (.bool false)))]]⟩)], 4, []⟩) .z (.s (some ⟨2, [], [(3, ⟨false, false, 134, 8, (.c (.sl [])), [[(.atm (.c (.bool false))), (.atm (.v 0)), (.atm (.v 1)), (.atm (.c (.bool false))), (.atm (.c (.bool false))), (.atm (.c (.bool false))), (.atm (.c (.bool false))), (.atm (.c (.bool false)))]]⟩)], 4, []⟩) .z (.s (some ⟨4, [(15, (.atm (.v 0)))], [(3, ⟨false, false, 134, 8, (.c (.sl [])), [[(.atm (.c (.bool false))), (.atm (.v 1)), (.atm (.v 2)), (.atm (.v 3)), (.atm (.c (.bool false))), (.atm (.c (.bool false))), (.atm (.c (.bool false))), (.atm (.c (.bool false)))]]⟩)], 4, []⟩) .z (.s (some ⟨5, [(15, (.atm (.v 0)))], [(3, ⟨false, false, 134, 8, (.c (.sl [])), [[(.atm (.c (.bool false))), (.atm (.v 1)), (.atm (.v 2)), (.atm (.v 3)), (.atm (.v 4)), (.atm (.c (.bool false))), (.atm (.c (.bool false))), (.atm (.c (.bool false)))]]⟩)], 4, []⟩) .z (.s (some ⟨6, [(15, (.atm (.v 0)))], [(3, ⟨false, false, 134, 8, (.c (.sl [])), [[(.atm (.c (.bool false))), (.atm (.v 1)), (.atm (.v 2)), (.atm (.v 3)), (.atm (.v 4)), (.atm (.v 5)), (.atm (.c (.bool false))), (.atm (.c (.bool false)))]]⟩)], 4, []⟩) .z (.s (some ⟨6, [(15, .junk), (16, .junk)], [(3, ⟨false, false, 134, 8, (.c (.sl [])), [[(.atm (.c (.bool false))), (.atm (.v 0)), (.atm (.v 1)), (.atm (.v 2)), (.atm (.v 3)), (.atm (.v 4)), (.atm (.v 5)), (.atm (.c (.bool false)))]]⟩)], 4, []⟩) .z (.s (some ⟨7, [(3, .junk), (4, .junk), (5, .junk), (13, .junk), (14, .junk)], [(3, ⟨false, false, 134, 8, (.c (.sl [])), [[(.atm (.c (.bool false))), (.atm (.v 0)), (.atm (.v 1)), (.atm (.v 2)), (.atm (.v 3)), (.atm (.v 4)), (.atm (.v 5)), (.atm (.v 6))]]⟩)], 4, []⟩) .z .z)))))))))))
def ir43p0 : IR :=
 (.ret [(.c (.bool false)), (.v 42), (.v 43), (.v 44), (.v 45), (.v 46), (.v 47), (.v 48)])
def ir43p1 : IR :=
 (.letj 7
  (.call 58 1 false [] [(.v 5), (.v 6)]
  (.op (.un .not) [(.v 42)]
  (.ite (.v 43)
   (.call 58 1 false [] [(.v 5), (.v 7)]
   (.op (.un .not) [(.v 44)]
   (.ite (.v 45)
    (.op (.bin .neq false) [(.v 10), (.v 13)]
    (.jump 0 [(.v 36), (.v 37), (.v 38), (.v 39), (.v 40), (.v 41), (.v 46)]))
   (.jump 0 [(.v 36), (.v 37), (.v 38), (.v 39), (.v 40), (.v 41), (.c (.bool false))]))))
  (.jump 0 [(.v 36), (.v 37), (.v 38), (.v 39), (.v 40), (.v 41), (.c (.bool false))]))))
 ir43p0)
def ir43p2 : IR :=
 (.letj 6
  (.ite (.v 30)
   (.op (.un .not) [(.v 17)]
   (.ite (.v 36)
    (.op (.bin .geq false) [(.v 13), (.c (.int .i64 0))]
    (.jump 0 [(.v 31), (.v 32), (.v 33), (.v 34), (.v 35), (.v 37)]))
   (.jump 0 [(.v 31), (.v 32), (.v 33), (.v 34), (.v 35), (.c (.bool false))])))
  (.jump 0 [(.v 31), (.v 32), (.v 33), (.v 34), (.v 35), (.c (.bool false))]))
 ir43p1)
def ir43p3 : IR :=
 (.letj 6
  (.ite (.v 25)
   (.op (.un .not) [(.v 17)]
   (.ite (.v 30)
    (.op (.bin .leq false) [(.v 10), (.c (.int .i64 0))]
    (.ite (.v 31)
     (.op (.bin .geq false) [(.v 13), (.c (.int .i64 0))]
     (.jump 0 [(.c (.bool true)), (.v 26), (.v 27), (.v 28), (.v 29), (.v 32)]))
    (.jump 0 [(.c (.bool true)), (.v 26), (.v 27), (.v 28), (.v 29), (.c (.bool false))])))
   (.jump 0 [(.c (.bool true)), (.v 26), (.v 27), (.v 28), (.v 29), (.c (.bool false))])))
  (.jump 0 [(.c (.bool false)), (.v 26), (.v 27), (.v 28), (.v 29), (.c (.bool false))]))
 ir43p2)
def ir43p4 : IR :=
 (.letj 5
  (.ite (.v 21)
   (.op (.un .not) [(.v 17)]
   (.ite (.v 25)
    (.op (.bin .leq false) [(.v 10), (.c (.int .i64 0))]
    (.ite (.v 26)
     (.op (.bin .gtr false) [(.v 13), (.c (.int .i64 0))]
     (.jump 0 [(.c (.bool true)), (.v 22), (.v 23), (.v 24), (.v 27)]))
    (.jump 0 [(.c (.bool true)), (.v 22), (.v 23), (.v 24), (.c (.bool false))])))
   (.jump 0 [(.c (.bool true)), (.v 22), (.v 23), (.v 24), (.c (.bool false))])))
  (.jump 0 [(.c (.bool false)), (.v 22), (.v 23), (.v 24), (.c (.bool false))]))
 ir43p3)
def ir43p5 : IR :=
 (.letj 4
  (.ite (.v 16)
   (.op (.un .not) [(.v 17)]
   (.ite (.v 21)
    (.op (.bin .lss false) [(.v 10), (.c (.int .i64 0))]
    (.ite (.v 22)
     (.op (.bin .geq false) [(.v 13), (.c (.int .i64 0))]
     (.jump 0 [(.c (.bool true)), (.v 19), (.v 20), (.v 23)]))
    (.jump 0 [(.c (.bool true)), (.v 19), (.v 20), (.c (.bool false))])))
   (.jump 0 [(.c (.bool true)), (.v 19), (.v 20), (.c (.bool false))])))
  (.jump 0 [(.c (.bool false)), (.v 19), (.v 20), (.c (.bool false))]))
 ir43p4)
def ir43p6 : IR :=
 (.letj 2
  (.op (.un .not) [(.v 16)]
  (.ite (.v 19)
   (.op (.un .not) [(.v 17)]
   (.ite (.v 20)
    (.op (.bin .neq false) [(.v 10), (.v 13)]
    (.jump 0 [(.v 18), (.v 21)]))
   (.jump 0 [(.v 18), (.c (.bool false))])))
  (.jump 0 [(.v 18), (.c (.bool false))])))
 ir43p5)
def ir43 : IR :=
 (.op (.row 1) [(.v 1), (.v 6)]
 (.op (.row 1) [(.v 1), (.v 7)]
 (.call 70 1 false [] [(.v 8), (.v 9)]
 (.op (.row 1) [(.v 3), (.v 6)]
 (.op (.row 1) [(.v 3), (.v 7)]
 (.call 70 1 false [] [(.v 11), (.v 12)]
 (.call 58 1 false [] [(.v 4), (.v 6)]
 (.call 58 1 false [] [(.v 4), (.v 7)]
 (.letj 3
  (.ite (.v 14)
   (.ite (.v 15)
    (.op (.bin .neq false) [(.v 10), (.v 13)]
    (.jump 0 [(.c (.bool true)), (.c (.bool true)), (.v 16)]))
   (.jump 0 [(.c (.bool true)), (.c (.bool false)), (.c (.bool false))]))
  (.jump 0 [(.c (.bool false)), (.v 15), (.c (.bool false))]))
 ir43p6)))))))))
theorem rd43 : readFn T SG sigs 3000 sg43 Tryz.f104 an43 = some ir43 := by kernel_rfl
def an44 : Ann := (.s none .z (.s none (.s none .z (.b (.l ⟨1, [(2, .junk), (3, (.atm (.v 0)))], [], 0, []⟩ (.s none .z (.s none (.b (.s (some ⟨1, [(4, .junk), (5, .junk), (6, .junk), (7, .junk), (31, (.atm (.v 0)))], [], 0, []⟩) .z .z)) .z))))) .z))
def ir44p0 : IR :=
 (.ite (.v 4)
  (.ret [(.c (.bool false))])
 (.op (.bin .add false) [(.v 1), (.c (.int .i64 1))]
 (.jump 0 [(.v 5)])))
def ir44p1 : IR :=
 (.op .lenL [(.v 0)]
 (.op (.bin .lss false) [(.v 1), (.v 2)]
 (.ite (.v 3)
  (.letj 1
   (.op (.row 1) [(.v 0), (.v 1)]
   (.call 71 1 false [] [(.v 4)]
   (.op (.un .not) [(.v 5)]
   (.ite (.v 6)
    (.jump 1 [(.c (.bool true))])
   (.op (.bin .gtr false) [(.v 1), (.c (.int .i64 0))]
   (.ite (.v 7)
    (.op (.row 1) [(.v 0), (.v 1)]
    (.op (.bin .sub false) [(.v 1), (.c (.int .i64 1))]
    (.op (.row 1) [(.v 0), (.v 9)]
    (.op (.bin .leq false) [(.v 8), (.v 10)]
    (.jump 1 [(.v 11)])))))
   (.jump 1 [(.c (.bool false))])))))))
  ir44p0)
 (.op .lenL [(.v 0)]
 (.op (.bin .leq false) [(.v 4), (.c (.int .i64 6))]
 (.ret [(.v 5)]))))))
def ir44 : IR :=
 (.loop 1 [(.c (.int .i64 0))] ir44p1)
theorem rd44 : readFn T SG sigs 3000 sg44 Tryz.f69 an44 = some ir44 := by kernel_rfl
def an45 : Ann := (.s none .z (.s none (.s (some ⟨1, [(0, .junk), (2, .junk), (10, (.atm (.v 0)))], [], 1, []⟩) .z .z) .z))
def ir45p0 : IR :=
 (.ite (.v 3)
  (.ret [(.c (.int .i64 2))])
 (.call 74 1 false [] [(.v 0), (.v 1), (.v 2)]
 (.op (.un .not) [(.v 4)]
 (.ite (.v 5)
  (.ret [(.c (.int .i64 4))])
 (.call 75 1 false [] [(.v 0), (.v 1), (.v 2)]
 (.op (.un .not) [(.v 6)]
 (.ite (.v 7)
  (.ret [(.c (.int .i64 3))])
 (.ret [(.c (.int .i64 0))]))))))))
def ir45 : IR :=
 (.letj 1
  (.call 72 1 false [] [(.v 0), (.v 1), (.v 2)]
  (.op (.bin .gtr false) [(.v 3), (.c (.int .i64 600))]
  (.ite (.v 4)
   (.jump 0 [(.c (.bool true))])
  (.call 73 1 false [] [(.v 0), (.v 1), (.v 2)]
  (.op (.bin .gtr false) [(.v 5), (.c (.int .i64 20))]
  (.jump 0 [(.v 6)]))))))
 ir45p0)
theorem rd45 : readFn T SG sigs 3000 sg45 Tryz.f82 an45 = some ir45 := by kernel_rfl
def an46 : Ann := .z
def ir46 : IR :=
 (.call 76 1 false [] [(.c (.sl [])), (.v 0), (.v 1), (.v 2)]
 (.ret [(.v 3)]))
theorem rd46 : readFn T SG sigs 3000 sg46 Tryz.f83 an46 = some ir46 := by kernel_rfl
def an47 : Ann := (.s none .z (.s none (.s none .z (.b (.l ⟨1, [(4, .junk), (5, (.atm (.v 0)))], [], 0, []⟩ .z))) .z))
def ir47p0 : IR :=
 (.op .lenL [(.v 0)]
 (.op (.bin .lss false) [(.v 2), (.v 3)]
 (.ite (.v 4)
  (.op (.row 1) [(.v 0), (.v 2)]
  (.op (.bin .eql false) [(.v 5), (.v 1)]
  (.ite (.v 6)
   (.ret [(.v 2)])
  (.op (.bin .add false) [(.v 2), (.c (.int .i64 1))]
  (.jump 0 [(.v 7)])))))
 (.ret [(.c (.int .i64 (-1)))]))))
def ir47 : IR :=
 (.loop 1 [(.c (.int .i64 0))] ir47p0)
theorem rd47 : readFn T SG sigs 3000 sg47 Tryz.f84 an47 = some ir47 := by kernel_rfl
def an48 : Ann := .z
def ir48 : IR :=
 (.op .lenL [(.v 0)]
 (.op (.conv .u64) [(.v 1)]
 (.op (.bin .shl false) [(.c (.int .i64 1)), (.v 2)]
 (.ret [(.v 3)]))))
theorem rd48 : readFn T SG sigs 3000 sg48 Tryz.f70 an48 = some ir48 := by kernel_rfl
def an49 : Ann := (.s none .z (.s none .z (.s none (.s none .z (.b (.l ⟨2, [(4, .junk), (6, (.atm (.v 0)))], [(0, ⟨false, true, 9, 1, (.v 1), []⟩)], 1, [⟨none, 5, 9, 1⟩]⟩ (.s none .z (.s (some ⟨1, [(7, .junk), (8, .junk), (9, .junk), (10, .junk)], [(0, ⟨false, true, 9, 1, (.v 0), []⟩)], 1, []⟩) .z .z))))) .z)))
def ir49p0 : IR :=
 (.op (.bin .add false) [(.v 2), (.c (.int .i64 1))]
 (.jump 0 [(.v 7), (.v 6)]))
def ir49p1 : IR :=
 (.op .lenL [(.v 0)]
 (.op (.bin .lss false) [(.v 2), (.v 4)]
 (.ite (.v 5)
  (.letj 1
   (.op (.conv .u64) [(.v 2)]
   (.op (.bin .shr false) [(.v 1), (.v 6)]
   (.op (.bin .and false) [(.v 7), (.c (.int .i64 1))]
   (.op (.bin .eql false) [(.v 8), (.c (.int .i64 1))]
   (.ite (.v 9)
    (.op (.row 1) [(.v 0), (.v 2)]
    (.op (.mk 1 1) [(.v 10)]
    (.op (.app 1 16) [(.v 3), (.v 11)]
    (.jump 1 [(.v 12)]))))
   (.jump 1 [(.v 3)]))))))
  ir49p0)
 (.ret [(.v 3)]))))
def ir49 : IR :=
 (.loop 2 [(.c (.int .i64 0)), (.c (.sl []))] ir49p1)
theorem rd49 : readFn T SG sigs 3000 sg49 Tryz.f86 an49 = some ir49 := by kernel_rfl
def an50 : Ann := .z
def ir50 : IR :=
 (.call 74 1 false [] [(.v 0), (.v 1), (.v 2)]
 (.ite (.v 4)
  (.call 75 1 false [] [(.v 0), (.v 1), (.v 2)]
  (.ite (.v 5)
   (.call 77 1 false [] [(.v 0), (.v 1), (.v 2), (.v 3)]
   (.ret [(.v 6)]))
  (.ret [(.c (.bool false))])))
 (.ret [(.c (.bool false))])))
theorem rd50 : readFn T SG sigs 3000 sg50 Tryz.f85 an50 = some ir50 := by kernel_rfl
def an51 : Ann := .z
def ir51 : IR :=
 (.call 25 1 false [] [(.v 0), (.v 1)]
 (.op (.bin .neq false) [(.v 3), (.c (.int .i64 0))]
 (.ite (.v 4)
  (.ret [(.v 3)])
 (.call 78 1 false [] [(.v 2)]
 (.op (.un .not) [(.v 5)]
 (.ite (.v 6)
  (.ret [(.c (.int .i64 4))])
 (.ret [(.c (.int .i64 0))])))))))
theorem rd51 : readFn T SG sigs 3000 sg51 Tryz.f72 an51 = some ir51 := by kernel_rfl
def an52 : Ann := (.s none .z (.s none .z (.s none .z (.s none (.s none .z (.b (.l ⟨2, [(0, .junk), (7, .junk), (11, .junk), (12, .junk), (13, .junk), (14, .junk), (15, .junk), (16, .junk), (17, .junk), (18, .junk), (20, (.atm (.v 0)))], [(2, ⟨false, true, 3, 1, (.v 1), []⟩)], 3, []⟩ .z))) .z))))
def ir52p0 : IR :=
 (.op (.bin .lss false) [(.v 8), (.v 7)]
 (.ite (.v 10)
  (.call 79 1 false [] [(.v 0), (.v 1), (.v 8), (.v 2), (.v 4), (.v 3)]
  (.op .chk [(.v 9), (.v 8)]
  (.op (.set 0 1) [(.v 9), (.v 8), (.v 11)]
  (.op (.bin .add false) [(.v 8), (.c (.int .i64 1))]
  (.jump 0 [(.v 13), (.v 12)])))))
 (.call 80 3 false [] [(.v 0), (.v 9)]
 (.ret [(.v 11), (.v 12), (.v 13)]))))
def ir52 : IR :=
 (.call 28 1 false [] [(.v 0), (.v 1), (.v 2)]
 (.op .lenL [(.v 1)]
 (.op (.mkL 8 [(.int .i64 0)]) [(.v 5)]
 (.op .lenL [(.v 6)]
 (.loop 2 [(.c (.int .i64 0)), (.v 6)] ir52p0)))))
theorem rd52 : readFn T SG sigs 3000 sg52 Tryz.f74 an52 = some ir52 := by kernel_rfl
def an53 : Ann := (.s none .z (.s none .z (.s none .z (.s none (.s none .z (.b (.l ⟨2, [(2, .junk), (3, (.atm (.v 0))), (4, (.atm (.v 1))), (5, .junk), (6, .junk), (7, .junk)], [], 0, []⟩ .z))) .z))))
def ir53p0 : IR :=
 (.call 48 1 false [] [(.v 0)]
 (.op (.bin .lss false) [(.v 4), (.v 5)]
 (.ite (.v 6)
  (.op (.conv .u64) [(.v 4)]
  (.op (.bin .shl false) [(.c (.int .u64 1)), (.v 7)]
  (.op (.bin .or false) [(.v 3), (.v 8)]
  (.op (.bin .add false) [(.v 4), (.c (.int .i64 1))]
  (.jump 0 [(.v 9), (.v 10)])))))
 (.ret [(.v 3)]))))
def ir53 : IR :=
 (.call 44 1 false [] [(.v 0)]
 (.op (.un .not) [(.v 1)]
 (.ite (.v 2)
  (.ret [(.c (.int .u64 0))])
 (.loop 2 [(.c (.int .u64 0)), (.c (.int .i64 0))] ir53p0))))
theorem rd53 : readFn T SG sigs 3000 sg53 Tryz.f18 an53 = some ir53 := by kernel_rfl
def an54 : Ann := .z
def ir54 : IR :=
 (.call 44 1 false [] [(.v 0)]
 (.op (.un .not) [(.v 2)]
 (.ite (.v 3)
  (.ret [(.c (.int .i64 0)), (.c (.str [])), (.c (.sl [])), (.c (.int .i64 1))])
 (.call 81 3 false [] [(.v 0), (.v 1)]
 (.ret [(.v 4), (.v 5), (.v 6), (.c (.int .i64 0))])))))
theorem rd54 : readFn T SG sigs 3000 sg54 Tryz.f66 an54 = some ir54 := by kernel_rfl
def an55 : Ann := .z
def ir55 : IR :=
 (.op .lenL [(.v 0)]
 (.op (.bin .geq false) [(.v 1), (.v 2)]
 (.ite (.v 3)
  (.ret [(.c (.int .i64 0)), (.v 0), (.v 1)])
 (.op (.bin .add false) [(.v 1), (.c (.int .i64 1))]
 (.op (.bin .sub false) [(.v 4), (.c (.int .i64 1))]
 (.op (.row 1) [(.v 0), (.v 5)]
 (.ret [(.v 6), (.v 0), (.v 4)])))))))
theorem rd55 : readFn T SG sigs 3000 sg55 Tryz.f71 an55 = some ir55 := by kernel_rfl
def an56 : Ann := (.s none .z (.s none .z (.s none .z (.s (some ⟨1, [(0, (.atm (.v 0))), (1, .junk), (4, .junk), (5, .junk), (6, .junk), (7, .junk), (8, .junk), (9, .junk)], [], 0, []⟩) .z .z))))
def ir56p0 : IR :=
 (.ret [(.v 4)])
def ir56 : IR :=
 (.op (.bin .lss false) [(.v 1), (.c (.int .i64 1))]
 (.ite (.v 2)
  (.ret [(.c (.int .i64 0))])
 (.op (.bin .rem false) [(.v 0), (.v 1)]
 (.letj 1
  (.op (.bin .lss false) [(.v 3), (.c (.int .i64 0))]
  (.ite (.v 4)
   (.op (.bin .add false) [(.v 3), (.v 1)]
   (.jump 0 [(.v 5)]))
  (.jump 0 [(.v 3)])))
 ir56p0))))
theorem rd56 : readFn T SG sigs 3000 sg56 Tryz.f115 an56 = some ir56 := by kernel_rfl
def an57 : Ann := (.s none .z (.s none (.s none .z (.b (.l ⟨1, [(4, .junk), (6, .junk), (8, (.atm (.v 0)))], [], 0, []⟩ .z))) .z))
def ir57p0 : IR :=
 (.op (.bin .lss false) [(.v 3), (.v 2)]
 (.ite (.v 4)
  (.op (.row 1) [(.v 0), (.v 3)]
  (.op (.bin .eql false) [(.v 5), (.v 1)]
  (.ite (.v 6)
   (.ret [(.c (.bool true))])
  (.op (.bin .add false) [(.v 3), (.c (.int .i64 1))]
  (.jump 0 [(.v 7)])))))
 (.ret [(.c (.bool false))])))
def ir57 : IR :=
 (.op .lenL [(.v 0)]
 (.loop 1 [(.c (.int .i64 0))] ir57p0))
theorem rd57 : readFn T SG sigs 3000 sg57 Tryz.f116 an57 = some ir57 := by kernel_rfl
def an58 : Ann := .z
def ir58 : IR :=
 (.op (.conv .u64) [(.v 1)]
 (.op (.bin .shr false) [(.v 0), (.v 2)]
 (.op (.bin .and false) [(.v 3), (.c (.int .u64 1))]
 (.op (.bin .eql false) [(.v 4), (.c (.int .u64 1))]
 (.ret [(.v 5)])))))
theorem rd58 : readFn T SG sigs 3000 sg58 Tryz.f108 an58 = some ir58 := by kernel_rfl
def an59 : Ann := (.s none .z (.s none .z (.s none (.s none .z (.b (.l ⟨1, [(2, .junk), (5, .junk), (6, .junk), (7, .junk), (10, (.atm (.v 0)))], [], 0, []⟩ (.s none .z (.s none .z (.s none (.b (.s none .z (.s (some ⟨1, [(3, .junk), (4, .junk), (11, .junk), (12, .junk), (13, .junk), (14, .junk), (30, (.atm (.v 0)))], [], 0, []⟩) .z .z))) .z)))))) .z)))
def ir59p0 : IR :=
 (.ite (.v 7)
  (.ret [(.c (.bool false))])
 (.op (.bin .add false) [(.v 4), (.c (.int .i64 1))]
 (.jump 0 [(.v 8)])))
def ir59p1 : IR :=
 (.op (.bin .lss false) [(.v 4), (.v 3)]
 (.ite (.v 5)
  (.op (.row 1) [(.v 0), (.v 4)]
  (.letj 1
   (.call 82 1 false [] [(.v 6)]
   (.op (.un .not) [(.v 7)]
   (.ite (.v 8)
    (.jump 1 [(.c (.bool true))])
   (.op (.bin .gtr false) [(.v 4), (.c (.int .i64 0))]
   (.ite (.v 9)
    (.op (.bin .sub false) [(.v 4), (.c (.int .i64 1))]
    (.op (.row 1) [(.v 0), (.v 10)]
    (.op (.bin .geq false) [(.v 11), (.v 6)]
    (.jump 1 [(.v 12)]))))
   (.jump 1 [(.c (.bool false))]))))))
  ir59p0))
 (.ret [(.c (.bool true))])))
def ir59 : IR :=
 (.op .lenL [(.v 0)]
 (.op (.bin .gtr false) [(.v 1), (.c (.int .i64 6))]
 (.ite (.v 2)
  (.ret [(.c (.bool false))])
 (.op .lenL [(.v 0)]
 (.loop 1 [(.c (.int .i64 0))] ir59p1)))))
theorem rd59 : readFn T SG sigs 3000 sg59 Tryz.f105 an59 = some ir59 := by kernel_rfl
def an60 : Ann := .z
def ir60 : IR :=
 (.call 83 1 false [] [(.v 0), (.v 1)]
 (.op (.bin .geq false) [(.v 2), (.c (.int .i64 0))]
 (.ret [(.v 3)])))
theorem rd60 : readFn T SG sigs 3000 sg60 Tryz.f136 an60 = some ir60 := by kernel_rfl
def an61 : Ann := (.s none .z (.s none (.b (.s (some ⟨1, [(0, .junk), (2, .junk), (3, (.atm (.v 0)))], [], 1, []⟩) .z .z)) .z))
def ir61p0 : IR :=
 (.ite (.v 3)
  (.ret [(.c (.int .i64 2))])
 (.call 86 1 false [] [(.v 0), (.v 1), (.v 2)]
 (.op (.un .not) [(.v 4)]
 (.ite (.v 5)
  (.ret [(.c (.int .i64 4))])
 (.call 87 1 false [] [(.v 0), (.v 1), (.v 2)]
 (.op (.un .not) [(.v 6)]
 (.ite (.v 7)
  (.ret [(.c (.int .i64 3))])
 (.ret [(.c (.int .i64 0))]))))))))
def ir61 : IR :=
 (.letj 1
  (.call 84 1 false [] [(.v 0), (.v 1), (.v 2)]
  (.op (.bin .gtr false) [(.v 3), (.c (.int .i64 600))]
  (.ite (.v 4)
   (.jump 0 [(.c (.bool true))])
  (.call 85 1 false [] [(.v 0), (.v 1), (.v 2)]
  (.op (.bin .gtr false) [(.v 5), (.c (.int .i64 20))]
  (.jump 0 [(.v 6)]))))))
 ir61p0)
theorem rd61 : readFn T SG sigs 3000 sg61 Tryz.f119 an61 = some ir61 := by kernel_rfl
def an63 : Ann := .z
def ir63 : IR :=
 (.call 88 1 false [] [(.v 0), (.v 1)]
 (.op (.bin .geq false) [(.v 2), (.c (.int .i64 0))]
 (.ret [(.v 3)])))
theorem rd63 : readFn T SG sigs 3000 sg63 Tryz.f121 an63 = some ir63 := by kernel_rfl
def an64 : Ann := (.s none .z (.s none (.s none .z (.b (.s none .z (.c .z (.s none .z (.c .z (.s none .z (.c .z (.s none .z (.c .z (.s none .z (.c .z (.s none .z (.c (.s none .z (.s none (.s none .z (.b (.l ⟨2, [(1, .junk), (3, .junk), (4, .junk), (5, (.atm (.v 0))), (11, .junk), (12, .junk), (13, .junk), (14, .junk), (15, .junk), (16, .junk), (22, .junk), (23, .junk), (31, .junk), (32, .junk), (47, .junk), (48, .junk), (63, .junk), (64, .junk), (65, .junk), (68, (.atm (.v 1)))], [], 1, []⟩ .z))) .z)) .z)))))))))))))) (.s none .z (.s none (.s none .z (.b (.l ⟨2, [(1, .junk), (3, .junk), (4, .junk), (8, (.atm (.v 0))), (11, .junk), (12, .junk), (13, .junk), (14, .junk), (15, .junk), (16, .junk), (22, .junk), (23, .junk), (31, .junk), (32, .junk), (47, .junk), (48, .junk), (63, .junk), (64, .junk), (79, .junk), (82, (.atm (.v 1)))], [], 1, []⟩ .z))) .z))))
def ir64p0 : IR :=
 (.op (.bin .lss false) [(.v 12), (.v 10)]
 (.ite (.v 13)
  (.op (.row 3) [(.v 3), (.v 12)]
  (.call 64 1 false [] [(.v 0), (.v 14), (.v 15), (.v 16)]
  (.op (.bin .and false) [(.v 11), (.v 17)]
  (.op (.bin .add false) [(.v 12), (.c (.int .i64 1))]
  (.jump 0 [(.v 18), (.v 19)])))))
 (.ret [(.v 11)])))
def ir64p1 : IR :=
 (.op (.bin .lss false) [(.v 12), (.v 10)]
 (.ite (.v 13)
  (.op (.row 3) [(.v 3), (.v 12)]
  (.call 64 1 false [] [(.v 0), (.v 14), (.v 15), (.v 16)]
  (.op (.bin .or false) [(.v 11), (.v 17)]
  (.op (.bin .add false) [(.v 12), (.c (.int .i64 1))]
  (.jump 0 [(.v 18), (.v 19)])))))
 (.ret [(.v 11)])))
def ir64 : IR :=
 (.op (.bin .eql false) [(.v 1), (.c (.int .i64 1))]
 (.ite (.v 4)
  (.ret [(.c (.int .u64 18446744073709551615))])
 (.op (.bin .eql false) [(.v 1), (.c (.int .i64 3))]
 (.ite (.v 5)
  (.call 88 1 false [] [(.v 0), (.v 2)]
  (.call 89 1 false [] [(.v 6)]
  (.ret [(.v 7)])))
 (.op (.bin .eql false) [(.v 1), (.c (.int .i64 4))]
 (.ite (.v 6)
  (.op (.row 3) [(.v 3), (.c (.int .i64 0))]
  (.call 64 1 false [] [(.v 0), (.v 7), (.v 8), (.v 9)]
  (.op (.un .xor) [(.v 10)]
  (.ret [(.v 11)]))))
 (.op (.bin .eql false) [(.v 1), (.c (.int .i64 7))]
 (.ite (.v 7)
  (.op (.row 3) [(.v 3), (.c (.int .i64 0))]
  (.call 64 1 false [] [(.v 0), (.v 8), (.v 9), (.v 10)]
  (.op (.un .xor) [(.v 11)]
  (.op (.row 3) [(.v 3), (.c (.int .i64 1))]
  (.call 64 1 false [] [(.v 0), (.v 13), (.v 14), (.v 15)]
  (.op (.bin .or false) [(.v 12), (.v 16)]
  (.ret [(.v 17)])))))))
 (.op (.bin .eql false) [(.v 1), (.c (.int .i64 8))]
 (.ite (.v 8)
  (.op (.row 3) [(.v 3), (.c (.int .i64 0))]
  (.call 64 1 false [] [(.v 0), (.v 9), (.v 10), (.v 11)]
  (.op (.row 3) [(.v 3), (.c (.int .i64 1))]
  (.call 64 1 false [] [(.v 0), (.v 13), (.v 14), (.v 15)]
  (.op (.bin .xor false) [(.v 12), (.v 16)]
  (.op (.un .xor) [(.v 17)]
  (.ret [(.v 18)])))))))
 (.op (.bin .eql false) [(.v 1), (.c (.int .i64 5))]
 (.ite (.v 9)
  (.op .lenL [(.v 3)]
  (.loop 2 [(.c (.int .u64 18446744073709551615)), (.c (.int .i64 0))] ir64p0))
 (.op .lenL [(.v 3)]
 (.loop 2 [(.c (.int .u64 0)), (.c (.int .i64 0))] ir64p1))))))))))))))
theorem rd64 : readFn T SG sigs 3000 sg64 Tryz.f122 an64 = some ir64 := by kernel_rfl
def an65 : Ann := .z
def ir65 : IR :=
 (.call 59 1 false [] [(.v 0)]
 (.op (.un .not) [(.v 1)]
 (.ite (.v 2)
  (.ret [(.c (.int .u64 0))])
 (.op .lenL [(.v 0)]
 (.call 90 1 false [] [(.v 3)]
 (.ret [(.v 4)]))))))
theorem rd65 : readFn T SG sigs 3000 sg65 Tryz.f87 an65 = some ir65 := by kernel_rfl
def an66 : Ann := (.s none .z (.s none .z (.s none .z (.s none (.s none .z (.b (.l ⟨2, [(0, .junk), (1, .junk), (2, .junk), (6, .junk), (7, .junk), (8, .junk), (9, .junk), (10, .junk), (11, .junk), (12, .junk), (13, .junk), (14, .junk), (17, (.atm (.v 0)))], [(1, ⟨false, true, 30, 1, (.v 1), []⟩)], 2, []⟩ .z))) .z))))
def ir66p0 : IR :=
 (.op (.bin .lss false) [(.v 8), (.v 7)]
 (.ite (.v 10)
  (.op (.row 1) [(.v 1), (.v 8)]
  (.op .chk [(.v 9), (.v 11)]
  (.op (.get 0 1) [(.v 9), (.v 11)]
  (.op (.conv .u64) [(.v 8)]
  (.op (.bin .shl false) [(.c (.int .u64 1)), (.v 13)]
  (.op (.bin .or false) [(.v 12), (.v 14)]
  (.op .chk [(.v 9), (.v 11)]
  (.op (.set 0 1) [(.v 9), (.v 11), (.v 15)]
  (.op (.bin .add false) [(.v 8), (.c (.int .i64 1))]
  (.jump 0 [(.v 17), (.v 16)]))))))))))
 (.ret [(.v 9)])))
def ir66 : IR :=
 (.call 25 1 false [] [(.v 0), (.v 1)]
 (.op (.bin .neq false) [(.v 2), (.c (.int .i64 0))]
 (.ite (.v 3)
  (.ret [(.c (.sl []))])
 (.call 91 1 false [] [(.v 1)]
 (.op (.bin .add false) [(.v 4), (.c (.int .i64 1))]
 (.op (.mkL 8 [(.int .u64 0)]) [(.v 5)]
 (.op .lenL [(.v 1)]
 (.loop 2 [(.c (.int .i64 0)), (.v 6)] ir66p0))))))))
theorem rd66 : readFn T SG sigs 3000 sg66 Tryz.f109 an66 = some ir66 := by kernel_rfl
def an67 : Ann := .z
def ir67 : IR :=
 (.op (.bin .neq false) [(.v 0), (.v 0)]
 (.ret [(.v 1)]))
theorem rd67 : readFn T SG sigs 3000 sg67 Tryz.f145 an67 = some ir67 := by kernel_rfl
def an68 : Ann := (.s none .z (.s none .z (.s none (.s none .z (.b (.l ⟨2, [(0, .junk), (2, .junk), (3, (.atm (.v 0))), (4, (.atm (.v 1)))], [], 1, []⟩ .z))) .z)))
def ir68p0 : IR :=
 (.op .lenL [(.v 1)]
 (.op (.bin .lss false) [(.v 3), (.v 4)]
 (.ite (.v 5)
  (.op (.row 1) [(.v 1), (.v 3)]
  (.op .max [(.v 2), (.v 6)]
  (.op (.bin .add false) [(.v 3), (.c (.int .i64 1))]
  (.jump 0 [(.v 7), (.v 8)]))))
 (.ret [(.v 2)]))))
def ir68 : IR :=
 (.loop 2 [(.c (.int .i64 0)), (.c (.int .i64 0))] ir68p0)
theorem rd68 : readFn T SG sigs 3000 sg68 Tryz.f41 an68 = some ir68 := by kernel_rfl
def an69 : Ann := (.s none .z (.s none .z (.s none (.s none .z (.b (.l ⟨2, [(0, .junk), (6, .junk), (7, (.atm (.v 0))), (8, (.atm (.v 1)))], [], 1, []⟩ (.s none .z (.s (some ⟨1, [(7, (.atm (.v 0))), (9, .junk), (10, .junk), (11, .junk), (12, .junk), (13, .junk)], [], 1, []⟩) (.b (.s (some ⟨1, [(9, .junk), (10, .junk), (11, .junk), (12, .junk), (13, .junk), (31, (.atm (.v 0)))], [], 1, []⟩) .z .z)) .z))))) .z)))
def ir69p0 : IR :=
 (.op (.bin .add false) [(.v 5), (.c (.int .i64 1))]
 (.jump 0 [(.v 8), (.v 9)]))
def ir69p1 : IR :=
 (.ite (.v 8)
  (.op (.conv .u64) [(.v 5)]
  (.op (.bin .shl false) [(.c (.int .u64 1)), (.v 9)]
  (.op (.bin .or false) [(.v 4), (.v 10)]
  (.jump 1 [(.v 11)]))))
 (.jump 1 [(.v 4)]))
def ir69p2 : IR :=
 (.op .lenL [(.v 1)]
 (.op (.bin .lss false) [(.v 5), (.v 6)]
 (.ite (.v 7)
  (.letj 1
   (.letj 1
    (.op (.row 1) [(.v 1), (.v 5)]
    (.op (.bin .geq false) [(.v 8), (.v 2)]
    (.ite (.v 9)
     (.op (.row 1) [(.v 1), (.v 5)]
     (.op (.bin .leq false) [(.v 10), (.v 3)]
     (.jump 2 [(.v 11)])))
    (.jump 2 [(.c (.bool false))]))))
   ir69p1)
  ir69p0)
 (.ret [(.v 4)]))))
def ir69 : IR :=
 (.loop 2 [(.c (.int .u64 0)), (.c (.int .i64 0))] ir69p2)
theorem rd69 : readFn T SG sigs 3000 sg69 Tryz.f112 an69 = some ir69 := by kernel_rfl
def an70 : Ann := .z
def ir70 : IR :=
 (.op (.bin .lss false) [(.v 0), (.v 1)]
 (.ite (.v 2)
  (.ret [(.c (.int .i64 (-1)))])
 (.op (.bin .gtr false) [(.v 0), (.v 1)]
 (.ite (.v 3)
  (.ret [(.c (.int .i64 1))])
 (.ret [(.c (.int .i64 0))])))))
theorem rd70 : readFn T SG sigs 3000 sg70 Tryz.f146 an70 = some ir70 := by kernel_rfl
def an71 : Ann := (.s none .z (.s none (.s (some ⟨1, [(2, .junk), (21, (.atm (.v 0)))], [], 0, []⟩) .z .z) (.s none (.s none .z (.b (.l ⟨1, [(3, (.atm (.v 0))), (21, .junk)], [], 0, []⟩ (.s none .z (.s none (.b (.s (some ⟨1, [(22, .junk), (23, .junk), (24, .junk), (25, .junk), (55, (.atm (.v 0)))], [], 0, []⟩) .z .z)) .z))))) .z)))
def ir71p0 : IR :=
 (.ite (.v 5)
  (.ret [(.c (.bool false))])
 (.op (.bin .add false) [(.v 2), (.c (.int .i64 1))]
 (.jump 0 [(.v 6)])))
def ir71p1 : IR :=
 (.op .lenS [(.v 0)]
 (.op (.bin .lss false) [(.v 2), (.v 3)]
 (.ite (.v 4)
  (.letj 1
   (.op .idxS [(.v 0), (.v 2)]
   (.op (.bin .lss false) [(.v 5), (.c (.int .u8 97))]
   (.ite (.v 6)
    (.op .idxS [(.v 0), (.v 2)]
    (.op (.bin .lss false) [(.v 7), (.c (.int .u8 48))]
    (.ite (.v 8)
     (.op .idxS [(.v 0), (.v 2)]
     (.op (.bin .neq false) [(.v 9), (.c (.int .u8 95))]
     (.jump 1 [(.v 10)])))
    (.op .idxS [(.v 0), (.v 2)]
    (.op (.bin .gtr false) [(.v 9), (.c (.int .u8 57))]
    (.ite (.v 10)
     (.op .idxS [(.v 0), (.v 2)]
     (.op (.bin .neq false) [(.v 11), (.c (.int .u8 95))]
     (.jump 1 [(.v 12)])))
    (.jump 1 [(.c (.bool false))])))))))
   (.op .idxS [(.v 0), (.v 2)]
   (.op (.bin .gtr false) [(.v 7), (.c (.int .u8 122))]
   (.ite (.v 8)
    (.op .idxS [(.v 0), (.v 2)]
    (.op (.bin .lss false) [(.v 9), (.c (.int .u8 48))]
    (.ite (.v 10)
     (.op .idxS [(.v 0), (.v 2)]
     (.op (.bin .neq false) [(.v 11), (.c (.int .u8 95))]
     (.jump 1 [(.v 12)])))
    (.op .idxS [(.v 0), (.v 2)]
    (.op (.bin .gtr false) [(.v 11), (.c (.int .u8 57))]
    (.ite (.v 12)
     (.op .idxS [(.v 0), (.v 2)]
     (.op (.bin .neq false) [(.v 13), (.c (.int .u8 95))]
     (.jump 1 [(.v 14)])))
    (.jump 1 [(.c (.bool false))])))))))
   (.jump 1 [(.c (.bool false))])))))))
  ir71p0)
 (.ret [(.c (.bool true))]))))
def ir71p2 : IR :=
 (.ite (.v 1)
  (.ret [(.c (.bool false))])
 (.loop 1 [(.c (.int .i64 0))] ir71p1))
def ir71 : IR :=
 (.letj 1
  (.op .lenS [(.v 0)]
  (.op (.bin .lss false) [(.v 1), (.c (.int .i64 1))]
  (.ite (.v 2)
   (.jump 0 [(.c (.bool true))])
  (.op .lenS [(.v 0)]
  (.op (.bin .gtr false) [(.v 3), (.c (.int .i64 12))]
  (.ite (.v 4)
   (.jump 0 [(.c (.bool true))])
  (.op .idxS [(.v 0), (.c (.int .i64 0))]
  (.op (.bin .lss false) [(.v 5), (.c (.int .u8 97))]
  (.ite (.v 6)
   (.jump 0 [(.c (.bool true))])
  (.op .idxS [(.v 0), (.c (.int .i64 0))]
  (.op (.bin .gtr false) [(.v 7), (.c (.int .u8 122))]
  (.jump 0 [(.v 8)]))))))))))))
 ir71p2)
theorem rd71 : readFn T SG sigs 3000 sg71 Tryz.f117 an71 = some ir71 := by kernel_rfl
def an72 : Ann := (.s none .z (.s none .z (.s none (.s none .z (.b (.l ⟨2, [(0, .junk), (2, .junk), (3, (.atm (.v 0))), (4, (.atm (.v 1)))], [], 1, []⟩ .z))) .z)))
def ir72p0 : IR :=
 (.op .lenL [(.v 2)]
 (.op (.bin .lss false) [(.v 4), (.v 5)]
 (.ite (.v 6)
  (.op (.row 3) [(.v 2), (.v 4)]
  (.call 72 1 false [] [(.v 7), (.v 8), (.v 9)]
  (.op (.bin .add false) [(.v 3), (.v 10)]
  (.op (.bin .add false) [(.v 4), (.c (.int .i64 1))]
  (.jump 0 [(.v 11), (.v 12)])))))
 (.ret [(.v 3)]))))
def ir72 : IR :=
 (.loop 2 [(.c (.int .i64 1)), (.c (.int .i64 0))] ir72p0)
theorem rd72 : readFn T SG sigs 3000 sg72 Tryz.f129 an72 = some ir72 := by kernel_rfl
def an73 : Ann := (.s none .z (.s none .z (.s none (.s none .z (.b (.l ⟨2, [(0, .junk), (2, .junk), (3, (.atm (.v 0))), (4, (.atm (.v 1)))], [], 1, []⟩ .z))) .z)))
def ir73p0 : IR :=
 (.op .lenL [(.v 2)]
 (.op (.bin .lss false) [(.v 4), (.v 5)]
 (.ite (.v 6)
  (.op (.row 3) [(.v 2), (.v 4)]
  (.call 73 1 false [] [(.v 7), (.v 8), (.v 9)]
  (.op (.bin .add false) [(.c (.int .i64 1)), (.v 10)]
  (.op .max [(.v 3), (.v 11)]
  (.op (.bin .add false) [(.v 4), (.c (.int .i64 1))]
  (.jump 0 [(.v 12), (.v 13)]))))))
 (.ret [(.v 3)]))))
def ir73 : IR :=
 (.loop 2 [(.c (.int .i64 0)), (.c (.int .i64 0))] ir73p0)
theorem rd73 : readFn T SG sigs 3000 sg73 Tryz.f130 an73 = some ir73 := by kernel_rfl
def an74 : Ann := (.s none .z (.s none .z (.s none .z (.s (some ⟨1, [(0, .junk), (2, .junk), (4, (.atm (.v 0))), (6, .junk), (7, .junk), (8, .junk)], [], 1, []⟩) (.s none .z (.b (.s (some ⟨1, [(0, .junk), (2, .junk), (6, .junk), (7, .junk), (8, .junk), (9, .junk), (11, (.atm (.v 0)))], [], 1, []⟩) .z (.c .z (.s none .z (.c .z (.s (some ⟨1, [(11, .junk), (17, .junk), (18, .junk), (21, (.atm (.v 0)))], [], 1, []⟩) .z (.c .z (.s (some ⟨1, [(10, .junk), (21, .junk), (30, (.atm (.v 0)))], [], 1, []⟩) .z .z))))))))) (.s none (.s none .z (.b (.l ⟨2, [(4, (.atm (.v 0))), (5, (.atm (.v 1)))], [], 1, []⟩ (.s none .z (.s (some ⟨1, [(4, (.atm (.v 0))), (35, .junk), (36, .junk), (37, .junk)], [], 1, []⟩) .z .z))))) .z)))))
def ir74p0 : IR :=
 (.op (.bin .add false) [(.v 6), (.c (.int .i64 1))]
 (.jump 0 [(.v 8), (.v 9)]))
def ir74p1 : IR :=
 (.op (.bin .lss false) [(.v 6), (.v 3)]
 (.ite (.v 7)
  (.letj 1
   (.ite (.v 5)
    (.op (.row 3) [(.v 2), (.v 6)]
    (.call 74 1 false [] [(.v 8), (.v 9), (.v 10)]
    (.jump 1 [(.v 11)])))
   (.jump 1 [(.c (.bool false))]))
  ir74p0)
 (.ret [(.v 5)])))
def ir74p2 : IR :=
 (.loop 2 [(.v 4), (.c (.int .i64 0))] ir74p1)
def ir74p3 : IR :=
 (.ite (.v 7)
  (.op (.bin .eql false) [(.v 3), (.c (.int .i64 2))]
  (.jump 0 [(.v 8)]))
 (.jump 0 [(.c (.bool false))]))
def ir74p4 : IR :=
 (.ite (.v 6)
  (.op (.bin .geq false) [(.v 3), (.c (.int .i64 2))]
  (.ite (.v 7)
   (.op (.bin .leq false) [(.v 3), (.c (.int .i64 6))]
   (.jump 0 [(.v 8)]))
  (.jump 0 [(.c (.bool false))])))
 (.letj 1
  (.op (.bin .eql false) [(.v 0), (.c (.int .i64 7))]
  (.ite (.v 7)
   (.jump 1 [(.c (.bool true))])
  (.op (.bin .eql false) [(.v 0), (.c (.int .i64 8))]
  (.jump 1 [(.v 8)]))))
 ir74p3))
def ir74p5 : IR :=
 (.ite (.v 4)
  (.op (.bin .eql false) [(.v 3), (.c (.int .i64 0))]
  (.jump 0 [(.v 5)]))
 (.op (.bin .eql false) [(.v 0), (.c (.int .i64 4))]
 (.ite (.v 5)
  (.op (.bin .eql false) [(.v 3), (.c (.int .i64 1))]
  (.jump 0 [(.v 6)]))
 (.letj 1
  (.op (.bin .eql false) [(.v 0), (.c (.int .i64 5))]
  (.ite (.v 6)
   (.jump 1 [(.c (.bool true))])
  (.op (.bin .eql false) [(.v 0), (.c (.int .i64 6))]
  (.jump 1 [(.v 7)]))))
 ir74p4))))
def ir74 : IR :=
 (.op .lenL [(.v 2)]
 (.letj 1
  (.letj 1
   (.op (.bin .eql false) [(.v 0), (.c (.int .i64 1))]
   (.ite (.v 4)
    (.jump 1 [(.c (.bool true))])
   (.op (.bin .eql false) [(.v 0), (.c (.int .i64 2))]
   (.ite (.v 5)
    (.jump 1 [(.c (.bool true))])
   (.op (.bin .eql false) [(.v 0), (.c (.int .i64 3))]
   (.jump 1 [(.v 6)]))))))
  ir74p5)
 ir74p2))
theorem rd74 : readFn T SG sigs 3000 sg74 Tryz.f131 an74 = some ir74 := by kernel_rfl
def an75 : Ann := (.s none .z (.s none .z (.s (some ⟨1, [(0, .junk), (2, .junk), (3, (.atm (.v 0))), (5, .junk), (6, .junk), (7, .junk)], [], 1, []⟩) .z (.s none (.s none .z (.b (.l ⟨2, [(3, (.atm (.v 0))), (4, (.atm (.v 1)))], [], 1, []⟩ (.s none .z (.s (some ⟨1, [(3, (.atm (.v 0))), (14, .junk), (15, .junk), (16, .junk), (17, .junk), (18, .junk)], [], 1, []⟩) .z .z))))) .z))))
def ir75p0 : IR :=
 (.op (.bin .add false) [(.v 6), (.c (.int .i64 1))]
 (.jump 0 [(.v 9), (.v 10)]))
def ir75p1 : IR :=
 (.op .lenL [(.v 2)]
 (.op (.bin .lss false) [(.v 6), (.v 7)]
 (.ite (.v 8)
  (.letj 1
   (.ite (.v 5)
    (.op (.row 3) [(.v 2), (.v 6)]
    (.call 75 1 false [] [(.v 9), (.v 10), (.v 11)]
    (.jump 1 [(.v 12)])))
   (.jump 1 [(.c (.bool false))]))
  ir75p0)
 (.ret [(.v 5)]))))
def ir75p2 : IR :=
 (.loop 2 [(.v 4), (.c (.int .i64 0))] ir75p1)
def ir75 : IR :=
 (.op (.bin .eql false) [(.v 1), (.c (.str []))]
 (.letj 1
  (.op (.bin .eql false) [(.v 0), (.c (.int .i64 3))]
  (.ite (.v 4)
   (.call 71 1 false [] [(.v 1)]
   (.jump 0 [(.v 5)]))
  (.jump 0 [(.v 3)])))
 ir75p2))
theorem rd75 : readFn T SG sigs 3000 sg75 Tryz.f132 an75 = some ir75 := by kernel_rfl
def an76 : Ann := (.s none .z (.s (some ⟨1, [(0, (.atm (.v 0))), (1, .junk), (4, .junk)], [], 1, []⟩) (.s (some ⟨1, [(1, .junk), (4, .junk), (14, (.atm (.v 0)))], [], 1, []⟩) .z .z) (.s none (.s none .z (.b (.l ⟨2, [(0, (.atm (.v 0))), (5, (.atm (.v 1)))], [], 1, []⟩ .z))) .z)))
def ir76p0 : IR :=
 (.op .lenL [(.v 3)]
 (.op (.bin .lss false) [(.v 6), (.v 7)]
 (.ite (.v 8)
  (.op (.row 3) [(.v 3), (.v 6)]
  (.call 76 1 false [] [(.v 5), (.v 9), (.v 10), (.v 11)]
  (.op (.bin .add false) [(.v 6), (.c (.int .i64 1))]
  (.jump 0 [(.v 12), (.v 13)]))))
 (.ret [(.v 5)]))))
def ir76p1 : IR :=
 (.loop 2 [(.v 4), (.c (.int .i64 0))] ir76p0)
def ir76p2 : IR :=
 (.ite (.v 4)
  (.call 92 1 false [] [(.v 0), (.v 2)]
  (.jump 0 [(.v 5)]))
 (.jump 0 [(.v 0)]))
def ir76 : IR :=
 (.letj 1
  (.letj 1
   (.op (.bin .eql false) [(.v 1), (.c (.int .i64 3))]
   (.ite (.v 4)
    (.op .lenL [(.v 3)]
    (.op (.bin .eql false) [(.v 5), (.c (.int .i64 0))]
    (.jump 1 [(.v 6)])))
   (.jump 1 [(.c (.bool false))])))
  ir76p2)
 ir76p1)
theorem rd76 : readFn T SG sigs 3000 sg76 Tryz.f133 an76 = some ir76 := by kernel_rfl
def an77 : Ann := (.s none .z (.s none (.s none .z (.b (.s none .z (.c .z (.s none .z (.c (.s none (.s none .z (.b (.l ⟨1, [(0, .junk), (4, .junk), (5, (.atm (.v 0))), (8, .junk), (9, .junk), (10, .junk), (11, .junk), (12, .junk), (13, .junk)], [], 1, []⟩ .z))) .z) (.s none .z (.c .z (.s none .z (.c (.s none (.s none .z (.b (.l ⟨1, [(0, .junk), (4, .junk), (6, (.atm (.v 0))), (8, .junk), (9, .junk), (10, .junk), (11, .junk), (12, .junk), (13, .junk), (27, .junk), (28, .junk), (36, .junk), (37, .junk)], [], 1, []⟩ .z))) .z) (.s none .z (.c (.s none (.s none .z (.b (.l ⟨1, [(0, .junk), (4, .junk), (7, (.atm (.v 0))), (8, .junk), (9, .junk), (10, .junk), (11, .junk), (12, .junk), (13, .junk), (27, .junk), (28, .junk), (36, .junk), (37, .junk), (53, .junk), (54, .junk)], [], 1, []⟩ .z))) .z) .z)))))))))))) .z))
def ir77p0 : IR :=
 (.op .lenL [(.v 3)]
 (.op (.bin .lss false) [(.v 6), (.v 7)]
 (.ite (.v 8)
  (.op (.row 1) [(.v 3), (.v 6)]
  (.op (.bin .eql false) [(.v 9), (.v 1)]
  (.ite (.v 10)
   (.ret [(.c (.bool true))])
  (.op (.bin .add false) [(.v 6), (.c (.int .i64 1))]
  (.jump 0 [(.v 11)])))))
 (.ret [(.c (.bool false))]))))
def ir77p1 : IR :=
 (.op .lenL [(.v 2)]
 (.op (.bin .lss false) [(.v 8), (.v 9)]
 (.ite (.v 10)
  (.op (.row 3) [(.v 2), (.v 8)]
  (.call 77 1 false [] [(.v 11), (.v 12), (.v 13), (.v 3)]
  (.op (.un .not) [(.v 14)]
  (.ite (.v 15)
   (.ret [(.c (.bool false))])
  (.op (.bin .add false) [(.v 8), (.c (.int .i64 1))]
  (.jump 0 [(.v 16)]))))))
 (.ret [(.c (.bool true))]))))
def ir77p2 : IR :=
 (.op .lenL [(.v 2)]
 (.op (.bin .lss false) [(.v 9), (.v 10)]
 (.ite (.v 11)
  (.op (.row 3) [(.v 2), (.v 9)]
  (.call 77 1 false [] [(.v 12), (.v 13), (.v 14), (.v 3)]
  (.ite (.v 15)
   (.ret [(.c (.bool true))])
  (.op (.bin .add false) [(.v 9), (.c (.int .i64 1))]
  (.jump 0 [(.v 16)])))))
 (.ret [(.c (.bool false))]))))
def ir77 : IR :=
 (.op (.bin .eql false) [(.v 0), (.c (.int .i64 1))]
 (.ite (.v 4)
  (.ret [(.c (.bool true))])
 (.op (.bin .eql false) [(.v 0), (.c (.int .i64 3))]
 (.ite (.v 5)
  (.loop 1 [(.c (.int .i64 0))] ir77p0)
 (.op (.bin .eql false) [(.v 0), (.c (.int .i64 4))]
 (.ite (.v 6)
  (.op (.row 3) [(.v 2), (.c (.int .i64 0))]
  (.call 77 1 false [] [(.v 7), (.v 8), (.v 9), (.v 3)]
  (.op (.un .not) [(.v 10)]
  (.ret [(.v 11)]))))
 (.op (.bin .eql false) [(.v 0), (.c (.int .i64 5))]
 (.ite (.v 7)
  (.loop 1 [(.c (.int .i64 0))] ir77p1)
 (.op (.bin .eql false) [(.v 0), (.c (.int .i64 6))]
 (.ite (.v 8)
  (.loop 1 [(.c (.int .i64 0))] ir77p2)
 (.op (.bin .eql false) [(.v 0), (.c (.int .i64 7))]
 (.ite (.v 9)
  (.op (.row 3) [(.v 2), (.c (.int .i64 0))]
  (.call 77 1 false [] [(.v 10), (.v 11), (.v 12), (.v 3)]
  (.op (.un .not) [(.v 13)]
  (.ite (.v 14)
   (.ret [(.c (.bool true))])
  (.op (.row 3) [(.v 2), (.c (.int .i64 1))]
  (.call 77 1 false [] [(.v 15), (.v 16), (.v 17), (.v 3)]
  (.ret [(.v 18)])))))))
 (.op (.bin .eql false) [(.v 0), (.c (.int .i64 8))]
 (.ite (.v 10)
  (.op (.row 3) [(.v 2), (.c (.int .i64 0))]
  (.call 77 1 false [] [(.v 11), (.v 12), (.v 13), (.v 3)]
  (.op (.row 3) [(.v 2), (.c (.int .i64 1))]
  (.call 77 1 false [] [(.v 15), (.v 16), (.v 17), (.v 3)]
  (.op (.bin .eql true) [(.v 14), (.v 18)]
  (.ret [(.v 19)]))))))
 (.ret [(.c (.bool false))])))))))))))))))
theorem rd77 : readFn T SG sigs 3000 sg77 Tryz.f134 an77 = some ir77 := by kernel_rfl
def an78 : Ann := .z
def ir78 : IR :=
 (.op (.bin .geq false) [(.v 0), (.c (.int .i64 1))]
 (.ite (.v 1)
  (.op (.bin .leq false) [(.v 0), (.c (.int .i64 3))]
  (.ret [(.v 2)]))
 (.ret [(.c (.bool false))])))
theorem rd78 : readFn T SG sigs 3000 sg78 Tryz.f118 an78 = some ir78 := by kernel_rfl
def an79 : Ann := (.s none .z (.s none .z (.s none (.b (.s (some ⟨1, [(0, .junk), (10, .junk), (12, .junk), (13, .junk), (14, .junk), (15, .junk), (16, .junk), (17, .junk), (18, .junk), (19, (.atm (.v 0)))], [], 1, []⟩) .z (.c .z (.s none .z (.c .z (.s none .z (.c .z (.s (some ⟨1, [(1, .junk), (2, .junk), (3, .junk), (4, .junk), (5, .junk), (19, .junk), (34, .junk), (35, .junk), (36, .junk), (38, .junk), (39, .junk), (40, .junk), (41, .junk), (42, (.atm (.v 0)))], [], 1, []⟩) .z .z)))))))) .z)))
def ir79p0 : IR :=
 (.ite (.v 12)
  (.op (.bin .add false) [(.v 8), (.c (.int .i64 1))]
  (.ret [(.v 13)]))
 (.ret [(.v 8)]))
def ir79p1 : IR :=
 (.ite (.v 9)
  (.op .lenL [(.v 1)]
  (.op (.bin .add false) [(.v 10), (.c (.int .i64 1))]
  (.op (.bin .mul false) [(.c (.int .i64 3)), (.v 11)]
  (.op (.bin .sub false) [(.v 8), (.v 12)]
  (.ret [(.v 13)])))))
 (.op (.bin .eql false) [(.v 5), (.c (.int .i64 2))]
 (.ite (.v 10)
  (.ret [(.v 8)])
 (.call 31 1 false [] [(.v 4), (.v 2)]
 (.ite (.v 11)
  (.ret [(.c (.int .i64 0))])
 (.letj 1
  (.op (.bin .eql false) [(.v 5), (.c (.int .i64 3))]
  (.ite (.v 12)
   (.call 31 1 false [] [(.v 3), (.v 2)]
   (.op (.un .not) [(.v 13)]
   (.jump 0 [(.v 14)])))
  (.jump 0 [(.c (.bool false))])))
 ir79p0))))))
def ir79 : IR :=
 (.op (.row 1) [(.v 1), (.v 2)]
 (.op (.bin .add false) [(.v 6), (.c (.int .i64 1))]
 (.op (.bin .mul false) [(.c (.int .i64 3)), (.v 7)]
 (.letj 1
  (.op (.bin .eql false) [(.v 5), (.c (.int .i64 2))]
  (.ite (.v 9)
   (.call 31 1 false [] [(.v 3), (.v 2)]
   (.jump 0 [(.v 10)]))
  (.jump 0 [(.c (.bool false))])))
 ir79p1))))
theorem rd79 : readFn T SG sigs 3000 sg79 Tryz.f123 an79 = some ir79 := by kernel_rfl
def an80 : Ann := (.s none .z (.s none (.s (some ⟨1, [(5, .junk), (22, (.atm (.v 0)))], [], 1, []⟩) .z .z) (.s none .z (.s none .z (.s none (.s none .z (.b (.l ⟨2, [(0, .junk), (1, .junk), (22, .junk), (24, .junk), (25, .junk), (27, .junk), (28, .junk), (29, .junk), (30, .junk), (33, (.atm (.v 0)))], [(5, ⟨false, true, 3, 1, (.v 1), []⟩)], 6, [⟨some (4, 0, 1), 0, 3, 1⟩]⟩ .z))) .z)))))
def ir80p0 : IR :=
 (.op (.bin .lss false) [(.v 10), (.v 9)]
 (.ite (.v 12)
  (.op (.row 1) [(.v 1), (.v 10)]
  (.call 97 2 false [] [(.v 6), (.v 13)]
  (.op (.mk 1 1) [(.v 14)]
  (.op (.app 1 8) [(.v 11), (.v 16)]
  (.op (.bin .add false) [(.v 10), (.c (.int .i64 1))]
  (.jump 0 [(.v 18), (.v 17)]))))))
 (.ret [(.v 8), (.v 11), (.c (.int .i64 0))])))
def ir80p1 : IR :=
 (.ite (.v 2)
  (.ret [(.c (.sl [])), (.c (.sl [])), (.c (.int .i64 1))])
 (.call 93 1 false [] [(.v 1)]
 (.call 94 2 false [0] [(.v 3)]
 (.call 95 2 false [1] [(.v 4)]
 (.call 96 1 false [0] [(.v 0)]
 (.op .lenL [(.v 1)]
 (.loop 2 [(.c (.int .i64 0)), (.c (.sl []))] ir80p0)))))))
def ir80 : IR :=
 (.letj 1
  (.call 59 1 false [] [(.v 0)]
  (.op (.un .not) [(.v 2)]
  (.ite (.v 3)
   (.jump 0 [(.c (.bool true))])
  (.op .lenL [(.v 1)]
  (.op .lenL [(.v 0)]
  (.op (.bin .shl false) [(.c (.int .i64 1)), (.v 5)]
  (.op (.bin .neq false) [(.v 4), (.v 6)]
  (.jump 0 [(.v 7)]))))))))
 ir80p1)
theorem rd80 : readFn T SG sigs 3000 sg80 Tryz.f81 an80 = some ir80 := by kernel_rfl
def an81 : Ann := (.s none .z (.s none .z (.s none .z (.s none .z (.s none .z (.s none .z (.s none (.b (.s none .z (.c .z (.s (some ⟨1, [(0, .junk), (1, .junk), (9, .junk), (10, .junk), (11, .junk), (12, .junk), (13, .junk), (15, .junk), (16, .junk), (17, .junk), (18, .junk), (19, .junk), (20, .junk), (21, .junk), (23, .junk), (24, .junk), (25, .junk), (26, .junk), (27, .junk), (28, .junk), (29, .junk), (30, .junk), (31, .junk), (32, .junk), (33, .junk), (34, .junk), (35, .junk), (36, .junk), (37, .junk), (38, .junk), (39, .junk), (40, .junk), (41, .junk), (42, .junk), (43, .junk), (44, .junk), (45, .junk), (47, (.atm (.v 0)))], [], 18, []⟩) .z (.c .z (.s none .z (.c .z (.s (some ⟨1, [(47, .junk), (57, .junk), (58, .junk), (59, .junk), (60, .junk), (64, (.atm (.v 0)))], [], 18, []⟩) .z .z)))))))) .z)))))))
def ir81p0 : IR :=
 (.ite (.v 26)
  (.ret [(.c (.int .i64 4)), (.c (.str [])), (.v 10)])
 (.op (.bin .eql false) [(.v 14), (.c (.int .i64 2))]
 (.ite (.v 27)
  (.call 100 3 false [] [(.c (.int .i64 5)), (.c (.int .i64 4)), (.c (.str [])), (.v 10), (.v 20), (.v 21), (.v 22)]
  (.ret [(.v 28), (.v 29), (.v 30)]))
 (.op (.bin .eql false) [(.v 20), (.c (.int .i64 1))]
 (.ite (.v 28)
  (.call 100 3 false [] [(.c (.int .i64 6)), (.c (.int .i64 4)), (.c (.str [])), (.v 10), (.v 14), (.v 15), (.v 16)]
  (.ret [(.v 29), (.v 30), (.v 31)]))
 (.op (.bin .eql false) [(.v 20), (.c (.int .i64 2))]
 (.ite (.v 29)
  (.call 100 3 false [] [(.c (.int .i64 5)), (.c (.int .i64 3)), (.v 9), (.c (.sl [])), (.v 14), (.v 15), (.v 16)]
  (.ret [(.v 30), (.v 31), (.v 32)]))
 (.call 100 3 false [] [(.c (.int .i64 5)), (.c (.int .i64 3)), (.v 9), (.c (.sl [])), (.v 14), (.v 15), (.v 16)]
 (.call 100 3 false [] [(.c (.int .i64 5)), (.c (.int .i64 4)), (.c (.str [])), (.v 10), (.v 20), (.v 21), (.v 22)]
 (.call 100 3 false [] [(.c (.int .i64 6)), (.v 30), (.v 31), (.v 32), (.v 33), (.v 34), (.v 35)]
 (.ret [(.v 36), (.v 37), (.v 38)])))))))))))
def ir81p1 : IR :=
 (.ite (.v 24)
  (.ret [(.c (.int .i64 3)), (.v 9), (.c (.sl []))])
 (.op (.bin .eql false) [(.v 14), (.c (.int .i64 1))]
 (.ite (.v 25)
  (.call 100 3 false [] [(.c (.int .i64 6)), (.c (.int .i64 3)), (.v 9), (.c (.sl [])), (.v 20), (.v 21), (.v 22)]
  (.ret [(.v 26), (.v 27), (.v 28)]))
 (.letj 1
  (.op (.bin .eql false) [(.v 14), (.c (.int .i64 2))]
  (.ite (.v 26)
   (.op (.bin .eql false) [(.v 20), (.c (.int .i64 1))]
   (.jump 0 [(.v 27)]))
  (.jump 0 [(.c (.bool false))])))
 ir81p0))))
def ir81 : IR :=
 (.call 53 1 false [] [(.v 0)]
 (.op (.bin .and false) [(.v 1), (.v 2)]
 (.op (.bin .eql false) [(.v 3), (.c (.int .u64 0))]
 (.ite (.v 4)
  (.ret [(.c (.int .i64 2)), (.c (.str [])), (.c (.sl []))])
 (.call 53 1 false [] [(.v 0)]
 (.op (.bin .and false) [(.v 1), (.v 5)]
 (.call 53 1 false [] [(.v 0)]
 (.op (.bin .eql false) [(.v 6), (.v 7)]
 (.ite (.v 8)
  (.ret [(.c (.int .i64 1)), (.c (.str [])), (.c (.sl []))])
 (.op (.row 1) [(.v 0), (.c (.int .i64 0))]
 (.op (.mk 3 1) [(.c (.int .i64 3)), (.v 9), (.c (.sl []))]
 (.op .lenL [(.v 0)]
 (.op (.subL 1) [(.v 0), (.c (.int .i64 1)), (.v 11)]
 (.call 98 1 false [] [(.v 0), (.v 1), (.c (.int .i64 1))]
 (.call 81 3 false [] [(.v 12), (.v 13)]
 (.op .lenL [(.v 0)]
 (.op (.subL 1) [(.v 0), (.c (.int .i64 1)), (.v 17)]
 (.call 98 1 false [] [(.v 0), (.v 1), (.c (.int .i64 0))]
 (.call 81 3 false [] [(.v 18), (.v 19)]
 (.call 99 1 false [] [(.v 14), (.v 15), (.v 16), (.v 20), (.v 21), (.v 22)]
 (.ite (.v 23)
  (.ret [(.v 14), (.v 15), (.v 16)])
 (.letj 1
  (.op (.bin .eql false) [(.v 14), (.c (.int .i64 1))]
  (.ite (.v 24)
   (.op (.bin .eql false) [(.v 20), (.c (.int .i64 2))]
   (.jump 0 [(.v 25)]))
  (.jump 0 [(.c (.bool false))])))
 ir81p1))))))))))))))))))))))
theorem rd81 : readFn T SG sigs 3000 sg81 Tryz.f114 an81 = some ir81 := by kernel_rfl
def an82 : Ann := (.s none .z (.s none (.s (some ⟨1, [(2, .junk), (12, (.atm (.v 0)))], [], 0, []⟩) .z .z) (.s none (.s none .z (.b (.l ⟨1, [(12, .junk), (13, .junk), (15, (.atm (.v 0)))], [], 0, []⟩ (.s none .z (.s none .z (.s (some ⟨0, [(16, .junk)], [], 0, []⟩) (.b (.s none .z (.s none .z (.b (.s (some ⟨1, [(16, .junk), (17, .junk), (18, .junk), (19, .junk), (20, .junk), (21, (.atm (.v 0)))], [], 0, []⟩) .z (.c .z (.s (some ⟨1, [(3, .junk), (4, .junk), (21, .junk), (28, (.atm (.v 0)))], [], 0, []⟩) .z .z))))))) .z)))))) .z)))
def ir82p0 : IR :=
 (.op (.bin .add false) [(.v 3), (.c (.int .i64 1))]
 (.jump 0 [(.v 5)]))
def ir82p1 : IR :=
 (.ite (.v 7)
  (.jump 1 [])
 (.ret [(.c (.bool false))]))
def ir82p2 : IR :=
 (.ite (.v 6)
  (.jump 1 [])
 (.letj 1
  (.op (.bin .gtr false) [(.v 3), (.c (.int .i64 0))]
  (.ite (.v 7)
   (.op (.bin .geq false) [(.v 5), (.c (.int .u8 48))]
   (.ite (.v 8)
    (.op (.bin .leq false) [(.v 5), (.c (.int .u8 57))]
    (.ite (.v 9)
     (.jump 2 [(.c (.bool true))])
    (.op (.bin .eql false) [(.v 5), (.c (.int .u8 95))]
    (.jump 2 [(.v 10)]))))
   (.op (.bin .eql false) [(.v 5), (.c (.int .u8 95))]
   (.jump 2 [(.v 9)]))))
  (.jump 2 [(.c (.bool false))])))
 ir82p1))
def ir82p3 : IR :=
 (.op (.bin .lss false) [(.v 3), (.v 2)]
 (.ite (.v 4)
  (.letj 0
   (.op .idxS [(.v 0), (.v 3)]
   (.letj 1
    (.op (.bin .geq false) [(.v 5), (.c (.int .u8 97))]
    (.ite (.v 6)
     (.op (.bin .leq false) [(.v 5), (.c (.int .u8 122))]
     (.jump 2 [(.v 7)]))
    (.jump 2 [(.c (.bool false))])))
   ir82p2))
  ir82p0)
 (.ret [(.c (.bool true))])))
def ir82p4 : IR :=
 (.ite (.v 1)
  (.ret [(.c (.bool false))])
 (.op .lenS [(.v 0)]
 (.loop 1 [(.c (.int .i64 0))] ir82p3)))
def ir82 : IR :=
 (.letj 1
  (.op .lenS [(.v 0)]
  (.op (.bin .eql false) [(.v 1), (.c (.int .i64 0))]
  (.ite (.v 2)
   (.jump 0 [(.c (.bool true))])
  (.op .lenS [(.v 0)]
  (.op (.bin .gtr false) [(.v 3), (.c (.int .i64 12))]
  (.jump 0 [(.v 4)]))))))
 ir82p4)
theorem rd82 : readFn T SG sigs 3000 sg82 Tryz.f147 an82 = some ir82 := by kernel_rfl
def an83 : Ann := (.s none .z (.s none (.s none .z (.b (.l ⟨1, [(4, .junk), (6, .junk), (8, (.atm (.v 0)))], [], 0, []⟩ .z))) .z))
def ir83p0 : IR :=
 (.op (.bin .lss false) [(.v 3), (.v 2)]
 (.ite (.v 4)
  (.op (.row 1) [(.v 0), (.v 3)]
  (.op (.bin .eql true) [(.v 1), (.v 5)]
  (.ite (.v 6)
   (.ret [(.v 3)])
  (.op (.bin .add false) [(.v 3), (.c (.int .i64 1))]
  (.jump 0 [(.v 7)])))))
 (.ret [(.c (.int .i64 (-1)))])))
def ir83 : IR :=
 (.op .lenL [(.v 0)]
 (.loop 1 [(.c (.int .i64 0))] ir83p0))
theorem rd83 : readFn T SG sigs 3000 sg83 Tryz.f169 an83 = some ir83 := by kernel_rfl
def an84 : Ann := (.s none .z (.s none .z (.s none (.s none .z (.b (.l ⟨2, [(0, .junk), (1, .junk), (2, .junk), (3, (.atm (.v 0))), (6, .junk), (9, (.atm (.v 1)))], [], 1, []⟩ .z))) .z)))
def ir84p0 : IR :=
 (.op (.bin .lss false) [(.v 5), (.v 3)]
 (.ite (.v 6)
  (.op (.row 3) [(.v 2), (.v 5)]
  (.call 84 1 false [] [(.v 7), (.v 8), (.v 9)]
  (.op (.bin .add false) [(.v 4), (.v 10)]
  (.op (.bin .add false) [(.v 5), (.c (.int .i64 1))]
  (.jump 0 [(.v 11), (.v 12)])))))
 (.ret [(.v 4)])))
def ir84 : IR :=
 (.op .lenL [(.v 2)]
 (.loop 2 [(.c (.int .i64 1)), (.c (.int .i64 0))] ir84p0))
theorem rd84 : readFn T SG sigs 3000 sg84 Tryz.f153 an84 = some ir84 := by kernel_rfl
def an85 : Ann := (.s none .z (.s none .z (.s none (.s none .z (.b (.l ⟨2, [(0, .junk), (1, .junk), (2, .junk), (3, (.atm (.v 0))), (6, .junk), (9, (.atm (.v 1)))], [], 1, []⟩ .z))) .z)))
def ir85p0 : IR :=
 (.op (.bin .lss false) [(.v 5), (.v 3)]
 (.ite (.v 6)
  (.op (.row 3) [(.v 2), (.v 5)]
  (.call 85 1 false [] [(.v 7), (.v 8), (.v 9)]
  (.op (.bin .add false) [(.c (.int .i64 1)), (.v 10)]
  (.op .max [(.v 4), (.v 11)]
  (.op (.bin .add false) [(.v 5), (.c (.int .i64 1))]
  (.jump 0 [(.v 12), (.v 13)]))))))
 (.ret [(.v 4)])))
def ir85 : IR :=
 (.op .lenL [(.v 2)]
 (.loop 2 [(.c (.int .i64 0)), (.c (.int .i64 0))] ir85p0))
theorem rd85 : readFn T SG sigs 3000 sg85 Tryz.f154 an85 = some ir85 := by kernel_rfl
def an86 : Ann := (.s none .z (.s none .z (.s none (.s none .z (.b (.l ⟨1, [(0, .junk), (2, .junk), (4, .junk), (7, .junk), (8, .junk), (9, .junk), (10, .junk), (11, .junk), (14, (.atm (.v 0)))], [], 1, []⟩ .z))) .z)))
def ir86p0 : IR :=
 (.op (.bin .lss false) [(.v 6), (.v 5)]
 (.ite (.v 7)
  (.op (.row 3) [(.v 2), (.v 6)]
  (.call 86 1 false [] [(.v 8), (.v 9), (.v 10)]
  (.op (.un .not) [(.v 11)]
  (.ite (.v 12)
   (.ret [(.c (.bool false))])
  (.op (.bin .add false) [(.v 6), (.c (.int .i64 1))]
  (.jump 0 [(.v 13)]))))))
 (.ret [(.c (.bool true))])))
def ir86 : IR :=
 (.call 101 1 false [] [(.v 0), (.v 1), (.v 2)]
 (.op (.un .not) [(.v 3)]
 (.ite (.v 4)
  (.ret [(.c (.bool false))])
 (.op .lenL [(.v 2)]
 (.loop 1 [(.c (.int .i64 0))] ir86p0)))))
theorem rd86 : readFn T SG sigs 3000 sg86 Tryz.f155 an86 = some ir86 := by kernel_rfl
def an87 : Ann := (.s none .z (.s none .z (.s none (.s none .z (.b (.l ⟨1, [(0, .junk), (2, .junk), (4, .junk), (7, .junk), (8, .junk), (9, .junk), (10, .junk), (11, .junk), (14, (.atm (.v 0)))], [], 1, []⟩ .z))) .z)))
def ir87p0 : IR :=
 (.op (.bin .lss false) [(.v 6), (.v 5)]
 (.ite (.v 7)
  (.op (.row 3) [(.v 2), (.v 6)]
  (.call 87 1 false [] [(.v 8), (.v 9), (.v 10)]
  (.op (.un .not) [(.v 11)]
  (.ite (.v 12)
   (.ret [(.c (.bool false))])
  (.op (.bin .add false) [(.v 6), (.c (.int .i64 1))]
  (.jump 0 [(.v 13)]))))))
 (.ret [(.c (.bool true))])))
def ir87 : IR :=
 (.call 102 1 false [] [(.v 0), (.v 1), (.v 2)]
 (.op (.un .not) [(.v 3)]
 (.ite (.v 4)
  (.ret [(.c (.bool false))])
 (.op .lenL [(.v 2)]
 (.loop 1 [(.c (.int .i64 0))] ir87p0)))))
theorem rd87 : readFn T SG sigs 3000 sg87 Tryz.f155 an87 = some ir87 := by kernel_rfl
def an88 : Ann := (.s none .z (.s none (.s none .z (.b (.l ⟨1, [(4, .junk), (6, .junk), (8, (.atm (.v 0)))], [], 0, []⟩ .z))) .z))
def ir88p0 : IR :=
 (.op (.bin .lss false) [(.v 3), (.v 2)]
 (.ite (.v 4)
  (.op (.row 1) [(.v 0), (.v 3)]
  (.op (.bin .eql false) [(.v 1), (.v 5)]
  (.ite (.v 6)
   (.ret [(.v 3)])
  (.op (.bin .add false) [(.v 3), (.c (.int .i64 1))]
  (.jump 0 [(.v 7)])))))
 (.ret [(.c (.int .i64 (-1)))])))
def ir88 : IR :=
 (.op .lenL [(.v 0)]
 (.loop 1 [(.c (.int .i64 0))] ir88p0))
theorem rd88 : readFn T SG sigs 3000 sg88 Tryz.f161 an88 = some ir88 := by kernel_rfl
def an89 : Ann := (.s none .z (.s none .z (.s none (.s none .z (.b (.l ⟨2, [(2, .junk), (3, (.atm (.v 0))), (5, (.atm (.v 1)))], [], 0, []⟩ .z))) .z)))
def ir89p0 : IR :=
 (.op (.bin .lss false) [(.v 2), (.c (.int .i64 64))]
 (.ite (.v 3)
  (.op (.bin .shr false) [(.v 2), (.v 0)]
  (.op (.bin .and false) [(.v 4), (.c (.int .i64 1))]
  (.op (.conv .u64) [(.v 5)]
  (.op (.bin .shl false) [(.v 6), (.v 2)]
  (.op (.bin .or false) [(.v 1), (.v 7)]
  (.op (.bin .add false) [(.v 2), (.c (.int .i64 1))]
  (.jump 0 [(.v 8), (.v 9)])))))))
 (.ret [(.v 1)])))
def ir89 : IR :=
 (.loop 2 [(.c (.int .u64 0)), (.c (.int .i64 0))] ir89p0)
theorem rd89 : readFn T SG sigs 3000 sg89 Tryz.f162 an89 = some ir89 := by kernel_rfl
def an90 : Ann := .z
def ir90 : IR :=
 (.op (.bin .shl false) [(.c (.int .u64 1)), (.v 0)]
 (.op (.bin .sub false) [(.c (.int .u64 64)), (.v 1)]
 (.op (.bin .shr false) [(.c (.int .u64 18446744073709551615)), (.v 2)]
 (.ret [(.v 3)]))))
theorem rd90 : readFn T SG sigs 3000 sg90 Tryz.f135 an90 = some ir90 := by kernel_rfl
def an91 : Ann := (.s none .z (.s none .z (.s none .z (.s none (.s none .z (.b (.l ⟨2, [(2, .junk), (3, (.atm (.v 0))), (4, (.atm (.v 1))), (5, .junk), (6, .junk), (7, .junk), (9, .junk), (10, .junk), (11, .junk)], [], 0, []⟩ .z))) .z))))
def ir91p0 : IR :=
 (.op .lenL [(.v 0)]
 (.op (.bin .lss false) [(.v 5), (.v 6)]
 (.ite (.v 7)
  (.op (.row 1) [(.v 0), (.v 5)]
  (.op .max [(.v 4), (.v 8)]
  (.op (.bin .add false) [(.v 5), (.c (.int .i64 1))]
  (.jump 0 [(.v 9), (.v 10)]))))
 (.ret [(.v 4)]))))
def ir91 : IR :=
 (.op .lenL [(.v 0)]
 (.op (.bin .lss false) [(.v 1), (.c (.int .i64 1))]
 (.ite (.v 2)
  .fail
 (.op (.row 1) [(.v 0), (.c (.int .i64 0))]
 (.loop 2 [(.v 3), (.c (.int .i64 1))] ir91p0)))))
theorem rd91 : readFn T SG sigs 3000 sg91 Tryz.f92 an91 = some ir91 := by kernel_rfl
def an92 : Ann := (.s none .z (.s none .z (.s none (.b (.l ⟨1, [(4, .junk), (5, (.atm (.v 0)))], [], 0, []⟩ (.s none (.s (some ⟨1, [(18, (.atm (.v 0)))], [], 0, []⟩) .z .z) .z))) (.s none (.s (some ⟨1, [(18, .junk), (32, (.atm (.v 0)))], [], 0, []⟩) .z .z) .z))))
def ir92p0 : IR :=
 (.ite (.v 4)
  (.ret [(.v 0)])
 (.op (.subL 1) [(.v 0), (.c (.int .i64 0)), (.v 2)]
 (.op (.app 1 16) [(.c (.sl [])), (.v 5)]
 (.op (.mk 1 1) [(.v 1)]
 (.op (.app 1 16) [(.v 6), (.v 7)]
 (.op .lenL [(.v 0)]
 (.op (.subL 1) [(.v 0), (.v 2), (.v 9)]
 (.op (.app 1 16) [(.v 8), (.v 10)]
 (.ret [(.v 11)])))))))))
def ir92p1 : IR :=
 (.ite (.v 3)
  (.op (.bin .add false) [(.v 2), (.c (.int .i64 1))]
  (.jump 0 [(.v 4)]))
 (.letj 1
  (.op .lenL [(.v 0)]
  (.op (.bin .lss false) [(.v 2), (.v 4)]
  (.ite (.v 5)
   (.op (.row 1) [(.v 0), (.v 2)]
   (.op (.bin .eql false) [(.v 6), (.v 1)]
   (.jump 1 [(.v 7)])))
  (.jump 1 [(.c (.bool false))]))))
 ir92p0))
def ir92p2 : IR :=
 (.letj 1
  (.op .lenL [(.v 0)]
  (.op (.bin .lss false) [(.v 2), (.v 3)]
  (.ite (.v 4)
   (.op (.row 1) [(.v 0), (.v 2)]
   (.op (.bin .lss false) [(.v 5), (.v 1)]
   (.jump 1 [(.v 6)])))
  (.jump 1 [(.c (.bool false))]))))
 ir92p1)
def ir92 : IR :=
 (.loop 1 [(.c (.int .i64 0))] ir92p2)
theorem rd92 : readFn T SG sigs 3000 sg92 Tryz.f168 an92 = some ir92 := by kernel_rfl
def an94 : Ann := .z
def ir94 : IR :=
 (.call 103 2 false [0] [(.v 0)]
 (.call 104 1 false [0] [(.v 1)]
 (.ret [(.v 3), (.v 2)])))
theorem rd94 : readFn T SG sigs 3000 sg94 Tryz.f125 an94 = some ir94 := by kernel_rfl
def an97 : Ann := (.s none .z (.s none .z (.s none .z (.s none (.b (.l ⟨2, [(4, .junk), (5, .junk), (7, (.atm (.v 0))), (8, (.atm (.v 1))), (10, .junk), (11, .junk), (12, .junk)], [], 0, []⟩ .z)) .z))))
def ir97p0 : IR :=
 (.op (.bin .lss false) [(.v 3), (.v 4)]
 (.ite (.v 5)
  (.op (.bin .add false) [(.v 3), (.v 4)]
  (.op (.conv .u64) [(.v 6)]
  (.op (.bin .shr false) [(.v 7), (.c (.int .u64 1))]
  (.op (.conv .i64) [(.v 8)]
  (.op (.row 1) [(.v 0), (.v 9)]
  (.call 105 1 false [] [(.v 10), (.v 1)]
  (.ite (.v 11)
   (.op (.bin .add false) [(.v 9), (.c (.int .i64 1))]
   (.jump 0 [(.v 12), (.v 4)]))
  (.jump 0 [(.v 3), (.v 9)]))))))))
 (.op (.bin .lss false) [(.v 3), (.v 2)]
 (.ite (.v 6)
  (.op (.row 1) [(.v 0), (.v 3)]
  (.op (.bin .eql false) [(.v 7), (.v 1)]
  (.ite (.v 8)
   (.ret [(.v 3), (.c (.bool true))])
  (.op (.row 1) [(.v 0), (.v 3)]
  (.call 106 1 false [] [(.v 9)]
  (.ite (.v 10)
   (.call 106 1 false [] [(.v 1)]
   (.ret [(.v 3), (.v 11)]))
  (.ret [(.v 3), (.c (.bool false))])))))))
 (.ret [(.v 3), (.c (.bool false))])))))
def ir97 : IR :=
 (.op .lenL [(.v 0)]
 (.loop 2 [(.c (.int .i64 0)), (.v 2)] ir97p0))
theorem rd97 : readFn T SG sigs 3000 sg97 Tryz.f128 an97 = some ir97 := by kernel_rfl
def an98 : Ann := (.s none .z (.s none .z (.s none (.s none .z (.b (.l ⟨2, [(6, .junk), (7, (.atm (.v 0))), (8, (.atm (.v 1)))], [], 0, []⟩ (.s none .z (.s (some ⟨1, [(7, (.atm (.v 0))), (9, .junk), (10, .junk), (11, .junk), (12, .junk)], [], 0, []⟩) (.b (.s (some ⟨1, [(9, .junk), (10, .junk), (11, .junk), (12, .junk), (23, (.atm (.v 0)))], [], 0, []⟩) .z .z)) .z))))) .z)))
def ir98p0 : IR :=
 (.op (.bin .add false) [(.v 4), (.c (.int .i64 1))]
 (.jump 0 [(.v 7), (.v 8)]))
def ir98p1 : IR :=
 (.ite (.v 7)
  (.op (.bin .shr false) [(.v 4), (.c (.int .u64 1))]
  (.op (.conv .u64) [(.v 8)]
  (.op (.bin .shl false) [(.c (.int .u64 1)), (.v 9)]
  (.op (.bin .or false) [(.v 3), (.v 10)]
  (.jump 1 [(.v 11)])))))
 (.jump 1 [(.v 3)]))
def ir98p2 : IR :=
 (.call 48 1 false [] [(.v 0)]
 (.op (.bin .lss false) [(.v 4), (.v 5)]
 (.ite (.v 6)
  (.letj 1
   (.letj 1
    (.call 107 1 false [] [(.v 1), (.v 4)]
    (.ite (.v 7)
     (.op (.bin .and false) [(.v 4), (.c (.int .i64 1))]
     (.op (.bin .eql false) [(.v 8), (.v 2)]
     (.jump 2 [(.v 9)])))
    (.jump 2 [(.c (.bool false))])))
   ir98p1)
  ir98p0)
 (.ret [(.v 3)]))))
def ir98 : IR :=
 (.loop 2 [(.c (.int .u64 0)), (.c (.int .i64 0))] ir98p2)
theorem rd98 : readFn T SG sigs 3000 sg98 Tryz.f150 an98 = some ir98 := by kernel_rfl
def an99 : Ann := (.s none .z (.s none (.s (some ⟨1, [(0, .junk), (1, .junk), (4, .junk), (26, (.atm (.v 0)))], [], 2, []⟩) .z .z) (.s none (.s none .z (.b (.l ⟨1, [(5, (.atm (.v 0))), (26, .junk)], [], 2, []⟩ .z))) .z)))
def ir99p0 : IR :=
 (.op .lenL [(.v 2)]
 (.op (.bin .lss false) [(.v 7), (.v 8)]
 (.ite (.v 9)
  (.op (.row 3) [(.v 2), (.v 7)]
  (.op (.row 3) [(.v 5), (.v 7)]
  (.call 99 1 false [] [(.v 10), (.v 11), (.v 12), (.v 13), (.v 14), (.v 15)]
  (.op (.un .not) [(.v 16)]
  (.ite (.v 17)
   (.ret [(.c (.bool false))])
  (.op (.bin .add false) [(.v 7), (.c (.int .i64 1))]
  (.jump 0 [(.v 18)])))))))
 (.ret [(.c (.bool true))]))))
def ir99p1 : IR :=
 (.ite (.v 6)
  (.ret [(.c (.bool false))])
 (.loop 1 [(.c (.int .i64 0))] ir99p0))
def ir99 : IR :=
 (.letj 1
  (.op (.bin .neq false) [(.v 0), (.v 3)]
  (.ite (.v 6)
   (.jump 0 [(.c (.bool true))])
  (.op (.bin .neq false) [(.v 1), (.v 4)]
  (.ite (.v 7)
   (.jump 0 [(.c (.bool true))])
  (.op .lenL [(.v 2)]
  (.op .lenL [(.v 5)]
  (.op (.bin .neq false) [(.v 8), (.v 9)]
  (.jump 0 [(.v 10)]))))))))
 ir99p1)
theorem rd99 : readFn T SG sigs 3000 sg99 Tryz.f151 an99 = some ir99 := by kernel_rfl
def an100 : Ann := .z
def ir100 : IR :=
 (.op (.mk 3 2) [(.v 1), (.v 2), (.v 3), (.v 4), (.v 5), (.v 6)]
 (.ret [(.v 0), (.c (.str [])), (.v 7)]))
theorem rd100 : readFn T SG sigs 3000 sg100 Tryz.f152 an100 = some ir100 := by kernel_rfl
def an101 : Ann := (.s none .z (.s none .z (.s none (.s none .z (.b (.s (some ⟨1, [(0, .junk), (1, .junk), (2, .junk), (4, .junk), (5, .junk), (6, .junk), (7, .junk), (9, (.atm (.v 0)))], [], 1, []⟩) .z (.c .z (.s none .z (.c .z (.s (some ⟨1, [(9, .junk), (15, .junk), (16, .junk), (19, (.atm (.v 0)))], [], 1, []⟩) .z (.c .z (.s (some ⟨1, [(8, .junk), (19, .junk), (28, (.atm (.v 0)))], [], 1, []⟩) .z .z))))))))) .z)))
def ir101p0 : IR :=
 (.ite (.v 7)
  (.op (.bin .eql false) [(.v 3), (.c (.int .i64 2))]
  (.ret [(.v 8)]))
 (.ret [(.c (.bool false))]))
def ir101p1 : IR :=
 (.ite (.v 6)
  (.op (.bin .geq false) [(.v 3), (.c (.int .i64 2))]
  (.ite (.v 7)
   (.op (.bin .leq false) [(.v 3), (.c (.int .i64 6))]
   (.ret [(.v 8)]))
  (.ret [(.c (.bool false))])))
 (.letj 1
  (.op (.bin .eql false) [(.v 0), (.c (.int .i64 7))]
  (.ite (.v 7)
   (.jump 0 [(.c (.bool true))])
  (.op (.bin .eql false) [(.v 0), (.c (.int .i64 8))]
  (.jump 0 [(.v 8)]))))
 ir101p0))
def ir101p2 : IR :=
 (.ite (.v 4)
  (.op (.bin .eql false) [(.v 3), (.c (.int .i64 0))]
  (.ret [(.v 5)]))
 (.op (.bin .eql false) [(.v 0), (.c (.int .i64 4))]
 (.ite (.v 5)
  (.op (.bin .eql false) [(.v 3), (.c (.int .i64 1))]
  (.ret [(.v 6)]))
 (.letj 1
  (.op (.bin .eql false) [(.v 0), (.c (.int .i64 5))]
  (.ite (.v 6)
   (.jump 0 [(.c (.bool true))])
  (.op (.bin .eql false) [(.v 0), (.c (.int .i64 6))]
  (.jump 0 [(.v 7)]))))
 ir101p1))))
def ir101 : IR :=
 (.op .lenL [(.v 2)]
 (.letj 1
  (.op (.bin .eql false) [(.v 0), (.c (.int .i64 1))]
  (.ite (.v 4)
   (.jump 0 [(.c (.bool true))])
  (.op (.bin .eql false) [(.v 0), (.c (.int .i64 2))]
  (.ite (.v 5)
   (.jump 0 [(.c (.bool true))])
  (.op (.bin .eql false) [(.v 0), (.c (.int .i64 3))]
  (.jump 0 [(.v 6)]))))))
 ir101p2))
theorem rd101 : readFn T SG sigs 3000 sg101 Tryz.f156 an101 = some ir101 := by kernel_rfl
def an102 : Ann := .z
def ir102 : IR :=
 (.op (.bin .eql false) [(.v 0), (.c (.int .i64 3))]
 (.ite (.v 3)
  (.call 82 1 false [] [(.v 1)]
  (.ret [(.v 4)]))
 (.op (.bin .eql false) [(.v 1), (.c (.str []))]
 (.ret [(.v 4)]))))
theorem rd102 : readFn T SG sigs 3000 sg102 Tryz.f157 an102 = some ir102 := by kernel_rfl
def an105 : Ann := .z
def ir105 : IR :=
 (.call 67 1 false [] [(.v 0)]
 (.ite (.v 2)
  (.call 67 1 false [] [(.v 1)]
  (.op (.un .not) [(.v 3)]
  (.ite (.v 4)
   (.ret [(.c (.bool true))])
  (.op (.bin .lss false) [(.v 0), (.v 1)]
  (.ret [(.v 5)])))))
 (.op (.bin .lss false) [(.v 0), (.v 1)]
 (.ret [(.v 3)]))))
theorem rd105 : readFn T SG sigs 3000 sg105 Tryz.f166 an105 = some ir105 := by kernel_rfl
def an106 : Ann := .z
def ir106 : IR :=
 (.op (.bin .neq false) [(.v 0), (.v 0)]
 (.ret [(.v 1)]))
theorem rd106 : readFn T SG sigs 3000 sg106 Tryz.f167 an106 = some ir106 := by kernel_rfl
def an107 : Ann := .z
def ir107 : IR :=
 (.op (.conv .u64) [(.v 1)]
 (.op (.bin .shr false) [(.v 0), (.v 2)]
 (.op (.bin .and false) [(.v 3), (.c (.int .u64 1))]
 (.op (.bin .eql false) [(.v 4), (.c (.int .u64 1))]
 (.ret [(.v 5)])))))
theorem rd107 : readFn T SG sigs 3000 sg107 Tryz.f173 an107 = some ir107 := by kernel_rfl
end Go.Proofs.YtojkhlijbpmgpaaGreat

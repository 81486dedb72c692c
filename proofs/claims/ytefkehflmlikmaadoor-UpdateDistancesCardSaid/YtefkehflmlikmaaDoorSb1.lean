/- Plain programs of the functions of the program and lemmas about what they compute. -/
import Derived.Test.YtefkehflmlikmaaDoorAmSe21
import Derived.Test.YtefkehflmlikmaaDoorProg
import Derived.KernelRfl
set_option linter.unusedSimpArgs false
set_option linter.unusedVariables false
set_option linter.unusedSectionVars false
namespace Go.Proofs.YtefkehflmlikmaaDoor
open Go Am
set_option maxRecDepth 100000
abbrev fnD (f : Nat) : D := .raw (.func (.func f) #[] #[])
def T : Tab := [
 (3, ⟨1, 8, true, true, false, none, none, (some .i64), false, false, (some (.int .i64 0)), [], none⟩),
 (4, ⟨1, 1, true, true, false, none, none, none, false, true, (some (.bool false)), [], none⟩),
 (5, ⟨1, 1, true, true, false, none, none, (some .u8), false, false, (some (.int .u8 0)), [], none⟩),
 (9, ⟨1, 16, true, true, false, none, none, none, true, false, (some (.string ⟨⟨[]⟩⟩)), [], none⟩),
 (22, ⟨1, 24, true, true, false, (some 3), none, none, false, false, (some (.slice none 0 0)), [], none⟩),
 (23, ⟨1, 8, true, true, false, none, none, none, false, false, (some (.pointer none)), [], none⟩),
 (26, ⟨1, 24, true, true, false, (some 9), none, none, false, false, (some (.slice none 0 0)), [], none⟩),
 (28, ⟨1, 8, true, true, false, none, none, (some .u64), false, false, (some (.int .u64 0)), [], none⟩),
 (31, ⟨1, 24, true, true, false, (some 33), none, none, false, false, (some (.slice none 0 0)), [], none⟩),
 (33, ⟨3, 48, true, true, true, none, none, none, false, false, (some (.agg #[(.int .i64 0), (.string ⟨⟨[]⟩⟩), (.slice none 0 0)])), [(0, 3), (1, 9), (2, 31)], (some [(0, 1), (1, 1), (2, 1)])⟩),
 (35, ⟨1, 8, true, true, false, none, none, (some .i64), false, false, (some (.int .i64 0)), [], none⟩),
 (42, ⟨1, 8, true, true, false, none, none, (some .u64), false, false, (some (.int .u64 0)), [], none⟩),
 (67, ⟨2, 32, true, true, true, none, none, none, false, false, (some (.agg #[(.slice none 0 0), (.int .i64 0)])), [(0, 22), (1, 3)], (some [(0, 1), (1, 1)])⟩),
 (68, ⟨1, 24, true, true, false, (some 5), none, none, false, false, (some (.slice none 0 0)), [], none⟩),
 (77, ⟨1, 8, true, true, false, none, none, none, false, false, (some .nilFunc), [], none⟩),
 (91, ⟨1, 8, true, true, false, none, none, none, false, false, (some .nilFunc), [], none⟩),
 (121, ⟨64, 64, true, true, true, none, (some (64, 5)), none, false, false, (some (.agg #[(.int .u8 0), (.int .u8 0), (.int .u8 0), (.int .u8 0), (.int .u8 0), (.int .u8 0), (.int .u8 0), (.int .u8 0), (.int .u8 0), (.int .u8 0), (.int .u8 0), (.int .u8 0), (.int .u8 0), (.int .u8 0), (.int .u8 0), (.int .u8 0), (.int .u8 0), (.int .u8 0), (.int .u8 0), (.int .u8 0), (.int .u8 0), (.int .u8 0), (.int .u8 0), (.int .u8 0), (.int .u8 0), (.int .u8 0), (.int .u8 0), (.int .u8 0), (.int .u8 0), (.int .u8 0), (.int .u8 0), (.int .u8 0), (.int .u8 0), (.int .u8 0), (.int .u8 0), (.int .u8 0), (.int .u8 0), (.int .u8 0), (.int .u8 0), (.int .u8 0), (.int .u8 0), (.int .u8 0), (.int .u8 0), (.int .u8 0), (.int .u8 0), (.int .u8 0), (.int .u8 0), (.int .u8 0), (.int .u8 0), (.int .u8 0), (.int .u8 0), (.int .u8 0), (.int .u8 0), (.int .u8 0), (.int .u8 0), (.int .u8 0), (.int .u8 0), (.int .u8 0), (.int .u8 0), (.int .u8 0), (.int .u8 0), (.int .u8 0), (.int .u8 0), (.int .u8 0)])), [], none⟩)]
theorem tok : TOK Tryd.prog T := tok_of (by kernel_rfl)
def SG : SGlob := []
def sg0 : Sig := ⟨3, 1, [], [(.atm (.v 0))], 1, [], (.atm (.v 0)), false, []⟩
def sg1 : Sig := ⟨4, 1, [], [(.atm (.v 0))], 1, [], (.atm (.v 0)), false, []⟩
def sg2 : Sig := ⟨5, 1, [], [(.atm (.v 0))], 1, [], (.atm (.v 0)), false, []⟩
def sg3 : Sig := ⟨6, 4, [], [(.atm (.v 0)), (.atm (.v 1)), (.atm (.v 2)), (.atm (.v 3))], 1, [], (.atm (.v 0)), false, []⟩
def sg4 : Sig := ⟨13, 1, [], [(.atm (.v 0))], 2, [⟨false, false, 67, 2, (.c (.sl [])), [[(.atm (.v 0)), (.atm (.v 1))]]⟩], (.ptr 0 0 0), false, []⟩
def sg5 : Sig := ⟨14, 4, [⟨false, false, 67, 2, (.c (.sl [])), [[(.atm (.v 2)), (.atm (.v 3))]]⟩], [(.ptr 0 0 0), (.atm (.v 0)), (.atm (.v 1))], 3, [⟨false, false, 67, 2, (.c (.sl [])), [[(.atm (.v 1)), (.atm (.v 2))]]⟩], (.atm (.v 0)), false, []⟩
def sg6 : Sig := ⟨15, 1, [], [(.atm (.v 0))], 1, [], (.atm (.v 0)), true, []⟩
def sg7 : Sig := ⟨16, 1, [], [(.atm (.v 0))], 1, [], (.atm (.v 0)), false, []⟩
def sg8 : Sig := ⟨17, 2, [⟨false, false, 67, 2, (.c (.sl [])), [[(.atm (.v 0)), (.atm (.v 1))]]⟩], [(.ptr 0 0 0)], 3, [⟨false, false, 67, 2, (.c (.sl [])), [[(.atm (.v 1)), (.atm (.v 2))]]⟩], (.atm (.v 0)), false, []⟩
def sg9 : Sig := ⟨18, 4, [⟨false, false, 67, 2, (.c (.sl [])), [[(.atm (.v 2)), (.atm (.v 3))]]⟩], [(.ptr 0 0 0), (.atm (.v 0)), (.atm (.v 1))], 5, [⟨false, false, 67, 2, (.c (.sl [])), [[(.atm (.v 3)), (.atm (.v 4))]]⟩], (.agg [(.atm (.v 0)), (.atm (.v 1)), (.atm (.v 2))]), true, []⟩
def sg10 : Sig := ⟨19, 4, [], [(.atm (.v 0)), (.agg [(.atm (.v 1)), (.atm (.v 2)), (.atm (.v 3))])], 2, [], (.tup [(.atm (.v 0)), (.atm (.v 1))]), false, []⟩
def sg11 : Sig := ⟨20, 6, [], [(.atm (.v 0)), (.atm (.v 1)), (.agg [(.atm (.v 2)), (.atm (.v 3)), (.atm (.v 4))]), (.atm (.v 5))], 2, [], (.tup [(.atm (.v 0)), (.atm (.v 1))]), false, []⟩
def sg12 : Sig := ⟨21, 2, [], [(.atm (.v 0)), (.atm (.v 1))], 3, [], (.agg [(.atm (.v 0)), (.atm (.v 1)), (.atm (.v 2))]), true, []⟩
def sg13 : Sig := ⟨22, 0, [], [], 1, [], (.atm (.v 0)), false, []⟩
def sg14 : Sig := ⟨23, 3, [⟨false, false, 67, 2, (.c (.sl [])), [[(.atm (.v 1)), (.atm (.v 2))]]⟩], [(.ptr 0 0 0), (.atm (.v 0))], 3, [⟨false, false, 67, 2, (.c (.sl [])), [[(.atm (.v 1)), (.atm (.v 2))]]⟩], (.atm (.v 0)), false, []⟩
def sg15 : Sig := ⟨24, 6, [], [(.atm (.v 0)), (.atm (.v 1)), (.agg [(.atm (.v 2)), (.atm (.v 3)), (.atm (.v 4))]), (.atm (.v 5))], 2, [], (.tup [(.atm (.v 0)), (.atm (.v 1))]), false, []⟩
def sg16 : Sig := ⟨25, 4, [], [(.atm (.v 0)), (.atm (.v 1)), (.atm (.v 2)), (.atm (.v 3))], 2, [], (.tup [(.atm (.v 0)), (.atm (.v 1))]), false, []⟩
def sg17 : Sig := ⟨26, 2, [], [(.atm (.v 0)), (.atm (.v 1))], 1, [], (.atm (.v 0)), false, []⟩
def sg18 : Sig := ⟨42, 1, [], [(.atm (.v 0))], 1, [], (.atm (.v 0)), false, []⟩
def sg19 : Sig := ⟨48, 1, [], [(.atm (.v 0))], 1, [], (.atm (.v 0)), false, []⟩
def sg20 : Sig := ⟨49, 2, [⟨false, false, 67, 2, (.c (.sl [])), [[(.atm (.v 0)), (.atm (.v 1))]]⟩], [(.ptr 0 0 0)], 3, [⟨false, false, 67, 2, (.c (.sl [])), [[(.atm (.v 1)), (.atm (.v 2))]]⟩], (.atm (.v 0)), false, []⟩
def sg21 : Sig := ⟨50, 3, [], [(.agg [(.atm (.v 0)), (.atm (.v 1)), (.atm (.v 2))])], 1, [], (.atm (.v 0)), false, []⟩
def sg22 : Sig := ⟨51, 3, [], [(.agg [(.atm (.v 0)), (.atm (.v 1)), (.atm (.v 2))])], 1, [], (.atm (.v 0)), true, []⟩
def sg23 : Sig := ⟨52, 2, [], [(.atm (.v 0)), (.atm (.v 1))], 1, [], (.atm (.v 0)), false, []⟩
def sg24 : Sig := ⟨54, 2, [], [(.atm (.v 0)), (.atm (.v 1))], 1, [], (.atm (.v 0)), true, []⟩
def sg25 : Sig := ⟨53, 4, [], [(.agg [(.atm (.v 0)), (.atm (.v 1)), (.atm (.v 2))]), (.atm (.v 3))], 1, [], (.atm (.v 0)), false, []⟩
def sg26 : Sig := ⟨55, 5, [], [(.atm (.v 0)), (.agg [(.atm (.v 1)), (.atm (.v 2)), (.atm (.v 3))]), (.atm (.v 4))], 2, [], (.tup [(.atm (.v 0)), (.atm (.v 1))]), false, []⟩
def sg27 : Sig := ⟨56, 4, [], [(.atm (.v 0)), (.atm (.v 1)), (.atm (.v 2)), (.atm (.v 3))], 1, [], (.atm (.v 0)), false, []⟩
def sg28 : Sig := ⟨30, 2, [], [(.atm (.v 0)), (.atm (.v 1))], 4, [], (.tup [(.agg [(.atm (.v 0)), (.atm (.v 1)), (.atm (.v 2))]), (.atm (.v 3))]), true, []⟩
def sg29 : Sig := ⟨57, 2, [], [(.atm (.v 0)), (.atm (.v 1))], 1, [], (.atm (.v 0)), false, []⟩
def sg30 : Sig := ⟨34, 1, [], [(.atm (.v 0))], 1, [], (.atm (.v 0)), false, []⟩
def sg31 : Sig := ⟨41, 1, [], [(.atm (.v 0))], 1, [], (.atm (.v 0)), false, []⟩
def sg32 : Sig := ⟨58, 1, [], [(.atm (.v 0))], 2, [], (.tup [(.atm (.v 0)), (.atm (.v 1))]), false, []⟩
def sg33 : Sig := ⟨59, 4, [], [(.atm (.v 0)), (.atm (.v 1)), (.atm (.v 2)), (.atm (.v 3))], 1, [], (.atm (.v 0)), false, []⟩
def sg34 : Sig := ⟨61, 2, [], [(.atm (.v 0)), (.atm (.v 1))], 1, [], (.atm (.v 0)), false, []⟩
def sg35 : Sig := ⟨60, 1, [], [(.atm (.v 0))], 1, [], (.atm (.v 0)), false, []⟩
def sg36 : Sig := ⟨85, 1, [], [(.atm (.v 0))], 1, [], (.atm (.v 0)), false, []⟩
def sg37 : Sig := ⟨88, 3, [], [(.agg [(.atm (.v 0)), (.atm (.v 1)), (.atm (.v 2))])], 1, [], (.atm (.v 0)), false, []⟩
def sg38 : Sig := ⟨89, 3, [], [(.agg [(.atm (.v 0)), (.atm (.v 1)), (.atm (.v 2))])], 1, [], (.atm (.v 0)), false, []⟩
def sg39 : Sig := ⟨90, 3, [], [(.agg [(.atm (.v 0)), (.atm (.v 1)), (.atm (.v 2))])], 1, [], (.atm (.v 0)), false, []⟩
def sg40 : Sig := ⟨91, 3, [], [(.agg [(.atm (.v 0)), (.atm (.v 1)), (.atm (.v 2))])], 1, [], (.atm (.v 0)), false, []⟩
def sg41 : Sig := ⟨92, 4, [], [(.atm (.v 0)), (.agg [(.atm (.v 1)), (.atm (.v 2)), (.atm (.v 3))])], 1, [], (.atm (.v 0)), true, []⟩
def sg42 : Sig := ⟨93, 4, [], [(.agg [(.atm (.v 0)), (.atm (.v 1)), (.atm (.v 2))]), (.atm (.v 3))], 1, [], (.atm (.v 0)), false, []⟩
def sg43 : Sig := ⟨33, 4, [], [(.atm (.v 0)), (.agg [(.atm (.v 1)), (.atm (.v 2)), (.atm (.v 3))])], 2, [], (.tup [(.atm (.v 0)), (.atm (.v 1))]), false, []⟩
def sg44 : Sig := ⟨44, 2, [], [(.atm (.v 0)), (.atm (.v 1))], 1, [], (.atm (.v 0)), true, []⟩
def sg45 : Sig := ⟨64, 2, [], [(.atm (.v 0)), (.atm (.v 1))], 3, [], (.agg [(.atm (.v 0)), (.atm (.v 1)), (.atm (.v 2))]), true, []⟩
def sg46 : Sig := ⟨69, 1, [], [(.atm (.v 0))], 1, [], (.atm (.v 0)), false, []⟩
def sg47 : Sig := ⟨84, 1, [], [(.atm (.v 0))], 1, [], (.atm (.v 0)), false, []⟩
def sg48 : Sig := ⟨94, 2, [], [(.atm (.v 0)), (.atm (.v 1))], 1, [], (.atm (.v 0)), false, []⟩
def sg49 : Sig := ⟨95, 2, [], [(.atm (.v 0)), (.atm (.v 1))], 1, [], (.atm (.v 0)), false, []⟩
def sg50 : Sig := ⟨96, 2, [], [(.atm (.v 0)), (.atm (.v 1))], 1, [], (.atm (.v 0)), false, []⟩
def sg51 : Sig := ⟨111, 2, [], [(.atm (.v 0)), (.atm (.v 1))], 1, [], (.atm (.v 0)), true, []⟩
def sg52 : Sig := ⟨35, 3, [], [(.agg [(.atm (.v 0)), (.atm (.v 1)), (.atm (.v 2))])], 1, [], (.atm (.v 0)), false, []⟩
def sg53 : Sig := ⟨66, 3, [], [(.agg [(.atm (.v 0)), (.atm (.v 1)), (.atm (.v 2))])], 1, [], (.atm (.v 0)), true, []⟩
def sg54 : Sig := ⟨67, 2, [], [(.atm (.v 0)), (.atm (.v 1))], 1, [], (.atm (.v 0)), false, []⟩
def sg55 : Sig := ⟨68, 4, [], [(.atm (.v 0)), (.agg [(.atm (.v 1)), (.atm (.v 2)), (.atm (.v 3))])], 1, [], (.atm (.v 0)), false, []⟩
def sg56 : Sig := ⟨86, 1, [], [(.atm (.v 0))], 1, [], (.atm (.v 0)), false, []⟩
def sg57 : Sig := ⟨99, 3, [], [(.atm (.v 0)), (.atm (.v 1)), (.atm (.v 2))], 1, [], (.atm (.v 0)), false, []⟩
def sg58 : Sig := ⟨31, 6, [], [(.agg [(.atm (.v 0)), (.atm (.v 1)), (.atm (.v 2))]), (.agg [(.atm (.v 3)), (.atm (.v 4)), (.atm (.v 5))])], 1, [], (.atm (.v 0)), false, []⟩
def sg59 : Sig := ⟨100, 7, [], [(.atm (.v 0)), (.agg [(.atm (.v 1)), (.atm (.v 2)), (.atm (.v 3))]), (.agg [(.atm (.v 4)), (.atm (.v 5)), (.atm (.v 6))])], 3, [], (.agg [(.atm (.v 0)), (.atm (.v 1)), (.atm (.v 2))]), true, []⟩
def sg60 : Sig := ⟨70, 3, [], [(.agg [(.atm (.v 0)), (.atm (.v 1)), (.atm (.v 2))])], 1, [], (.atm (.v 0)), false, []⟩
def sg61 : Sig := ⟨71, 3, [], [(.agg [(.atm (.v 0)), (.atm (.v 1)), (.atm (.v 2))])], 1, [], (.atm (.v 0)), false, []⟩
def sg62 : Sig := ⟨72, 3, [], [(.agg [(.atm (.v 0)), (.atm (.v 1)), (.atm (.v 2))]), (.atm (.c (fnD 73)))], 1, [], (.atm (.v 0)), false, []⟩
def sg63 : Sig := ⟨72, 3, [], [(.agg [(.atm (.v 0)), (.atm (.v 1)), (.atm (.v 2))]), (.atm (.c (fnD 74)))], 1, [], (.atm (.v 0)), false, []⟩
def sg64 : Sig := ⟨82, 2, [], [(.atm (.v 0)), (.atm (.v 1))], 1, [], (.atm (.v 0)), false, []⟩
def sg65 : Sig := ⟨83, 1, [], [(.atm (.v 0))], 1, [], (.atm (.v 0)), false, []⟩
def sg66 : Sig := ⟨87, 2, [], [(.atm (.v 0)), (.atm (.v 1))], 1, [], (.atm (.v 0)), false, []⟩
def sg67 : Sig := ⟨73, 3, [], [(.agg [(.atm (.v 0)), (.atm (.v 1)), (.atm (.v 2))])], 1, [], (.atm (.v 0)), false, []⟩
def sg68 : Sig := ⟨74, 3, [], [(.agg [(.atm (.v 0)), (.atm (.v 1)), (.atm (.v 2))])], 1, [], (.atm (.v 0)), false, []⟩
def sigs : List Sig := [sg0, sg1, sg2, sg3, sg4, sg5, sg6, sg7, sg8, sg9, sg10, sg11, sg12, sg13, sg14, sg15, sg16, sg17, sg18, sg19, sg20, sg21, sg22, sg23, sg24, sg25, sg26, sg27, sg28, sg29, sg30, sg31, sg32, sg33, sg34, sg35, sg36, sg37, sg38, sg39, sg40, sg41, sg42, sg43, sg44, sg45, sg46, sg47, sg48, sg49, sg50, sg51, sg52, sg53, sg54, sg55, sg56, sg57, sg58, sg59, sg60, sg61, sg62, sg63, sg64, sg65, sg66, sg67, sg68]
def an0 : Ann := (.s none .z (.s none .z (.s none .z (.s none .z (.s none .z (.s none .z (.s none .z (.s none .z (.s none .z (.s none .z (.s none .z (.s none .z (.s none .z (.s none .z (.s none .z (.s none (.s (some ⟨1, [(0, .junk), (2, .junk), (3, .junk), (4, .junk), (5, .junk), (6, .junk), (7, .junk), (9, .junk), (10, .junk), (11, .junk), (13, .junk), (15, .junk), (17, .junk), (19, .junk), (21, .junk), (23, .junk), (25, .junk), (27, .junk), (28, .junk), (29, .junk), (30, .junk), (31, .junk), (32, .junk), (33, .junk), (34, .junk), (35, .junk), (36, .junk), (37, .junk), (38, .junk), (39, .junk), (40, .junk), (41, .junk), (42, .junk), (43, .junk), (44, .junk), (45, .junk), (46, .junk), (47, .junk), (48, .junk), (49, .junk), (50, .junk), (51, .junk), (52, .junk), (53, .junk), (54, .junk), (55, .junk), (56, .junk), (57, .junk), (58, .junk), (59, .junk), (60, .junk), (61, .junk), (62, .junk), (63, .junk), (64, .junk), (65, .junk), (66, .junk), (67, .junk), (68, .junk), (69, .junk), (70, .junk), (71, .junk), (72, .junk), (73, .junk), (74, .junk), (75, .junk), (76, .junk), (77, .junk), (78, .junk), (79, .junk), (80, .junk), (81, .junk), (82, .junk), (83, .junk), (84, .junk), (85, .junk), (86, .junk), (87, .junk), (88, .junk), (89, .junk), (90, .junk), (91, .junk), (92, .junk), (93, .junk), (94, .junk), (95, .junk), (96, .junk), (97, .junk), (98, .junk), (99, .junk), (100, .junk), (101, .junk), (102, .junk), (103, .junk), (104, .junk), (105, .junk), (106, .junk), (107, .junk), (108, .junk), (109, .junk), (110, .junk), (111, .junk), (112, .junk), (113, .junk), (114, .junk), (115, .junk), (116, .junk), (117, .junk), (118, .junk), (119, .junk), (141, (.atm (.v 0)))], [], 3, []⟩) .z .z) .z))))))))))))))))
def ir0p0 : IR :=
 (.ite (.v 53)
  (.ret [(.c (.bool false))])
 (.op (.bin .andNot false) [(.v 33), (.v 29)]
 (.op (.bin .eql false) [(.v 54), (.c (.int .u64 0))]
 (.ite (.v 55)
  (.op (.bin .andNot false) [(.v 14), (.v 29)]
  (.op (.bin .neq false) [(.v 56), (.c (.int .u64 0))]
  (.ite (.v 57)
   (.op (.bin .eql false) [(.v 14), (.c (.int .u64 0))]
   (.ite (.v 58)
    (.op (.bin .eql false) [(.v 51), (.v 33)]
    (.ite (.v 59)
     (.op (.bin .or false) [(.v 33), (.v 35)]
     (.op (.bin .eql false) [(.v 38), (.v 60)]
     (.ite (.v 61)
      (.op (.bin .and false) [(.v 33), (.v 31)]
      (.op (.bin .andNot false) [(.v 62), (.v 46)]
      (.op (.bin .eql false) [(.v 63), (.c (.int .u64 0))]
      (.ite (.v 64)
       (.op (.bin .andNot false) [(.v 33), (.v 31)]
       (.op (.bin .neq false) [(.v 65), (.c (.int .u64 0))]
       (.ite (.v 66)
        (.call 13 1 false [] []
        (.ret [(.v 67)]))
       (.op (.bin .andNot false) [(.v 40), (.v 29)]
       (.op (.bin .neq false) [(.v 67), (.c (.int .u64 0))]
       (.ite (.v 68)
        (.call 13 1 false [] []
        (.ret [(.v 69)]))
       (.op (.bin .eql false) [(.v 33), (.v 40)]
       (.ite (.v 69)
        (.call 13 1 false [] []
        (.ret [(.v 70)]))
       (.ret [(.c (.bool false))])))))))))
      (.ret [(.c (.bool false))])))))
     (.ret [(.c (.bool false))]))))
    (.ret [(.c (.bool false))])))
   (.op (.bin .eql false) [(.v 29), (.c (.int .u64 0))]
   (.ite (.v 59)
    (.op (.bin .eql false) [(.v 51), (.v 33)]
    (.ite (.v 60)
     (.op (.bin .or false) [(.v 33), (.v 35)]
     (.op (.bin .eql false) [(.v 38), (.v 61)]
     (.ite (.v 62)
      (.op (.bin .and false) [(.v 33), (.v 31)]
      (.op (.bin .andNot false) [(.v 63), (.v 46)]
      (.op (.bin .eql false) [(.v 64), (.c (.int .u64 0))]
      (.ite (.v 65)
       (.op (.bin .andNot false) [(.v 33), (.v 31)]
       (.op (.bin .neq false) [(.v 66), (.c (.int .u64 0))]
       (.ite (.v 67)
        (.call 13 1 false [] []
        (.ret [(.v 68)]))
       (.op (.bin .andNot false) [(.v 40), (.v 29)]
       (.op (.bin .neq false) [(.v 68), (.c (.int .u64 0))]
       (.ite (.v 69)
        (.call 13 1 false [] []
        (.ret [(.v 70)]))
       (.op (.bin .eql false) [(.v 33), (.v 40)]
       (.ite (.v 70)
        (.call 13 1 false [] []
        (.ret [(.v 71)]))
       (.ret [(.c (.bool false))])))))))))
      (.ret [(.c (.bool false))])))))
     (.ret [(.c (.bool false))]))))
    (.ret [(.c (.bool false))])))
   (.op (.bin .neq false) [(.v 33), (.c (.int .u64 0))]
   (.ite (.v 60)
    (.op (.bin .eql false) [(.v 51), (.v 33)]
    (.ite (.v 61)
     (.op (.bin .or false) [(.v 33), (.v 35)]
     (.op (.bin .eql false) [(.v 38), (.v 62)]
     (.ite (.v 63)
      (.op (.bin .and false) [(.v 33), (.v 31)]
      (.op (.bin .andNot false) [(.v 64), (.v 46)]
      (.op (.bin .eql false) [(.v 65), (.c (.int .u64 0))]
      (.ite (.v 66)
       (.op (.bin .andNot false) [(.v 33), (.v 31)]
       (.op (.bin .neq false) [(.v 67), (.c (.int .u64 0))]
       (.ite (.v 68)
        (.call 13 1 false [] []
        (.ret [(.v 69)]))
       (.op (.bin .andNot false) [(.v 40), (.v 29)]
       (.op (.bin .neq false) [(.v 69), (.c (.int .u64 0))]
       (.ite (.v 70)
        (.call 13 1 false [] []
        (.ret [(.v 71)]))
       (.op (.bin .eql false) [(.v 33), (.v 40)]
       (.ite (.v 71)
        (.call 13 1 false [] []
        (.ret [(.v 72)]))
       (.ret [(.c (.bool false))])))))))))
      (.ret [(.c (.bool false))])))))
     (.ret [(.c (.bool false))]))))
    (.ret [(.c (.bool false))])))
   (.ret [(.c (.bool false))])))))))
  (.op (.bin .eql false) [(.v 33), (.v 14)]
  (.ite (.v 58)
   (.op (.bin .eql false) [(.v 14), (.c (.int .u64 0))]
   (.ite (.v 59)
    (.op (.bin .eql false) [(.v 51), (.v 33)]
    (.ite (.v 60)
     (.op (.bin .or false) [(.v 33), (.v 35)]
     (.op (.bin .eql false) [(.v 38), (.v 61)]
     (.ite (.v 62)
      (.op (.bin .and false) [(.v 33), (.v 31)]
      (.op (.bin .andNot false) [(.v 63), (.v 46)]
      (.op (.bin .eql false) [(.v 64), (.c (.int .u64 0))]
      (.ite (.v 65)
       (.op (.bin .andNot false) [(.v 33), (.v 31)]
       (.op (.bin .neq false) [(.v 66), (.c (.int .u64 0))]
       (.ite (.v 67)
        (.call 13 1 false [] []
        (.ret [(.v 68)]))
       (.op (.bin .andNot false) [(.v 40), (.v 29)]
       (.op (.bin .neq false) [(.v 68), (.c (.int .u64 0))]
       (.ite (.v 69)
        (.call 13 1 false [] []
        (.ret [(.v 70)]))
       (.op (.bin .eql false) [(.v 33), (.v 40)]
       (.ite (.v 70)
        (.call 13 1 false [] []
        (.ret [(.v 71)]))
       (.ret [(.c (.bool false))])))))))))
      (.ret [(.c (.bool false))])))))
     (.ret [(.c (.bool false))]))))
    (.ret [(.c (.bool false))])))
   (.op (.bin .eql false) [(.v 29), (.c (.int .u64 0))]
   (.ite (.v 60)
    (.op (.bin .eql false) [(.v 51), (.v 33)]
    (.ite (.v 61)
     (.op (.bin .or false) [(.v 33), (.v 35)]
     (.op (.bin .eql false) [(.v 38), (.v 62)]
     (.ite (.v 63)
      (.op (.bin .and false) [(.v 33), (.v 31)]
      (.op (.bin .andNot false) [(.v 64), (.v 46)]
      (.op (.bin .eql false) [(.v 65), (.c (.int .u64 0))]
      (.ite (.v 66)
       (.op (.bin .andNot false) [(.v 33), (.v 31)]
       (.op (.bin .neq false) [(.v 67), (.c (.int .u64 0))]
       (.ite (.v 68)
        (.call 13 1 false [] []
        (.ret [(.v 69)]))
       (.op (.bin .andNot false) [(.v 40), (.v 29)]
       (.op (.bin .neq false) [(.v 69), (.c (.int .u64 0))]
       (.ite (.v 70)
        (.call 13 1 false [] []
        (.ret [(.v 71)]))
       (.op (.bin .eql false) [(.v 33), (.v 40)]
       (.ite (.v 71)
        (.call 13 1 false [] []
        (.ret [(.v 72)]))
       (.ret [(.c (.bool false))])))))))))
      (.ret [(.c (.bool false))])))))
     (.ret [(.c (.bool false))]))))
    (.ret [(.c (.bool false))])))
   (.op (.bin .neq false) [(.v 33), (.c (.int .u64 0))]
   (.ite (.v 61)
    (.op (.bin .eql false) [(.v 51), (.v 33)]
    (.ite (.v 62)
     (.op (.bin .or false) [(.v 33), (.v 35)]
     (.op (.bin .eql false) [(.v 38), (.v 63)]
     (.ite (.v 64)
      (.op (.bin .and false) [(.v 33), (.v 31)]
      (.op (.bin .andNot false) [(.v 65), (.v 46)]
      (.op (.bin .eql false) [(.v 66), (.c (.int .u64 0))]
      (.ite (.v 67)
       (.op (.bin .andNot false) [(.v 33), (.v 31)]
       (.op (.bin .neq false) [(.v 68), (.c (.int .u64 0))]
       (.ite (.v 69)
        (.call 13 1 false [] []
        (.ret [(.v 70)]))
       (.op (.bin .andNot false) [(.v 40), (.v 29)]
       (.op (.bin .neq false) [(.v 70), (.c (.int .u64 0))]
       (.ite (.v 71)
        (.call 13 1 false [] []
        (.ret [(.v 72)]))
       (.op (.bin .eql false) [(.v 33), (.v 40)]
       (.ite (.v 72)
        (.call 13 1 false [] []
        (.ret [(.v 73)]))
       (.ret [(.c (.bool false))])))))))))
      (.ret [(.c (.bool false))])))))
     (.ret [(.c (.bool false))]))))
    (.ret [(.c (.bool false))])))
   (.ret [(.c (.bool false))])))))))
  (.ret [(.c (.bool false))]))))))
 (.ret [(.c (.bool false))])))))
def ir0 : IR :=
 (.call 4 2 false [] [(.v 0)]
 (.call 5 3 false [] [(.c (.int .i64 1)), (.c (.int .i64 3)), (.v 1), (.v 2)]
 (.call 6 1 false [] [(.v 3)]
 (.call 5 3 false [] [(.c (.int .i64 1)), (.c (.int .i64 3)), (.v 4), (.v 5)]
 (.call 7 1 false [] [(.v 6)]
 (.call 8 3 false [] [(.v 8), (.v 9)]
 (.op (.bin .and false) [(.v 11), (.v 10)]
 (.call 8 3 false [] [(.v 12), (.v 13)]
 (.op (.bin .and false) [(.v 15), (.v 10)]
 (.call 9 5 false [] [(.v 3), (.c (.int .i64 3)), (.v 16), (.v 17)]
 (.call 9 5 false [] [(.v 3), (.c (.int .i64 3)), (.v 22), (.v 23)]
 (.call 10 2 false [] [(.v 6), (.v 19), (.v 20), (.v 21)]
 (.call 10 2 false [] [(.v 6), (.v 24), (.v 25), (.v 26)]
 (.call 11 2 false [] [(.v 6), (.v 14), (.v 19), (.v 20), (.v 21), (.v 7)]
 (.call 11 2 false [] [(.v 6), (.v 18), (.v 19), (.v 20), (.v 21), (.v 7)]
 (.op (.bin .or false) [(.v 14), (.v 18)]
 (.call 11 2 false [] [(.v 6), (.v 37), (.v 19), (.v 20), (.v 21), (.v 7)]
 (.call 11 2 false [] [(.v 6), (.v 14), (.v 24), (.v 25), (.v 26), (.v 7)]
 (.op (.bin .and false) [(.v 29), (.v 31)]
 (.call 12 3 false [] [(.v 3), (.v 42)]
 (.call 11 2 false [] [(.v 6), (.v 14), (.v 43), (.v 44), (.v 45), (.v 7)]
 (.call 12 3 false [] [(.v 3), (.v 29)]
 (.call 11 2 false [] [(.v 6), (.v 14), (.v 48), (.v 49), (.v 50), (.v 7)]
 (.letj 1
  (.op (.bin .neq false) [(.v 34), (.c (.int .i64 0))]
  (.ite (.v 53)
   (.jump 0 [(.c (.bool true))])
  (.op (.bin .neq false) [(.v 36), (.c (.int .i64 0))]
  (.ite (.v 54)
   (.jump 0 [(.c (.bool true))])
  (.op (.bin .neq false) [(.v 39), (.c (.int .i64 0))]
  (.ite (.v 55)
   (.jump 0 [(.c (.bool true))])
  (.op (.bin .neq false) [(.v 41), (.c (.int .i64 0))]
  (.ite (.v 56)
   (.jump 0 [(.c (.bool true))])
  (.op (.bin .neq false) [(.v 47), (.c (.int .i64 0))]
  (.ite (.v 57)
   (.jump 0 [(.c (.bool true))])
  (.op (.bin .neq false) [(.v 52), (.c (.int .i64 0))]
  (.jump 0 [(.v 58)]))))))))))))
 ir0p0))))))))))))))))))))))))
theorem rd0 : readFn T SG sigs 3000 sg0 Tryd.f3 an0 = some ir0 := by kernel_rfl
def an1 : Ann := (.s none .z (.s none .z (.s none .z (.s none .z (.s none .z (.s none .z (.s none .z (.s none .z (.s none .z (.s none .z (.s none .z (.s none (.s (some ⟨1, [(0, .junk), (2, .junk), (3, .junk), (4, .junk), (5, .junk), (7, .junk), (8, .junk), (9, .junk), (12, .junk), (14, .junk), (16, .junk), (18, .junk), (19, .junk), (20, .junk), (21, .junk), (22, .junk), (23, .junk), (24, .junk), (25, .junk), (26, .junk), (27, .junk), (28, .junk), (29, .junk), (30, .junk), (31, .junk), (32, .junk), (33, .junk), (34, .junk), (35, .junk), (36, .junk), (37, .junk), (38, .junk), (39, .junk), (40, .junk), (41, .junk), (42, .junk), (43, .junk), (44, .junk), (45, .junk), (46, .junk), (47, .junk), (48, .junk), (49, .junk), (50, .junk), (51, .junk), (52, .junk), (53, .junk), (54, .junk), (55, .junk), (56, .junk), (57, .junk), (58, .junk), (59, .junk), (60, .junk), (61, .junk), (62, .junk), (63, .junk), (64, .junk), (65, .junk), (66, .junk), (67, .junk), (68, .junk), (69, .junk), (70, .junk), (71, .junk), (72, .junk), (73, .junk), (74, .junk), (75, .junk), (76, .junk), (77, .junk), (78, .junk), (79, .junk), (80, .junk), (81, .junk), (82, .junk), (83, .junk), (84, .junk), (85, .junk), (86, .junk), (87, .junk), (101, (.atm (.v 0)))], [], 1, []⟩) .z .z) .z))))))))))))
def ir1p0 : IR :=
 (.ite (.v 48)
  (.ret [(.c (.bool false))])
 (.op (.bin .and false) [(.v 29), (.v 34)]
 (.op (.bin .andNot false) [(.v 49), (.v 40)]
 (.op (.bin .eql false) [(.v 50), (.c (.int .u64 0))]
 (.ite (.v 51)
  (.op (.bin .eql false) [(.v 7), (.c (.int .i64 2))]
  (.ite (.v 52)
   (.call 13 1 false [] []
   (.ret [(.v 53)]))
  (.op (.bin .and false) [(.v 29), (.v 25)]
  (.op (.bin .eql false) [(.v 53), (.c (.int .u64 0))]
  (.ite (.v 54)
   (.call 13 1 false [] []
   (.ret [(.v 55)]))
  (.op (.bin .and false) [(.v 29), (.v 25)]
  (.op (.bin .andNot false) [(.v 46), (.v 55)]
  (.op (.bin .eql false) [(.v 56), (.c (.int .u64 0))]
  (.ite (.v 57)
   (.call 13 1 false [] []
   (.ret [(.v 58)]))
  (.ret [(.c (.bool false))]))))))))))
 (.ret [(.c (.bool false))]))))))
def ir1 : IR :=
 (.call 4 2 false [] [(.v 0)]
 (.call 5 3 false [] [(.c (.int .i64 1)), (.c (.int .i64 3)), (.v 1), (.v 2)]
 (.call 6 1 false [] [(.v 3)]
 (.call 5 3 false [] [(.c (.int .i64 1)), (.c (.int .i64 3)), (.v 4), (.v 5)]
 (.op (.conv .u64) [(.v 3)]
 (.op (.bin .shl false) [(.c (.int .i64 1)), (.v 10)]
 (.call 14 3 false [] [(.v 11), (.v 8), (.v 9)]
 (.op (.conv .u64) [(.v 12)]
 (.op (.bin .shl false) [(.c (.int .u64 1)), (.v 15)]
 (.call 7 1 false [] [(.v 6)]
 (.call 8 3 false [] [(.v 13), (.v 14)]
 (.op (.bin .and false) [(.v 18), (.v 17)]
 (.call 8 3 false [] [(.v 19), (.v 20)]
 (.op (.bin .and false) [(.v 22), (.v 17)]
 (.call 12 3 false [] [(.v 3), (.v 21)]
 (.call 11 2 false [] [(.v 6), (.v 16), (.v 26), (.v 27), (.v 28), (.v 7)]
 (.call 12 3 false [] [(.v 3), (.v 25)]
 (.call 11 2 false [] [(.v 6), (.v 16), (.v 31), (.v 32), (.v 33), (.v 7)]
 (.op (.bin .or false) [(.v 21), (.v 25)]
 (.call 12 3 false [] [(.v 3), (.v 36)]
 (.call 11 2 false [] [(.v 6), (.v 16), (.v 37), (.v 38), (.v 39), (.v 7)]
 (.op (.bin .and false) [(.v 21), (.v 25)]
 (.call 12 3 false [] [(.v 3), (.v 42)]
 (.call 11 2 false [] [(.v 6), (.v 16), (.v 43), (.v 44), (.v 45), (.v 7)]
 (.letj 1
  (.op (.bin .neq false) [(.v 30), (.c (.int .i64 0))]
  (.ite (.v 48)
   (.jump 0 [(.c (.bool true))])
  (.op (.bin .neq false) [(.v 35), (.c (.int .i64 0))]
  (.ite (.v 49)
   (.jump 0 [(.c (.bool true))])
  (.op (.bin .neq false) [(.v 41), (.c (.int .i64 0))]
  (.ite (.v 50)
   (.jump 0 [(.c (.bool true))])
  (.op (.bin .neq false) [(.v 47), (.c (.int .i64 0))]
  (.jump 0 [(.v 51)]))))))))
 ir1p0)))))))))))))))))))))))))
theorem rd1 : readFn T SG sigs 3000 sg1 Tryd.f4 an1 = some ir1 := by kernel_rfl
def an2 : Ann := .z
def ir2 : IR :=
 (.call 4 2 false [] [(.v 0)]
 (.call 5 3 false [] [(.c (.int .i64 1)), (.c (.int .i64 3)), (.v 1), (.v 2)]
 (.call 6 1 false [] [(.v 3)]
 (.call 5 3 false [] [(.c (.int .i64 1)), (.c (.int .i64 3)), (.v 4), (.v 5)]
 (.call 7 1 false [] [(.v 6)]
 (.call 8 3 false [] [(.v 8), (.v 9)]
 (.op (.bin .and false) [(.v 11), (.v 10)]
 (.call 8 3 false [] [(.v 12), (.v 13)]
 (.op (.bin .and false) [(.v 15), (.v 10)]
 (.call 12 3 false [] [(.v 3), (.v 18)]
 (.call 15 2 false [] [(.v 6), (.v 14), (.v 19), (.v 20), (.v 21), (.v 7)]
 (.op (.bin .andNot false) [(.v 10), (.v 18)]
 (.call 12 3 false [] [(.v 3), (.v 24)]
 (.call 11 2 false [] [(.v 6), (.v 14), (.v 25), (.v 26), (.v 27), (.v 7)]
 (.op (.bin .eql false) [(.v 23), (.c (.int .i64 0))]
 (.ite (.v 30)
  (.op (.bin .eql false) [(.v 29), (.c (.int .i64 0))]
  (.ite (.v 31)
   (.op (.bin .andNot false) [(.v 14), (.v 22)]
   (.op (.bin .eql false) [(.v 32), (.c (.int .u64 0))]
   (.ite (.v 33)
    (.op (.bin .eql false) [(.v 14), (.c (.int .u64 0))]
    (.ite (.v 34)
     (.op (.bin .or false) [(.v 14), (.v 28)]
     (.op (.bin .eql false) [(.v 22), (.v 35)]
     (.ite (.v 36)
      (.op (.bin .and false) [(.v 22), (.v 18)]
      (.op (.bin .and false) [(.v 14), (.v 18)]
      (.op (.bin .eql false) [(.v 37), (.v 38)]
      (.ite (.v 39)
       (.call 13 1 false [] []
       (.ret [(.v 40)]))
      (.ret [(.c (.bool false))])))))
     (.ret [(.c (.bool false))]))))
    (.op (.bin .eql false) [(.v 18), (.v 10)]
    (.ite (.v 35)
     (.op (.bin .or false) [(.v 14), (.v 28)]
     (.op (.bin .eql false) [(.v 22), (.v 36)]
     (.ite (.v 37)
      (.op (.bin .and false) [(.v 22), (.v 18)]
      (.op (.bin .and false) [(.v 14), (.v 18)]
      (.op (.bin .eql false) [(.v 38), (.v 39)]
      (.ite (.v 40)
       (.call 13 1 false [] []
       (.ret [(.v 41)]))
      (.ret [(.c (.bool false))])))))
     (.ret [(.c (.bool false))]))))
    (.op (.bin .andNot false) [(.v 22), (.v 18)]
    (.op (.bin .neq false) [(.v 36), (.c (.int .u64 0))]
    (.ite (.v 37)
     (.op (.bin .or false) [(.v 14), (.v 28)]
     (.op (.bin .eql false) [(.v 22), (.v 38)]
     (.ite (.v 39)
      (.op (.bin .and false) [(.v 22), (.v 18)]
      (.op (.bin .and false) [(.v 14), (.v 18)]
      (.op (.bin .eql false) [(.v 40), (.v 41)]
      (.ite (.v 42)
       (.call 13 1 false [] []
       (.ret [(.v 43)]))
      (.ret [(.c (.bool false))])))))
     (.ret [(.c (.bool false))]))))
    (.ret [(.c (.bool false))]))))))))
   (.ret [(.c (.bool false))]))))
  (.ret [(.c (.bool false))])))
 (.ret [(.c (.bool false))])))))))))))))))))
theorem rd2 : readFn T SG sigs 3000 sg2 Tryd.f5 an2 = some ir2 := by kernel_rfl
def an3 : Ann := (.s none .z (.s none .z (.s none .z (.s none .z (.s none .z (.s none .z (.s none .z (.s none .z (.s none .z (.s none (.s (some ⟨1, [(0, .junk), (8, .junk), (9, .junk), (10, .junk), (11, .junk), (12, .junk), (13, .junk), (14, .junk), (15, .junk), (16, .junk), (17, .junk), (18, .junk), (19, .junk), (23, .junk), (24, .junk), (25, .junk), (26, .junk), (27, .junk), (28, .junk), (29, .junk), (30, .junk), (31, .junk), (32, .junk), (33, .junk), (34, .junk), (35, .junk), (36, .junk), (37, .junk), (38, .junk), (39, .junk), (40, .junk), (41, .junk), (42, .junk), (43, .junk), (44, .junk), (45, .junk), (46, .junk), (47, .junk), (48, .junk), (49, .junk), (50, .junk), (51, .junk), (52, .junk), (53, .junk), (54, .junk), (55, .junk), (56, .junk), (88, (.atm (.v 0)))], [], 1, []⟩) .z .z) .z))))))))))
def ir3p0 : IR :=
 (.ite (.v 24)
  (.ret [(.c (.bool false))])
 (.call 17 1 false [] [(.v 1), (.v 2)]
 (.call 17 1 false [] [(.v 2), (.v 3)]
 (.call 17 1 false [] [(.v 1), (.v 3)]
 (.call 17 1 false [] [(.v 2), (.v 1)]
 (.op (.bin .eql false) [(.v 25), (.v 28)]
 (.ite (.v 29)
  (.op (.bin .add false) [(.v 25), (.v 26)]
  (.op (.bin .leq false) [(.v 27), (.v 30)]
  (.ite (.v 31)
   (.call 17 1 false [] [(.v 1), (.v 1)]
   (.op (.bin .eql false) [(.v 32), (.c (.int .i64 0))]
   (.ite (.v 33)
    (.call 13 1 false [] []
    (.ret [(.v 34)]))
   (.ret [(.c (.bool false))]))))
  (.ret [(.c (.bool false))]))))
 (.ret [(.c (.bool false))]))))))))
def ir3 : IR :=
 (.call 4 2 false [] [(.v 0)]
 (.call 5 3 false [] [(.c (.int .i64 0)), (.c (.int .i64 4)), (.v 4), (.v 5)]
 (.call 6 1 false [] [(.v 6)]
 (.call 8 3 false [] [(.v 7), (.v 8)]
 (.op (.conv .u64) [(.v 6)]
 (.op (.bin .shl false) [(.c (.int .i64 1)), (.v 13)]
 (.call 14 3 false [] [(.v 14), (.v 11), (.v 12)]
 (.call 16 2 false [] [(.v 9), (.v 15), (.v 10), (.c (.int .i64 1))]
 (.call 16 2 false [] [(.v 9), (.v 15), (.v 10), (.c (.int .i64 2))]
 (.call 16 2 false [] [(.v 9), (.v 15), (.v 10), (.c (.int .i64 3))]
 (.letj 1
  (.op (.bin .neq false) [(.v 19), (.c (.int .i64 0))]
  (.ite (.v 24)
   (.jump 0 [(.c (.bool true))])
  (.op (.bin .neq false) [(.v 21), (.c (.int .i64 0))]
  (.ite (.v 25)
   (.jump 0 [(.c (.bool true))])
  (.op (.bin .neq false) [(.v 23), (.c (.int .i64 0))]
  (.ite (.v 26)
   (.jump 0 [(.c (.bool true))])
  (.op (.bin .andNot false) [(.v 18), (.v 20)]
  (.op (.bin .neq false) [(.v 27), (.c (.int .u64 0))]
  (.ite (.v 28)
   (.jump 0 [(.c (.bool true))])
  (.op (.bin .andNot false) [(.v 20), (.v 22)]
  (.op (.bin .neq false) [(.v 29), (.c (.int .u64 0))]
  (.ite (.v 30)
   (.jump 0 [(.c (.bool true))])
  (.op (.bin .eql false) [(.v 18), (.c (.int .u64 0))]
  (.call 7 1 false [] [(.v 9)]
  (.op (.bin .and false) [(.v 10), (.v 32)]
  (.op (.bin .eql false) [(.v 33), (.c (.int .u64 0))]
  (.op (.bin .neq true) [(.v 31), (.v 34)]
  (.jump 0 [(.v 35)]))))))))))))))))))
 ir3p0)))))))))))
theorem rd3 : readFn T SG sigs 3000 sg3 Tryd.f6 an3 = some ir3 := by kernel_rfl
def an4 : Ann := .z
def ir4 : IR :=
 (.op .lenL [(.v 0)]
 (.op .min [(.v 1), (.c (.int .i64 2000))]
 (.op (.subL 1) [(.v 0), (.c (.int .i64 0)), (.v 2)]
 (.ret [(.v 3), (.c (.int .i64 0))]))))
theorem rd4 : readFn T SG sigs 3000 sg4 Tryd.f13 an4 = some ir4 := by kernel_rfl
def an5 : Ann := .z
def ir5 : IR :=
 (.op (.bin .sub false) [(.v 1), (.v 0)]
 (.op (.bin .add false) [(.v 4), (.c (.int .i64 1))]
 (.call 14 3 false [] [(.v 5), (.v 2), (.v 3)]
 (.op (.bin .add false) [(.v 0), (.v 6)]
 (.ret [(.v 9), (.v 7), (.v 8)])))))
theorem rd5 : readFn T SG sigs 3000 sg5 Tryd.f14 an5 = some ir5 := by kernel_rfl
def an6 : Ann := (.s none .z (.s none .z (.s none (.s none .z (.b (.l ⟨2, [(2, .junk), (4, (.atm (.v 0)))], [(0, ⟨false, true, 9, 1, (.v 1), []⟩)], 1, [⟨none, 3, 9, 1⟩]⟩ .z))) .z)))
def ir6p0 : IR :=
 (.op (.bin .lss false) [(.v 1), (.v 0)]
 (.ite (.v 3)
  (.op (.bin .add false) [(.c (.int .i64 97)), (.v 1)]
  (.op (.conv .u8) [(.v 4)]
  (.op (.mk 1 1) [(.v 5)]
  (.op .toS [(.v 6)]
  (.op (.mk 1 1) [(.v 7)]
  (.op (.app 1 16) [(.v 2), (.v 8)]
  (.op (.bin .add false) [(.v 1), (.c (.int .i64 1))]
  (.jump 0 [(.v 10), (.v 9)]))))))))
 (.ret [(.v 2)])))
def ir6 : IR :=
 (.loop 2 [(.c (.int .i64 0)), (.c (.sl []))] ir6p0)
theorem rd6 : readFn T SG sigs 3000 sg6 Tryd.f15 an6 = some ir6 := by kernel_rfl
def an7 : Ann := (.s none .z (.s none .z (.s none .z (.s none (.s none .z (.b (.l ⟨2, [(2, .junk), (3, (.atm (.v 0))), (4, (.atm (.v 1))), (5, .junk), (6, .junk), (7, .junk)], [], 0, []⟩ .z))) .z))))
def ir7p0 : IR :=
 (.call 19 1 false [] [(.v 0)]
 (.op (.bin .lss false) [(.v 4), (.v 5)]
 (.ite (.v 6)
  (.op (.conv .u64) [(.v 4)]
  (.op (.bin .shl false) [(.c (.int .u64 1)), (.v 7)]
  (.op (.bin .or false) [(.v 3), (.v 8)]
  (.op (.bin .add false) [(.v 4), (.c (.int .i64 1))]
  (.jump 0 [(.v 9), (.v 10)])))))
 (.ret [(.v 3)]))))
def ir7 : IR :=
 (.call 18 1 false [] [(.v 0)]
 (.op (.un .not) [(.v 1)]
 (.ite (.v 2)
  (.ret [(.c (.int .u64 0))])
 (.loop 2 [(.c (.int .u64 0)), (.c (.int .i64 0))] ir7p0))))
theorem rd7 : readFn T SG sigs 3000 sg7 Tryd.f16 an7 = some ir7 := by kernel_rfl
def an8 : Ann := .z
def ir8 : IR :=
 (.call 14 3 false [] [(.c (.int .i64 4)), (.v 0), (.v 1)]
 (.op (.bin .eql false) [(.v 2), (.c (.int .i64 0))]
 (.ite (.v 5)
  (.call 20 3 false [] [(.v 3), (.v 4)]
  (.op (.conv .u64) [(.v 6)]
  (.ret [(.v 9), (.v 7), (.v 8)])))
 (.op (.bin .eql false) [(.v 2), (.c (.int .i64 1))]
 (.ite (.v 6)
  (.call 20 3 false [] [(.v 3), (.v 4)]
  (.op (.conv .u64) [(.v 7)]
  (.call 20 3 false [] [(.v 8), (.v 9)]
  (.op (.conv .u64) [(.v 11)]
  (.op (.bin .and false) [(.v 10), (.v 14)]
  (.ret [(.v 15), (.v 12), (.v 13)]))))))
 (.op (.bin .eql false) [(.v 2), (.c (.int .i64 2))]
 (.ite (.v 7)
  (.call 14 3 false [] [(.c (.int .i64 64)), (.v 3), (.v 4)]
  (.op (.conv .u64) [(.v 8)]
  (.op (.bin .shl false) [(.c (.int .u64 1)), (.v 11)]
  (.call 14 3 false [] [(.c (.int .i64 64)), (.v 9), (.v 10)]
  (.op (.conv .u64) [(.v 13)]
  (.op (.bin .shl false) [(.c (.int .u64 1)), (.v 16)]
  (.op (.bin .or false) [(.v 12), (.v 17)]
  (.ret [(.v 18), (.v 14), (.v 15)]))))))))
 (.call 20 3 false [] [(.v 3), (.v 4)]
 (.op (.conv .u64) [(.v 8)]
 (.op (.bin .mul false) [(.v 11), (.c (.int .u64 11400714819323198485))]
 (.call 20 3 false [] [(.v 9), (.v 10)]
 (.op (.conv .u64) [(.v 13)]
 (.op (.bin .xor false) [(.v 12), (.v 16)]
 (.ret [(.v 17), (.v 14), (.v 15)]))))))))))))))
theorem rd8 : readFn T SG sigs 3000 sg8 Tryd.f17 an8 = some ir8 := by kernel_rfl
def an9 : Ann := (.s none .z (.s none .z (.s none (.s (some ⟨1, [(11, .junk), (12, .junk), (18, (.atm (.v 0)))], [], 2, []⟩) .z .z) (.s none .z (.s none .z (.s (some ⟨3, [(7, .junk), (9, (.atm (.v 0))), (18, .junk), (34, .junk), (35, .junk), (36, .junk), (37, .junk), (38, .junk), (39, .junk)], [(0, ⟨false, false, 67, 2, (.c (.sl [])), [[(.atm (.v 1)), (.atm (.v 2))]]⟩)], 4, []⟩) (.s none .z (.b (.s none .z (.c .z (.s (some ⟨1, [(7, .junk), (18, .junk), (34, .junk), (35, .junk), (36, .junk), (37, .junk), (38, .junk), (39, .junk), (40, .junk), (41, .junk), (42, .junk), (43, .junk), (44, (.atm (.v 0)))], [], 4, []⟩) .z .z))))) (.s none (.s none .z (.b (.l ⟨4, [(10, (.atm (.v 0)))], [(0, ⟨false, false, 67, 2, (.c (.sl [])), [[(.atm (.v 1)), (.atm (.v 2))]]⟩), (4, ⟨false, true, 33, 3, (.v 3), []⟩)], 5, [⟨some (3, 0, 2), 0, 33, 3⟩]⟩ .z))) .z)))))))
def ir9p0 : IR :=
 (.op (.bin .lss false) [(.v 14), (.v 11)]
 (.ite (.v 18)
  (.op (.bin .sub false) [(.v 1), (.c (.int .i64 1))]
  (.call 9 5 false [] [(.v 0), (.v 19), (.v 15), (.v 16)]
  (.op (.mk 3 1) [(.v 20), (.v 21), (.v 22)]
  (.op (.app 3 48) [(.v 17), (.v 25)]
  (.op (.bin .add false) [(.v 14), (.c (.int .i64 1))]
  (.jump 0 [(.v 27), (.v 23), (.v 24), (.v 26)]))))))
 (.ret [(.v 10), (.c (.str [])), (.v 17), (.v 15), (.v 16)])))
def ir9p1 : IR :=
 (.loop 4 [(.c (.int .i64 0)), (.v 12), (.v 13), (.c (.sl []))] ir9p0)
def ir9p2 : IR :=
 (.ite (.v 12)
  (.call 14 3 false [] [(.c (.int .i64 2)), (.v 5), (.v 6)]
  (.op (.bin .add false) [(.c (.int .i64 2)), (.v 13)]
  (.jump 0 [(.v 16), (.v 14), (.v 15)])))
 (.jump 0 [(.c (.int .i64 2)), (.v 5), (.v 6)]))
def ir9p3 : IR :=
 (.ite (.v 7)
  (.op (.bin .eql false) [(.v 4), (.c (.int .i64 0))]
  (.ite (.v 8)
   (.call 14 3 false [] [(.c (.int .i64 2)), (.v 5), (.v 6)]
   (.op (.bin .add false) [(.c (.int .i64 1)), (.v 9)]
   (.ret [(.v 12), (.c (.str [])), (.c (.sl [])), (.v 10), (.v 11)])))
  (.call 14 3 false [] [(.v 0), (.v 5), (.v 6)]
  (.op (.bin .add false) [(.c (.int .i64 97)), (.v 9)]
  (.op (.conv .u8) [(.v 12)]
  (.op (.mk 1 1) [(.v 13)]
  (.op .toS [(.v 14)]
  (.ret [(.c (.int .i64 3)), (.v 15), (.c (.sl [])), (.v 10), (.v 11)]))))))))
 (.op (.mk 1 8) [(.c (.int .i64 4)), (.c (.int .i64 4)), (.c (.int .i64 5)), (.c (.int .i64 5)), (.c (.int .i64 6)), (.c (.int .i64 6)), (.c (.int .i64 7)), (.c (.int .i64 8))]
 (.op (.bin .sub false) [(.v 4), (.c (.int .i64 4))]
 (.op .chk [(.v 8), (.v 9)]
 (.op (.get 0 1) [(.v 8), (.v 9)]
 (.letj 3
  (.op (.bin .eql false) [(.v 10), (.c (.int .i64 4))]
  (.ite (.v 11)
   (.jump 0 [(.c (.int .i64 1)), (.v 5), (.v 6)])
  (.letj 1
   (.op (.bin .eql false) [(.v 10), (.c (.int .i64 5))]
   (.ite (.v 12)
    (.jump 1 [(.c (.bool true))])
   (.op (.bin .eql false) [(.v 10), (.c (.int .i64 6))]
   (.jump 1 [(.v 13)]))))
  ir9p2)))
 ir9p1))))))
def ir9 : IR :=
 (.call 14 3 false [] [(.c (.int .i64 12)), (.v 2), (.v 3)]
 (.letj 1
  (.op (.bin .lss false) [(.v 1), (.c (.int .i64 1))]
  (.ite (.v 7)
   (.jump 0 [(.c (.bool true))])
  (.op (.bin .lss false) [(.v 4), (.c (.int .i64 4))]
  (.jump 0 [(.v 8)]))))
 ir9p3))
theorem rd9 : readFn T SG sigs 3000 sg9 Tryd.f18 an9 = some ir9 := by kernel_rfl
def an10 : Ann := (.s none .z (.s none .z (.s none .z (.s none .z (.s none (.s none .z (.b (.l ⟨1, [(1, .junk), (4, .junk), (5, .junk), (6, .junk), (8, (.atm (.v 0))), (11, .junk), (12, .junk), (13, .junk), (14, .junk), (15, .junk), (16, .junk), (17, .junk), (19, .junk), (20, .junk)], [], 1, []⟩ .z))) (.s none .z (.s none (.s none .z (.b (.l ⟨2, [(7, .junk), (8, .junk), (9, (.atm (.v 0))), (10, (.atm (.v 1))), (21, .junk), (22, .junk), (23, .junk), (24, .junk)], [], 1, []⟩ (.s none .z (.s (some ⟨1, [(9, (.atm (.v 0))), (34, .junk), (35, .junk), (36, .junk), (37, .junk)], [], 1, []⟩) .z .z))))) .z)))))))
def ir10p0 : IR :=
 (.op (.bin .add false) [(.v 13), (.c (.int .i64 1))]
 (.jump 1 [(.v 16), (.v 17)]))
def ir10p1 : IR :=
 (.call 19 1 false [] [(.v 0)]
 (.op (.bin .lss false) [(.v 13), (.v 14)]
 (.ite (.v 15)
  (.letj 1
   (.call 24 1 false [] [(.v 0), (.v 13)]
   (.call 25 1 false [] [(.v 1), (.v 2), (.v 3), (.v 16)]
   (.ite (.v 17)
    (.op (.conv .u64) [(.v 13)]
    (.op (.bin .shl false) [(.c (.int .u64 1)), (.v 18)]
    (.op (.bin .or false) [(.v 12), (.v 19)]
    (.jump 2 [(.v 20)]))))
   (.jump 2 [(.v 12)]))))
  ir10p0)
 (.ret [(.v 12), (.c (.int .i64 0))]))))
def ir10p2 : IR :=
 (.op .lenL [(.v 8)]
 (.op (.bin .lss false) [(.v 9), (.v 10)]
 (.ite (.v 11)
  (.op (.row 1) [(.v 8), (.v 9)]
  (.call 23 1 false [] [(.v 0), (.v 12)]
  (.op (.bin .lss false) [(.v 13), (.c (.int .i64 0))]
  (.ite (.v 14)
   (.ret [(.c (.int .u64 0)), (.c (.int .i64 6))])
  (.op (.bin .add false) [(.v 9), (.c (.int .i64 1))]
  (.jump 0 [(.v 15)]))))))
 (.loop 2 [(.c (.int .u64 0)), (.c (.int .i64 0))] ir10p1))))
def ir10 : IR :=
 (.call 18 1 false [] [(.v 0)]
 (.op (.un .not) [(.v 4)]
 (.ite (.v 5)
  (.ret [(.c (.int .u64 0)), (.c (.int .i64 1))])
 (.call 21 1 false [] [(.v 1), (.v 2), (.v 3)]
 (.op (.bin .neq false) [(.v 6), (.c (.int .i64 0))]
 (.ite (.v 7)
  (.ret [(.c (.int .u64 0)), (.v 6)])
 (.call 22 1 false [] [(.v 1), (.v 2), (.v 3)]
 (.loop 1 [(.c (.int .i64 0))] ir10p2))))))))
theorem rd10 : readFn T SG sigs 3000 sg10 Tryd.f19 an10 = some ir10 := by kernel_rfl
def an11 : Ann := .z
def ir11 : IR :=
 (.call 26 2 false [] [(.v 0), (.v 2), (.v 3), (.v 4), (.v 5)]
 (.op (.bin .neq false) [(.v 7), (.c (.int .i64 0))]
 (.ite (.v 8)
  (.ret [(.c (.int .u64 0)), (.v 7)])
 (.call 27 1 false [] [(.v 0), (.v 1), (.v 6), (.v 5)]
 (.ret [(.v 9), (.c (.int .i64 0))])))))
theorem rd11 : readFn T SG sigs 3000 sg11 Tryd.f20 an11 = some ir11 := by kernel_rfl
def an12 : Ann := .z
def ir12 : IR :=
 (.call 6 1 false [] [(.v 0)]
 (.call 6 1 false [] [(.v 0)]
 (.call 7 1 false [] [(.v 3)]
 (.op (.bin .and false) [(.v 1), (.v 4)]
 (.call 28 4 false [] [(.v 2), (.v 5)]
 (.ret [(.v 6), (.v 7), (.v 8)]))))))
theorem rd12 : readFn T SG sigs 3000 sg12 Tryd.f21 an12 = some ir12 := by kernel_rfl
def an13 : Ann := .z
def ir13 : IR :=
 (.call 6 1 false [] [(.c (.int .i64 2))]
 (.call 12 3 false [] [(.c (.int .i64 2)), (.c (.int .u64 10))]
 (.call 11 2 false [] [(.v 0), (.c (.int .u64 9)), (.v 1), (.v 2), (.v 3), (.c (.int .i64 1))]
 (.call 6 1 false [] [(.c (.int .i64 3))]
 (.call 12 3 false [] [(.c (.int .i64 3)), (.c (.int .u64 66))]
 (.call 11 2 false [] [(.v 6), (.c (.int .u64 1)), (.v 7), (.v 8), (.v 9), (.c (.int .i64 1))]
 (.call 6 1 false [] [(.c (.int .i64 3))]
 (.call 12 3 false [] [(.c (.int .i64 3)), (.c (.int .u64 66))]
 (.call 11 2 false [] [(.v 12), (.c (.int .u64 1)), (.v 13), (.v 14), (.v 15), (.c (.int .i64 2))]
 (.op (.bin .eql false) [(.v 5), (.c (.int .i64 0))]
 (.ite (.v 18)
  (.op (.bin .eql false) [(.v 11), (.c (.int .i64 0))]
  (.ite (.v 19)
   (.op (.bin .eql false) [(.v 17), (.c (.int .i64 0))]
   (.ite (.v 20)
    (.op (.bin .eql false) [(.v 4), (.c (.int .u64 10))]
    (.ite (.v 21)
     (.op (.bin .eql false) [(.v 10), (.c (.int .u64 2))]
     (.ite (.v 22)
      (.op (.bin .eql false) [(.v 16), (.c (.int .u64 66))]
      (.ret [(.v 23)]))
     (.ret [(.c (.bool false))])))
    (.ret [(.c (.bool false))])))
   (.ret [(.c (.bool false))])))
  (.ret [(.c (.bool false))])))
 (.ret [(.c (.bool false))]))))))))))))
theorem rd13 : readFn T SG sigs 3000 sg13 Tryd.f22 an13 = some ir13 := by kernel_rfl
def an14 : Ann := .z
def ir14 : IR :=
 (.call 20 3 false [] [(.v 1), (.v 2)]
 (.call 29 1 false [] [(.v 3), (.v 0)]
 (.ret [(.v 6), (.v 4), (.v 5)])))
theorem rd14 : readFn T SG sigs 3000 sg14 Tryd.f23 an14 = some ir14 := by kernel_rfl
def an15 : Ann := .z
def ir15 : IR :=
 (.call 26 2 false [] [(.v 0), (.v 2), (.v 3), (.v 4), (.v 5)]
 (.op (.bin .neq false) [(.v 7), (.c (.int .i64 0))]
 (.ite (.v 8)
  (.ret [(.c (.int .u64 0)), (.v 7)])
 (.call 30 1 false [] [(.v 0)]
 (.op (.bin .and false) [(.v 1), (.v 9)]
 (.op (.bin .andNot false) [(.v 9), (.v 6)]
 (.call 27 1 false [] [(.v 0), (.v 1), (.v 11), (.v 5)]
 (.op (.bin .or false) [(.v 10), (.v 12)]
 (.ret [(.v 13), (.c (.int .i64 0))])))))))))
theorem rd15 : readFn T SG sigs 3000 sg15 Tryd.f24 an15 = some ir15 := by kernel_rfl
def an16 : Ann := (.s none .z (.s none (.s (some ⟨1, [(8, .junk), (9, .junk), (25, (.atm (.v 0)))], [], 0, []⟩) .z .z) .z))
def ir16p0 : IR :=
 (.ite (.v 4)
  (.ret [(.c (.int .u64 0)), (.c (.int .i64 1))])
 (.call 32 2 false [] [(.v 3)]
 (.op (.un .not) [(.v 6)]
 (.ite (.v 7)
  (.ret [(.c (.int .u64 0)), (.c (.int .i64 4))])
 (.call 33 1 false [] [(.v 0), (.v 1), (.v 2), (.v 5)]
 (.ret [(.v 8), (.c (.int .i64 0))]))))))
def ir16 : IR :=
 (.letj 1
  (.call 31 1 false [] [(.v 0)]
  (.op (.un .not) [(.v 4)]
  (.ite (.v 5)
   (.jump 0 [(.c (.bool true))])
  (.op (.bin .lss false) [(.v 1), (.c (.int .i64 0))]
  (.ite (.v 6)
   (.jump 0 [(.c (.bool true))])
  (.op .lenL [(.v 0)]
  (.op (.bin .shl false) [(.c (.int .i64 1)), (.v 7)]
  (.op (.bin .geq false) [(.v 1), (.v 8)]
  (.jump 0 [(.v 9)])))))))))
 ir16p0)
theorem rd16 : readFn T SG sigs 3000 sg16 Tryd.f25 an16 = some ir16 := by kernel_rfl
def an17 : Ann := .z
def ir17 : IR :=
 (.call 34 1 false [] [(.v 0), (.v 1)]
 (.call 35 1 false [] [(.v 2)]
 (.ret [(.v 3)])))
theorem rd17 : readFn T SG sigs 3000 sg17 Tryd.f26 an17 = some ir17 := by kernel_rfl
def an18 : Ann := (.s none .z (.s none (.s none .z (.b (.l ⟨1, [(2, .junk), (3, (.atm (.v 0)))], [], 0, []⟩ (.s none .z (.s none (.b (.s (some ⟨1, [(4, .junk), (5, .junk), (6, .junk), (7, .junk), (31, (.atm (.v 0)))], [], 0, []⟩) .z .z)) .z))))) .z))
def ir18p0 : IR :=
 (.ite (.v 4)
  (.ret [(.c (.bool false))])
 (.op (.bin .add false) [(.v 1), (.c (.int .i64 1))]
 (.jump 0 [(.v 5)])))
def ir18p1 : IR :=
 (.op .lenL [(.v 0)]
 (.op (.bin .lss false) [(.v 1), (.v 2)]
 (.ite (.v 3)
  (.letj 1
   (.op (.row 1) [(.v 0), (.v 1)]
   (.call 36 1 false [] [(.v 4)]
   (.op (.un .not) [(.v 5)]
   (.ite (.v 6)
    (.jump 1 [(.c (.bool true))])
   (.op (.bin .gtr false) [(.v 1), (.c (.int .i64 0))]
   (.ite (.v 7)
    (.op (.row 1) [(.v 0), (.v 1)]
    (.op (.bin .sub false) [(.v 1), (.c (.int .i64 1))]
    (.op (.row 1) [(.v 0), (.v 9)]
    (.op (.bin .leq false) [(.v 8), (.v 10)]
    (.jump 1 [(.v 11)])))))
   (.jump 1 [(.c (.bool false))])))))))
  ir18p0)
 (.op .lenL [(.v 0)]
 (.op (.bin .leq false) [(.v 4), (.c (.int .i64 6))]
 (.ret [(.v 5)]))))))
def ir18 : IR :=
 (.loop 1 [(.c (.int .i64 0))] ir18p1)
theorem rd18 : readFn T SG sigs 3000 sg18 Tryd.f42 an18 = some ir18 := by kernel_rfl
def an19 : Ann := .z
def ir19 : IR :=
 (.op .lenL [(.v 0)]
 (.op (.conv .u64) [(.v 1)]
 (.op (.bin .shl false) [(.c (.int .i64 1)), (.v 2)]
 (.ret [(.v 3)]))))
theorem rd19 : readFn T SG sigs 3000 sg19 Tryd.f48 an19 = some ir19 := by kernel_rfl
def an20 : Ann := .z
def ir20 : IR :=
 (.op .lenL [(.v 0)]
 (.op (.bin .geq false) [(.v 1), (.v 2)]
 (.ite (.v 3)
  (.ret [(.c (.int .i64 0)), (.v 0), (.v 1)])
 (.op (.bin .add false) [(.v 1), (.c (.int .i64 1))]
 (.op (.bin .sub false) [(.v 4), (.c (.int .i64 1))]
 (.op (.row 1) [(.v 0), (.v 5)]
 (.ret [(.v 6), (.v 0), (.v 4)])))))))
theorem rd20 : readFn T SG sigs 3000 sg20 Tryd.f49 an20 = some ir20 := by kernel_rfl
def an21 : Ann := (.s none .z (.s none (.s (some ⟨1, [(0, .junk), (2, .junk), (10, (.atm (.v 0)))], [], 1, []⟩) .z .z) .z))
def ir21p0 : IR :=
 (.ite (.v 3)
  (.ret [(.c (.int .i64 2))])
 (.call 39 1 false [] [(.v 0), (.v 1), (.v 2)]
 (.op (.un .not) [(.v 4)]
 (.ite (.v 5)
  (.ret [(.c (.int .i64 4))])
 (.call 40 1 false [] [(.v 0), (.v 1), (.v 2)]
 (.op (.un .not) [(.v 6)]
 (.ite (.v 7)
  (.ret [(.c (.int .i64 3))])
 (.ret [(.c (.int .i64 0))]))))))))
def ir21 : IR :=
 (.letj 1
  (.call 37 1 false [] [(.v 0), (.v 1), (.v 2)]
  (.op (.bin .gtr false) [(.v 3), (.c (.int .i64 600))]
  (.ite (.v 4)
   (.jump 0 [(.c (.bool true))])
  (.call 38 1 false [] [(.v 0), (.v 1), (.v 2)]
  (.op (.bin .gtr false) [(.v 5), (.c (.int .i64 20))]
  (.jump 0 [(.v 6)]))))))
 ir21p0)
theorem rd21 : readFn T SG sigs 3000 sg21 Tryd.f50 an21 = some ir21 := by kernel_rfl
def an22 : Ann := .z
def ir22 : IR :=
 (.call 41 1 false [] [(.c (.sl [])), (.v 0), (.v 1), (.v 2)]
 (.ret [(.v 3)]))
theorem rd22 : readFn T SG sigs 3000 sg22 Tryd.f51 an22 = some ir22 := by kernel_rfl
def an23 : Ann := (.s none .z (.s none (.s none .z (.b (.l ⟨1, [(4, .junk), (5, (.atm (.v 0)))], [], 0, []⟩ .z))) .z))
def ir23p0 : IR :=
 (.op .lenL [(.v 0)]
 (.op (.bin .lss false) [(.v 2), (.v 3)]
 (.ite (.v 4)
  (.op (.row 1) [(.v 0), (.v 2)]
  (.op (.bin .eql false) [(.v 5), (.v 1)]
  (.ite (.v 6)
   (.ret [(.v 2)])
  (.op (.bin .add false) [(.v 2), (.c (.int .i64 1))]
  (.jump 0 [(.v 7)])))))
 (.ret [(.c (.int .i64 (-1)))]))))
def ir23 : IR :=
 (.loop 1 [(.c (.int .i64 0))] ir23p0)
theorem rd23 : readFn T SG sigs 3000 sg23 Tryd.f52 an23 = some ir23 := by kernel_rfl
def an24 : Ann := (.s none .z (.s none .z (.s none (.s none .z (.b (.l ⟨2, [(4, .junk), (6, (.atm (.v 0)))], [(0, ⟨false, true, 9, 1, (.v 1), []⟩)], 1, [⟨none, 5, 9, 1⟩]⟩ (.s none .z (.s (some ⟨1, [(7, .junk), (8, .junk), (9, .junk), (10, .junk)], [(0, ⟨false, true, 9, 1, (.v 0), []⟩)], 1, []⟩) .z .z))))) .z)))
def ir24p0 : IR :=
 (.op (.bin .add false) [(.v 2), (.c (.int .i64 1))]
 (.jump 0 [(.v 7), (.v 6)]))
def ir24p1 : IR :=
 (.op .lenL [(.v 0)]
 (.op (.bin .lss false) [(.v 2), (.v 4)]
 (.ite (.v 5)
  (.letj 1
   (.op (.conv .u64) [(.v 2)]
   (.op (.bin .shr false) [(.v 1), (.v 6)]
   (.op (.bin .and false) [(.v 7), (.c (.int .i64 1))]
   (.op (.bin .eql false) [(.v 8), (.c (.int .i64 1))]
   (.ite (.v 9)
    (.op (.row 1) [(.v 0), (.v 2)]
    (.op (.mk 1 1) [(.v 10)]
    (.op (.app 1 16) [(.v 3), (.v 11)]
    (.jump 1 [(.v 12)]))))
   (.jump 1 [(.v 3)]))))))
  ir24p0)
 (.ret [(.v 3)]))))
def ir24 : IR :=
 (.loop 2 [(.c (.int .i64 0)), (.c (.sl []))] ir24p1)
theorem rd24 : readFn T SG sigs 3000 sg24 Tryd.f54 an24 = some ir24 := by kernel_rfl
def an25 : Ann := .z
def ir25 : IR :=
 (.call 39 1 false [] [(.v 0), (.v 1), (.v 2)]
 (.ite (.v 4)
  (.call 40 1 false [] [(.v 0), (.v 1), (.v 2)]
  (.ite (.v 5)
   (.call 42 1 false [] [(.v 0), (.v 1), (.v 2), (.v 3)]
   (.ret [(.v 6)]))
  (.ret [(.c (.bool false))])))
 (.ret [(.c (.bool false))])))
theorem rd25 : readFn T SG sigs 3000 sg25 Tryd.f53 an25 = some ir25 := by kernel_rfl
def an26 : Ann := .z
def ir26 : IR :=
 (.call 31 1 false [] [(.v 0)]
 (.op (.un .not) [(.v 5)]
 (.ite (.v 6)
  (.ret [(.c (.int .u64 0)), (.c (.int .i64 1))])
 (.call 32 2 false [] [(.v 4)]
 (.op (.un .not) [(.v 8)]
 (.ite (.v 9)
  (.ret [(.c (.int .u64 0)), (.c (.int .i64 4))])
 (.call 43 2 false [] [(.v 0), (.v 1), (.v 2), (.v 3)]
 (.ret [(.v 10), (.v 11)]))))))))
theorem rd26 : readFn T SG sigs 3000 sg26 Tryd.f55 an26 = some ir26 := by kernel_rfl
def an27 : Ann := (.s none .z (.s none .z (.s none .z (.s none (.s none .z (.b (.l ⟨2, [(1, .junk), (3, .junk), (8, .junk), (10, .junk), (11, (.atm (.v 0))), (14, .junk), (15, .junk), (16, .junk), (17, .junk), (18, .junk), (19, .junk), (20, .junk), (23, (.atm (.v 1)))], [], 0, []⟩ .z))) .z))))
def ir27p0 : IR :=
 (.op (.bin .lss false) [(.v 9), (.v 7)]
 (.ite (.v 10)
  (.op (.row 1) [(.v 6), (.v 9)]
  (.call 33 1 false [] [(.v 0), (.v 11), (.v 2), (.v 4)]
  (.op (.bin .or false) [(.v 8), (.v 12)]
  (.op (.bin .add false) [(.v 9), (.c (.int .i64 1))]
  (.jump 0 [(.v 13), (.v 14)])))))
 (.ret [(.v 8)])))
def ir27 : IR :=
 (.call 32 2 false [] [(.v 3)]
 (.call 44 1 false [] [(.v 0), (.v 1)]
 (.op .lenL [(.v 6)]
 (.loop 2 [(.c (.int .u64 0)), (.c (.int .i64 0))] ir27p0))))
theorem rd27 : readFn T SG sigs 3000 sg27 Tryd.f56 an27 = some ir27 := by kernel_rfl
def an28 : Ann := .z
def ir28 : IR :=
 (.call 18 1 false [] [(.v 0)]
 (.op (.un .not) [(.v 2)]
 (.ite (.v 3)
  (.ret [(.c (.int .i64 0)), (.c (.str [])), (.c (.sl [])), (.c (.int .i64 1))])
 (.call 45 3 false [] [(.v 0), (.v 1)]
 (.ret [(.v 4), (.v 5), (.v 6), (.c (.int .i64 0))])))))
theorem rd28 : readFn T SG sigs 3000 sg28 Tryd.f30 an28 = some ir28 := by kernel_rfl
def an29 : Ann := (.s none .z (.s none .z (.s none .z (.s (some ⟨1, [(0, (.atm (.v 0))), (1, .junk), (4, .junk), (5, .junk), (6, .junk), (7, .junk), (8, .junk), (9, .junk)], [], 0, []⟩) .z .z))))
def ir29p0 : IR :=
 (.ret [(.v 4)])
def ir29 : IR :=
 (.op (.bin .lss false) [(.v 1), (.c (.int .i64 1))]
 (.ite (.v 2)
  (.ret [(.c (.int .i64 0))])
 (.op (.bin .rem false) [(.v 0), (.v 1)]
 (.letj 1
  (.op (.bin .lss false) [(.v 3), (.c (.int .i64 0))]
  (.ite (.v 4)
   (.op (.bin .add false) [(.v 3), (.v 1)]
   (.jump 0 [(.v 5)]))
  (.jump 0 [(.v 3)])))
 ir29p0))))
theorem rd29 : readFn T SG sigs 3000 sg29 Tryd.f57 an29 = some ir29 := by kernel_rfl
def an30 : Ann := .z
def ir30 : IR :=
 (.call 31 1 false [] [(.v 0)]
 (.op (.un .not) [(.v 1)]
 (.ite (.v 2)
  (.ret [(.c (.int .u64 0))])
 (.op .lenL [(.v 0)]
 (.call 46 1 false [] [(.v 3)]
 (.ret [(.v 4)]))))))
theorem rd30 : readFn T SG sigs 3000 sg30 Tryd.f34 an30 = some ir30 := by kernel_rfl
def an31 : Ann := (.s none .z (.s none .z (.s none (.s none .z (.b (.l ⟨1, [(2, .junk), (5, .junk), (6, .junk), (7, .junk), (10, (.atm (.v 0)))], [], 0, []⟩ (.s none .z (.s none .z (.s none (.b (.s none .z (.s (some ⟨1, [(3, .junk), (4, .junk), (11, .junk), (12, .junk), (13, .junk), (14, .junk), (30, (.atm (.v 0)))], [], 0, []⟩) .z .z))) .z)))))) .z)))
def ir31p0 : IR :=
 (.ite (.v 7)
  (.ret [(.c (.bool false))])
 (.op (.bin .add false) [(.v 4), (.c (.int .i64 1))]
 (.jump 0 [(.v 8)])))
def ir31p1 : IR :=
 (.op (.bin .lss false) [(.v 4), (.v 3)]
 (.ite (.v 5)
  (.op (.row 1) [(.v 0), (.v 4)]
  (.letj 1
   (.call 47 1 false [] [(.v 6)]
   (.op (.un .not) [(.v 7)]
   (.ite (.v 8)
    (.jump 1 [(.c (.bool true))])
   (.op (.bin .gtr false) [(.v 4), (.c (.int .i64 0))]
   (.ite (.v 9)
    (.op (.bin .sub false) [(.v 4), (.c (.int .i64 1))]
    (.op (.row 1) [(.v 0), (.v 10)]
    (.op (.bin .geq false) [(.v 11), (.v 6)]
    (.jump 1 [(.v 12)]))))
   (.jump 1 [(.c (.bool false))]))))))
  ir31p0))
 (.ret [(.c (.bool true))])))
def ir31 : IR :=
 (.op .lenL [(.v 0)]
 (.op (.bin .gtr false) [(.v 1), (.c (.int .i64 6))]
 (.ite (.v 2)
  (.ret [(.c (.bool false))])
 (.op .lenL [(.v 0)]
 (.loop 1 [(.c (.int .i64 0))] ir31p1)))))
theorem rd31 : readFn T SG sigs 3000 sg31 Tryd.f41 an31 = some ir31 := by kernel_rfl
def an32 : Ann := .z
def ir32 : IR :=
 (.op (.bin .eql false) [(.v 0), (.c (.int .i64 1))]
 (.ite (.v 1)
  (.ret [(.c (fnD 94)), (.c (.bool true))])
 (.op (.bin .eql false) [(.v 0), (.c (.int .i64 2))]
 (.ite (.v 2)
  (.ret [(.c (fnD 95)), (.c (.bool true))])
 (.op (.bin .eql false) [(.v 0), (.c (.int .i64 3))]
 (.ite (.v 3)
  (.ret [(.c (fnD 96)), (.c (.bool true))])
 (.ret [(.c (.raw .nilFunc)), (.c (.bool false))])))))))
theorem rd32 : readFn T SG sigs 3000 sg32 Tryd.f58 an32 = some ir32 := by kernel_rfl
def an33 : Ann := (.f [94, 95, 96] (.s none .z (.s none .z (.s none .z (.s none .z (.s none (.s none .z (.b (.l ⟨3, [(0, .junk), (2, .junk), (3, (.atm (.v 0))), (8, .junk), (10, (.atm (.v 1))), (15, .junk), (16, .junk), (17, .junk), (20, (.atm (.v 2)))], [], 0, []⟩ (.s none .z (.s none .z (.s (some ⟨2, [(3, (.atm (.v 0))), (10, (.atm (.v 1))), (21, .junk)], [], 0, []⟩) (.b (.s none .z (.s none (.s none .z (.b (.l ⟨2, [(3, (.atm (.v 0))), (21, .junk), (22, .junk), (23, .junk), (26, (.atm (.v 1)))], [], 0, []⟩ (.s none .z (.s none .z (.s none (.b (.s none .z (.s (some ⟨2, [(3, (.atm (.v 0))), (14, .junk), (27, .junk), (28, .junk), (29, .junk), (37, (.atm (.v 1)))], [], 0, []⟩) .z .z))) .z)))))) .z))) .z)))))) .z))))))
def ir33p0 : IR :=
 (.op (.bin .add false) [(.v 8), (.c (.int .i64 1))]
 (.jump 0 [(.v 10), (.v 11), (.v 12)]))
def ir33p1 : IR :=
 (.ite (.v 17)
  (.jump 1 [(.v 16), (.v 7)])
 (.op (.bin .add false) [(.v 13), (.c (.int .i64 1))]
 (.jump 2 [(.v 16), (.v 18)])))
def ir33p2 : IR :=
 (.op (.bin .lss false) [(.v 13), (.v 11)]
 (.ite (.v 14)
  (.op (.row 1) [(.v 4), (.v 13)]
  (.letj 2
   (.call 34 1 false [] [(.v 1), (.v 15)]
   (.call 34 1 false [] [(.v 1), (.v 10)]
   (.isf (.v 12) 94
    (.call 48 1 false [] [(.v 16), (.v 17)]
    (.jump 3 [(.c (fnD 94)), (.v 18)]))
   (.isf (.v 12) 95
    (.call 49 1 false [] [(.v 16), (.v 17)]
    (.jump 3 [(.c (fnD 95)), (.v 18)]))
   (.isf (.v 12) 96
    (.call 50 1 false [] [(.v 16), (.v 17)]
    (.jump 3 [(.c (fnD 96)), (.v 18)]))
   .fail)))))
  ir33p1))
 (.op (.conv .u64) [(.v 10)]
 (.op (.bin .shl false) [(.c (.int .u64 1)), (.v 15)]
 (.op (.bin .or false) [(.v 7), (.v 16)]
 (.jump 1 [(.v 12), (.v 17)]))))))
def ir33p3 : IR :=
 (.op (.bin .lss false) [(.v 8), (.v 5)]
 (.ite (.v 9)
  (.letj 2
   (.op (.row 1) [(.v 4), (.v 8)]
   (.op .lenL [(.v 4)]
   (.loop 2 [(.v 6), (.c (.int .i64 0))] ir33p2)))
  ir33p0)
 (.ret [(.v 7)])))
def ir33 : IR :=
 (.call 44 1 false [] [(.v 0), (.v 2)]
 (.op .lenL [(.v 4)]
 (.loop 3 [(.v 3), (.c (.int .u64 0)), (.c (.int .i64 0))] ir33p3)))
theorem rd33 : readFn T SG sigs 3000 sg33 Tryd.f59 an33 = some ir33 := by kernel_rfl
def an34 : Ann := .z
def ir34 : IR :=
 (.op (.bin .xor false) [(.v 0), (.v 1)]
 (.op (.conv .u64) [(.v 2)]
 (.op (.bin .and false) [(.v 3), (.c (.int .u64 63))]
 (.ret [(.v 4)]))))
theorem rd34 : readFn T SG sigs 3000 sg34 Tryd.f61 an34 = some ir34 := by kernel_rfl
def an35 : Ann := .z
def ir35 : IR :=
 (.op (.bin .shr false) [(.v 0), (.c (.int .u64 1))]
 (.op (.bin .and false) [(.v 1), (.c (.int .u64 6148914691236517205))]
 (.op (.bin .and false) [(.v 0), (.c (.int .u64 6148914691236517205))]
 (.op (.bin .add false) [(.v 2), (.v 3)]
 (.op (.bin .shr false) [(.v 4), (.c (.int .u64 2))]
 (.op (.bin .and false) [(.v 5), (.c (.int .u64 3689348814741910323))]
 (.op (.bin .and false) [(.v 4), (.c (.int .u64 3689348814741910323))]
 (.op (.bin .add false) [(.v 6), (.v 7)]
 (.op (.bin .shr false) [(.v 8), (.c (.int .u64 4))]
 (.op (.bin .add false) [(.v 9), (.v 8)]
 (.op (.bin .and false) [(.v 10), (.c (.int .u64 1085102592571150095))]
 (.op (.bin .shr false) [(.v 11), (.c (.int .u64 8))]
 (.op (.bin .add false) [(.v 11), (.v 12)]
 (.op (.bin .shr false) [(.v 13), (.c (.int .u64 16))]
 (.op (.bin .add false) [(.v 13), (.v 14)]
 (.op (.bin .shr false) [(.v 15), (.c (.int .u64 32))]
 (.op (.bin .add false) [(.v 15), (.v 16)]
 (.op (.conv .i64) [(.v 17)]
 (.op (.bin .and false) [(.v 18), (.c (.int .i64 127))]
 (.ret [(.v 19)]))))))))))))))))))))
theorem rd35 : readFn T SG sigs 3000 sg35 Tryd.f60 an35 = some ir35 := by kernel_rfl
def an36 : Ann := (.s none .z (.s none (.s (some ⟨1, [(2, .junk), (21, (.atm (.v 0)))], [], 0, []⟩) .z .z) (.s none (.s none .z (.b (.l ⟨1, [(3, (.atm (.v 0))), (21, .junk)], [], 0, []⟩ (.s none .z (.s none (.b (.s (some ⟨1, [(22, .junk), (23, .junk), (24, .junk), (25, .junk), (55, (.atm (.v 0)))], [], 0, []⟩) .z .z)) .z))))) .z)))
def ir36p0 : IR :=
 (.ite (.v 5)
  (.ret [(.c (.bool false))])
 (.op (.bin .add false) [(.v 2), (.c (.int .i64 1))]
 (.jump 0 [(.v 6)])))
def ir36p1 : IR :=
 (.op .lenS [(.v 0)]
 (.op (.bin .lss false) [(.v 2), (.v 3)]
 (.ite (.v 4)
  (.letj 1
   (.op .idxS [(.v 0), (.v 2)]
   (.op (.bin .lss false) [(.v 5), (.c (.int .u8 97))]
   (.ite (.v 6)
    (.op .idxS [(.v 0), (.v 2)]
    (.op (.bin .lss false) [(.v 7), (.c (.int .u8 48))]
    (.ite (.v 8)
     (.op .idxS [(.v 0), (.v 2)]
     (.op (.bin .neq false) [(.v 9), (.c (.int .u8 95))]
     (.jump 1 [(.v 10)])))
    (.op .idxS [(.v 0), (.v 2)]
    (.op (.bin .gtr false) [(.v 9), (.c (.int .u8 57))]
    (.ite (.v 10)
     (.op .idxS [(.v 0), (.v 2)]
     (.op (.bin .neq false) [(.v 11), (.c (.int .u8 95))]
     (.jump 1 [(.v 12)])))
    (.jump 1 [(.c (.bool false))])))))))
   (.op .idxS [(.v 0), (.v 2)]
   (.op (.bin .gtr false) [(.v 7), (.c (.int .u8 122))]
   (.ite (.v 8)
    (.op .idxS [(.v 0), (.v 2)]
    (.op (.bin .lss false) [(.v 9), (.c (.int .u8 48))]
    (.ite (.v 10)
     (.op .idxS [(.v 0), (.v 2)]
     (.op (.bin .neq false) [(.v 11), (.c (.int .u8 95))]
     (.jump 1 [(.v 12)])))
    (.op .idxS [(.v 0), (.v 2)]
    (.op (.bin .gtr false) [(.v 11), (.c (.int .u8 57))]
    (.ite (.v 12)
     (.op .idxS [(.v 0), (.v 2)]
     (.op (.bin .neq false) [(.v 13), (.c (.int .u8 95))]
     (.jump 1 [(.v 14)])))
    (.jump 1 [(.c (.bool false))])))))))
   (.jump 1 [(.c (.bool false))])))))))
  ir36p0)
 (.ret [(.c (.bool true))]))))
def ir36p2 : IR :=
 (.ite (.v 1)
  (.ret [(.c (.bool false))])
 (.loop 1 [(.c (.int .i64 0))] ir36p1))
def ir36 : IR :=
 (.letj 1
  (.op .lenS [(.v 0)]
  (.op (.bin .lss false) [(.v 1), (.c (.int .i64 1))]
  (.ite (.v 2)
   (.jump 0 [(.c (.bool true))])
  (.op .lenS [(.v 0)]
  (.op (.bin .gtr false) [(.v 3), (.c (.int .i64 12))]
  (.ite (.v 4)
   (.jump 0 [(.c (.bool true))])
  (.op .idxS [(.v 0), (.c (.int .i64 0))]
  (.op (.bin .lss false) [(.v 5), (.c (.int .u8 97))]
  (.ite (.v 6)
   (.jump 0 [(.c (.bool true))])
  (.op .idxS [(.v 0), (.c (.int .i64 0))]
  (.op (.bin .gtr false) [(.v 7), (.c (.int .u8 122))]
  (.jump 0 [(.v 8)]))))))))))))
 ir36p2)
theorem rd36 : readFn T SG sigs 3000 sg36 Tryd.f85 an36 = some ir36 := by kernel_rfl
def an37 : Ann := (.s none .z (.s none .z (.s none (.s none .z (.b (.l ⟨2, [(0, .junk), (2, .junk), (3, (.atm (.v 0))), (4, (.atm (.v 1)))], [], 1, []⟩ .z))) .z)))
def ir37p0 : IR :=
 (.op .lenL [(.v 2)]
 (.op (.bin .lss false) [(.v 4), (.v 5)]
 (.ite (.v 6)
  (.op (.row 3) [(.v 2), (.v 4)]
  (.call 37 1 false [] [(.v 7), (.v 8), (.v 9)]
  (.op (.bin .add false) [(.v 3), (.v 10)]
  (.op (.bin .add false) [(.v 4), (.c (.int .i64 1))]
  (.jump 0 [(.v 11), (.v 12)])))))
 (.ret [(.v 3)]))))
def ir37 : IR :=
 (.loop 2 [(.c (.int .i64 1)), (.c (.int .i64 0))] ir37p0)
theorem rd37 : readFn T SG sigs 3000 sg37 Tryd.f88 an37 = some ir37 := by kernel_rfl
def an38 : Ann := (.s none .z (.s none .z (.s none (.s none .z (.b (.l ⟨2, [(0, .junk), (2, .junk), (3, (.atm (.v 0))), (4, (.atm (.v 1)))], [], 1, []⟩ .z))) .z)))
def ir38p0 : IR :=
 (.op .lenL [(.v 2)]
 (.op (.bin .lss false) [(.v 4), (.v 5)]
 (.ite (.v 6)
  (.op (.row 3) [(.v 2), (.v 4)]
  (.call 38 1 false [] [(.v 7), (.v 8), (.v 9)]
  (.op (.bin .add false) [(.c (.int .i64 1)), (.v 10)]
  (.op .max [(.v 3), (.v 11)]
  (.op (.bin .add false) [(.v 4), (.c (.int .i64 1))]
  (.jump 0 [(.v 12), (.v 13)]))))))
 (.ret [(.v 3)]))))
def ir38 : IR :=
 (.loop 2 [(.c (.int .i64 0)), (.c (.int .i64 0))] ir38p0)
theorem rd38 : readFn T SG sigs 3000 sg38 Tryd.f89 an38 = some ir38 := by kernel_rfl
def an39 : Ann := (.s none .z (.s none .z (.s none .z (.s (some ⟨1, [(0, .junk), (2, .junk), (4, (.atm (.v 0))), (6, .junk), (7, .junk), (8, .junk)], [], 1, []⟩) (.s none .z (.b (.s (some ⟨1, [(0, .junk), (2, .junk), (6, .junk), (7, .junk), (8, .junk), (9, .junk), (11, (.atm (.v 0)))], [], 1, []⟩) .z (.c .z (.s none .z (.c .z (.s (some ⟨1, [(11, .junk), (17, .junk), (18, .junk), (21, (.atm (.v 0)))], [], 1, []⟩) .z (.c .z (.s (some ⟨1, [(10, .junk), (21, .junk), (30, (.atm (.v 0)))], [], 1, []⟩) .z .z))))))))) (.s none (.s none .z (.b (.l ⟨2, [(4, (.atm (.v 0))), (5, (.atm (.v 1)))], [], 1, []⟩ (.s none .z (.s (some ⟨1, [(4, (.atm (.v 0))), (35, .junk), (36, .junk), (37, .junk)], [], 1, []⟩) .z .z))))) .z)))))
def ir39p0 : IR :=
 (.op (.bin .add false) [(.v 6), (.c (.int .i64 1))]
 (.jump 0 [(.v 8), (.v 9)]))
def ir39p1 : IR :=
 (.op (.bin .lss false) [(.v 6), (.v 3)]
 (.ite (.v 7)
  (.letj 1
   (.ite (.v 5)
    (.op (.row 3) [(.v 2), (.v 6)]
    (.call 39 1 false [] [(.v 8), (.v 9), (.v 10)]
    (.jump 1 [(.v 11)])))
   (.jump 1 [(.c (.bool false))]))
  ir39p0)
 (.ret [(.v 5)])))
def ir39p2 : IR :=
 (.loop 2 [(.v 4), (.c (.int .i64 0))] ir39p1)
def ir39p3 : IR :=
 (.ite (.v 7)
  (.op (.bin .eql false) [(.v 3), (.c (.int .i64 2))]
  (.jump 0 [(.v 8)]))
 (.jump 0 [(.c (.bool false))]))
def ir39p4 : IR :=
 (.ite (.v 6)
  (.op (.bin .geq false) [(.v 3), (.c (.int .i64 2))]
  (.ite (.v 7)
   (.op (.bin .leq false) [(.v 3), (.c (.int .i64 6))]
   (.jump 0 [(.v 8)]))
  (.jump 0 [(.c (.bool false))])))
 (.letj 1
  (.op (.bin .eql false) [(.v 0), (.c (.int .i64 7))]
  (.ite (.v 7)
   (.jump 1 [(.c (.bool true))])
  (.op (.bin .eql false) [(.v 0), (.c (.int .i64 8))]
  (.jump 1 [(.v 8)]))))
 ir39p3))
def ir39p5 : IR :=
 (.ite (.v 4)
  (.op (.bin .eql false) [(.v 3), (.c (.int .i64 0))]
  (.jump 0 [(.v 5)]))
 (.op (.bin .eql false) [(.v 0), (.c (.int .i64 4))]
 (.ite (.v 5)
  (.op (.bin .eql false) [(.v 3), (.c (.int .i64 1))]
  (.jump 0 [(.v 6)]))
 (.letj 1
  (.op (.bin .eql false) [(.v 0), (.c (.int .i64 5))]
  (.ite (.v 6)
   (.jump 1 [(.c (.bool true))])
  (.op (.bin .eql false) [(.v 0), (.c (.int .i64 6))]
  (.jump 1 [(.v 7)]))))
 ir39p4))))
def ir39 : IR :=
 (.op .lenL [(.v 2)]
 (.letj 1
  (.letj 1
   (.op (.bin .eql false) [(.v 0), (.c (.int .i64 1))]
   (.ite (.v 4)
    (.jump 1 [(.c (.bool true))])
   (.op (.bin .eql false) [(.v 0), (.c (.int .i64 2))]
   (.ite (.v 5)
    (.jump 1 [(.c (.bool true))])
   (.op (.bin .eql false) [(.v 0), (.c (.int .i64 3))]
   (.jump 1 [(.v 6)]))))))
  ir39p5)
 ir39p2))
theorem rd39 : readFn T SG sigs 3000 sg39 Tryd.f90 an39 = some ir39 := by kernel_rfl
def an40 : Ann := (.s none .z (.s none .z (.s (some ⟨1, [(0, .junk), (2, .junk), (3, (.atm (.v 0))), (5, .junk), (6, .junk), (7, .junk)], [], 1, []⟩) .z (.s none (.s none .z (.b (.l ⟨2, [(3, (.atm (.v 0))), (4, (.atm (.v 1)))], [], 1, []⟩ (.s none .z (.s (some ⟨1, [(3, (.atm (.v 0))), (14, .junk), (15, .junk), (16, .junk), (17, .junk), (18, .junk)], [], 1, []⟩) .z .z))))) .z))))
def ir40p0 : IR :=
 (.op (.bin .add false) [(.v 6), (.c (.int .i64 1))]
 (.jump 0 [(.v 9), (.v 10)]))
def ir40p1 : IR :=
 (.op .lenL [(.v 2)]
 (.op (.bin .lss false) [(.v 6), (.v 7)]
 (.ite (.v 8)
  (.letj 1
   (.ite (.v 5)
    (.op (.row 3) [(.v 2), (.v 6)]
    (.call 40 1 false [] [(.v 9), (.v 10), (.v 11)]
    (.jump 1 [(.v 12)])))
   (.jump 1 [(.c (.bool false))]))
  ir40p0)
 (.ret [(.v 5)]))))
def ir40p2 : IR :=
 (.loop 2 [(.v 4), (.c (.int .i64 0))] ir40p1)
def ir40 : IR :=
 (.op (.bin .eql false) [(.v 1), (.c (.str []))]
 (.letj 1
  (.op (.bin .eql false) [(.v 0), (.c (.int .i64 3))]
  (.ite (.v 4)
   (.call 36 1 false [] [(.v 1)]
   (.jump 0 [(.v 5)]))
  (.jump 0 [(.v 3)])))
 ir40p2))
theorem rd40 : readFn T SG sigs 3000 sg40 Tryd.f91 an40 = some ir40 := by kernel_rfl
def an41 : Ann := (.s none .z (.s (some ⟨1, [(0, (.atm (.v 0))), (1, .junk), (4, .junk)], [], 1, []⟩) (.s (some ⟨1, [(1, .junk), (4, .junk), (14, (.atm (.v 0)))], [], 1, []⟩) .z .z) (.s none (.s none .z (.b (.l ⟨2, [(0, (.atm (.v 0))), (5, (.atm (.v 1)))], [], 1, []⟩ .z))) .z)))
def ir41p0 : IR :=
 (.op .lenL [(.v 3)]
 (.op (.bin .lss false) [(.v 6), (.v 7)]
 (.ite (.v 8)
  (.op (.row 3) [(.v 3), (.v 6)]
  (.call 41 1 false [] [(.v 5), (.v 9), (.v 10), (.v 11)]
  (.op (.bin .add false) [(.v 6), (.c (.int .i64 1))]
  (.jump 0 [(.v 12), (.v 13)]))))
 (.ret [(.v 5)]))))
def ir41p1 : IR :=
 (.loop 2 [(.v 4), (.c (.int .i64 0))] ir41p0)
def ir41p2 : IR :=
 (.ite (.v 4)
  (.call 51 1 false [] [(.v 0), (.v 2)]
  (.jump 0 [(.v 5)]))
 (.jump 0 [(.v 0)]))
def ir41 : IR :=
 (.letj 1
  (.letj 1
   (.op (.bin .eql false) [(.v 1), (.c (.int .i64 3))]
   (.ite (.v 4)
    (.op .lenL [(.v 3)]
    (.op (.bin .eql false) [(.v 5), (.c (.int .i64 0))]
    (.jump 1 [(.v 6)])))
   (.jump 1 [(.c (.bool false))])))
  ir41p2)
 ir41p1)
theorem rd41 : readFn T SG sigs 3000 sg41 Tryd.f92 an41 = some ir41 := by kernel_rfl
def an42 : Ann := (.s none .z (.s none (.s none .z (.b (.s none .z (.c .z (.s none .z (.c (.s none (.s none .z (.b (.l ⟨1, [(0, .junk), (4, .junk), (5, (.atm (.v 0))), (8, .junk), (9, .junk), (10, .junk), (11, .junk), (12, .junk), (13, .junk)], [], 1, []⟩ .z))) .z) (.s none .z (.c .z (.s none .z (.c (.s none (.s none .z (.b (.l ⟨1, [(0, .junk), (4, .junk), (6, (.atm (.v 0))), (8, .junk), (9, .junk), (10, .junk), (11, .junk), (12, .junk), (13, .junk), (27, .junk), (28, .junk), (36, .junk), (37, .junk)], [], 1, []⟩ .z))) .z) (.s none .z (.c (.s none (.s none .z (.b (.l ⟨1, [(0, .junk), (4, .junk), (7, (.atm (.v 0))), (8, .junk), (9, .junk), (10, .junk), (11, .junk), (12, .junk), (13, .junk), (27, .junk), (28, .junk), (36, .junk), (37, .junk), (53, .junk), (54, .junk)], [], 1, []⟩ .z))) .z) .z)))))))))))) .z))
def ir42p0 : IR :=
 (.op .lenL [(.v 3)]
 (.op (.bin .lss false) [(.v 6), (.v 7)]
 (.ite (.v 8)
  (.op (.row 1) [(.v 3), (.v 6)]
  (.op (.bin .eql false) [(.v 9), (.v 1)]
  (.ite (.v 10)
   (.ret [(.c (.bool true))])
  (.op (.bin .add false) [(.v 6), (.c (.int .i64 1))]
  (.jump 0 [(.v 11)])))))
 (.ret [(.c (.bool false))]))))
def ir42p1 : IR :=
 (.op .lenL [(.v 2)]
 (.op (.bin .lss false) [(.v 8), (.v 9)]
 (.ite (.v 10)
  (.op (.row 3) [(.v 2), (.v 8)]
  (.call 42 1 false [] [(.v 11), (.v 12), (.v 13), (.v 3)]
  (.op (.un .not) [(.v 14)]
  (.ite (.v 15)
   (.ret [(.c (.bool false))])
  (.op (.bin .add false) [(.v 8), (.c (.int .i64 1))]
  (.jump 0 [(.v 16)]))))))
 (.ret [(.c (.bool true))]))))
def ir42p2 : IR :=
 (.op .lenL [(.v 2)]
 (.op (.bin .lss false) [(.v 9), (.v 10)]
 (.ite (.v 11)
  (.op (.row 3) [(.v 2), (.v 9)]
  (.call 42 1 false [] [(.v 12), (.v 13), (.v 14), (.v 3)]
  (.ite (.v 15)
   (.ret [(.c (.bool true))])
  (.op (.bin .add false) [(.v 9), (.c (.int .i64 1))]
  (.jump 0 [(.v 16)])))))
 (.ret [(.c (.bool false))]))))
def ir42 : IR :=
 (.op (.bin .eql false) [(.v 0), (.c (.int .i64 1))]
 (.ite (.v 4)
  (.ret [(.c (.bool true))])
 (.op (.bin .eql false) [(.v 0), (.c (.int .i64 3))]
 (.ite (.v 5)
  (.loop 1 [(.c (.int .i64 0))] ir42p0)
 (.op (.bin .eql false) [(.v 0), (.c (.int .i64 4))]
 (.ite (.v 6)
  (.op (.row 3) [(.v 2), (.c (.int .i64 0))]
  (.call 42 1 false [] [(.v 7), (.v 8), (.v 9), (.v 3)]
  (.op (.un .not) [(.v 10)]
  (.ret [(.v 11)]))))
 (.op (.bin .eql false) [(.v 0), (.c (.int .i64 5))]
 (.ite (.v 7)
  (.loop 1 [(.c (.int .i64 0))] ir42p1)
 (.op (.bin .eql false) [(.v 0), (.c (.int .i64 6))]
 (.ite (.v 8)
  (.loop 1 [(.c (.int .i64 0))] ir42p2)
 (.op (.bin .eql false) [(.v 0), (.c (.int .i64 7))]
 (.ite (.v 9)
  (.op (.row 3) [(.v 2), (.c (.int .i64 0))]
  (.call 42 1 false [] [(.v 10), (.v 11), (.v 12), (.v 3)]
  (.op (.un .not) [(.v 13)]
  (.ite (.v 14)
   (.ret [(.c (.bool true))])
  (.op (.row 3) [(.v 2), (.c (.int .i64 1))]
  (.call 42 1 false [] [(.v 15), (.v 16), (.v 17), (.v 3)]
  (.ret [(.v 18)])))))))
 (.op (.bin .eql false) [(.v 0), (.c (.int .i64 8))]
 (.ite (.v 10)
  (.op (.row 3) [(.v 2), (.c (.int .i64 0))]
  (.call 42 1 false [] [(.v 11), (.v 12), (.v 13), (.v 3)]
  (.op (.row 3) [(.v 2), (.c (.int .i64 1))]
  (.call 42 1 false [] [(.v 15), (.v 16), (.v 17), (.v 3)]
  (.op (.bin .eql true) [(.v 14), (.v 18)]
  (.ret [(.v 19)]))))))
 (.ret [(.c (.bool false))])))))))))))))))
theorem rd42 : readFn T SG sigs 3000 sg42 Tryd.f93 an42 = some ir42 := by kernel_rfl
def an43 : Ann := (.s none .z (.s none .z (.s none .z (.s none (.s none .z (.b (.l ⟨1, [(1, .junk), (4, .junk), (5, .junk), (6, .junk), (9, .junk), (10, .junk), (11, .junk), (12, .junk), (13, .junk), (14, .junk), (15, .junk), (17, .junk), (20, (.atm (.v 0)))], [], 1, []⟩ .z))) .z))))
def ir43p0 : IR :=
 (.op (.bin .lss false) [(.v 10), (.v 9)]
 (.ite (.v 11)
  (.op (.row 1) [(.v 8), (.v 10)]
  (.call 54 1 false [] [(.v 0), (.v 12)]
  (.op (.un .not) [(.v 13)]
  (.ite (.v 14)
   (.ret [(.c (.int .u64 0)), (.c (.int .i64 6))])
  (.op (.bin .add false) [(.v 10), (.c (.int .i64 1))]
  (.jump 0 [(.v 15)]))))))
 (.call 55 1 false [] [(.v 0), (.v 1), (.v 2), (.v 3)]
 (.call 30 1 false [] [(.v 0)]
 (.op (.bin .and false) [(.v 12), (.v 13)]
 (.ret [(.v 14), (.c (.int .i64 0))]))))))
def ir43 : IR :=
 (.call 31 1 false [] [(.v 0)]
 (.op (.un .not) [(.v 4)]
 (.ite (.v 5)
  (.ret [(.c (.int .u64 0)), (.c (.int .i64 1))])
 (.call 52 1 false [] [(.v 1), (.v 2), (.v 3)]
 (.op (.bin .neq false) [(.v 6), (.c (.int .i64 0))]
 (.ite (.v 7)
  (.ret [(.c (.int .u64 0)), (.v 6)])
 (.call 53 1 false [] [(.v 1), (.v 2), (.v 3)]
 (.op .lenL [(.v 8)]
 (.loop 1 [(.c (.int .i64 0))] ir43p0)))))))))
theorem rd43 : readFn T SG sigs 3000 sg43 Tryd.f33 an43 = some ir43 := by kernel_rfl
def an44 : Ann := (.s none .z (.s none .z (.s none (.s none .z (.b (.l ⟨2, [(0, .junk), (1, (.atm (.v 0))), (4, .junk), (6, .junk), (7, .junk), (8, .junk), (9, .junk)], [(0, ⟨false, true, 3, 1, (.v 1), []⟩)], 1, [⟨none, 5, 3, 1⟩]⟩ .z))) .z)))
def ir44p0 : IR :=
 (.op (.bin .neq false) [(.v 4), (.c (.int .u64 0))]
 (.ite (.v 6)
  (.call 56 1 false [] [(.v 4)]
  (.op (.mk 1 1) [(.v 7)]
  (.op (.app 1 8) [(.v 5), (.v 8)]
  (.op (.bin .sub false) [(.v 4), (.c (.int .u64 1))]
  (.op (.bin .and false) [(.v 4), (.v 10)]
  (.jump 0 [(.v 11), (.v 9)]))))))
 (.ret [(.v 5)])))
def ir44 : IR :=
 (.call 30 1 false [] [(.v 0)]
 (.op (.bin .and false) [(.v 1), (.v 2)]
 (.loop 2 [(.v 3), (.c (.sl []))] ir44p0)))
theorem rd44 : readFn T SG sigs 3000 sg44 Tryd.f44 an44 = some ir44 := by kernel_rfl
def an45 : Ann := (.s none .z (.s none .z (.s none .z (.s none .z (.s none .z (.s none .z (.s none (.b (.s none .z (.c .z (.s (some ⟨1, [(0, .junk), (1, .junk), (9, .junk), (10, .junk), (11, .junk), (12, .junk), (13, .junk), (15, .junk), (16, .junk), (17, .junk), (18, .junk), (19, .junk), (20, .junk), (21, .junk), (23, .junk), (24, .junk), (25, .junk), (26, .junk), (27, .junk), (28, .junk), (29, .junk), (30, .junk), (31, .junk), (32, .junk), (33, .junk), (34, .junk), (35, .junk), (36, .junk), (37, .junk), (38, .junk), (39, .junk), (40, .junk), (41, .junk), (42, .junk), (43, .junk), (44, .junk), (45, .junk), (47, (.atm (.v 0)))], [], 18, []⟩) .z (.c .z (.s none .z (.c .z (.s (some ⟨1, [(47, .junk), (57, .junk), (58, .junk), (59, .junk), (60, .junk), (64, (.atm (.v 0)))], [], 18, []⟩) .z .z)))))))) .z)))))))
def ir45p0 : IR :=
 (.ite (.v 26)
  (.ret [(.c (.int .i64 4)), (.c (.str [])), (.v 10)])
 (.op (.bin .eql false) [(.v 14), (.c (.int .i64 2))]
 (.ite (.v 27)
  (.call 59 3 false [] [(.c (.int .i64 5)), (.c (.int .i64 4)), (.c (.str [])), (.v 10), (.v 20), (.v 21), (.v 22)]
  (.ret [(.v 28), (.v 29), (.v 30)]))
 (.op (.bin .eql false) [(.v 20), (.c (.int .i64 1))]
 (.ite (.v 28)
  (.call 59 3 false [] [(.c (.int .i64 6)), (.c (.int .i64 4)), (.c (.str [])), (.v 10), (.v 14), (.v 15), (.v 16)]
  (.ret [(.v 29), (.v 30), (.v 31)]))
 (.op (.bin .eql false) [(.v 20), (.c (.int .i64 2))]
 (.ite (.v 29)
  (.call 59 3 false [] [(.c (.int .i64 5)), (.c (.int .i64 3)), (.v 9), (.c (.sl [])), (.v 14), (.v 15), (.v 16)]
  (.ret [(.v 30), (.v 31), (.v 32)]))
 (.call 59 3 false [] [(.c (.int .i64 5)), (.c (.int .i64 3)), (.v 9), (.c (.sl [])), (.v 14), (.v 15), (.v 16)]
 (.call 59 3 false [] [(.c (.int .i64 5)), (.c (.int .i64 4)), (.c (.str [])), (.v 10), (.v 20), (.v 21), (.v 22)]
 (.call 59 3 false [] [(.c (.int .i64 6)), (.v 30), (.v 31), (.v 32), (.v 33), (.v 34), (.v 35)]
 (.ret [(.v 36), (.v 37), (.v 38)])))))))))))
def ir45p1 : IR :=
 (.ite (.v 24)
  (.ret [(.c (.int .i64 3)), (.v 9), (.c (.sl []))])
 (.op (.bin .eql false) [(.v 14), (.c (.int .i64 1))]
 (.ite (.v 25)
  (.call 59 3 false [] [(.c (.int .i64 6)), (.c (.int .i64 3)), (.v 9), (.c (.sl [])), (.v 20), (.v 21), (.v 22)]
  (.ret [(.v 26), (.v 27), (.v 28)]))
 (.letj 1
  (.op (.bin .eql false) [(.v 14), (.c (.int .i64 2))]
  (.ite (.v 26)
   (.op (.bin .eql false) [(.v 20), (.c (.int .i64 1))]
   (.jump 0 [(.v 27)]))
  (.jump 0 [(.c (.bool false))])))
 ir45p0))))
def ir45 : IR :=
 (.call 7 1 false [] [(.v 0)]
 (.op (.bin .and false) [(.v 1), (.v 2)]
 (.op (.bin .eql false) [(.v 3), (.c (.int .u64 0))]
 (.ite (.v 4)
  (.ret [(.c (.int .i64 2)), (.c (.str [])), (.c (.sl []))])
 (.call 7 1 false [] [(.v 0)]
 (.op (.bin .and false) [(.v 1), (.v 5)]
 (.call 7 1 false [] [(.v 0)]
 (.op (.bin .eql false) [(.v 6), (.v 7)]
 (.ite (.v 8)
  (.ret [(.c (.int .i64 1)), (.c (.str [])), (.c (.sl []))])
 (.op (.row 1) [(.v 0), (.c (.int .i64 0))]
 (.op (.mk 3 1) [(.c (.int .i64 3)), (.v 9), (.c (.sl []))]
 (.op .lenL [(.v 0)]
 (.op (.subL 1) [(.v 0), (.c (.int .i64 1)), (.v 11)]
 (.call 57 1 false [] [(.v 0), (.v 1), (.c (.int .i64 1))]
 (.call 45 3 false [] [(.v 12), (.v 13)]
 (.op .lenL [(.v 0)]
 (.op (.subL 1) [(.v 0), (.c (.int .i64 1)), (.v 17)]
 (.call 57 1 false [] [(.v 0), (.v 1), (.c (.int .i64 0))]
 (.call 45 3 false [] [(.v 18), (.v 19)]
 (.call 58 1 false [] [(.v 14), (.v 15), (.v 16), (.v 20), (.v 21), (.v 22)]
 (.ite (.v 23)
  (.ret [(.v 14), (.v 15), (.v 16)])
 (.letj 1
  (.op (.bin .eql false) [(.v 14), (.c (.int .i64 1))]
  (.ite (.v 24)
   (.op (.bin .eql false) [(.v 20), (.c (.int .i64 2))]
   (.jump 0 [(.v 25)]))
  (.jump 0 [(.c (.bool false))])))
 ir45p1))))))))))))))))))))))
theorem rd45 : readFn T SG sigs 3000 sg45 Tryd.f64 an45 = some ir45 := by kernel_rfl
def an46 : Ann := .z
def ir46 : IR :=
 (.op (.bin .shl false) [(.c (.int .u64 1)), (.v 0)]
 (.op (.bin .sub false) [(.c (.int .u64 64)), (.v 1)]
 (.op (.bin .shr false) [(.c (.int .u64 18446744073709551615)), (.v 2)]
 (.ret [(.v 3)]))))
theorem rd46 : readFn T SG sigs 3000 sg46 Tryd.f69 an46 = some ir46 := by kernel_rfl
def an47 : Ann := (.s none .z (.s none (.s (some ⟨1, [(2, .junk), (12, (.atm (.v 0)))], [], 0, []⟩) .z .z) (.s none (.s none .z (.b (.l ⟨1, [(12, .junk), (13, .junk), (15, (.atm (.v 0)))], [], 0, []⟩ (.s none .z (.s none .z (.s (some ⟨0, [(16, .junk)], [], 0, []⟩) (.b (.s none .z (.s none .z (.b (.s (some ⟨1, [(16, .junk), (17, .junk), (18, .junk), (19, .junk), (20, .junk), (21, (.atm (.v 0)))], [], 0, []⟩) .z (.c .z (.s (some ⟨1, [(3, .junk), (4, .junk), (21, .junk), (28, (.atm (.v 0)))], [], 0, []⟩) .z .z))))))) .z)))))) .z)))
def ir47p0 : IR :=
 (.op (.bin .add false) [(.v 3), (.c (.int .i64 1))]
 (.jump 0 [(.v 5)]))
def ir47p1 : IR :=
 (.ite (.v 7)
  (.jump 1 [])
 (.ret [(.c (.bool false))]))
def ir47p2 : IR :=
 (.ite (.v 6)
  (.jump 1 [])
 (.letj 1
  (.op (.bin .gtr false) [(.v 3), (.c (.int .i64 0))]
  (.ite (.v 7)
   (.op (.bin .geq false) [(.v 5), (.c (.int .u8 48))]
   (.ite (.v 8)
    (.op (.bin .leq false) [(.v 5), (.c (.int .u8 57))]
    (.ite (.v 9)
     (.jump 2 [(.c (.bool true))])
    (.op (.bin .eql false) [(.v 5), (.c (.int .u8 95))]
    (.jump 2 [(.v 10)]))))
   (.op (.bin .eql false) [(.v 5), (.c (.int .u8 95))]
   (.jump 2 [(.v 9)]))))
  (.jump 2 [(.c (.bool false))])))
 ir47p1))
def ir47p3 : IR :=
 (.op (.bin .lss false) [(.v 3), (.v 2)]
 (.ite (.v 4)
  (.letj 0
   (.op .idxS [(.v 0), (.v 3)]
   (.letj 1
    (.op (.bin .geq false) [(.v 5), (.c (.int .u8 97))]
    (.ite (.v 6)
     (.op (.bin .leq false) [(.v 5), (.c (.int .u8 122))]
     (.jump 2 [(.v 7)]))
    (.jump 2 [(.c (.bool false))])))
   ir47p2))
  ir47p0)
 (.ret [(.c (.bool true))])))
def ir47p4 : IR :=
 (.ite (.v 1)
  (.ret [(.c (.bool false))])
 (.op .lenS [(.v 0)]
 (.loop 1 [(.c (.int .i64 0))] ir47p3)))
def ir47 : IR :=
 (.letj 1
  (.op .lenS [(.v 0)]
  (.op (.bin .eql false) [(.v 1), (.c (.int .i64 0))]
  (.ite (.v 2)
   (.jump 0 [(.c (.bool true))])
  (.op .lenS [(.v 0)]
  (.op (.bin .gtr false) [(.v 3), (.c (.int .i64 12))]
  (.jump 0 [(.v 4)]))))))
 ir47p4)
theorem rd47 : readFn T SG sigs 3000 sg47 Tryd.f84 an47 = some ir47 := by kernel_rfl
def an48 : Ann := .z
def ir48 : IR :=
 (.call 35 1 false [] [(.v 0)]
 (.call 35 1 false [] [(.v 1)]
 (.op (.bin .lss false) [(.v 2), (.v 3)]
 (.ret [(.v 4)]))))
theorem rd48 : readFn T SG sigs 3000 sg48 Tryd.f94 an48 = some ir48 := by kernel_rfl
def an49 : Ann := .z
def ir49 : IR :=
 (.op (.bin .andNot false) [(.v 0), (.v 1)]
 (.op (.bin .eql false) [(.v 2), (.c (.int .u64 0))]
 (.ite (.v 3)
  (.op (.bin .neq false) [(.v 0), (.v 1)]
  (.ret [(.v 4)]))
 (.ret [(.c (.bool false))]))))
theorem rd49 : readFn T SG sigs 3000 sg49 Tryd.f95 an49 = some ir49 := by kernel_rfl
def an50 : Ann := .z
def ir50 : IR :=
 (.op (.bin .eql false) [(.v 0), (.c (.int .u64 0))]
 (.ite (.v 2)
  (.op (.bin .neq false) [(.v 1), (.c (.int .u64 0))]
  (.ret [(.v 3)]))
 (.ret [(.c (.bool false))])))
theorem rd50 : readFn T SG sigs 3000 sg50 Tryd.f96 an50 = some ir50 := by kernel_rfl
def an51 : Ann := (.s none .z (.s none .z (.s none (.b (.l ⟨1, [(4, .junk), (5, (.atm (.v 0)))], [], 0, []⟩ (.s none (.s (some ⟨1, [(18, (.atm (.v 0)))], [], 0, []⟩) .z .z) .z))) (.s none (.s (some ⟨1, [(18, .junk), (32, (.atm (.v 0)))], [], 0, []⟩) .z .z) .z))))
def ir51p0 : IR :=
 (.ite (.v 4)
  (.ret [(.v 0)])
 (.op (.subL 1) [(.v 0), (.c (.int .i64 0)), (.v 2)]
 (.op (.app 1 16) [(.c (.sl [])), (.v 5)]
 (.op (.mk 1 1) [(.v 1)]
 (.op (.app 1 16) [(.v 6), (.v 7)]
 (.op .lenL [(.v 0)]
 (.op (.subL 1) [(.v 0), (.v 2), (.v 9)]
 (.op (.app 1 16) [(.v 8), (.v 10)]
 (.ret [(.v 11)])))))))))
def ir51p1 : IR :=
 (.ite (.v 3)
  (.op (.bin .add false) [(.v 2), (.c (.int .i64 1))]
  (.jump 0 [(.v 4)]))
 (.letj 1
  (.op .lenL [(.v 0)]
  (.op (.bin .lss false) [(.v 2), (.v 4)]
  (.ite (.v 5)
   (.op (.row 1) [(.v 0), (.v 2)]
   (.op (.bin .eql false) [(.v 6), (.v 1)]
   (.jump 1 [(.v 7)])))
  (.jump 1 [(.c (.bool false))]))))
 ir51p0))
def ir51p2 : IR :=
 (.letj 1
  (.op .lenL [(.v 0)]
  (.op (.bin .lss false) [(.v 2), (.v 3)]
  (.ite (.v 4)
   (.op (.row 1) [(.v 0), (.v 2)]
   (.op (.bin .lss false) [(.v 5), (.v 1)]
   (.jump 1 [(.v 6)])))
  (.jump 1 [(.c (.bool false))]))))
 ir51p1)
def ir51 : IR :=
 (.loop 1 [(.c (.int .i64 0))] ir51p2)
theorem rd51 : readFn T SG sigs 3000 sg51 Tryd.f111 an51 = some ir51 := by kernel_rfl
def an52 : Ann := (.s none .z (.s none (.b (.s (some ⟨1, [(0, .junk), (2, .junk), (3, (.atm (.v 0)))], [], 1, []⟩) .z .z)) .z))
def ir52p0 : IR :=
 (.ite (.v 3)
  (.ret [(.c (.int .i64 2))])
 (.call 62 1 false [] [(.v 0), (.v 1), (.v 2)]
 (.op (.un .not) [(.v 4)]
 (.ite (.v 5)
  (.ret [(.c (.int .i64 4))])
 (.call 63 1 false [] [(.v 0), (.v 1), (.v 2)]
 (.op (.un .not) [(.v 6)]
 (.ite (.v 7)
  (.ret [(.c (.int .i64 3))])
 (.ret [(.c (.int .i64 0))]))))))))
def ir52 : IR :=
 (.letj 1
  (.call 60 1 false [] [(.v 0), (.v 1), (.v 2)]
  (.op (.bin .gtr false) [(.v 3), (.c (.int .i64 600))]
  (.ite (.v 4)
   (.jump 0 [(.c (.bool true))])
  (.call 61 1 false [] [(.v 0), (.v 1), (.v 2)]
  (.op (.bin .gtr false) [(.v 5), (.c (.int .i64 20))]
  (.jump 0 [(.v 6)]))))))
 ir52p0)
theorem rd52 : readFn T SG sigs 3000 sg52 Tryd.f35 an52 = some ir52 := by kernel_rfl
def an54 : Ann := .z
def ir54 : IR :=
 (.call 64 1 false [] [(.v 0), (.v 1)]
 (.op (.bin .geq false) [(.v 2), (.c (.int .i64 0))]
 (.ret [(.v 3)])))
theorem rd54 : readFn T SG sigs 3000 sg54 Tryd.f67 an54 = some ir54 := by kernel_rfl
def an55 : Ann := (.s none .z (.s none (.s none .z (.b (.s none .z (.c .z (.s none .z (.c .z (.s none .z (.c .z (.s none .z (.c .z (.s none .z (.c .z (.s none .z (.c (.s none .z (.s none (.s none .z (.b (.l ⟨2, [(1, .junk), (3, .junk), (4, .junk), (5, (.atm (.v 0))), (11, .junk), (12, .junk), (13, .junk), (14, .junk), (15, .junk), (16, .junk), (22, .junk), (23, .junk), (31, .junk), (32, .junk), (47, .junk), (48, .junk), (63, .junk), (64, .junk), (65, .junk), (68, (.atm (.v 1)))], [], 1, []⟩ .z))) .z)) .z)))))))))))))) (.s none .z (.s none (.s none .z (.b (.l ⟨2, [(1, .junk), (3, .junk), (4, .junk), (8, (.atm (.v 0))), (11, .junk), (12, .junk), (13, .junk), (14, .junk), (15, .junk), (16, .junk), (22, .junk), (23, .junk), (31, .junk), (32, .junk), (47, .junk), (48, .junk), (63, .junk), (64, .junk), (79, .junk), (82, (.atm (.v 1)))], [], 1, []⟩ .z))) .z))))
def ir55p0 : IR :=
 (.op (.bin .lss false) [(.v 12), (.v 10)]
 (.ite (.v 13)
  (.op (.row 3) [(.v 3), (.v 12)]
  (.call 55 1 false [] [(.v 0), (.v 14), (.v 15), (.v 16)]
  (.op (.bin .and false) [(.v 11), (.v 17)]
  (.op (.bin .add false) [(.v 12), (.c (.int .i64 1))]
  (.jump 0 [(.v 18), (.v 19)])))))
 (.ret [(.v 11)])))
def ir55p1 : IR :=
 (.op (.bin .lss false) [(.v 12), (.v 10)]
 (.ite (.v 13)
  (.op (.row 3) [(.v 3), (.v 12)]
  (.call 55 1 false [] [(.v 0), (.v 14), (.v 15), (.v 16)]
  (.op (.bin .or false) [(.v 11), (.v 17)]
  (.op (.bin .add false) [(.v 12), (.c (.int .i64 1))]
  (.jump 0 [(.v 18), (.v 19)])))))
 (.ret [(.v 11)])))
def ir55 : IR :=
 (.op (.bin .eql false) [(.v 1), (.c (.int .i64 1))]
 (.ite (.v 4)
  (.ret [(.c (.int .u64 18446744073709551615))])
 (.op (.bin .eql false) [(.v 1), (.c (.int .i64 3))]
 (.ite (.v 5)
  (.call 64 1 false [] [(.v 0), (.v 2)]
  (.call 65 1 false [] [(.v 6)]
  (.ret [(.v 7)])))
 (.op (.bin .eql false) [(.v 1), (.c (.int .i64 4))]
 (.ite (.v 6)
  (.op (.row 3) [(.v 3), (.c (.int .i64 0))]
  (.call 55 1 false [] [(.v 0), (.v 7), (.v 8), (.v 9)]
  (.op (.un .xor) [(.v 10)]
  (.ret [(.v 11)]))))
 (.op (.bin .eql false) [(.v 1), (.c (.int .i64 7))]
 (.ite (.v 7)
  (.op (.row 3) [(.v 3), (.c (.int .i64 0))]
  (.call 55 1 false [] [(.v 0), (.v 8), (.v 9), (.v 10)]
  (.op (.un .xor) [(.v 11)]
  (.op (.row 3) [(.v 3), (.c (.int .i64 1))]
  (.call 55 1 false [] [(.v 0), (.v 13), (.v 14), (.v 15)]
  (.op (.bin .or false) [(.v 12), (.v 16)]
  (.ret [(.v 17)])))))))
 (.op (.bin .eql false) [(.v 1), (.c (.int .i64 8))]
 (.ite (.v 8)
  (.op (.row 3) [(.v 3), (.c (.int .i64 0))]
  (.call 55 1 false [] [(.v 0), (.v 9), (.v 10), (.v 11)]
  (.op (.row 3) [(.v 3), (.c (.int .i64 1))]
  (.call 55 1 false [] [(.v 0), (.v 13), (.v 14), (.v 15)]
  (.op (.bin .xor false) [(.v 12), (.v 16)]
  (.op (.un .xor) [(.v 17)]
  (.ret [(.v 18)])))))))
 (.op (.bin .eql false) [(.v 1), (.c (.int .i64 5))]
 (.ite (.v 9)
  (.op .lenL [(.v 3)]
  (.loop 2 [(.c (.int .u64 18446744073709551615)), (.c (.int .i64 0))] ir55p0))
 (.op .lenL [(.v 3)]
 (.loop 2 [(.c (.int .u64 0)), (.c (.int .i64 0))] ir55p1))))))))))))))
theorem rd55 : readFn T SG sigs 3000 sg55 Tryd.f68 an55 = some ir55 := by kernel_rfl
def an57 : Ann := (.s none .z (.s none .z (.s none (.s none .z (.b (.l ⟨2, [(6, .junk), (7, (.atm (.v 0))), (8, (.atm (.v 1)))], [], 0, []⟩ (.s none .z (.s (some ⟨1, [(7, (.atm (.v 0))), (9, .junk), (10, .junk), (11, .junk), (12, .junk)], [], 0, []⟩) (.b (.s (some ⟨1, [(9, .junk), (10, .junk), (11, .junk), (12, .junk), (23, (.atm (.v 0)))], [], 0, []⟩) .z .z)) .z))))) .z)))
def ir57p0 : IR :=
 (.op (.bin .add false) [(.v 4), (.c (.int .i64 1))]
 (.jump 0 [(.v 7), (.v 8)]))
def ir57p1 : IR :=
 (.ite (.v 7)
  (.op (.bin .shr false) [(.v 4), (.c (.int .u64 1))]
  (.op (.conv .u64) [(.v 8)]
  (.op (.bin .shl false) [(.c (.int .u64 1)), (.v 9)]
  (.op (.bin .or false) [(.v 3), (.v 10)]
  (.jump 1 [(.v 11)])))))
 (.jump 1 [(.v 3)]))
def ir57p2 : IR :=
 (.call 19 1 false [] [(.v 0)]
 (.op (.bin .lss false) [(.v 4), (.v 5)]
 (.ite (.v 6)
  (.letj 1
   (.letj 1
    (.call 66 1 false [] [(.v 1), (.v 4)]
    (.ite (.v 7)
     (.op (.bin .and false) [(.v 4), (.c (.int .i64 1))]
     (.op (.bin .eql false) [(.v 8), (.v 2)]
     (.jump 2 [(.v 9)])))
    (.jump 2 [(.c (.bool false))])))
   ir57p1)
  ir57p0)
 (.ret [(.v 3)]))))
def ir57 : IR :=
 (.loop 2 [(.c (.int .u64 0)), (.c (.int .i64 0))] ir57p2)
theorem rd57 : readFn T SG sigs 3000 sg57 Tryd.f99 an57 = some ir57 := by kernel_rfl
def an58 : Ann := (.s none .z (.s none (.s (some ⟨1, [(0, .junk), (1, .junk), (4, .junk), (26, (.atm (.v 0)))], [], 2, []⟩) .z .z) (.s none (.s none .z (.b (.l ⟨1, [(5, (.atm (.v 0))), (26, .junk)], [], 2, []⟩ .z))) .z)))
def ir58p0 : IR :=
 (.op .lenL [(.v 2)]
 (.op (.bin .lss false) [(.v 7), (.v 8)]
 (.ite (.v 9)
  (.op (.row 3) [(.v 2), (.v 7)]
  (.op (.row 3) [(.v 5), (.v 7)]
  (.call 58 1 false [] [(.v 10), (.v 11), (.v 12), (.v 13), (.v 14), (.v 15)]
  (.op (.un .not) [(.v 16)]
  (.ite (.v 17)
   (.ret [(.c (.bool false))])
  (.op (.bin .add false) [(.v 7), (.c (.int .i64 1))]
  (.jump 0 [(.v 18)])))))))
 (.ret [(.c (.bool true))]))))
def ir58p1 : IR :=
 (.ite (.v 6)
  (.ret [(.c (.bool false))])
 (.loop 1 [(.c (.int .i64 0))] ir58p0))
def ir58 : IR :=
 (.letj 1
  (.op (.bin .neq false) [(.v 0), (.v 3)]
  (.ite (.v 6)
   (.jump 0 [(.c (.bool true))])
  (.op (.bin .neq false) [(.v 1), (.v 4)]
  (.ite (.v 7)
   (.jump 0 [(.c (.bool true))])
  (.op .lenL [(.v 2)]
  (.op .lenL [(.v 5)]
  (.op (.bin .neq false) [(.v 8), (.v 9)]
  (.jump 0 [(.v 10)]))))))))
 ir58p1)
theorem rd58 : readFn T SG sigs 3000 sg58 Tryd.f31 an58 = some ir58 := by kernel_rfl
def an59 : Ann := .z
def ir59 : IR :=
 (.op (.mk 3 2) [(.v 1), (.v 2), (.v 3), (.v 4), (.v 5), (.v 6)]
 (.ret [(.v 0), (.c (.str [])), (.v 7)]))
theorem rd59 : readFn T SG sigs 3000 sg59 Tryd.f100 an59 = some ir59 := by kernel_rfl
def an60 : Ann := (.s none .z (.s none .z (.s none (.s none .z (.b (.l ⟨2, [(0, .junk), (1, .junk), (2, .junk), (3, (.atm (.v 0))), (6, .junk), (9, (.atm (.v 1)))], [], 1, []⟩ .z))) .z)))
def ir60p0 : IR :=
 (.op (.bin .lss false) [(.v 5), (.v 3)]
 (.ite (.v 6)
  (.op (.row 3) [(.v 2), (.v 5)]
  (.call 60 1 false [] [(.v 7), (.v 8), (.v 9)]
  (.op (.bin .add false) [(.v 4), (.v 10)]
  (.op (.bin .add false) [(.v 5), (.c (.int .i64 1))]
  (.jump 0 [(.v 11), (.v 12)])))))
 (.ret [(.v 4)])))
def ir60 : IR :=
 (.op .lenL [(.v 2)]
 (.loop 2 [(.c (.int .i64 1)), (.c (.int .i64 0))] ir60p0))
theorem rd60 : readFn T SG sigs 3000 sg60 Tryd.f70 an60 = some ir60 := by kernel_rfl
def an61 : Ann := (.s none .z (.s none .z (.s none (.s none .z (.b (.l ⟨2, [(0, .junk), (1, .junk), (2, .junk), (3, (.atm (.v 0))), (6, .junk), (9, (.atm (.v 1)))], [], 1, []⟩ .z))) .z)))
def ir61p0 : IR :=
 (.op (.bin .lss false) [(.v 5), (.v 3)]
 (.ite (.v 6)
  (.op (.row 3) [(.v 2), (.v 5)]
  (.call 61 1 false [] [(.v 7), (.v 8), (.v 9)]
  (.op (.bin .add false) [(.c (.int .i64 1)), (.v 10)]
  (.op .max [(.v 4), (.v 11)]
  (.op (.bin .add false) [(.v 5), (.c (.int .i64 1))]
  (.jump 0 [(.v 12), (.v 13)]))))))
 (.ret [(.v 4)])))
def ir61 : IR :=
 (.op .lenL [(.v 2)]
 (.loop 2 [(.c (.int .i64 0)), (.c (.int .i64 0))] ir61p0))
theorem rd61 : readFn T SG sigs 3000 sg61 Tryd.f71 an61 = some ir61 := by kernel_rfl
def an62 : Ann := (.s none .z (.s none .z (.s none (.s none .z (.b (.l ⟨1, [(0, .junk), (2, .junk), (4, .junk), (7, .junk), (8, .junk), (9, .junk), (10, .junk), (11, .junk), (14, (.atm (.v 0)))], [], 1, []⟩ .z))) .z)))
def ir62p0 : IR :=
 (.op (.bin .lss false) [(.v 6), (.v 5)]
 (.ite (.v 7)
  (.op (.row 3) [(.v 2), (.v 6)]
  (.call 62 1 false [] [(.v 8), (.v 9), (.v 10)]
  (.op (.un .not) [(.v 11)]
  (.ite (.v 12)
   (.ret [(.c (.bool false))])
  (.op (.bin .add false) [(.v 6), (.c (.int .i64 1))]
  (.jump 0 [(.v 13)]))))))
 (.ret [(.c (.bool true))])))
def ir62 : IR :=
 (.call 67 1 false [] [(.v 0), (.v 1), (.v 2)]
 (.op (.un .not) [(.v 3)]
 (.ite (.v 4)
  (.ret [(.c (.bool false))])
 (.op .lenL [(.v 2)]
 (.loop 1 [(.c (.int .i64 0))] ir62p0)))))
theorem rd62 : readFn T SG sigs 3000 sg62 Tryd.f72 an62 = some ir62 := by kernel_rfl
def an63 : Ann := (.s none .z (.s none .z (.s none (.s none .z (.b (.l ⟨1, [(0, .junk), (2, .junk), (4, .junk), (7, .junk), (8, .junk), (9, .junk), (10, .junk), (11, .junk), (14, (.atm (.v 0)))], [], 1, []⟩ .z))) .z)))
def ir63p0 : IR :=
 (.op (.bin .lss false) [(.v 6), (.v 5)]
 (.ite (.v 7)
  (.op (.row 3) [(.v 2), (.v 6)]
  (.call 63 1 false [] [(.v 8), (.v 9), (.v 10)]
  (.op (.un .not) [(.v 11)]
  (.ite (.v 12)
   (.ret [(.c (.bool false))])
  (.op (.bin .add false) [(.v 6), (.c (.int .i64 1))]
  (.jump 0 [(.v 13)]))))))
 (.ret [(.c (.bool true))])))
def ir63 : IR :=
 (.call 68 1 false [] [(.v 0), (.v 1), (.v 2)]
 (.op (.un .not) [(.v 3)]
 (.ite (.v 4)
  (.ret [(.c (.bool false))])
 (.op .lenL [(.v 2)]
 (.loop 1 [(.c (.int .i64 0))] ir63p0)))))
theorem rd63 : readFn T SG sigs 3000 sg63 Tryd.f72 an63 = some ir63 := by kernel_rfl
def an64 : Ann := (.s none .z (.s none (.s none .z (.b (.l ⟨1, [(4, .junk), (6, .junk), (8, (.atm (.v 0)))], [], 0, []⟩ .z))) .z))
def ir64p0 : IR :=
 (.op (.bin .lss false) [(.v 3), (.v 2)]
 (.ite (.v 4)
  (.op (.row 1) [(.v 0), (.v 3)]
  (.op (.bin .eql false) [(.v 1), (.v 5)]
  (.ite (.v 6)
   (.ret [(.v 3)])
  (.op (.bin .add false) [(.v 3), (.c (.int .i64 1))]
  (.jump 0 [(.v 7)])))))
 (.ret [(.c (.int .i64 (-1)))])))
def ir64 : IR :=
 (.op .lenL [(.v 0)]
 (.loop 1 [(.c (.int .i64 0))] ir64p0))
theorem rd64 : readFn T SG sigs 3000 sg64 Tryd.f82 an64 = some ir64 := by kernel_rfl
def an65 : Ann := (.s none .z (.s none .z (.s none (.s none .z (.b (.l ⟨2, [(2, .junk), (3, (.atm (.v 0))), (5, (.atm (.v 1)))], [], 0, []⟩ .z))) .z)))
def ir65p0 : IR :=
 (.op (.bin .lss false) [(.v 2), (.c (.int .i64 64))]
 (.ite (.v 3)
  (.op (.bin .shr false) [(.v 2), (.v 0)]
  (.op (.bin .and false) [(.v 4), (.c (.int .i64 1))]
  (.op (.conv .u64) [(.v 5)]
  (.op (.bin .shl false) [(.v 6), (.v 2)]
  (.op (.bin .or false) [(.v 1), (.v 7)]
  (.op (.bin .add false) [(.v 2), (.c (.int .i64 1))]
  (.jump 0 [(.v 8), (.v 9)])))))))
 (.ret [(.v 1)])))
def ir65 : IR :=
 (.loop 2 [(.c (.int .u64 0)), (.c (.int .i64 0))] ir65p0)
theorem rd65 : readFn T SG sigs 3000 sg65 Tryd.f83 an65 = some ir65 := by kernel_rfl
def an66 : Ann := .z
def ir66 : IR :=
 (.op (.conv .u64) [(.v 1)]
 (.op (.bin .shr false) [(.v 0), (.v 2)]
 (.op (.bin .and false) [(.v 3), (.c (.int .u64 1))]
 (.op (.bin .eql false) [(.v 4), (.c (.int .u64 1))]
 (.ret [(.v 5)])))))
theorem rd66 : readFn T SG sigs 3000 sg66 Tryd.f87 an66 = some ir66 := by kernel_rfl
def an67 : Ann := (.s none .z (.s none .z (.s none (.s none .z (.b (.s (some ⟨1, [(0, .junk), (1, .junk), (2, .junk), (4, .junk), (5, .junk), (6, .junk), (7, .junk), (9, (.atm (.v 0)))], [], 1, []⟩) .z (.c .z (.s none .z (.c .z (.s (some ⟨1, [(9, .junk), (15, .junk), (16, .junk), (19, (.atm (.v 0)))], [], 1, []⟩) .z (.c .z (.s (some ⟨1, [(8, .junk), (19, .junk), (28, (.atm (.v 0)))], [], 1, []⟩) .z .z))))))))) .z)))
def ir67p0 : IR :=
 (.ite (.v 7)
  (.op (.bin .eql false) [(.v 3), (.c (.int .i64 2))]
  (.ret [(.v 8)]))
 (.ret [(.c (.bool false))]))
def ir67p1 : IR :=
 (.ite (.v 6)
  (.op (.bin .geq false) [(.v 3), (.c (.int .i64 2))]
  (.ite (.v 7)
   (.op (.bin .leq false) [(.v 3), (.c (.int .i64 6))]
   (.ret [(.v 8)]))
  (.ret [(.c (.bool false))])))
 (.letj 1
  (.op (.bin .eql false) [(.v 0), (.c (.int .i64 7))]
  (.ite (.v 7)
   (.jump 0 [(.c (.bool true))])
  (.op (.bin .eql false) [(.v 0), (.c (.int .i64 8))]
  (.jump 0 [(.v 8)]))))
 ir67p0))
def ir67p2 : IR :=
 (.ite (.v 4)
  (.op (.bin .eql false) [(.v 3), (.c (.int .i64 0))]
  (.ret [(.v 5)]))
 (.op (.bin .eql false) [(.v 0), (.c (.int .i64 4))]
 (.ite (.v 5)
  (.op (.bin .eql false) [(.v 3), (.c (.int .i64 1))]
  (.ret [(.v 6)]))
 (.letj 1
  (.op (.bin .eql false) [(.v 0), (.c (.int .i64 5))]
  (.ite (.v 6)
   (.jump 0 [(.c (.bool true))])
  (.op (.bin .eql false) [(.v 0), (.c (.int .i64 6))]
  (.jump 0 [(.v 7)]))))
 ir67p1))))
def ir67 : IR :=
 (.op .lenL [(.v 2)]
 (.letj 1
  (.op (.bin .eql false) [(.v 0), (.c (.int .i64 1))]
  (.ite (.v 4)
   (.jump 0 [(.c (.bool true))])
  (.op (.bin .eql false) [(.v 0), (.c (.int .i64 2))]
  (.ite (.v 5)
   (.jump 0 [(.c (.bool true))])
  (.op (.bin .eql false) [(.v 0), (.c (.int .i64 3))]
  (.jump 0 [(.v 6)]))))))
 ir67p2))
theorem rd67 : readFn T SG sigs 3000 sg67 Tryd.f73 an67 = some ir67 := by kernel_rfl
def an68 : Ann := .z
def ir68 : IR :=
 (.op (.bin .eql false) [(.v 0), (.c (.int .i64 3))]
 (.ite (.v 3)
  (.call 47 1 false [] [(.v 1)]
  (.ret [(.v 4)]))
 (.op (.bin .eql false) [(.v 1), (.c (.str []))]
 (.ret [(.v 4)]))))
theorem rd68 : readFn T SG sigs 3000 sg68 Tryd.f74 an68 = some ir68 := by kernel_rfl
end Go.Proofs.YtefkehflmlikmaaDoor

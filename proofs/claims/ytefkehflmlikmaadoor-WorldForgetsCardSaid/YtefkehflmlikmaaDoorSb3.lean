/- Plain programs of the functions of the program and lemmas about what they compute. -/
import Derived.Test.YtefkehflmlikmaaDoorSb1
import Derived.Test.YtefkehflmlikmaaDoorAtE
import Derived.Test.YtefkehflmlikmaaDoorSb2
set_option linter.unusedSimpArgs false
set_option linter.unusedVariables false
set_option linter.unusedSectionVars false
namespace Go.Proofs.YtefkehflmlikmaaDoor
open Go Am
set_option maxRecDepth 100000
variable {G : Glob}
abbrev ext19 : PF := fmtE
theorem ext19_ok (hG : GHyp G) : TEok Tryd.prog G T SG sigs 19 (.ext ext19) := ⟨fun _ _ _ _ h => fmtE_wf h, fun sg h => by cases h; exact (fmtE_sig hG)⟩
abbrev ext32 : PF := atomsE
theorem ext32_ok (hG : GHyp G) : TEok Tryd.prog G T SG sigs 32 (.ext ext32) := ⟨fun _ _ _ _ h => atomsE_wf h, fun sg h => by cases h; exact atomsE_sig⟩
def tbl : List TE := [.ir ir0, .ir ir1, .ir ir2, .ir ir3, .ir ir4, .ir ir5, .ir ir6, .ir ir7, .ir ir8, .ir ir9, .ir ir10, .ir ir11, .ir ir12, .ir ir13, .ir ir14, .ir ir15, .ir ir16, .ir ir17, .ir ir18, .ext ext19, .ir ir20, .ir ir21, .ir ir22, .ir ir23, .ir ir24, .ir ir25, .ir ir26, .ir ir27, .ir ir28, .ir ir29, .ir ir30, .ir ir31, .ext ext32, .ir ir33, .ir ir34, .ir ir35, .ir ir36, .ir ir37, .ir ir38, .ir ir39, .ir ir40, .ir ir41, .ir ir42, .ir ir43, .ir ir44, .ir ir45, .ir ir46, .ir ir47, .ir ir48, .ir ir49, .ir ir50, .ir ir51, .ir ir52, .ir ir53, .ir ir54, .ir ir55, .ir ir56, .ir ir57, .ir ir58, .ir ir59, .ir ir60, .ir ir61, .ir ir62, .ir ir63, .ir ir64, .ir ir65, .ir ir66, .ir ir67, .ir ir68, .ir ir69]
theorem tbl_ok (hG : GHyp G) : TLok Tryd.prog G T SG sigs 0 tbl := ⟨⟨sg0, Tryd.f7, an0, 3000, rfl, Tryd.func7, rd0⟩,
 ⟨sg1, Tryd.f8, an1, 3000, rfl, Tryd.func8, rd1⟩,
 ⟨sg2, Tryd.f9, an2, 3000, rfl, Tryd.func9, rd2⟩,
 ⟨sg3, Tryd.f10, an3, 3000, rfl, Tryd.func10, rd3⟩,
 ⟨sg4, Tryd.f11, an4, 3000, rfl, Tryd.func11, rd4⟩,
 ⟨sg5, Tryd.f27, an5, 3000, rfl, Tryd.func27, rd5⟩,
 ⟨sg6, Tryd.f13, an6, 3000, rfl, Tryd.func13, rd6⟩,
 ⟨sg7, Tryd.f23, an7, 3000, rfl, Tryd.func23, rd7⟩,
 ⟨sg8, Tryd.f15, an8, 3000, rfl, Tryd.func15, rd8⟩,
 ⟨sg9, Tryd.f28, an9, 3000, rfl, Tryd.func28, rd9⟩,
 ⟨sg10, Tryd.f17, an10, 3000, rfl, Tryd.func17, rd10⟩,
 ⟨sg11, Tryd.f29, an11, 3000, rfl, Tryd.func29, rd11⟩,
 ⟨sg12, Tryd.f30, an12, 3000, rfl, Tryd.func30, rd12⟩,
 ⟨sg13, Tryd.f31, an13, 3000, rfl, Tryd.func31, rd13⟩,
 ⟨sg14, Tryd.f32, an14, 3000, rfl, Tryd.func32, rd14⟩,
 ⟨sg15, Tryd.f33, an15, 3000, rfl, Tryd.func33, rd15⟩,
 ⟨sg16, Tryd.f34, an16, 3000, rfl, Tryd.func34, rd16⟩,
 ⟨sg17, Tryd.f35, an17, 3000, rfl, Tryd.func35, rd17⟩,
 ⟨sg18, Tryd.f18, an18, 3000, rfl, Tryd.func18, rd18⟩,
 ext19_ok hG,
 ⟨sg20, Tryd.f37, an20, 3000, rfl, Tryd.func37, rd20⟩,
 ⟨sg21, Tryd.f38, an21, 3000, rfl, Tryd.func38, rd21⟩,
 ⟨sg22, Tryd.f39, an22, 3000, rfl, Tryd.func39, rd22⟩,
 ⟨sg23, Tryd.f40, an23, 3000, rfl, Tryd.func40, rd23⟩,
 ⟨sg24, Tryd.f49, an24, 3000, rfl, Tryd.func49, rd24⟩,
 ⟨sg25, Tryd.f57, an25, 3000, rfl, Tryd.func57, rd25⟩,
 ⟨sg26, Tryd.f62, an26, 3000, rfl, Tryd.func62, rd26⟩,
 ⟨sg27, Tryd.f41, an27, 3000, rfl, Tryd.func41, rd27⟩,
 ⟨sg28, Tryd.f63, an28, 3000, rfl, Tryd.func63, rd28⟩,
 ⟨sg29, Tryd.f42, an29, 3000, rfl, Tryd.func42, rd29⟩,
 ⟨sg30, Tryd.f64, an30, 3000, rfl, Tryd.func64, rd30⟩,
 ⟨sg31, Tryd.f65, an31, 3000, rfl, Tryd.func65, rd31⟩,
 ext32_ok hG,
 ⟨sg33, Tryd.f67, an33, 3000, rfl, Tryd.func67, rd33⟩,
 ⟨sg34, Tryd.f68, an34, 3000, rfl, Tryd.func68, rd34⟩,
 ⟨sg35, Tryd.f69, an35, 3000, rfl, Tryd.func69, rd35⟩,
 ⟨sg36, Tryd.f70, an36, 3000, rfl, Tryd.func70, rd36⟩,
 ⟨sg37, Tryd.f71, an37, 3000, rfl, Tryd.func71, rd37⟩,
 ⟨sg38, Tryd.f72, an38, 3000, rfl, Tryd.func72, rd38⟩,
 ⟨sg39, Tryd.f72, an39, 3000, rfl, Tryd.func72, rd39⟩,
 ⟨sg40, Tryd.f60, an40, 3000, rfl, Tryd.func60, rd40⟩,
 ⟨sg41, Tryd.f79, an41, 3000, rfl, Tryd.func79, rd41⟩,
 ⟨sg42, Tryd.f82, an42, 3000, rfl, Tryd.func82, rd42⟩,
 ⟨sg43, Tryd.f83, an43, 3000, rfl, Tryd.func83, rd43⟩,
 ⟨sg44, Tryd.f84, an44, 3000, rfl, Tryd.func84, rd44⟩,
 ⟨sg45, Tryd.f97, an45, 3000, rfl, Tryd.func97, rd45⟩,
 ⟨sg46, Tryd.f98, an46, 3000, rfl, Tryd.func98, rd46⟩,
 ⟨sg47, Tryd.f85, an47, 3000, rfl, Tryd.func85, rd47⟩,
 ⟨sg48, Tryd.f16, an48, 3000, rfl, Tryd.func16, rd48⟩,
 ⟨sg49, Tryd.f99, an49, 3000, rfl, Tryd.func99, rd49⟩,
 ⟨sg50, Tryd.f100, an50, 3000, rfl, Tryd.func100, rd50⟩,
 ⟨sg51, Tryd.f101, an51, 3000, rfl, Tryd.func101, rd51⟩,
 ⟨sg52, Tryd.f102, an52, 3000, rfl, Tryd.func102, rd52⟩,
 ⟨sg53, Tryd.f103, an53, 3000, rfl, Tryd.func103, rd53⟩,
 ⟨sg54, Tryd.f73, an54, 3000, rfl, Tryd.func73, rd54⟩,
 ⟨sg55, Tryd.f74, an55, 3000, rfl, Tryd.func74, rd55⟩,
 ⟨sg56, Tryd.f80, an56, 3000, rfl, Tryd.func80, rd56⟩,
 ⟨sg57, Tryd.f48, an57, 3000, rfl, Tryd.func48, rd57⟩,
 ⟨sg58, Tryd.f87, an58, 3000, rfl, Tryd.func87, rd58⟩,
 ⟨sg59, Tryd.f112, an59, 3000, rfl, Tryd.func112, rd59⟩,
 ⟨sg60, Tryd.f113, an60, 3000, rfl, Tryd.func113, rd60⟩,
 ⟨sg61, Tryd.f81, an61, 3000, rfl, Tryd.func81, rd61⟩,
 ⟨sg62, Tryd.f79, an62, 3000, rfl, Tryd.func79, rd62⟩,
 ⟨sg63, Tryd.f117, an63, 3000, rfl, Tryd.func117, rd63⟩,
 ⟨sg64, Tryd.f118, an64, 3000, rfl, Tryd.func118, rd64⟩,
 ⟨sg65, Tryd.f78, an65, 3000, rfl, Tryd.func78, rd65⟩,
 ⟨sg66, Tryd.f131, an66, 3000, rfl, Tryd.func131, rd66⟩,
 ⟨sg67, Tryd.f132, an67, 3000, rfl, Tryd.func132, rd67⟩,
 ⟨sg68, Tryd.f131, an68, 3000, rfl, Tryd.func131, rd68⟩,
 ⟨sg69, Tryd.f139, an69, 3000, rfl, Tryd.func139, rd69⟩, trivial⟩
def tb : Nat → TE := tbOf tbl
theorem tb_ok (hG : GHyp G) : TabOK Tryd.prog G T SG sigs tb := tabOK_of (tbl_ok hG)
theorem gok : GOK G SG := ⟨(fun g cs h => by cases h), (fun g cs h => by cases h)⟩
end Go.Proofs.YtefkehflmlikmaaDoor

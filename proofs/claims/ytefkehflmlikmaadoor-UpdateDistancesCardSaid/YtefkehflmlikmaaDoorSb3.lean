/- Plain programs of the functions of the program and lemmas about what they compute. -/
import Derived.Test.YtefkehflmlikmaaDoorSb1
import Derived.Test.YtefkehflmlikmaaDoorAtE
import Derived.Test.YtefkehflmlikmaaDoorTz
set_option linter.unusedSimpArgs false
set_option linter.unusedVariables false
set_option linter.unusedSectionVars false
namespace Go.Proofs.YtefkehflmlikmaaDoor
open Go Am
set_option maxRecDepth 100000
variable {G : Glob}
abbrev ext53 : PF := atomsE
theorem ext53_ok (hG : GHyp G) : TEok Tryd.prog G T SG sigs 53 (.ext ext53) := ⟨fun _ _ _ _ h => atomsE_wf h, fun sg h => by cases h; exact atomsE_sig⟩
abbrev ext56 : PF := tzE
theorem ext56_ok (hG : GHyp G) : TEok Tryd.prog G T SG sigs 56 (.ext ext56) := ⟨fun _ _ _ _ h => tzE_wf h, fun sg h => by cases h; exact (tzE_sig hG)⟩
def tbl : List TE := [.ir ir0, .ir ir1, .ir ir2, .ir ir3, .ir ir4, .ir ir5, .ir ir6, .ir ir7, .ir ir8, .ir ir9, .ir ir10, .ir ir11, .ir ir12, .ir ir13, .ir ir14, .ir ir15, .ir ir16, .ir ir17, .ir ir18, .ir ir19, .ir ir20, .ir ir21, .ir ir22, .ir ir23, .ir ir24, .ir ir25, .ir ir26, .ir ir27, .ir ir28, .ir ir29, .ir ir30, .ir ir31, .ir ir32, .ir ir33, .ir ir34, .ir ir35, .ir ir36, .ir ir37, .ir ir38, .ir ir39, .ir ir40, .ir ir41, .ir ir42, .ir ir43, .ir ir44, .ir ir45, .ir ir46, .ir ir47, .ir ir48, .ir ir49, .ir ir50, .ir ir51, .ir ir52, .ext ext53, .ir ir54, .ir ir55, .ext ext56, .ir ir57, .ir ir58, .ir ir59, .ir ir60, .ir ir61, .ir ir62, .ir ir63, .ir ir64, .ir ir65, .ir ir66, .ir ir67, .ir ir68]
theorem tbl_ok (hG : GHyp G) : TLok Tryd.prog G T SG sigs 0 tbl := ⟨⟨sg0, Tryd.f3, an0, 3000, rfl, Tryd.func3, rd0⟩,
 ⟨sg1, Tryd.f4, an1, 3000, rfl, Tryd.func4, rd1⟩,
 ⟨sg2, Tryd.f5, an2, 3000, rfl, Tryd.func5, rd2⟩,
 ⟨sg3, Tryd.f6, an3, 3000, rfl, Tryd.func6, rd3⟩,
 ⟨sg4, Tryd.f13, an4, 3000, rfl, Tryd.func13, rd4⟩,
 ⟨sg5, Tryd.f14, an5, 3000, rfl, Tryd.func14, rd5⟩,
 ⟨sg6, Tryd.f15, an6, 3000, rfl, Tryd.func15, rd6⟩,
 ⟨sg7, Tryd.f16, an7, 3000, rfl, Tryd.func16, rd7⟩,
 ⟨sg8, Tryd.f17, an8, 3000, rfl, Tryd.func17, rd8⟩,
 ⟨sg9, Tryd.f18, an9, 3000, rfl, Tryd.func18, rd9⟩,
 ⟨sg10, Tryd.f19, an10, 3000, rfl, Tryd.func19, rd10⟩,
 ⟨sg11, Tryd.f20, an11, 3000, rfl, Tryd.func20, rd11⟩,
 ⟨sg12, Tryd.f21, an12, 3000, rfl, Tryd.func21, rd12⟩,
 ⟨sg13, Tryd.f22, an13, 3000, rfl, Tryd.func22, rd13⟩,
 ⟨sg14, Tryd.f23, an14, 3000, rfl, Tryd.func23, rd14⟩,
 ⟨sg15, Tryd.f24, an15, 3000, rfl, Tryd.func24, rd15⟩,
 ⟨sg16, Tryd.f25, an16, 3000, rfl, Tryd.func25, rd16⟩,
 ⟨sg17, Tryd.f26, an17, 3000, rfl, Tryd.func26, rd17⟩,
 ⟨sg18, Tryd.f42, an18, 3000, rfl, Tryd.func42, rd18⟩,
 ⟨sg19, Tryd.f48, an19, 3000, rfl, Tryd.func48, rd19⟩,
 ⟨sg20, Tryd.f49, an20, 3000, rfl, Tryd.func49, rd20⟩,
 ⟨sg21, Tryd.f50, an21, 3000, rfl, Tryd.func50, rd21⟩,
 ⟨sg22, Tryd.f51, an22, 3000, rfl, Tryd.func51, rd22⟩,
 ⟨sg23, Tryd.f52, an23, 3000, rfl, Tryd.func52, rd23⟩,
 ⟨sg24, Tryd.f54, an24, 3000, rfl, Tryd.func54, rd24⟩,
 ⟨sg25, Tryd.f53, an25, 3000, rfl, Tryd.func53, rd25⟩,
 ⟨sg26, Tryd.f55, an26, 3000, rfl, Tryd.func55, rd26⟩,
 ⟨sg27, Tryd.f56, an27, 3000, rfl, Tryd.func56, rd27⟩,
 ⟨sg28, Tryd.f30, an28, 3000, rfl, Tryd.func30, rd28⟩,
 ⟨sg29, Tryd.f57, an29, 3000, rfl, Tryd.func57, rd29⟩,
 ⟨sg30, Tryd.f34, an30, 3000, rfl, Tryd.func34, rd30⟩,
 ⟨sg31, Tryd.f41, an31, 3000, rfl, Tryd.func41, rd31⟩,
 ⟨sg32, Tryd.f58, an32, 3000, rfl, Tryd.func58, rd32⟩,
 ⟨sg33, Tryd.f59, an33, 3000, rfl, Tryd.func59, rd33⟩,
 ⟨sg34, Tryd.f61, an34, 3000, rfl, Tryd.func61, rd34⟩,
 ⟨sg35, Tryd.f60, an35, 3000, rfl, Tryd.func60, rd35⟩,
 ⟨sg36, Tryd.f85, an36, 3000, rfl, Tryd.func85, rd36⟩,
 ⟨sg37, Tryd.f88, an37, 3000, rfl, Tryd.func88, rd37⟩,
 ⟨sg38, Tryd.f89, an38, 3000, rfl, Tryd.func89, rd38⟩,
 ⟨sg39, Tryd.f90, an39, 3000, rfl, Tryd.func90, rd39⟩,
 ⟨sg40, Tryd.f91, an40, 3000, rfl, Tryd.func91, rd40⟩,
 ⟨sg41, Tryd.f92, an41, 3000, rfl, Tryd.func92, rd41⟩,
 ⟨sg42, Tryd.f93, an42, 3000, rfl, Tryd.func93, rd42⟩,
 ⟨sg43, Tryd.f33, an43, 3000, rfl, Tryd.func33, rd43⟩,
 ⟨sg44, Tryd.f44, an44, 3000, rfl, Tryd.func44, rd44⟩,
 ⟨sg45, Tryd.f64, an45, 3000, rfl, Tryd.func64, rd45⟩,
 ⟨sg46, Tryd.f69, an46, 3000, rfl, Tryd.func69, rd46⟩,
 ⟨sg47, Tryd.f84, an47, 3000, rfl, Tryd.func84, rd47⟩,
 ⟨sg48, Tryd.f94, an48, 3000, rfl, Tryd.func94, rd48⟩,
 ⟨sg49, Tryd.f95, an49, 3000, rfl, Tryd.func95, rd49⟩,
 ⟨sg50, Tryd.f96, an50, 3000, rfl, Tryd.func96, rd50⟩,
 ⟨sg51, Tryd.f111, an51, 3000, rfl, Tryd.func111, rd51⟩,
 ⟨sg52, Tryd.f35, an52, 3000, rfl, Tryd.func35, rd52⟩,
 ext53_ok hG,
 ⟨sg54, Tryd.f67, an54, 3000, rfl, Tryd.func67, rd54⟩,
 ⟨sg55, Tryd.f68, an55, 3000, rfl, Tryd.func68, rd55⟩,
 ext56_ok hG,
 ⟨sg57, Tryd.f99, an57, 3000, rfl, Tryd.func99, rd57⟩,
 ⟨sg58, Tryd.f31, an58, 3000, rfl, Tryd.func31, rd58⟩,
 ⟨sg59, Tryd.f100, an59, 3000, rfl, Tryd.func100, rd59⟩,
 ⟨sg60, Tryd.f70, an60, 3000, rfl, Tryd.func70, rd60⟩,
 ⟨sg61, Tryd.f71, an61, 3000, rfl, Tryd.func71, rd61⟩,
 ⟨sg62, Tryd.f72, an62, 3000, rfl, Tryd.func72, rd62⟩,
 ⟨sg63, Tryd.f72, an63, 3000, rfl, Tryd.func72, rd63⟩,
 ⟨sg64, Tryd.f82, an64, 3000, rfl, Tryd.func82, rd64⟩,
 ⟨sg65, Tryd.f83, an65, 3000, rfl, Tryd.func83, rd65⟩,
 ⟨sg66, Tryd.f87, an66, 3000, rfl, Tryd.func87, rd66⟩,
 ⟨sg67, Tryd.f73, an67, 3000, rfl, Tryd.func73, rd67⟩,
 ⟨sg68, Tryd.f74, an68, 3000, rfl, Tryd.func74, rd68⟩, trivial⟩
def tb : Nat → TE := tbOf tbl
theorem tb_ok (hG : GHyp G) : TabOK Tryd.prog G T SG sigs tb := tabOK_of (tbl_ok hG)
theorem gok : GOK G SG := ⟨(fun g cs h => by cases h), (fun g cs h => by cases h)⟩
end Go.Proofs.YtefkehflmlikmaaDoor

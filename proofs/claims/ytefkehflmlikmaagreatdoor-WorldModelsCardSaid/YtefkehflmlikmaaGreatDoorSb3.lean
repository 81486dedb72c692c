/- Plain programs of the functions of the program and lemmas about what they compute. -/
import Derived.Test.YtefkehflmlikmaaGreatDoorSb1
import Derived.Test.YtefkehflmlikmaaGreatDoorAtE
import Derived.Test.YtefkehflmlikmaaGreatDoorSb2
set_option linter.unusedSimpArgs false
set_option linter.unusedVariables false
set_option linter.unusedSectionVars false
namespace Go.Proofs.YtefkehflmlikmaaGreatDoor
open Go Am
set_option maxRecDepth 100000
variable {G : Glob}
abbrev ext22 : PF := atomsE
theorem ext22_ok (hG : GHyp G) : TEok Tryz.prog G T SG sigs 22 (.ext ext22) := ⟨fun _ _ _ _ h => atomsE_wf h, fun sg h => by cases h; exact atomsE_sig⟩
abbrev ext35 : PF := fmtE
theorem ext35_ok (hG : GHyp G) : TEok Tryz.prog G T SG sigs 35 (.ext ext35) := ⟨fun _ _ _ _ h => fmtE_wf h, fun sg h => by cases h; exact (fmtE_sig hG)⟩
def tbl : List TE := [.ir ir0, .ir ir1, .ir ir2, .ir ir3, .ir ir4, .ir ir5, .ir ir6, .ir ir7, .ir ir8, .ir ir9, .ir ir10, .ir ir11, .ir ir12, .ir ir13, .ir ir14, .ir ir15, .ir ir16, .ir ir17, .ir ir18, .ir ir19, .ir ir20, .ir ir21, .ext ext22, .ir ir23, .ir ir24, .ir ir25, .ir ir26, .ir ir27, .ir ir28, .ir ir29, .ir ir30, .ir ir31, .ir ir32, .ir ir33, .ir ir34, .ext ext35, .ir ir36, .ir ir37, .ir ir38, .ir ir39, .ir ir40, .ir ir41, .ir ir42, .ir ir43, .ir ir44, .ir ir45, .ir ir46, .ir ir47, .ir ir48, .ir ir49, .ir ir50, .ir ir51, .ir ir52, .ir ir53, .ir ir54, .ir ir55, .ir ir56, .ir ir57, .ir ir58, .ir ir59, .ir ir60, .ir ir61, .ir ir62, .ir ir63, .ir ir64, .ir ir65, .ir ir66, .ir ir67, .ir ir68, .ir ir69, .ir ir70]
theorem tbl_ok (hG : GHyp G) : TLok Tryz.prog G T SG sigs 0 tbl := ⟨⟨sg0, Tryz.f4, an0, 3000, rfl, Tryz.func4, rd0⟩,
 ⟨sg1, Tryz.f21, an1, 3000, rfl, Tryz.func21, rd1⟩,
 ⟨sg2, Tryz.f5, an2, 3000, rfl, Tryz.func5, rd2⟩,
 ⟨sg3, Tryz.f22, an3, 3000, rfl, Tryz.func22, rd3⟩,
 ⟨sg4, Tryz.f7, an4, 3000, rfl, Tryz.func7, rd4⟩,
 ⟨sg5, Tryz.f16, an5, 3000, rfl, Tryz.func16, rd5⟩,
 ⟨sg6, Tryz.f12, an6, 3000, rfl, Tryz.func12, rd6⟩,
 ⟨sg7, Tryz.f11, an7, 3000, rfl, Tryz.func11, rd7⟩,
 ⟨sg8, Tryz.f23, an8, 3000, rfl, Tryz.func23, rd8⟩,
 ⟨sg9, Tryz.f24, an9, 3000, rfl, Tryz.func24, rd9⟩,
 ⟨sg10, Tryz.f25, an10, 3000, rfl, Tryz.func25, rd10⟩,
 ⟨sg11, Tryz.f26, an11, 3000, rfl, Tryz.func26, rd11⟩,
 ⟨sg12, Tryz.f27, an12, 3000, rfl, Tryz.func27, rd12⟩,
 ⟨sg13, Tryz.f28, an13, 3000, rfl, Tryz.func28, rd13⟩,
 ⟨sg14, Tryz.f29, an14, 3000, rfl, Tryz.func29, rd14⟩,
 ⟨sg15, Tryz.f30, an15, 3000, rfl, Tryz.func30, rd15⟩,
 ⟨sg16, Tryz.f31, an16, 3000, rfl, Tryz.func31, rd16⟩,
 ⟨sg17, Tryz.f36, an17, 3000, rfl, Tryz.func36, rd17⟩,
 ⟨sg18, Tryz.f35, an18, 3000, rfl, Tryz.func35, rd18⟩,
 ⟨sg19, Tryz.f49, an19, 3000, rfl, Tryz.func49, rd19⟩,
 ⟨sg20, Tryz.f37, an20, 3000, rfl, Tryz.func37, rd20⟩,
 ⟨sg21, Tryz.f50, an21, 3000, rfl, Tryz.func50, rd21⟩,
 ext22_ok hG,
 ⟨sg23, Tryz.f52, an23, 3000, rfl, Tryz.func52, rd23⟩,
 ⟨sg24, Tryz.f53, an24, 3000, rfl, Tryz.func53, rd24⟩,
 ⟨sg25, Tryz.f47, an25, 3000, rfl, Tryz.func47, rd25⟩,
 ⟨sg26, Tryz.f40, an26, 3000, rfl, Tryz.func40, rd26⟩,
 ⟨sg27, Tryz.f54, an27, 3000, rfl, Tryz.func54, rd27⟩,
 ⟨sg28, Tryz.f55, an28, 3000, rfl, Tryz.func55, rd28⟩,
 ⟨sg29, Tryz.f56, an29, 3000, rfl, Tryz.func56, rd29⟩,
 ⟨sg30, Tryz.f57, an30, 3000, rfl, Tryz.func57, rd30⟩,
 ⟨sg31, Tryz.f59, an31, 3000, rfl, Tryz.func59, rd31⟩,
 ⟨sg32, Tryz.f58, an32, 3000, rfl, Tryz.func58, rd32⟩,
 ⟨sg33, Tryz.f60, an33, 3000, rfl, Tryz.func60, rd33⟩,
 ⟨sg34, Tryz.f61, an34, 3000, rfl, Tryz.func61, rd34⟩,
 ext35_ok hG,
 ⟨sg36, Tryz.f63, an36, 3000, rfl, Tryz.func63, rd36⟩,
 ⟨sg37, Tryz.f64, an37, 3000, rfl, Tryz.func64, rd37⟩,
 ⟨sg38, Tryz.f66, an38, 3000, rfl, Tryz.func66, rd38⟩,
 ⟨sg39, Tryz.f75, an39, 3000, rfl, Tryz.func75, rd39⟩,
 ⟨sg40, Tryz.f76, an40, 3000, rfl, Tryz.func76, rd40⟩,
 ⟨sg41, Tryz.f77, an41, 3000, rfl, Tryz.func77, rd41⟩,
 ⟨sg42, Tryz.f77, an42, 3000, rfl, Tryz.func77, rd42⟩,
 ⟨sg43, Tryz.f83, an43, 3000, rfl, Tryz.func83, rd43⟩,
 ⟨sg44, Tryz.f84, an44, 3000, rfl, Tryz.func84, rd44⟩,
 ⟨sg45, Tryz.f74, an45, 3000, rfl, Tryz.func74, rd45⟩,
 ⟨sg46, Tryz.f71, an46, 3000, rfl, Tryz.func71, rd46⟩,
 ⟨sg47, Tryz.f85, an47, 3000, rfl, Tryz.func85, rd47⟩,
 ⟨sg48, Tryz.f86, an48, 3000, rfl, Tryz.func86, rd48⟩,
 ⟨sg49, Tryz.f87, an49, 3000, rfl, Tryz.func87, rd49⟩,
 ⟨sg50, Tryz.f88, an50, 3000, rfl, Tryz.func88, rd50⟩,
 ⟨sg51, Tryz.f89, an51, 3000, rfl, Tryz.func89, rd51⟩,
 ⟨sg52, Tryz.f90, an52, 3000, rfl, Tryz.func90, rd52⟩,
 ⟨sg53, Tryz.f91, an53, 3000, rfl, Tryz.func91, rd53⟩,
 ⟨sg54, Tryz.f92, an54, 3000, rfl, Tryz.func92, rd54⟩,
 ⟨sg55, Tryz.f93, an55, 3000, rfl, Tryz.func93, rd55⟩,
 ⟨sg56, Tryz.f94, an56, 3000, rfl, Tryz.func94, rd56⟩,
 ⟨sg57, Tryz.f33, an57, 3000, rfl, Tryz.func33, rd57⟩,
 ⟨sg58, Tryz.f78, an58, 3000, rfl, Tryz.func78, rd58⟩,
 ⟨sg59, Tryz.f79, an59, 3000, rfl, Tryz.func79, rd59⟩,
 ⟨sg60, Tryz.f103, an60, 3000, rfl, Tryz.func103, rd60⟩,
 ⟨sg61, Tryz.f104, an61, 3000, rfl, Tryz.func104, rd61⟩,
 ⟨sg62, Tryz.f105, an62, 3000, rfl, Tryz.func105, rd62⟩,
 ⟨sg63, Tryz.f106, an63, 3000, rfl, Tryz.func106, rd63⟩,
 ⟨sg64, Tryz.f107, an64, 3000, rfl, Tryz.func107, rd64⟩,
 ⟨sg65, Tryz.f126, an65, 3000, rfl, Tryz.func126, rd65⟩,
 ⟨sg66, Tryz.f127, an66, 3000, rfl, Tryz.func127, rd66⟩,
 ⟨sg67, Tryz.f136, an67, 3000, rfl, Tryz.func136, rd67⟩,
 ⟨sg68, Tryz.f137, an68, 3000, rfl, Tryz.func137, rd68⟩,
 ⟨sg69, Tryz.f136, an69, 3000, rfl, Tryz.func136, rd69⟩,
 ⟨sg70, Tryz.f140, an70, 3000, rfl, Tryz.func140, rd70⟩, trivial⟩
def tb : Nat → TE := tbOf tbl
theorem tb_ok (hG : GHyp G) : TabOK Tryz.prog G T SG sigs tb := tabOK_of (tbl_ok hG)
theorem gok : GOK G SG := ⟨(fun g cs h => by cases h), (fun g cs h => by cases h)⟩
end Go.Proofs.YtefkehflmlikmaaGreatDoor

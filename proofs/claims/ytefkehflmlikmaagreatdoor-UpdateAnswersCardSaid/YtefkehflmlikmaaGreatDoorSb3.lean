/- Plain programs of the functions of the program and lemmas about what they compute. -/
import Derived.Test.YtefkehflmlikmaaGreatDoorSb1
import Derived.Test.YtefkehflmlikmaaGreatDoorAtE
import Derived.Test.YtefkehflmlikmaaGreatDoorTz
set_option linter.unusedSimpArgs false
set_option linter.unusedVariables false
set_option linter.unusedSectionVars false
namespace Go.Proofs.YtefkehflmlikmaaGreatDoor
open Go Am
set_option maxRecDepth 100000
variable {G : Glob}
abbrev ext51 : PF := tzE
theorem ext51_ok (hG : GHyp G) : TEok Tryz.prog G T SG sigs 51 (.ext ext51) := ⟨fun _ _ _ _ h => tzE_wf h, fun sg h => by cases h; exact (tzE_sig hG)⟩
abbrev ext53 : PF := atomsE
theorem ext53_ok (hG : GHyp G) : TEok Tryz.prog G T SG sigs 53 (.ext ext53) := ⟨fun _ _ _ _ h => atomsE_wf h, fun sg h => by cases h; exact atomsE_sig⟩
def tbl : List TE := [.ir ir0, .ir ir1, .ir ir2, .ir ir3, .ir ir4, .ir ir5, .ir ir6, .ir ir7, .ir ir8, .ir ir9, .ir ir10, .ir ir11, .ir ir12, .ir ir13, .ir ir14, .ir ir15, .ir ir16, .ir ir17, .ir ir18, .ir ir19, .ir ir20, .ir ir21, .ir ir22, .ir ir23, .ir ir24, .ir ir25, .ir ir26, .ir ir27, .ir ir28, .ir ir29, .ir ir30, .ir ir31, .ir ir32, .ir ir33, .ir ir34, .ir ir35, .ir ir36, .ir ir37, .ir ir38, .ir ir39, .ir ir40, .ir ir41, .ir ir42, .ir ir43, .ir ir44, .ir ir45, .ir ir46, .ir ir47, .ir ir48, .ir ir49, .ir ir50, .ext ext51, .ir ir52, .ext ext53, .ir ir54, .ir ir55, .ir ir56, .ir ir57, .ir ir58, .ir ir59, .ir ir60, .ir ir61, .ir ir62, .ir ir63, .ir ir64, .ir ir65, .ir ir66, .ir ir67, .ir ir68, .ir ir69, .ir ir70, .ir ir71, .ir ir72, .ir ir73, .ir ir74, .ir ir75, .ir ir76, .ir ir77, .ir ir78, .ir ir79]
theorem tbl_ok (hG : GHyp G) : TLok Tryz.prog G T SG sigs 0 tbl := ⟨⟨sg0, Tryz.f3, an0, 3000, rfl, Tryz.func3, rd0⟩,
 ⟨sg1, Tryz.f5, an1, 3000, rfl, Tryz.func5, rd1⟩,
 ⟨sg2, Tryz.f6, an2, 3000, rfl, Tryz.func6, rd2⟩,
 ⟨sg3, Tryz.f7, an3, 3000, rfl, Tryz.func7, rd3⟩,
 ⟨sg4, Tryz.f8, an4, 3000, rfl, Tryz.func8, rd4⟩,
 ⟨sg5, Tryz.f9, an5, 3000, rfl, Tryz.func9, rd5⟩,
 ⟨sg6, Tryz.f10, an6, 3000, rfl, Tryz.func10, rd6⟩,
 ⟨sg7, Tryz.f11, an7, 3000, rfl, Tryz.func11, rd7⟩,
 ⟨sg8, Tryz.f12, an8, 3000, rfl, Tryz.func12, rd8⟩,
 ⟨sg9, Tryz.f13, an9, 3000, rfl, Tryz.func13, rd9⟩,
 ⟨sg10, Tryz.f14, an10, 3000, rfl, Tryz.func14, rd10⟩,
 ⟨sg11, Tryz.f15, an11, 3000, rfl, Tryz.func15, rd11⟩,
 ⟨sg12, Tryz.f16, an12, 3000, rfl, Tryz.func16, rd12⟩,
 ⟨sg13, Tryz.f17, an13, 3000, rfl, Tryz.func17, rd13⟩,
 ⟨sg14, Tryz.f18, an14, 3000, rfl, Tryz.func18, rd14⟩,
 ⟨sg15, Tryz.f19, an15, 3000, rfl, Tryz.func19, rd15⟩,
 ⟨sg16, Tryz.f20, an16, 3000, rfl, Tryz.func20, rd16⟩,
 ⟨sg17, Tryz.f22, an17, 3000, rfl, Tryz.func22, rd17⟩,
 ⟨sg18, Tryz.f30, an18, 3000, rfl, Tryz.func30, rd18⟩,
 ⟨sg19, Tryz.f31, an19, 3000, rfl, Tryz.func31, rd19⟩,
 ⟨sg20, Tryz.f32, an20, 3000, rfl, Tryz.func32, rd20⟩,
 ⟨sg21, Tryz.f34, an21, 3000, rfl, Tryz.func34, rd21⟩,
 ⟨sg22, Tryz.f33, an22, 3000, rfl, Tryz.func33, rd22⟩,
 ⟨sg23, Tryz.f36, an23, 3000, rfl, Tryz.func36, rd23⟩,
 ⟨sg24, Tryz.f35, an24, 3000, rfl, Tryz.func35, rd24⟩,
 ⟨sg25, Tryz.f37, an25, 3000, rfl, Tryz.func37, rd25⟩,
 ⟨sg26, Tryz.f38, an26, 3000, rfl, Tryz.func38, rd26⟩,
 ⟨sg27, Tryz.f39, an27, 3000, rfl, Tryz.func39, rd27⟩,
 ⟨sg28, Tryz.f40, an28, 3000, rfl, Tryz.func40, rd28⟩,
 ⟨sg29, Tryz.f41, an29, 3000, rfl, Tryz.func41, rd29⟩,
 ⟨sg30, Tryz.f42, an30, 3000, rfl, Tryz.func42, rd30⟩,
 ⟨sg31, Tryz.f43, an31, 3000, rfl, Tryz.func43, rd31⟩,
 ⟨sg32, Tryz.f44, an32, 3000, rfl, Tryz.func44, rd32⟩,
 ⟨sg33, Tryz.f45, an33, 3000, rfl, Tryz.func45, rd33⟩,
 ⟨sg34, Tryz.f46, an34, 3000, rfl, Tryz.func46, rd34⟩,
 ⟨sg35, Tryz.f47, an35, 3000, rfl, Tryz.func47, rd35⟩,
 ⟨sg36, Tryz.f48, an36, 3000, rfl, Tryz.func48, rd36⟩,
 ⟨sg37, Tryz.f65, an37, 3000, rfl, Tryz.func65, rd37⟩,
 ⟨sg38, Tryz.f66, an38, 3000, rfl, Tryz.func66, rd38⟩,
 ⟨sg39, Tryz.f70, an39, 3000, rfl, Tryz.func70, rd39⟩,
 ⟨sg40, Tryz.f67, an40, 3000, rfl, Tryz.func67, rd40⟩,
 ⟨sg41, Tryz.f68, an41, 3000, rfl, Tryz.func68, rd41⟩,
 ⟨sg42, Tryz.f69, an42, 3000, rfl, Tryz.func69, rd42⟩,
 ⟨sg43, Tryz.f71, an43, 3000, rfl, Tryz.func71, rd43⟩,
 ⟨sg44, Tryz.f72, an44, 3000, rfl, Tryz.func72, rd44⟩,
 ⟨sg45, Tryz.f73, an45, 3000, rfl, Tryz.func73, rd45⟩,
 ⟨sg46, Tryz.f25, an46, 3000, rfl, Tryz.func25, rd46⟩,
 ⟨sg47, Tryz.f26, an47, 3000, rfl, Tryz.func26, rd47⟩,
 ⟨sg48, Tryz.f74, an48, 3000, rfl, Tryz.func74, rd48⟩,
 ⟨sg49, Tryz.f57, an49, 3000, rfl, Tryz.func57, rd49⟩,
 ⟨sg50, Tryz.f98, an50, 3000, rfl, Tryz.func98, rd50⟩,
 ext51_ok hG,
 ⟨sg52, Tryz.f50, an52, 3000, rfl, Tryz.func50, rd52⟩,
 ext53_ok hG,
 ⟨sg54, Tryz.f52, an54, 3000, rfl, Tryz.func52, rd54⟩,
 ⟨sg55, Tryz.f53, an55, 3000, rfl, Tryz.func53, rd55⟩,
 ⟨sg56, Tryz.f54, an56, 3000, rfl, Tryz.func54, rd56⟩,
 ⟨sg57, Tryz.f55, an57, 3000, rfl, Tryz.func55, rd57⟩,
 ⟨sg58, Tryz.f56, an58, 3000, rfl, Tryz.func56, rd58⟩,
 ⟨sg59, Tryz.f59, an59, 3000, rfl, Tryz.func59, rd59⟩,
 ⟨sg60, Tryz.f58, an60, 3000, rfl, Tryz.func58, rd60⟩,
 ⟨sg61, Tryz.f112, an61, 3000, rfl, Tryz.func112, rd61⟩,
 ⟨sg62, Tryz.f113, an62, 3000, rfl, Tryz.func113, rd62⟩,
 ⟨sg63, Tryz.f114, an63, 3000, rfl, Tryz.func114, rd63⟩,
 ⟨sg64, Tryz.f75, an64, 3000, rfl, Tryz.func75, rd64⟩,
 ⟨sg65, Tryz.f76, an65, 3000, rfl, Tryz.func76, rd65⟩,
 ⟨sg66, Tryz.f77, an66, 3000, rfl, Tryz.func77, rd66⟩,
 ⟨sg67, Tryz.f77, an67, 3000, rfl, Tryz.func77, rd67⟩,
 ⟨sg68, Tryz.f83, an68, 3000, rfl, Tryz.func83, rd68⟩,
 ⟨sg69, Tryz.f84, an69, 3000, rfl, Tryz.func84, rd69⟩,
 ⟨sg70, Tryz.f85, an70, 3000, rfl, Tryz.func85, rd70⟩,
 ⟨sg71, Tryz.f86, an71, 3000, rfl, Tryz.func86, rd71⟩,
 ⟨sg72, Tryz.f87, an72, 3000, rfl, Tryz.func87, rd72⟩,
 ⟨sg73, Tryz.f88, an73, 3000, rfl, Tryz.func88, rd73⟩,
 ⟨sg74, Tryz.f89, an74, 3000, rfl, Tryz.func89, rd74⟩,
 ⟨sg75, Tryz.f90, an75, 3000, rfl, Tryz.func90, rd75⟩,
 ⟨sg76, Tryz.f129, an76, 3000, rfl, Tryz.func129, rd76⟩,
 ⟨sg77, Tryz.f78, an77, 3000, rfl, Tryz.func78, rd77⟩,
 ⟨sg78, Tryz.f79, an78, 3000, rfl, Tryz.func79, rd78⟩,
 ⟨sg79, Tryz.f103, an79, 3000, rfl, Tryz.func103, rd79⟩, trivial⟩
def tb : Nat → TE := tbOf tbl
theorem tb_ok (hG : GHyp G) : TabOK Tryz.prog G T SG sigs tb := tabOK_of (tbl_ok hG)
theorem gok : GOK G SG := ⟨(fun g cs h => by cases h), (fun g cs h => by cases h)⟩
end Go.Proofs.YtefkehflmlikmaaGreatDoor

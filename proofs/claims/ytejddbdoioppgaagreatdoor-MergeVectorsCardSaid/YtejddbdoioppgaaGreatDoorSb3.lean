/- Plain programs of the functions of the program and lemmas about what they compute. -/
import Derived.Test.YtejddbdoioppgaaGreatDoorSb1
import Derived.Test.YtejddbdoioppgaaGreatDoorAtE
import Derived.Test.YtejddbdoioppgaaGreatDoorSqE
import Derived.Test.YtejddbdoioppgaaGreatDoorTz
set_option linter.unusedSimpArgs false
set_option linter.unusedVariables false
set_option linter.unusedSectionVars false
namespace Go.Proofs.YtejddbdoioppgaaGreatDoor
open Go Am
set_option maxRecDepth 100000
variable {G : Glob}
abbrev ext35 : PF := atomsE
theorem ext35_ok (hG : GHyp G) : TEok Tryz.prog G T SG sigs 35 (.ext ext35) := ⟨fun _ _ _ _ h => atomsE_wf h, fun sg h => by cases h; exact atomsE_sig⟩
abbrev ext58 : PF := sortE
theorem ext58_ok (hG : GHyp G) : TEok Tryz.prog G T SG sigs 58 (.ext ext58) := ⟨fun _ _ _ _ h => sortE_wf h, fun sg h => by cases h; exact sortE_sig⟩
abbrev ext59 : PF := revE
theorem ext59_ok (hG : GHyp G) : TEok Tryz.prog G T SG sigs 59 (.ext ext59) := ⟨fun _ _ _ _ h => revE_wf h, fun sg h => by cases h; exact revE_sig⟩
abbrev ext60 : PF := valuesE
theorem ext60_ok (hG : GHyp G) : TEok Tryz.prog G T SG sigs 60 (.ext ext60) := ⟨fun _ _ _ _ h => valuesE_wf h, fun sg h => by cases h; exact valuesE_sig⟩
abbrev ext62 : PF := compactE
theorem ext62_ok (hG : GHyp G) : TEok Tryz.prog G T SG sigs 62 (.ext ext62) := ⟨fun _ _ _ _ h => compactE_wf h, fun sg h => by cases h; exact compactE_sig⟩
abbrev ext63 : PF := cloneE
theorem ext63_ok (hG : GHyp G) : TEok Tryz.prog G T SG sigs 63 (.ext ext63) := ⟨fun _ _ _ _ h => cloneE_wf h, fun sg h => by cases h; exact cloneE_sig⟩
abbrev ext71 : PF := collectE
theorem ext71_ok (hG : GHyp G) : TEok Tryz.prog G T SG sigs 71 (.ext ext71) := ⟨fun _ _ _ _ h => collectE_wf h, fun sg h => by cases h; exact collectE_sig⟩
abbrev ext74 : PF := tzE
theorem ext74_ok (hG : GHyp G) : TEok Tryz.prog G T SG sigs 74 (.ext ext74) := ⟨fun _ _ _ _ h => tzE_wf h, fun sg h => by cases h; exact (tzE_sig hG)⟩
def tbl : List TE := [.ir ir0, .ir ir1, .ir ir2, .ir ir3, .ir ir4, .ir ir5, .ir ir6, .ir ir7, .ir ir8, .ir ir9, .ir ir10, .ir ir11, .ir ir12, .ir ir13, .ir ir14, .ir ir15, .ir ir16, .ir ir17, .ir ir18, .ir ir19, .ir ir20, .ir ir21, .ir ir22, .ir ir23, .ir ir24, .ir ir25, .ir ir26, .ir ir27, .ir ir28, .ir ir29, .ir ir30, .ir ir31, .ir ir32, .ir ir33, .ir ir34, .ext ext35, .ir ir36, .ir ir37, .ir ir38, .ir ir39, .ir ir40, .ir ir41, .ir ir42, .ir ir43, .ir ir44, .ir ir45, .ir ir46, .ir ir47, .ir ir48, .ir ir49, .ir ir50, .ir ir51, .ir ir52, .ir ir53, .ir ir54, .ir ir55, .ir ir56, .ir ir57, .ext ext58, .ext ext59, .ext ext60, .ir ir61, .ext ext62, .ext ext63, .ir ir64, .ir ir65, .ir ir66, .ir ir67, .ir ir68, .ir ir69, .ir ir70, .ext ext71, .ir ir72, .ir ir73, .ext ext74, .ir ir75, .ir ir76, .ir ir77, .ir ir78]
theorem tbl_ok (hG : GHyp G) : TLok Tryz.prog G T SG sigs 0 tbl := ⟨⟨sg0, Tryz.f3, an0, 3000, rfl, Tryz.func3, rd0⟩,
 ⟨sg1, Tryz.f4, an1, 3000, rfl, Tryz.func4, rd1⟩,
 ⟨sg2, Tryz.f5, an2, 3000, rfl, Tryz.func5, rd2⟩,
 ⟨sg3, Tryz.f6, an3, 3000, rfl, Tryz.func6, rd3⟩,
 ⟨sg4, Tryz.f8, an4, 3000, rfl, Tryz.func8, rd4⟩,
 ⟨sg5, Tryz.f9, an5, 3000, rfl, Tryz.func9, rd5⟩,
 ⟨sg6, Tryz.f10, an6, 3000, rfl, Tryz.func10, rd6⟩,
 ⟨sg7, Tryz.f11, an7, 3000, rfl, Tryz.func11, rd7⟩,
 ⟨sg8, Tryz.f12, an8, 3000, rfl, Tryz.func12, rd8⟩,
 ⟨sg9, Tryz.f13, an9, 3000, rfl, Tryz.func13, rd9⟩,
 ⟨sg10, Tryz.f14, an10, 3000, rfl, Tryz.func14, rd10⟩,
 ⟨sg11, Tryz.f16, an11, 3000, rfl, Tryz.func16, rd11⟩,
 ⟨sg12, Tryz.f15, an12, 3000, rfl, Tryz.func15, rd12⟩,
 ⟨sg13, Tryz.f17, an13, 3000, rfl, Tryz.func17, rd13⟩,
 ⟨sg14, Tryz.f18, an14, 3000, rfl, Tryz.func18, rd14⟩,
 ⟨sg15, Tryz.f25, an15, 3000, rfl, Tryz.func25, rd15⟩,
 ⟨sg16, Tryz.f21, an16, 3000, rfl, Tryz.func21, rd16⟩,
 ⟨sg17, Tryz.f22, an17, 3000, rfl, Tryz.func22, rd17⟩,
 ⟨sg18, Tryz.f29, an18, 3000, rfl, Tryz.func29, rd18⟩,
 ⟨sg19, Tryz.f30, an19, 3000, rfl, Tryz.func30, rd19⟩,
 ⟨sg20, Tryz.f31, an20, 3000, rfl, Tryz.func31, rd20⟩,
 ⟨sg21, Tryz.f32, an21, 3000, rfl, Tryz.func32, rd21⟩,
 ⟨sg22, Tryz.f33, an22, 3000, rfl, Tryz.func33, rd22⟩,
 ⟨sg23, Tryz.f34, an23, 3000, rfl, Tryz.func34, rd23⟩,
 ⟨sg24, Tryz.f37, an24, 3000, rfl, Tryz.func37, rd24⟩,
 ⟨sg25, Tryz.f35, an25, 3000, rfl, Tryz.func35, rd25⟩,
 ⟨sg26, Tryz.f36, an26, 3000, rfl, Tryz.func36, rd26⟩,
 ⟨sg27, Tryz.f42, an27, 3000, rfl, Tryz.func42, rd27⟩,
 ⟨sg28, Tryz.f46, an28, 3000, rfl, Tryz.func46, rd28⟩,
 ⟨sg29, Tryz.f41, an29, 3000, rfl, Tryz.func41, rd29⟩,
 ⟨sg30, Tryz.f43, an30, 3000, rfl, Tryz.func43, rd30⟩,
 ⟨sg31, Tryz.f52, an31, 3000, rfl, Tryz.func52, rd31⟩,
 ⟨sg32, Tryz.f60, an32, 3000, rfl, Tryz.func60, rd32⟩,
 ⟨sg33, Tryz.f53, an33, 3000, rfl, Tryz.func53, rd33⟩,
 ⟨sg34, Tryz.f54, an34, 3000, rfl, Tryz.func54, rd34⟩,
 ext35_ok hG,
 ⟨sg36, Tryz.f56, an36, 3000, rfl, Tryz.func56, rd36⟩,
 ⟨sg37, Tryz.f57, an37, 3000, rfl, Tryz.func57, rd37⟩,
 ⟨sg38, Tryz.f58, an38, 3000, rfl, Tryz.func58, rd38⟩,
 ⟨sg39, Tryz.f59, an39, 3000, rfl, Tryz.func59, rd39⟩,
 ⟨sg40, Tryz.f61, an40, 3000, rfl, Tryz.func61, rd40⟩,
 ⟨sg41, Tryz.f63, an41, 3000, rfl, Tryz.func63, rd41⟩,
 ⟨sg42, Tryz.f64, an42, 3000, rfl, Tryz.func64, rd42⟩,
 ⟨sg43, Tryz.f62, an43, 3000, rfl, Tryz.func62, rd43⟩,
 ⟨sg44, Tryz.f88, an44, 3000, rfl, Tryz.func88, rd44⟩,
 ⟨sg45, Tryz.f89, an45, 3000, rfl, Tryz.func89, rd45⟩,
 ⟨sg46, Tryz.f90, an46, 3000, rfl, Tryz.func90, rd46⟩,
 ⟨sg47, Tryz.f74, an47, 3000, rfl, Tryz.func74, rd47⟩,
 ⟨sg48, Tryz.f75, an48, 3000, rfl, Tryz.func75, rd48⟩,
 ⟨sg49, Tryz.f76, an49, 3000, rfl, Tryz.func76, rd49⟩,
 ⟨sg50, Tryz.f77, an50, 3000, rfl, Tryz.func77, rd50⟩,
 ⟨sg51, Tryz.f77, an51, 3000, rfl, Tryz.func77, rd51⟩,
 ⟨sg52, Tryz.f83, an52, 3000, rfl, Tryz.func83, rd52⟩,
 ⟨sg53, Tryz.f84, an53, 3000, rfl, Tryz.func84, rd53⟩,
 ⟨sg54, Tryz.f85, an54, 3000, rfl, Tryz.func85, rd54⟩,
 ⟨sg55, Tryz.f86, an55, 3000, rfl, Tryz.func86, rd55⟩,
 ⟨sg56, Tryz.f87, an56, 3000, rfl, Tryz.func87, rd56⟩,
 ⟨sg57, Tryz.f91, an57, 3000, rfl, Tryz.func91, rd57⟩,
 ext58_ok hG,
 ext59_ok hG,
 ext60_ok hG,
 ⟨sg61, Tryz.f97, an61, 3000, rfl, Tryz.func97, rd61⟩,
 ext62_ok hG,
 ext63_ok hG,
 ⟨sg64, Tryz.f100, an64, 3000, rfl, Tryz.func100, rd64⟩,
 ⟨sg65, Tryz.f92, an65, 3000, rfl, Tryz.func92, rd65⟩,
 ⟨sg66, Tryz.f93, an66, 3000, rfl, Tryz.func93, rd66⟩,
 ⟨sg67, Tryz.f111, an67, 3000, rfl, Tryz.func111, rd67⟩,
 ⟨sg68, Tryz.f78, an68, 3000, rfl, Tryz.func78, rd68⟩,
 ⟨sg69, Tryz.f79, an69, 3000, rfl, Tryz.func79, rd69⟩,
 ⟨sg70, Tryz.f110, an70, 3000, rfl, Tryz.func110, rd70⟩,
 ext71_ok hG,
 ⟨sg72, Tryz.f118, an72, 3000, rfl, Tryz.func118, rd72⟩,
 ⟨sg73, Tryz.f119, an73, 3000, rfl, Tryz.func119, rd73⟩,
 ext74_ok hG,
 ⟨sg75, Tryz.f114, an75, 3000, rfl, Tryz.func114, rd75⟩,
 ⟨sg76, Tryz.f113, an76, 3000, rfl, Tryz.func113, rd76⟩,
 ⟨sg77, Tryz.f132, an77, 3000, rfl, Tryz.func132, rd77⟩,
 ⟨sg78, Tryz.f142, an78, 3000, rfl, Tryz.func142, rd78⟩, trivial⟩
def tb : Nat → TE := tbOf tbl
theorem tb_ok (hG : GHyp G) : TabOK Tryz.prog G T SG sigs tb := tabOK_of (tbl_ok hG)
theorem gok : GOK G SG := ⟨(fun g cs h => by cases h), (fun g cs h => by cases h)⟩
end Go.Proofs.YtejddbdoioppgaaGreatDoor

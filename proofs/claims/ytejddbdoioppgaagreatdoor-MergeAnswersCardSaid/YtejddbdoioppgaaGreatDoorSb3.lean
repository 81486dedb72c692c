/- What functions of the program compute: lemmas. -/
import Derived.Test.YtejddbdoioppgaaGreatDoorSb1
import Derived.Test.YtejddbdoioppgaaGreatDoorAtE
import Derived.Test.YtejddbdoioppgaaGreatDoorSqE
import Derived.Test.YtejddbdoioppgaaGreatDoorTz
set_option linter.unusedSimpArgs false
set_option linter.unusedVariables false
set_option linter.unusedSectionVars false
namespace Go.Proofs.YtejddbdoioppgaaGreatDoor
open Go Am
set_option maxRecDepth 100000
variable {G : Glob}
abbrev ext30 : PF := scoreE
theorem ext30_ok (hG : GHyp G) : TEok Tryz.prog G T SG sigs 30 (.ext ext30) := ⟨fun _ _ _ _ h => scoreE_wf h, fun sg h => by cases h; exact scoreE_sig⟩
abbrev ext51 : PF := atomsE
theorem ext51_ok (hG : GHyp G) : TEok Tryz.prog G T SG sigs 51 (.ext ext51) := ⟨fun _ _ _ _ h => atomsE_wf h, fun sg h => by cases h; exact atomsE_sig⟩
abbrev ext69 : PF := sortE
theorem ext69_ok (hG : GHyp G) : TEok Tryz.prog G T SG sigs 69 (.ext ext69) := ⟨fun _ _ _ _ h => sortE_wf h, fun sg h => by cases h; exact sortE_sig⟩
abbrev ext70 : PF := revE
theorem ext70_ok (hG : GHyp G) : TEok Tryz.prog G T SG sigs 70 (.ext ext70) := ⟨fun _ _ _ _ h => revE_wf h, fun sg h => by cases h; exact revE_sig⟩
abbrev ext71 : PF := valuesE
theorem ext71_ok (hG : GHyp G) : TEok Tryz.prog G T SG sigs 71 (.ext ext71) := ⟨fun _ _ _ _ h => valuesE_wf h, fun sg h => by cases h; exact valuesE_sig⟩
abbrev ext73 : PF := compactE
theorem ext73_ok (hG : GHyp G) : TEok Tryz.prog G T SG sigs 73 (.ext ext73) := ⟨fun _ _ _ _ h => compactE_wf h, fun sg h => by cases h; exact compactE_sig⟩
abbrev ext74 : PF := cloneE
theorem ext74_ok (hG : GHyp G) : TEok Tryz.prog G T SG sigs 74 (.ext ext74) := ⟨fun _ _ _ _ h => cloneE_wf h, fun sg h => by cases h; exact cloneE_sig⟩
abbrev ext94 : PF := tzE
theorem ext94_ok (hG : GHyp G) : TEok Tryz.prog G T SG sigs 94 (.ext ext94) := ⟨fun _ _ _ _ h => tzE_wf h, fun sg h => by cases h; exact (tzE_sig hG)⟩
abbrev ext97 : PF := collectE
theorem ext97_ok (hG : GHyp G) : TEok Tryz.prog G T SG sigs 97 (.ext ext97) := ⟨fun _ _ _ _ h => collectE_wf h, fun sg h => by cases h; exact collectE_sig⟩
def tbl : List TE := [.ir ir0, .ir ir1, .ir ir2, .ir ir3, .ir ir4, .ir ir5, .ir ir6, .ir ir7, .ir ir8, .ir ir9, .ir ir10, .ir ir11, .ir ir12, .ir ir13, .ir ir14, .ir ir15, .ir ir16, .ir ir17, .ir ir18, .ir ir19, .ir ir20, .ir ir21, .ir ir22, .ir ir23, .ir ir24, .ir ir25, .ir ir26, .ir ir27, .ir ir28, .ir ir29, .ext ext30, .ir ir31, .ir ir32, .ir ir33, .ir ir34, .ir ir35, .ir ir36, .ir ir37, .ir ir38, .ir ir39, .ir ir40, .ir ir41, .ir ir42, .ir ir43, .ir ir44, .ir ir45, .ir ir46, .ir ir47, .ir ir48, .ir ir49, .ir ir50, .ext ext51, .ir ir52, .ir ir53, .ir ir54, .ir ir55, .ir ir56, .ir ir57, .ir ir58, .ir ir59, .ir ir60, .ir ir61, .ir ir62, .ir ir63, .ir ir64, .ir ir65, .ir ir66, .ir ir67, .ir ir68, .ext ext69, .ext ext70, .ext ext71, .ir ir72, .ext ext73, .ext ext74, .ir ir75, .ir ir76, .ir ir77, .ir ir78, .ir ir79, .ir ir80, .ir ir81, .ir ir82, .ir ir83, .ir ir84, .ir ir85, .ir ir86, .ir ir87, .ir ir88, .ir ir89, .ir ir90, .ir ir91, .ir ir92, .ir ir93, .ext ext94, .ir ir95, .ir ir96, .ext ext97, .ir ir98, .ir ir99, .ir ir100, .ir ir101, .ir ir102, .ir ir103, .ir ir104, .ir ir105, .ir ir106]
theorem tbl_ok (hG : GHyp G) : TLok Tryz.prog G T SG sigs 0 tbl := ⟨⟨sg0, Tryz.f7, an0, 3000, rfl, Tryz.func7, rd0⟩,
 ⟨sg1, Tryz.f19, an1, 3000, rfl, Tryz.func19, rd1⟩,
 ⟨sg2, Tryz.f17, an2, 3000, rfl, Tryz.func17, rd2⟩,
 ⟨sg3, Tryz.f9, an3, 3000, rfl, Tryz.func9, rd3⟩,
 ⟨sg4, Tryz.f10, an4, 3000, rfl, Tryz.func10, rd4⟩,
 ⟨sg5, Tryz.f12, an5, 3000, rfl, Tryz.func12, rd5⟩,
 ⟨sg6, Tryz.f20, an6, 3000, rfl, Tryz.func20, rd6⟩,
 ⟨sg7, Tryz.f11, an7, 3000, rfl, Tryz.func11, rd7⟩,
 ⟨sg8, Tryz.f21, an8, 3000, rfl, Tryz.func21, rd8⟩,
 ⟨sg9, Tryz.f22, an9, 3000, rfl, Tryz.func22, rd9⟩,
 ⟨sg10, Tryz.f23, an10, 3000, rfl, Tryz.func23, rd10⟩,
 ⟨sg11, Tryz.f24, an11, 3000, rfl, Tryz.func24, rd11⟩,
 ⟨sg12, Tryz.f25, an12, 3000, rfl, Tryz.func25, rd12⟩,
 ⟨sg13, Tryz.f26, an13, 3000, rfl, Tryz.func26, rd13⟩,
 ⟨sg14, Tryz.f27, an14, 3000, rfl, Tryz.func27, rd14⟩,
 ⟨sg15, Tryz.f14, an15, 3000, rfl, Tryz.func14, rd15⟩,
 ⟨sg16, Tryz.f16, an16, 3000, rfl, Tryz.func16, rd16⟩,
 ⟨sg17, Tryz.f15, an17, 3000, rfl, Tryz.func15, rd17⟩,
 ⟨sg18, Tryz.f28, an18, 3000, rfl, Tryz.func28, rd18⟩,
 ⟨sg19, Tryz.f38, an19, 3000, rfl, Tryz.func38, rd19⟩,
 ⟨sg20, Tryz.f39, an20, 3000, rfl, Tryz.func39, rd20⟩,
 ⟨sg21, Tryz.f40, an21, 3000, rfl, Tryz.func40, rd21⟩,
 ⟨sg22, Tryz.f18, an22, 3000, rfl, Tryz.func18, rd22⟩,
 ⟨sg23, Tryz.f34, an23, 3000, rfl, Tryz.func34, rd23⟩,
 ⟨sg24, Tryz.f41, an24, 3000, rfl, Tryz.func41, rd24⟩,
 ⟨sg25, Tryz.f42, an25, 3000, rfl, Tryz.func42, rd25⟩,
 ⟨sg26, Tryz.f43, an26, 3000, rfl, Tryz.func43, rd26⟩,
 ⟨sg27, Tryz.f44, an27, 3000, rfl, Tryz.func44, rd27⟩,
 ⟨sg28, Tryz.f45, an28, 3000, rfl, Tryz.func45, rd28⟩,
 ⟨sg29, Tryz.f46, an29, 3000, rfl, Tryz.func46, rd29⟩,
 ext30_ok hG,
 ⟨sg31, Tryz.f48, an31, 3000, rfl, Tryz.func48, rd31⟩,
 ⟨sg32, Tryz.f49, an32, 3000, rfl, Tryz.func49, rd32⟩,
 ⟨sg33, Tryz.f13, an33, 3000, rfl, Tryz.func13, rd33⟩,
 ⟨sg34, Tryz.f37, an34, 3000, rfl, Tryz.func37, rd34⟩,
 ⟨sg35, Tryz.f35, an35, 3000, rfl, Tryz.func35, rd35⟩,
 ⟨sg36, Tryz.f36, an36, 3000, rfl, Tryz.func36, rd36⟩,
 ⟨sg37, Tryz.f50, an37, 3000, rfl, Tryz.func50, rd37⟩,
 ⟨sg38, Tryz.f51, an38, 3000, rfl, Tryz.func51, rd38⟩,
 ⟨sg39, Tryz.f53, an39, 3000, rfl, Tryz.func53, rd39⟩,
 ⟨sg40, Tryz.f61, an40, 3000, rfl, Tryz.func61, rd40⟩,
 ⟨sg41, Tryz.f62, an41, 3000, rfl, Tryz.func62, rd41⟩,
 ⟨sg42, Tryz.f32, an42, 3000, rfl, Tryz.func32, rd42⟩,
 ⟨sg43, Tryz.f30, an43, 3000, rfl, Tryz.func30, rd43⟩,
 ⟨sg44, Tryz.f31, an44, 3000, rfl, Tryz.func31, rd44⟩,
 ⟨sg45, Tryz.f63, an45, 3000, rfl, Tryz.func63, rd45⟩,
 ⟨sg46, Tryz.f64, an46, 3000, rfl, Tryz.func64, rd46⟩,
 ⟨sg47, Tryz.f65, an47, 3000, rfl, Tryz.func65, rd47⟩,
 ⟨sg48, Tryz.f33, an48, 3000, rfl, Tryz.func33, rd48⟩,
 ⟨sg49, Tryz.f60, an49, 3000, rfl, Tryz.func60, rd49⟩,
 ⟨sg50, Tryz.f54, an50, 3000, rfl, Tryz.func54, rd50⟩,
 ext51_ok hG,
 ⟨sg52, Tryz.f56, an52, 3000, rfl, Tryz.func56, rd52⟩,
 ⟨sg53, Tryz.f57, an53, 3000, rfl, Tryz.func57, rd53⟩,
 ⟨sg54, Tryz.f58, an54, 3000, rfl, Tryz.func58, rd54⟩,
 ⟨sg55, Tryz.f59, an55, 3000, rfl, Tryz.func59, rd55⟩,
 ⟨sg56, Tryz.f66, an56, 3000, rfl, Tryz.func66, rd56⟩,
 ⟨sg57, Tryz.f67, an57, 3000, rfl, Tryz.func67, rd57⟩,
 ⟨sg58, Tryz.f68, an58, 3000, rfl, Tryz.func68, rd58⟩,
 ⟨sg59, Tryz.f70, an59, 3000, rfl, Tryz.func70, rd59⟩,
 ⟨sg60, Tryz.f69, an60, 3000, rfl, Tryz.func69, rd60⟩,
 ⟨sg61, Tryz.f71, an61, 3000, rfl, Tryz.func71, rd61⟩,
 ⟨sg62, Tryz.f72, an62, 3000, rfl, Tryz.func72, rd62⟩,
 ⟨sg63, Tryz.f73, an63, 3000, rfl, Tryz.func73, rd63⟩,
 ⟨sg64, Tryz.f74, an64, 3000, rfl, Tryz.func74, rd64⟩,
 ⟨sg65, Tryz.f91, an65, 3000, rfl, Tryz.func91, rd65⟩,
 ⟨sg66, Tryz.f92, an66, 3000, rfl, Tryz.func92, rd66⟩,
 ⟨sg67, Tryz.f93, an67, 3000, rfl, Tryz.func93, rd67⟩,
 ⟨sg68, Tryz.f52, an68, 3000, rfl, Tryz.func52, rd68⟩,
 ext69_ok hG,
 ext70_ok hG,
 ext71_ok hG,
 ⟨sg72, Tryz.f97, an72, 3000, rfl, Tryz.func97, rd72⟩,
 ext73_ok hG,
 ext74_ok hG,
 ⟨sg75, Tryz.f100, an75, 3000, rfl, Tryz.func100, rd75⟩,
 ⟨sg76, Tryz.f88, an76, 3000, rfl, Tryz.func88, rd76⟩,
 ⟨sg77, Tryz.f89, an77, 3000, rfl, Tryz.func89, rd77⟩,
 ⟨sg78, Tryz.f90, an78, 3000, rfl, Tryz.func90, rd78⟩,
 ⟨sg79, Tryz.f75, an79, 3000, rfl, Tryz.func75, rd79⟩,
 ⟨sg80, Tryz.f76, an80, 3000, rfl, Tryz.func76, rd80⟩,
 ⟨sg81, Tryz.f77, an81, 3000, rfl, Tryz.func77, rd81⟩,
 ⟨sg82, Tryz.f77, an82, 3000, rfl, Tryz.func77, rd82⟩,
 ⟨sg83, Tryz.f83, an83, 3000, rfl, Tryz.func83, rd83⟩,
 ⟨sg84, Tryz.f84, an84, 3000, rfl, Tryz.func84, rd84⟩,
 ⟨sg85, Tryz.f85, an85, 3000, rfl, Tryz.func85, rd85⟩,
 ⟨sg86, Tryz.f86, an86, 3000, rfl, Tryz.func86, rd86⟩,
 ⟨sg87, Tryz.f87, an87, 3000, rfl, Tryz.func87, rd87⟩,
 ⟨sg88, Tryz.f101, an88, 3000, rfl, Tryz.func101, rd88⟩,
 ⟨sg89, Tryz.f102, an89, 3000, rfl, Tryz.func102, rd89⟩,
 ⟨sg90, Tryz.f103, an90, 3000, rfl, Tryz.func103, rd90⟩,
 ⟨sg91, Tryz.f104, an91, 3000, rfl, Tryz.func104, rd91⟩,
 ⟨sg92, Tryz.f105, an92, 3000, rfl, Tryz.func105, rd92⟩,
 ⟨sg93, Tryz.f106, an93, 3000, rfl, Tryz.func106, rd93⟩,
 ext94_ok hG,
 ⟨sg95, Tryz.f114, an95, 3000, rfl, Tryz.func114, rd95⟩,
 ⟨sg96, Tryz.f113, an96, 3000, rfl, Tryz.func113, rd96⟩,
 ext97_ok hG,
 ⟨sg98, Tryz.f118, an98, 3000, rfl, Tryz.func118, rd98⟩,
 ⟨sg99, Tryz.f119, an99, 3000, rfl, Tryz.func119, rd99⟩,
 ⟨sg100, Tryz.f111, an100, 3000, rfl, Tryz.func111, rd100⟩,
 ⟨sg101, Tryz.f78, an101, 3000, rfl, Tryz.func78, rd101⟩,
 ⟨sg102, Tryz.f79, an102, 3000, rfl, Tryz.func79, rd102⟩,
 ⟨sg103, Tryz.f110, an103, 3000, rfl, Tryz.func110, rd103⟩,
 ⟨sg104, Tryz.f120, an104, 3000, rfl, Tryz.func120, rd104⟩,
 ⟨sg105, Tryz.f142, an105, 3000, rfl, Tryz.func142, rd105⟩,
 ⟨sg106, Tryz.f132, an106, 3000, rfl, Tryz.func132, rd106⟩, trivial⟩
def tb : Nat → TE := tbOf tbl
theorem tb_ok (hG : GHyp G) : TabOK Tryz.prog G T SG sigs tb := tabOK_of (tbl_ok hG)
theorem gok : GOK G SG := ⟨(fun g cs h => by cases h), (fun g cs h => by cases h)⟩
end Go.Proofs.YtejddbdoioppgaaGreatDoor

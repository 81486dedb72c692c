/- Plain programs of the functions of the program and lemmas about what they compute. -/
import Derived.Test.YtjedjjooidohhaaSb1
import Derived.Test.YtjedjjooidohhaaAtE
set_option linter.unusedSimpArgs false
set_option linter.unusedVariables false
set_option linter.unusedSectionVars false
namespace Go.Proofs.Ytjedjjooidohhaa
open Go Am
set_option maxRecDepth 100000
variable {G : Glob}
def GHyp (G : Glob) : Prop := G = fun _ => none
abbrev ext18 : PF := noneE
theorem ext18_ok (_ : GHyp G) : TEok Try.prog G T SG sigs 18 (.ext ext18) := TEok.none 18
abbrev ext70 : PF := atomsE
theorem ext70_ok (hG : GHyp G) : TEok Try.prog G T SG sigs 70 (.ext ext70) := ⟨fun _ _ _ _ h => atomsE_wf h, fun sg h => by cases h; exact atomsE_sig⟩
def tbl : List TE := [.ir ir0, .ir ir1, .ir ir2, .ext noneE, .ir ir4, .ir ir5, .ir ir6, .ir ir7, .ir ir8, .ir ir9, .ir ir10, .ir ir11, .ir ir12, .ir ir13, .ir ir14, .ir ir15, .ir ir16, .ir ir17, .ext ext18, .ir ir19, .ir ir20, .ext noneE, .ir ir22, .ir ir23, .ir ir24, .ir ir25, .ir ir26, .ir ir27, .ir ir28, .ir ir29, .ir ir30, .ir ir31, .ir ir32, .ir ir33, .ir ir34, .ir ir35, .ir ir36, .ir ir37, .ir ir38, .ir ir39, .ir ir40, .ir ir41, .ir ir42, .ir ir43, .ir ir44, .ir ir45, .ir ir46, .ir ir47, .ir ir48, .ir ir49, .ir ir50, .ir ir51, .ir ir52, .ir ir53, .ir ir54, .ir ir55, .ir ir56, .ir ir57, .ir ir58, .ir ir59, .ir ir60, .ir ir61, .ir ir62, .ir ir63, .ir ir64, .ir ir65, .ir ir66, .ir ir67, .ir ir68, .ir ir69, .ext ext70, .ir ir71, .ir ir72, .ir ir73, .ir ir74, .ir ir75, .ir ir76, .ir ir77, .ir ir78, .ir ir79, .ir ir80, .ir ir81, .ir ir82, .ir ir83, .ir ir84, .ir ir85]
theorem tbl_ok (hG : GHyp G) : TLok Try.prog G T SG sigs 0 tbl := ⟨⟨sg0, Try.f3, an0, 3000, rfl, Try.func3, rd0⟩,
  ⟨sg1, Try.f4, an1, 3000, rfl, Try.func4, rd1⟩,
  ⟨sg2, Try.f5, an2, 3000, rfl, Try.func5, rd2⟩,
  TEok.none 3,
  ⟨sg4, Try.f7, an4, 3000, rfl, Try.func7, rd4⟩,
  ⟨sg5, Try.f8, an5, 3000, rfl, Try.func8, rd5⟩,
  ⟨sg6, Try.f9, an6, 3000, rfl, Try.func9, rd6⟩,
  ⟨sg7, Try.f10, an7, 3000, rfl, Try.func10, rd7⟩,
  ⟨sg8, Try.f11, an8, 3000, rfl, Try.func11, rd8⟩,
  ⟨sg9, Try.f13, an9, 3000, rfl, Try.func13, rd9⟩,
  ⟨sg10, Try.f12, an10, 3000, rfl, Try.func12, rd10⟩,
  ⟨sg11, Try.f14, an11, 3000, rfl, Try.func14, rd11⟩,
  ⟨sg12, Try.f15, an12, 3000, rfl, Try.func15, rd12⟩,
  ⟨sg13, Try.f16, an13, 3000, rfl, Try.func16, rd13⟩,
  ⟨sg14, Try.f17, an14, 3000, rfl, Try.func17, rd14⟩,
  ⟨sg15, Try.f18, an15, 3000, rfl, Try.func18, rd15⟩,
  ⟨sg16, Try.f19, an16, 3000, rfl, Try.func19, rd16⟩,
  ⟨sg17, Try.f21, an17, 3000, rfl, Try.func21, rd17⟩,
  ext18_ok hG,
  ⟨sg19, Try.f22, an19, 3000, rfl, Try.func22, rd19⟩,
  ⟨sg20, Try.f23, an20, 3000, rfl, Try.func23, rd20⟩,
  TEok.none 21,
  ⟨sg22, Try.f25, an22, 3000, rfl, Try.func25, rd22⟩,
  ⟨sg23, Try.f26, an23, 3000, rfl, Try.func26, rd23⟩,
  ⟨sg24, Try.f28, an24, 3000, rfl, Try.func28, rd24⟩,
  ⟨sg25, Try.f27, an25, 3000, rfl, Try.func27, rd25⟩,
  ⟨sg26, Try.f33, an26, 3000, rfl, Try.func33, rd26⟩,
  ⟨sg27, Try.f34, an27, 3000, rfl, Try.func34, rd27⟩,
  ⟨sg28, Try.f35, an28, 3000, rfl, Try.func35, rd28⟩,
  ⟨sg29, Try.f36, an29, 3000, rfl, Try.func36, rd29⟩,
  ⟨sg30, Try.f37, an30, 3000, rfl, Try.func37, rd30⟩,
  ⟨sg31, Try.f38, an31, 3000, rfl, Try.func38, rd31⟩,
  ⟨sg32, Try.f39, an32, 3000, rfl, Try.func39, rd32⟩,
  ⟨sg33, Try.f40, an33, 3000, rfl, Try.func40, rd33⟩,
  ⟨sg34, Try.f30, an34, 3000, rfl, Try.func30, rd34⟩,
  ⟨sg35, Try.f41, an35, 3000, rfl, Try.func41, rd35⟩,
  ⟨sg36, Try.f42, an36, 3000, rfl, Try.func42, rd36⟩,
  ⟨sg37, Try.f43, an37, 3000, rfl, Try.func43, rd37⟩,
  ⟨sg38, Try.f44, an38, 3000, rfl, Try.func44, rd38⟩,
  ⟨sg39, Try.f45, an39, 3000, rfl, Try.func45, rd39⟩,
  ⟨sg40, Try.f46, an40, 3000, rfl, Try.func46, rd40⟩,
  ⟨sg41, Try.f52, an41, 3000, rfl, Try.func52, rd41⟩,
  ⟨sg42, Try.f53, an42, 3000, rfl, Try.func53, rd42⟩,
  ⟨sg43, Try.f57, an43, 3000, rfl, Try.func57, rd43⟩,
  ⟨sg44, Try.f58, an44, 3000, rfl, Try.func58, rd44⟩,
  ⟨sg45, Try.f59, an45, 3000, rfl, Try.func59, rd45⟩,
  ⟨sg46, Try.f60, an46, 3000, rfl, Try.func60, rd46⟩,
  ⟨sg47, Try.f61, an47, 3000, rfl, Try.func61, rd47⟩,
  ⟨sg48, Try.f64, an48, 3000, rfl, Try.func64, rd48⟩,
  ⟨sg49, Try.f65, an49, 3000, rfl, Try.func65, rd49⟩,
  ⟨sg50, Try.f66, an50, 3000, rfl, Try.func66, rd50⟩,
  ⟨sg51, Try.f68, an51, 3000, rfl, Try.func68, rd51⟩,
  ⟨sg52, Try.f67, an52, 3000, rfl, Try.func67, rd52⟩,
  ⟨sg53, Try.f69, an53, 3000, rfl, Try.func69, rd53⟩,
  ⟨sg54, Try.f70, an54, 3000, rfl, Try.func70, rd54⟩,
  ⟨sg55, Try.f62, an55, 3000, rfl, Try.func62, rd55⟩,
  ⟨sg56, Try.f71, an56, 3000, rfl, Try.func71, rd56⟩,
  ⟨sg57, Try.f72, an57, 3000, rfl, Try.func72, rd57⟩,
  ⟨sg58, Try.f78, an58, 3000, rfl, Try.func78, rd58⟩,
  ⟨sg59, Try.f79, an59, 3000, rfl, Try.func79, rd59⟩,
  ⟨sg60, Try.f80, an60, 3000, rfl, Try.func80, rd60⟩,
  ⟨sg61, Try.f81, an61, 3000, rfl, Try.func81, rd61⟩,
  ⟨sg62, Try.f82, an62, 3000, rfl, Try.func82, rd62⟩,
  ⟨sg63, Try.f83, an63, 3000, rfl, Try.func83, rd63⟩,
  ⟨sg64, Try.f84, an64, 3000, rfl, Try.func84, rd64⟩,
  ⟨sg65, Try.f85, an65, 3000, rfl, Try.func85, rd65⟩,
  ⟨sg66, Try.f86, an66, 3000, rfl, Try.func86, rd66⟩,
  ⟨sg67, Try.f87, an67, 3000, rfl, Try.func87, rd67⟩,
  ⟨sg68, Try.f92, an68, 3000, rfl, Try.func92, rd68⟩,
  ⟨sg69, Try.f93, an69, 3000, rfl, Try.func93, rd69⟩,
  ext70_ok hG,
  ⟨sg71, Try.f95, an71, 3000, rfl, Try.func95, rd71⟩,
  ⟨sg72, Try.f96, an72, 3000, rfl, Try.func96, rd72⟩,
  ⟨sg73, Try.f97, an73, 3000, rfl, Try.func97, rd73⟩,
  ⟨sg74, Try.f98, an74, 3000, rfl, Try.func98, rd74⟩,
  ⟨sg75, Try.f99, an75, 3000, rfl, Try.func99, rd75⟩,
  ⟨sg76, Try.f100, an76, 3000, rfl, Try.func100, rd76⟩,
  ⟨sg77, Try.f111, an77, 3000, rfl, Try.func111, rd77⟩,
  ⟨sg78, Try.f112, an78, 3000, rfl, Try.func112, rd78⟩,
  ⟨sg79, Try.f113, an79, 3000, rfl, Try.func113, rd79⟩,
  ⟨sg80, Try.f113, an80, 3000, rfl, Try.func113, rd80⟩,
  ⟨sg81, Try.f119, an81, 3000, rfl, Try.func119, rd81⟩,
  ⟨sg82, Try.f120, an82, 3000, rfl, Try.func120, rd82⟩,
  ⟨sg83, Try.f121, an83, 3000, rfl, Try.func121, rd83⟩,
  ⟨sg84, Try.f114, an84, 3000, rfl, Try.func114, rd84⟩,
  ⟨sg85, Try.f115, an85, 3000, rfl, Try.func115, rd85⟩, trivial⟩
def tb : Nat → TE := tbOf tbl
theorem tb_ok (hG : GHyp G) : TabOK Try.prog G T SG sigs tb := tabOK_of (tbl_ok hG)
theorem gok : GOK G SG := ⟨(fun g cs h => by cases h), (fun g cs h => by cases h)⟩
end Go.Proofs.Ytjedjjooidohhaa

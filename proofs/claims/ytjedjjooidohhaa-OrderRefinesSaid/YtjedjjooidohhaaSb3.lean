/- Plain programs of the functions of the program and lemmas about what they compute. -/
import Derived.Test.YtjedjjooidohhaaSb1
import Derived.Test.YtjedjjooidohhaaAtE
import Derived.Test.YtjedjjooidohhaaSqE
set_option linter.unusedSimpArgs false
set_option linter.unusedVariables false
set_option linter.unusedSectionVars false
namespace Go.Proofs.Ytjedjjooidohhaa
open Go Am
set_option maxRecDepth 100000
variable {G : Glob}
def GHyp (G : Glob) : Prop := G = fun _ => none
abbrev ext41 : PF := valuesE
theorem ext41_ok (hG : GHyp G) : TEok Try.prog G T SG sigs 41 (.ext ext41) := ⟨fun _ _ _ _ h => valuesE_wf h, fun sg h => by cases h; exact valuesE_sig⟩
abbrev ext43 : PF := compactE
theorem ext43_ok (hG : GHyp G) : TEok Try.prog G T SG sigs 43 (.ext ext43) := ⟨fun _ _ _ _ h => compactE_wf h, fun sg h => by cases h; exact compactE_sig⟩
abbrev ext44 : PF := cloneE
theorem ext44_ok (hG : GHyp G) : TEok Try.prog G T SG sigs 44 (.ext ext44) := ⟨fun _ _ _ _ h => cloneE_wf h, fun sg h => by cases h; exact cloneE_sig⟩
abbrev ext63 : PF := collectE
theorem ext63_ok (hG : GHyp G) : TEok Try.prog G T SG sigs 63 (.ext ext63) := ⟨fun _ _ _ _ h => collectE_wf h, fun sg h => by cases h; exact collectE_sig⟩
abbrev ext64 : PF := sortE
theorem ext64_ok (hG : GHyp G) : TEok Try.prog G T SG sigs 64 (.ext ext64) := ⟨fun _ _ _ _ h => sortE_wf h, fun sg h => by cases h; exact sortE_sig⟩
abbrev ext80 : PF := atomsE
theorem ext80_ok (hG : GHyp G) : TEok Try.prog G T SG sigs 80 (.ext ext80) := ⟨fun _ _ _ _ h => atomsE_wf h, fun sg h => by cases h; exact atomsE_sig⟩
def tbl : List TE := [.ir ir0, .ir ir1, .ir ir2, .ext noneE, .ir ir4, .ir ir5, .ir ir6, .ir ir7, .ir ir8, .ir ir9, .ir ir10, .ir ir11, .ir ir12, .ir ir13, .ir ir14, .ir ir15, .ir ir16, .ir ir17, .ir ir18, .ir ir19, .ir ir20, .ext noneE, .ir ir22, .ir ir23, .ir ir24, .ir ir25, .ir ir26, .ir ir27, .ir ir28, .ir ir29, .ir ir30, .ir ir31, .ir ir32, .ir ir33, .ir ir34, .ir ir35, .ir ir36, .ir ir37, .ir ir38, .ir ir39, .ir ir40, .ext ext41, .ir ir42, .ext ext43, .ext ext44, .ir ir45, .ir ir46, .ir ir47, .ir ir48, .ir ir49, .ir ir50, .ir ir51, .ir ir52, .ir ir53, .ir ir54, .ir ir55, .ir ir56, .ir ir57, .ir ir58, .ir ir59, .ir ir60, .ir ir61, .ir ir62, .ext ext63, .ext ext64, .ir ir65, .ir ir66, .ir ir67, .ir ir68, .ir ir69, .ir ir70, .ir ir71, .ir ir72, .ir ir73, .ir ir74, .ir ir75, .ir ir76, .ir ir77, .ir ir78, .ir ir79, .ext ext80, .ir ir81, .ir ir82, .ir ir83, .ir ir84, .ir ir85, .ir ir86, .ir ir87, .ir ir88, .ir ir89, .ir ir90, .ir ir91, .ir ir92, .ir ir93, .ir ir94, .ir ir95]
theorem tbl_ok (hG : GHyp G) : TLok Try.prog G T SG sigs 0 tbl := ⟨⟨sg0, Try.f3, an0, 3000, rfl, Try.func3, rd0⟩,
  ⟨sg1, Try.f4, an1, 3000, rfl, Try.func4, rd1⟩,
  ⟨sg2, Try.f5, an2, 3000, rfl, Try.func5, rd2⟩,
  TEok.none 3,
  ⟨sg4, Try.f7, an4, 3000, rfl, Try.func7, rd4⟩,
  ⟨sg5, Try.f8, an5, 3000, rfl, Try.func8, rd5⟩,
  ⟨sg6, Try.f9, an6, 3000, rfl, Try.func9, rd6⟩,
  ⟨sg7, Try.f10, an7, 3000, rfl, Try.func10, rd7⟩,
  ⟨sg8, Try.f11, an8, 3000, rfl, Try.func11, rd8⟩,
  ⟨sg9, Try.f13, an9, 3000, rfl, Try.func13, rd9⟩,
  ⟨sg10, Try.f12, an10, 3000, rfl, Try.func12, rd10⟩,
  ⟨sg11, Try.f14, an11, 3000, rfl, Try.func14, rd11⟩,
  ⟨sg12, Try.f15, an12, 3000, rfl, Try.func15, rd12⟩,
  ⟨sg13, Try.f16, an13, 3000, rfl, Try.func16, rd13⟩,
  ⟨sg14, Try.f17, an14, 3000, rfl, Try.func17, rd14⟩,
  ⟨sg15, Try.f18, an15, 3000, rfl, Try.func18, rd15⟩,
  ⟨sg16, Try.f19, an16, 3000, rfl, Try.func19, rd16⟩,
  ⟨sg17, Try.f21, an17, 3000, rfl, Try.func21, rd17⟩,
  ⟨sg18, Try.f20, an18, 3000, rfl, Try.func20, rd18⟩,
  ⟨sg19, Try.f22, an19, 3000, rfl, Try.func22, rd19⟩,
  ⟨sg20, Try.f23, an20, 3000, rfl, Try.func23, rd20⟩,
  TEok.none 21,
  ⟨sg22, Try.f25, an22, 3000, rfl, Try.func25, rd22⟩,
  ⟨sg23, Try.f26, an23, 3000, rfl, Try.func26, rd23⟩,
  ⟨sg24, Try.f28, an24, 3000, rfl, Try.func28, rd24⟩,
  ⟨sg25, Try.f27, an25, 3000, rfl, Try.func27, rd25⟩,
  ⟨sg26, Try.f33, an26, 3000, rfl, Try.func33, rd26⟩,
  ⟨sg27, Try.f34, an27, 3000, rfl, Try.func34, rd27⟩,
  ⟨sg28, Try.f35, an28, 3000, rfl, Try.func35, rd28⟩,
  ⟨sg29, Try.f36, an29, 3000, rfl, Try.func36, rd29⟩,
  ⟨sg30, Try.f37, an30, 3000, rfl, Try.func37, rd30⟩,
  ⟨sg31, Try.f38, an31, 3000, rfl, Try.func38, rd31⟩,
  ⟨sg32, Try.f39, an32, 3000, rfl, Try.func39, rd32⟩,
  ⟨sg33, Try.f40, an33, 3000, rfl, Try.func40, rd33⟩,
  ⟨sg34, Try.f30, an34, 3000, rfl, Try.func30, rd34⟩,
  ⟨sg35, Try.f41, an35, 3000, rfl, Try.func41, rd35⟩,
  ⟨sg36, Try.f42, an36, 3000, rfl, Try.func42, rd36⟩,
  ⟨sg37, Try.f43, an37, 3000, rfl, Try.func43, rd37⟩,
  ⟨sg38, Try.f44, an38, 3000, rfl, Try.func44, rd38⟩,
  ⟨sg39, Try.f45, an39, 3000, rfl, Try.func45, rd39⟩,
  ⟨sg40, Try.f46, an40, 3000, rfl, Try.func46, rd40⟩,
  ext41_ok hG,
  ⟨sg42, Try.f48, an42, 3000, rfl, Try.func48, rd42⟩,
  ext43_ok hG,
  ext44_ok hG,
  ⟨sg45, Try.f51, an45, 3000, rfl, Try.func51, rd45⟩,
  ⟨sg46, Try.f52, an46, 3000, rfl, Try.func52, rd46⟩,
  ⟨sg47, Try.f53, an47, 3000, rfl, Try.func53, rd47⟩,
  ⟨sg48, Try.f57, an48, 3000, rfl, Try.func57, rd48⟩,
  ⟨sg49, Try.f58, an49, 3000, rfl, Try.func58, rd49⟩,
  ⟨sg50, Try.f59, an50, 3000, rfl, Try.func59, rd50⟩,
  ⟨sg51, Try.f60, an51, 3000, rfl, Try.func60, rd51⟩,
  ⟨sg52, Try.f61, an52, 3000, rfl, Try.func61, rd52⟩,
  ⟨sg53, Try.f64, an53, 3000, rfl, Try.func64, rd53⟩,
  ⟨sg54, Try.f65, an54, 3000, rfl, Try.func65, rd54⟩,
  ⟨sg55, Try.f66, an55, 3000, rfl, Try.func66, rd55⟩,
  ⟨sg56, Try.f68, an56, 3000, rfl, Try.func68, rd56⟩,
  ⟨sg57, Try.f67, an57, 3000, rfl, Try.func67, rd57⟩,
  ⟨sg58, Try.f69, an58, 3000, rfl, Try.func69, rd58⟩,
  ⟨sg59, Try.f70, an59, 3000, rfl, Try.func70, rd59⟩,
  ⟨sg60, Try.f62, an60, 3000, rfl, Try.func62, rd60⟩,
  ⟨sg61, Try.f71, an61, 3000, rfl, Try.func71, rd61⟩,
  ⟨sg62, Try.f72, an62, 3000, rfl, Try.func72, rd62⟩,
  ext63_ok hG,
  ext64_ok hG,
  ⟨sg65, Try.f76, an65, 3000, rfl, Try.func76, rd65⟩,
  ⟨sg66, Try.f77, an66, 3000, rfl, Try.func77, rd66⟩,
  ⟨sg67, Try.f78, an67, 3000, rfl, Try.func78, rd67⟩,
  ⟨sg68, Try.f79, an68, 3000, rfl, Try.func79, rd68⟩,
  ⟨sg69, Try.f80, an69, 3000, rfl, Try.func80, rd69⟩,
  ⟨sg70, Try.f81, an70, 3000, rfl, Try.func81, rd70⟩,
  ⟨sg71, Try.f82, an71, 3000, rfl, Try.func82, rd71⟩,
  ⟨sg72, Try.f83, an72, 3000, rfl, Try.func83, rd72⟩,
  ⟨sg73, Try.f84, an73, 3000, rfl, Try.func84, rd73⟩,
  ⟨sg74, Try.f85, an74, 3000, rfl, Try.func85, rd74⟩,
  ⟨sg75, Try.f86, an75, 3000, rfl, Try.func86, rd75⟩,
  ⟨sg76, Try.f87, an76, 3000, rfl, Try.func87, rd76⟩,
  ⟨sg77, Try.f91, an77, 3000, rfl, Try.func91, rd77⟩,
  ⟨sg78, Try.f92, an78, 3000, rfl, Try.func92, rd78⟩,
  ⟨sg79, Try.f93, an79, 3000, rfl, Try.func93, rd79⟩,
  ext80_ok hG,
  ⟨sg81, Try.f95, an81, 3000, rfl, Try.func95, rd81⟩,
  ⟨sg82, Try.f96, an82, 3000, rfl, Try.func96, rd82⟩,
  ⟨sg83, Try.f97, an83, 3000, rfl, Try.func97, rd83⟩,
  ⟨sg84, Try.f98, an84, 3000, rfl, Try.func98, rd84⟩,
  ⟨sg85, Try.f99, an85, 3000, rfl, Try.func99, rd85⟩,
  ⟨sg86, Try.f100, an86, 3000, rfl, Try.func100, rd86⟩,
  ⟨sg87, Try.f111, an87, 3000, rfl, Try.func111, rd87⟩,
  ⟨sg88, Try.f112, an88, 3000, rfl, Try.func112, rd88⟩,
  ⟨sg89, Try.f113, an89, 3000, rfl, Try.func113, rd89⟩,
  ⟨sg90, Try.f113, an90, 3000, rfl, Try.func113, rd90⟩,
  ⟨sg91, Try.f119, an91, 3000, rfl, Try.func119, rd91⟩,
  ⟨sg92, Try.f120, an92, 3000, rfl, Try.func120, rd92⟩,
  ⟨sg93, Try.f121, an93, 3000, rfl, Try.func121, rd93⟩,
  ⟨sg94, Try.f114, an94, 3000, rfl, Try.func114, rd94⟩,
  ⟨sg95, Try.f115, an95, 3000, rfl, Try.func115, rd95⟩, trivial⟩
def tb : Nat → TE := tbOf tbl
theorem tb_ok (hG : GHyp G) : TabOK Try.prog G T SG sigs tb := tabOK_of (tbl_ok hG)
theorem gok : GOK G SG := ⟨(fun g cs h => by cases h), (fun g cs h => by cases h)⟩
end Go.Proofs.Ytjedjjooidohhaa

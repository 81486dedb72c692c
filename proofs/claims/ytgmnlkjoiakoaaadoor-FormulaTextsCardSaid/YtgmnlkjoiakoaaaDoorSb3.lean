/- Plain programs of the functions of the program and lemmas about what they compute. -/
import Derived.Test.YtgmnlkjoiakoaaaDoorSb1
import Derived.Test.YtgmnlkjoiakoaaaDoorSb2
import Derived.Test.YtgmnlkjoiakoaaaDoorAtE
set_option linter.unusedSimpArgs false
set_option linter.unusedVariables false
set_option linter.unusedSectionVars false
namespace Go.Proofs.YtgmnlkjoiakoaaaDoor
open Go Am
set_option maxRecDepth 100000
variable {G : Glob}
abbrev ext12 : PF := fmtE
theorem ext12_ok (hG : GHyp G) : TEok Tryd.prog G T SG sigs 12 (.ext ext12) := ⟨fun _ _ _ _ h => fmtE_wf h, fun sg h => by cases h; exact fmtE_sig hG⟩
abbrev ext29 : PF := atomsE
theorem ext29_ok (_ : GHyp G) : TEok Tryd.prog G T SG sigs 29 (.ext ext29) := ⟨fun _ _ _ _ h => atomsE_wf h, fun sg h => by cases h; exact atomsE_sig⟩
def tbl : List TE := [.ir ir0, .ext noneE, .ir ir2, .ir ir3, .ir ir4, .ir ir5, .ir ir6, .ir ir7, .ir ir8, .ir ir9, .ir ir10, .ir ir11, .ext ext12, .ir ir13, .ir ir14, .ir ir15, .ir ir16, .ir ir17, .ir ir18, .ir ir19, .ir ir20, .ir ir21, .ir ir22, .ir ir23, .ir ir24, .ir ir25, .ir ir26, .ir ir27, .ir ir28, .ext ext29, .ir ir30, .ir ir31, .ir ir32, .ir ir33, .ir ir34, .ir ir35, .ir ir36, .ir ir37, .ir ir38, .ir ir39, .ir ir40, .ir ir41, .ir ir42, .ir ir43, .ir ir44, .ir ir45, .ir ir46, .ir ir47, .ir ir48, .ir ir49, .ir ir50, .ir ir51, .ir ir52, .ir ir53, .ir ir54, .ir ir55, .ir ir56, .ir ir57, .ir ir58, .ir ir59, .ir ir60, .ir ir61, .ir ir62, .ir ir63, .ir ir64, .ir ir65, .ir ir66, .ir ir67, .ir ir68, .ir ir69, .ir ir70, .ir ir71, .ir ir72, .ir ir73, .ir ir74, .ir ir75, .ir ir76, .ir ir77, .ir ir78, .ir ir79, .ir ir80]
theorem tbl_ok (hG : GHyp G) : TLok Tryd.prog G T SG sigs 0 tbl := ⟨⟨sg0, Tryd.f3, an0, 3000, rfl, Tryd.func3, rd0⟩,
  TEok.none 1,
  ⟨sg2, Tryd.f5, an2, 3000, rfl, Tryd.func5, rd2⟩,
  ⟨sg3, Tryd.f6, an3, 3000, rfl, Tryd.func6, rd3⟩,
  ⟨sg4, Tryd.f7, an4, 3000, rfl, Tryd.func7, rd4⟩,
  ⟨sg5, Tryd.f8, an5, 3000, rfl, Tryd.func8, rd5⟩,
  ⟨sg6, Tryd.f9, an6, 3000, rfl, Tryd.func9, rd6⟩,
  ⟨sg7, Tryd.f10, an7, 3000, rfl, Tryd.func10, rd7⟩,
  ⟨sg8, Tryd.f11, an8, 3000, rfl, Tryd.func11, rd8⟩,
  ⟨sg9, Tryd.f12, an9, 3000, rfl, Tryd.func12, rd9⟩,
  ⟨sg10, Tryd.f13, an10, 3000, rfl, Tryd.func13, rd10⟩,
  ⟨sg11, Tryd.f14, an11, 3000, rfl, Tryd.func14, rd11⟩,
  ext12_ok hG,
  ⟨sg13, Tryd.f16, an13, 3000, rfl, Tryd.func16, rd13⟩,
  ⟨sg14, Tryd.f17, an14, 3000, rfl, Tryd.func17, rd14⟩,
  ⟨sg15, Tryd.f18, an15, 3000, rfl, Tryd.func18, rd15⟩,
  ⟨sg16, Tryd.f19, an16, 3000, rfl, Tryd.func19, rd16⟩,
  ⟨sg17, Tryd.f20, an17, 3000, rfl, Tryd.func20, rd17⟩,
  ⟨sg18, Tryd.f21, an18, 3000, rfl, Tryd.func21, rd18⟩,
  ⟨sg19, Tryd.f22, an19, 3000, rfl, Tryd.func22, rd19⟩,
  ⟨sg20, Tryd.f23, an20, 3000, rfl, Tryd.func23, rd20⟩,
  ⟨sg21, Tryd.f27, an21, 3000, rfl, Tryd.func27, rd21⟩,
  ⟨sg22, Tryd.f29, an22, 3000, rfl, Tryd.func29, rd22⟩,
  ⟨sg23, Tryd.f24, an23, 3000, rfl, Tryd.func24, rd23⟩,
  ⟨sg24, Tryd.f30, an24, 3000, rfl, Tryd.func30, rd24⟩,
  ⟨sg25, Tryd.f31, an25, 3000, rfl, Tryd.func31, rd25⟩,
  ⟨sg26, Tryd.f32, an26, 3000, rfl, Tryd.func32, rd26⟩,
  ⟨sg27, Tryd.f25, an27, 3000, rfl, Tryd.func25, rd27⟩,
  ⟨sg28, Tryd.f33, an28, 3000, rfl, Tryd.func33, rd28⟩,
  ext29_ok hG,
  ⟨sg30, Tryd.f35, an30, 3000, rfl, Tryd.func35, rd30⟩,
  ⟨sg31, Tryd.f36, an31, 3000, rfl, Tryd.func36, rd31⟩,
  ⟨sg32, Tryd.f37, an32, 3000, rfl, Tryd.func37, rd32⟩,
  ⟨sg33, Tryd.f38, an33, 3000, rfl, Tryd.func38, rd33⟩,
  ⟨sg34, Tryd.f39, an34, 3000, rfl, Tryd.func39, rd34⟩,
  ⟨sg35, Tryd.f40, an35, 3000, rfl, Tryd.func40, rd35⟩,
  ⟨sg36, Tryd.f41, an36, 3000, rfl, Tryd.func41, rd36⟩,
  ⟨sg37, Tryd.f26, an37, 3000, rfl, Tryd.func26, rd37⟩,
  ⟨sg38, Tryd.f45, an38, 3000, rfl, Tryd.func45, rd38⟩,
  ⟨sg39, Tryd.f46, an39, 3000, rfl, Tryd.func46, rd39⟩,
  ⟨sg40, Tryd.f46, an40, 3000, rfl, Tryd.func46, rd40⟩,
  ⟨sg41, Tryd.f49, an41, 3000, rfl, Tryd.func49, rd41⟩,
  ⟨sg42, Tryd.f50, an42, 3000, rfl, Tryd.func50, rd42⟩,
  ⟨sg43, Tryd.f52, an43, 3000, rfl, Tryd.func52, rd43⟩,
  ⟨sg44, Tryd.f53, an44, 3000, rfl, Tryd.func53, rd44⟩,
  ⟨sg45, Tryd.f54, an45, 3000, rfl, Tryd.func54, rd45⟩,
  ⟨sg46, Tryd.f58, an46, 3000, rfl, Tryd.func58, rd46⟩,
  ⟨sg47, Tryd.f51, an47, 3000, rfl, Tryd.func51, rd47⟩,
  ⟨sg48, Tryd.f60, an48, 3000, rfl, Tryd.func60, rd48⟩,
  ⟨sg49, Tryd.f66, an49, 3000, rfl, Tryd.func66, rd49⟩,
  ⟨sg50, Tryd.f67, an50, 3000, rfl, Tryd.func67, rd50⟩,
  ⟨sg51, Tryd.f68, an51, 3000, rfl, Tryd.func68, rd51⟩,
  ⟨sg52, Tryd.f69, an52, 3000, rfl, Tryd.func69, rd52⟩,
  ⟨sg53, Tryd.f74, an53, 3000, rfl, Tryd.func74, rd53⟩,
  ⟨sg54, Tryd.f75, an54, 3000, rfl, Tryd.func75, rd54⟩,
  ⟨sg55, Tryd.f47, an55, 3000, rfl, Tryd.func47, rd55⟩,
  ⟨sg56, Tryd.f48, an56, 3000, rfl, Tryd.func48, rd56⟩,
  ⟨sg57, Tryd.f77, an57, 3000, rfl, Tryd.func77, rd57⟩,
  ⟨sg58, Tryd.f78, an58, 3000, rfl, Tryd.func78, rd58⟩,
  ⟨sg59, Tryd.f79, an59, 3000, rfl, Tryd.func79, rd59⟩,
  ⟨sg60, Tryd.f84, an60, 3000, rfl, Tryd.func84, rd60⟩,
  ⟨sg61, Tryd.f83, an61, 3000, rfl, Tryd.func83, rd61⟩,
  ⟨sg62, Tryd.f85, an62, 3000, rfl, Tryd.func85, rd62⟩,
  ⟨sg63, Tryd.f85, an63, 3000, rfl, Tryd.func85, rd63⟩,
  ⟨sg64, Tryd.f61, an64, 3000, rfl, Tryd.func61, rd64⟩,
  ⟨sg65, Tryd.f89, an65, 3000, rfl, Tryd.func89, rd65⟩,
  ⟨sg66, Tryd.f91, an66, 3000, rfl, Tryd.func91, rd66⟩,
  ⟨sg67, Tryd.f76, an67, 3000, rfl, Tryd.func76, rd67⟩,
  ⟨sg68, Tryd.f92, an68, 3000, rfl, Tryd.func92, rd68⟩,
  ⟨sg69, Tryd.f93, an69, 3000, rfl, Tryd.func93, rd69⟩,
  ⟨sg70, Tryd.f95, an70, 3000, rfl, Tryd.func95, rd70⟩,
  ⟨sg71, Tryd.f96, an71, 3000, rfl, Tryd.func96, rd71⟩,
  ⟨sg72, Tryd.f96, an72, 3000, rfl, Tryd.func96, rd72⟩,
  ⟨sg73, Tryd.f62, an73, 3000, rfl, Tryd.func62, rd73⟩,
  ⟨sg74, Tryd.f60, an74, 3000, rfl, Tryd.func60, rd74⟩,
  ⟨sg75, Tryd.f109, an75, 3000, rfl, Tryd.func109, rd75⟩,
  ⟨sg76, Tryd.f86, an76, 3000, rfl, Tryd.func86, rd76⟩,
  ⟨sg77, Tryd.f59, an77, 3000, rfl, Tryd.func59, rd77⟩,
  ⟨sg78, Tryd.f110, an78, 3000, rfl, Tryd.func110, rd78⟩,
  ⟨sg79, Tryd.f109, an79, 3000, rfl, Tryd.func109, rd79⟩,
  ⟨sg80, Tryd.f118, an80, 3000, rfl, Tryd.func118, rd80⟩, trivial⟩
def tb : Nat → TE := tbOf tbl
theorem tb_ok (hG : GHyp G) : TabOK Tryd.prog G T SG sigs tb := tabOK_of (tbl_ok hG)
theorem gok : GOK G SG := ⟨(fun g cs h => by cases h), (fun g cs h => by cases h)⟩
end Go.Proofs.YtgmnlkjoiakoaaaDoor

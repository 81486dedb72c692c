/- The plain programs that the reader finds for the functions of the program, checked by the kernel. -/
import Derived.Test.YtgmnlkjoiakoaaaDoorSb1
import Derived.Test.YtgmnlkjoiakoaaaDoorSb2
set_option linter.unusedSimpArgs false
set_option linter.unusedVariables false
set_option linter.unusedSectionVars false
namespace Go.Proofs.YtgmnlkjoiakoaaaDoor
open Go Am
set_option maxRecDepth 100000
variable {G : Glob}
theorem ext9_ok (hG : GHyp G) : TEok Tryd.prog G T SG sigs 9 (.ext ext9) := ⟨fun _ _ _ _ h => ext9_wf h, fun sg h => by cases h; exact ext9_sig hG⟩
def tbl : List TE := [.ir ir0, .ext noneE, .ir ir2, .ir ir3, .ir ir4, .ir ir5, .ir ir6, .ir ir7, .ir ir8, .ext ext9, .ir ir10, .ir ir11, .ir ir12, .ir ir13, .ir ir14, .ir ir15, .ir ir16, .ir ir17, .ir ir18, .ir ir19, .ir ir20, .ir ir21, .ext noneE, .ir ir23, .ir ir24, .ir ir25, .ir ir26, .ir ir27, .ir ir28, .ir ir29, .ir ir30, .ir ir31, .ir ir32, .ir ir33, .ir ir34, .ir ir35, .ir ir36, .ir ir37, .ir ir38, .ir ir39, .ir ir40, .ir ir41, .ir ir42, .ir ir43, .ir ir44, .ir ir45, .ir ir46, .ir ir47, .ir ir48, .ir ir49, .ir ir50, .ir ir51, .ir ir52, .ir ir53, .ir ir54, .ir ir55, .ir ir56, .ir ir57, .ir ir58, .ir ir59, .ir ir60, .ir ir61]
theorem tbl_ok (hG : GHyp G) : TLok Tryd.prog G T SG sigs 0 tbl := ⟨⟨sg0, Tryd.f3, an0, 3000, rfl, Tryd.func3, rd0⟩,
  TEok.none 1,
  ⟨sg2, Tryd.f5, an2, 3000, rfl, Tryd.func5, rd2⟩,
  ⟨sg3, Tryd.f6, an3, 3000, rfl, Tryd.func6, rd3⟩,
  ⟨sg4, Tryd.f7, an4, 3000, rfl, Tryd.func7, rd4⟩,
  ⟨sg5, Tryd.f11, an5, 3000, rfl, Tryd.func11, rd5⟩,
  ⟨sg6, Tryd.f12, an6, 3000, rfl, Tryd.func12, rd6⟩,
  ⟨sg7, Tryd.f13, an7, 3000, rfl, Tryd.func13, rd7⟩,
  ⟨sg8, Tryd.f14, an8, 3000, rfl, Tryd.func14, rd8⟩,
  ext9_ok hG,
  ⟨sg10, Tryd.f16, an10, 3000, rfl, Tryd.func16, rd10⟩,
  ⟨sg11, Tryd.f17, an11, 3000, rfl, Tryd.func17, rd11⟩,
  ⟨sg12, Tryd.f18, an12, 3000, rfl, Tryd.func18, rd12⟩,
  ⟨sg13, Tryd.f19, an13, 3000, rfl, Tryd.func19, rd13⟩,
  ⟨sg14, Tryd.f20, an14, 3000, rfl, Tryd.func20, rd14⟩,
  ⟨sg15, Tryd.f21, an15, 3000, rfl, Tryd.func21, rd15⟩,
  ⟨sg16, Tryd.f22, an16, 3000, rfl, Tryd.func22, rd16⟩,
  ⟨sg17, Tryd.f23, an17, 3000, rfl, Tryd.func23, rd17⟩,
  ⟨sg18, Tryd.f27, an18, 3000, rfl, Tryd.func27, rd18⟩,
  ⟨sg19, Tryd.f29, an19, 3000, rfl, Tryd.func29, rd19⟩,
  ⟨sg20, Tryd.f24, an20, 3000, rfl, Tryd.func24, rd20⟩,
  ⟨sg21, Tryd.f30, an21, 3000, rfl, Tryd.func30, rd21⟩,
  TEok.none 22,
  ⟨sg23, Tryd.f32, an23, 3000, rfl, Tryd.func32, rd23⟩,
  ⟨sg24, Tryd.f35, an24, 3000, rfl, Tryd.func35, rd24⟩,
  ⟨sg25, Tryd.f40, an25, 3000, rfl, Tryd.func40, rd25⟩,
  ⟨sg26, Tryd.f41, an26, 3000, rfl, Tryd.func41, rd26⟩,
  ⟨sg27, Tryd.f25, an27, 3000, rfl, Tryd.func25, rd27⟩,
  ⟨sg28, Tryd.f26, an28, 3000, rfl, Tryd.func26, rd28⟩,
  ⟨sg29, Tryd.f45, an29, 3000, rfl, Tryd.func45, rd29⟩,
  ⟨sg30, Tryd.f46, an30, 3000, rfl, Tryd.func46, rd30⟩,
  ⟨sg31, Tryd.f46, an31, 3000, rfl, Tryd.func46, rd31⟩,
  ⟨sg32, Tryd.f49, an32, 3000, rfl, Tryd.func49, rd32⟩,
  ⟨sg33, Tryd.f50, an33, 3000, rfl, Tryd.func50, rd33⟩,
  ⟨sg34, Tryd.f52, an34, 3000, rfl, Tryd.func52, rd34⟩,
  ⟨sg35, Tryd.f53, an35, 3000, rfl, Tryd.func53, rd35⟩,
  ⟨sg36, Tryd.f54, an36, 3000, rfl, Tryd.func54, rd36⟩,
  ⟨sg37, Tryd.f58, an37, 3000, rfl, Tryd.func58, rd37⟩,
  ⟨sg38, Tryd.f51, an38, 3000, rfl, Tryd.func51, rd38⟩,
  ⟨sg39, Tryd.f74, an39, 3000, rfl, Tryd.func74, rd39⟩,
  ⟨sg40, Tryd.f75, an40, 3000, rfl, Tryd.func75, rd40⟩,
  ⟨sg41, Tryd.f47, an41, 3000, rfl, Tryd.func47, rd41⟩,
  ⟨sg42, Tryd.f48, an42, 3000, rfl, Tryd.func48, rd42⟩,
  ⟨sg43, Tryd.f77, an43, 3000, rfl, Tryd.func77, rd43⟩,
  ⟨sg44, Tryd.f78, an44, 3000, rfl, Tryd.func78, rd44⟩,
  ⟨sg45, Tryd.f79, an45, 3000, rfl, Tryd.func79, rd45⟩,
  ⟨sg46, Tryd.f84, an46, 3000, rfl, Tryd.func84, rd46⟩,
  ⟨sg47, Tryd.f83, an47, 3000, rfl, Tryd.func83, rd47⟩,
  ⟨sg48, Tryd.f85, an48, 3000, rfl, Tryd.func85, rd48⟩,
  ⟨sg49, Tryd.f85, an49, 3000, rfl, Tryd.func85, rd49⟩,
  ⟨sg50, Tryd.f91, an50, 3000, rfl, Tryd.func91, rd50⟩,
  ⟨sg51, Tryd.f76, an51, 3000, rfl, Tryd.func76, rd51⟩,
  ⟨sg52, Tryd.f92, an52, 3000, rfl, Tryd.func92, rd52⟩,
  ⟨sg53, Tryd.f93, an53, 3000, rfl, Tryd.func93, rd53⟩,
  ⟨sg54, Tryd.f95, an54, 3000, rfl, Tryd.func95, rd54⟩,
  ⟨sg55, Tryd.f96, an55, 3000, rfl, Tryd.func96, rd55⟩,
  ⟨sg56, Tryd.f96, an56, 3000, rfl, Tryd.func96, rd56⟩,
  ⟨sg57, Tryd.f109, an57, 3000, rfl, Tryd.func109, rd57⟩,
  ⟨sg58, Tryd.f86, an58, 3000, rfl, Tryd.func86, rd58⟩,
  ⟨sg59, Tryd.f110, an59, 3000, rfl, Tryd.func110, rd59⟩,
  ⟨sg60, Tryd.f109, an60, 3000, rfl, Tryd.func109, rd60⟩,
  ⟨sg61, Tryd.f118, an61, 3000, rfl, Tryd.func118, rd61⟩, trivial⟩
def tb : Nat → TE := tbOf tbl
theorem tb_ok (hG : GHyp G) : TabOK Tryd.prog G T SG sigs tb := tabOK_of (tbl_ok hG)
theorem gok : GOK G SG := ⟨(fun g cs h => by cases h), (fun g cs h => by cases h)⟩
end Go.Proofs.YtgmnlkjoiakoaaaDoor

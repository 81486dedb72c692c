/- Plain programs of the functions of the program and lemmas about what they compute. -/
import Derived.Test.YtjedjjooidohhaaGreatSb1
import Derived.Test.YtjedjjooidohhaaGreatAtE
import Derived.Test.YtjedjjooidohhaaGreatSqE
set_option linter.unusedSimpArgs false
set_option linter.unusedVariables false
set_option linter.unusedSectionVars false
namespace Go.Proofs.YtjedjjooidohhaaGreat
open Go Am
set_option maxRecDepth 100000
variable {G : Glob}
def GHyp (G : Glob) : Prop := G = fun _ => none
abbrev ext45 : PF := valuesE
theorem ext45_ok (hG : GHyp G) : TEok Tryz.prog G T SG sigs 45 (.ext ext45) := ⟨fun _ _ _ _ h => valuesE_wf h, fun sg h => by cases h; exact valuesE_sig⟩
abbrev ext47 : PF := compactE
theorem ext47_ok (hG : GHyp G) : TEok Tryz.prog G T SG sigs 47 (.ext ext47) := ⟨fun _ _ _ _ h => compactE_wf h, fun sg h => by cases h; exact compactE_sig⟩
abbrev ext48 : PF := cloneE
theorem ext48_ok (hG : GHyp G) : TEok Tryz.prog G T SG sigs 48 (.ext ext48) := ⟨fun _ _ _ _ h => cloneE_wf h, fun sg h => by cases h; exact cloneE_sig⟩
abbrev ext51 : PF := atomsE
theorem ext51_ok (hG : GHyp G) : TEok Tryz.prog G T SG sigs 51 (.ext ext51) := ⟨fun _ _ _ _ h => atomsE_wf h, fun sg h => by cases h; exact atomsE_sig⟩
abbrev ext64 : PF := collectE
theorem ext64_ok (hG : GHyp G) : TEok Tryz.prog G T SG sigs 64 (.ext ext64) := ⟨fun _ _ _ _ h => collectE_wf h, fun sg h => by cases h; exact collectE_sig⟩
abbrev ext65 : PF := sortE
theorem ext65_ok (hG : GHyp G) : TEok Tryz.prog G T SG sigs 65 (.ext ext65) := ⟨fun _ _ _ _ h => sortE_wf h, fun sg h => by cases h; exact sortE_sig⟩
def tbl : List TE := [.ir ir0, .ir ir1, .ir ir2, .ir ir3, .ir ir4, .ir ir5, .ir ir6, .ir ir7, .ir ir8, .ir ir9, .ir ir10, .ir ir11, .ir ir12, .ir ir13, .ir ir14, .ir ir15, .ir ir16, .ir ir17, .ir ir18, .ir ir19, .ir ir20, .ir ir21, .ir ir22, .ir ir23, .ir ir24, .ir ir25, .ir ir26, .ir ir27, .ir ir28, .ir ir29, .ir ir30, .ir ir31, .ir ir32, .ir ir33, .ir ir34, .ir ir35, .ir ir36, .ir ir37, .ir ir38, .ir ir39, .ir ir40, .ir ir41, .ir ir42, .ir ir43, .ir ir44, .ext ext45, .ir ir46, .ext ext47, .ext ext48, .ir ir49, .ir ir50, .ext ext51, .ir ir52, .ir ir53, .ir ir54, .ir ir55, .ir ir56, .ir ir57, .ir ir58, .ir ir59, .ir ir60, .ir ir61, .ir ir62, .ir ir63, .ext ext64, .ext ext65, .ir ir66, .ir ir67, .ir ir68, .ir ir69, .ir ir70, .ir ir71, .ir ir72, .ir ir73, .ir ir74, .ir ir75, .ir ir76, .ir ir77, .ir ir78, .ir ir79, .ir ir80, .ir ir81, .ir ir82, .ir ir83, .ir ir84]
theorem tbl_ok (hG : GHyp G) : TLok Tryz.prog G T SG sigs 0 tbl := ⟨⟨sg0, Tryz.f3, an0, 3000, rfl, Tryz.func3, rd0⟩,
  ⟨sg1, Tryz.f5, an1, 3000, rfl, Tryz.func5, rd1⟩,
  ⟨sg2, Tryz.f6, an2, 3000, rfl, Tryz.func6, rd2⟩,
  ⟨sg3, Tryz.f7, an3, 3000, rfl, Tryz.func7, rd3⟩,
  ⟨sg4, Tryz.f8, an4, 3000, rfl, Tryz.func8, rd4⟩,
  ⟨sg5, Tryz.f10, an5, 3000, rfl, Tryz.func10, rd5⟩,
  ⟨sg6, Tryz.f9, an6, 3000, rfl, Tryz.func9, rd6⟩,
  ⟨sg7, Tryz.f11, an7, 3000, rfl, Tryz.func11, rd7⟩,
  ⟨sg8, Tryz.f12, an8, 3000, rfl, Tryz.func12, rd8⟩,
  ⟨sg9, Tryz.f13, an9, 3000, rfl, Tryz.func13, rd9⟩,
  ⟨sg10, Tryz.f14, an10, 3000, rfl, Tryz.func14, rd10⟩,
  ⟨sg11, Tryz.f15, an11, 3000, rfl, Tryz.func15, rd11⟩,
  ⟨sg12, Tryz.f16, an12, 3000, rfl, Tryz.func16, rd12⟩,
  ⟨sg13, Tryz.f17, an13, 3000, rfl, Tryz.func17, rd13⟩,
  ⟨sg14, Tryz.f18, an14, 3000, rfl, Tryz.func18, rd14⟩,
  ⟨sg15, Tryz.f19, an15, 3000, rfl, Tryz.func19, rd15⟩,
  ⟨sg16, Tryz.f21, an16, 3000, rfl, Tryz.func21, rd16⟩,
  ⟨sg17, Tryz.f22, an17, 3000, rfl, Tryz.func22, rd17⟩,
  ⟨sg18, Tryz.f20, an18, 3000, rfl, Tryz.func20, rd18⟩,
  ⟨sg19, Tryz.f23, an19, 3000, rfl, Tryz.func23, rd19⟩,
  ⟨sg20, Tryz.f24, an20, 3000, rfl, Tryz.func24, rd20⟩,
  ⟨sg21, Tryz.f25, an21, 3000, rfl, Tryz.func25, rd21⟩,
  ⟨sg22, Tryz.f26, an22, 3000, rfl, Tryz.func26, rd22⟩,
  ⟨sg23, Tryz.f40, an23, 3000, rfl, Tryz.func40, rd23⟩,
  ⟨sg24, Tryz.f41, an24, 3000, rfl, Tryz.func41, rd24⟩,
  ⟨sg25, Tryz.f42, an25, 3000, rfl, Tryz.func42, rd25⟩,
  ⟨sg26, Tryz.f44, an26, 3000, rfl, Tryz.func44, rd26⟩,
  ⟨sg27, Tryz.f43, an27, 3000, rfl, Tryz.func43, rd27⟩,
  ⟨sg28, Tryz.f45, an28, 3000, rfl, Tryz.func45, rd28⟩,
  ⟨sg29, Tryz.f46, an29, 3000, rfl, Tryz.func46, rd29⟩,
  ⟨sg30, Tryz.f48, an30, 3000, rfl, Tryz.func48, rd30⟩,
  ⟨sg31, Tryz.f47, an31, 3000, rfl, Tryz.func47, rd31⟩,
  ⟨sg32, Tryz.f49, an32, 3000, rfl, Tryz.func49, rd32⟩,
  ⟨sg33, Tryz.f50, an33, 3000, rfl, Tryz.func50, rd33⟩,
  ⟨sg34, Tryz.f51, an34, 3000, rfl, Tryz.func51, rd34⟩,
  ⟨sg35, Tryz.f52, an35, 3000, rfl, Tryz.func52, rd35⟩,
  ⟨sg36, Tryz.f53, an36, 3000, rfl, Tryz.func53, rd36⟩,
  ⟨sg37, Tryz.f54, an37, 3000, rfl, Tryz.func54, rd37⟩,
  ⟨sg38, Tryz.f55, an38, 3000, rfl, Tryz.func55, rd38⟩,
  ⟨sg39, Tryz.f56, an39, 3000, rfl, Tryz.func56, rd39⟩,
  ⟨sg40, Tryz.f57, an40, 3000, rfl, Tryz.func57, rd40⟩,
  ⟨sg41, Tryz.f58, an41, 3000, rfl, Tryz.func58, rd41⟩,
  ⟨sg42, Tryz.f59, an42, 3000, rfl, Tryz.func59, rd42⟩,
  ⟨sg43, Tryz.f60, an43, 3000, rfl, Tryz.func60, rd43⟩,
  ⟨sg44, Tryz.f61, an44, 3000, rfl, Tryz.func61, rd44⟩,
  ext45_ok hG,
  ⟨sg46, Tryz.f67, an46, 3000, rfl, Tryz.func67, rd46⟩,
  ext47_ok hG,
  ext48_ok hG,
  ⟨sg49, Tryz.f70, an49, 3000, rfl, Tryz.func70, rd49⟩,
  ⟨sg50, Tryz.f71, an50, 3000, rfl, Tryz.func71, rd50⟩,
  ext51_ok hG,
  ⟨sg52, Tryz.f73, an52, 3000, rfl, Tryz.func73, rd52⟩,
  ⟨sg53, Tryz.f74, an53, 3000, rfl, Tryz.func74, rd53⟩,
  ⟨sg54, Tryz.f75, an54, 3000, rfl, Tryz.func75, rd54⟩,
  ⟨sg55, Tryz.f76, an55, 3000, rfl, Tryz.func76, rd55⟩,
  ⟨sg56, Tryz.f77, an56, 3000, rfl, Tryz.func77, rd56⟩,
  ⟨sg57, Tryz.f78, an57, 3000, rfl, Tryz.func78, rd57⟩,
  ⟨sg58, Tryz.f79, an58, 3000, rfl, Tryz.func79, rd58⟩,
  ⟨sg59, Tryz.f81, an59, 3000, rfl, Tryz.func81, rd59⟩,
  ⟨sg60, Tryz.f80, an60, 3000, rfl, Tryz.func80, rd60⟩,
  ⟨sg61, Tryz.f82, an61, 3000, rfl, Tryz.func82, rd61⟩,
  ⟨sg62, Tryz.f83, an62, 3000, rfl, Tryz.func83, rd62⟩,
  ⟨sg63, Tryz.f84, an63, 3000, rfl, Tryz.func84, rd63⟩,
  ext64_ok hG,
  ext65_ok hG,
  ⟨sg66, Tryz.f90, an66, 3000, rfl, Tryz.func90, rd66⟩,
  ⟨sg67, Tryz.f91, an67, 3000, rfl, Tryz.func91, rd67⟩,
  ⟨sg68, Tryz.f92, an68, 3000, rfl, Tryz.func92, rd68⟩,
  ⟨sg69, Tryz.f93, an69, 3000, rfl, Tryz.func93, rd69⟩,
  ⟨sg70, Tryz.f94, an70, 3000, rfl, Tryz.func94, rd70⟩,
  ⟨sg71, Tryz.f94, an71, 3000, rfl, Tryz.func94, rd71⟩,
  ⟨sg72, Tryz.f100, an72, 3000, rfl, Tryz.func100, rd72⟩,
  ⟨sg73, Tryz.f101, an73, 3000, rfl, Tryz.func101, rd73⟩,
  ⟨sg74, Tryz.f102, an74, 3000, rfl, Tryz.func102, rd74⟩,
  ⟨sg75, Tryz.f103, an75, 3000, rfl, Tryz.func103, rd75⟩,
  ⟨sg76, Tryz.f104, an76, 3000, rfl, Tryz.func104, rd76⟩,
  ⟨sg77, Tryz.f105, an77, 3000, rfl, Tryz.func105, rd77⟩,
  ⟨sg78, Tryz.f106, an78, 3000, rfl, Tryz.func106, rd78⟩,
  ⟨sg79, Tryz.f107, an79, 3000, rfl, Tryz.func107, rd79⟩,
  ⟨sg80, Tryz.f108, an80, 3000, rfl, Tryz.func108, rd80⟩,
  ⟨sg81, Tryz.f117, an81, 3000, rfl, Tryz.func117, rd81⟩,
  ⟨sg82, Tryz.f95, an82, 3000, rfl, Tryz.func95, rd82⟩,
  ⟨sg83, Tryz.f96, an83, 3000, rfl, Tryz.func96, rd83⟩,
  ⟨sg84, Tryz.f120, an84, 3000, rfl, Tryz.func120, rd84⟩, trivial⟩
def tb : Nat → TE := tbOf tbl
theorem tb_ok (hG : GHyp G) : TabOK Tryz.prog G T SG sigs tb := tabOK_of (tbl_ok hG)
theorem gok : GOK G SG := ⟨(fun g cs h => by cases h), (fun g cs h => by cases h)⟩
end Go.Proofs.YtjedjjooidohhaaGreat

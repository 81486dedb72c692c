/- What functions of the program compute: lemmas. -/
import Derived.Test.YtmjnhmeckloanaaGreatSb1
import Derived.Test.YtmjnhmeckloanaaGreatAtE
import Derived.Test.YtmjnhmeckloanaaGreatSqE
set_option linter.unusedSimpArgs false
set_option linter.unusedVariables false
set_option linter.unusedSectionVars false
namespace Go.Proofs.YtmjnhmeckloanaaGreat
open Go Am
set_option maxRecDepth 100000
variable {G : Glob}
def GHyp (G : Glob) : Prop := G = fun _ => none
abbrev ext20 : PF := atomsE
theorem ext20_ok (hG : GHyp G) : TEok Tryz.prog G T SG sigs 20 (.ext ext20) := ⟨fun _ _ _ _ h => atomsE_wf h, fun sg h => by cases h; exact atomsE_sig⟩
abbrev ext66 : PF := valuesE
theorem ext66_ok (hG : GHyp G) : TEok Tryz.prog G T SG sigs 66 (.ext ext66) := ⟨fun _ _ _ _ h => valuesE_wf h, fun sg h => by cases h; exact valuesE_sig⟩
abbrev ext68 : PF := compactE
theorem ext68_ok (hG : GHyp G) : TEok Tryz.prog G T SG sigs 68 (.ext ext68) := ⟨fun _ _ _ _ h => compactE_wf h, fun sg h => by cases h; exact compactE_sig⟩
abbrev ext69 : PF := cloneE
theorem ext69_ok (hG : GHyp G) : TEok Tryz.prog G T SG sigs 69 (.ext ext69) := ⟨fun _ _ _ _ h => cloneE_wf h, fun sg h => by cases h; exact cloneE_sig⟩
abbrev ext77 : PF := collectE
theorem ext77_ok (hG : GHyp G) : TEok Tryz.prog G T SG sigs 77 (.ext ext77) := ⟨fun _ _ _ _ h => collectE_wf h, fun sg h => by cases h; exact collectE_sig⟩
abbrev ext78 : PF := sortE
theorem ext78_ok (hG : GHyp G) : TEok Tryz.prog G T SG sigs 78 (.ext ext78) := ⟨fun _ _ _ _ h => sortE_wf h, fun sg h => by cases h; exact sortE_sig⟩
def tbl : List TE := [.ir ir0, .ir ir1, .ir ir2, .ir ir3, .ir ir4, .ir ir5, .ir ir6, .ir ir7, .ir ir8, .ir ir9, .ir ir10, .ir ir11, .ir ir12, .ir ir13, .ir ir14, .ir ir15, .ir ir16, .ir ir17, .ir ir18, .ir ir19, .ext ext20, .ir ir21, .ir ir22, .ir ir23, .ir ir24, .ir ir25, .ir ir26, .ir ir27, .ir ir28, .ir ir29, .ir ir30, .ir ir31, .ir ir32, .ir ir33, .ir ir34, .ir ir35, .ir ir36, .ir ir37, .ir ir38, .ir ir39, .ir ir40, .ir ir41, .ir ir42, .ir ir43, .ir ir44, .ir ir45, .ir ir46, .ir ir47, .ir ir48, .ir ir49, .ir ir50, .ir ir51, .ir ir52, .ir ir53, .ir ir54, .ir ir55, .ir ir56, .ir ir57, .ir ir58, .ir ir59, .ir ir60, .ir ir61, .ir ir62, .ir ir63, .ir ir64, .ir ir65, .ext ext66, .ir ir67, .ext ext68, .ext ext69, .ir ir70, .ir ir71, .ir ir72, .ir ir73, .ir ir74, .ir ir75, .ir ir76, .ext ext77, .ext ext78, .ir ir79, .ir ir80]
theorem tbl_ok (hG : GHyp G) : TLok Tryz.prog G T SG sigs 0 tbl := ⟨⟨sg0, Tryz.f3, an0, 3000, rfl, Tryz.func3, rd0⟩,
 ⟨sg1, Tryz.f6, an1, 3000, rfl, Tryz.func6, rd1⟩,
 ⟨sg2, Tryz.f7, an2, 3000, rfl, Tryz.func7, rd2⟩,
 ⟨sg3, Tryz.f8, an3, 3000, rfl, Tryz.func8, rd3⟩,
 ⟨sg4, Tryz.f9, an4, 3000, rfl, Tryz.func9, rd4⟩,
 ⟨sg5, Tryz.f10, an5, 3000, rfl, Tryz.func10, rd5⟩,
 ⟨sg6, Tryz.f11, an6, 3000, rfl, Tryz.func11, rd6⟩,
 ⟨sg7, Tryz.f12, an7, 3000, rfl, Tryz.func12, rd7⟩,
 ⟨sg8, Tryz.f13, an8, 3000, rfl, Tryz.func13, rd8⟩,
 ⟨sg9, Tryz.f14, an9, 3000, rfl, Tryz.func14, rd9⟩,
 ⟨sg10, Tryz.f15, an10, 3000, rfl, Tryz.func15, rd10⟩,
 ⟨sg11, Tryz.f16, an11, 3000, rfl, Tryz.func16, rd11⟩,
 ⟨sg12, Tryz.f17, an12, 3000, rfl, Tryz.func17, rd12⟩,
 ⟨sg13, Tryz.f18, an13, 3000, rfl, Tryz.func18, rd13⟩,
 ⟨sg14, Tryz.f19, an14, 3000, rfl, Tryz.func19, rd14⟩,
 ⟨sg15, Tryz.f20, an15, 3000, rfl, Tryz.func20, rd15⟩,
 ⟨sg16, Tryz.f38, an16, 3000, rfl, Tryz.func38, rd16⟩,
 ⟨sg17, Tryz.f39, an17, 3000, rfl, Tryz.func39, rd17⟩,
 ⟨sg18, Tryz.f40, an18, 3000, rfl, Tryz.func40, rd18⟩,
 ⟨sg19, Tryz.f41, an19, 3000, rfl, Tryz.func41, rd19⟩,
 ext20_ok hG,
 ⟨sg21, Tryz.f43, an21, 3000, rfl, Tryz.func43, rd21⟩,
 ⟨sg22, Tryz.f44, an22, 3000, rfl, Tryz.func44, rd22⟩,
 ⟨sg23, Tryz.f45, an23, 3000, rfl, Tryz.func45, rd23⟩,
 ⟨sg24, Tryz.f46, an24, 3000, rfl, Tryz.func46, rd24⟩,
 ⟨sg25, Tryz.f47, an25, 3000, rfl, Tryz.func47, rd25⟩,
 ⟨sg26, Tryz.f48, an26, 3000, rfl, Tryz.func48, rd26⟩,
 ⟨sg27, Tryz.f49, an27, 3000, rfl, Tryz.func49, rd27⟩,
 ⟨sg28, Tryz.f50, an28, 3000, rfl, Tryz.func50, rd28⟩,
 ⟨sg29, Tryz.f51, an29, 3000, rfl, Tryz.func51, rd29⟩,
 ⟨sg30, Tryz.f52, an30, 3000, rfl, Tryz.func52, rd30⟩,
 ⟨sg31, Tryz.f53, an31, 3000, rfl, Tryz.func53, rd31⟩,
 ⟨sg32, Tryz.f54, an32, 3000, rfl, Tryz.func54, rd32⟩,
 ⟨sg33, Tryz.f106, an33, 3000, rfl, Tryz.func106, rd33⟩,
 ⟨sg34, Tryz.f107, an34, 3000, rfl, Tryz.func107, rd34⟩,
 ⟨sg35, Tryz.f108, an35, 3000, rfl, Tryz.func108, rd35⟩,
 ⟨sg36, Tryz.f109, an36, 3000, rfl, Tryz.func109, rd36⟩,
 ⟨sg37, Tryz.f110, an37, 3000, rfl, Tryz.func110, rd37⟩,
 ⟨sg38, Tryz.f111, an38, 3000, rfl, Tryz.func111, rd38⟩,
 ⟨sg39, Tryz.f112, an39, 3000, rfl, Tryz.func112, rd39⟩,
 ⟨sg40, Tryz.f55, an40, 3000, rfl, Tryz.func55, rd40⟩,
 ⟨sg41, Tryz.f56, an41, 3000, rfl, Tryz.func56, rd41⟩,
 ⟨sg42, Tryz.f57, an42, 3000, rfl, Tryz.func57, rd42⟩,
 ⟨sg43, Tryz.f58, an43, 3000, rfl, Tryz.func58, rd43⟩,
 ⟨sg44, Tryz.f59, an44, 3000, rfl, Tryz.func59, rd44⟩,
 ⟨sg45, Tryz.f60, an45, 3000, rfl, Tryz.func60, rd45⟩,
 ⟨sg46, Tryz.f61, an46, 3000, rfl, Tryz.func61, rd46⟩,
 ⟨sg47, Tryz.f34, an47, 3000, rfl, Tryz.func34, rd47⟩,
 ⟨sg48, Tryz.f87, an48, 3000, rfl, Tryz.func87, rd48⟩,
 ⟨sg49, Tryz.f86, an49, 3000, rfl, Tryz.func86, rd49⟩,
 ⟨sg50, Tryz.f80, an50, 3000, rfl, Tryz.func80, rd50⟩,
 ⟨sg51, Tryz.f88, an51, 3000, rfl, Tryz.func88, rd51⟩,
 ⟨sg52, Tryz.f89, an52, 3000, rfl, Tryz.func89, rd52⟩,
 ⟨sg53, Tryz.f90, an53, 3000, rfl, Tryz.func90, rd53⟩,
 ⟨sg54, Tryz.f91, an54, 3000, rfl, Tryz.func91, rd54⟩,
 ⟨sg55, Tryz.f92, an55, 3000, rfl, Tryz.func92, rd55⟩,
 ⟨sg56, Tryz.f92, an56, 3000, rfl, Tryz.func92, rd56⟩,
 ⟨sg57, Tryz.f98, an57, 3000, rfl, Tryz.func98, rd57⟩,
 ⟨sg58, Tryz.f99, an58, 3000, rfl, Tryz.func99, rd58⟩,
 ⟨sg59, Tryz.f100, an59, 3000, rfl, Tryz.func100, rd59⟩,
 ⟨sg60, Tryz.f101, an60, 3000, rfl, Tryz.func101, rd60⟩,
 ⟨sg61, Tryz.f102, an61, 3000, rfl, Tryz.func102, rd61⟩,
 ⟨sg62, Tryz.f103, an62, 3000, rfl, Tryz.func103, rd62⟩,
 ⟨sg63, Tryz.f104, an63, 3000, rfl, Tryz.func104, rd63⟩,
 ⟨sg64, Tryz.f105, an64, 3000, rfl, Tryz.func105, rd64⟩,
 ⟨sg65, Tryz.f113, an65, 3000, rfl, Tryz.func113, rd65⟩,
 ext66_ok hG,
 ⟨sg67, Tryz.f115, an67, 3000, rfl, Tryz.func115, rd67⟩,
 ext68_ok hG,
 ext69_ok hG,
 ⟨sg70, Tryz.f118, an70, 3000, rfl, Tryz.func118, rd70⟩,
 ⟨sg71, Tryz.f127, an71, 3000, rfl, Tryz.func127, rd71⟩,
 ⟨sg72, Tryz.f93, an72, 3000, rfl, Tryz.func93, rd72⟩,
 ⟨sg73, Tryz.f94, an73, 3000, rfl, Tryz.func94, rd73⟩,
 ⟨sg74, Tryz.f133, an74, 3000, rfl, Tryz.func133, rd74⟩,
 ⟨sg75, Tryz.f134, an75, 3000, rfl, Tryz.func134, rd75⟩,
 ⟨sg76, Tryz.f135, an76, 3000, rfl, Tryz.func135, rd76⟩,
 ext77_ok hG,
 ext78_ok hG,
 ⟨sg79, Tryz.f139, an79, 3000, rfl, Tryz.func139, rd79⟩,
 ⟨sg80, Tryz.f140, an80, 3000, rfl, Tryz.func140, rd80⟩, trivial⟩
def tb : Nat → TE := tbOf tbl
theorem tb_ok (hG : GHyp G) : TabOK Tryz.prog G T SG sigs tb := tabOK_of (tbl_ok hG)
theorem gok : GOK G SG := ⟨(fun g cs h => by cases h), (fun g cs h => by cases h)⟩
end Go.Proofs.YtmjnhmeckloanaaGreat

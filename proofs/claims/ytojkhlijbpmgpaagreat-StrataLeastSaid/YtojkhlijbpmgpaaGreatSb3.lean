/- What functions of the program compute: lemmas. -/
import Derived.Test.YtojkhlijbpmgpaaGreatSb1
import Derived.Test.YtojkhlijbpmgpaaGreatAtE
import Derived.Test.YtojkhlijbpmgpaaGreatSqE
import Derived.Test.YtojkhlijbpmgpaaGreatRv
set_option linter.unusedSimpArgs false
set_option linter.unusedVariables false
set_option linter.unusedSectionVars false
namespace Go.Proofs.YtojkhlijbpmgpaaGreat
open Go Am
set_option maxRecDepth 100000
variable {G : Glob}
def GHyp (G : Glob) : Prop := G = fun _ => none
abbrev ext41 : PF := valuesE
theorem ext41_ok (hG : GHyp G) : TEok Tryz.prog G T SG sigs 41 (.ext ext41) := ⟨fun _ _ _ _ h => valuesE_wf h, fun sg h => by cases h; exact valuesE_sig⟩
abbrev ext43 : PF := compactE
theorem ext43_ok (hG : GHyp G) : TEok Tryz.prog G T SG sigs 43 (.ext ext43) := ⟨fun _ _ _ _ h => compactE_wf h, fun sg h => by cases h; exact compactE_sig⟩
abbrev ext44 : PF := cloneE
theorem ext44_ok (hG : GHyp G) : TEok Tryz.prog G T SG sigs 44 (.ext ext44) := ⟨fun _ _ _ _ h => cloneE_wf h, fun sg h => by cases h; exact cloneE_sig⟩
abbrev ext58 : PF := atomsE
theorem ext58_ok (hG : GHyp G) : TEok Tryz.prog G T SG sigs 58 (.ext ext58) := ⟨fun _ _ _ _ h => atomsE_wf h, fun sg h => by cases h; exact atomsE_sig⟩
abbrev ext66 : PF := collectE
theorem ext66_ok (hG : GHyp G) : TEok Tryz.prog G T SG sigs 66 (.ext ext66) := ⟨fun _ _ _ _ h => collectE_wf h, fun sg h => by cases h; exact collectE_sig⟩
abbrev ext67 : PF := sortE
theorem ext67_ok (hG : GHyp G) : TEok Tryz.prog G T SG sigs 67 (.ext ext67) := ⟨fun _ _ _ _ h => sortE_wf h, fun sg h => by cases h; exact sortE_sig⟩
def tbl : List TE := [.ir ir0, .ir ir1, .ir ir2, .ir ir3, .ir ir4, .ir ir5, .ir ir6, .ir ir7, .ir ir8, .ir ir9, .ir ir10, .ir ir11, .ir ir12, .ir ir13, .ir ir14, .ir ir15, .ir ir16, .ir ir17, .ir ir18, .ir ir19, .ir ir20, .ir ir21, .ir ir22, .ir ir23, .ir ir24, .ir ir25, .ir ir26, .ir ir27, .ir ir28, .ir ir29, .ir ir30, .ir ir31, .ir ir32, .ir ir33, .ir ir34, .ir ir35, .ir ir36, .ir ir37, .ir ir38, .ir ir39, .ir ir40, .ext ext41, .ir ir42, .ext ext43, .ext ext44, .ir ir45, .ir ir46, .ir ir47, .ir ir48, .ir ir49, .ir ir50, .ir ir51, .ir ir52, .ir ir53, .ir ir54, .ir ir55, .ir ir56, .ir ir57, .ext ext58, .ir ir59, .ir ir60, .ir ir61, .ir ir62, .ir ir63, .ir ir64, .ir ir65, .ext ext66, .ext ext67, .ir ir68, .ir ir69, .ir ir70, .ir ir71, .ir ir72, .ir ir73, .ir ir74, .ir ir75, .ir ir76, .ir ir77, .ir ir78, .ir ir79, .ir ir80, .ir ir81, .ir ir82]
theorem tbl_ok (hG : GHyp G) : TLok Tryz.prog G T SG sigs 0 tbl := ⟨⟨sg0, Tryz.f9, an0, 3000, rfl, Tryz.func9, rd0, .nil⟩,
 ⟨sg1, Tryz.f15, an1, 3000, rfl, Tryz.func15, rd1, .nil⟩,
 ⟨sg2, Tryz.f16, an2, 3000, rfl, Tryz.func16, rd2, .nil⟩,
 ⟨sg3, Tryz.f45, an3, 3000, rfl, Tryz.func45, rd3, .nil⟩,
 ⟨sg4, Tryz.f47, an4, 3000, rfl, Tryz.func47, rd4, .nil⟩,
 ⟨sg5, Tryz.f46, an5, 3000, rfl, Tryz.func46, rd5, .nil⟩,
 ⟨sg6, Tryz.f17, an6, 3000, rfl, Tryz.func17, rd6, .nil⟩,
 ⟨sg7, Tryz.f48, an7, 3000, rfl, Tryz.func48, rd7, .nil⟩,
 ⟨sg8, Tryz.f29, an8, 3000, rfl, Tryz.func29, rd8, .nil⟩,
 ⟨sg9, Tryz.f44, an9, 3000, rfl, Tryz.func44, rd9, .nil⟩,
 ⟨sg10, Tryz.f42, an10, 3000, rfl, Tryz.func42, rd10, .nil⟩,
 ⟨sg11, Tryz.f67, an11, 3000, rfl, Tryz.func67, rd11, .nil⟩,
 ⟨sg12, Tryz.f35, an12, 3000, rfl, Tryz.func35, rd12, .nil⟩,
 ⟨sg13, Tryz.f97, an13, 3000, rfl, Tryz.func97, rd13, .nil⟩,
 ⟨sg14, Tryz.f98, an14, 3000, rfl, Tryz.func98, rd14, .nil⟩,
 ⟨sg15, Tryz.f93, an15, 3000, rfl, Tryz.func93, rd15, .nil⟩,
 ⟨sg16, Tryz.f81, an16, 3000, rfl, Tryz.func81, rd16, .nil⟩,
 ⟨sg17, Tryz.f68, an17, 3000, rfl, Tryz.func68, rd17, .nil⟩,
 ⟨sg18, Tryz.f77, an18, 3000, rfl, Tryz.func77, rd18, .nil⟩,
 ⟨sg19, Tryz.f75, an19, 3000, rfl, Tryz.func75, rd19, .nil⟩,
 ⟨sg20, Tryz.f69, an20, 3000, rfl, Tryz.func69, rd20, .nil⟩,
 ⟨sg21, Tryz.f82, an21, 3000, rfl, Tryz.func82, rd21, .nil⟩,
 ⟨sg22, Tryz.f83, an22, 3000, rfl, Tryz.func83, rd22, .nil⟩,
 ⟨sg23, Tryz.f84, an23, 3000, rfl, Tryz.func84, rd23, .nil⟩,
 ⟨sg24, Tryz.f70, an24, 3000, rfl, Tryz.func70, rd24, .nil⟩,
 ⟨sg25, Tryz.f86, an25, 3000, rfl, Tryz.func86, rd25, .nil⟩,
 ⟨sg26, Tryz.f85, an26, 3000, rfl, Tryz.func85, rd26, .nil⟩,
 ⟨sg27, Tryz.f91, an27, 3000, rfl, Tryz.func91, rd27, .nil⟩,
 ⟨sg28, Tryz.f95, an28, 3000, rfl, Tryz.func95, rd28, .nil⟩,
 ⟨sg29, Tryz.f73, an29, 3000, rfl, Tryz.func73, rd29, .nil⟩,
 ⟨sg30, Tryz.f96, an30, 3000, rfl, Tryz.func96, rd30, .nil⟩,
 ⟨sg31, Tryz.f94, an31, 3000, rfl, Tryz.func94, rd31, .nil⟩,
 ⟨sg32, Tryz.f54, an32, 3000, rfl, Tryz.func54, rd32, bk_ok rfl⟩,
 ⟨sg33, Tryz.f43, an33, 3000, rfl, Tryz.func43, rd33, .nil⟩,
 ⟨sg34, Tryz.f37, an34, 3000, rfl, Tryz.func37, rd34, .nil⟩,
 ⟨sg35, Tryz.f60, an35, 3000, rfl, Tryz.func60, rd35, .nil⟩,
 ⟨sg36, Tryz.f51, an36, 3000, rfl, Tryz.func51, rd36, .nil⟩,
 ⟨sg37, Tryz.f71, an37, 3000, rfl, Tryz.func71, rd37, .nil⟩,
 ⟨sg38, Tryz.f115, an38, 3000, rfl, Tryz.func115, rd38, .nil⟩,
 ⟨sg39, Tryz.f105, an39, 3000, rfl, Tryz.func105, rd39, .nil⟩,
 ⟨sg40, Tryz.f137, an40, 3000, rfl, Tryz.func137, rd40, .nil⟩,
 ext41_ok hG,
 ⟨sg42, Tryz.f125, an42, 3000, rfl, Tryz.func125, rd42, .nil⟩,
 ext43_ok hG,
 ext44_ok hG,
 ⟨sg45, Tryz.f128, an45, 3000, rfl, Tryz.func128, rd45, .nil⟩,
 ⟨sg46, Tryz.f116, an46, 3000, rfl, Tryz.func116, rd46, .nil⟩,
 ⟨sg47, Tryz.f41, an47, 3000, rfl, Tryz.func41, rd47, .nil⟩,
 ⟨sg48, Tryz.f112, an48, 3000, rfl, Tryz.func112, rd48, .nil⟩,
 ⟨sg49, Tryz.f117, an49, 3000, rfl, Tryz.func117, rd49, .nil⟩,
 ⟨sg50, Tryz.f129, an50, 3000, rfl, Tryz.func129, rd50, .nil⟩,
 ⟨sg51, Tryz.f130, an51, 3000, rfl, Tryz.func130, rd51, .nil⟩,
 ⟨sg52, Tryz.f131, an52, 3000, rfl, Tryz.func131, rd52, .nil⟩,
 ⟨sg53, Tryz.f132, an53, 3000, rfl, Tryz.func132, rd53, .nil⟩,
 ⟨sg54, Tryz.f133, an54, 3000, rfl, Tryz.func133, rd54, .nil⟩,
 ⟨sg55, Tryz.f134, an55, 3000, rfl, Tryz.func134, rd55, .nil⟩,
 ⟨sg56, Tryz.f136, an56, 3000, rfl, Tryz.func136, rd56, .nil⟩,
 ⟨sg57, Tryz.f119, an57, 3000, rfl, Tryz.func119, rd57, .nil⟩,
 ext58_ok hG,
 ⟨sg59, Tryz.f121, an59, 3000, rfl, Tryz.func121, rd59, .nil⟩,
 ⟨sg60, Tryz.f122, an60, 3000, rfl, Tryz.func122, rd60, .nil⟩,
 ⟨sg61, Tryz.f87, an61, 3000, rfl, Tryz.func87, rd61, .nil⟩,
 ⟨sg62, Tryz.f109, an62, 3000, rfl, Tryz.func109, rd62, .nil⟩,
 ⟨sg63, Tryz.f106, an63, 3000, rfl, Tryz.func106, rd63, .nil⟩,
 ⟨sg64, Tryz.f147, an64, 3000, rfl, Tryz.func147, rd64, .nil⟩,
 ⟨sg65, Tryz.f170, an65, 3000, rfl, Tryz.func170, rd65, .nil⟩,
 ext66_ok hG,
 ext67_ok hG,
 ⟨sg68, Tryz.f166, an68, 3000, rfl, Tryz.func166, rd68, .nil⟩,
 ⟨sg69, Tryz.f167, an69, 3000, rfl, Tryz.func167, rd69, .nil⟩,
 ⟨sg70, Tryz.f168, an70, 3000, rfl, Tryz.func168, rd70, .nil⟩,
 ⟨sg71, Tryz.f169, an71, 3000, rfl, Tryz.func169, rd71, .nil⟩,
 ⟨sg72, Tryz.f153, an72, 3000, rfl, Tryz.func153, rd72, .nil⟩,
 ⟨sg73, Tryz.f154, an73, 3000, rfl, Tryz.func154, rd73, .nil⟩,
 ⟨sg74, Tryz.f155, an74, 3000, rfl, Tryz.func155, rd74, .nil⟩,
 ⟨sg75, Tryz.f155, an75, 3000, rfl, Tryz.func155, rd75, .nil⟩,
 ⟨sg76, Tryz.f161, an76, 3000, rfl, Tryz.func161, rd76, .nil⟩,
 ⟨sg77, Tryz.f162, an77, 3000, rfl, Tryz.func162, rd77, .nil⟩,
 ⟨sg78, Tryz.f135, an78, 3000, rfl, Tryz.func135, rd78, .nil⟩,
 ⟨sg79, Tryz.f92, an79, 3000, rfl, Tryz.func92, rd79, .nil⟩,
 ⟨sg80, Tryz.f145, an80, 3000, rfl, Tryz.func145, rd80, .nil⟩,
 ⟨sg81, Tryz.f156, an81, 3000, rfl, Tryz.func156, rd81, .nil⟩,
 ⟨sg82, Tryz.f157, an82, 3000, rfl, Tryz.func157, rd82, .nil⟩, trivial⟩
def tb : Nat → TE := tbOf tbl
theorem tb_ok (hG : GHyp G) : TabOK Tryz.prog G T SG sigs tb := tabOK_of (tbl_ok hG)
theorem gok : GOK G SG := ⟨(fun g cs h => by cases h), (fun g cs h => by cases h)⟩
end Go.Proofs.YtojkhlijbpmgpaaGreat

/- Plain programs of the functions of the program and lemmas about what they compute. -/
import Derived.Test.YtojkhlijbpmgpaaGreatSb1
import Derived.Test.YtojkhlijbpmgpaaGreatAtE
import Derived.Test.YtojkhlijbpmgpaaGreatSqE
set_option linter.unusedSimpArgs false
set_option linter.unusedVariables false
set_option linter.unusedSectionVars false
namespace Go.Proofs.YtojkhlijbpmgpaaGreat
open Go Am
set_option maxRecDepth 100000
variable {G : Glob}
def GHyp (G : Glob) : Prop := G = fun _ => none
abbrev ext44 : PF := atomsE
theorem ext44_ok (hG : GHyp G) : TEok Tryz.prog G T SG sigs 44 (.ext ext44) := ⟨fun _ _ _ _ h => atomsE_wf h, fun sg h => by cases h; exact atomsE_sig⟩
abbrev ext58 : PF := valuesE
theorem ext58_ok (hG : GHyp G) : TEok Tryz.prog G T SG sigs 58 (.ext ext58) := ⟨fun _ _ _ _ h => valuesE_wf h, fun sg h => by cases h; exact valuesE_sig⟩
abbrev ext60 : PF := compactE
theorem ext60_ok (hG : GHyp G) : TEok Tryz.prog G T SG sigs 60 (.ext ext60) := ⟨fun _ _ _ _ h => compactE_wf h, fun sg h => by cases h; exact compactE_sig⟩
abbrev ext61 : PF := cloneE
theorem ext61_ok (hG : GHyp G) : TEok Tryz.prog G T SG sigs 61 (.ext ext61) := ⟨fun _ _ _ _ h => cloneE_wf h, fun sg h => by cases h; exact cloneE_sig⟩
abbrev ext83 : PF := collectE
theorem ext83_ok (hG : GHyp G) : TEok Tryz.prog G T SG sigs 83 (.ext ext83) := ⟨fun _ _ _ _ h => collectE_wf h, fun sg h => by cases h; exact collectE_sig⟩
abbrev ext84 : PF := sortE
theorem ext84_ok (hG : GHyp G) : TEok Tryz.prog G T SG sigs 84 (.ext ext84) := ⟨fun _ _ _ _ h => sortE_wf h, fun sg h => by cases h; exact sortE_sig⟩
def tbl : List TE := [.ir ir0, .ir ir1, .ir ir2, .ir ir3, .ir ir4, .ir ir5, .ir ir6, .ir ir7, .ir ir8, .ir ir9, .ir ir10, .ir ir11, .ir ir12, .ir ir13, .ir ir14, .ir ir15, .ir ir16, .ir ir17, .ir ir18, .ir ir19, .ir ir20, .ir ir21, .ir ir22, .ir ir23, .ir ir24, .ir ir25, .ir ir26, .ir ir27, .ir ir28, .ir ir29, .ir ir30, .ir ir31, .ir ir32, .ir ir33, .ir ir34, .ir ir35, .ir ir36, .ir ir37, .ir ir38, .ir ir39, .ir ir40, .ir ir41, .ir ir42, .ir ir43, .ext ext44, .ir ir45, .ir ir46, .ir ir47, .ir ir48, .ir ir49, .ir ir50, .ir ir51, .ir ir52, .ir ir53, .ir ir54, .ir ir55, .ir ir56, .ir ir57, .ext ext58, .ir ir59, .ext ext60, .ext ext61, .ir ir62, .ir ir63, .ir ir64, .ir ir65, .ir ir66, .ir ir67, .ir ir68, .ir ir69, .ir ir70, .ir ir71, .ir ir72, .ir ir73, .ir ir74, .ir ir75, .ir ir76, .ir ir77, .ir ir78, .ir ir79, .ir ir80, .ir ir81, .ir ir82, .ext ext83, .ext ext84, .ir ir85, .ir ir86, .ir ir87, .ir ir88, .ir ir89, .ir ir90, .ir ir91, .ir ir92, .ir ir93]
theorem tbl_ok (hG : GHyp G) : TLok Tryz.prog G T SG sigs 0 tbl := ⟨⟨sg0, Tryz.f3, an0, 3000, rfl, Tryz.func3, rd0⟩,
 ⟨sg1, Tryz.f4, an1, 3000, rfl, Tryz.func4, rd1⟩,
 ⟨sg2, Tryz.f15, an2, 3000, rfl, Tryz.func15, rd2⟩,
 ⟨sg3, Tryz.f16, an3, 3000, rfl, Tryz.func16, rd3⟩,
 ⟨sg4, Tryz.f17, an4, 3000, rfl, Tryz.func17, rd4⟩,
 ⟨sg5, Tryz.f18, an5, 3000, rfl, Tryz.func18, rd5⟩,
 ⟨sg6, Tryz.f19, an6, 3000, rfl, Tryz.func19, rd6⟩,
 ⟨sg7, Tryz.f20, an7, 3000, rfl, Tryz.func20, rd7⟩,
 ⟨sg8, Tryz.f22, an8, 3000, rfl, Tryz.func22, rd8⟩,
 ⟨sg9, Tryz.f21, an9, 3000, rfl, Tryz.func21, rd9⟩,
 ⟨sg10, Tryz.f23, an10, 3000, rfl, Tryz.func23, rd10⟩,
 ⟨sg11, Tryz.f24, an11, 3000, rfl, Tryz.func24, rd11⟩,
 ⟨sg12, Tryz.f25, an12, 3000, rfl, Tryz.func25, rd12⟩,
 ⟨sg13, Tryz.f26, an13, 3000, rfl, Tryz.func26, rd13⟩,
 ⟨sg14, Tryz.f27, an14, 3000, rfl, Tryz.func27, rd14⟩,
 ⟨sg15, Tryz.f28, an15, 3000, rfl, Tryz.func28, rd15⟩,
 ⟨sg16, Tryz.f67, an16, 3000, rfl, Tryz.func67, rd16⟩,
 ⟨sg17, Tryz.f47, an17, 3000, rfl, Tryz.func47, rd17⟩,
 ⟨sg18, Tryz.f68, an18, 3000, rfl, Tryz.func68, rd18⟩,
 ⟨sg19, Tryz.f69, an19, 3000, rfl, Tryz.func69, rd19⟩,
 ⟨sg20, Tryz.f70, an20, 3000, rfl, Tryz.func70, rd20⟩,
 ⟨sg21, Tryz.f71, an21, 3000, rfl, Tryz.func71, rd21⟩,
 ⟨sg22, Tryz.f51, an22, 3000, rfl, Tryz.func51, rd22⟩,
 ⟨sg23, Tryz.f66, an23, 3000, rfl, Tryz.func66, rd23⟩,
 ⟨sg24, Tryz.f72, an24, 3000, rfl, Tryz.func72, rd24⟩,
 ⟨sg25, Tryz.f73, an25, 3000, rfl, Tryz.func73, rd25⟩,
 ⟨sg26, Tryz.f74, an26, 3000, rfl, Tryz.func74, rd26⟩,
 ⟨sg27, Tryz.f75, an27, 3000, rfl, Tryz.func75, rd27⟩,
 ⟨sg28, Tryz.f76, an28, 3000, rfl, Tryz.func76, rd28⟩,
 ⟨sg29, Tryz.f77, an29, 3000, rfl, Tryz.func77, rd29⟩,
 ⟨sg30, Tryz.f78, an30, 3000, rfl, Tryz.func78, rd30⟩,
 ⟨sg31, Tryz.f29, an31, 3000, rfl, Tryz.func29, rd31⟩,
 ⟨sg32, Tryz.f79, an32, 3000, rfl, Tryz.func79, rd32⟩,
 ⟨sg33, Tryz.f35, an33, 3000, rfl, Tryz.func35, rd33⟩,
 ⟨sg34, Tryz.f80, an34, 3000, rfl, Tryz.func80, rd34⟩,
 ⟨sg35, Tryz.f81, an35, 3000, rfl, Tryz.func81, rd35⟩,
 ⟨sg36, Tryz.f115, an36, 3000, rfl, Tryz.func115, rd36⟩,
 ⟨sg37, Tryz.f116, an37, 3000, rfl, Tryz.func116, rd37⟩,
 ⟨sg38, Tryz.f117, an38, 3000, rfl, Tryz.func117, rd38⟩,
 ⟨sg39, Tryz.f114, an39, 3000, rfl, Tryz.func114, rd39⟩,
 ⟨sg40, Tryz.f91, an40, 3000, rfl, Tryz.func91, rd40⟩,
 ⟨sg41, Tryz.f118, an41, 3000, rfl, Tryz.func118, rd41⟩,
 ⟨sg42, Tryz.f105, an42, 3000, rfl, Tryz.func105, rd42⟩,
 ⟨sg43, Tryz.f119, an43, 3000, rfl, Tryz.func119, rd43⟩,
 ext44_ok hG,
 ⟨sg45, Tryz.f121, an45, 3000, rfl, Tryz.func121, rd45⟩,
 ⟨sg46, Tryz.f122, an46, 3000, rfl, Tryz.func122, rd46⟩,
 ⟨sg47, Tryz.f87, an47, 3000, rfl, Tryz.func87, rd47⟩,
 ⟨sg48, Tryz.f96, an48, 3000, rfl, Tryz.func96, rd48⟩,
 ⟨sg49, Tryz.f123, an49, 3000, rfl, Tryz.func123, rd49⟩,
 ⟨sg50, Tryz.f41, an50, 3000, rfl, Tryz.func41, rd50⟩,
 ⟨sg51, Tryz.f112, an51, 3000, rfl, Tryz.func112, rd51⟩,
 ⟨sg52, Tryz.f82, an52, 3000, rfl, Tryz.func82, rd52⟩,
 ⟨sg53, Tryz.f83, an53, 3000, rfl, Tryz.func83, rd53⟩,
 ⟨sg54, Tryz.f84, an54, 3000, rfl, Tryz.func84, rd54⟩,
 ⟨sg55, Tryz.f86, an55, 3000, rfl, Tryz.func86, rd55⟩,
 ⟨sg56, Tryz.f85, an56, 3000, rfl, Tryz.func85, rd56⟩,
 ⟨sg57, Tryz.f108, an57, 3000, rfl, Tryz.func108, rd57⟩,
 ext58_ok hG,
 ⟨sg59, Tryz.f125, an59, 3000, rfl, Tryz.func125, rd59⟩,
 ext60_ok hG,
 ext61_ok hG,
 ⟨sg62, Tryz.f128, an62, 3000, rfl, Tryz.func128, rd62⟩,
 ⟨sg63, Tryz.f150, an63, 3000, rfl, Tryz.func150, rd63⟩,
 ⟨sg64, Tryz.f151, an64, 3000, rfl, Tryz.func151, rd64⟩,
 ⟨sg65, Tryz.f152, an65, 3000, rfl, Tryz.func152, rd65⟩,
 ⟨sg66, Tryz.f136, an66, 3000, rfl, Tryz.func136, rd66⟩,
 ⟨sg67, Tryz.f147, an67, 3000, rfl, Tryz.func147, rd67⟩,
 ⟨sg68, Tryz.f153, an68, 3000, rfl, Tryz.func153, rd68⟩,
 ⟨sg69, Tryz.f154, an69, 3000, rfl, Tryz.func154, rd69⟩,
 ⟨sg70, Tryz.f155, an70, 3000, rfl, Tryz.func155, rd70⟩,
 ⟨sg71, Tryz.f155, an71, 3000, rfl, Tryz.func155, rd71⟩,
 ⟨sg72, Tryz.f161, an72, 3000, rfl, Tryz.func161, rd72⟩,
 ⟨sg73, Tryz.f162, an73, 3000, rfl, Tryz.func162, rd73⟩,
 ⟨sg74, Tryz.f135, an74, 3000, rfl, Tryz.func135, rd74⟩,
 ⟨sg75, Tryz.f109, an75, 3000, rfl, Tryz.func109, rd75⟩,
 ⟨sg76, Tryz.f102, an76, 3000, rfl, Tryz.func102, rd76⟩,
 ⟨sg77, Tryz.f129, an77, 3000, rfl, Tryz.func129, rd77⟩,
 ⟨sg78, Tryz.f130, an78, 3000, rfl, Tryz.func130, rd78⟩,
 ⟨sg79, Tryz.f131, an79, 3000, rfl, Tryz.func131, rd79⟩,
 ⟨sg80, Tryz.f132, an80, 3000, rfl, Tryz.func132, rd80⟩,
 ⟨sg81, Tryz.f133, an81, 3000, rfl, Tryz.func133, rd81⟩,
 ⟨sg82, Tryz.f134, an82, 3000, rfl, Tryz.func134, rd82⟩,
 ext83_ok hG,
 ext84_ok hG,
 ⟨sg85, Tryz.f166, an85, 3000, rfl, Tryz.func166, rd85⟩,
 ⟨sg86, Tryz.f167, an86, 3000, rfl, Tryz.func167, rd86⟩,
 ⟨sg87, Tryz.f173, an87, 3000, rfl, Tryz.func173, rd87⟩,
 ⟨sg88, Tryz.f169, an88, 3000, rfl, Tryz.func169, rd88⟩,
 ⟨sg89, Tryz.f156, an89, 3000, rfl, Tryz.func156, rd89⟩,
 ⟨sg90, Tryz.f157, an90, 3000, rfl, Tryz.func157, rd90⟩,
 ⟨sg91, Tryz.f92, an91, 3000, rfl, Tryz.func92, rd91⟩,
 ⟨sg92, Tryz.f168, an92, 3000, rfl, Tryz.func168, rd92⟩,
 ⟨sg93, Tryz.f145, an93, 3000, rfl, Tryz.func145, rd93⟩, trivial⟩
def tb : Nat → TE := tbOf tbl
theorem tb_ok (hG : GHyp G) : TabOK Tryz.prog G T SG sigs tb := tabOK_of (tbl_ok hG)
theorem gok : GOK G SG := ⟨(fun g cs h => by cases h), (fun g cs h => by cases h)⟩
end Go.Proofs.YtojkhlijbpmgpaaGreat

/- Plain programs of the functions of the program and lemmas about what they compute. -/
import Derived.Test.YtojkhlijbpmgpaaGreatSb1
import Derived.Test.YtojkhlijbpmgpaaGreatAtE
import Derived.Test.YtojkhlijbpmgpaaGreatSqE
set_option linter.unusedSimpArgs false
set_option linter.unusedVariables false
set_option linter.unusedSectionVars false
namespace Go.Proofs.YtojkhlijbpmgpaaGreat
open Go Am
set_option maxRecDepth 100000
variable {G : Glob}
def GHyp (G : Glob) : Prop := G = fun _ => none
abbrev ext60 : PF := atomsE
theorem ext60_ok (hG : GHyp G) : TEok Tryz.prog G T SG sigs 60 (.ext ext60) := ⟨fun _ _ _ _ h => atomsE_wf h, fun sg h => by cases h; exact atomsE_sig⟩
abbrev ext68 : PF := valuesE
theorem ext68_ok (hG : GHyp G) : TEok Tryz.prog G T SG sigs 68 (.ext ext68) := ⟨fun _ _ _ _ h => valuesE_wf h, fun sg h => by cases h; exact valuesE_sig⟩
abbrev ext70 : PF := compactE
theorem ext70_ok (hG : GHyp G) : TEok Tryz.prog G T SG sigs 70 (.ext ext70) := ⟨fun _ _ _ _ h => compactE_wf h, fun sg h => by cases h; exact compactE_sig⟩
abbrev ext71 : PF := cloneE
theorem ext71_ok (hG : GHyp G) : TEok Tryz.prog G T SG sigs 71 (.ext ext71) := ⟨fun _ _ _ _ h => cloneE_wf h, fun sg h => by cases h; exact cloneE_sig⟩
abbrev ext89 : PF := collectE
theorem ext89_ok (hG : GHyp G) : TEok Tryz.prog G T SG sigs 89 (.ext ext89) := ⟨fun _ _ _ _ h => collectE_wf h, fun sg h => by cases h; exact collectE_sig⟩
abbrev ext90 : PF := sortE
theorem ext90_ok (hG : GHyp G) : TEok Tryz.prog G T SG sigs 90 (.ext ext90) := ⟨fun _ _ _ _ h => sortE_wf h, fun sg h => by cases h; exact sortE_sig⟩
def tbl : List TE := [.ir ir0, .ir ir1, .ir ir2, .ir ir3, .ir ir4, .ir ir5, .ir ir6, .ir ir7, .ir ir8, .ir ir9, .ir ir10, .ir ir11, .ir ir12, .ir ir13, .ir ir14, .ir ir15, .ir ir16, .ir ir17, .ir ir18, .ir ir19, .ir ir20, .ir ir21, .ir ir22, .ir ir23, .ir ir24, .ir ir25, .ir ir26, .ir ir27, .ir ir28, .ir ir29, .ir ir30, .ir ir31, .ir ir32, .ir ir33, .ir ir34, .ir ir35, .ir ir36, .ir ir37, .ir ir38, .ir ir39, .ir ir40, .ir ir41, .ir ir42, .ir ir43, .ir ir44, .ir ir45, .ir ir46, .ir ir47, .ir ir48, .ir ir49, .ir ir50, .ir ir51, .ir ir52, .ir ir53, .ir ir54, .ir ir55, .ir ir56, .ir ir57, .ir ir58, .ir ir59, .ext ext60, .ir ir61, .ir ir62, .ir ir63, .ir ir64, .ir ir65, .ir ir66, .ir ir67, .ext ext68, .ir ir69, .ext ext70, .ext ext71, .ir ir72, .ir ir73, .ir ir74, .ir ir75, .ir ir76, .ir ir77, .ir ir78, .ir ir79, .ir ir80, .ir ir81, .ir ir82, .ir ir83, .ir ir84, .ir ir85, .ir ir86, .ir ir87, .ir ir88, .ext ext89, .ext ext90, .ir ir91, .ir ir92, .ir ir93, .ir ir94, .ir ir95, .ir ir96, .ir ir97, .ir ir98]
theorem tbl_ok (hG : GHyp G) : TLok Tryz.prog G T SG sigs 0 tbl := ⟨⟨sg0, Tryz.f5, an0, 3000, rfl, Tryz.func5, rd0⟩,
 ⟨sg1, Tryz.f6, an1, 3000, rfl, Tryz.func6, rd1⟩,
 ⟨sg2, Tryz.f15, an2, 3000, rfl, Tryz.func15, rd2⟩,
 ⟨sg3, Tryz.f16, an3, 3000, rfl, Tryz.func16, rd3⟩,
 ⟨sg4, Tryz.f17, an4, 3000, rfl, Tryz.func17, rd4⟩,
 ⟨sg5, Tryz.f26, an5, 3000, rfl, Tryz.func26, rd5⟩,
 ⟨sg6, Tryz.f18, an6, 3000, rfl, Tryz.func18, rd6⟩,
 ⟨sg7, Tryz.f29, an7, 3000, rfl, Tryz.func29, rd7⟩,
 ⟨sg8, Tryz.f30, an8, 3000, rfl, Tryz.func30, rd8⟩,
 ⟨sg9, Tryz.f22, an9, 3000, rfl, Tryz.func22, rd9⟩,
 ⟨sg10, Tryz.f21, an10, 3000, rfl, Tryz.func21, rd10⟩,
 ⟨sg11, Tryz.f20, an11, 3000, rfl, Tryz.func20, rd11⟩,
 ⟨sg12, Tryz.f24, an12, 3000, rfl, Tryz.func24, rd12⟩,
 ⟨sg13, Tryz.f31, an13, 3000, rfl, Tryz.func31, rd13⟩,
 ⟨sg14, Tryz.f32, an14, 3000, rfl, Tryz.func32, rd14⟩,
 ⟨sg15, Tryz.f19, an15, 3000, rfl, Tryz.func19, rd15⟩,
 ⟨sg16, Tryz.f25, an16, 3000, rfl, Tryz.func25, rd16⟩,
 ⟨sg17, Tryz.f28, an17, 3000, rfl, Tryz.func28, rd17⟩,
 ⟨sg18, Tryz.f33, an18, 3000, rfl, Tryz.func33, rd18⟩,
 ⟨sg19, Tryz.f34, an19, 3000, rfl, Tryz.func34, rd19⟩,
 ⟨sg20, Tryz.f67, an20, 3000, rfl, Tryz.func67, rd20⟩,
 ⟨sg21, Tryz.f47, an21, 3000, rfl, Tryz.func47, rd21⟩,
 ⟨sg22, Tryz.f68, an22, 3000, rfl, Tryz.func68, rd22⟩,
 ⟨sg23, Tryz.f35, an23, 3000, rfl, Tryz.func35, rd23⟩,
 ⟨sg24, Tryz.f69, an24, 3000, rfl, Tryz.func69, rd24⟩,
 ⟨sg25, Tryz.f70, an25, 3000, rfl, Tryz.func70, rd25⟩,
 ⟨sg26, Tryz.f82, an26, 3000, rfl, Tryz.func82, rd26⟩,
 ⟨sg27, Tryz.f83, an27, 3000, rfl, Tryz.func83, rd27⟩,
 ⟨sg28, Tryz.f84, an28, 3000, rfl, Tryz.func84, rd28⟩,
 ⟨sg29, Tryz.f86, an29, 3000, rfl, Tryz.func86, rd29⟩,
 ⟨sg30, Tryz.f85, an30, 3000, rfl, Tryz.func85, rd30⟩,
 ⟨sg31, Tryz.f72, an31, 3000, rfl, Tryz.func72, rd31⟩,
 ⟨sg32, Tryz.f87, an32, 3000, rfl, Tryz.func87, rd32⟩,
 ⟨sg33, Tryz.f73, an33, 3000, rfl, Tryz.func73, rd33⟩,
 ⟨sg34, Tryz.f74, an34, 3000, rfl, Tryz.func74, rd34⟩,
 ⟨sg35, Tryz.f66, an35, 3000, rfl, Tryz.func66, rd35⟩,
 ⟨sg36, Tryz.f51, an36, 3000, rfl, Tryz.func51, rd36⟩,
 ⟨sg37, Tryz.f76, an37, 3000, rfl, Tryz.func76, rd37⟩,
 ⟨sg38, Tryz.f88, an38, 3000, rfl, Tryz.func88, rd38⟩,
 ⟨sg39, Tryz.f89, an39, 3000, rfl, Tryz.func89, rd39⟩,
 ⟨sg40, Tryz.f90, an40, 3000, rfl, Tryz.func90, rd40⟩,
 ⟨sg41, Tryz.f71, an41, 3000, rfl, Tryz.func71, rd41⟩,
 ⟨sg42, Tryz.f77, an42, 3000, rfl, Tryz.func77, rd42⟩,
 ⟨sg43, Tryz.f78, an43, 3000, rfl, Tryz.func78, rd43⟩,
 ⟨sg44, Tryz.f79, an44, 3000, rfl, Tryz.func79, rd44⟩,
 ⟨sg45, Tryz.f81, an45, 3000, rfl, Tryz.func81, rd45⟩,
 ⟨sg46, Tryz.f115, an46, 3000, rfl, Tryz.func115, rd46⟩,
 ⟨sg47, Tryz.f116, an47, 3000, rfl, Tryz.func116, rd47⟩,
 ⟨sg48, Tryz.f117, an48, 3000, rfl, Tryz.func117, rd48⟩,
 ⟨sg49, Tryz.f129, an49, 3000, rfl, Tryz.func129, rd49⟩,
 ⟨sg50, Tryz.f130, an50, 3000, rfl, Tryz.func130, rd50⟩,
 ⟨sg51, Tryz.f131, an51, 3000, rfl, Tryz.func131, rd51⟩,
 ⟨sg52, Tryz.f132, an52, 3000, rfl, Tryz.func132, rd52⟩,
 ⟨sg53, Tryz.f133, an53, 3000, rfl, Tryz.func133, rd53⟩,
 ⟨sg54, Tryz.f134, an54, 3000, rfl, Tryz.func134, rd54⟩,
 ⟨sg55, Tryz.f91, an55, 3000, rfl, Tryz.func91, rd55⟩,
 ⟨sg56, Tryz.f118, an56, 3000, rfl, Tryz.func118, rd56⟩,
 ⟨sg57, Tryz.f105, an57, 3000, rfl, Tryz.func105, rd57⟩,
 ⟨sg58, Tryz.f135, an58, 3000, rfl, Tryz.func135, rd58⟩,
 ⟨sg59, Tryz.f119, an59, 3000, rfl, Tryz.func119, rd59⟩,
 ext60_ok hG,
 ⟨sg61, Tryz.f121, an61, 3000, rfl, Tryz.func121, rd61⟩,
 ⟨sg62, Tryz.f122, an62, 3000, rfl, Tryz.func122, rd62⟩,
 ⟨sg63, Tryz.f96, an63, 3000, rfl, Tryz.func96, rd63⟩,
 ⟨sg64, Tryz.f123, an64, 3000, rfl, Tryz.func123, rd64⟩,
 ⟨sg65, Tryz.f114, an65, 3000, rfl, Tryz.func114, rd65⟩,
 ⟨sg66, Tryz.f75, an66, 3000, rfl, Tryz.func75, rd66⟩,
 ⟨sg67, Tryz.f108, an67, 3000, rfl, Tryz.func108, rd67⟩,
 ext68_ok hG,
 ⟨sg69, Tryz.f125, an69, 3000, rfl, Tryz.func125, rd69⟩,
 ext70_ok hG,
 ext71_ok hG,
 ⟨sg72, Tryz.f128, an72, 3000, rfl, Tryz.func128, rd72⟩,
 ⟨sg73, Tryz.f168, an73, 3000, rfl, Tryz.func168, rd73⟩,
 ⟨sg74, Tryz.f136, an74, 3000, rfl, Tryz.func136, rd74⟩,
 ⟨sg75, Tryz.f147, an75, 3000, rfl, Tryz.func147, rd75⟩,
 ⟨sg76, Tryz.f153, an76, 3000, rfl, Tryz.func153, rd76⟩,
 ⟨sg77, Tryz.f154, an77, 3000, rfl, Tryz.func154, rd77⟩,
 ⟨sg78, Tryz.f155, an78, 3000, rfl, Tryz.func155, rd78⟩,
 ⟨sg79, Tryz.f155, an79, 3000, rfl, Tryz.func155, rd79⟩,
 ⟨sg80, Tryz.f161, an80, 3000, rfl, Tryz.func161, rd80⟩,
 ⟨sg81, Tryz.f162, an81, 3000, rfl, Tryz.func162, rd81⟩,
 ⟨sg82, Tryz.f109, an82, 3000, rfl, Tryz.func109, rd82⟩,
 ⟨sg83, Tryz.f102, an83, 3000, rfl, Tryz.func102, rd83⟩,
 ⟨sg84, Tryz.f150, an84, 3000, rfl, Tryz.func150, rd84⟩,
 ⟨sg85, Tryz.f151, an85, 3000, rfl, Tryz.func151, rd85⟩,
 ⟨sg86, Tryz.f152, an86, 3000, rfl, Tryz.func152, rd86⟩,
 ⟨sg87, Tryz.f41, an87, 3000, rfl, Tryz.func41, rd87⟩,
 ⟨sg88, Tryz.f112, an88, 3000, rfl, Tryz.func112, rd88⟩,
 ext89_ok hG,
 ext90_ok hG,
 ⟨sg91, Tryz.f166, an91, 3000, rfl, Tryz.func166, rd91⟩,
 ⟨sg92, Tryz.f167, an92, 3000, rfl, Tryz.func167, rd92⟩,
 ⟨sg93, Tryz.f169, an93, 3000, rfl, Tryz.func169, rd93⟩,
 ⟨sg94, Tryz.f156, an94, 3000, rfl, Tryz.func156, rd94⟩,
 ⟨sg95, Tryz.f157, an95, 3000, rfl, Tryz.func157, rd95⟩,
 ⟨sg96, Tryz.f92, an96, 3000, rfl, Tryz.func92, rd96⟩,
 ⟨sg97, Tryz.f173, an97, 3000, rfl, Tryz.func173, rd97⟩,
 ⟨sg98, Tryz.f145, an98, 3000, rfl, Tryz.func145, rd98⟩, trivial⟩
def tb : Nat → TE := tbOf tbl
theorem tb_ok (hG : GHyp G) : TabOK Tryz.prog G T SG sigs tb := tabOK_of (tbl_ok hG)
theorem gok : GOK G SG := ⟨(fun g cs h => by cases h), (fun g cs h => by cases h)⟩
end Go.Proofs.YtojkhlijbpmgpaaGreat

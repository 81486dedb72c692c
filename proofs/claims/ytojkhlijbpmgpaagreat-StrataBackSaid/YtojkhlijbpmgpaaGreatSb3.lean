/- What functions of the program compute: lemmas. -/
import Derived.Test.YtojkhlijbpmgpaaGreatSb1
import Derived.Test.YtojkhlijbpmgpaaGreatAtE
import Derived.Test.YtojkhlijbpmgpaaGreatSqE
import Derived.Test.YtojkhlijbpmgpaaGreatRv
set_option linter.unusedSimpArgs false
set_option linter.unusedVariables false
set_option linter.unusedSectionVars false
namespace Go.Proofs.YtojkhlijbpmgpaaGreat
open Go Am
set_option maxRecDepth 100000
variable {G : Glob}
def GHyp (G : Glob) : Prop := G = fun _ => none
abbrev ext71 : PF := revFE
theorem ext71_ok (hG : GHyp G) : TEok Tryz.prog G T SG sigs 71 (.ext ext71) := ⟨fun _ _ _ _ h => revFE_wf' (by assumption) h, fun sg h => by cases h; exact revFE_sig⟩
abbrev ext84 : PF := atomsE
theorem ext84_ok (hG : GHyp G) : TEok Tryz.prog G T SG sigs 84 (.ext ext84) := ⟨fun _ _ _ _ h => atomsE_wf h, fun sg h => by cases h; exact atomsE_sig⟩
abbrev ext95 : PF := valuesE
theorem ext95_ok (hG : GHyp G) : TEok Tryz.prog G T SG sigs 95 (.ext ext95) := ⟨fun _ _ _ _ h => valuesE_wf h, fun sg h => by cases h; exact valuesE_sig⟩
abbrev ext97 : PF := compactE
theorem ext97_ok (hG : GHyp G) : TEok Tryz.prog G T SG sigs 97 (.ext ext97) := ⟨fun _ _ _ _ h => compactE_wf h, fun sg h => by cases h; exact compactE_sig⟩
abbrev ext98 : PF := cloneE
theorem ext98_ok (hG : GHyp G) : TEok Tryz.prog G T SG sigs 98 (.ext ext98) := ⟨fun _ _ _ _ h => cloneE_wf h, fun sg h => by cases h; exact cloneE_sig⟩
abbrev ext115 : PF := collectE
theorem ext115_ok (hG : GHyp G) : TEok Tryz.prog G T SG sigs 115 (.ext ext115) := ⟨fun _ _ _ _ h => collectE_wf h, fun sg h => by cases h; exact collectE_sig⟩
abbrev ext116 : PF := sortE
theorem ext116_ok (hG : GHyp G) : TEok Tryz.prog G T SG sigs 116 (.ext ext116) := ⟨fun _ _ _ _ h => sortE_wf h, fun sg h => by cases h; exact sortE_sig⟩
def tbl : List TE := [.ir ir0, .ir ir1, .ir ir2, .ir ir3, .ir ir4, .ir ir5, .ir ir6, .ir ir7, .ir ir8, .ir ir9, .ir ir10, .ir ir11, .ir ir12, .ir ir13, .ir ir14, .ir ir15, .ir ir16, .ir ir17, .ir ir18, .ir ir19, .ir ir20, .ir ir21, .ir ir22, .ir ir23, .ir ir24, .ir ir25, .ir ir26, .ir ir27, .ir ir28, .ir ir29, .ir ir30, .ir ir31, .ir ir32, .ir ir33, .ir ir34, .ir ir35, .ir ir36, .ir ir37, .ir ir38, .ir ir39, .ir ir40, .ir ir41, .ir ir42, .ir ir43, .ir ir44, .ir ir45, .ir ir46, .ir ir47, .ir ir48, .ir ir49, .ir ir50, .ir ir51, .ir ir52, .ir ir53, .ir ir54, .ir ir55, .ir ir56, .ir ir57, .ir ir58, .ir ir59, .ir ir60, .ir ir61, .ir ir62, .ir ir63, .ir ir64, .ir ir65, .ir ir66, .ir ir67, .ir ir68, .ir ir69, .ir ir70, .ext ext71, .ir ir72, .ir ir73, .ir ir74, .ir ir75, .ir ir76, .ir ir77, .ir ir78, .ir ir79, .ir ir80, .ir ir81, .ir ir82, .ir ir83, .ext ext84, .ir ir85, .ir ir86, .ir ir87, .ir ir88, .ir ir89, .ir ir90, .ir ir91, .ir ir92, .ir ir93, .ir ir94, .ext ext95, .ir ir96, .ext ext97, .ext ext98, .ir ir99, .ir ir100, .ir ir101, .ir ir102, .ir ir103, .ir ir104, .ir ir105, .ir ir106, .ir ir107, .ir ir108, .ir ir109, .ir ir110, .ir ir111, .ir ir112, .ir ir113, .ir ir114, .ext ext115, .ext ext116, .ir ir117, .ir ir118, .ir ir119, .ir ir120, .ir ir121, .ir ir122, .ir ir123, .ir ir124]
theorem tbl_ok (hG : GHyp G) : TLok Tryz.prog G T SG sigs 0 tbl := ⟨⟨sg0, Tryz.f7, an0, 3000, rfl, Tryz.func7, rd0, .nil⟩,
 ⟨sg1, Tryz.f9, an1, 3000, rfl, Tryz.func9, rd1, .nil⟩,
 ⟨sg2, Tryz.f12, an2, 3000, rfl, Tryz.func12, rd2, .nil⟩,
 ⟨sg3, Tryz.f13, an3, 3000, rfl, Tryz.func13, rd3, .nil⟩,
 ⟨sg4, Tryz.f14, an4, 3000, rfl, Tryz.func14, rd4, .nil⟩,
 ⟨sg5, Tryz.f15, an5, 3000, rfl, Tryz.func15, rd5, .nil⟩,
 ⟨sg6, Tryz.f16, an6, 3000, rfl, Tryz.func16, rd6, .nil⟩,
 ⟨sg7, Tryz.f17, an7, 3000, rfl, Tryz.func17, rd7, .nil⟩,
 ⟨sg8, Tryz.f35, an8, 3000, rfl, Tryz.func35, rd8, .nil⟩,
 ⟨sg9, Tryz.f36, an9, 3000, rfl, Tryz.func36, rd9, .nil⟩,
 ⟨sg10, Tryz.f37, an10, 3000, rfl, Tryz.func37, rd10, .nil⟩,
 ⟨sg11, Tryz.f38, an11, 3000, rfl, Tryz.func38, rd11, .nil⟩,
 ⟨sg12, Tryz.f29, an12, 3000, rfl, Tryz.func29, rd12, .nil⟩,
 ⟨sg13, Tryz.f39, an13, 3000, rfl, Tryz.func39, rd13, .nil⟩,
 ⟨sg14, Tryz.f40, an14, 3000, rfl, Tryz.func40, rd14, .nil⟩,
 ⟨sg15, Tryz.f41, an15, 3000, rfl, Tryz.func41, rd15, .nil⟩,
 ⟨sg16, Tryz.f18, an16, 3000, rfl, Tryz.func18, rd16, .nil⟩,
 ⟨sg17, Tryz.f42, an17, 3000, rfl, Tryz.func42, rd17, .nil⟩,
 ⟨sg18, Tryz.f45, an18, 3000, rfl, Tryz.func45, rd18, .nil⟩,
 ⟨sg19, Tryz.f47, an19, 3000, rfl, Tryz.func47, rd19, .nil⟩,
 ⟨sg20, Tryz.f46, an20, 3000, rfl, Tryz.func46, rd20, .nil⟩,
 ⟨sg21, Tryz.f48, an21, 3000, rfl, Tryz.func48, rd21, .nil⟩,
 ⟨sg22, Tryz.f44, an22, 3000, rfl, Tryz.func44, rd22, .nil⟩,
 ⟨sg23, Tryz.f52, an23, 3000, rfl, Tryz.func52, rd23, .nil⟩,
 ⟨sg24, Tryz.f53, an24, 3000, rfl, Tryz.func53, rd24, .nil⟩,
 ⟨sg25, Tryz.f54, an25, 3000, rfl, Tryz.func54, rd25, bk_ok rfl⟩,
 ⟨sg26, Tryz.f55, an26, 3000, rfl, Tryz.func55, rd26, .nil⟩,
 ⟨sg27, Tryz.f24, an27, 3000, rfl, Tryz.func24, rd27, .nil⟩,
 ⟨sg28, Tryz.f56, an28, 3000, rfl, Tryz.func56, rd28, .nil⟩,
 ⟨sg29, Tryz.f57, an29, 3000, rfl, Tryz.func57, rd29, .nil⟩,
 ⟨sg30, Tryz.f58, an30, 3000, rfl, Tryz.func58, rd30, .nil⟩,
 ⟨sg31, Tryz.f59, an31, 3000, rfl, Tryz.func59, rd31, .nil⟩,
 ⟨sg32, Tryz.f32, an32, 3000, rfl, Tryz.func32, rd32, .nil⟩,
 ⟨sg33, Tryz.f60, an33, 3000, rfl, Tryz.func60, rd33, .nil⟩,
 ⟨sg34, Tryz.f61, an34, 3000, rfl, Tryz.func61, rd34, .nil⟩,
 ⟨sg35, Tryz.f62, an35, 3000, rfl, Tryz.func62, rd35, .nil⟩,
 ⟨sg36, Tryz.f51, an36, 3000, rfl, Tryz.func51, rd36, .nil⟩,
 ⟨sg37, Tryz.f63, an37, 3000, rfl, Tryz.func63, rd37, .nil⟩,
 ⟨sg38, Tryz.f64, an38, 3000, rfl, Tryz.func64, rd38, .nil⟩,
 ⟨sg39, Tryz.f65, an39, 3000, rfl, Tryz.func65, rd39, .nil⟩,
 ⟨sg40, Tryz.f66, an40, 3000, rfl, Tryz.func66, rd40, .nil⟩,
 ⟨sg41, Tryz.f67, an41, 3000, rfl, Tryz.func67, rd41, .nil⟩,
 ⟨sg42, Tryz.f68, an42, 3000, rfl, Tryz.func68, rd42, .nil⟩,
 ⟨sg43, Tryz.f91, an43, 3000, rfl, Tryz.func91, rd43, .nil⟩,
 ⟨sg44, Tryz.f73, an44, 3000, rfl, Tryz.func73, rd44, .nil⟩,
 ⟨sg45, Tryz.f92, an45, 3000, rfl, Tryz.func92, rd45, .nil⟩,
 ⟨sg46, Tryz.f93, an46, 3000, rfl, Tryz.func93, rd46, .nil⟩,
 ⟨sg47, Tryz.f69, an47, 3000, rfl, Tryz.func69, rd47, .nil⟩,
 ⟨sg48, Tryz.f82, an48, 3000, rfl, Tryz.func82, rd48, .nil⟩,
 ⟨sg49, Tryz.f83, an49, 3000, rfl, Tryz.func83, rd49, .nil⟩,
 ⟨sg50, Tryz.f84, an50, 3000, rfl, Tryz.func84, rd50, .nil⟩,
 ⟨sg51, Tryz.f70, an51, 3000, rfl, Tryz.func70, rd51, .nil⟩,
 ⟨sg52, Tryz.f86, an52, 3000, rfl, Tryz.func86, rd52, .nil⟩,
 ⟨sg53, Tryz.f85, an53, 3000, rfl, Tryz.func85, rd53, .nil⟩,
 ⟨sg54, Tryz.f77, an54, 3000, rfl, Tryz.func77, rd54, .nil⟩,
 ⟨sg55, Tryz.f23, an55, 3000, rfl, Tryz.func23, rd55, .nil⟩,
 ⟨sg56, Tryz.f94, an56, 3000, rfl, Tryz.func94, rd56, .nil⟩,
 ⟨sg57, Tryz.f43, an57, 3000, rfl, Tryz.func43, rd57, .nil⟩,
 ⟨sg58, Tryz.f97, an58, 3000, rfl, Tryz.func97, rd58, .nil⟩,
 ⟨sg59, Tryz.f98, an59, 3000, rfl, Tryz.func98, rd59, .nil⟩,
 ⟨sg60, Tryz.f81, an60, 3000, rfl, Tryz.func81, rd60, .nil⟩,
 ⟨sg61, Tryz.f75, an61, 3000, rfl, Tryz.func75, rd61, .nil⟩,
 ⟨sg62, Tryz.f95, an62, 3000, rfl, Tryz.func95, rd62, .nil⟩,
 ⟨sg63, Tryz.f96, an63, 3000, rfl, Tryz.func96, rd63, .nil⟩,
 ⟨sg64, Tryz.f105, an64, 3000, rfl, Tryz.func105, rd64, .nil⟩,
 ⟨sg65, Tryz.f106, an65, 3000, rfl, Tryz.func106, rd65, .nil⟩,
 ⟨sg66, Tryz.f107, an66, 3000, rfl, Tryz.func107, rd66, .nil⟩,
 ⟨sg67, Tryz.f108, an67, 3000, rfl, Tryz.func108, rd67, .nil⟩,
 ⟨sg68, Tryz.f76, an68, 3000, rfl, Tryz.func76, rd68, .nil⟩,
 ⟨sg69, Tryz.f109, an69, 3000, rfl, Tryz.func109, rd69, .nil⟩,
 ⟨sg70, Tryz.f110, an70, 3000, rfl, Tryz.func110, rd70, .nil⟩,
 ext71_ok hG,
 ⟨sg72, Tryz.f112, an72, 3000, rfl, Tryz.func112, rd72, .nil⟩,
 ⟨sg73, Tryz.f88, an73, 3000, rfl, Tryz.func88, rd73, .nil⟩,
 ⟨sg74, Tryz.f89, an74, 3000, rfl, Tryz.func89, rd74, .nil⟩,
 ⟨sg75, Tryz.f90, an75, 3000, rfl, Tryz.func90, rd75, .nil⟩,
 ⟨sg76, Tryz.f113, an76, 3000, rfl, Tryz.func113, rd76, .nil⟩,
 ⟨sg77, Tryz.f87, an77, 3000, rfl, Tryz.func87, rd77, .nil⟩,
 ⟨sg78, Tryz.f114, an78, 3000, rfl, Tryz.func114, rd78, .nil⟩,
 ⟨sg79, Tryz.f71, an79, 3000, rfl, Tryz.func71, rd79, .nil⟩,
 ⟨sg80, Tryz.f115, an80, 3000, rfl, Tryz.func115, rd80, .nil⟩,
 ⟨sg81, Tryz.f116, an81, 3000, rfl, Tryz.func116, rd81, .nil⟩,
 ⟨sg82, Tryz.f136, an82, 3000, rfl, Tryz.func136, rd82, .nil⟩,
 ⟨sg83, Tryz.f119, an83, 3000, rfl, Tryz.func119, rd83, .nil⟩,
 ext84_ok hG,
 ⟨sg85, Tryz.f121, an85, 3000, rfl, Tryz.func121, rd85, .nil⟩,
 ⟨sg86, Tryz.f122, an86, 3000, rfl, Tryz.func122, rd86, .nil⟩,
 ⟨sg87, Tryz.f117, an87, 3000, rfl, Tryz.func117, rd87, .nil⟩,
 ⟨sg88, Tryz.f129, an88, 3000, rfl, Tryz.func129, rd88, .nil⟩,
 ⟨sg89, Tryz.f130, an89, 3000, rfl, Tryz.func130, rd89, .nil⟩,
 ⟨sg90, Tryz.f131, an90, 3000, rfl, Tryz.func131, rd90, .nil⟩,
 ⟨sg91, Tryz.f132, an91, 3000, rfl, Tryz.func132, rd91, .nil⟩,
 ⟨sg92, Tryz.f133, an92, 3000, rfl, Tryz.func133, rd92, .nil⟩,
 ⟨sg93, Tryz.f134, an93, 3000, rfl, Tryz.func134, rd93, .nil⟩,
 ⟨sg94, Tryz.f137, an94, 3000, rfl, Tryz.func137, rd94, .nil⟩,
 ext95_ok hG,
 ⟨sg96, Tryz.f125, an96, 3000, rfl, Tryz.func125, rd96, .nil⟩,
 ext97_ok hG,
 ext98_ok hG,
 ⟨sg99, Tryz.f128, an99, 3000, rfl, Tryz.func128, rd99, .nil⟩,
 ⟨sg100, Tryz.f147, an100, 3000, rfl, Tryz.func147, rd100, .nil⟩,
 ⟨sg101, Tryz.f149, an101, 3000, rfl, Tryz.func149, rd101, .nil⟩,
 ⟨sg102, Tryz.f135, an102, 3000, rfl, Tryz.func135, rd102, .nil⟩,
 ⟨sg103, Tryz.f150, an103, 3000, rfl, Tryz.func150, rd103, .nil⟩,
 ⟨sg104, Tryz.f151, an104, 3000, rfl, Tryz.func151, rd104, .nil⟩,
 ⟨sg105, Tryz.f152, an105, 3000, rfl, Tryz.func152, rd105, .nil⟩,
 ⟨sg106, Tryz.f169, an106, 3000, rfl, Tryz.func169, rd106, .nil⟩,
 ⟨sg107, Tryz.f153, an107, 3000, rfl, Tryz.func153, rd107, .nil⟩,
 ⟨sg108, Tryz.f154, an108, 3000, rfl, Tryz.func154, rd108, .nil⟩,
 ⟨sg109, Tryz.f155, an109, 3000, rfl, Tryz.func155, rd109, .nil⟩,
 ⟨sg110, Tryz.f155, an110, 3000, rfl, Tryz.func155, rd110, .nil⟩,
 ⟨sg111, Tryz.f161, an111, 3000, rfl, Tryz.func161, rd111, .nil⟩,
 ⟨sg112, Tryz.f162, an112, 3000, rfl, Tryz.func162, rd112, .nil⟩,
 ⟨sg113, Tryz.f168, an113, 3000, rfl, Tryz.func168, rd113, .nil⟩,
 ⟨sg114, Tryz.f170, an114, 3000, rfl, Tryz.func170, rd114, .nil⟩,
 ext115_ok hG,
 ext116_ok hG,
 ⟨sg117, Tryz.f166, an117, 3000, rfl, Tryz.func166, rd117, .nil⟩,
 ⟨sg118, Tryz.f167, an118, 3000, rfl, Tryz.func167, rd118, .nil⟩,
 ⟨sg119, Tryz.f171, an119, 3000, rfl, Tryz.func171, rd119, .nil⟩,
 ⟨sg120, Tryz.f172, an120, 3000, rfl, Tryz.func172, rd120, .nil⟩,
 ⟨sg121, Tryz.f173, an121, 3000, rfl, Tryz.func173, rd121, .nil⟩,
 ⟨sg122, Tryz.f156, an122, 3000, rfl, Tryz.func156, rd122, .nil⟩,
 ⟨sg123, Tryz.f157, an123, 3000, rfl, Tryz.func157, rd123, .nil⟩,
 ⟨sg124, Tryz.f145, an124, 3000, rfl, Tryz.func145, rd124, .nil⟩, trivial⟩
def tb : Nat → TE := tbOf tbl
theorem tb_ok (hG : GHyp G) : TabOK Tryz.prog G T SG sigs tb := tabOK_of (tbl_ok hG)
theorem gok : GOK G SG := ⟨(fun g cs h => by cases h), (fun g cs h => by cases h)⟩
end Go.Proofs.YtojkhlijbpmgpaaGreat

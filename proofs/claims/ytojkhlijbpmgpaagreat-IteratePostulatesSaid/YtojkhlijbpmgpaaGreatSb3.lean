/- What functions of the program compute: lemmas. -/
import Derived.Test.YtojkhlijbpmgpaaGreatSb1
import Derived.Test.YtojkhlijbpmgpaaGreatAtE
import Derived.Test.YtojkhlijbpmgpaaGreatSqE
set_option linter.unusedSimpArgs false
set_option linter.unusedVariables false
set_option linter.unusedSectionVars false
namespace Go.Proofs.YtojkhlijbpmgpaaGreat
open Go Am
set_option maxRecDepth 100000
variable {G : Glob}
def GHyp (G : Glob) : Prop := G = fun _ => none
abbrev ext62 : PF := atomsE
theorem ext62_ok (hG : GHyp G) : TEok Tryz.prog G T SG sigs 62 (.ext ext62) := ⟨fun _ _ _ _ h => atomsE_wf h, fun sg h => by cases h; exact atomsE_sig⟩
abbrev ext93 : PF := valuesE
theorem ext93_ok (hG : GHyp G) : TEok Tryz.prog G T SG sigs 93 (.ext ext93) := ⟨fun _ _ _ _ h => valuesE_wf h, fun sg h => by cases h; exact valuesE_sig⟩
abbrev ext95 : PF := compactE
theorem ext95_ok (hG : GHyp G) : TEok Tryz.prog G T SG sigs 95 (.ext ext95) := ⟨fun _ _ _ _ h => compactE_wf h, fun sg h => by cases h; exact compactE_sig⟩
abbrev ext96 : PF := cloneE
theorem ext96_ok (hG : GHyp G) : TEok Tryz.prog G T SG sigs 96 (.ext ext96) := ⟨fun _ _ _ _ h => cloneE_wf h, fun sg h => by cases h; exact cloneE_sig⟩
abbrev ext103 : PF := collectE
theorem ext103_ok (hG : GHyp G) : TEok Tryz.prog G T SG sigs 103 (.ext ext103) := ⟨fun _ _ _ _ h => collectE_wf h, fun sg h => by cases h; exact collectE_sig⟩
abbrev ext104 : PF := sortE
theorem ext104_ok (hG : GHyp G) : TEok Tryz.prog G T SG sigs 104 (.ext ext104) := ⟨fun _ _ _ _ h => sortE_wf h, fun sg h => by cases h; exact sortE_sig⟩
def tbl : List TE := [.ir ir0, .ir ir1, .ir ir2, .ir ir3, .ir ir4, .ir ir5, .ir ir6, .ir ir7, .ir ir8, .ir ir9, .ir ir10, .ir ir11, .ir ir12, .ir ir13, .ir ir14, .ir ir15, .ir ir16, .ir ir17, .ir ir18, .ir ir19, .ir ir20, .ir ir21, .ir ir22, .ir ir23, .ir ir24, .ir ir25, .ir ir26, .ir ir27, .ir ir28, .ir ir29, .ir ir30, .ir ir31, .ir ir32, .ir ir33, .ir ir34, .ir ir35, .ir ir36, .ir ir37, .ir ir38, .ir ir39, .ir ir40, .ir ir41, .ir ir42, .ir ir43, .ir ir44, .ir ir45, .ir ir46, .ir ir47, .ir ir48, .ir ir49, .ir ir50, .ir ir51, .ir ir52, .ir ir53, .ir ir54, .ir ir55, .ir ir56, .ir ir57, .ir ir58, .ir ir59, .ir ir60, .ir ir61, .ext ext62, .ir ir63, .ir ir64, .ir ir65, .ir ir66, .ir ir67, .ir ir68, .ir ir69, .ir ir70, .ir ir71, .ir ir72, .ir ir73, .ir ir74, .ir ir75, .ir ir76, .ir ir77, .ir ir78, .ir ir79, .ir ir80, .ir ir81, .ir ir82, .ir ir83, .ir ir84, .ir ir85, .ir ir86, .ir ir87, .ir ir88, .ir ir89, .ir ir90, .ir ir91, .ir ir92, .ext ext93, .ir ir94, .ext ext95, .ext ext96, .ir ir97, .ir ir98, .ir ir99, .ir ir100, .ir ir101, .ir ir102, .ext ext103, .ext ext104, .ir ir105, .ir ir106, .ir ir107]
theorem tbl_ok (hG : GHyp G) : TLok Tryz.prog G T SG sigs 0 tbl := ⟨⟨sg0, Tryz.f10, an0, 3000, rfl, Tryz.func10, rd0⟩,
 ⟨sg1, Tryz.f11, an1, 3000, rfl, Tryz.func11, rd1⟩,
 ⟨sg2, Tryz.f31, an2, 3000, rfl, Tryz.func31, rd2⟩,
 ⟨sg3, Tryz.f32, an3, 3000, rfl, Tryz.func32, rd3⟩,
 ⟨sg4, Tryz.f20, an4, 3000, rfl, Tryz.func20, rd4⟩,
 ⟨sg5, Tryz.f15, an5, 3000, rfl, Tryz.func15, rd5⟩,
 ⟨sg6, Tryz.f16, an6, 3000, rfl, Tryz.func16, rd6⟩,
 ⟨sg7, Tryz.f17, an7, 3000, rfl, Tryz.func17, rd7⟩,
 ⟨sg8, Tryz.f35, an8, 3000, rfl, Tryz.func35, rd8⟩,
 ⟨sg9, Tryz.f25, an9, 3000, rfl, Tryz.func25, rd9⟩,
 ⟨sg10, Tryz.f49, an10, 3000, rfl, Tryz.func49, rd10⟩,
 ⟨sg11, Tryz.f50, an11, 3000, rfl, Tryz.func50, rd11⟩,
 ⟨sg12, Tryz.f51, an12, 3000, rfl, Tryz.func51, rd12⟩,
 ⟨sg13, Tryz.f29, an13, 3000, rfl, Tryz.func29, rd13⟩,
 ⟨sg14, Tryz.f21, an14, 3000, rfl, Tryz.func21, rd14⟩,
 ⟨sg15, Tryz.f88, an15, 3000, rfl, Tryz.func88, rd15⟩,
 ⟨sg16, Tryz.f89, an16, 3000, rfl, Tryz.func89, rd16⟩,
 ⟨sg17, Tryz.f90, an17, 3000, rfl, Tryz.func90, rd17⟩,
 ⟨sg18, Tryz.f47, an18, 3000, rfl, Tryz.func47, rd18⟩,
 ⟨sg19, Tryz.f22, an19, 3000, rfl, Tryz.func22, rd19⟩,
 ⟨sg20, Tryz.f67, an20, 3000, rfl, Tryz.func67, rd20⟩,
 ⟨sg21, Tryz.f68, an21, 3000, rfl, Tryz.func68, rd21⟩,
 ⟨sg22, Tryz.f77, an22, 3000, rfl, Tryz.func77, rd22⟩,
 ⟨sg23, Tryz.f78, an23, 3000, rfl, Tryz.func78, rd23⟩,
 ⟨sg24, Tryz.f79, an24, 3000, rfl, Tryz.func79, rd24⟩,
 ⟨sg25, Tryz.f91, an25, 3000, rfl, Tryz.func91, rd25⟩,
 ⟨sg26, Tryz.f99, an26, 3000, rfl, Tryz.func99, rd26⟩,
 ⟨sg27, Tryz.f73, an27, 3000, rfl, Tryz.func73, rd27⟩,
 ⟨sg28, Tryz.f96, an28, 3000, rfl, Tryz.func96, rd28⟩,
 ⟨sg29, Tryz.f100, an29, 3000, rfl, Tryz.func100, rd29⟩,
 ⟨sg30, Tryz.f101, an30, 3000, rfl, Tryz.func101, rd30⟩,
 ⟨sg31, Tryz.f102, an31, 3000, rfl, Tryz.func102, rd31⟩,
 ⟨sg32, Tryz.f138, an32, 3000, rfl, Tryz.func138, rd32⟩,
 ⟨sg33, Tryz.f139, an33, 3000, rfl, Tryz.func139, rd33⟩,
 ⟨sg34, Tryz.f140, an34, 3000, rfl, Tryz.func140, rd34⟩,
 ⟨sg35, Tryz.f141, an35, 3000, rfl, Tryz.func141, rd35⟩,
 ⟨sg36, Tryz.f142, an36, 3000, rfl, Tryz.func142, rd36⟩,
 ⟨sg37, Tryz.f143, an37, 3000, rfl, Tryz.func143, rd37⟩,
 ⟨sg38, Tryz.f144, an38, 3000, rfl, Tryz.func144, rd38⟩,
 ⟨sg39, Tryz.f103, an39, 3000, rfl, Tryz.func103, rd39⟩,
 ⟨sg40, Tryz.f76, an40, 3000, rfl, Tryz.func76, rd40⟩,
 ⟨sg41, Tryz.f75, an41, 3000, rfl, Tryz.func75, rd41⟩,
 ⟨sg42, Tryz.f23, an42, 3000, rfl, Tryz.func23, rd42⟩,
 ⟨sg43, Tryz.f104, an43, 3000, rfl, Tryz.func104, rd43⟩,
 ⟨sg44, Tryz.f69, an44, 3000, rfl, Tryz.func69, rd44⟩,
 ⟨sg45, Tryz.f82, an45, 3000, rfl, Tryz.func82, rd45⟩,
 ⟨sg46, Tryz.f83, an46, 3000, rfl, Tryz.func83, rd46⟩,
 ⟨sg47, Tryz.f84, an47, 3000, rfl, Tryz.func84, rd47⟩,
 ⟨sg48, Tryz.f70, an48, 3000, rfl, Tryz.func70, rd48⟩,
 ⟨sg49, Tryz.f86, an49, 3000, rfl, Tryz.func86, rd49⟩,
 ⟨sg50, Tryz.f85, an50, 3000, rfl, Tryz.func85, rd50⟩,
 ⟨sg51, Tryz.f72, an51, 3000, rfl, Tryz.func72, rd51⟩,
 ⟨sg52, Tryz.f74, an52, 3000, rfl, Tryz.func74, rd52⟩,
 ⟨sg53, Tryz.f18, an53, 3000, rfl, Tryz.func18, rd53⟩,
 ⟨sg54, Tryz.f66, an54, 3000, rfl, Tryz.func66, rd54⟩,
 ⟨sg55, Tryz.f71, an55, 3000, rfl, Tryz.func71, rd55⟩,
 ⟨sg56, Tryz.f115, an56, 3000, rfl, Tryz.func115, rd56⟩,
 ⟨sg57, Tryz.f116, an57, 3000, rfl, Tryz.func116, rd57⟩,
 ⟨sg58, Tryz.f108, an58, 3000, rfl, Tryz.func108, rd58⟩,
 ⟨sg59, Tryz.f105, an59, 3000, rfl, Tryz.func105, rd59⟩,
 ⟨sg60, Tryz.f136, an60, 3000, rfl, Tryz.func136, rd60⟩,
 ⟨sg61, Tryz.f119, an61, 3000, rfl, Tryz.func119, rd61⟩,
 ext62_ok hG,
 ⟨sg63, Tryz.f121, an63, 3000, rfl, Tryz.func121, rd63⟩,
 ⟨sg64, Tryz.f122, an64, 3000, rfl, Tryz.func122, rd64⟩,
 ⟨sg65, Tryz.f87, an65, 3000, rfl, Tryz.func87, rd65⟩,
 ⟨sg66, Tryz.f109, an66, 3000, rfl, Tryz.func109, rd66⟩,
 ⟨sg67, Tryz.f145, an67, 3000, rfl, Tryz.func145, rd67⟩,
 ⟨sg68, Tryz.f41, an68, 3000, rfl, Tryz.func41, rd68⟩,
 ⟨sg69, Tryz.f112, an69, 3000, rfl, Tryz.func112, rd69⟩,
 ⟨sg70, Tryz.f146, an70, 3000, rfl, Tryz.func146, rd70⟩,
 ⟨sg71, Tryz.f117, an71, 3000, rfl, Tryz.func117, rd71⟩,
 ⟨sg72, Tryz.f129, an72, 3000, rfl, Tryz.func129, rd72⟩,
 ⟨sg73, Tryz.f130, an73, 3000, rfl, Tryz.func130, rd73⟩,
 ⟨sg74, Tryz.f131, an74, 3000, rfl, Tryz.func131, rd74⟩,
 ⟨sg75, Tryz.f132, an75, 3000, rfl, Tryz.func132, rd75⟩,
 ⟨sg76, Tryz.f133, an76, 3000, rfl, Tryz.func133, rd76⟩,
 ⟨sg77, Tryz.f134, an77, 3000, rfl, Tryz.func134, rd77⟩,
 ⟨sg78, Tryz.f118, an78, 3000, rfl, Tryz.func118, rd78⟩,
 ⟨sg79, Tryz.f123, an79, 3000, rfl, Tryz.func123, rd79⟩,
 ⟨sg80, Tryz.f81, an80, 3000, rfl, Tryz.func81, rd80⟩,
 ⟨sg81, Tryz.f114, an81, 3000, rfl, Tryz.func114, rd81⟩,
 ⟨sg82, Tryz.f147, an82, 3000, rfl, Tryz.func147, rd82⟩,
 ⟨sg83, Tryz.f169, an83, 3000, rfl, Tryz.func169, rd83⟩,
 ⟨sg84, Tryz.f153, an84, 3000, rfl, Tryz.func153, rd84⟩,
 ⟨sg85, Tryz.f154, an85, 3000, rfl, Tryz.func154, rd85⟩,
 ⟨sg86, Tryz.f155, an86, 3000, rfl, Tryz.func155, rd86⟩,
 ⟨sg87, Tryz.f155, an87, 3000, rfl, Tryz.func155, rd87⟩,
 ⟨sg88, Tryz.f161, an88, 3000, rfl, Tryz.func161, rd88⟩,
 ⟨sg89, Tryz.f162, an89, 3000, rfl, Tryz.func162, rd89⟩,
 ⟨sg90, Tryz.f135, an90, 3000, rfl, Tryz.func135, rd90⟩,
 ⟨sg91, Tryz.f92, an91, 3000, rfl, Tryz.func92, rd91⟩,
 ⟨sg92, Tryz.f168, an92, 3000, rfl, Tryz.func168, rd92⟩,
 ext93_ok hG,
 ⟨sg94, Tryz.f125, an94, 3000, rfl, Tryz.func125, rd94⟩,
 ext95_ok hG,
 ext96_ok hG,
 ⟨sg97, Tryz.f128, an97, 3000, rfl, Tryz.func128, rd97⟩,
 ⟨sg98, Tryz.f150, an98, 3000, rfl, Tryz.func150, rd98⟩,
 ⟨sg99, Tryz.f151, an99, 3000, rfl, Tryz.func151, rd99⟩,
 ⟨sg100, Tryz.f152, an100, 3000, rfl, Tryz.func152, rd100⟩,
 ⟨sg101, Tryz.f156, an101, 3000, rfl, Tryz.func156, rd101⟩,
 ⟨sg102, Tryz.f157, an102, 3000, rfl, Tryz.func157, rd102⟩,
 ext103_ok hG,
 ext104_ok hG,
 ⟨sg105, Tryz.f166, an105, 3000, rfl, Tryz.func166, rd105⟩,
 ⟨sg106, Tryz.f167, an106, 3000, rfl, Tryz.func167, rd106⟩,
 ⟨sg107, Tryz.f173, an107, 3000, rfl, Tryz.func173, rd107⟩, trivial⟩
def tb : Nat → TE := tbOf tbl
theorem tb_ok (hG : GHyp G) : TabOK Tryz.prog G T SG sigs tb := tabOK_of (tbl_ok hG)
theorem gok : GOK G SG := ⟨(fun g cs h => by cases h), (fun g cs h => by cases h)⟩
end Go.Proofs.YtojkhlijbpmgpaaGreat

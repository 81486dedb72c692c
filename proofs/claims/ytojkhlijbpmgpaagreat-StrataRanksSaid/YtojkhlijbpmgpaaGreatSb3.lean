/- What functions of the program compute: lemmas. -/
import Derived.Test.YtojkhlijbpmgpaaGreatSb1
import Derived.Test.YtojkhlijbpmgpaaGreatAtE
import Derived.Test.YtojkhlijbpmgpaaGreatSqE
import Derived.Test.YtojkhlijbpmgpaaGreatRv
set_option linter.unusedSimpArgs false
set_option linter.unusedVariables false
set_option linter.unusedSectionVars false
namespace Go.Proofs.YtojkhlijbpmgpaaGreat
open Go Am
set_option maxRecDepth 100000
variable {G : Glob}
def GHyp (G : Glob) : Prop := G = fun _ => none
abbrev ext37 : PF := revFE
theorem ext37_ok (hG : GHyp G) : TEok Tryz.prog G T SG sigs 37 (.ext ext37) := ⟨fun _ _ _ _ h => revFE_wf' (by assumption) h,fun sg h => by cases h; exact revFE_sig⟩
abbrev ext56 : PF := atomsE
theorem ext56_ok (hG : GHyp G) : TEok Tryz.prog G T SG sigs 56 (.ext ext56) := ⟨fun _ _ _ _ h => atomsE_wf h,fun sg h => by cases h; exact atomsE_sig⟩
abbrev ext60 : PF := valuesE
theorem ext60_ok (hG : GHyp G) : TEok Tryz.prog G T SG sigs 60 (.ext ext60) := ⟨fun _ _ _ _ h => valuesE_wf h,fun sg h => by cases h; exact valuesE_sig⟩
abbrev ext62 : PF := compactE
theorem ext62_ok (hG : GHyp G) : TEok Tryz.prog G T SG sigs 62 (.ext ext62) := ⟨fun _ _ _ _ h => compactE_wf h,fun sg h => by cases h; exact compactE_sig⟩
abbrev ext63 : PF := cloneE
theorem ext63_ok (hG : GHyp G) : TEok Tryz.prog G T SG sigs 63 (.ext ext63) := ⟨fun _ _ _ _ h => cloneE_wf h,fun sg h => by cases h; exact cloneE_sig⟩
abbrev ext83 : PF := collectE
theorem ext83_ok (hG : GHyp G) : TEok Tryz.prog G T SG sigs 83 (.ext ext83) := ⟨fun _ _ _ _ h => collectE_wf h,fun sg h => by cases h; exact collectE_sig⟩
abbrev ext84 : PF := sortE
theorem ext84_ok (hG : GHyp G) : TEok Tryz.prog G T SG sigs 84 (.ext ext84) := ⟨fun _ _ _ _ h => sortE_wf h,fun sg h => by cases h; exact sortE_sig⟩
def tbl : List TE := [.ir ir0,.ir ir1,.ir ir2,.ir ir3,.ir ir4,.ir ir5,.ir ir6,.ir ir7,.ir ir8,.ir ir9,.ir ir10,.ir ir11,.ir ir12,.ir ir13,.ir ir14,.ir ir15,.ir ir16,.ir ir17,.ir ir18,.ir ir19,.ir ir20,.ir ir21,.ir ir22,.ir ir23,.ir ir24,.ir ir25,.ir ir26,.ir ir27,.ir ir28,.ir ir29,.ir ir30,.ir ir31,.ir ir32,.ir ir33,.ir ir34,.ir ir35,.ir ir36,.ext ext37,.ir ir38,.ir ir39,.ir ir40,.ir ir41,.ir ir42,.ir ir43,.ir ir44,.ir ir45,.ir ir46,.ir ir47,.ir ir48,.ir ir49,.ir ir50,.ir ir51,.ir ir52,.ir ir53,.ir ir54,.ir ir55,.ext ext56,.ir ir57,.ir ir58,.ir ir59,.ext ext60,.ir ir61,.ext ext62,.ext ext63,.ir ir64,.ir ir65,.ir ir66,.ir ir67,.ir ir68,.ir ir69,.ir ir70,.ir ir71,.ir ir72,.ir ir73,.ir ir74,.ir ir75,.ir ir76,.ir ir77,.ir ir78,.ir ir79,.ir ir80,.ir ir81,.ir ir82,.ext ext83,.ext ext84,.ir ir85,.ir ir86,.ir ir87,.ir ir88,.ir ir89,.ir ir90,.ir ir91,.ir ir92,.ir ir93,.ir ir94,.ir ir95,.ir ir96,.ir ir97,.ir ir98,.ir ir99,.ir ir100,.ir ir101,.ir ir102,.ir ir103,.ir ir104,.ir ir105]
theorem tbl_ok (hG : GHyp G) : TLok Tryz.prog G T SG sigs 0 tbl := ⟨⟨sg0,Tryz.f12,an0,3000,rfl,Tryz.func12,rd0,.nil⟩,
 ⟨sg1,Tryz.f52,an1,3000,rfl,Tryz.func52,rd1,.nil⟩,
 ⟨sg2,Tryz.f42,an2,3000,rfl,Tryz.func42,rd2,.nil⟩,
 ⟨sg3,Tryz.f15,an3,3000,rfl,Tryz.func15,rd3,.nil⟩,
 ⟨sg4,Tryz.f16,an4,3000,rfl,Tryz.func16,rd4,.nil⟩,
 ⟨sg5,Tryz.f17,an5,3000,rfl,Tryz.func17,rd5,.nil⟩,
 ⟨sg6,Tryz.f53,an6,3000,rfl,Tryz.func53,rd6,.nil⟩,
 ⟨sg7,Tryz.f47,an7,3000,rfl,Tryz.func47,rd7,.nil⟩,
 ⟨sg8,Tryz.f54,an8,3000,rfl,Tryz.func54,rd8,bk_ok rfl⟩,
 ⟨sg9,Tryz.f55,an9,3000,rfl,Tryz.func55,rd9,.nil⟩,
 ⟨sg10,Tryz.f24,an10,3000,rfl,Tryz.func24,rd10,.nil⟩,
 ⟨sg11,Tryz.f56,an11,3000,rfl,Tryz.func56,rd11,.nil⟩,
 ⟨sg12,Tryz.f57,an12,3000,rfl,Tryz.func57,rd12,.nil⟩,
 ⟨sg13,Tryz.f58,an13,3000,rfl,Tryz.func58,rd13,.nil⟩,
 ⟨sg14,Tryz.f35,an14,3000,rfl,Tryz.func35,rd14,.nil⟩,
 ⟨sg15,Tryz.f36,an15,3000,rfl,Tryz.func36,rd15,.nil⟩,
 ⟨sg16,Tryz.f59,an16,3000,rfl,Tryz.func59,rd16,.nil⟩,
 ⟨sg17,Tryz.f32,an17,3000,rfl,Tryz.func32,rd17,.nil⟩,
 ⟨sg18,Tryz.f94,an18,3000,rfl,Tryz.func94,rd18,.nil⟩,
 ⟨sg19,Tryz.f43,an19,3000,rfl,Tryz.func43,rd19,.nil⟩,
 ⟨sg20,Tryz.f37,an20,3000,rfl,Tryz.func37,rd20,.nil⟩,
 ⟨sg21,Tryz.f60,an21,3000,rfl,Tryz.func60,rd21,.nil⟩,
 ⟨sg22,Tryz.f51,an22,3000,rfl,Tryz.func51,rd22,.nil⟩,
 ⟨sg23,Tryz.f67,an23,3000,rfl,Tryz.func67,rd23,.nil⟩,
 ⟨sg24,Tryz.f68,an24,3000,rfl,Tryz.func68,rd24,.nil⟩,
 ⟨sg25,Tryz.f105,an25,3000,rfl,Tryz.func105,rd25,.nil⟩,
 ⟨sg26,Tryz.f106,an26,3000,rfl,Tryz.func106,rd26,.nil⟩,
 ⟨sg27,Tryz.f73,an27,3000,rfl,Tryz.func73,rd27,.nil⟩,
 ⟨sg28,Tryz.f95,an28,3000,rfl,Tryz.func95,rd28,.nil⟩,
 ⟨sg29,Tryz.f93,an29,3000,rfl,Tryz.func93,rd29,.nil⟩,
 ⟨sg30,Tryz.f81,an30,3000,rfl,Tryz.func81,rd30,.nil⟩,
 ⟨sg31,Tryz.f107,an31,3000,rfl,Tryz.func107,rd31,.nil⟩,
 ⟨sg32,Tryz.f108,an32,3000,rfl,Tryz.func108,rd32,.nil⟩,
 ⟨sg33,Tryz.f76,an33,3000,rfl,Tryz.func76,rd33,.nil⟩,
 ⟨sg34,Tryz.f91,an34,3000,rfl,Tryz.func91,rd34,.nil⟩,
 ⟨sg35,Tryz.f109,an35,3000,rfl,Tryz.func109,rd35,.nil⟩,
 ⟨sg36,Tryz.f110,an36,3000,rfl,Tryz.func110,rd36,.nil⟩,
 ext37_ok hG,
 ⟨sg38,Tryz.f77,an38,3000,rfl,Tryz.func77,rd38,.nil⟩,
 ⟨sg39,Tryz.f41,an39,3000,rfl,Tryz.func41,rd39,.nil⟩,
 ⟨sg40,Tryz.f112,an40,3000,rfl,Tryz.func112,rd40,.nil⟩,
 ⟨sg41,Tryz.f66,an41,3000,rfl,Tryz.func66,rd41,.nil⟩,
 ⟨sg42,Tryz.f65,an42,3000,rfl,Tryz.func65,rd42,.nil⟩,
 ⟨sg43,Tryz.f92,an43,3000,rfl,Tryz.func92,rd43,.nil⟩,
 ⟨sg44,Tryz.f29,an44,3000,rfl,Tryz.func29,rd44,.nil⟩,
 ⟨sg45,Tryz.f88,an45,3000,rfl,Tryz.func88,rd45,.nil⟩,
 ⟨sg46,Tryz.f89,an46,3000,rfl,Tryz.func89,rd46,.nil⟩,
 ⟨sg47,Tryz.f90,an47,3000,rfl,Tryz.func90,rd47,.nil⟩,
 ⟨sg48,Tryz.f97,an48,3000,rfl,Tryz.func97,rd48,.nil⟩,
 ⟨sg49,Tryz.f98,an49,3000,rfl,Tryz.func98,rd49,.nil⟩,
 ⟨sg50,Tryz.f71,an50,3000,rfl,Tryz.func71,rd50,.nil⟩,
 ⟨sg51,Tryz.f115,an51,3000,rfl,Tryz.func115,rd51,.nil⟩,
 ⟨sg52,Tryz.f69,an52,3000,rfl,Tryz.func69,rd52,.nil⟩,
 ⟨sg53,Tryz.f116,an53,3000,rfl,Tryz.func116,rd53,.nil⟩,
 ⟨sg54,Tryz.f147,an54,3000,rfl,Tryz.func147,rd54,.nil⟩,
 ⟨sg55,Tryz.f119,an55,3000,rfl,Tryz.func119,rd55,.nil⟩,
 ext56_ok hG,
 ⟨sg57,Tryz.f121,an57,3000,rfl,Tryz.func121,rd57,.nil⟩,
 ⟨sg58,Tryz.f122,an58,3000,rfl,Tryz.func122,rd58,.nil⟩,
 ⟨sg59,Tryz.f87,an59,3000,rfl,Tryz.func87,rd59,.nil⟩,
 ext60_ok hG,
 ⟨sg61,Tryz.f125,an61,3000,rfl,Tryz.func125,rd61,.nil⟩,
 ext62_ok hG,
 ext63_ok hG,
 ⟨sg64,Tryz.f128,an64,3000,rfl,Tryz.func128,rd64,.nil⟩,
 ⟨sg65,Tryz.f136,an65,3000,rfl,Tryz.func136,rd65,.nil⟩,
 ⟨sg66,Tryz.f149,an66,3000,rfl,Tryz.func149,rd66,.nil⟩,
 ⟨sg67,Tryz.f114,an67,3000,rfl,Tryz.func114,rd67,.nil⟩,
 ⟨sg68,Tryz.f82,an68,3000,rfl,Tryz.func82,rd68,.nil⟩,
 ⟨sg69,Tryz.f83,an69,3000,rfl,Tryz.func83,rd69,.nil⟩,
 ⟨sg70,Tryz.f84,an70,3000,rfl,Tryz.func84,rd70,.nil⟩,
 ⟨sg71,Tryz.f70,an71,3000,rfl,Tryz.func70,rd71,.nil⟩,
 ⟨sg72,Tryz.f86,an72,3000,rfl,Tryz.func86,rd72,.nil⟩,
 ⟨sg73,Tryz.f85,an73,3000,rfl,Tryz.func85,rd73,.nil⟩,
 ⟨sg74,Tryz.f137,an74,3000,rfl,Tryz.func137,rd74,.nil⟩,
 ⟨sg75,Tryz.f117,an75,3000,rfl,Tryz.func117,rd75,.nil⟩,
 ⟨sg76,Tryz.f153,an76,3000,rfl,Tryz.func153,rd76,.nil⟩,
 ⟨sg77,Tryz.f154,an77,3000,rfl,Tryz.func154,rd77,.nil⟩,
 ⟨sg78,Tryz.f155,an78,3000,rfl,Tryz.func155,rd78,.nil⟩,
 ⟨sg79,Tryz.f155,an79,3000,rfl,Tryz.func155,rd79,.nil⟩,
 ⟨sg80,Tryz.f161,an80,3000,rfl,Tryz.func161,rd80,.nil⟩,
 ⟨sg81,Tryz.f162,an81,3000,rfl,Tryz.func162,rd81,.nil⟩,
 ⟨sg82,Tryz.f135,an82,3000,rfl,Tryz.func135,rd82,.nil⟩,
 ext83_ok hG,
 ext84_ok hG,
 ⟨sg85,Tryz.f166,an85,3000,rfl,Tryz.func166,rd85,.nil⟩,
 ⟨sg86,Tryz.f167,an86,3000,rfl,Tryz.func167,rd86,.nil⟩,
 ⟨sg87,Tryz.f169,an87,3000,rfl,Tryz.func169,rd87,.nil⟩,
 ⟨sg88,Tryz.f171,an88,3000,rfl,Tryz.func171,rd88,.nil⟩,
 ⟨sg89,Tryz.f172,an89,3000,rfl,Tryz.func172,rd89,.nil⟩,
 ⟨sg90,Tryz.f18,an90,3000,rfl,Tryz.func18,rd90,.nil⟩,
 ⟨sg91,Tryz.f150,an91,3000,rfl,Tryz.func150,rd91,.nil⟩,
 ⟨sg92,Tryz.f151,an92,3000,rfl,Tryz.func151,rd92,.nil⟩,
 ⟨sg93,Tryz.f152,an93,3000,rfl,Tryz.func152,rd93,.nil⟩,
 ⟨sg94,Tryz.f129,an94,3000,rfl,Tryz.func129,rd94,.nil⟩,
 ⟨sg95,Tryz.f130,an95,3000,rfl,Tryz.func130,rd95,.nil⟩,
 ⟨sg96,Tryz.f131,an96,3000,rfl,Tryz.func131,rd96,.nil⟩,
 ⟨sg97,Tryz.f132,an97,3000,rfl,Tryz.func132,rd97,.nil⟩,
 ⟨sg98,Tryz.f133,an98,3000,rfl,Tryz.func133,rd98,.nil⟩,
 ⟨sg99,Tryz.f134,an99,3000,rfl,Tryz.func134,rd99,.nil⟩,
 ⟨sg100,Tryz.f170,an100,3000,rfl,Tryz.func170,rd100,.nil⟩,
 ⟨sg101,Tryz.f156,an101,3000,rfl,Tryz.func156,rd101,.nil⟩,
 ⟨sg102,Tryz.f157,an102,3000,rfl,Tryz.func157,rd102,.nil⟩,
 ⟨sg103,Tryz.f145,an103,3000,rfl,Tryz.func145,rd103,.nil⟩,
 ⟨sg104,Tryz.f173,an104,3000,rfl,Tryz.func173,rd104,.nil⟩,
 ⟨sg105,Tryz.f168,an105,3000,rfl,Tryz.func168,rd105,.nil⟩,trivial⟩
def tb : Nat → TE := tbOf tbl
theorem tb_ok (hG : GHyp G) : TabOK Tryz.prog G T SG sigs tb := tabOK_of (tbl_ok hG)
theorem gok : GOK G SG := ⟨(fun g cs h => by cases h),(fun g cs h => by cases h)⟩
end Go.Proofs.YtojkhlijbpmgpaaGreat

/- What functions of the program compute: lemmas. -/
import Derived.Test.YtojkhlijbpmgpaaGreatSb1
import Derived.Test.YtojkhlijbpmgpaaGreatAtE
import Derived.Test.YtojkhlijbpmgpaaGreatSqE
import Derived.Test.YtojkhlijbpmgpaaGreatRv
set_option linter.unusedSimpArgs false
set_option linter.unusedVariables false
set_option linter.unusedSectionVars false
namespace Go.Proofs.YtojkhlijbpmgpaaGreat
open Go Am
set_option maxRecDepth 100000
variable {G : Glob}
def GHyp (G : Glob) : Prop := G = fun _ => none
abbrev ext57 : PF := valuesE
theorem ext57_ok (hG : GHyp G) : TEok Tryz.prog G T SG sigs 57 (.ext ext57) := ⟨fun _ _ _ _ h => valuesE_wf h,fun sg h => by cases h; exact valuesE_sig⟩
abbrev ext59 : PF := compactE
theorem ext59_ok (hG : GHyp G) : TEok Tryz.prog G T SG sigs 59 (.ext ext59) := ⟨fun _ _ _ _ h => compactE_wf h,fun sg h => by cases h; exact compactE_sig⟩
abbrev ext60 : PF := cloneE
theorem ext60_ok (hG : GHyp G) : TEok Tryz.prog G T SG sigs 60 (.ext ext60) := ⟨fun _ _ _ _ h => cloneE_wf h,fun sg h => by cases h; exact cloneE_sig⟩
abbrev ext68 : PF := atomsE
theorem ext68_ok (hG : GHyp G) : TEok Tryz.prog G T SG sigs 68 (.ext ext68) := ⟨fun _ _ _ _ h => atomsE_wf h,fun sg h => by cases h; exact atomsE_sig⟩
abbrev ext80 : PF := collectE
theorem ext80_ok (hG : GHyp G) : TEok Tryz.prog G T SG sigs 80 (.ext ext80) := ⟨fun _ _ _ _ h => collectE_wf h,fun sg h => by cases h; exact collectE_sig⟩
abbrev ext81 : PF := sortE
theorem ext81_ok (hG : GHyp G) : TEok Tryz.prog G T SG sigs 81 (.ext ext81) := ⟨fun _ _ _ _ h => sortE_wf h,fun sg h => by cases h; exact sortE_sig⟩
def tbl : List TE := [.ir ir0,.ir ir1,.ir ir2,.ir ir3,.ir ir4,.ir ir5,.ir ir6,.ir ir7,.ir ir8,.ir ir9,.ir ir10,.ir ir11,.ir ir12,.ir ir13,.ir ir14,.ir ir15,.ir ir16,.ir ir17,.ir ir18,.ir ir19,.ir ir20,.ir ir21,.ir ir22,.ir ir23,.ir ir24,.ir ir25,.ir ir26,.ir ir27,.ir ir28,.ir ir29,.ir ir30,.ir ir31,.ir ir32,.ir ir33,.ir ir34,.ir ir35,.ir ir36,.ir ir37,.ir ir38,.ir ir39,.ir ir40,.ir ir41,.ir ir42,.ir ir43,.ir ir44,.ir ir45,.ir ir46,.ir ir47,.ir ir48,.ir ir49,.ir ir50,.ir ir51,.ir ir52,.ir ir53,.ir ir54,.ir ir55,.ir ir56,.ext ext57,.ir ir58,.ext ext59,.ext ext60,.ir ir61,.ir ir62,.ir ir63,.ir ir64,.ir ir65,.ir ir66,.ir ir67,.ext ext68,.ir ir69,.ir ir70,.ir ir71,.ir ir72,.ir ir73,.ir ir74,.ir ir75,.ir ir76,.ir ir77,.ir ir78,.ir ir79,.ext ext80,.ext ext81,.ir ir82,.ir ir83,.ir ir84,.ir ir85,.ir ir86,.ir ir87,.ir ir88,.ir ir89,.ir ir90,.ir ir91,.ir ir92,.ir ir93,.ir ir94,.ir ir95,.ir ir96,.ir ir97,.ir ir98,.ir ir99,.ir ir100,.ir ir101,.ir ir102,.ir ir103,.ir ir104,.ir ir105,.ir ir106,.ir ir107]
theorem tbl_ok (hG : GHyp G) : TLok Tryz.prog G T SG sigs 0 tbl := ⟨⟨sg0,Tryz.f13,an0,3000,rfl,Tryz.func13,rd0,.nil⟩,
 ⟨sg1,Tryz.f42,an1,3000,rfl,Tryz.func42,rd1,.nil⟩,
 ⟨sg2,Tryz.f32,an2,3000,rfl,Tryz.func32,rd2,.nil⟩,
 ⟨sg3,Tryz.f15,an3,3000,rfl,Tryz.func15,rd3,.nil⟩,
 ⟨sg4,Tryz.f16,an4,3000,rfl,Tryz.func16,rd4,.nil⟩,
 ⟨sg5,Tryz.f17,an5,3000,rfl,Tryz.func17,rd5,.nil⟩,
 ⟨sg6,Tryz.f45,an6,3000,rfl,Tryz.func45,rd6,.nil⟩,
 ⟨sg7,Tryz.f47,an7,3000,rfl,Tryz.func47,rd7,.nil⟩,
 ⟨sg8,Tryz.f60,an8,3000,rfl,Tryz.func60,rd8,.nil⟩,
 ⟨sg9,Tryz.f61,an9,3000,rfl,Tryz.func61,rd9,.nil⟩,
 ⟨sg10,Tryz.f46,an10,3000,rfl,Tryz.func46,rd10,.nil⟩,
 ⟨sg11,Tryz.f62,an11,3000,rfl,Tryz.func62,rd11,.nil⟩,
 ⟨sg12,Tryz.f51,an12,3000,rfl,Tryz.func51,rd12,.nil⟩,
 ⟨sg13,Tryz.f24,an13,3000,rfl,Tryz.func24,rd13,.nil⟩,
 ⟨sg14,Tryz.f63,an14,3000,rfl,Tryz.func63,rd14,.nil⟩,
 ⟨sg15,Tryz.f64,an15,3000,rfl,Tryz.func64,rd15,.nil⟩,
 ⟨sg16,Tryz.f65,an16,3000,rfl,Tryz.func65,rd16,.nil⟩,
 ⟨sg17,Tryz.f44,an17,3000,rfl,Tryz.func44,rd17,.nil⟩,
 ⟨sg18,Tryz.f48,an18,3000,rfl,Tryz.func48,rd18,.nil⟩,
 ⟨sg19,Tryz.f94,an19,3000,rfl,Tryz.func94,rd19,.nil⟩,
 ⟨sg20,Tryz.f54,an20,3000,rfl,Tryz.func54,rd20,bk_ok rfl⟩,
 ⟨sg21,Tryz.f43,an21,3000,rfl,Tryz.func43,rd21,.nil⟩,
 ⟨sg22,Tryz.f37,an22,3000,rfl,Tryz.func37,rd22,.nil⟩,
 ⟨sg23,Tryz.f88,an23,3000,rfl,Tryz.func88,rd23,.nil⟩,
 ⟨sg24,Tryz.f89,an24,3000,rfl,Tryz.func89,rd24,.nil⟩,
 ⟨sg25,Tryz.f90,an25,3000,rfl,Tryz.func90,rd25,.nil⟩,
 ⟨sg26,Tryz.f67,an26,3000,rfl,Tryz.func67,rd26,.nil⟩,
 ⟨sg27,Tryz.f68,an27,3000,rfl,Tryz.func68,rd27,.nil⟩,
 ⟨sg28,Tryz.f35,an28,3000,rfl,Tryz.func35,rd28,.nil⟩,
 ⟨sg29,Tryz.f97,an29,3000,rfl,Tryz.func97,rd29,.nil⟩,
 ⟨sg30,Tryz.f98,an30,3000,rfl,Tryz.func98,rd30,.nil⟩,
 ⟨sg31,Tryz.f113,an31,3000,rfl,Tryz.func113,rd31,.nil⟩,
 ⟨sg32,Tryz.f93,an32,3000,rfl,Tryz.func93,rd32,.nil⟩,
 ⟨sg33,Tryz.f81,an33,3000,rfl,Tryz.func81,rd33,.nil⟩,
 ⟨sg34,Tryz.f108,an34,3000,rfl,Tryz.func108,rd34,.nil⟩,
 ⟨sg35,Tryz.f76,an35,3000,rfl,Tryz.func76,rd35,.nil⟩,
 ⟨sg36,Tryz.f91,an36,3000,rfl,Tryz.func91,rd36,.nil⟩,
 ⟨sg37,Tryz.f87,an37,3000,rfl,Tryz.func87,rd37,.nil⟩,
 ⟨sg38,Tryz.f109,an38,3000,rfl,Tryz.func109,rd38,.nil⟩,
 ⟨sg39,Tryz.f110,an39,3000,rfl,Tryz.func110,rd39,.nil⟩,
 ⟨sg40,Tryz.f77,an40,3000,rfl,Tryz.func77,rd40,.nil⟩,
 ⟨sg41,Tryz.f41,an41,3000,rfl,Tryz.func41,rd41,.nil⟩,
 ⟨sg42,Tryz.f112,an42,3000,rfl,Tryz.func112,rd42,.nil⟩,
 ⟨sg43,Tryz.f66,an43,3000,rfl,Tryz.func66,rd43,.nil⟩,
 ⟨sg44,Tryz.f58,an44,3000,rfl,Tryz.func58,rd44,.nil⟩,
 ⟨sg45,Tryz.f95,an45,3000,rfl,Tryz.func95,rd45,.nil⟩,
 ⟨sg46,Tryz.f73,an46,3000,rfl,Tryz.func73,rd46,.nil⟩,
 ⟨sg47,Tryz.f96,an47,3000,rfl,Tryz.func96,rd47,.nil⟩,
 ⟨sg48,Tryz.f29,an48,3000,rfl,Tryz.func29,rd48,.nil⟩,
 ⟨sg49,Tryz.f75,an49,3000,rfl,Tryz.func75,rd49,.nil⟩,
 ⟨sg50,Tryz.f105,an50,3000,rfl,Tryz.func105,rd50,.nil⟩,
 ⟨sg51,Tryz.f106,an51,3000,rfl,Tryz.func106,rd51,.nil⟩,
 ⟨sg52,Tryz.f71,an52,3000,rfl,Tryz.func71,rd52,.nil⟩,
 ⟨sg53,Tryz.f115,an53,3000,rfl,Tryz.func115,rd53,.nil⟩,
 ⟨sg54,Tryz.f69,an54,3000,rfl,Tryz.func69,rd54,.nil⟩,
 ⟨sg55,Tryz.f116,an55,3000,rfl,Tryz.func116,rd55,.nil⟩,
 ⟨sg56,Tryz.f137,an56,3000,rfl,Tryz.func137,rd56,.nil⟩,
 ext57_ok hG,
 ⟨sg58,Tryz.f125,an58,3000,rfl,Tryz.func125,rd58,.nil⟩,
 ext59_ok hG,
 ext60_ok hG,
 ⟨sg61,Tryz.f128,an61,3000,rfl,Tryz.func128,rd61,.nil⟩,
 ⟨sg62,Tryz.f136,an62,3000,rfl,Tryz.func136,rd62,.nil⟩,
 ⟨sg63,Tryz.f135,an63,3000,rfl,Tryz.func135,rd63,.nil⟩,
 ⟨sg64,Tryz.f92,an64,3000,rfl,Tryz.func92,rd64,.nil⟩,
 ⟨sg65,Tryz.f149,an65,3000,rfl,Tryz.func149,rd65,.nil⟩,
 ⟨sg66,Tryz.f114,an66,3000,rfl,Tryz.func114,rd66,.nil⟩,
 ⟨sg67,Tryz.f119,an67,3000,rfl,Tryz.func119,rd67,.nil⟩,
 ext68_ok hG,
 ⟨sg69,Tryz.f121,an69,3000,rfl,Tryz.func121,rd69,.nil⟩,
 ⟨sg70,Tryz.f122,an70,3000,rfl,Tryz.func122,rd70,.nil⟩,
 ⟨sg71,Tryz.f82,an71,3000,rfl,Tryz.func82,rd71,.nil⟩,
 ⟨sg72,Tryz.f83,an72,3000,rfl,Tryz.func83,rd72,.nil⟩,
 ⟨sg73,Tryz.f84,an73,3000,rfl,Tryz.func84,rd73,.nil⟩,
 ⟨sg74,Tryz.f70,an74,3000,rfl,Tryz.func70,rd74,.nil⟩,
 ⟨sg75,Tryz.f86,an75,3000,rfl,Tryz.func86,rd75,.nil⟩,
 ⟨sg76,Tryz.f85,an76,3000,rfl,Tryz.func85,rd76,.nil⟩,
 ⟨sg77,Tryz.f147,an77,3000,rfl,Tryz.func147,rd77,.nil⟩,
 ⟨sg78,Tryz.f117,an78,3000,rfl,Tryz.func117,rd78,.nil⟩,
 ⟨sg79,Tryz.f170,an79,3000,rfl,Tryz.func170,rd79,.nil⟩,
 ext80_ok hG,
 ext81_ok hG,
 ⟨sg82,Tryz.f166,an82,3000,rfl,Tryz.func166,rd82,.nil⟩,
 ⟨sg83,Tryz.f167,an83,3000,rfl,Tryz.func167,rd83,.nil⟩,
 ⟨sg84,Tryz.f169,an84,3000,rfl,Tryz.func169,rd84,.nil⟩,
 ⟨sg85,Tryz.f171,an85,3000,rfl,Tryz.func171,rd85,.nil⟩,
 ⟨sg86,Tryz.f172,an86,3000,rfl,Tryz.func172,rd86,.nil⟩,
 ⟨sg87,Tryz.f18,an87,3000,rfl,Tryz.func18,rd87,.nil⟩,
 ⟨sg88,Tryz.f150,an88,3000,rfl,Tryz.func150,rd88,.nil⟩,
 ⟨sg89,Tryz.f151,an89,3000,rfl,Tryz.func151,rd89,.nil⟩,
 ⟨sg90,Tryz.f152,an90,3000,rfl,Tryz.func152,rd90,.nil⟩,
 ⟨sg91,Tryz.f153,an91,3000,rfl,Tryz.func153,rd91,.nil⟩,
 ⟨sg92,Tryz.f154,an92,3000,rfl,Tryz.func154,rd92,.nil⟩,
 ⟨sg93,Tryz.f155,an93,3000,rfl,Tryz.func155,rd93,.nil⟩,
 ⟨sg94,Tryz.f155,an94,3000,rfl,Tryz.func155,rd94,.nil⟩,
 ⟨sg95,Tryz.f161,an95,3000,rfl,Tryz.func161,rd95,.nil⟩,
 ⟨sg96,Tryz.f162,an96,3000,rfl,Tryz.func162,rd96,.nil⟩,
 ⟨sg97,Tryz.f129,an97,3000,rfl,Tryz.func129,rd97,.nil⟩,
 ⟨sg98,Tryz.f130,an98,3000,rfl,Tryz.func130,rd98,.nil⟩,
 ⟨sg99,Tryz.f131,an99,3000,rfl,Tryz.func131,rd99,.nil⟩,
 ⟨sg100,Tryz.f132,an100,3000,rfl,Tryz.func132,rd100,.nil⟩,
 ⟨sg101,Tryz.f133,an101,3000,rfl,Tryz.func133,rd101,.nil⟩,
 ⟨sg102,Tryz.f134,an102,3000,rfl,Tryz.func134,rd102,.nil⟩,
 ⟨sg103,Tryz.f145,an103,3000,rfl,Tryz.func145,rd103,.nil⟩,
 ⟨sg104,Tryz.f173,an104,3000,rfl,Tryz.func173,rd104,.nil⟩,
 ⟨sg105,Tryz.f156,an105,3000,rfl,Tryz.func156,rd105,.nil⟩,
 ⟨sg106,Tryz.f157,an106,3000,rfl,Tryz.func157,rd106,.nil⟩,
 ⟨sg107,Tryz.f168,an107,3000,rfl,Tryz.func168,rd107,.nil⟩,trivial⟩
def tb : Nat → TE := tbOf tbl
theorem tb_ok (hG : GHyp G) : TabOK Tryz.prog G T SG sigs tb := tabOK_of (tbl_ok hG)
theorem gok : GOK G SG := ⟨(fun g cs h => by cases h),(fun g cs h => by cases h)⟩
end Go.Proofs.YtojkhlijbpmgpaaGreat

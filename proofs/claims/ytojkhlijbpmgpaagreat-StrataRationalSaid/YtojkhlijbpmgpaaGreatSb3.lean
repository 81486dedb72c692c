/- What functions of the program compute: lemmas. -/
import Derived.Test.YtojkhlijbpmgpaaGreatSb1
import Derived.Test.YtojkhlijbpmgpaaGreatAtE
import Derived.Test.YtojkhlijbpmgpaaGreatSqE
import Derived.Test.YtojkhlijbpmgpaaGreatRv
set_option linter.unusedSimpArgs false
set_option linter.unusedVariables false
set_option linter.unusedSectionVars false
namespace Go.Proofs.YtojkhlijbpmgpaaGreat
open Go Am
set_option maxRecDepth 100000
variable {G : Glob}
def GHyp (G : Glob) : Prop := G = fun _ => none
abbrev ext28 : PF := atomsE
theorem ext28_ok (hG : GHyp G) : TEok Tryz.prog G T SG sigs 28 (.ext ext28) := ⟨fun _ _ _ _ h => atomsE_wf h,fun sg h => by cases h; exact atomsE_sig⟩
abbrev ext49 : PF := valuesE
theorem ext49_ok (hG : GHyp G) : TEok Tryz.prog G T SG sigs 49 (.ext ext49) := ⟨fun _ _ _ _ h => valuesE_wf h,fun sg h => by cases h; exact valuesE_sig⟩
abbrev ext51 : PF := compactE
theorem ext51_ok (hG : GHyp G) : TEok Tryz.prog G T SG sigs 51 (.ext ext51) := ⟨fun _ _ _ _ h => compactE_wf h,fun sg h => by cases h; exact compactE_sig⟩
abbrev ext52 : PF := cloneE
theorem ext52_ok (hG : GHyp G) : TEok Tryz.prog G T SG sigs 52 (.ext ext52) := ⟨fun _ _ _ _ h => cloneE_wf h,fun sg h => by cases h; exact cloneE_sig⟩
abbrev ext57 : PF := collectE
theorem ext57_ok (hG : GHyp G) : TEok Tryz.prog G T SG sigs 57 (.ext ext57) := ⟨fun _ _ _ _ h => collectE_wf h,fun sg h => by cases h; exact collectE_sig⟩
abbrev ext58 : PF := sortE
theorem ext58_ok (hG : GHyp G) : TEok Tryz.prog G T SG sigs 58 (.ext ext58) := ⟨fun _ _ _ _ h => sortE_wf h,fun sg h => by cases h; exact sortE_sig⟩
def tbl : List TE := [.ir ir0,.ir ir1,.ir ir2,.ir ir3,.ir ir4,.ir ir5,.ir ir6,.ir ir7,.ir ir8,.ir ir9,.ir ir10,.ir ir11,.ir ir12,.ir ir13,.ir ir14,.ir ir15,.ir ir16,.ir ir17,.ir ir18,.ir ir19,.ir ir20,.ir ir21,.ir ir22,.ir ir23,.ir ir24,.ir ir25,.ir ir26,.ir ir27,.ext ext28,.ir ir29,.ir ir30,.ir ir31,.ir ir32,.ir ir33,.ir ir34,.ir ir35,.ir ir36,.ir ir37,.ir ir38,.ir ir39,.ir ir40,.ir ir41,.ir ir42,.ir ir43,.ir ir44,.ir ir45,.ir ir46,.ir ir47,.ir ir48,.ext ext49,.ir ir50,.ext ext51,.ext ext52,.ir ir53,.ir ir54,.ir ir55,.ir ir56,.ext ext57,.ext ext58,.ir ir59,.ir ir60,.ir ir61,.ir ir62]
theorem tbl_ok (hG : GHyp G) : TLok Tryz.prog G T SG sigs 0 tbl := ⟨⟨sg0,Tryz.f8,an0,3000,rfl,Tryz.func8,rd0,.nil⟩,
 ⟨sg1,Tryz.f15,an1,3000,rfl,Tryz.func15,rd1,.nil⟩,
 ⟨sg2,Tryz.f16,an2,3000,rfl,Tryz.func16,rd2,.nil⟩,
 ⟨sg3,Tryz.f17,an3,3000,rfl,Tryz.func17,rd3,.nil⟩,
 ⟨sg4,Tryz.f35,an4,3000,rfl,Tryz.func35,rd4,.nil⟩,
 ⟨sg5,Tryz.f37,an5,3000,rfl,Tryz.func37,rd5,.nil⟩,
 ⟨sg6,Tryz.f43,an6,3000,rfl,Tryz.func43,rd6,.nil⟩,
 ⟨sg7,Tryz.f38,an7,3000,rfl,Tryz.func38,rd7,.nil⟩,
 ⟨sg8,Tryz.f44,an8,3000,rfl,Tryz.func44,rd8,.nil⟩,
 ⟨sg9,Tryz.f42,an9,3000,rfl,Tryz.func42,rd9,.nil⟩,
 ⟨sg10,Tryz.f67,an10,3000,rfl,Tryz.func67,rd10,.nil⟩,
 ⟨sg11,Tryz.f47,an11,3000,rfl,Tryz.func47,rd11,.nil⟩,
 ⟨sg12,Tryz.f68,an12,3000,rfl,Tryz.func68,rd12,.nil⟩,
 ⟨sg13,Tryz.f91,an13,3000,rfl,Tryz.func91,rd13,.nil⟩,
 ⟨sg14,Tryz.f95,an14,3000,rfl,Tryz.func95,rd14,.nil⟩,
 ⟨sg15,Tryz.f73,an15,3000,rfl,Tryz.func73,rd15,.nil⟩,
 ⟨sg16,Tryz.f96,an16,3000,rfl,Tryz.func96,rd16,.nil⟩,
 ⟨sg17,Tryz.f94,an17,3000,rfl,Tryz.func94,rd17,.nil⟩,
 ⟨sg18,Tryz.f54,an18,3000,rfl,Tryz.func54,rd18,bk_ok rfl⟩,
 ⟨sg19,Tryz.f60,an19,3000,rfl,Tryz.func60,rd19,.nil⟩,
 ⟨sg20,Tryz.f51,an20,3000,rfl,Tryz.func51,rd20,.nil⟩,
 ⟨sg21,Tryz.f71,an21,3000,rfl,Tryz.func71,rd21,.nil⟩,
 ⟨sg22,Tryz.f115,an22,3000,rfl,Tryz.func115,rd22,.nil⟩,
 ⟨sg23,Tryz.f69,an23,3000,rfl,Tryz.func69,rd23,.nil⟩,
 ⟨sg24,Tryz.f116,an24,3000,rfl,Tryz.func116,rd24,.nil⟩,
 ⟨sg25,Tryz.f105,an25,3000,rfl,Tryz.func105,rd25,.nil⟩,
 ⟨sg26,Tryz.f136,an26,3000,rfl,Tryz.func136,rd26,.nil⟩,
 ⟨sg27,Tryz.f119,an27,3000,rfl,Tryz.func119,rd27,.nil⟩,
 ext28_ok hG,
 ⟨sg29,Tryz.f121,an29,3000,rfl,Tryz.func121,rd29,.nil⟩,
 ⟨sg30,Tryz.f122,an30,3000,rfl,Tryz.func122,rd30,.nil⟩,
 ⟨sg31,Tryz.f87,an31,3000,rfl,Tryz.func87,rd31,.nil⟩,
 ⟨sg32,Tryz.f109,an32,3000,rfl,Tryz.func109,rd32,.nil⟩,
 ⟨sg33,Tryz.f106,an33,3000,rfl,Tryz.func106,rd33,.nil⟩,
 ⟨sg34,Tryz.f93,an34,3000,rfl,Tryz.func93,rd34,.nil⟩,
 ⟨sg35,Tryz.f81,an35,3000,rfl,Tryz.func81,rd35,.nil⟩,
 ⟨sg36,Tryz.f97,an36,3000,rfl,Tryz.func97,rd36,.nil⟩,
 ⟨sg37,Tryz.f98,an37,3000,rfl,Tryz.func98,rd37,.nil⟩,
 ⟨sg38,Tryz.f117,an38,3000,rfl,Tryz.func117,rd38,.nil⟩,
 ⟨sg39,Tryz.f147,an39,3000,rfl,Tryz.func147,rd39,.nil⟩,
 ⟨sg40,Tryz.f169,an40,3000,rfl,Tryz.func169,rd40,.nil⟩,
 ⟨sg41,Tryz.f153,an41,3000,rfl,Tryz.func153,rd41,.nil⟩,
 ⟨sg42,Tryz.f154,an42,3000,rfl,Tryz.func154,rd42,.nil⟩,
 ⟨sg43,Tryz.f155,an43,3000,rfl,Tryz.func155,rd43,.nil⟩,
 ⟨sg44,Tryz.f155,an44,3000,rfl,Tryz.func155,rd44,.nil⟩,
 ⟨sg45,Tryz.f161,an45,3000,rfl,Tryz.func161,rd45,.nil⟩,
 ⟨sg46,Tryz.f162,an46,3000,rfl,Tryz.func162,rd46,.nil⟩,
 ⟨sg47,Tryz.f135,an47,3000,rfl,Tryz.func135,rd47,.nil⟩,
 ⟨sg48,Tryz.f92,an48,3000,rfl,Tryz.func92,rd48,.nil⟩,
 ext49_ok hG,
 ⟨sg50,Tryz.f125,an50,3000,rfl,Tryz.func125,rd50,.nil⟩,
 ext51_ok hG,
 ext52_ok hG,
 ⟨sg53,Tryz.f128,an53,3000,rfl,Tryz.func128,rd53,.nil⟩,
 ⟨sg54,Tryz.f137,an54,3000,rfl,Tryz.func137,rd54,.nil⟩,
 ⟨sg55,Tryz.f156,an55,3000,rfl,Tryz.func156,rd55,.nil⟩,
 ⟨sg56,Tryz.f157,an56,3000,rfl,Tryz.func157,rd56,.nil⟩,
 ext57_ok hG,
 ext58_ok hG,
 ⟨sg59,Tryz.f166,an59,3000,rfl,Tryz.func166,rd59,.nil⟩,
 ⟨sg60,Tryz.f167,an60,3000,rfl,Tryz.func167,rd60,.nil⟩,
 ⟨sg61,Tryz.f170,an61,3000,rfl,Tryz.func170,rd61,.nil⟩,
 ⟨sg62,Tryz.f145,an62,3000,rfl,Tryz.func145,rd62,.nil⟩,trivial⟩
def tb : Nat → TE := tbOf tbl
theorem tb_ok (hG : GHyp G) : TabOK Tryz.prog G T SG sigs tb := tabOK_of (tbl_ok hG)
theorem gok : GOK G SG := ⟨(fun g cs h => by cases h),(fun g cs h => by cases h)⟩
end Go.Proofs.YtojkhlijbpmgpaaGreat

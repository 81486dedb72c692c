/- What functions of the program compute: lemmas. -/
import Derived.Test.YtnfecjmddbehiaaGreatSb1
import Derived.Test.YtnfecjmddbehiaaGreatSqE
import Derived.Test.YtnfecjmddbehiaaGreatBc
import Derived.Test.YtnfecjmddbehiaaGreatBn
set_option linter.unusedSimpArgs false
set_option linter.unusedVariables false
set_option linter.unusedSectionVars false
namespace Go.Proofs.YtnfecjmddbehiaaGreat
open Go Am
set_option maxRecDepth 100000
variable {G : Glob}
def GHyp (G : Glob) : Prop:=G=fun _=>none
abbrev ext5 : PF:=checkE
theorem ext5_ok (hG : GHyp G) : TEok Tryz.prog G T SG sigs 5 (.ext ext5):=⟨fun _ _ _ _ h=>checkE_wf h,fun sg h=>by cases h; exact checkE_sig⟩
abbrev ext9 : PF:=bentE
theorem ext9_ok (hG : GHyp G) : TEok Tryz.prog G T SG sigs 9 (.ext ext9):=⟨fun _ _ _ _ h=>bentE_wf h,fun sg h=>by cases h; exact bentE_sig⟩
abbrev ext32 : PF:=valuesE
theorem ext32_ok (hG : GHyp G) : TEok Tryz.prog G T SG sigs 32 (.ext ext32):=⟨fun _ _ _ _ h=>valuesE_wf h,fun sg h=>by cases h; exact valuesE_sig⟩
abbrev ext34 : PF:=compactE
theorem ext34_ok (hG : GHyp G) : TEok Tryz.prog G T SG sigs 34 (.ext ext34):=⟨fun _ _ _ _ h=>compactE_wf h,fun sg h=>by cases h; exact compactE_sig⟩
abbrev ext35 : PF:=cloneE
theorem ext35_ok (hG : GHyp G) : TEok Tryz.prog G T SG sigs 35 (.ext ext35):=⟨fun _ _ _ _ h=>cloneE_wf h,fun sg h=>by cases h; exact cloneE_sig⟩
abbrev ext48 : PF:=collectE
theorem ext48_ok (hG : GHyp G) : TEok Tryz.prog G T SG sigs 48 (.ext ext48):=⟨fun _ _ _ _ h=>collectE_wf h,fun sg h=>by cases h; exact collectE_sig⟩
abbrev ext49 : PF:=sortE
theorem ext49_ok (hG : GHyp G) : TEok Tryz.prog G T SG sigs 49 (.ext ext49):=⟨fun _ _ _ _ h=>sortE_wf h,fun sg h=>by cases h; exact sortE_sig⟩
def tbl : List TE:=[.ir ir0,.ir ir1,.ir ir2,.ir ir3,.ir ir4,.ext ext5,.ir ir6,.ir ir7,.ir ir8,.ext ext9,.ir ir10,.ir ir11,.ir ir12,.ir ir13,.ir ir14,.ir ir15,.ir ir16,.ir ir17,.ir ir18,.ir ir19,.ir ir20,.ir ir21,.ir ir22,.ir ir23,.ir ir24,.ir ir25,.ir ir26,.ir ir27,.ir ir28,.ir ir29,.ir ir30,.ir ir31,.ext ext32,.ir ir33,.ext ext34,.ext ext35,.ir ir36,.ir ir37,.ir ir38,.ir ir39,.ir ir40,.ir ir41,.ir ir42,.ir ir43,.ir ir44,.ir ir45,.ir ir46,.ir ir47,.ext ext48,.ext ext49,.ir ir50,.ir ir51,.ir ir52,.ir ir53,.ir ir54,.ir ir55,.ir ir56,.ir ir57,.ir ir58,.ir ir59,.ir ir60]
theorem tbl_ok (hG : GHyp G) : TLok Tryz.prog G T SG sigs 0 tbl:=⟨⟨sg0,Tryz.f3,an0,3000,rfl,Tryz.func3,rd0,.nil⟩,
 ⟨sg1,Tryz.f5,an1,3000,rfl,Tryz.func5,rd1,.nil⟩,
 ⟨sg2,Tryz.f6,an2,3000,rfl,Tryz.func6,rd2,.nil⟩,
 ⟨sg3,Tryz.f7,an3,3000,rfl,Tryz.func7,rd3,.nil⟩,
 ⟨sg4,Tryz.f8,an4,3000,rfl,Tryz.func8,rd4,.nil⟩,
 ext5_ok hG,
 ⟨sg6,Tryz.f11,an6,3000,rfl,Tryz.func11,rd6,.nil⟩,
 ⟨sg7,Tryz.f10,an7,3000,rfl,Tryz.func10,rd7,.nil⟩,
 ⟨sg8,Tryz.f12,an8,3000,rfl,Tryz.func12,rd8,.nil⟩,
 ext9_ok hG,
 ⟨sg10,Tryz.f14,an10,3000,rfl,Tryz.func14,rd10,.nil⟩,
 ⟨sg11,Tryz.f15,an11,3000,rfl,Tryz.func15,rd11,.nil⟩,
 ⟨sg12,Tryz.f25,an12,3000,rfl,Tryz.func25,rd12,.nil⟩,
 ⟨sg13,Tryz.f26,an13,3000,rfl,Tryz.func26,rd13,.nil⟩,
 ⟨sg14,Tryz.f27,an14,3000,rfl,Tryz.func27,rd14,.nil⟩,
 ⟨sg15,Tryz.f28,an15,3000,rfl,Tryz.func28,rd15,.nil⟩,
 ⟨sg16,Tryz.f23,an16,3000,rfl,Tryz.func23,rd16,.nil⟩,
 ⟨sg17,Tryz.f33,an17,3000,rfl,Tryz.func33,rd17,.nil⟩,
 ⟨sg18,Tryz.f34,an18,3000,rfl,Tryz.func34,rd18,.nil⟩,
 ⟨sg19,Tryz.f35,an19,3000,rfl,Tryz.func35,rd19,.nil⟩,
 ⟨sg20,Tryz.f36,an20,3000,rfl,Tryz.func36,rd20,.nil⟩,
 ⟨sg21,Tryz.f39,an21,3000,rfl,Tryz.func39,rd21,.nil⟩,
 ⟨sg22,Tryz.f55,an22,3000,rfl,Tryz.func55,rd22,.nil⟩,
 ⟨sg23,Tryz.f54,an23,3000,rfl,Tryz.func54,rd23,.nil⟩,
 ⟨sg24,Tryz.f56,an24,3000,rfl,Tryz.func56,rd24,.nil⟩,
 ⟨sg25,Tryz.f32,an25,3000,rfl,Tryz.func32,rd25,.nil⟩,
 ⟨sg26,Tryz.f57,an26,3000,rfl,Tryz.func57,rd26,.nil⟩,
 ⟨sg27,Tryz.f58,an27,3000,rfl,Tryz.func58,rd27,.nil⟩,
 ⟨sg28,Tryz.f59,an28,3000,rfl,Tryz.func59,rd28,.nil⟩,
 ⟨sg29,Tryz.f29,an29,3000,rfl,Tryz.func29,rd29,.nil⟩,
 ⟨sg30,Tryz.f51,an30,3000,rfl,Tryz.func51,rd30,.nil⟩,
 ⟨sg31,Tryz.f65,an31,3000,rfl,Tryz.func65,rd31,.nil⟩,
 ext32_ok hG,
 ⟨sg33,Tryz.f67,an33,3000,rfl,Tryz.func67,rd33,.nil⟩,
 ext34_ok hG,
 ext35_ok hG,
 ⟨sg36,Tryz.f70,an36,3000,rfl,Tryz.func70,rd36,.nil⟩,
 ⟨sg37,Tryz.f37,an37,3000,rfl,Tryz.func37,rd37,.nil⟩,
 ⟨sg38,Tryz.f43,an38,3000,rfl,Tryz.func43,rd38,.nil⟩,
 ⟨sg39,Tryz.f21,an39,3000,rfl,Tryz.func21,rd39,.nil⟩,
 ⟨sg40,Tryz.f48,an40,3000,rfl,Tryz.func48,rd40,.nil⟩,
 ⟨sg41,Tryz.f71,an41,3000,rfl,Tryz.func71,rd41,.nil⟩,
 ⟨sg42,Tryz.f62,an42,3000,rfl,Tryz.func62,rd42,.nil⟩,
 ⟨sg43,Tryz.f63,an43,3000,rfl,Tryz.func63,rd43,.nil⟩,
 ⟨sg44,Tryz.f64,an44,3000,rfl,Tryz.func64,rd44,.nil⟩,
 ⟨sg45,Tryz.f79,an45,3000,rfl,Tryz.func79,rd45,.nil⟩,
 ⟨sg46,Tryz.f60,an46,3000,rfl,Tryz.func60,rd46,.nil⟩,
 ⟨sg47,Tryz.f77,an47,3000,rfl,Tryz.func77,rd47,.nil⟩,
 ext48_ok hG,
 ext49_ok hG,
 ⟨sg50,Tryz.f104,an50,3000,rfl,Tryz.func104,rd50,.nil⟩,
 ⟨sg51,Tryz.f105,an51,3000,rfl,Tryz.func105,rd51,.nil⟩,
 ⟨sg52,Tryz.f38,an52,3000,rfl,Tryz.func38,rd52,.nil⟩,
 ⟨sg53,Tryz.f76,an53,3000,rfl,Tryz.func76,rd53,.nil⟩,
 ⟨sg54,Tryz.f110,an54,3000,rfl,Tryz.func110,rd54,.nil⟩,
 ⟨sg55,Tryz.f80,an55,3000,rfl,Tryz.func80,rd55,.nil⟩,
 ⟨sg56,Tryz.f52,an56,3000,rfl,Tryz.func52,rd56,.nil⟩,
 ⟨sg57,Tryz.f116,an57,3000,rfl,Tryz.func116,rd57,.nil⟩,
 ⟨sg58,Tryz.f53,an58,3000,rfl,Tryz.func53,rd58,.nil⟩,
 ⟨sg59,Tryz.f78,an59,3000,rfl,Tryz.func78,rd59,.nil⟩,
 ⟨sg60,Tryz.f50,an60,3000,rfl,Tryz.func50,rd60,.nil⟩,trivial⟩
def tb : Nat→TE:=tbOf tbl
theorem tb_ok (hG : GHyp G) : TabOK Tryz.prog G T SG sigs tb:=tabOK_of (tbl_ok hG)
theorem gok : GOK G SG:=⟨(fun g cs h=>by cases h),(fun g cs h=>by cases h)⟩
end Go.Proofs.YtnfecjmddbehiaaGreat

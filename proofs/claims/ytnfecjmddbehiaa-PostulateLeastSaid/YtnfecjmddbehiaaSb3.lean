/- What functions of the program compute: lemmas. -/
import Derived.Test.YtnfecjmddbehiaaSb1
import Derived.Test.YtnfecjmddbehiaaBc
import Derived.Test.YtnfecjmddbehiaaBn
set_option linter.unusedSimpArgs false
set_option linter.unusedVariables false
set_option linter.unusedSectionVars false
namespace Go.Proofs.Ytnfecjmddbehiaa
open Go Am
set_option maxRecDepth 100000
variable {G : Glob}
def GHyp (G : Glob) : Prop := G = fun _ => none
abbrev ext8 : PF := bentE
theorem ext8_ok (hG : GHyp G) : TEok Try.prog G T SG sigs 8 (.ext ext8) := ⟨fun _ _ _ _ h => bentE_wf h,fun sg h => by cases h; exact bentE_sig⟩
abbrev ext9 : PF := checkE
theorem ext9_ok (hG : GHyp G) : TEok Try.prog G T SG sigs 9 (.ext ext9) := ⟨fun _ _ _ _ h => checkE_wf h,fun sg h => by cases h; exact checkE_sig⟩
abbrev ext20 : PF := countE
theorem ext20_ok (hG : GHyp G) : TEok Try.prog G T SG sigs 20 (.ext ext20) := ⟨fun _ _ _ _ h => countE_wf h,fun sg h => by cases h; exact countE_sig⟩
def tbl : List TE := [.ir ir0,.ir ir1,.ir ir2,.ir ir3,.ir ir4,.ir ir5,.ir ir6,.ir ir7,.ext ext8,.ext ext9,.ir ir10,.ir ir11,.ir ir12,.ir ir13,.ir ir14,.ir ir15,.ir ir16,.ir ir17,.ir ir18,.ir ir19,.ext ext20,.ir ir21,.ir ir22,.ir ir23,.ir ir24,.ir ir25,.ir ir26,.ir ir27,.ir ir28,.ir ir29,.ir ir30,.ir ir31,.ir ir32,.ir ir33,.ir ir34,.ir ir35,.ir ir36,.ir ir37,.ir ir38,.ir ir39,.ir ir40,.ir ir41,.ir ir42,.ir ir43,.ir ir44,.ir ir45,.ir ir46,.ir ir47,.ir ir48,.ir ir49,.ir ir50,.ir ir51,.ir ir52,.ir ir53,.ir ir54,.ir ir55,.ir ir56,.ir ir57,.ir ir58,.ir ir59,.ir ir60,.ir ir61,.ir ir62]
theorem tbl_ok (hG : GHyp G) : TLok Try.prog G T SG sigs 0 tbl := ⟨⟨sg0,Try.f3,an0,3000,rfl,Try.func3,rd0,.nil⟩,
 ⟨sg1,Try.f4,an1,3000,rfl,Try.func4,rd1,.nil⟩,
 ⟨sg2,Try.f5,an2,3000,rfl,Try.func5,rd2,.nil⟩,
 ⟨sg3,Try.f6,an3,3000,rfl,Try.func6,rd3,.nil⟩,
 ⟨sg4,Try.f7,an4,3000,rfl,Try.func7,rd4,.nil⟩,
 ⟨sg5,Try.f9,an5,3000,rfl,Try.func9,rd5,.nil⟩,
 ⟨sg6,Try.f8,an6,3000,rfl,Try.func8,rd6,.nil⟩,
 ⟨sg7,Try.f11,an7,3000,rfl,Try.func11,rd7,.nil⟩,
 ext8_ok hG,
 ext9_ok hG,
 ⟨sg10,Try.f13,an10,3000,rfl,Try.func13,rd10,.nil⟩,
 ⟨sg11,Try.f14,an11,3000,rfl,Try.func14,rd11,.nil⟩,
 ⟨sg12,Try.f15,an12,3000,rfl,Try.func15,rd12,.nil⟩,
 ⟨sg13,Try.f16,an13,3000,rfl,Try.func16,rd13,.nil⟩,
 ⟨sg14,Try.f18,an14,3000,rfl,Try.func18,rd14,.nil⟩,
 ⟨sg15,Try.f17,an15,3000,rfl,Try.func17,rd15,.nil⟩,
 ⟨sg16,Try.f19,an16,3000,rfl,Try.func19,rd16,.nil⟩,
 ⟨sg17,Try.f20,an17,3000,rfl,Try.func20,rd17,.nil⟩,
 ⟨sg18,Try.f22,an18,3000,rfl,Try.func22,rd18,.nil⟩,
 ⟨sg19,Try.f21,an19,3000,rfl,Try.func21,rd19,.nil⟩,
 ext20_ok hG,
 ⟨sg21,Try.f29,an21,3000,rfl,Try.func29,rd21,.nil⟩,
 ⟨sg22,Try.f24,an22,3000,rfl,Try.func24,rd22,.nil⟩,
 ⟨sg23,Try.f25,an23,3000,rfl,Try.func25,rd23,.nil⟩,
 ⟨sg24,Try.f26,an24,3000,rfl,Try.func26,rd24,.nil⟩,
 ⟨sg25,Try.f27,an25,3000,rfl,Try.func27,rd25,.nil⟩,
 ⟨sg26,Try.f28,an26,3000,rfl,Try.func28,rd26,.nil⟩,
 ⟨sg27,Try.f31,an27,3000,rfl,Try.func31,rd27,.nil⟩,
 ⟨sg28,Try.f30,an28,3000,rfl,Try.func30,rd28,.nil⟩,
 ⟨sg29,Try.f35,an29,3000,rfl,Try.func35,rd29,.nil⟩,
 ⟨sg30,Try.f36,an30,3000,rfl,Try.func36,rd30,.nil⟩,
 ⟨sg31,Try.f37,an31,3000,rfl,Try.func37,rd31,.nil⟩,
 ⟨sg32,Try.f38,an32,3000,rfl,Try.func38,rd32,.nil⟩,
 ⟨sg33,Try.f39,an33,3000,rfl,Try.func39,rd33,.nil⟩,
 ⟨sg34,Try.f40,an34,3000,rfl,Try.func40,rd34,.nil⟩,
 ⟨sg35,Try.f42,an35,3000,rfl,Try.func42,rd35,.nil⟩,
 ⟨sg36,Try.f43,an36,3000,rfl,Try.func43,rd36,.nil⟩,
 ⟨sg37,Try.f44,an37,3000,rfl,Try.func44,rd37,.nil⟩,
 ⟨sg38,Try.f45,an38,3000,rfl,Try.func45,rd38,.nil⟩,
 ⟨sg39,Try.f46,an39,3000,rfl,Try.func46,rd39,.nil⟩,
 ⟨sg40,Try.f47,an40,3000,rfl,Try.func47,rd40,.nil⟩,
 ⟨sg41,Try.f48,an41,3000,rfl,Try.func48,rd41,.nil⟩,
 ⟨sg42,Try.f54,an42,3000,rfl,Try.func54,rd42,.nil⟩,
 ⟨sg43,Try.f55,an43,3000,rfl,Try.func55,rd43,.nil⟩,
 ⟨sg44,Try.f34,an44,3000,rfl,Try.func34,rd44,.nil⟩,
 ⟨sg45,Try.f56,an45,3000,rfl,Try.func56,rd45,.nil⟩,
 ⟨sg46,Try.f57,an46,3000,rfl,Try.func57,rd46,.nil⟩,
 ⟨sg47,Try.f58,an47,3000,rfl,Try.func58,rd47,.nil⟩,
 ⟨sg48,Try.f41,an48,3000,rfl,Try.func41,rd48,.nil⟩,
 ⟨sg49,Try.f60,an49,3000,rfl,Try.func60,rd49,.nil⟩,
 ⟨sg50,Try.f61,an50,3000,rfl,Try.func61,rd50,.nil⟩,
 ⟨sg51,Try.f62,an51,3000,rfl,Try.func62,rd51,.nil⟩,
 ⟨sg52,Try.f63,an52,3000,rfl,Try.func63,rd52,.nil⟩,
 ⟨sg53,Try.f51,an53,3000,rfl,Try.func51,rd53,.nil⟩,
 ⟨sg54,Try.f52,an54,3000,rfl,Try.func52,rd54,.nil⟩,
 ⟨sg55,Try.f53,an55,3000,rfl,Try.func53,rd55,.nil⟩,
 ⟨sg56,Try.f89,an56,3000,rfl,Try.func89,rd56,.nil⟩,
 ⟨sg57,Try.f90,an57,3000,rfl,Try.func90,rd57,.nil⟩,
 ⟨sg58,Try.f59,an58,3000,rfl,Try.func59,rd58,.nil⟩,
 ⟨sg59,Try.f92,an59,3000,rfl,Try.func92,rd59,.nil⟩,
 ⟨sg60,Try.f97,an60,3000,rfl,Try.func97,rd60,.nil⟩,
 ⟨sg61,Try.f98,an61,3000,rfl,Try.func98,rd61,.nil⟩,
 ⟨sg62,Try.f91,an62,3000,rfl,Try.func91,rd62,.nil⟩,trivial⟩
def tb : Nat → TE := tbOf tbl
theorem tb_ok (hG : GHyp G) : TabOK Try.prog G T SG sigs tb := tabOK_of (tbl_ok hG)
theorem gok : GOK G SG := ⟨(fun g cs h => by cases h),(fun g cs h => by cases h)⟩
end Go.Proofs.Ytnfecjmddbehiaa

/- What functions of the program compute: lemmas. -/
import Derived.Test.YtjicfdolcieliaaSb1
import Derived.Test.YtjicfdolcieliaaSqE
set_option linter.unusedSimpArgs false
set_option linter.unusedVariables false
set_option linter.unusedSectionVars false
namespace Go.Proofs.Ytjicfdolcieliaa
open Go Am
set_option maxRecDepth 100000
variable {G : Glob}
def GHyp (G : Glob) : Prop := G = fun _ => none
abbrev ext23 : PF := valuesE
theorem ext23_ok (hG : GHyp G) : TEok Try.prog G T SG sigs 23 (.ext ext23) := ⟨fun _ _ _ _ h => valuesE_wf h,fun sg h => by cases h; exact valuesE_sig⟩
abbrev ext25 : PF := compactE
theorem ext25_ok (hG : GHyp G) : TEok Try.prog G T SG sigs 25 (.ext ext25) := ⟨fun _ _ _ _ h => compactE_wf h,fun sg h => by cases h; exact compactE_sig⟩
abbrev ext26 : PF := cloneE
theorem ext26_ok (hG : GHyp G) : TEok Try.prog G T SG sigs 26 (.ext ext26) := ⟨fun _ _ _ _ h => cloneE_wf h,fun sg h => by cases h; exact cloneE_sig⟩
abbrev ext30 : PF := cloneVE
theorem ext30_ok (hG : GHyp G) : TEok Try.prog G T SG sigs 30 (.ext ext30) := ⟨fun _ _ _ _ h => cloneVE_wf h,fun sg h => by cases h; exact cloneVE_sig⟩
abbrev ext42 : PF := collectE
theorem ext42_ok (hG : GHyp G) : TEok Try.prog G T SG sigs 42 (.ext ext42) := ⟨fun _ _ _ _ h => collectE_wf h,fun sg h => by cases h; exact collectE_sig⟩
abbrev ext43 : PF := sortE
theorem ext43_ok (hG : GHyp G) : TEok Try.prog G T SG sigs 43 (.ext ext43) := ⟨fun _ _ _ _ h => sortE_wf h,fun sg h => by cases h; exact sortE_sig⟩
def tbl : List TE := [.ir ir0,.ir ir1,.ir ir2,.ir ir3,.ir ir4,.ir ir5,.ir ir6,.ir ir7,.ir ir8,.ir ir9,.ir ir10,.ir ir11,.ir ir12,.ir ir13,.ir ir14,.ir ir15,.ir ir16,.ir ir17,.ir ir18,.ir ir19,.ir ir20,.ir ir21,.ir ir22,.ext ext23,.ir ir24,.ext ext25,.ext ext26,.ir ir27,.ir ir28,.ir ir29,.ext ext30,.ir ir31,.ir ir32,.ir ir33,.ir ir34,.ir ir35,.ir ir36,.ir ir37,.ir ir38,.ir ir39,.ir ir40,.ir ir41,.ext ext42,.ext ext43,.ir ir44,.ir ir45,.ir ir46,.ir ir47,.ir ir48,.ir ir49]
theorem tbl_ok (hG : GHyp G) : TLok Try.prog G T SG sigs 0 tbl := ⟨⟨sg0,Try.f3,an0,3000,rfl,Try.func3,rd0,.nil⟩,
 ⟨sg1,Try.f4,an1,3000,rfl,Try.func4,rd1,.nil⟩,
 ⟨sg2,Try.f5,an2,3000,rfl,Try.func5,rd2,.nil⟩,
 ⟨sg3,Try.f6,an3,3000,rfl,Try.func6,rd3,.nil⟩,
 ⟨sg4,Try.f7,an4,3000,rfl,Try.func7,rd4,.nil⟩,
 ⟨sg5,Try.f9,an5,3000,rfl,Try.func9,rd5,.nil⟩,
 ⟨sg6,Try.f8,an6,3000,rfl,Try.func8,rd6,.nil⟩,
 ⟨sg7,Try.f10,an7,3000,rfl,Try.func10,rd7,.nil⟩,
 ⟨sg8,Try.f11,an8,3000,rfl,Try.func11,rd8,.nil⟩,
 ⟨sg9,Try.f12,an9,3000,rfl,Try.func12,rd9,.nil⟩,
 ⟨sg10,Try.f13,an10,3000,rfl,Try.func13,rd10,.nil⟩,
 ⟨sg11,Try.f14,an11,3000,rfl,Try.func14,rd11,.nil⟩,
 ⟨sg12,Try.f15,an12,3000,rfl,Try.func15,rd12,.nil⟩,
 ⟨sg13,Try.f16,an13,3000,rfl,Try.func16,rd13,.nil⟩,
 ⟨sg14,Try.f17,an14,3000,rfl,Try.func17,rd14,.nil⟩,
 ⟨sg15,Try.f18,an15,3000,rfl,Try.func18,rd15,.nil⟩,
 ⟨sg16,Try.f19,an16,3000,rfl,Try.func19,rd16,.nil⟩,
 ⟨sg17,Try.f20,an17,3000,rfl,Try.func20,rd17,.nil⟩,
 ⟨sg18,Try.f21,an18,3000,rfl,Try.func21,rd18,.nil⟩,
 ⟨sg19,Try.f22,an19,3000,rfl,Try.func22,rd19,.nil⟩,
 ⟨sg20,Try.f24,an20,3000,rfl,Try.func24,rd20,.nil⟩,
 ⟨sg21,Try.f23,an21,3000,rfl,Try.func23,rd21,.nil⟩,
 ⟨sg22,Try.f25,an22,3000,rfl,Try.func25,rd22,.nil⟩,
 ext23_ok hG,
 ⟨sg24,Try.f27,an24,3000,rfl,Try.func27,rd24,.nil⟩,
 ext25_ok hG,
 ext26_ok hG,
 ⟨sg27,Try.f30,an27,3000,rfl,Try.func30,rd27,.nil⟩,
 ⟨sg28,Try.f31,an28,3000,rfl,Try.func31,rd28,.nil⟩,
 ⟨sg29,Try.f32,an29,3000,rfl,Try.func32,rd29,.nil⟩,
 ext30_ok hG,
 ⟨sg31,Try.f33,an31,3000,rfl,Try.func33,rd31,.nil⟩,
 ⟨sg32,Try.f36,an32,3000,rfl,Try.func36,rd32,.nil⟩,
 ⟨sg33,Try.f37,an33,3000,rfl,Try.func37,rd33,.nil⟩,
 ⟨sg34,Try.f38,an34,3000,rfl,Try.func38,rd34,.nil⟩,
 ⟨sg35,Try.f39,an35,3000,rfl,Try.func39,rd35,.nil⟩,
 ⟨sg36,Try.f40,an36,3000,rfl,Try.func40,rd36,.nil⟩,
 ⟨sg37,Try.f41,an37,3000,rfl,Try.func41,rd37,.nil⟩,
 ⟨sg38,Try.f42,an38,3000,rfl,Try.func42,rd38,.nil⟩,
 ⟨sg39,Try.f43,an39,3000,rfl,Try.func43,rd39,.nil⟩,
 ⟨sg40,Try.f44,an40,3000,rfl,Try.func44,rd40,.nil⟩,
 ⟨sg41,Try.f45,an41,3000,rfl,Try.func45,rd41,.nil⟩,
 ext42_ok hG,
 ext43_ok hG,
 ⟨sg44,Try.f49,an44,3000,rfl,Try.func49,rd44,.nil⟩,
 ⟨sg45,Try.f50,an45,3000,rfl,Try.func50,rd45,.nil⟩,
 ⟨sg46,Try.f51,an46,3000,rfl,Try.func51,rd46,.nil⟩,
 ⟨sg47,Try.f35,an47,3000,rfl,Try.func35,rd47,.nil⟩,
 ⟨sg48,Try.f52,an48,3000,rfl,Try.func52,rd48,.nil⟩,
 ⟨sg49,Try.f56,an49,3000,rfl,Try.func56,rd49,.nil⟩,trivial⟩
def tb : Nat → TE := tbOf tbl
theorem tb_ok (hG : GHyp G) : TabOK Try.prog G T SG sigs tb := tabOK_of (tbl_ok hG)
theorem gok : GOK G SG := ⟨(fun g cs h => by cases h),(fun g cs h => by cases h)⟩
end Go.Proofs.Ytjicfdolcieliaa

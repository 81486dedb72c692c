/- What functions of the program compute: lemmas. -/
import Derived.Test.YtnfecjmddbehiaaGreatSb1
import Derived.Test.YtnfecjmddbehiaaGreatSqE
import Derived.Test.YtnfecjmddbehiaaGreatBc
import Derived.Test.YtnfecjmddbehiaaGreatBn
set_option linter.unusedSimpArgs false
set_option linter.unusedVariables false
set_option linter.unusedSectionVars false
namespace Go.Proofs.YtnfecjmddbehiaaGreat
open Go Am
set_option maxRecDepth 100000
variable {G:Glob}
def GHyp (G:Glob):Prop:=G=fun _=>none
abbrev ext7:PF:=bentE
theorem ext7_ok (hG:GHyp G):TEok Tryz.prog G T SG sigs 7 (.ext ext7):=⟨fun _ _ _ _ h=>qtw h,fun sg h=>by cases h;exact qgbb⟩
abbrev ext8:PF:=checkE
theorem ext8_ok (hG:GHyp G):TEok Tryz.prog G T SG sigs 8 (.ext ext8):=⟨fun _ _ _ _ h=>qrr h,fun sg h=>by cases h;exact qua⟩
abbrev ext10:PF:=countE
theorem ext10_ok (hG:GHyp G):TEok Tryz.prog G T SG sigs 10 (.ext ext10):=⟨fun _ _ _ _ h=>qep h,fun sg h=>by cases h;exact qpz⟩
abbrev ext48:PF:=valuesE
theorem ext48_ok (hG:GHyp G):TEok Tryz.prog G T SG sigs 48 (.ext ext48):=⟨fun _ _ _ _ h=>qsm h,fun sg h=>by cases h;exact qpu⟩
abbrev ext50:PF:=compactE
theorem ext50_ok (hG:GHyp G):TEok Tryz.prog G T SG sigs 50 (.ext ext50):=⟨fun _ _ _ _ h=>qhj h,fun sg h=>by cases h;exact qip⟩
abbrev ext51:PF:=cloneE
theorem ext51_ok (hG:GHyp G):TEok Tryz.prog G T SG sigs 51 (.ext ext51):=⟨fun _ _ _ _ h=>qcp h,fun sg h=>by cases h;exact qga⟩
abbrev ext62:PF:=collectE
theorem ext62_ok (hG:GHyp G):TEok Tryz.prog G T SG sigs 62 (.ext ext62):=⟨fun _ _ _ _ h=>qnj h,fun sg h=>by cases h;exact qiq⟩
abbrev ext63:PF:=sortE
theorem ext63_ok (hG:GHyp G):TEok Tryz.prog G T SG sigs 63 (.ext ext63):=⟨fun _ _ _ _ h=>qnw h,fun sg h=>by cases h;exact qpbb⟩
def tbl:List TE:=[.ir ir0,.ir ir1,.ir ir2,.ir ir3,.ir ir4,.ir ir5,.ir ir6,.ext ext7,.ext ext8,.ir ir9,.ext ext10,.ir ir11,.ir ir12,.ir ir13,.ir ir14,.ir ir15,.ir ir16,.ir ir17,.ir ir18,.ir ir19,.ir ir20,.ir ir21,.ir ir22,.ir ir23,.ir ir24,.ir ir25,.ir ir26,.ir ir27,.ir ir28,.ir ir29,.ir ir30,.ir ir31,.ir ir32,.ir ir33,.ir ir34,.ir ir35,.ir ir36,.ir ir37,.ir ir38,.ir ir39,.ir ir40,.ir ir41,.ir ir42,.ir ir43,.ir ir44,.ir ir45,.ir ir46,.ir ir47,.ext ext48,.ir ir49,.ext ext50,.ext ext51,.ir ir52,.ir ir53,.ir ir54,.ir ir55,.ir ir56,.ir ir57,.ir ir58,.ir ir59,.ir ir60,.ir ir61,.ext ext62,.ext ext63,.ir ir64,.ir ir65,.ir ir66,.ir ir67,.ir ir68,.ir ir69,.ir ir70,.ir ir71,.ir ir72,.ir ir73,.ir ir74,.ir ir75,.ir ir76,.ir ir77,.ir ir78,.ir ir79,.ir ir80,.ir ir81,.ir ir82,.ir ir83,.ir ir84,.ir ir85]
theorem qlwb (hG:GHyp G):TLok Tryz.prog G T SG sigs 0 tbl:=⟨⟨sg0,Tryz.f4,an0,3000,rfl,Tryz.func4,rd0,.nil⟩,
 ⟨sg1,Tryz.f16,an1,3000,rfl,Tryz.func16,rd1,.nil⟩,
 ⟨sg2,Tryz.f14,an2,3000,rfl,Tryz.func14,rd2,.nil⟩,
 ⟨sg3,Tryz.f5,an3,3000,rfl,Tryz.func5,rd3,.nil⟩,
 ⟨sg4,Tryz.f6,an4,3000,rfl,Tryz.func6,rd4,.nil⟩,
 ⟨sg5,Tryz.f7,an5,3000,rfl,Tryz.func7,rd5,.nil⟩,
 ⟨sg6,Tryz.f17,an6,3000,rfl,Tryz.func17,rd6,.nil⟩,
 ext7_ok hG,
 ext8_ok hG,
 ⟨sg9,Tryz.f18,an9,3000,rfl,Tryz.func18,rd9,.nil⟩,
 ext10_ok hG,
 ⟨sg11,Tryz.f20,an11,3000,rfl,Tryz.func20,rd11,.nil⟩,
 ⟨sg12,Tryz.f21,an12,3000,rfl,Tryz.func21,rd12,.nil⟩,
 ⟨sg13,Tryz.f11,an13,3000,rfl,Tryz.func11,rd13,.nil⟩,
 ⟨sg14,Tryz.f10,an14,3000,rfl,Tryz.func10,rd14,.nil⟩,
 ⟨sg15,Tryz.f22,an15,3000,rfl,Tryz.func22,rd15,.nil⟩,
 ⟨sg16,Tryz.f12,an16,3000,rfl,Tryz.func12,rd16,.nil⟩,
 ⟨sg17,Tryz.f23,an17,3000,rfl,Tryz.func23,rd17,.nil⟩,
 ⟨sg18,Tryz.f24,an18,3000,rfl,Tryz.func24,rd18,.nil⟩,
 ⟨sg19,Tryz.f25,an19,3000,rfl,Tryz.func25,rd19,.nil⟩,
 ⟨sg20,Tryz.f26,an20,3000,rfl,Tryz.func26,rd20,.nil⟩,
 ⟨sg21,Tryz.f40,an21,3000,rfl,Tryz.func40,rd21,.nil⟩,
 ⟨sg22,Tryz.f41,an22,3000,rfl,Tryz.func41,rd22,.nil⟩,
 ⟨sg23,Tryz.f42,an23,3000,rfl,Tryz.func42,rd23,.nil⟩,
 ⟨sg24,Tryz.f43,an24,3000,rfl,Tryz.func43,rd24,.nil⟩,
 ⟨sg25,Tryz.f44,an25,3000,rfl,Tryz.func44,rd25,.nil⟩,
 ⟨sg26,Tryz.f45,an26,3000,rfl,Tryz.func45,rd26,.nil⟩,
 ⟨sg27,Tryz.f46,an27,3000,rfl,Tryz.func46,rd27,.nil⟩,
 ⟨sg28,Tryz.f47,an28,3000,rfl,Tryz.func47,rd28,.nil⟩,
 ⟨sg29,Tryz.f33,an29,3000,rfl,Tryz.func33,rd29,.nil⟩,
 ⟨sg30,Tryz.f34,an30,3000,rfl,Tryz.func34,rd30,.nil⟩,
 ⟨sg31,Tryz.f35,an31,3000,rfl,Tryz.func35,rd31,.nil⟩,
 ⟨sg32,Tryz.f8,an32,3000,rfl,Tryz.func8,rd32,.nil⟩,
 ⟨sg33,Tryz.f36,an33,3000,rfl,Tryz.func36,rd33,.nil⟩,
 ⟨sg34,Tryz.f48,an34,3000,rfl,Tryz.func48,rd34,.nil⟩,
 ⟨sg35,Tryz.f49,an35,3000,rfl,Tryz.func49,rd35,.nil⟩,
 ⟨sg36,Tryz.f15,an36,3000,rfl,Tryz.func15,rd36,.nil⟩,
 ⟨sg37,Tryz.f39,an37,3000,rfl,Tryz.func39,rd37,.nil⟩,
 ⟨sg38,Tryz.f51,an38,3000,rfl,Tryz.func51,rd38,.nil⟩,
 ⟨sg39,Tryz.f55,an39,3000,rfl,Tryz.func55,rd39,.nil⟩,
 ⟨sg40,Tryz.f54,an40,3000,rfl,Tryz.func54,rd40,.nil⟩,
 ⟨sg41,Tryz.f56,an41,3000,rfl,Tryz.func56,rd41,.nil⟩,
 ⟨sg42,Tryz.f71,an42,3000,rfl,Tryz.func71,rd42,.nil⟩,
 ⟨sg43,Tryz.f72,an43,3000,rfl,Tryz.func72,rd43,.nil⟩,
 ⟨sg44,Tryz.f73,an44,3000,rfl,Tryz.func73,rd44,.nil⟩,
 ⟨sg45,Tryz.f74,an45,3000,rfl,Tryz.func74,rd45,.nil⟩,
 ⟨sg46,Tryz.f75,an46,3000,rfl,Tryz.func75,rd46,.nil⟩,
 ⟨sg47,Tryz.f65,an47,3000,rfl,Tryz.func65,rd47,.nil⟩,
 ext48_ok hG,
 ⟨sg49,Tryz.f67,an49,3000,rfl,Tryz.func67,rd49,.nil⟩,
 ext50_ok hG,
 ext51_ok hG,
 ⟨sg52,Tryz.f70,an52,3000,rfl,Tryz.func70,rd52,.nil⟩,
 ⟨sg53,Tryz.f27,an53,3000,rfl,Tryz.func27,rd53,.nil⟩,
 ⟨sg54,Tryz.f28,an54,3000,rfl,Tryz.func28,rd54,.nil⟩,
 ⟨sg55,Tryz.f37,an55,3000,rfl,Tryz.func37,rd55,.nil⟩,
 ⟨sg56,Tryz.f76,an56,3000,rfl,Tryz.func76,rd56,.nil⟩,
 ⟨sg57,Tryz.f77,an57,3000,rfl,Tryz.func77,rd57,.nil⟩,
 ⟨sg58,Tryz.f106,an58,3000,rfl,Tryz.func106,rd58,.nil⟩,
 ⟨sg59,Tryz.f107,an59,3000,rfl,Tryz.func107,rd59,.nil⟩,
 ⟨sg60,Tryz.f108,an60,3000,rfl,Tryz.func108,rd60,.nil⟩,
 ⟨sg61,Tryz.f109,an61,3000,rfl,Tryz.func109,rd61,.nil⟩,
 ext62_ok hG,
 ext63_ok hG,
 ⟨sg64,Tryz.f104,an64,3000,rfl,Tryz.func104,rd64,.nil⟩,
 ⟨sg65,Tryz.f105,an65,3000,rfl,Tryz.func105,rd65,.nil⟩,
 ⟨sg66,Tryz.f32,an66,3000,rfl,Tryz.func32,rd66,.nil⟩,
 ⟨sg67,Tryz.f57,an67,3000,rfl,Tryz.func57,rd67,.nil⟩,
 ⟨sg68,Tryz.f58,an68,3000,rfl,Tryz.func58,rd68,.nil⟩,
 ⟨sg69,Tryz.f59,an69,3000,rfl,Tryz.func59,rd69,.nil⟩,
 ⟨sg70,Tryz.f29,an70,3000,rfl,Tryz.func29,rd70,.nil⟩,
 ⟨sg71,Tryz.f38,an71,3000,rfl,Tryz.func38,rd71,.nil⟩,
 ⟨sg72,Tryz.f52,an72,3000,rfl,Tryz.func52,rd72,.nil⟩,
 ⟨sg73,Tryz.f117,an73,3000,rfl,Tryz.func117,rd73,.nil⟩,
 ⟨sg74,Tryz.f118,an74,3000,rfl,Tryz.func118,rd74,.nil⟩,
 ⟨sg75,Tryz.f116,an75,3000,rfl,Tryz.func116,rd75,.nil⟩,
 ⟨sg76,Tryz.f62,an76,3000,rfl,Tryz.func62,rd76,.nil⟩,
 ⟨sg77,Tryz.f63,an77,3000,rfl,Tryz.func63,rd77,.nil⟩,
 ⟨sg78,Tryz.f64,an78,3000,rfl,Tryz.func64,rd78,.nil⟩,
 ⟨sg79,Tryz.f79,an79,3000,rfl,Tryz.func79,rd79,.nil⟩,
 ⟨sg80,Tryz.f60,an80,3000,rfl,Tryz.func60,rd80,.nil⟩,
 ⟨sg81,Tryz.f53,an81,3000,rfl,Tryz.func53,rd81,.nil⟩,
 ⟨sg82,Tryz.f110,an82,3000,rfl,Tryz.func110,rd82,.nil⟩,
 ⟨sg83,Tryz.f80,an83,3000,rfl,Tryz.func80,rd83,.nil⟩,
 ⟨sg84,Tryz.f78,an84,3000,rfl,Tryz.func78,rd84,.nil⟩,
 ⟨sg85,Tryz.f50,an85,3000,rfl,Tryz.func50,rd85,.nil⟩,trivial⟩
def tb:Nat→TE:=tbOf tbl
theorem qnyb (hG:GHyp G):TabOK Tryz.prog G T SG sigs tb:=qjx (qlwb hG)
theorem gok:GOK G SG:=⟨(fun g cs h=>by cases h),(fun g cs h=>by cases h)⟩
end Go.Proofs.YtnfecjmddbehiaaGreat

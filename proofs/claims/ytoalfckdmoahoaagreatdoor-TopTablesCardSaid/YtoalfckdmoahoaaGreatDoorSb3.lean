/- What functions of the program compute: lemmas. -/
import Derived.Test.YtoalfckdmoahoaaGreatDoorSb1
import Derived.Test.YtoalfckdmoahoaaGreatDoorAtE
import Derived.Test.YtoalfckdmoahoaaGreatDoorSqE
import Derived.Test.YtoalfckdmoahoaaGreatDoorUd
import Derived.Test.YtoalfckdmoahoaaGreatDoorBc
set_option linter.unusedSimpArgs false
set_option linter.unusedVariables false
set_option linter.unusedSectionVars false
namespace Go.Proofs.YtoalfckdmoahoaaGreatDoor
open Go Am
set_option maxRecDepth 100000
variable {G:Glob}
abbrev ext12:PF:=checkE
theorem ext12_ok (hG:GHyp G):TEok Tryz.prog G T SG sigs 12 (.ext ext12):=⟨fun _ _ _ _ h=>qbt h,fun sg h=>by cases h;exact qicb⟩
abbrev ext18:PF:=valuesE
theorem ext18_ok (hG:GHyp G):TEok Tryz.prog G T SG sigs 18 (.ext ext18):=⟨fun _ _ _ _ h=>qmn h,fun sg h=>by cases h;exact qjw⟩
abbrev ext20:PF:=compactE
theorem ext20_ok (hG:GHyp G):TEok Tryz.prog G T SG sigs 20 (.ext ext20):=⟨fun _ _ _ _ h=>qcm h,fun sg h=>by cases h;exact qnt⟩
abbrev ext21:PF:=cloneE
theorem ext21_ok (hG:GHyp G):TEok Tryz.prog G T SG sigs 21 (.ext ext21):=⟨fun _ _ _ _ h=>qsr h,fun sg h=>by cases h;exact qrbb⟩
abbrev ext35:PF:=collectE
theorem ext35_ok (hG:GHyp G):TEok Tryz.prog G T SG sigs 35 (.ext ext35):=⟨fun _ _ _ _ h=>qum h,fun sg h=>by cases h;exact qms⟩
abbrev ext36:PF:=sortE
theorem ext36_ok (hG:GHyp G):TEok Tryz.prog G T SG sigs 36 (.ext ext36):=⟨fun _ _ _ _ h=>qjy h,fun sg h=>by cases h;exact qtjb⟩
abbrev ext48:PF:=atomsE
theorem ext48_ok (hG:GHyp G):TEok Tryz.prog G T SG sigs 48 (.ext ext48):=⟨fun _ _ _ _ h=>qmt h,fun sg h=>by cases h;exact qxcb⟩
abbrev ext59:PF:=tzE
theorem ext59_ok (hG:GHyp G):TEok Tryz.prog G T SG sigs 59 (.ext ext59):=⟨fun _ _ _ _ h=>qtqb h,fun sg h=>by cases h;exact (qbub hG)⟩
abbrev ext79:PF:=revE
theorem ext79_ok (hG:GHyp G):TEok Tryz.prog G T SG sigs 79 (.ext ext79):=⟨fun _ _ _ _ h=>qkdb h,fun sg h=>by cases h;exact qrlb⟩
def tbl:List TE:=[.ext noneE,.ir ir1,.ir ir2,.ir ir3,.ir ir4,.ir ir5,.ir ir6,.ir ir7,.ir ir8,.ir ir9,.ir ir10,.ir ir11,.ext ext12,.ir ir13,.ir ir14,.ir ir15,.ir ir16,.ir ir17,.ext ext18,.ir ir19,.ext ext20,.ext ext21,.ir ir22,.ir ir23,.ir ir24,.ir ir25,.ir ir26,.ir ir27,.ir ir28,.ir ir29,.ir ir30,.ir ir31,.ir ir32,.ir ir33,.ir ir34,.ext ext35,.ext ext36,.ir ir37,.ir ir38,.ir ir39,.ir ir40,.ir ir41,.ir ir42,.ir ir43,.ir ir44,.ir ir45,.ir ir46,.ir ir47,.ext ext48,.ir ir49,.ir ir50,.ir ir51,.ir ir52,.ir ir53,.ir ir54,.ir ir55,.ir ir56,.ir ir57,.ir ir58,.ext ext59,.ir ir60,.ir ir61,.ir ir62,.ir ir63,.ir ir64,.ir ir65,.ir ir66,.ir ir67,.ir ir68,.ir ir69,.ir ir70,.ir ir71,.ir ir72,.ir ir73,.ir ir74,.ir ir75,.ir ir76,.ir ir77,.ir ir78,.ext ext79,.ir ir80,.ir ir81,.ir ir82,.ir ir83]
theorem qdac (hG:GHyp G):TLok Tryz.prog G T SG sigs 0 tbl:=⟨TEok.none 0,
 ⟨sg1,Tryz.f4,an1,3000,rfl,Tryz.func4,rd1,.nil⟩,
 ⟨sg2,Tryz.f5,an2,3000,rfl,Tryz.func5,rd2,.nil⟩,
 ⟨sg3,Tryz.f6,an3,3000,rfl,Tryz.func6,rd3,.nil⟩,
 ⟨sg4,Tryz.f7,an4,3000,rfl,Tryz.func7,rd4,.nil⟩,
 ⟨sg5,Tryz.f8,an5,3000,rfl,Tryz.func8,rd5,.nil⟩,
 ⟨sg6,Tryz.f9,an6,3000,rfl,Tryz.func9,rd6,.nil⟩,
 ⟨sg7,Tryz.f10,an7,3000,rfl,Tryz.func10,rd7,.nil⟩,
 ⟨sg8,Tryz.f11,an8,3000,rfl,Tryz.func11,rd8,.nil⟩,
 ⟨sg9,Tryz.f12,an9,3000,rfl,Tryz.func12,rd9,.nil⟩,
 ⟨sg10,Tryz.f13,an10,3000,rfl,Tryz.func13,rd10,.nil⟩,
 ⟨sg11,Tryz.f14,an11,3000,rfl,Tryz.func14,rd11,.nil⟩,
 ext12_ok hG,
 ⟨sg13,Tryz.f16,an13,3000,rfl,Tryz.func16,rd13,.nil⟩,
 ⟨sg14,Tryz.f17,an14,3000,rfl,Tryz.func17,rd14,.nil⟩,
 ⟨sg15,Tryz.f19,an15,3000,rfl,Tryz.func19,rd15,.nil⟩,
 ⟨sg16,Tryz.f18,an16,3000,rfl,Tryz.func18,rd16,.nil⟩,
 ⟨sg17,Tryz.f20,an17,3000,rfl,Tryz.func20,rd17,.nil⟩,
 ext18_ok hG,
 ⟨sg19,Tryz.f22,an19,3000,rfl,Tryz.func22,rd19,.nil⟩,
 ext20_ok hG,
 ext21_ok hG,
 ⟨sg22,Tryz.f25,an22,3000,rfl,Tryz.func25,rd22,.nil⟩,
 ⟨sg23,Tryz.f26,an23,3000,rfl,Tryz.func26,rd23,.nil⟩,
 ⟨sg24,Tryz.f27,an24,3000,rfl,Tryz.func27,rd24,.nil⟩,
 ⟨sg25,Tryz.f28,an25,3000,rfl,Tryz.func28,rd25,.nil⟩,
 ⟨sg26,Tryz.f29,an26,3000,rfl,Tryz.func29,rd26,.nil⟩,
 ⟨sg27,Tryz.f30,an27,3000,rfl,Tryz.func30,rd27,.nil⟩,
 ⟨sg28,Tryz.f31,an28,3000,rfl,Tryz.func31,rd28,.nil⟩,
 ⟨sg29,Tryz.f32,an29,3000,rfl,Tryz.func32,rd29,.nil⟩,
 ⟨sg30,Tryz.f33,an30,3000,rfl,Tryz.func33,rd30,.nil⟩,
 ⟨sg31,Tryz.f37,an31,3000,rfl,Tryz.func37,rd31,.nil⟩,
 ⟨sg32,Tryz.f38,an32,3000,rfl,Tryz.func38,rd32,.nil⟩,
 ⟨sg33,Tryz.f39,an33,3000,rfl,Tryz.func39,rd33,.nil⟩,
 ⟨sg34,Tryz.f40,an34,3000,rfl,Tryz.func40,rd34,.nil⟩,
 ext35_ok hG,
 ext36_ok hG,
 ⟨sg37,Tryz.f44,an37,3000,rfl,Tryz.func44,rd37,.nil⟩,
 ⟨sg38,Tryz.f45,an38,3000,rfl,Tryz.func45,rd38,.nil⟩,
 ⟨sg39,Tryz.f47,an39,3000,rfl,Tryz.func47,rd39,.nil⟩,
 ⟨sg40,Tryz.f46,an40,3000,rfl,Tryz.func46,rd40,.nil⟩,
 ⟨sg41,Tryz.f48,an41,3000,rfl,Tryz.func48,rd41,.nil⟩,
 ⟨sg42,Tryz.f49,an42,3000,rfl,Tryz.func49,rd42,.nil⟩,
 ⟨sg43,Tryz.f50,an43,3000,rfl,Tryz.func50,rd43,.nil⟩,
 ⟨sg44,Tryz.f51,an44,3000,rfl,Tryz.func51,rd44,.nil⟩,
 ⟨sg45,Tryz.f52,an45,3000,rfl,Tryz.func52,rd45,.nil⟩,
 ⟨sg46,Tryz.f53,an46,3000,rfl,Tryz.func53,rd46,.nil⟩,
 ⟨sg47,Tryz.f54,an47,3000,rfl,Tryz.func54,rd47,.nil⟩,
 ext48_ok hG,
 ⟨sg49,Tryz.f56,an49,3000,rfl,Tryz.func56,rd49,.nil⟩,
 ⟨sg50,Tryz.f57,an50,3000,rfl,Tryz.func57,rd50,.nil⟩,
 ⟨sg51,Tryz.f58,an51,3000,rfl,Tryz.func58,rd51,.nil⟩,
 ⟨sg52,Tryz.f64,an52,3000,rfl,Tryz.func64,rd52,.nil⟩,
 ⟨sg53,Tryz.f65,an53,3000,rfl,Tryz.func65,rd53,.nil⟩,
 ⟨sg54,Tryz.f69,an54,3000,rfl,Tryz.func69,rd54,.nil⟩,
 ⟨sg55,Tryz.f70,an55,3000,rfl,Tryz.func70,rd55,.nil⟩,
 ⟨sg56,Tryz.f71,an56,3000,rfl,Tryz.func71,rd56,.nil⟩,
 ⟨sg57,Tryz.f72,an57,3000,rfl,Tryz.func72,rd57,.nil⟩,
 ⟨sg58,Tryz.f73,an58,3000,rfl,Tryz.func73,rd58,.nil⟩,
 ext59_ok hG,
 ⟨sg60,Tryz.f79,an60,3000,rfl,Tryz.func79,rd60,.nil⟩,
 ⟨sg61,Tryz.f74,an61,3000,rfl,Tryz.func74,rd61,.nil⟩,
 ⟨sg62,Tryz.f76,an62,3000,rfl,Tryz.func76,rd62,.nil⟩,
 ⟨sg63,Tryz.f77,an63,3000,rfl,Tryz.func77,rd63,.nil⟩,
 ⟨sg64,Tryz.f80,an64,3000,rfl,Tryz.func80,rd64,.nil⟩,
 ⟨sg65,Tryz.f82,an65,3000,rfl,Tryz.func82,rd65,.nil⟩,
 ⟨sg66,Tryz.f81,an66,3000,rfl,Tryz.func81,rd66,.nil⟩,
 ⟨sg67,Tryz.f83,an67,3000,rfl,Tryz.func83,rd67,.nil⟩,
 ⟨sg68,Tryz.f84,an68,3000,rfl,Tryz.func84,rd68,.nil⟩,
 ⟨sg69,Tryz.f85,an69,3000,rfl,Tryz.func85,rd69,.nil⟩,
 ⟨sg70,Tryz.f85,an70,3000,rfl,Tryz.func85,rd70,.nil⟩,
 ⟨sg71,Tryz.f91,an71,3000,rfl,Tryz.func91,rd71,.nil⟩,
 ⟨sg72,Tryz.f92,an72,3000,rfl,Tryz.func92,rd72,.nil⟩,
 ⟨sg73,Tryz.f118,an73,3000,rfl,Tryz.func118,rd73,.nil⟩,
 ⟨sg74,Tryz.f119,an74,3000,rfl,Tryz.func119,rd74,.nil⟩,
 ⟨sg75,Tryz.f130,an75,3000,rfl,Tryz.func130,rd75,.nil⟩,
 ⟨sg76,Tryz.f75,an76,3000,rfl,Tryz.func75,rd76,.nil⟩,
 ⟨sg77,Tryz.f131,an77,3000,rfl,Tryz.func131,rd77,.nil⟩,
 ⟨sg78,Tryz.f133,an78,3000,rfl,Tryz.func133,rd78,.nil⟩,
 ext79_ok hG,
 ⟨sg80,Tryz.f86,an80,3000,rfl,Tryz.func86,rd80,.nil⟩,
 ⟨sg81,Tryz.f87,an81,3000,rfl,Tryz.func87,rd81,.nil⟩,
 ⟨sg82,Tryz.f139,an82,3000,rfl,Tryz.func139,rd82,.nil⟩,
 ⟨sg83,Tryz.f145,an83,3000,rfl,Tryz.func145,rd83,.nil⟩,trivial⟩
def tb:Nat→TE:=tbOf tbl
theorem quj (hG:GHyp G):TabOK Tryz.prog G T SG sigs tb:=qtp (qdac hG)
theorem gok:GOK G SG:=⟨(fun g cs h=>by cases h),(fun g cs h=>by cases h)⟩
end Go.Proofs.YtoalfckdmoahoaaGreatDoor

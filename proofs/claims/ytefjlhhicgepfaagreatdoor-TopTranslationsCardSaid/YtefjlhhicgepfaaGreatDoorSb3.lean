/- Lemmas. -/
import Derived.Test.YtefjlhhicgepfaaGreatDoorAtE
import Derived.Test.YtefjlhhicgepfaaGreatDoorSa5
set_option linter.unusedSimpArgs false
set_option linter.unusedVariables false
set_option linter.unusedSectionVars false
namespace Go.Proofs.YtefjlhhicgepfaaGreatDoor
open Go.Proofs.Tryz
open Go Am
set_option maxRecDepth 100000
variable {G:bl}
abbrev ext6:PF:=sh
theorem ext6_ok(_:mq G):nz prog G T SG sigs 6 (.ext ext6):=nz.none 6
abbrev ext7:PF:=zn
theorem ext7_ok(hG:mq G):nz prog G T SG sigs 7 (.ext ext7):=⟨fun _ _ _ _ h=>amg h,fun sg h=>by cases h;exact (avi hG)⟩
abbrev ext22:PF:=ur
theorem ext22_ok(hG:mq G):nz prog G T SG sigs 22 (.ext ext22):=⟨fun _ _ _ _ h=>qpu (by assumption) h,fun sg h=>by cases h;exact az8⟩
abbrev ext41:PF:=me
theorem ext41_ok(hG:mq G):nz prog G T SG sigs 41 (.ext ext41):=⟨fun _ _ _ _ h=>qhp h,fun sg h=>by cases h;exact qoy⟩
abbrev ext61:PF:=pf
theorem ext61_ok(hG:mq G):nz prog G T SG sigs 61 (.ext ext61):=⟨fun _ _ _ _ h=>qgs h,fun sg h=>by cases h;exact awy⟩
abbrev ext64:PF:=rm
theorem ext64_ok(hG:mq G):nz prog G T SG sigs 64 (.ext ext64):=⟨fun _ _ _ _ h=>qcp h,fun sg h=>by cases h;exact qxx⟩
abbrev ext66:PF:=ng
theorem ext66_ok(hG:mq G):nz prog G T SG sigs 66 (.ext ext66):=⟨fun _ _ _ _ h=>qsm h,fun sg h=>by cases h;exact qss⟩
abbrev ext67:PF:=pq
theorem ext67_ok(hG:mq G):nz prog G T SG sigs 67 (.ext ext67):=⟨fun _ _ _ _ h=>qdu h,fun sg h=>by cases h;exact ay2⟩
abbrev ext88:PF:=nq
theorem ext88_ok(hG:mq G):nz prog G T SG sigs 88 (.ext ext88):=⟨fun _ _ _ _ h=>qkn h,fun sg h=>by cases h;exact qhu⟩
abbrev ext89:PF:=yq
theorem ext89_ok(hG:mq G):nz prog G T SG sigs 89 (.ext ext89):=⟨fun _ _ _ _ h=>qzy h,fun sg h=>by cases h;exact asa⟩
def tbl:List TE:=[.ir ir0,.ir ir1,.ir ir2,.ir ir3,.ir ir4,.ir ir5,.ext ext6,.ext ext7,.ir ir8,.ir ir9,.ir ir10,.ir ir11,.ir ir12,.ir ir13,.ir ir14,.ir ir15,.ir ir16,.ir ir17,.ir ir18,.ir ir19,.ir ir20,.ir ir21,.ext ext22,.ir ir23,.ir ir24,.ir ir25,.ir ir26,.ir ir27,.ir ir28,.ir ir29,.ir ir30,.ir ir31,.ir ir32,.ir ir33,.ir ir34,.ir ir35,.ir ir36,.ir ir37,.ir ir38,.ir ir39,.ir ir40,.ext ext41,.ir ir42,.ir ir43,.ir ir44,.ir ir45,.ir ir46,.ir ir47,.ir ir48,.ir ir49,.ir ir50,.ir ir51,.ir ir52,.ir ir53,.ir ir54,.ir ir55,.ir ir56,.ir ir57,.ir ir58,.ir ir59,.ir ir60,.ext ext61,.ir ir62,.ir ir63,.ext ext64,.ir ir65,.ext ext66,.ext ext67,.ir ir68,.ir ir69,.ir ir70,.ir ir71,.ir ir72,.ir ir73,.ir ir74,.ir ir75,.ir ir76,.ir ir77,.ir ir78,.ir ir79,.ir ir80,.ir ir81,.ir ir82,.ir ir83,.ir ir84,.ir ir85,.ir ir86,.ir ir87,.ext ext88,.ext ext89,.ir ir90,.ir ir91,.ir ir92,.ir ir93,.ir ir94,.ir ir95,.ir ir96,.ir ir97,.ir ir98,.ir ir99,.ir ir100,.ir ir101,.ir ir102,.ir ir103,.ir ir104,.ir ir105,.ir ir106,.ir ir107,.ir ir108,.ir ir109,.ir ir110]
theorem atp(hG:mq G):aah prog G T SG sigs 0 tbl:=⟨⟨sg0,f3,an0,3000,rfl,func3,rd0,.nil⟩,
 ⟨sg1,f4,an1,3000,rfl,func4,rd1,.nil⟩,
 ⟨sg2,f5,an2,3000,rfl,func5,rd2,.nil⟩,
 ⟨sg3,f6,an3,3000,rfl,func6,rd3,.nil⟩,
 ⟨sg4,f7,an4,3000,rfl,func7,rd4,.nil⟩,
 ⟨sg5,f8,an5,3000,rfl,func8,rd5,.nil⟩,
 ext6_ok hG,
 ext7_ok hG,
 ⟨sg8,f11,an8,3000,rfl,func11,rd8,.nil⟩,
 ⟨sg9,f12,an9,3000,rfl,func12,rd9,a6r rfl⟩,
 ⟨sg10,f13,an10,3000,rfl,func13,rd10,.nil⟩,
 ⟨sg11,f14,an11,3000,rfl,func14,rd11,.nil⟩,
 ⟨sg12,f15,an12,3000,rfl,func15,rd12,.nil⟩,
 ⟨sg13,f16,an13,3000,rfl,func16,rd13,.nil⟩,
 ⟨sg14,f17,an14,3000,rfl,func17,rd14,.nil⟩,
 ⟨sg15,f18,an15,3000,rfl,func18,rd15,.nil⟩,
 ⟨sg16,f19,an16,3000,rfl,func19,rd16,.nil⟩,
 ⟨sg17,f20,an17,3000,rfl,func20,rd17,.nil⟩,
 ⟨sg18,f21,an18,3000,rfl,func21,rd18,.nil⟩,
 ⟨sg19,f22,an19,3000,rfl,func22,rd19,.nil⟩,
 ⟨sg20,f23,an20,3000,rfl,func23,rd20,.nil⟩,
 ⟨sg21,f24,an21,3000,rfl,func24,rd21,.nil⟩,
 ext22_ok hG,
 ⟨sg23,f31,an23,3000,rfl,func31,rd23,.nil⟩,
 ⟨sg24,f32,an24,3000,rfl,func32,rd24,.nil⟩,
 ⟨sg25,f33,an25,3000,rfl,func33,rd25,.nil⟩,
 ⟨sg26,f34,an26,3000,rfl,func34,rd26,.nil⟩,
 ⟨sg27,f35,an27,3000,rfl,func35,rd27,.nil⟩,
 ⟨sg28,f36,an28,3000,rfl,func36,rd28,.nil⟩,
 ⟨sg29,f37,an29,3000,rfl,func37,rd29,.nil⟩,
 ⟨sg30,f38,an30,3000,rfl,func38,rd30,.nil⟩,
 ⟨sg31,f39,an31,3000,rfl,func39,rd31,.nil⟩,
 ⟨sg32,f40,an32,3000,rfl,func40,rd32,.nil⟩,
 ⟨sg33,f41,an33,3000,rfl,func41,rd33,.nil⟩,
 ⟨sg34,f42,an34,3000,rfl,func42,rd34,.nil⟩,
 ⟨sg35,f43,an35,3000,rfl,func43,rd35,.nil⟩,
 ⟨sg36,f44,an36,3000,rfl,func44,rd36,.nil⟩,
 ⟨sg37,f45,an37,3000,rfl,func45,rd37,.nil⟩,
 ⟨sg38,f46,an38,3000,rfl,func46,rd38,.nil⟩,
 ⟨sg39,f47,an39,3000,rfl,func47,rd39,.nil⟩,
 ⟨sg40,f48,an40,3000,rfl,func48,rd40,.nil⟩,
 ext41_ok hG,
 ⟨sg42,f49,an42,3000,rfl,func49,rd42,.nil⟩,
 ⟨sg43,f52,an43,3000,rfl,func52,rd43,.nil⟩,
 ⟨sg44,f53,an44,3000,rfl,func53,rd44,.nil⟩,
 ⟨sg45,f54,an45,3000,rfl,func54,rd45,.nil⟩,
 ⟨sg46,f55,an46,3000,rfl,func55,rd46,.nil⟩,
 ⟨sg47,f56,an47,3000,rfl,func56,rd47,.nil⟩,
 ⟨sg48,f57,an48,3000,rfl,func57,rd48,.nil⟩,
 ⟨sg49,f60,an49,3000,rfl,func60,rd49,.nil⟩,
 ⟨sg50,f59,an50,3000,rfl,func59,rd50,.nil⟩,
 ⟨sg51,f61,an51,3000,rfl,func61,rd51,.nil⟩,
 ⟨sg52,f62,an52,3000,rfl,func62,rd52,.nil⟩,
 ⟨sg53,f63,an53,3000,rfl,func63,rd53,.nil⟩,
 ⟨sg54,f64,an54,3000,rfl,func64,rd54,.nil⟩,
 ⟨sg55,f26,an55,3000,rfl,func26,rd55,.nil⟩,
 ⟨sg56,f65,an56,3000,rfl,func65,rd56,.nil⟩,
 ⟨sg57,f74,an57,3000,rfl,func74,rd57,.nil⟩,
 ⟨sg58,f75,an58,3000,rfl,func75,rd58,.nil⟩,
 ⟨sg59,f76,an59,3000,rfl,func76,rd59,.nil⟩,
 ⟨sg60,f27,an60,3000,rfl,func27,rd60,.nil⟩,
 ext61_ok hG,
 ⟨sg62,f79,an62,3000,rfl,func79,rd62,.nil⟩,
 ⟨sg63,f80,an63,3000,rfl,func80,rd63,.nil⟩,
 ext64_ok hG,
 ⟨sg65,f82,an65,3000,rfl,func82,rd65,.nil⟩,
 ext66_ok hG,
 ext67_ok hG,
 ⟨sg68,f85,an68,3000,rfl,func85,rd68,.nil⟩,
 ⟨sg69,f86,an69,3000,rfl,func86,rd69,.nil⟩,
 ⟨sg70,f87,an70,3000,rfl,func87,rd70,.nil⟩,
 ⟨sg71,f88,an71,3000,rfl,func88,rd71,.nil⟩,
 ⟨sg72,f89,an72,3000,rfl,func89,rd72,.nil⟩,
 ⟨sg73,f51,an73,3000,rfl,func51,rd73,.nil⟩,
 ⟨sg74,f90,an74,3000,rfl,func90,rd74,.nil⟩,
 ⟨sg75,f92,an75,3000,rfl,func92,rd75,.nil⟩,
 ⟨sg76,f58,an76,3000,rfl,func58,rd76,.nil⟩,
 ⟨sg77,f95,an77,3000,rfl,func95,rd77,.nil⟩,
 ⟨sg78,f96,an78,3000,rfl,func96,rd78,.nil⟩,
 ⟨sg79,f66,an79,3000,rfl,func66,rd79,.nil⟩,
 ⟨sg80,f97,an80,3000,rfl,func97,rd80,.nil⟩,
 ⟨sg81,f98,an81,3000,rfl,func98,rd81,.nil⟩,
 ⟨sg82,f100,an82,3000,rfl,func100,rd82,.nil⟩,
 ⟨sg83,f101,an83,3000,rfl,func101,rd83,.nil⟩,
 ⟨sg84,f67,an84,3000,rfl,func67,rd84,.nil⟩,
 ⟨sg85,f67,an85,3000,rfl,func67,rd85,.nil⟩,
 ⟨sg86,f105,an86,3000,rfl,func105,rd86,.nil⟩,
 ⟨sg87,f106,an87,3000,rfl,func106,rd87,.nil⟩,
 ext88_ok hG,
 ext89_ok hG,
 ⟨sg90,f110,an90,3000,rfl,func110,rd90,.nil⟩,
 ⟨sg91,f111,an91,3000,rfl,func111,rd91,.nil⟩,
 ⟨sg92,f112,an92,3000,rfl,func112,rd92,.nil⟩,
 ⟨sg93,f113,an93,3000,rfl,func113,rd93,.nil⟩,
 ⟨sg94,f114,an94,3000,rfl,func114,rd94,.nil⟩,
 ⟨sg95,f115,an95,3000,rfl,func115,rd95,.nil⟩,
 ⟨sg96,f116,an96,3000,rfl,func116,rd96,.nil⟩,
 ⟨sg97,f117,an97,3000,rfl,func117,rd97,.nil⟩,
 ⟨sg98,f118,an98,3000,rfl,func118,rd98,.nil⟩,
 ⟨sg99,f121,an99,3000,rfl,func121,rd99,.nil⟩,
 ⟨sg100,f68,an100,3000,rfl,func68,rd100,.nil⟩,
 ⟨sg101,f69,an101,3000,rfl,func69,rd101,.nil⟩,
 ⟨sg102,f128,an102,3000,rfl,func128,rd102,.nil⟩,
 ⟨sg103,f129,an103,3000,rfl,func129,rd103,.nil⟩,
 ⟨sg104,f93,an104,3000,rfl,func93,rd104,.nil⟩,
 ⟨sg105,f122,an105,3000,rfl,func122,rd105,.nil⟩,
 ⟨sg106,f94,an106,3000,rfl,func94,rd106,.nil⟩,
 ⟨sg107,f121,an107,3000,rfl,func121,rd107,.nil⟩,
 ⟨sg108,f119,an108,3000,rfl,func119,rd108,.nil⟩,
 ⟨sg109,f150,an109,3000,rfl,func150,rd109,.nil⟩,
 ⟨sg110,f91,an110,3000,rfl,func91,rd110,.nil⟩,trivial⟩
def tb:Nat→TE:=abw tbl
theorem acz(hG:mq G):uu prog G T SG sigs tb:=qqp (atp hG)
theorem gok:GOK G SG:=⟨(fun g cs h=>by cases h),(fun g cs h=>by cases h)⟩
end Go.Proofs.YtefjlhhicgepfaaGreatDoor

/- Plain programs of the functions of the program and lemmas about what they compute. -/
import Derived.Test.YtefkehflmlikmaaDoorSb1
import Derived.Test.YtefkehflmlikmaaDoorAtE
import Derived.Test.YtefkehflmlikmaaDoorTz
set_option linter.unusedSimpArgs false
set_option linter.unusedVariables false
set_option linter.unusedSectionVars false
namespace Go.Proofs.YtefkehflmlikmaaDoor
open Go Am
set_option maxRecDepth 100000
variable {G : Glob}
abbrev ext26 : PF := tzE
theorem ext26_ok (hG : GHyp G) : TEok Tryd.prog G T SG sigs 26 (.ext ext26) := ⟨fun _ _ _ _ h => tzE_wf h, fun sg h => by cases h; exact (tzE_sig hG.2)⟩
abbrev ext35 : PF := fmtE
theorem ext35_ok (hG : GHyp G) : TEok Tryd.prog G T SG sigs 35 (.ext ext35) := ⟨fun _ _ _ _ h => fmtE_wf h, fun sg h => by cases h; exact (fmtE_sig hG.1)⟩
abbrev ext42 : PF := atomsE
theorem ext42_ok (hG : GHyp G) : TEok Tryd.prog G T SG sigs 42 (.ext ext42) := ⟨fun _ _ _ _ h => atomsE_wf h, fun sg h => by cases h; exact atomsE_sig⟩
def tbl : List TE := [.ir ir0, .ir ir1, .ir ir2, .ir ir3, .ir ir4, .ir ir5, .ir ir6, .ir ir7, .ir ir8, .ir ir9, .ir ir10, .ir ir11, .ir ir12, .ir ir13, .ir ir14, .ir ir15, .ir ir16, .ir ir17, .ir ir18, .ir ir19, .ir ir20, .ir ir21, .ir ir22, .ir ir23, .ir ir24, .ir ir25, .ext ext26, .ir ir27, .ir ir28, .ir ir29, .ir ir30, .ir ir31, .ir ir32, .ir ir33, .ir ir34, .ext ext35, .ir ir36, .ir ir37, .ir ir38, .ir ir39, .ir ir40, .ir ir41, .ext ext42, .ir ir43, .ir ir44, .ir ir45, .ir ir46, .ir ir47, .ir ir48, .ir ir49, .ir ir50, .ir ir51, .ir ir52, .ir ir53, .ir ir54, .ir ir55, .ir ir56, .ir ir57, .ir ir58, .ir ir59]
theorem tbl_ok (hG : GHyp G) : TLok Tryd.prog G T SG sigs 0 tbl := ⟨⟨sg0, Tryd.f12, an0, 3000, rfl, Tryd.func12, rd0⟩,
 ⟨sg1, Tryd.f27, an1, 3000, rfl, Tryd.func27, rd1⟩,
 ⟨sg2, Tryd.f13, an2, 3000, rfl, Tryd.func13, rd2⟩,
 ⟨sg3, Tryd.f23, an3, 3000, rfl, Tryd.func23, rd3⟩,
 ⟨sg4, Tryd.f15, an4, 3000, rfl, Tryd.func15, rd4⟩,
 ⟨sg5, Tryd.f28, an5, 3000, rfl, Tryd.func28, rd5⟩,
 ⟨sg6, Tryd.f41, an6, 3000, rfl, Tryd.func41, rd6⟩,
 ⟨sg7, Tryd.f42, an7, 3000, rfl, Tryd.func42, rd7⟩,
 ⟨sg8, Tryd.f34, an8, 3000, rfl, Tryd.func34, rd8⟩,
 ⟨sg9, Tryd.f16, an9, 3000, rfl, Tryd.func16, rd9⟩,
 ⟨sg10, Tryd.f17, an10, 3000, rfl, Tryd.func17, rd10⟩,
 ⟨sg11, Tryd.f44, an11, 3000, rfl, Tryd.func44, rd11⟩,
 ⟨sg12, Tryd.f45, an12, 3000, rfl, Tryd.func45, rd12⟩,
 ⟨sg13, Tryd.f43, an13, 3000, rfl, Tryd.func43, rd13⟩,
 ⟨sg14, Tryd.f38, an14, 3000, rfl, Tryd.func38, rd14⟩,
 ⟨sg15, Tryd.f46, an15, 3000, rfl, Tryd.func46, rd15⟩,
 ⟨sg16, Tryd.f40, an16, 3000, rfl, Tryd.func40, rd16⟩,
 ⟨sg17, Tryd.f47, an17, 3000, rfl, Tryd.func47, rd17⟩,
 ⟨sg18, Tryd.f32, an18, 3000, rfl, Tryd.func32, rd18⟩,
 ⟨sg19, Tryd.f49, an19, 3000, rfl, Tryd.func49, rd19⟩,
 ⟨sg20, Tryd.f57, an20, 3000, rfl, Tryd.func57, rd20⟩,
 ⟨sg21, Tryd.f62, an21, 3000, rfl, Tryd.func62, rd21⟩,
 ⟨sg22, Tryd.f84, an22, 3000, rfl, Tryd.func84, rd22⟩,
 ⟨sg23, Tryd.f85, an23, 3000, rfl, Tryd.func85, rd23⟩,
 ⟨sg24, Tryd.f69, an24, 3000, rfl, Tryd.func69, rd24⟩,
 ⟨sg25, Tryd.f48, an25, 3000, rfl, Tryd.func48, rd25⟩,
 ext26_ok hG,
 ⟨sg27, Tryd.f87, an27, 3000, rfl, Tryd.func87, rd27⟩,
 ⟨sg28, Tryd.f60, an28, 3000, rfl, Tryd.func60, rd28⟩,
 ⟨sg29, Tryd.f82, an29, 3000, rfl, Tryd.func82, rd29⟩,
 ⟨sg30, Tryd.f83, an30, 3000, rfl, Tryd.func83, rd30⟩,
 ⟨sg31, Tryd.f52, an31, 3000, rfl, Tryd.func52, rd31⟩,
 ⟨sg32, Tryd.f65, an32, 3000, rfl, Tryd.func65, rd32⟩,
 ⟨sg33, Tryd.f33, an33, 3000, rfl, Tryd.func33, rd33⟩,
 ⟨sg34, Tryd.f29, an34, 3000, rfl, Tryd.func29, rd34⟩,
 ext35_ok hG,
 ⟨sg36, Tryd.f101, an36, 3000, rfl, Tryd.func101, rd36⟩,
 ⟨sg37, Tryd.f102, an37, 3000, rfl, Tryd.func102, rd37⟩,
 ⟨sg38, Tryd.f103, an38, 3000, rfl, Tryd.func103, rd38⟩,
 ⟨sg39, Tryd.f70, an39, 3000, rfl, Tryd.func70, rd39⟩,
 ⟨sg40, Tryd.f71, an40, 3000, rfl, Tryd.func71, rd40⟩,
 ⟨sg41, Tryd.f35, an41, 3000, rfl, Tryd.func35, rd41⟩,
 ext42_ok hG,
 ⟨sg43, Tryd.f67, an43, 3000, rfl, Tryd.func67, rd43⟩,
 ⟨sg44, Tryd.f68, an44, 3000, rfl, Tryd.func68, rd44⟩,
 ⟨sg45, Tryd.f63, an45, 3000, rfl, Tryd.func63, rd45⟩,
 ⟨sg46, Tryd.f112, an46, 3000, rfl, Tryd.func112, rd46⟩,
 ⟨sg47, Tryd.f113, an47, 3000, rfl, Tryd.func113, rd47⟩,
 ⟨sg48, Tryd.f72, an48, 3000, rfl, Tryd.func72, rd48⟩,
 ⟨sg49, Tryd.f72, an49, 3000, rfl, Tryd.func72, rd49⟩,
 ⟨sg50, Tryd.f97, an50, 3000, rfl, Tryd.func97, rd50⟩,
 ⟨sg51, Tryd.f98, an51, 3000, rfl, Tryd.func98, rd51⟩,
 ⟨sg52, Tryd.f117, an52, 3000, rfl, Tryd.func117, rd52⟩,
 ⟨sg53, Tryd.f118, an53, 3000, rfl, Tryd.func118, rd53⟩,
 ⟨sg54, Tryd.f73, an54, 3000, rfl, Tryd.func73, rd54⟩,
 ⟨sg55, Tryd.f74, an55, 3000, rfl, Tryd.func74, rd55⟩,
 ⟨sg56, Tryd.f131, an56, 3000, rfl, Tryd.func131, rd56⟩,
 ⟨sg57, Tryd.f132, an57, 3000, rfl, Tryd.func132, rd57⟩,
 ⟨sg58, Tryd.f131, an58, 3000, rfl, Tryd.func131, rd58⟩,
 ⟨sg59, Tryd.f139, an59, 3000, rfl, Tryd.func139, rd59⟩, trivial⟩
def tb : Nat → TE := tbOf tbl
theorem tb_ok (hG : GHyp G) : TabOK Tryd.prog G T SG sigs tb := tabOK_of (tbl_ok hG)
theorem gok : GOK G SG := ⟨(fun g cs h => by cases h), (fun g cs h => by cases h)⟩
end Go.Proofs.YtefkehflmlikmaaDoor

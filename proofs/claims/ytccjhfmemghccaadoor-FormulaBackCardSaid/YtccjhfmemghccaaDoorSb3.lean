/- What functions of the program compute: lemmas. -/
import Derived.Test.YtccjhfmemghccaaDoorSb1
import Derived.Test.YtccjhfmemghccaaDoorSb2
set_option linter.unusedSimpArgs false
set_option linter.unusedVariables false
set_option linter.unusedSectionVars false
namespace Go.Proofs.YtccjhfmemghccaaDoor
open Go Am
set_option maxRecDepth 100000
variable {G : Glob}
abbrev ext12 : PF := fmtE
theorem ext12_ok (hG : GHyp G) : TEok Tryd.prog G T SG sigs 12 (.ext ext12) := ⟨fun _ _ _ _ h => fmtE_wf h, fun sg h => by cases h; exact (fmtE_sig hG)⟩
def tbl : List TE := [.ir ir0, .ir ir1, .ir ir2, .ir ir3, .ir ir4, .ir ir5, .ir ir6, .ir ir7, .ir ir8, .ir ir9, .ir ir10, .ir ir11, .ext ext12, .ir ir13, .ir ir14, .ir ir15, .ir ir16, .ir ir17, .ir ir18, .ir ir19, .ir ir20, .ir ir21, .ir ir22, .ir ir23, .ir ir24, .ir ir25, .ir ir26, .ir ir27, .ir ir28, .ir ir29, .ir ir30, .ir ir31, .ir ir32, .ir ir33, .ir ir34, .ir ir35, .ir ir36, .ir ir37, .ir ir38, .ir ir39, .ir ir40, .ir ir41, .ir ir42, .ir ir43, .ir ir44, .ir ir45, .ir ir46]
theorem tbl_ok (hG : GHyp G) : TLok Tryd.prog G T SG sigs 0 tbl := ⟨⟨sg0, Tryd.f3, an0, 3000, rfl, Tryd.func3, rd0⟩,
 ⟨sg1, Tryd.f4, an1, 3000, rfl, Tryd.func4, rd1⟩,
 ⟨sg2, Tryd.f5, an2, 3000, rfl, Tryd.func5, rd2⟩,
 ⟨sg3, Tryd.f7, an3, 3000, rfl, Tryd.func7, rd3⟩,
 ⟨sg4, Tryd.f6, an4, 3000, rfl, Tryd.func6, rd4⟩,
 ⟨sg5, Tryd.f8, an5, 3000, rfl, Tryd.func8, rd5⟩,
 ⟨sg6, Tryd.f9, an6, 3000, rfl, Tryd.func9, rd6⟩,
 ⟨sg7, Tryd.f10, an7, 3000, rfl, Tryd.func10, rd7⟩,
 ⟨sg8, Tryd.f11, an8, 3000, rfl, Tryd.func11, rd8⟩,
 ⟨sg9, Tryd.f12, an9, 3000, rfl, Tryd.func12, rd9⟩,
 ⟨sg10, Tryd.f13, an10, 3000, rfl, Tryd.func13, rd10⟩,
 ⟨sg11, Tryd.f14, an11, 3000, rfl, Tryd.func14, rd11⟩,
 ext12_ok hG,
 ⟨sg13, Tryd.f16, an13, 3000, rfl, Tryd.func16, rd13⟩,
 ⟨sg14, Tryd.f17, an14, 3000, rfl, Tryd.func17, rd14⟩,
 ⟨sg15, Tryd.f18, an15, 3000, rfl, Tryd.func18, rd15⟩,
 ⟨sg16, Tryd.f19, an16, 3000, rfl, Tryd.func19, rd16⟩,
 ⟨sg17, Tryd.f20, an17, 3000, rfl, Tryd.func20, rd17⟩,
 ⟨sg18, Tryd.f21, an18, 3000, rfl, Tryd.func21, rd18⟩,
 ⟨sg19, Tryd.f22, an19, 3000, rfl, Tryd.func22, rd19⟩,
 ⟨sg20, Tryd.f23, an20, 3000, rfl, Tryd.func23, rd20⟩,
 ⟨sg21, Tryd.f24, an21, 3000, rfl, Tryd.func24, rd21⟩,
 ⟨sg22, Tryd.f25, an22, 3000, rfl, Tryd.func25, rd22⟩,
 ⟨sg23, Tryd.f26, an23, 3000, rfl, Tryd.func26, rd23⟩,
 ⟨sg24, Tryd.f27, an24, 3000, rfl, Tryd.func27, rd24⟩,
 ⟨sg25, Tryd.f28, an25, 3000, rfl, Tryd.func28, rd25⟩,
 ⟨sg26, Tryd.f29, an26, 3000, rfl, Tryd.func29, rd26⟩,
 ⟨sg27, Tryd.f34, an27, 3000, rfl, Tryd.func34, rd27⟩,
 ⟨sg28, Tryd.f35, an28, 3000, rfl, Tryd.func35, rd28⟩,
 ⟨sg29, Tryd.f36, an29, 3000, rfl, Tryd.func36, rd29⟩,
 ⟨sg30, Tryd.f37, an30, 3000, rfl, Tryd.func37, rd30⟩,
 ⟨sg31, Tryd.f38, an31, 3000, rfl, Tryd.func38, rd31⟩,
 ⟨sg32, Tryd.f39, an32, 3000, rfl, Tryd.func39, rd32⟩,
 ⟨sg33, Tryd.f40, an33, 3000, rfl, Tryd.func40, rd33⟩,
 ⟨sg34, Tryd.f41, an34, 3000, rfl, Tryd.func41, rd34⟩,
 ⟨sg35, Tryd.f42, an35, 3000, rfl, Tryd.func42, rd35⟩,
 ⟨sg36, Tryd.f50, an36, 3000, rfl, Tryd.func50, rd36⟩,
 ⟨sg37, Tryd.f51, an37, 3000, rfl, Tryd.func51, rd37⟩,
 ⟨sg38, Tryd.f52, an38, 3000, rfl, Tryd.func52, rd38⟩,
 ⟨sg39, Tryd.f53, an39, 3000, rfl, Tryd.func53, rd39⟩,
 ⟨sg40, Tryd.f54, an40, 3000, rfl, Tryd.func54, rd40⟩,
 ⟨sg41, Tryd.f56, an41, 3000, rfl, Tryd.func56, rd41⟩,
 ⟨sg42, Tryd.f58, an42, 3000, rfl, Tryd.func58, rd42⟩,
 ⟨sg43, Tryd.f57, an43, 3000, rfl, Tryd.func57, rd43⟩,
 ⟨sg44, Tryd.f61, an44, 3000, rfl, Tryd.func61, rd44⟩,
 ⟨sg45, Tryd.f56, an45, 3000, rfl, Tryd.func56, rd45⟩,
 ⟨sg46, Tryd.f60, an46, 3000, rfl, Tryd.func60, rd46⟩, trivial⟩
def tb : Nat → TE := tbOf tbl
theorem tb_ok (hG : GHyp G) : TabOK Tryd.prog G T SG sigs tb := tabOK_of (tbl_ok hG)
theorem gok : GOK G SG := ⟨(fun g cs h => by cases h), (fun g cs h => by cases h)⟩
end Go.Proofs.YtccjhfmemghccaaDoor

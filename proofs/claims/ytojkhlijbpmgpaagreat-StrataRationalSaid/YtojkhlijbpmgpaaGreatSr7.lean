/- What functions of the program compute: lemmas. -/
import Derived.Test.YtojkhlijbpmgpaaGreatSr4
import Derived.Test.YtojkhlijbpmgpaaGreatOd
import Derived.Test.YtojkhlijbpmgpaaGreatAm6
set_option linter.unusedSimpArgs false
set_option linter.unusedVariables false
set_option linter.unusedSectionVars false
namespace Go.Proofs.YtojkhlijbpmgpaaGreat
open Go Am
set_option maxRecDepth 100000
end Go.Proofs.YtojkhlijbpmgpaaGreat

namespace Go.Proofs.YtojkhlijbpmgpaaGreat
open Go Am
set_option maxRecDepth 100000
end Go.Proofs.YtojkhlijbpmgpaaGreat

namespace Go.Proofs.YtojkhlijbpmgpaaGreat
open Go Am
set_option maxRecDepth 100000
def aP : F := F.mk 3 [97] []
def aQ : F := F.mk 3 [98] []
def aNQ : F := ng aQ
def aPNQ : F := pr 5 aP aNQ
theorem aPNQ_models : modelsE (vocN 2) aPNQ = 0 ∧ modelsS (vocN 2) aPNQ = 2#64 := by
 have h := pr5_models (voc := vocN 2) (f := aP) (g := aNQ) (by decide +kernel) (by decide +kernel) (by decide +kernel) (by decide +kernel) (by decide +kernel) (by decide +kernel) (by decide +kernel) (by decide +kernel) (by decide +kernel)
 refine ⟨h.1,?_⟩
 show modelsS (vocN 2) (pr 5 aP aNQ) = 2#64
 rw [h.2]
 decide +kernel
theorem awake32_run : run tb 9 [] = some [.bool true] := by
 refine run_ir (x := ir9) rfl ?_
 have hvo : run tb 11 [.int .i64 2] = some [strsD (vocN 2)] := voc_run 2 (by omega)
 have hr0 : PO.eval (.row 1) [strsD (vocN 2),.int .i64 0] = some [.str [97]] := rfl
 have hr1 : PO.eval (.row 1) [strsD (vocN 2),.int .i64 1] = some [.str [98]] := rfl
 have at_ : ∀ s,run tb 17 [.str s] = some [.int .i64 3,.str s,.sl []] := fun s => by
  refine run_ir (x := ir17) rfl ?_
  simp only [ir17,stepQ,stepL,eq_self,aBin,reduceIte,Int.reduceEq,Int.reduceLT,Int.reduceLE,Int.reduceGT,Int.reduceGE]
 have hmk2 : PO.eval (.mk 3 2) [.int .i64 3,.str [97],.sl [],.int .i64 3,.str [98],.sl []] = some [.sl (F.encs [aP,aQ])] := rfl
 obtain ⟨e1,e2⟩ := aPNQ_models
 have m1 : modelsE (vocN 2) aP = 0 := by decide +kernel
 have m2 : modelsE (vocN 2) aQ = 0 := by decide +kernel
 have m3 : modelsE (vocN 2) aNQ = 0 := by decide +kernel
 have s1 : modelsS (vocN 2) aP = 10#64 := by decide +kernel
 have s2 : modelsS (vocN 2) aQ = 12#64 := by decide +kernel
 have s3 : modelsS (vocN 2) aNQ = 3#64 := by decide +kernel
 have hrk : run tb 18 [strsD (vocN 2),.sl (F.encs [aP,aQ])] = some [strsD (vocN 2),numsD [2,1,2,0],.int .i64 0] := by
  have h := rankP_run (vocN 2) (by rw [vocN_len]; omega) [aP,aQ] (fun f hf => by
   simp only [List.mem_cons,List.not_mem_nil,or_false] at hf
   rcases hf with rfl | rfl <;> decide +kernel) (by simp)
  rw [h]
  have hn : normE (vocN 2) (rkL (msO (vocN 2) [aP,aQ]) (2 ^ (vocN 2).length)) = true := by decide +kernel
  have hs : normS (rkL (msO (vocN 2) [aP,aQ]) (2 ^ (vocN 2).length)) = [2,1,2,0] := by decide +kernel
  have he : strE (vocN 2) [aP,aQ] = 0 := by decide +kernel
  unfold rankR rkR
  rw [if_pos he,if_pos hn,hs]
 have n1 : run tb 6 [.int .i64 3,.str [98],.sl []] = some [.int .i64 4,.str [],.sl (F.encs [aQ])] := by
  refine run_ir (x := ir6) rfl ?_
  have hmk : PO.eval (.mk 3 1) [.int .i64 3,.str [98],.sl []] = some [.sl (F.encs [aQ])] := rfl
  simp only [ir6,stepQ,stepL,eq_self,aBin,reduceIte,Int.reduceEq,Int.reduceLT,Int.reduceLE,Int.reduceGT,Int.reduceGE,hmk]
 have a1 : run tb 5 [.int .i64 3,.str [97],.sl [],.int .i64 4,.str [],.sl (F.encs [aQ])] = some [.int .i64 5,.str [],.sl (F.encs [aP,aNQ])] := by
  refine run_ir (x := ir5) rfl ?_
  have hmk : PO.eval (.mk 3 2) [.int .i64 3,.str [97],.sl [],.int .i64 4,.str [],.sl (F.encs [aQ])] = some [.sl (F.encs [aP,aNQ])] := rfl
  simp only [ir5,stepQ,stepL,eq_self,aBin,reduceIte,Int.reduceEq,Int.reduceLT,Int.reduceLE,Int.reduceGT,Int.reduceGE,hmk]
 have hmk6 : PO.eval (.mk 6 2) [.int .i64 3,.str [97],.sl [],.int .i64 3,.str [98],.sl [],.int .i64 5,.str [],.sl (F.encs [aP,aNQ]),.int .i64 4,.str [],.sl (F.encs [aQ])] = some [condsD [(aP,aQ),(aPNQ,aNQ)]] := rfl
 have hly : run tb 19 [strsD (vocN 2),condsD [(aP,aQ),(aPNQ,aNQ)]] = some [numsD [0,1],.int .i64 0] := by
  have h := layersL_run (vocN 2) (by rw [vocN_len]; omega) [(aP,aQ),(aPNQ,aNQ)] (fun c hc => by
   simp only [List.mem_cons,List.not_mem_nil,or_false] at hc
   rcases hc with rfl | rfl
   · exact ⟨by decide +kernel,by decide +kernel⟩
   · exact ⟨by simp [aPNQ,pr,aNQ,ng,aP,aQ,F.size,F.sizes],by decide +kernel⟩) (by simp)
  rw [h]
  have hp : prE (vocN 2) [(aP,aQ),(aPNQ,aNQ)] = 0 := by
   unfold prE
   have hv : vocOk (vocN 2) = true := by decide +kernel
   simp [hv,cE,fstE,m1,m2,m3,e1]
  have hs : prsS (vocN 2) [(aP,aQ),(aPNQ,aNQ)] = [(8#64,2#64),(2#64,0#64)] := by
   simp [prsS,prS,s1,s2,s3,e2]
  have hl : layS [(8#64,2#64),(2#64,0#64)] = some [0,1] := by decide +kernel
  unfold lyR
  rw [if_pos hp,hs,hl]
  rfl
 have m4 : PO.eval (.mk 1 4) [.int .i64 2,.int .i64 1,.int .i64 2,.int .i64 0] = some [numsD [2,1,2,0]] := rfl
 have m5 : PO.eval (.mk 1 2) [.int .i64 0,.int .i64 1] = some [numsD [0,1]] := rfl
 have i1 := ints_run [2,1,2,0] [2,1,2,0] (by decide)
 have i2 := ints_run [0,1] [0,1] (by decide)
 rw [decide_eq_true rfl] at i1 i2
 simp (disch := omega) only [ir9,stepQ,stepL,eq_self,aBin,reduceIte,Int.reduceEq,Int.reduceLT,Int.reduceLE,Int.reduceGT,Int.reduceGE,hvo,hr0,hr1,at_,hmk2,hrk,n1,a1,hmk6,hly,m4,m5,i1,i2,callQ_tb]
end Go.Proofs.YtojkhlijbpmgpaaGreat

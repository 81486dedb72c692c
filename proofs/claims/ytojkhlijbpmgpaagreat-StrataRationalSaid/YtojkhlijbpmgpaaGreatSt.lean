/- What functions of the program compute: lemmas. -/
import Derived.Test.YtojkhlijbpmgpaaGreatOd
import Derived.Test.YtojkhlijbpmgpaaGreatAm6
import Derived.Test.YtojkhlijbpmgpaaGreatWd
set_option linter.unusedSimpArgs false
set_option linter.unusedVariables false
set_option linter.unusedSectionVars false
namespace Go.Proofs.YtojkhlijbpmgpaaGreat
open Go Am
set_option maxRecDepth 100000
end Go.Proofs.YtojkhlijbpmgpaaGreat

namespace Go.Proofs.YtojkhlijbpmgpaaGreat
open Go Am
set_option maxRecDepth 100000
end Go.Proofs.YtojkhlijbpmgpaaGreat

namespace Go.Proofs.YtojkhlijbpmgpaaGreat
open Go Am
set_option maxRecDepth 100000
end Go.Proofs.YtojkhlijbpmgpaaGreat

namespace Go.Proofs.YtojkhlijbpmgpaaGreat
open Go Am
set_option maxRecDepth 100000
end Go.Proofs.YtojkhlijbpmgpaaGreat

namespace Go.Proofs.YtojkhlijbpmgpaaGreat
open Go Am
set_option maxRecDepth 100000
end Go.Proofs.YtojkhlijbpmgpaaGreat

namespace Go.Proofs.YtojkhlijbpmgpaaGreat
open Go Am
set_option maxRecDepth 100000
theorem hasT_run (x : BitVec 64) (w : Nat) (h : w < 9223372036854775808) : run tb 34 [bvD x,.int .i64 w] = some [.bool (x.getLsbD w)] := by
 refine run_ir (x := ir34) rfl ?_
 simp (disch := omega) only [ir34,stepQ,stepL,eq_self,aBin,reduceIte,Int.reduceEq,Int.reduceLT,Int.reduceLE,Int.reduceGT,Int.reduceGE,bvQ,wu,shl_norm,shr_norm,and1_norm]
theorem first_run (names : List (List UInt8)) (hn : names.length < 1000000000) (fs : List F) (hf : ∀ f ∈ fs,f.size < 1000000000) (hfl : fs.length < 1000000000) :
 run tb 14 [strsD names,.sl (F.encs fs)] = some [.int .i64 (fstE names fs)] := by
 refine run_ir (x := ir14) rfl ?_
 simp (disch := omega) only [ir14,stepQ,stepL,eq_self,aBin,reduceIte,Int.reduceEq,Int.reduceLT,Int.reduceLE,Int.reduceGT,Int.reduceGE,len_F]
 refine loop_k (σ := Unit) fs.length (fun i _ => fstE names (fs.drop i) = fstE names fs) (fun i _ => [.int .i64 i]) (fun _ _ => [.int .i64 (fstE names fs)]) ?_ ?_ 0 () (Nat.zero_le _) rfl
 · rintro i _ L hi hp hL
   rw [drop_s hi,fstE_cons] at hp
   have hm := modelsW_run names fs[i] hn (hf _ (List.getElem_mem hi))
   simp only [rowF] at hm
   by_cases c : modelsE names fs[i] = 0
   · rw [if_pos c] at hp
     have hnext := hL () hp
     rw [c] at hm
     simp (disch := omega) only [ir14p0,stepQ,stepL,eq_self,aBin,reduceIte,Int.reduceEq,Int.reduceLT,Int.reduceLE,Int.reduceGT,Int.reduceGE,hi,row_F,hm,ibne,wr,natS,hnext]
   · rw [if_neg c] at hp
     rw [hp] at hm c
     simp (disch := omega) only [ir14p0,stepQ,stepL,eq_self,aBin,reduceIte,Int.reduceEq,Int.reduceLT,Int.reduceLE,Int.reduceGT,Int.reduceGE,hi,row_F,hm,ibne,c]
 · rintro _ L hp
   rw [List.drop_length] at hp
   simp (disch := omega) only [ir14p0,stepQ,stepL,eq_self,aBin,reduceIte,Int.reduceEq,Int.reduceLT,Int.reduceLE,Int.reduceGT,Int.reduceGE,Nat.lt_irrefl,← hp,fstE_nil]
theorem accepts_run (names : List (List UInt8)) (ranks : List Int) (f g : F) (hn : names.length < 1000000000) (hl : ranks.length < 1000000000) (hf : f.size < 1000000000) (hg : g.size < 1000000000) :
 run tb 8 [strsD names,numsD ranks,.int .i64 f.op,.str f.name,.sl (F.encs f.args),.int .i64 g.op,.str g.name,.sl (F.encs g.args)] = some (if accE names ranks f g = 0 then [.bool (accS names ranks f g),.int .i64 0] else [.bool false,.int .i64 (accE names ranks f g)]) := by
 refine run_ir (x := ir8) rfl ?_
 have h1 := validateO_run names ranks hn hl
 have h2 := first_run names hn [f,g] (fun x hx => by simp only [List.mem_cons,List.not_mem_nil,or_false] at hx; rcases hx with rfl | rfl <;> assumption) (by simp)
 have h3 := modelsW_run names f hn hf
 have h4 := modelsW_run names g hn hg
 have h5 := leastO_run names ranks hn hl (modelsS names f)
 simp only [rowF] at h3 h4
 have hmk : PO.eval (.mk 3 2) [.int .i64 f.op,.str f.name,.sl (F.encs f.args),.int .i64 g.op,.str g.name,.sl (F.encs g.args)] = some [.sl (F.encs [f,g])] := by rw [ev_mk32]; simp [F.encs,F.enc_eq]
 unfold accS
 by_cases c1 : orderE names ranks = 0
 · rw [c1] at h1
   by_cases c2 : fstE names [f,g] = 0
   · have ha : accE names ranks f g = 0 := by unfold accE; rw [if_neg (by simp [c1]),c2]
     rw [ha,if_pos rfl]
     rw [c2] at h2
     rw [fstE_cons,fstE_cons,fstE_nil] at c2
     have e1 : modelsE names f = 0 := Classical.byContradiction fun hc => by rw [if_neg hc] at c2; exact hc c2
     rw [if_pos e1] at c2
     have e2 : modelsE names g = 0 := Classical.byContradiction fun hc => by rw [if_neg hc] at c2; exact hc c2
     rw [e1] at h3
     rw [e2] at h4
     by_cases c3 : leastS names ranks (modelsS names f) &&& ~~~modelsS names g = 0#64
     · simp (disch := omega) only [ir8,stepQ,stepL,eq_self,aBin,reduceIte,Int.reduceEq,Int.reduceLT,Int.reduceLE,Int.reduceGT,Int.reduceGE,bvQ,wu,shl_norm,shr_norm,and1_norm,h1,hmk,h2,h3,h4,h5,ibne,c3,callQ_ti]
     · simp (disch := omega) only [ir8,stepQ,stepL,eq_self,aBin,reduceIte,Int.reduceEq,Int.reduceLT,Int.reduceLE,Int.reduceGT,Int.reduceGE,bvQ,wu,shl_norm,shr_norm,and1_norm,h1,hmk,h2,h3,h4,h5,ibne,c3,callQ_ti]
   · have ha : accE names ranks f g = fstE names [f,g] := by unfold accE; rw [if_neg (by simp [c1])]
     rw [ha,if_neg c2]
     simp (disch := omega) only [ir8,stepQ,stepL,eq_self,aBin,reduceIte,Int.reduceEq,Int.reduceLT,Int.reduceLE,Int.reduceGT,Int.reduceGE,bvQ,wu,shl_norm,shr_norm,and1_norm,h1,hmk,h2,ibne,c2,callQ_ti]
 · have ha : accE names ranks f g = orderE names ranks := by unfold accE; rw [if_pos c1]
   rw [ha,if_neg c1]
   simp (disch := omega) only [ir8,stepQ,stepL,eq_self,aBin,reduceIte,Int.reduceEq,Int.reduceLT,Int.reduceLE,Int.reduceGT,Int.reduceGE,bvQ,wu,shl_norm,shr_norm,and1_norm,h1,ibne,c1]
end Go.Proofs.YtojkhlijbpmgpaaGreat

/- What functions of the program compute: lemmas. -/
import Derived.Test.YtojkhlijbpmgpaaGreatOd
import Derived.Test.YtojkhlijbpmgpaaGreatAm6
import Derived.Test.YtojkhlijbpmgpaaGreatWd
set_option linter.unusedSimpArgs false
set_option linter.unusedVariables false
set_option linter.unusedSectionVars false
namespace Go.Proofs.YtojkhlijbpmgpaaGreat
open Go Am
set_option maxRecDepth 100000
end Go.Proofs.YtojkhlijbpmgpaaGreat

namespace Go.Proofs.YtojkhlijbpmgpaaGreat
open Go Am
set_option maxRecDepth 100000
end Go.Proofs.YtojkhlijbpmgpaaGreat

namespace Go.Proofs.YtojkhlijbpmgpaaGreat
open Go Am
set_option maxRecDepth 100000
end Go.Proofs.YtojkhlijbpmgpaaGreat

namespace Go.Proofs.YtojkhlijbpmgpaaGreat
open Go Am
set_option maxRecDepth 100000
theorem split_run (X : BitVec 64) : run tb 85 [bvD X] = some [bvD (sp X 1 32),bvD (sp X 0 32)] := by
 refine run_ir (x := ir85) rfl ?_
 have z1 := sp_zero X 1
 have z0 := sp_zero X 0
 simp (disch := omega) only [ir85,stepQ,stepL,bvQ]
 rw [show (0#64 : BitVec 64) = sp X 1 0 from rfl]
 conv => lhs; rw [show ([bvD (sp X 1 0),bvD (sp X 1 0),D.int IntKind.i64 0] : List D) = [bvD (sp X 1 0),bvD (sp X 0 0),D.int IntKind.i64 ((0 : Nat) : Int)] from rfl]
 refine loop_k (σ := Unit) 32 (fun _ _ => True) (fun w _ => [bvD (sp X 1 w),bvD (sp X 0 w),.int .i64 w]) (fun _ _ => [bvD (sp X 1 32),bvD (sp X 0 32)]) ?_ ?_ 0 () (Nat.zero_le _) trivial
 · rintro w _ L hw _ hL
   have hnext := hL () trivial
   rw [← sp_succ X 1 w hw,← sp_succ X 0 w hw] at hnext
   rw [show 2 * w + 0 = 2 * w from rfl] at hnext
   have hw' : (w : Int) < 32 := by omega
   have hm : (2 : Int) * (w : Int) = ((2 * w : Nat) : Int) := by omega
   simp (disch := omega) only [ir85p0,stepQ,stepL,eq_self,aBin,reduceIte,bvQ,hw',hm,wr,natS,hnext]
 · rintro _ L _
   simp (disch := omega) only [ir85p0,stepQ,stepL,eq_self,aBin,reduceIte,Int.reduceLT,bvQ]
theorem two_run (o : Int) (f g : F) : run tb 86 (.int .i64 o :: rowF f ++ rowF g) = some (rowF (pr o f g)) := by
 refine run_ir (x := ir86) rfl ?_
 simp only [ir86,rowF,stepQ,stepL,ev_mk32]
 simp [pr,F.op_mk,F.name_mk,F.args_mk,F.encs,F.enc_eq]
theorem theoryP_run : ∀ (voc : List (List UInt8)),okNames voc = true → voc.length ≤ 6 → ∀ X : BitVec 64,Sub voc.length X → run tb 65 [strsD voc,bvD X] = some (rowF (thy voc X))
 | [],h,h6,X,hX => by
  refine run_ir (x := ir65) rfl ?_
  have ha := whole_run ([] : List (List UInt8)).length h6
  have e := sub_and h6 hX
  have o2 := thy_op2 h6 hX
  have o1 := thy_op1 h6 hX
  by_cases h1 : X = 0#64
  · subst h1
    have : thy [] 0#64 = F.mk 2 [] [] := by unfold thy; rw [if_pos (by simp)]
    rw [this]
    simp (disch := omega) only [ir65,rowF,stepQ,stepL,eq_self,bvQ,len_S,ha,F.op_mk,F.name_mk,F.args_mk,F.encs]
  · have e2 : thy [] X = F.mk 1 [] [] := by
     unfold thy; rw [if_neg]
     intro hc
     exact h1 (by rw [← e]; exact hc)
    have h2 : X = alW ([] : List (List UInt8)).length := o1.1 (by rw [e2]; rfl)
    rw [e2]
    unfold alW at h2
    rw [← h2] at ha
    simp (disch := omega) only [ir65,rowF,stepQ,stepL,eq_self,bvQ,len_S,ha,h1,F.op_mk,F.name_mk,F.args_mk,F.encs]
 | a :: l,h,h6,X,hX => by
  refine run_ir (x := ir65) rfl ?_
  have ha := whole_run (a :: l).length h6
  have hl := okNames_tail h
  have h5 : l.length ≤ 5 := by simp only [List.length_cons] at h6; omega
  have h6' : l.length ≤ 6 := by omega
  have he := whole_run l.length h6'
  have e := sub_and h6 hX
  have hsp := split_run X
  have hX' : Sub (l.length + 1) X := hX
  rw [sp_hf h5 (by omega) hX',sp_hf h5 (by omega) hX'] at hsp
  have u1 := hf_sub (X := X) (b := 1) h5 (by omega)
  have u0 := hf_sub (X := X) (b := 0) h5 (by omega)
  have r1 := theoryP_run l hl h6' (hf X 1 (2 ^ (l.length + 1))) u1
  have r0 := theoryP_run l hl h6' (hf X 0 (2 ^ (l.length + 1))) u0
  have p1 := thy_op1 h6' u1
  have p2 := thy_op2 h6' u1
  have q1 := thy_op1 h6' u0
  have q2 := thy_op2 h6' u0
  have inj := fun hh => thy_inj hl h6' u1 u0 hh
  have hst : hf X 1 (2 ^ (l.length + 1)) = hf X 0 (2 ^ (l.length + 1)) → thy l (hf X 1 (2 ^ (l.length + 1))) = thy l (hf X 0 (2 ^ (l.length + 1))) := fun h => by rw [h]
  have hrow : PO.eval (.row 1) [strsD (a :: l),.int .i64 0] = some [.str a] := row_S (l := a :: l) (i := 0) (by simp)
  have hsub : PO.eval (.subL 1) [strsD (a :: l),.int .i64 1,.int .i64 ((a :: l).length : Nat)] = some [strsD l] := by
   have := sub_Sd (l := a :: l) (a := 1) (by simp)
   simpa using this
  have hp : ∀ (o : Int) (f g : F),run tb 86 [.int .i64 o,.int .i64 f.op,.str f.name,.sl (F.encs f.args),.int .i64 g.op,.str g.name,.sl (F.encs g.args)] = some (rowF (pr o f g)) := two_run
  have hpa : ∀ (o : Int) (g : F),run tb 86 [.int .i64 o,.int .i64 3,.str a,.sl [],.int .i64 g.op,.str g.name,.sl (F.encs g.args)] = some (rowF (pr o (atF a) g)) := fun o g => two_run o (atF a) g
  have hpn : ∀ (o : Int) (g : F),run tb 86 [.int .i64 o,.int .i64 4,.str [],.sl [[.int .i64 3,.str a,.sl []]],.int .i64 g.op,.str g.name,.sl (F.encs g.args)] = some (rowF (pr o (noF1 a) g)) := fun o g => two_run o (noF1 a) g
  have ea : rowF (atF a) = [.int .i64 3,.str a,.sl []] := rfl
  have en : rowF (noF1 a) = [.int .i64 4,.str [],.sl [[.int .i64 3,.str a,.sl []]]] := rfl
  have ele : (a :: l).length = l.length + 1 := rfl
  unfold thy
  unfold alW at e p1 q1
  rw [ele] at e ha
  rw [e]
  by_cases h1 : X = 0#64
  · rw [if_pos h1]
    subst h1
    simp (disch := omega) only [ir65,rowF,stepQ,stepL,eq_self,bvQ,len_S,ele,ha,F.op_mk,F.name_mk,F.args_mk,F.encs]
  rw [if_neg h1]
  by_cases h2 : X = bitsTo (fun _ => true) (2 ^ (l.length + 1))
  · rw [if_pos h2]
    rw [← h2] at ha
    simp (disch := omega) only [ir65,rowF,stepQ,stepL,eq_self,bvQ,len_S,ele,ha,h1,F.op_mk,F.name_mk,F.args_mk,F.encs]
  rw [if_neg h2]
  rw [ele] at hsub
  clear e hX hX' u1 u0
  generalize thy l (hf X 1 (2 ^ (l.length + 1))) = t at *
  generalize thy l (hf X 0 (2 ^ (l.length + 1))) = f at *
  generalize hf X 1 (2 ^ (l.length + 1)) = S1 at *
  generalize hf X 0 (2 ^ (l.length + 1)) = S0 at *
  generalize bitsTo (fun _ => true) (2 ^ (l.length + 1)) = A1 at *
  generalize bitsTo (fun _ => true) (2 ^ l.length) = A at *
  simp only [rowF] at r1 r0 hp hpa hpn
  unfold joinF
  by_cases b0 : F.beq t f = true
  · rw [if_pos b0]
    have hb := inj (F.beq_true t f b0)
    subst hb
    simp (disch := omega) only [ir65,rowF,stepQ,stepL,eq_self,bvQ,len_S,ele,ha,h1,h2,hsub,hsp,r1]
  rw [if_neg b0]
  by_cases b1 : S1 = S0
  · exact absurd (by rw [hst b1]; exact F.beq_refl f) b0
  by_cases t1 : t.op = 1
  · have s1 := p1.1 t1
    subst s1
    by_cases f2 : f.op = 2
    · rw [if_pos ⟨t1,f2⟩,ea]
      have s0 := q2.1 f2
      subst s0
      simp (disch := omega) only [ir65,ir65p1,ir65p0,stepQ,stepL,eq_self,bvQ,len_S,ele,ha,he,h1,h2,hrow,hsub,hsp,b1]
    · rw [if_neg (by rintro ⟨_,h⟩; exact f2 h),if_pos t1]
      have s0 : ¬ S0 = 0#64 := fun h => f2 (q2.2 h)
      simp (disch := omega) only [ir65,ir65p1,ir65p0,rowF,stepQ,stepL,eq_self,bvQ,len_S,ele,ha,he,h1,h2,hrow,hsub,hsp,b1,s0,r0,hpa]
  rw [if_neg (by rintro ⟨h,_⟩; exact t1 h),if_neg t1]
  have s1 : ¬ S1 = A := fun h => t1 (p1.2 h)
  by_cases t2 : t.op = 2
  · have s2 := p2.1 t2
    subst s2
    by_cases f1 : f.op = 1
    · rw [if_pos ⟨t2,f1⟩,en]
      have s0 := q1.1 f1
      subst s0
      simp (disch := omega) only [ir65,ir65p1,ir65p0,stepQ,stepL,eq_self,bvQ,len_S,ele,ha,he,h1,h2,hrow,hsub,hsp,b1]
    · rw [if_neg (by rintro ⟨_,h⟩; exact f1 h),if_pos t2]
      have s0 : ¬ S0 = A := fun h => f1 (q1.2 h)
      simp (disch := omega) only [ir65,ir65p1,ir65p0,rowF,stepQ,stepL,eq_self,bvQ,len_S,ele,ha,he,h1,h2,hrow,hsub,hsp,b1,s1,s0,r0,hpn]
  rw [if_neg (by rintro ⟨h,_⟩; exact t2 h),if_neg t2]
  have s2 : ¬ S1 = 0#64 := fun h => t2 (p2.2 h)
  by_cases f1 : f.op = 1
  · rw [if_pos f1]
    have s0 := q1.1 f1
    subst s0
    simp (disch := omega) only [ir65,ir65p1,ir65p0,rowF,stepQ,stepL,eq_self,bvQ,len_S,ele,ha,he,h1,h2,hrow,hsub,hsp,b1,s2,r1,hpn]
  rw [if_neg f1]
  have s3 : ¬ S0 = A := fun h => f1 (q1.2 h)
  by_cases f2 : f.op = 2
  · rw [if_pos f2]
    have s0 := q2.1 f2
    subst s0
    simp (disch := omega) only [ir65,ir65p1,ir65p0,rowF,stepQ,stepL,eq_self,bvQ,len_S,ele,ha,he,h1,h2,hrow,hsub,hsp,b1,s1,s3,r1,hpa]
  · rw [if_neg f2]
    have s4 : ¬ S0 = 0#64 := fun h => f2 (q2.2 h)
    have hpr : ∀ (f g : F),run tb 86 [.int .i64 6,.int .i64 (pr 5 (atF a) f).op,.str (pr 5 (atF a) f).name,.sl (F.encs (pr 5 (atF a) f).args),.int .i64 (pr 5 (noF1 a) g).op,.str (pr 5 (noF1 a) g).name,.sl (F.encs (pr 5 (noF1 a) g).args)] = some (rowF (pr 6 (pr 5 (atF a) f) (pr 5 (noF1 a) g))) := fun f g => two_run 6 _ _
    simp only [rowF] at hpr
    simp (disch := omega) only [ir65,ir65p1,ir65p0,rowF,stepQ,stepL,eq_self,bvQ,len_S,ele,ha,he,h1,h2,hrow,hsub,hsp,b1,s1,s2,s3,s4,r1,r0,hpa,hpn,hpr]
theorem theoryW_run (voc : List (List UInt8)) (hn : voc.length < 1000000000) (S : BitVec 64) : run tb 39 [strsD voc,bvD S] = some (rowF (thyE voc S).1 ++ [.int .i64 (thyE voc S).2]) := by
 refine run_ir (x := ir39) rfl ?_
 have h1 := valid_run voc hn
 have h2 := all_run voc hn
 unfold thyE
 cases hv : vocOk voc with
 | false =>
  rw [hv] at h1
  simp (disch := omega) only [ir39,rowF,stepQ,stepL,eq_self,h1,F.op_mk,F.name_mk,F.args_mk,F.encs,if_false]
 | true =>
  rw [hv] at h1
  have h6 := vocOk_len hv
  have hal : allS voc = alW voc.length := by unfold allS; rw [if_pos hv]
  have h3 := theoryP_run voc (vocOk_names hv) h6 (S &&& allS voc) (by rw [hal]; exact sub_of_and h6 S)
  rw [hal,thy_mask h6 S,← hal] at h3
  simp only [rowF] at h3
  simp (disch := omega) only [ir39,rowF,stepQ,stepL,eq_self,bvQ,h1,h2,h3,if_true]
theorem theoryR_run (voc : List (List UInt8)) (hn : voc.length < 1000000000) (hs : ∀ s ∈ voc,s.length < 9223372036854775808) (S : BitVec 64) : run tb 43 [strsD voc,bvD S] = some (rowF (thyE voc S).1 ++ [.int .i64 (thyE voc S).2]) := by
 unfold thyE
 cases hv : vocOk voc with
 | false =>
  refine run_ir (x := ir43) rfl ?_
  have h1 := valid3_run voc hn hs
  rw [hv] at h1
  simp (disch := omega) only [ir43,rowF,stepQ,stepL,eq_self,h1,F.op_mk,F.name_mk,F.args_mk,F.encs,if_false]
 | true => exact theoryT_run voc hv S
end Go.Proofs.YtojkhlijbpmgpaaGreat

namespace Go.Proofs.YtojkhlijbpmgpaaGreat
open Go Am
set_option maxRecDepth 100000
theorem hasR_run (x : BitVec 64) (w : Nat) (h : w < 9223372036854775808) : run tb 34 [bvD x,.int .i64 w] = some [.bool (x.getLsbD w)] := by
 refine run_ir (x := ir34) rfl ?_
 simp (disch := omega) only [ir34,stepQ,stepL,eq_self,bvQ,wu]
end Go.Proofs.YtojkhlijbpmgpaaGreat

namespace Go.Proofs.YtojkhlijbpmgpaaGreat
open Go Am
set_option maxRecDepth 100000
theorem hasT_run (x : BitVec 64) (w : Nat) (h : w < 9223372036854775808) : run tb 32 [bvD x,.int .i64 w] = some [.bool (x.getLsbD w)] := by
 refine run_ir (x := ir32) rfl ?_
 simp (disch := omega) only [ir32,stepQ,stepL,eq_self,bvQ,wu]
theorem first_run (names : List (List UInt8)) (hn : names.length < 1000000000) (fs : List F) (hf : ∀ f ∈ fs,f.size < 1000000000) (hfl : fs.length < 1000000000) :
 run tb 45 [strsD names,.sl (F.encs fs)] = some [.int .i64 (fstE names fs)] := by
 refine run_ir (x := ir45) rfl ?_
 simp (disch := omega) only [ir45,stepQ,stepL]
 refine loop_k (σ := Unit) fs.length (fun i _ => fstE names (fs.drop i) = fstE names fs) (fun i _ => [.int .i64 i]) (fun _ _ => [.int .i64 (fstE names fs)]) ?_ ?_ 0 () (Nat.zero_le _) rfl
 · rintro i _ L hi hp hL
   rw [drop_s hi,fstE_cons] at hp
   have hm := modelsW_run names fs[i] hn (hf _ (List.getElem_mem hi))
   simp only [rowF] at hm
   by_cases c : modelsE names fs[i] = 0
   · rw [if_pos c] at hp
     have hnext := hL () hp
     rw [c] at hm
     simp (disch := omega) only [ir45p0,stepQ,stepL,eq_self,aBin,reduceIte,hi,row_F,hm,ibne,wr,natS,hnext]
   · rw [if_neg c] at hp
     rw [hp] at hm c
     simp (disch := omega) only [ir45p0,stepQ,stepL,eq_self,aBin,reduceIte,hi,row_F,hm,ibne,c]
 · rintro _ L hp
   rw [List.drop_length] at hp
   simp (disch := omega) only [ir45p0,stepQ,stepL,eq_self,aBin,reduceIte,Nat.lt_irrefl,← hp,fstE_nil]
theorem accepts_run (names : List (List UInt8)) (ranks : List Int) (f g : F) (hn : names.length < 1000000000) (hl : ranks.length < 1000000000) (hf : f.size < 1000000000) (hg : g.size < 1000000000) :
 run tb 17 [strsD names,numsD ranks,.int .i64 f.op,.str f.name,.sl (F.encs f.args),.int .i64 g.op,.str g.name,.sl (F.encs g.args)] = some (if accE names ranks f g = 0 then [.bool (accS names ranks f g),.int .i64 0] else [.bool false,.int .i64 (accE names ranks f g)]) := by
 refine run_ir (x := ir17) rfl ?_
 have h1 := validateO_run names ranks hn hl
 have h2 := first_run names hn [f,g] (fun x hx => by simp only [List.mem_cons,List.not_mem_nil,or_false] at hx; rcases hx with rfl | rfl <;> assumption) (by simp)
 have h3 := modelsW_run names f hn hf
 have h4 := modelsW_run names g hn hg
 have h5 := leastO_run names ranks hn hl (modelsS names f)
 simp only [rowF] at h3 h4
 have hmk : PO.eval (.mk 3 2) [.int .i64 f.op,.str f.name,.sl (F.encs f.args),.int .i64 g.op,.str g.name,.sl (F.encs g.args)] = some [.sl (F.encs [f,g])] := by rw [ev_mk32]; simp [F.encs,F.enc_eq]
 unfold accS
 by_cases c1 : orderE names ranks = 0
 · rw [c1] at h1
   by_cases c2 : fstE names [f,g] = 0
   · have ha : accE names ranks f g = 0 := by unfold accE; rw [if_neg (by simp [c1]),c2]
     rw [ha,if_pos rfl]
     rw [c2] at h2
     rw [fstE_cons,fstE_cons,fstE_nil] at c2
     have e1 : modelsE names f = 0 := Classical.byContradiction fun hc => by rw [if_neg hc] at c2; exact hc c2
     rw [if_pos e1] at c2
     have e2 : modelsE names g = 0 := Classical.byContradiction fun hc => by rw [if_neg hc] at c2; exact hc c2
     rw [e1] at h3
     rw [e2] at h4
     by_cases c3 : leastS names ranks (modelsS names f) &&& ~~~modelsS names g = 0#64
     · simp (disch := omega) only [ir17,stepQ,stepL,eq_self,aBin,reduceIte,bvQ,h1,hmk,h2,h3,h4,h5,ibne,c3,callQ_ti]
     · simp (disch := omega) only [ir17,stepQ,stepL,eq_self,aBin,reduceIte,bvQ,h1,hmk,h2,h3,h4,h5,ibne,c3,callQ_ti]
   · have ha : accE names ranks f g = fstE names [f,g] := by unfold accE; rw [if_neg (by simp [c1])]
     rw [ha,if_neg c2]
     simp (disch := omega) only [ir17,stepQ,stepL,eq_self,aBin,reduceIte,bvQ,h1,hmk,h2,ibne,c2,callQ_ti]
 · have ha : accE names ranks f g = orderE names ranks := by unfold accE; rw [if_pos c1]
   rw [ha,if_neg c1]
   simp (disch := omega) only [ir17,stepQ,stepL,eq_self,aBin,reduceIte,bvQ,h1,ibne,c1]
end Go.Proofs.YtojkhlijbpmgpaaGreat

/- What functions of the program compute: lemmas. -/
import Derived.Test.YtojkhlijbpmgpaaGreatOd
import Derived.Test.YtojkhlijbpmgpaaGreatAm6
import Derived.Test.YtojkhlijbpmgpaaGreatWd
set_option linter.unusedSimpArgs false
set_option linter.unusedVariables false
set_option linter.unusedSectionVars false
namespace Go.Proofs.YtojkhlijbpmgpaaGreat
open Go Am
set_option maxRecDepth 100000
end Go.Proofs.YtojkhlijbpmgpaaGreat

namespace Go.Proofs.YtojkhlijbpmgpaaGreat
open Go Am
set_option maxRecDepth 100000
end Go.Proofs.YtojkhlijbpmgpaaGreat

namespace Go.Proofs.YtojkhlijbpmgpaaGreat
open Go Am
set_option maxRecDepth 100000
end Go.Proofs.YtojkhlijbpmgpaaGreat

namespace Go.Proofs.YtojkhlijbpmgpaaGreat
open Go Am
set_option maxRecDepth 100000
theorem split_run (X : BitVec 64) : run tb 88 [bvD X] = some [bvD (sp X 1 32),bvD (sp X 0 32)] := by
 refine run_ir (x := ir88) rfl ?_
 have z1 := sp_zero X 1
 have z0 := sp_zero X 0
 simp (disch := omega) only [ir88,stepQ,stepL,eq_self,aBin,reduceIte,Int.reduceEq,Int.reduceLT,Int.reduceLE,Int.reduceGT,Int.reduceGE,bvQ,wu,shl_norm,shr_norm,and1_norm]
 rw [show (0#64 : BitVec 64) = sp X 1 0 from rfl]
 conv => lhs; rw [show ([bvD (sp X 1 0),bvD (sp X 1 0),D.int IntKind.i64 0] : List D) = [bvD (sp X 1 0),bvD (sp X 0 0),D.int IntKind.i64 ((0 : Nat) : Int)] from rfl]
 refine loop_k (σ := Unit) 32 (fun _ _ => True) (fun w _ => [bvD (sp X 1 w),bvD (sp X 0 w),.int .i64 w]) (fun _ _ => [bvD (sp X 1 32),bvD (sp X 0 32)]) ?_ ?_ 0 () (Nat.zero_le _) trivial
 · rintro w _ L hw _ hL
   have hnext := hL () trivial
   rw [← sp_succ X 1 w hw,← sp_succ X 0 w hw] at hnext
   rw [show 2 * w + 0 = 2 * w from rfl] at hnext
   have hw' : (w : Int) < 32 := by omega
   have hm : (2 : Int) * (w : Int) = ((2 * w : Nat) : Int) := by omega
   simp (disch := omega) only [ir88p0,stepQ,stepL,eq_self,aBin,reduceIte,Int.reduceEq,Int.reduceLT,Int.reduceLE,Int.reduceGT,Int.reduceGE,bvQ,wu,shl_norm,shr_norm,and1_norm,hw',hm,wr,natS,hnext]
 · rintro _ L _
   simp (disch := omega) only [ir88p0,stepQ,stepL,eq_self,aBin,reduceIte,Int.reduceEq,Int.reduceLT,Int.reduceLE,Int.reduceGT,Int.reduceGE,bvQ,wu,shl_norm,shr_norm,and1_norm]
theorem two_run (o : Int) (f g : F) : run tb 89 (.int .i64 o :: rowF f ++ rowF g) = some (rowF (pr o f g)) := by
 refine run_ir (x := ir89) rfl ?_
 simp only [ir89,rowF,stepQ,stepL,eq_self,aBin,reduceIte,Int.reduceEq,Int.reduceLT,Int.reduceLE,Int.reduceGT,Int.reduceGE,ev_mk32]
 simp [pr,F.op_mk,F.name_mk,F.args_mk,F.encs,F.enc_eq]
theorem theoryP_run : ∀ (voc : List (List UInt8)),okNames voc = true → voc.length ≤ 6 → ∀ X : BitVec 64,Sub voc.length X → run tb 66 [strsD voc,bvD X] = some (rowF (thy voc X))
 | [],h,h6,X,hX => by
  refine run_ir (x := ir66) rfl ?_
  have ha := whole_run ([] : List (List UInt8)).length h6
  have e := sub_and h6 hX
  have o2 := thy_op2 h6 hX
  have o1 := thy_op1 h6 hX
  by_cases h1 : X = 0#64
  · subst h1
    have : thy [] 0#64 = F.mk 2 [] [] := by unfold thy; rw [if_pos (by simp)]
    rw [this]
    simp (disch := omega) only [ir66,rowF,stepQ,stepL,eq_self,aBin,reduceIte,Int.reduceEq,Int.reduceLT,Int.reduceLE,Int.reduceGT,Int.reduceGE,bvQ,wu,shl_norm,shr_norm,and1_norm,len_S,ha,F.op_mk,F.name_mk,F.args_mk,F.encs]
  · have e2 : thy [] X = F.mk 1 [] [] := by
     unfold thy; rw [if_neg]
     intro hc
     exact h1 (by rw [← e]; exact hc)
    have h2 : X = alW ([] : List (List UInt8)).length := o1.1 (by rw [e2]; rfl)
    rw [e2]
    unfold alW at h2
    rw [← h2] at ha
    simp (disch := omega) only [ir66,rowF,stepQ,stepL,eq_self,aBin,reduceIte,Int.reduceEq,Int.reduceLT,Int.reduceLE,Int.reduceGT,Int.reduceGE,bvQ,wu,shl_norm,shr_norm,and1_norm,len_S,ha,h1,F.op_mk,F.name_mk,F.args_mk,F.encs]
 | a :: l,h,h6,X,hX => by
  refine run_ir (x := ir66) rfl ?_
  have ha := whole_run (a :: l).length h6
  have hl := okNames_tail h
  have h5 : l.length ≤ 5 := by simp only [List.length_cons] at h6; omega
  have h6' : l.length ≤ 6 := by omega
  have he := whole_run l.length h6'
  have e := sub_and h6 hX
  have hsp := split_run X
  have hX' : Sub (l.length + 1) X := hX
  rw [sp_hf h5 (by omega) hX',sp_hf h5 (by omega) hX'] at hsp
  have u1 := hf_sub (X := X) (b := 1) h5 (by omega)
  have u0 := hf_sub (X := X) (b := 0) h5 (by omega)
  have r1 := theoryP_run l hl h6' (hf X 1 (2 ^ (l.length + 1))) u1
  have r0 := theoryP_run l hl h6' (hf X 0 (2 ^ (l.length + 1))) u0
  have p1 := thy_op1 h6' u1
  have p2 := thy_op2 h6' u1
  have q1 := thy_op1 h6' u0
  have q2 := thy_op2 h6' u0
  have inj := fun hh => thy_inj hl h6' u1 u0 hh
  have hst : hf X 1 (2 ^ (l.length + 1)) = hf X 0 (2 ^ (l.length + 1)) → thy l (hf X 1 (2 ^ (l.length + 1))) = thy l (hf X 0 (2 ^ (l.length + 1))) := fun h => by rw [h]
  have hrow : PO.eval (.row 1) [strsD (a :: l),.int .i64 0] = some [.str a] := row_S (l := a :: l) (i := 0) (by simp)
  have hsub : PO.eval (.subL 1) [strsD (a :: l),.int .i64 1,.int .i64 ((a :: l).length : Nat)] = some [strsD l] := by
   have := sub_Sd (l := a :: l) (a := 1) (by simp)
   simpa using this
  have hp : ∀ (o : Int) (f g : F),run tb 89 [.int .i64 o,.int .i64 f.op,.str f.name,.sl (F.encs f.args),.int .i64 g.op,.str g.name,.sl (F.encs g.args)] = some (rowF (pr o f g)) := two_run
  have hpa : ∀ (o : Int) (g : F),run tb 89 [.int .i64 o,.int .i64 3,.str a,.sl [],.int .i64 g.op,.str g.name,.sl (F.encs g.args)] = some (rowF (pr o (atF a) g)) := fun o g => two_run o (atF a) g
  have hpn : ∀ (o : Int) (g : F),run tb 89 [.int .i64 o,.int .i64 4,.str [],.sl [[.int .i64 3,.str a,.sl []]],.int .i64 g.op,.str g.name,.sl (F.encs g.args)] = some (rowF (pr o (noF1 a) g)) := fun o g => two_run o (noF1 a) g
  have ea : rowF (atF a) = [.int .i64 3,.str a,.sl []] := rfl
  have en : rowF (noF1 a) = [.int .i64 4,.str [],.sl [[.int .i64 3,.str a,.sl []]]] := rfl
  have ele : (a :: l).length = l.length + 1 := rfl
  unfold thy
  unfold alW at e p1 q1
  rw [ele] at e ha
  rw [e]
  by_cases h1 : X = 0#64
  · rw [if_pos h1]
    subst h1
    simp (disch := omega) only [ir66,rowF,stepQ,stepL,eq_self,aBin,reduceIte,Int.reduceEq,Int.reduceLT,Int.reduceLE,Int.reduceGT,Int.reduceGE,bvQ,wu,shl_norm,shr_norm,and1_norm,len_S,ele,ha,F.op_mk,F.name_mk,F.args_mk,F.encs]
  rw [if_neg h1]
  by_cases h2 : X = bitsTo (fun _ => true) (2 ^ (l.length + 1))
  · rw [if_pos h2]
    rw [← h2] at ha
    simp (disch := omega) only [ir66,rowF,stepQ,stepL,eq_self,aBin,reduceIte,Int.reduceEq,Int.reduceLT,Int.reduceLE,Int.reduceGT,Int.reduceGE,bvQ,wu,shl_norm,shr_norm,and1_norm,len_S,ele,ha,h1,F.op_mk,F.name_mk,F.args_mk,F.encs]
  rw [if_neg h2]
  rw [ele] at hsub
  clear e hX hX' u1 u0
  generalize thy l (hf X 1 (2 ^ (l.length + 1))) = t at *
  generalize thy l (hf X 0 (2 ^ (l.length + 1))) = f at *
  generalize hf X 1 (2 ^ (l.length + 1)) = S1 at *
  generalize hf X 0 (2 ^ (l.length + 1)) = S0 at *
  generalize bitsTo (fun _ => true) (2 ^ (l.length + 1)) = A1 at *
  generalize bitsTo (fun _ => true) (2 ^ l.length) = A at *
  simp only [rowF,List.cons_append,List.nil_append] at r1 r0 hp hpa hpn
  unfold joinF
  by_cases b0 : F.beq t f = true
  · rw [if_pos b0]
    have hb := inj (F.beq_true t f b0)
    subst hb
    simp (disch := omega) only [ir66,rowF,stepQ,stepL,eq_self,aBin,reduceIte,Int.reduceEq,Int.reduceLT,Int.reduceLE,Int.reduceGT,Int.reduceGE,bvQ,wu,shl_norm,shr_norm,and1_norm,len_S,ele,ha,h1,h2,hrow,hsub,hsp,r1]
  rw [if_neg b0]
  by_cases b1 : S1 = S0
  · exact absurd (by rw [hst b1]; exact F.beq_refl f) b0
  by_cases t1 : t.op = 1
  · have s1 := p1.1 t1
    subst s1
    by_cases f2 : f.op = 2
    · rw [if_pos ⟨t1,f2⟩,ea]
      have s0 := q2.1 f2
      subst s0
      simp (disch := omega) only [ir66,ir66p1,ir66p0,stepQ,stepL,eq_self,aBin,reduceIte,Int.reduceEq,Int.reduceLT,Int.reduceLE,Int.reduceGT,Int.reduceGE,bvQ,wu,shl_norm,shr_norm,and1_norm,len_S,ele,ha,he,h1,h2,hrow,hsub,hsp,b1]
    · rw [if_neg (by rintro ⟨_,h⟩; exact f2 h),if_pos t1]
      have s0 : ¬ S0 = 0#64 := fun h => f2 (q2.2 h)
      simp (disch := omega) only [ir66,ir66p1,ir66p0,rowF,stepQ,stepL,eq_self,aBin,reduceIte,Int.reduceEq,Int.reduceLT,Int.reduceLE,Int.reduceGT,Int.reduceGE,bvQ,wu,shl_norm,shr_norm,and1_norm,len_S,ele,ha,he,h1,h2,hrow,hsub,hsp,b1,s0,r0,hpa]
  rw [if_neg (by rintro ⟨h,_⟩; exact t1 h),if_neg t1]
  have s1 : ¬ S1 = A := fun h => t1 (p1.2 h)
  by_cases t2 : t.op = 2
  · have s2 := p2.1 t2
    subst s2
    by_cases f1 : f.op = 1
    · rw [if_pos ⟨t2,f1⟩,en]
      have s0 := q1.1 f1
      subst s0
      simp (disch := omega) only [ir66,ir66p1,ir66p0,stepQ,stepL,eq_self,aBin,reduceIte,Int.reduceEq,Int.reduceLT,Int.reduceLE,Int.reduceGT,Int.reduceGE,bvQ,wu,shl_norm,shr_norm,and1_norm,len_S,ele,ha,he,h1,h2,hrow,hsub,hsp,b1,s1]
    · rw [if_neg (by rintro ⟨_,h⟩; exact f1 h),if_pos t2]
      have s0 : ¬ S0 = A := fun h => f1 (q1.2 h)
      simp (disch := omega) only [ir66,ir66p1,ir66p0,rowF,stepQ,stepL,eq_self,aBin,reduceIte,Int.reduceEq,Int.reduceLT,Int.reduceLE,Int.reduceGT,Int.reduceGE,bvQ,wu,shl_norm,shr_norm,and1_norm,len_S,ele,ha,he,h1,h2,hrow,hsub,hsp,b1,s1,s0,r0,hpn]
  rw [if_neg (by rintro ⟨h,_⟩; exact t2 h),if_neg t2]
  have s2 : ¬ S1 = 0#64 := fun h => t2 (p2.2 h)
  by_cases f1 : f.op = 1
  · rw [if_pos f1]
    have s0 := q1.1 f1
    subst s0
    simp (disch := omega) only [ir66,ir66p1,ir66p0,rowF,stepQ,stepL,eq_self,aBin,reduceIte,Int.reduceEq,Int.reduceLT,Int.reduceLE,Int.reduceGT,Int.reduceGE,bvQ,wu,shl_norm,shr_norm,and1_norm,len_S,ele,ha,he,h1,h2,hrow,hsub,hsp,b1,s1,s2,r1,hpn]
  rw [if_neg f1]
  have s3 : ¬ S0 = A := fun h => f1 (q1.2 h)
  by_cases f2 : f.op = 2
  · rw [if_pos f2]
    have s0 := q2.1 f2
    subst s0
    simp (disch := omega) only [ir66,ir66p1,ir66p0,rowF,stepQ,stepL,eq_self,aBin,reduceIte,Int.reduceEq,Int.reduceLT,Int.reduceLE,Int.reduceGT,Int.reduceGE,bvQ,wu,shl_norm,shr_norm,and1_norm,len_S,ele,ha,he,h1,h2,hrow,hsub,hsp,b1,s1,s2,s3,r1,hpa]
  · rw [if_neg f2]
    have s4 : ¬ S0 = 0#64 := fun h => f2 (q2.2 h)
    have hpr : ∀ (f g : F),run tb 89 [.int .i64 6,.int .i64 (pr 5 (atF a) f).op,.str (pr 5 (atF a) f).name,.sl (F.encs (pr 5 (atF a) f).args),.int .i64 (pr 5 (noF1 a) g).op,.str (pr 5 (noF1 a) g).name,.sl (F.encs (pr 5 (noF1 a) g).args)] = some (rowF (pr 6 (pr 5 (atF a) f) (pr 5 (noF1 a) g))) := fun f g => two_run 6 _ _
    simp only [rowF] at hpr
    simp (disch := omega) only [ir66,ir66p1,ir66p0,rowF,stepQ,stepL,eq_self,aBin,reduceIte,Int.reduceEq,Int.reduceLT,Int.reduceLE,Int.reduceGT,Int.reduceGE,bvQ,wu,shl_norm,shr_norm,and1_norm,len_S,ele,ha,he,h1,h2,hrow,hsub,hsp,b1,s1,s2,s3,s4,r1,r0,hpa,hpn,hpr]
theorem theoryW_run (voc : List (List UInt8)) (hn : voc.length < 1000000000) (S : BitVec 64) : run tb 36 [strsD voc,bvD S] = some (rowF (thyE voc S).1 ++ [.int .i64 (thyE voc S).2]) := by
 refine run_ir (x := ir36) rfl ?_
 have h1 := valid_run voc hn
 have h2 := all_run voc hn
 unfold thyE
 cases hv : vocOk voc with
 | false =>
  rw [hv] at h1
  simp (disch := omega) only [ir36,rowF,stepQ,stepL,eq_self,aBin,reduceIte,Int.reduceEq,Int.reduceLT,Int.reduceLE,Int.reduceGT,Int.reduceGE,h1,F.op_mk,F.name_mk,F.args_mk,F.encs,Bool.false_eq_true,if_false]
 | true =>
  rw [hv] at h1
  have h6 := vocOk_len hv
  have hal : allS voc = alW voc.length := by unfold allS; rw [if_pos hv]
  have h3 := theoryP_run voc (vocOk_names hv) h6 (S &&& allS voc) (by rw [hal]; exact sub_of_and h6 S)
  rw [hal,thy_mask h6 S,← hal] at h3
  simp only [rowF] at h3
  simp (disch := omega) only [ir36,rowF,stepQ,stepL,eq_self,aBin,reduceIte,Int.reduceEq,Int.reduceLT,Int.reduceLE,Int.reduceGT,Int.reduceGE,bvQ,wu,shl_norm,shr_norm,and1_norm,h1,h2,h3,if_true]
theorem theoryR_run (voc : List (List UInt8)) (hn : voc.length < 1000000000) (hs : ∀ s ∈ voc,s.length < 9223372036854775808) (S : BitVec 64) : run tb 41 [strsD voc,bvD S] = some (rowF (thyE voc S).1 ++ [.int .i64 (thyE voc S).2]) := by
 unfold thyE
 cases hv : vocOk voc with
 | false =>
  refine run_ir (x := ir41) rfl ?_
  have h1 := valid3_run voc hn hs
  rw [hv] at h1
  simp (disch := omega) only [ir41,rowF,stepQ,stepL,eq_self,aBin,reduceIte,Int.reduceEq,Int.reduceLT,Int.reduceLE,Int.reduceGT,Int.reduceGE,h1,F.op_mk,F.name_mk,F.args_mk,F.encs,Bool.false_eq_true,if_false]
 | true => exact theoryT_run voc hv S
end Go.Proofs.YtojkhlijbpmgpaaGreat

namespace Go.Proofs.YtojkhlijbpmgpaaGreat
open Go Am
set_option maxRecDepth 100000
theorem hasR_run (x : BitVec 64) (w : Nat) (h : w < 9223372036854775808) : run tb 32 [bvD x,.int .i64 w] = some [.bool (x.getLsbD w)] := by
 refine run_ir (x := ir32) rfl ?_
 simp (disch := omega) only [ir32,stepQ,stepL,eq_self,aBin,reduceIte,Int.reduceEq,Int.reduceLT,Int.reduceLE,Int.reduceGT,Int.reduceGE,bvQ,wu,shl_norm,shr_norm,and1_norm]
end Go.Proofs.YtojkhlijbpmgpaaGreat

namespace Go.Proofs.YtojkhlijbpmgpaaGreat
open Go Am
set_option maxRecDepth 100000
theorem hasT_run (x : BitVec 64) (w : Nat) (h : w < 9223372036854775808) : run tb 29 [bvD x,.int .i64 w] = some [.bool (x.getLsbD w)] := by
 refine run_ir (x := ir29) rfl ?_
 simp (disch := omega) only [ir29,stepQ,stepL,eq_self,aBin,reduceIte,Int.reduceEq,Int.reduceLT,Int.reduceLE,Int.reduceGT,Int.reduceGE,bvQ,wu,shl_norm,shr_norm,and1_norm]
theorem slmax_run (ranks : List Int) (h0 : 0 < ranks.length) (hl : ranks.length < 1000000000) (hp : ∀ r ∈ ranks,0 ≤ r) : run tb 43 [numsD ranks] = some [.int .i64 (maxR ranks)] := by
 refine run_ir (x := ir43) rfl ?_
 have h1 : ¬ ((ranks.length : Nat) : Int) < 1 := by omega
 have hrow := row_N (l := ranks) (i := 0) h0
 rw [nat0] at hrow
 simp (disch := omega) only [ir43,stepQ,stepL,eq_self,aBin,reduceIte,Int.reduceEq,Int.reduceLT,Int.reduceLE,Int.reduceGT,Int.reduceGE,len_N,h1,hrow]
 have h0 : maxF ranks[0] (ranks.drop 1) = maxR ranks := by
  have : maxR ranks = maxF (max1 0 ranks[0]) (ranks.drop 1) := by
   cases ranks with
   | nil => simp at h0
   | cons a l => rfl
  rw [this]
  have : max1 0 ranks[0] = ranks[0] := by have := hp _ (List.getElem_mem h0); unfold max1; split <;> omega
  rw [this]
 have hone : (1 : Int) = ((1 : Nat) : Int) := rfl
 rw [hone]
 refine loop_k (σ := Int) ranks.length (fun i x => maxF x (ranks.drop i) = maxR ranks) (fun i x => [.int .i64 x,.int .i64 i]) (fun _ _ => [.int .i64 (maxR ranks)]) ?_ ?_ 1 ranks[0] (by omega) h0
 · rintro i x L hi hx hL
   rw [drop_s hi] at hx
   have hnext := hL (max1 x ranks[i]) hx
   unfold max1 at hnext
   simp (disch := omega) only [ir43p0,stepQ,stepL,eq_self,aBin,reduceIte,Int.reduceEq,Int.reduceLT,Int.reduceLE,Int.reduceGT,Int.reduceGE,len_N,hi,row_N,wr,natS,hnext]
 · rintro x L hx
   rw [List.drop_length] at hx
   have : x = maxR ranks := hx
   subst this
   simp (disch := omega) only [ir43p0,stepQ,stepL,eq_self,aBin,reduceIte,Int.reduceEq,Int.reduceLT,Int.reduceLE,Int.reduceGT,Int.reduceGE,len_N,Nat.lt_irrefl]
theorem first_run (names : List (List UInt8)) (hn : names.length < 1000000000) (fs : List F) (hf : ∀ f ∈ fs,f.size < 1000000000) (hfl : fs.length < 1000000000) :
 run tb 28 [strsD names,.sl (F.encs fs)] = some [.int .i64 (fstE names fs)] := by
 refine run_ir (x := ir28) rfl ?_
 simp (disch := omega) only [ir28,stepQ,stepL,eq_self,aBin,reduceIte,Int.reduceEq,Int.reduceLT,Int.reduceLE,Int.reduceGT,Int.reduceGE,len_F]
 refine loop_k (σ := Unit) fs.length (fun i _ => fstE names (fs.drop i) = fstE names fs) (fun i _ => [.int .i64 i]) (fun _ _ => [.int .i64 (fstE names fs)]) ?_ ?_ 0 () (Nat.zero_le _) rfl
 · rintro i _ L hi hp hL
   rw [drop_s hi,fstE_cons] at hp
   have hm := modelsW_run names fs[i] hn (hf _ (List.getElem_mem hi))
   simp only [rowF] at hm
   by_cases c : modelsE names fs[i] = 0
   · rw [if_pos c] at hp
     have hnext := hL () hp
     rw [c] at hm
     simp (disch := omega) only [ir28p0,stepQ,stepL,eq_self,aBin,reduceIte,Int.reduceEq,Int.reduceLT,Int.reduceLE,Int.reduceGT,Int.reduceGE,hi,row_F,hm,ibne,wr,natS,hnext]
   · rw [if_neg c] at hp
     rw [hp] at hm c
     simp (disch := omega) only [ir28p0,stepQ,stepL,eq_self,aBin,reduceIte,Int.reduceEq,Int.reduceLT,Int.reduceLE,Int.reduceGT,Int.reduceGE,hi,row_F,hm,ibne,c]
 · rintro _ L hp
   rw [List.drop_length] at hp
   simp (disch := omega) only [ir28p0,stepQ,stepL,eq_self,aBin,reduceIte,Int.reduceEq,Int.reduceLT,Int.reduceLE,Int.reduceGT,Int.reduceGE,Nat.lt_irrefl,← hp,fstE_nil]
theorem degree_run (names : List (List UInt8)) (ranks : List Int) (f : F) (hn : names.length < 1000000000) (hl : ranks.length < 1000000000) (hf : f.size < 1000000000) :
 run tb 15 [strsD names,numsD ranks,.int .i64 f.op,.str f.name,.sl (F.encs f.args)] = some (if degE names ranks f = 0 then [.int .i64 (degS ranks (modelsS names f)),.int .i64 0] else [.int .i64 0,.int .i64 (degE names ranks f)]) := by
 refine run_ir (x := ir15) rfl ?_
 have h1 := validateO_run names ranks hn hl
 have h2 := modelsW_run names f hn hf
 simp only [rowF] at h2
 by_cases c1 : orderE names ranks = 0
 · have h1 := h1
   rw [c1] at h1
   by_cases c2 : modelsE names f = 0
   · rw [c2] at h2
     have ha : degE names ranks f = 0 := by unfold degE; rw [if_neg (by simp [c1]),c2]
     rw [ha,if_pos rfl]
     obtain ⟨_,_,hrk⟩ := orderE_zero c1
     have hlen := orderE_len c1
     have hmem := rkIn_mem (rkOk_in hrk)
     have hmx := slmax_run ranks hlen.2 hl fun r hr => (hmem r hr).1
     have hmlt := maxR_lt (rkOk_in hrk) hlen.2
     have hmge := maxR_ge ranks
     unfold degS
     generalize modelsS names f = m at *
     have hw1 : IntKind.i64.wrap (maxR ranks + 1) = maxR ranks + 1 := wr (by omega) (by omega)
     simp (disch := omega) only [ir15,stepQ,stepL,eq_self,aBin,reduceIte,Int.reduceEq,Int.reduceLT,Int.reduceLE,Int.reduceGT,Int.reduceGE,h1,h2,ibne,hmx,hw1,len_N]
     generalize maxR ranks + 1 = a at *
     refine loop_k (σ := Unit) ranks.length (fun _ _ => True) (fun i _ => [.int .i64 (degF ranks m a i),.int .i64 i]) (fun _ _ => [.int .i64 (degF ranks m a ranks.length),.int .i64 0]) ?_ ?_ 0 () (Nat.zero_le _) trivial
     · rintro i _ L hi _ hL
       have hnext := hL () trivial
       have hh := hasT_run m i (by omega)
       rw [degF_succ,gd hi] at hnext
       unfold min1 at hnext
       cases hb : m.getLsbD i with
       | true =>
        rw [hb] at hh hnext
        rw [if_pos rfl] at hnext
        simp (disch := omega) only [ir15p1,ir15p0,stepQ,stepL,eq_self,aBin,reduceIte,Int.reduceEq,Int.reduceLT,Int.reduceLE,Int.reduceGT,Int.reduceGE,hi,row_N,hh,wr,natS,hnext]
       | false =>
        rw [hb] at hh hnext
        rw [if_neg (by simp)] at hnext
        simp (disch := omega) only [ir15p1,ir15p0,stepQ,stepL,eq_self,aBin,reduceIte,Int.reduceEq,Int.reduceLT,Int.reduceLE,Int.reduceGT,Int.reduceGE,hi,row_N,hh,wr,natS,hnext]
     · rintro _ L _
       simp (disch := omega) only [ir15p1,stepQ,stepL,eq_self,aBin,reduceIte,Int.reduceEq,Int.reduceLT,Int.reduceLE,Int.reduceGT,Int.reduceGE,Nat.lt_irrefl]
   · have ha : degE names ranks f = modelsE names f := by unfold degE; rw [if_neg (by simp [c1])]
     rw [ha,if_neg c2]
     simp (disch := omega) only [ir15,stepQ,stepL,eq_self,aBin,reduceIte,Int.reduceEq,Int.reduceLT,Int.reduceLE,Int.reduceGT,Int.reduceGE,h1,h2,ibne,c2]
 · have ha : degE names ranks f = orderE names ranks := by unfold degE; rw [if_pos c1]
   rw [ha,if_neg c1]
   simp (disch := omega) only [ir15,stepQ,stepL,eq_self,aBin,reduceIte,Int.reduceEq,Int.reduceLT,Int.reduceLE,Int.reduceGT,Int.reduceGE,h1,ibne,c1]
end Go.Proofs.YtojkhlijbpmgpaaGreat

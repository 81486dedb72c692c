/- What functions of the program compute: lemmas. -/
import Derived.Test.YtoalfckdmoahoaaGreatDoorLb1
import Derived.Test.YtoalfckdmoahoaaGreatDoorAm5
import Derived.Test.YtoalfckdmoahoaaGreatDoorAm6
set_option linter.unusedSimpArgs false
set_option linter.unusedVariables false
set_option linter.unusedSectionVars false
namespace Go.Proofs.YtoalfckdmoahoaaGreatDoor
open Go Am
set_option maxRecDepth 100000
theorem qnlb {p:Nat→Bool} {w:Nat} (h:p w=true):bitsTo p w|||1#64 <<< w=bitsTo p (w+1):=by simp only[bitsTo,h,if_true]
theorem qgkb {p:Nat→Bool} {w:Nat} (h:p w=false):bitsTo p w=bitsTo p (w+1):=by simp[bitsTo,h]
theorem qtlb (i:Nat) (hi:i<64):run tb 72 [.int .i64 i]=some [bvD (bitsTo (fun w=>decide (w / 2^i % 2=1)) 64)]:=by
 refine qg (x:=ir72) rfl ?_;simp (disch:=omega) only[ir72,qc,qb,bvQ];refine qcb (σ:=Unit) 64 (fun _ _=>True) (fun w _=>[bvD (bitsTo (fun w=>decide (w / 2^i % 2=1)) w),.int .i64 w]) (fun _ _=>[bvD (bitsTo (fun w=>decide (w / 2^i % 2=1)) 64)]) ?_ ?_ 0 () (Nat.zero_le _) trivial
 · rintro w _ L hw _ hL;have hnext:=hL () trivial;have hw':(w:Int)<64:=by omega
   have h2:w / 2^i≤w:=Nat.div_le_self ..;rcases Nat.mod_two_eq_zero_or_one (w / 2^i) with hb|hb
   · have hb':((w / 2^i % 2:Nat):Int)=0:=by omega
     rw[← qgkb (by simp[hb])] at hnext
     simp (disch:=omega) only[ir72p0,qc,qb,eq_self,aBin,reduceIte,bvQ,wu,qro,qvq,hw',wr,natS,hb',BitVec.zero_shiftLeft,BitVec.or_zero,hnext]
   · have hb':((w / 2^i % 2:Nat):Int)=1:=by omega
     rw[← qnlb (by simp[hb])] at hnext
     simp (disch:=omega) only[ir72p0,qc,qb,eq_self,aBin,reduceIte,bvQ,wu,qro,qvq,hw',wr,natS,hb',hnext]
 · rintro _ L _;simp (disch:=omega) only[ir72p0,qc,qb,eq_self,aBin,reduceIte,Int.reduceLT]
theorem qai (n:Nat) (hn:n≤6):run tb 55 [.int .i64 n]=some [bvD (bitsTo (fun _=>true) (2^n))]:=by
 refine qg (x:=ir55) rfl ?_;obtain rfl|rfl|rfl|rfl|rfl|rfl|rfl:n=0∨n=1∨n=2∨n=3∨n=4∨n=5∨n=6:=by omega
 all_goals rfl
theorem qce (l:List (List UInt8)) (hl:l.length<1000000000):run tb 17 [strsD l]=some [.bool (vocOk l)]:=by
 refine qg (x:=ir17) rfl ?_
 by_cases h6:l.length≤6
 · have h6':¬ ((l.length:Nat):Int)>6:=by omega
   have hv:vocOk l=okAt l 0:=by simp[vocOk,h6,qujb]
   rw[hv];simp (disch:=omega) only[ir17,qc,qb,eq_self,aBin,reduceIte,qne,h6'];refine qcb (σ:=Unit) l.length (fun _ _=>True) (fun i _=>[.int .i64 i]) (fun i _=>[.bool (okAt l i)]) ?_ ?_ 0 () (Nat.zero_le _) trivial
   · rintro i _ L hi _ hL;have hnext:=hL () trivial;have hn:=qgi l[i];cases hvn:validName l[i] with
     | false=>
      rw[hvn] at hn
      have:okAt l i=false:=by
       by_cases h0:0<i
       · rw[qes h0 hi,hvn];rfl
       · rw[qbl h0 hi,hvn];rfl
      simp (disch:=omega) only[ir17p1,ir17p0,qc,qb,eq_self,aBin,reduceIte,hi,qxt,hn,this]
     | true=>
      rw[hvn] at hn
      by_cases h0:¬ 0<i
      · have h0':¬ (i:Int)>0:=by omega
        rw[qbl h0 hi,hvn,Bool.true_and];simp (disch:=omega) only[ir17p1,ir17p0,qc,qb,eq_self,aBin,reduceIte,hi,h0',qxt,hn,wr,natS,hnext]
      · have h0:0<i:=by omega
        have h0':(i:Int)>0:=by omega
        have hs:(i:Int)-1=((i-1:Nat):Int):=by omega
        have hi1:i-1<l.length:=by omega
        rw[qes h0 hi,hvn,Bool.true_and];cases hb:Op.bytesLess l[i-1] l[i] with
        | true=>
         rw[Bool.true_and];simp (disch:=omega) only[ir17p1,ir17p0,qc,qb,eq_self,aBin,reduceIte,hi,h0',qxt,hn,wr,natS,hs,hb,hnext]
        | false=>
         rw[Bool.false_and];simp (disch:=omega) only[ir17p1,ir17p0,qc,qb,eq_self,aBin,reduceIte,hi,h0',qxt,hn,wr,hs,hb]
   · rintro _ L _;rw[qrmb];simp (disch:=omega) only[ir17p1,qc,qb,eq_self,aBin,reduceIte,Nat.lt_irrefl]
 · have h6':((l.length:Nat):Int)>6:=by omega
   have hv:vocOk l=false:=by simp[vocOk,h6]
   rw[hv];simp (disch:=omega) only[ir17,qc,qb,eq_self,aBin,reduceIte,qne,h6']
theorem qhp (l:List (List UInt8)) (hl:l.length<1000000000):run tb 39 [strsD l]=some [bvD (allS l)]:=by
 refine qg (x:=ir39) rfl ?_;have hv:=qce l hl;unfold allS;cases h:vocOk l with
 | false=>
  rw[h] at hv;simp (disch:=omega) only[ir39,qc,qb,eq_self,reduceIte,bvQ,hv]
 | true=>
  rw[h] at hv;have hw:=qai l.length (qy h);simp (disch:=omega) only[ir39,qc,qb,eq_self,reduceIte,hv,qne,hw]
end Go.Proofs.YtoalfckdmoahoaaGreatDoor

namespace Go.Proofs.YtoalfckdmoahoaaGreatDoor
open Go Am
set_option maxRecDepth 100000
theorem qoy {s:List UInt8}:∀ {l:List (List UInt8)} {k:Nat},s∈l→∃ i,∃ h:i<l.length,l[i]=s∧idxOf s k l=((k+i:Nat):Int)
 | [],_,h=>by simp at h
 | a::l,k,h=>by
  simp only[idxOf]
  by_cases hs:s=a
  · exact ⟨0,by simp,by simp[hs],by rw[if_pos hs];rfl⟩
  · rw[if_neg hs];obtain ⟨i,hi,h1,h2⟩:=qoy (l:=l) (k:=k+1) ((List.mem_cons.1 h).resolve_left hs);exact ⟨i+1,by simpa using hi,by simpa using h1,by rw[h2];congr 1;omega⟩
theorem qmwb (ys:List (List UInt8)) (f:F) (h:f.op=5):F.val ys f=f.args.all (F.val ys):=by
 rw[F.val_eq,valO];simp[h,List.all_map,Function.comp_def]
theorem qozb (ys:List (List UInt8)) (f:F) (h:f.op=6):F.val ys f=f.args.any (F.val ys):=by
 rw[F.val_eq,valO];simp[h,List.any_map,Function.comp_def]
theorem qwlb {α:Type} (p:α→Bool) {l:List α} {i:Nat} (h:i<l.length):(l.take (i+1)).all p=((l.take i).all p&&p l[i]):=by
 rw[List.take_add_one,List.getElem?_eq_getElem h,List.all_append];simp only[Option.toList_some,List.all_cons,List.all_nil,Bool.and_true]
theorem qqmb {α:Type} (p:α→Bool) {l:List α} {i:Nat} (h:i<l.length):(l.take (i+1)).any p=((l.take i).any p || p l[i]):=by
 rw[List.take_add_one,List.getElem?_eq_getElem h,List.any_append];simp only[Option.toList_some,List.any_cons,List.any_nil,Bool.or_false]
theorem qhqb {voc:List (List UInt8)} {f:F} (hl:f.args.length≠0∨f.op≠3) (h:∀ s∈F.atomL f,s∈voc):∀ g∈f.args,∀ s∈F.atomL g,s∈voc:=by
 intro g hg s hs;obtain ⟨i,hi,rfl⟩:=List.getElem_of_mem hg;refine h s ?_;rw[F.atomL_eq,if_neg (by rintro ⟨h1,h2⟩;rcases hl with h|h;exact h h2;exact h h1)]
 have h1:=F.atomLs_take_s f.args i hi
 have h2:∀ (l:List F) (j:Nat),∀ x∈F.atomLs (l.take j),x∈F.atomLs l:=by
  intro l
  induction l with
  | nil=>intro j x hx;simpa using hx
  | cons a l ih=>
   intro j x hx;cases j with
   | zero=>simp[F.atomLs] at hx
   | succ j=>
    simp only[List.take_succ_cons,F.atomLs,List.mem_append] at hx ⊢;exact hx.imp id (ih j x)
 exact h2 f.args (i+1) s (by rw[h1];simp[hs])
theorem qgdb (voc:List (List UInt8)) (hv:vocOk voc=true):∀ (f:F),f.size<1000000000→good f=true→(∀ s∈F.atomL f,s∈voc)→run tb 50 (strsD voc::rowF f)=some [bvD (modN voc f 64)]:=by
 refine qej fun f ih hs hg ha=>?_
 refine qg (x:=ir50) rfl ?_;have h6:=qy hv;have hasc:=(qnh (qhd hv)).1;have hgn:=qpa hg;have hc:=hgn.2;rw[qhdb] at hc;have hla:=F.sizes_len f.args;have hse:=F.size_eq f
 have hrun:∀ i (hi:i<f.args.length),(f.op≠3)→run tb 50 (strsD voc::rowF f.args[i])=some [bvD (modN voc f.args[i] 64)]:=fun i hi ho=>
  ih _ (List.getElem_mem hi) (by have:=F.size_arg f i hi;omega) (qtob hg i hi) (qhqb (.inr ho) ha _ (List.getElem_mem hi))
 by_cases h1:f.op=1
 · have : modN voc f 64 = BitVec.allOnes 64 := by
    rw[← qky];exact qnb (Nat.le_refl _) fun w _=>by rw[F.val_eq,valO];simp[h1]
   rw[this];simp (disch:=omega) only[ir50,rowF,qc,qb,eq_self,aBin,reduceIte,bvQ,h1]
 by_cases h3:f.op=3
 · have h0:f.args.length=0:=by simpa [h3] using hc
   have hmem:f.name∈voc:=ha _ (by rw[F.atomL_eq,if_pos ⟨h3,h0⟩];simp)
   obtain ⟨i,hi,hn,hx⟩:=qoy (k:=0) hmem;rw[Nat.zero_add] at hx;have hidx:=qds voc f.name (by omega)
   rw[hx] at hidx;have htr:=qtlb i (by omega)
   have:modN voc f 64=bitsTo (fun w=>decide (w / 2^i % 2=1)) 64:=qnb (Nat.le_refl _) fun w _=>by
    rw[F.val_eq,valO];simp only[h3,if_true,show ¬((3:Int)=1) by decide,if_false]
    have:=qha hasc (w:=w) hi;rw[hn] at this;cases hd:decide (w / 2^i % 2=1) with
    | true=>rw[decide_eq_true_eq] at hd;simpa using this.2 hd
    | false=>rw[decide_eq_false_iff_not] at hd;simpa using fun h=>hd (this.1 h)
   rw[this];simp (disch:=omega) only[ir50,rowF,qc,qb,eq_self,aBin,reduceIte,Int.reduceEq,bvQ,h3,hidx,htr]
 by_cases h4:f.op=4
 · have hl1:f.args.length=1:=by simpa [h4] using hc
   have r0:=hrun 0 (by omega) h3
   have:modN voc f 64 = ~~~(modN voc (f.args[0]'(by omega)) 64):=by
    unfold modN;rw[qlq]
    exact qnb (Nat.le_refl _) fun w _=>by
     rw[F.val_eq,valO];simp[h4,show 0<f.args.length by omega]
   rw[this];simp only[rowF] at r0;simp (disch:=omega) only[ir50,rowF,qc,qb,eq_self,aBin,reduceIte,Int.reduceEq,bvQ,h4,qnkb,r0]
 by_cases h7:f.op=7
 · have hl1:f.args.length=2:=by simpa [h7] using hc
   have r0:=hrun 0 (by omega) h3
   have r1:=hrun 1 (by omega) h3
   have:modN voc f 64 = ~~~(modN voc (f.args[0]'(by omega)) 64)|||modN voc (f.args[1]'(by omega)) 64:=by
    unfold modN;rw[qlq,qbib _ _ (Nat.le_refl _)]
    exact qnb (Nat.le_refl _) fun w _=>by
     rw[F.val_eq,valO];simp[h7,show 0<f.args.length by omega,show 1<f.args.length by omega]
     cases F.val (yesN voc w) (f.args[0]'(by omega))<;>cases F.val (yesN voc w) (f.args[1]'(by omega))<;>rfl
   rw[this];simp only[rowF] at r0 r1;simp (disch:=omega) only[ir50,rowF,qc,qb,eq_self,aBin,reduceIte,Int.reduceEq,bvQ,h7,qnkb,qnrb,r0,r1]
 by_cases h8:f.op=8
 · have hl1:f.args.length=2:=by simpa [h8] using hc
   have r0:=hrun 0 (by omega) h3
   have r1:=hrun 1 (by omega) h3
   have:modN voc f 64 = ~~~(modN voc (f.args[0]'(by omega)) 64 ^^^ modN voc (f.args[1]'(by omega)) 64):=by
    unfold modN;rw[qdob _ _ (Nat.le_refl _),qlq]
    exact qnb (Nat.le_refl _) fun w _=>by
     rw[F.val_eq,valO];simp[h8,show 0<f.args.length by omega,show 1<f.args.length by omega]
     cases F.val (yesN voc w) (f.args[0]'(by omega))<;>cases F.val (yesN voc w) (f.args[1]'(by omega))<;>rfl
   rw[this];simp only[rowF] at r0 r1;simp (disch:=omega) only[ir50,rowF,qc,qb,eq_self,aBin,reduceIte,Int.reduceEq,bvQ,h8,qnkb,qnrb,r0,r1]
 by_cases h5:f.op=5
 · simp (disch:=omega) only[ir50,rowF,qc,qb,eq_self,aBin,reduceIte,Int.reduceEq,bvQ,h5]
   have hm:modN voc f 64=bitsTo (fun w=>(f.args.take f.args.length).all (F.val (yesN voc w))) 64:=qnb (Nat.le_refl _) fun w _=>by
    rw[qmwb _ _ h5,List.take_length]
   have h0:BitVec.allOnes 64=bitsTo (fun w=>(f.args.take 0).all (F.val (yesN voc w))) 64:=by rw[← qky];exact qnb (Nat.le_refl _) fun w _=>by simp
   rw[hm,h0];refine qcb (σ:=Unit) f.args.length (fun _ _=>True) (fun i _=>[bvD (bitsTo (fun w=>(f.args.take i).all (F.val (yesN voc w))) 64),.int .i64 i]) (fun _ _=>[bvD (bitsTo (fun w=>(f.args.take f.args.length).all (F.val (yesN voc w))) 64)]) ?_ ?_ 0 () (Nat.zero_le _) trivial
   · rintro i _ L hi _ hL;have hnext:=hL () trivial;have r:=hrun i hi h3
     have hst:bitsTo (fun w=>(f.args.take (i+1)).all (F.val (yesN voc w))) 64=bitsTo (fun w=>(f.args.take i).all (F.val (yesN voc w))) 64&&&modN voc f.args[i] 64:=by
      unfold modN;rw[qgqb _ _ (Nat.le_refl _)];exact qnb (Nat.le_refl _) fun w _=>qwlb _ hi
     rw[hst] at hnext;simp only[rowF] at r;simp (disch:=omega) only[ir50p0,qc,qb,eq_self,aBin,reduceIte,bvQ,hi,qdu,r,wr,natS,hnext]
   · rintro _ L _;simp (disch:=omega) only[ir50p0,qc,qb,eq_self,aBin,reduceIte,Nat.lt_irrefl]
 · have h26 : f.op = 2 ∨ f.op = 6 := by
    by_cases h2:f.op=2
    · exact .inl h2
    · by_cases h6:f.op=6
      · exact .inr h6
      · simp[h1,h2,h3,h4,h5,h6,h7,h8] at hc
   simp (disch:=omega) only[ir50,rowF,qc,qb,eq_self,aBin,reduceIte,bvQ,h1,h3,h4,h5,h7,h8]
   have hm:modN voc f 64=bitsTo (fun w=>(f.args.take f.args.length).any (F.val (yesN voc w))) 64:=qnb (Nat.le_refl _) fun w _=>by
    rw[List.take_length];rcases h26 with h2|h6
    · have h0:f.args.length=0:=by simpa [h2] using hc
      rw[List.eq_nil_of_length_eq_zero h0,F.val_eq,valO];simp[h2]
    · rw[qozb _ _ h6]
   have h0:0#64=bitsTo (fun w=>(f.args.take 0).any (F.val (yesN voc w))) 64:=by rw[← qokb];exact qnb (Nat.le_refl _) fun w _=>by simp
   rw[hm,h0];refine qcb (σ:=Unit) f.args.length (fun _ _=>True) (fun i _=>[bvD (bitsTo (fun w=>(f.args.take i).any (F.val (yesN voc w))) 64),.int .i64 i]) (fun _ _=>[bvD (bitsTo (fun w=>(f.args.take f.args.length).any (F.val (yesN voc w))) 64)]) ?_ ?_ 0 () (Nat.zero_le _) trivial
   · rintro i _ L hi _ hL;have hnext:=hL () trivial;have r:=hrun i hi h3
     have hst:bitsTo (fun w=>(f.args.take (i+1)).any (F.val (yesN voc w))) 64=bitsTo (fun w=>(f.args.take i).any (F.val (yesN voc w))) 64|||modN voc f.args[i] 64:=by
      unfold modN;rw[qbib _ _ (Nat.le_refl _)];exact qnb (Nat.le_refl _) fun w _=>qqmb _ hi
     rw[hst] at hnext;simp only[rowF] at r;simp (disch:=omega) only[ir50p1,qc,qb,eq_self,aBin,reduceIte,bvQ,hi,qdu,r,wr,natS,hnext]
   · rintro _ L _;simp (disch:=omega) only[ir50p1,qc,qb,eq_self,aBin,reduceIte,Nat.lt_irrefl]
end Go.Proofs.YtoalfckdmoahoaaGreatDoor

namespace Go.Proofs.YtoalfckdmoahoaaGreatDoor
open Go Am
set_option maxRecDepth 100000
end Go.Proofs.YtoalfckdmoahoaaGreatDoor

namespace Go.Proofs.YtoalfckdmoahoaaGreatDoor
open Go Am
set_option maxRecDepth 100000
theorem qveb (X:BitVec 64):run tb 56 [bvD X]=some [bvD (sp X 1 32),bvD (sp X 0 32)]:=by
 refine qg (x:=ir56) rfl ?_;have z1:=qvjb X 1;have z0:=qvjb X 0;simp (disch:=omega) only[ir56,qc,qb,bvQ];rw[show (0#64:BitVec 64)=sp X 1 0 from rfl]
 conv=>lhs;rw[show ([bvD (sp X 1 0),bvD (sp X 1 0),D.int IntKind.i64 0]:List D)=[bvD (sp X 1 0),bvD (sp X 0 0),D.int IntKind.i64 ((0:Nat):Int)] from rfl]
 refine qcb (σ:=Unit) 32 (fun _ _=>True) (fun w _=>[bvD (sp X 1 w),bvD (sp X 0 w),.int .i64 w]) (fun _ _=>[bvD (sp X 1 32),bvD (sp X 0 32)]) ?_ ?_ 0 () (Nat.zero_le _) trivial
 · rintro w _ L hw _ hL;have hnext:=hL () trivial;rw[← qbfb X 1 w hw,← qbfb X 0 w hw] at hnext;rw[show 2*w+0=2*w from rfl] at hnext
   have hw':(w:Int)<32:=by omega
   have hm:(2:Int)*(w:Int)=((2*w:Nat):Int):=by omega
   simp (disch:=omega) only[ir56p0,qc,qb,eq_self,aBin,reduceIte,bvQ,hw',hm,wr,natS,hnext]
 · rintro _ L _;simp (disch:=omega) only[ir56p0,qc,qb,eq_self,aBin,reduceIte,Int.reduceLT,bvQ]
theorem qwp (o:Int) (f g:F):run tb 57 (.int .i64 o::rowF f++rowF g)=some (rowF (pr o f g)):=by
 refine qg (x:=ir57) rfl ?_;simp only[ir57,rowF,qc,qb,qptb];simp[pr,F.op_mk,F.name_mk,F.args_mk,F.encs,F.enc_eq]
theorem qph:∀ (voc:List (List UInt8)),okNames voc=true→voc.length≤6→∀ X:BitVec 64,Sub voc.length X→run tb 40 [strsD voc,bvD X]=some (rowF (thy voc X))
 | [],h,h6,X,hX=>by
  refine qg (x:=ir40) rfl ?_;have ha:=qai ([]:List (List UInt8)).length h6;have e:=qpl h6 hX;have o2:=qax h6 hX;have o1:=qiv h6 hX
  by_cases h1:X=0#64
  · subst h1;have:thy [] 0#64=F.mk 2 [] []:=by unfold thy;rw[if_pos (by simp)]
    rw[this];simp (disch:=omega) only[ir40,rowF,qc,qb,eq_self,bvQ,qne,ha,F.op_mk,F.name_mk,F.args_mk,F.encs]
  · have e2 : thy [] X = F.mk 1 [] [] := by
     unfold thy;rw[if_neg];intro hc;exact h1 (by rw[← e];exact hc)
    have h2:X=alW ([]:List (List UInt8)).length:=o1.1 (by rw[e2];rfl)
    rw[e2];unfold alW at h2;rw[← h2] at ha;simp (disch:=omega) only[ir40,rowF,qc,qb,eq_self,bvQ,qne,ha,h1,F.op_mk,F.name_mk,F.args_mk,F.encs]
 | a::l,h,h6,X,hX=>by
  refine qg (x:=ir40) rfl ?_;have ha:=qai (a::l).length h6;have hl:=qre h;have h5:l.length≤5:=by simp only[List.length_cons] at h6;omega
  have h6':l.length≤6:=by omega
  have he:=qai l.length h6';have e:=qpl h6 hX;have hsp:=qveb X;have hX':Sub (l.length+1) X:=hX;rw[qzyb h5 (by omega) hX',qzyb h5 (by omega) hX'] at hsp
  have u1:=qxy (X:=X) (b:=1) h5 (by omega)
  have u0:=qxy (X:=X) (b:=0) h5 (by omega)
  have r1:=qph l hl h6' (hf X 1 (2^(l.length+1))) u1;have r0:=qph l hl h6' (hf X 0 (2^(l.length+1))) u0;have p1:=qiv h6' u1;have p2:=qax h6' u1;have q1:=qiv h6' u0;have q2:=qax h6' u0;have inj:=fun hh=>qcub hl h6' u1 u0 hh
  have hst:hf X 1 (2^(l.length+1))=hf X 0 (2^(l.length+1))→thy l (hf X 1 (2^(l.length+1)))=thy l (hf X 0 (2^(l.length+1))):=fun h=>by rw[h]
  have hrow:PO.eval (.row 1) [strsD (a::l),.int .i64 0]=some [.str a]:=qxt (l:=a::l) (i:=0) (by simp)
  have hsub:PO.eval (.subL 1) [strsD (a::l),.int .i64 1,.int .i64 ((a::l).length:Nat)]=some [strsD l]:=by
   have:=qmac (l:=a::l) (a:=1) (by simp)
   simpa using this
  have hp:∀ (o:Int) (f g:F),run tb 57 [.int .i64 o,.int .i64 f.op,.str f.name,.sl (F.encs f.args),.int .i64 g.op,.str g.name,.sl (F.encs g.args)]=some (rowF (pr o f g)):=qwp;have hpa:∀ (o:Int) (g:F),run tb 57 [.int .i64 o,.int .i64 3,.str a,.sl [],.int .i64 g.op,.str g.name,.sl (F.encs g.args)]=some (rowF (pr o (atF a) g)):=fun o g=>qwp o (atF a) g
  have hpn:∀ (o:Int) (g:F),run tb 57 [.int .i64 o,.int .i64 4,.str [],.sl [[.int .i64 3,.str a,.sl []]],.int .i64 g.op,.str g.name,.sl (F.encs g.args)]=some (rowF (pr o (noF1 a) g)):=fun o g=>qwp o (noF1 a) g
  have ea:rowF (atF a)=[.int .i64 3,.str a,.sl []]:=rfl;have en:rowF (noF1 a)=[.int .i64 4,.str [],.sl [[.int .i64 3,.str a,.sl []]]]:=rfl;have ele:(a::l).length=l.length+1:=rfl;unfold thy;unfold alW at e p1 q1;rw[ele] at e ha;rw[e]
  by_cases h1:X=0#64
  · rw[if_pos h1];subst h1;simp (disch:=omega) only[ir40,rowF,qc,qb,eq_self,bvQ,qne,ele,ha,F.op_mk,F.name_mk,F.args_mk,F.encs]
  rw[if_neg h1]
  by_cases h2:X=bitsTo (fun _=>true) (2^(l.length+1))
  · rw[if_pos h2];rw[← h2] at ha;simp (disch:=omega) only[ir40,rowF,qc,qb,eq_self,bvQ,qne,ele,ha,h1,F.op_mk,F.name_mk,F.args_mk,F.encs]
  rw[if_neg h2];rw[ele] at hsub;clear e hX hX' u1 u0;generalize thy l (hf X 1 (2^(l.length+1)))=t at *;generalize thy l (hf X 0 (2^(l.length+1)))=f at *;generalize hf X 1 (2^(l.length+1))=S1 at *;generalize hf X 0 (2^(l.length+1))=S0 at *;generalize bitsTo (fun _=>true) (2^(l.length+1))=A1 at *
  generalize bitsTo (fun _=>true) (2^l.length)=A at *
  simp only[rowF] at r1 r0 hp hpa hpn;unfold joinF
  by_cases b0:F.beq t f=true
  · rw[if_pos b0];have hb:=inj (F.beq_true t f b0);subst hb;simp (disch:=omega) only[ir40,rowF,qc,qb,eq_self,bvQ,qne,ele,ha,h1,h2,hsub,hsp,r1]
  rw[if_neg b0]
  by_cases b1:S1=S0
  · exact absurd (by rw[hst b1];exact F.beq_refl f) b0
  by_cases t1:t.op=1
  · have s1:=p1.1 t1;subst s1
    by_cases f2:f.op=2
    · rw[if_pos ⟨t1,f2⟩,ea];have s0:=q2.1 f2;subst s0;simp (disch:=omega) only[ir40,ir40p1,ir40p0,qc,qb,eq_self,bvQ,qne,ele,ha,he,h1,h2,hrow,hsub,hsp,b1]
    · rw[if_neg (by rintro ⟨_,h⟩;exact f2 h),if_pos t1]
      have s0:¬ S0=0#64:=fun h=>f2 (q2.2 h)
      simp (disch:=omega) only[ir40,ir40p1,ir40p0,rowF,qc,qb,eq_self,bvQ,qne,ele,ha,he,h1,h2,hrow,hsub,hsp,b1,s0,r0,hpa]
  rw[if_neg (by rintro ⟨h,_⟩;exact t1 h),if_neg t1]
  have s1:¬ S1=A:=fun h=>t1 (p1.2 h)
  by_cases t2:t.op=2
  · have s2:=p2.1 t2;subst s2
    by_cases f1:f.op=1
    · rw[if_pos ⟨t2,f1⟩,en];have s0:=q1.1 f1;subst s0;simp (disch:=omega) only[ir40,ir40p1,ir40p0,qc,qb,eq_self,bvQ,qne,ele,ha,he,h1,h2,hrow,hsub,hsp,b1]
    · rw[if_neg (by rintro ⟨_,h⟩;exact f1 h),if_pos t2]
      have s0:¬ S0=A:=fun h=>f1 (q1.2 h)
      simp (disch:=omega) only[ir40,ir40p1,ir40p0,rowF,qc,qb,eq_self,bvQ,qne,ele,ha,he,h1,h2,hrow,hsub,hsp,b1,s1,s0,r0,hpn]
  rw[if_neg (by rintro ⟨h,_⟩;exact t2 h),if_neg t2]
  have s2:¬ S1=0#64:=fun h=>t2 (p2.2 h)
  by_cases f1:f.op=1
  · rw[if_pos f1];have s0:=q1.1 f1;subst s0;simp (disch:=omega) only[ir40,ir40p1,ir40p0,rowF,qc,qb,eq_self,bvQ,qne,ele,ha,he,h1,h2,hrow,hsub,hsp,b1,s2,r1,hpn]
  rw[if_neg f1];have s3:¬ S0=A:=fun h=>f1 (q1.2 h)
  by_cases f2:f.op=2
  · rw[if_pos f2];have s0:=q2.1 f2;subst s0;simp (disch:=omega) only[ir40,ir40p1,ir40p0,rowF,qc,qb,eq_self,bvQ,qne,ele,ha,he,h1,h2,hrow,hsub,hsp,b1,s1,s3,r1,hpa]
  · rw[if_neg f2];have s4:¬ S0=0#64:=fun h=>f2 (q2.2 h)
    have hpr:∀ (f g:F),run tb 57 [.int .i64 6,.int .i64 (pr 5 (atF a) f).op,.str (pr 5 (atF a) f).name,.sl (F.encs (pr 5 (atF a) f).args),.int .i64 (pr 5 (noF1 a) g).op,.str (pr 5 (noF1 a) g).name,.sl (F.encs (pr 5 (noF1 a) g).args)]=some (rowF (pr 6 (pr 5 (atF a) f) (pr 5 (noF1 a) g))):=fun f g=>qwp 6 _ _
    simp only[rowF] at hpr;simp (disch:=omega) only[ir40,ir40p1,ir40p0,rowF,qc,qb,eq_self,bvQ,qne,ele,ha,he,h1,h2,hrow,hsub,hsp,b1,s1,s2,s3,s4,r1,r0,hpa,hpn,hpr]
theorem qew (voc:List (List UInt8)) (hn:voc.length<1000000000) (S:BitVec 64):run tb 23 [strsD voc,bvD S]=some (rowF (thyE voc S).1++[.int .i64 (thyE voc S).2]):=by
 refine qg (x:=ir23) rfl ?_;have h1:=qce voc hn;have h2:=qhp voc hn;unfold thyE;cases hv:vocOk voc with
 | false=>
  rw[hv] at h1;simp (disch:=omega) only[ir23,rowF,qc,qb,eq_self,h1,F.op_mk,F.name_mk,F.args_mk,F.encs,if_false]
 | true=>
  rw[hv] at h1;have h6:=qy hv;have hal:allS voc=alW voc.length:=by unfold allS;rw[if_pos hv]
  have h3:=qph voc (qhd hv) h6 (S&&&allS voc) (by rw[hal];exact qsa h6 S)
  rw[hal,qpob h6 S,← hal] at h3;simp only[rowF] at h3;simp (disch:=omega) only[ir23,rowF,qc,qb,eq_self,bvQ,h1,h2,h3,if_true]
end Go.Proofs.YtoalfckdmoahoaaGreatDoor

namespace Go.Proofs.YtoalfckdmoahoaaGreatDoor
open Go Am
set_option maxRecDepth 100000
theorem qma (l:List Bool) (b:Bool) (hl:l.length<1000000000):run tb 75 [boolsD l,.bool b]=some [.int .i64 (idxG b 0 l)]:=by
 refine qg (x:=ir75) rfl ?_;simp (disch:=omega) only[ir75,qc,qb,qqwb];refine qcb (σ:=Unit) l.length (fun _ _=>True) (fun i _=>[.int .i64 i]) (fun i _=>[.int .i64 (idxG b i (l.drop i))]) ?_ ?_ 0 () (Nat.zero_le _) trivial
 · rintro i _ L hi _ hL;have hnext:=hL () trivial;rw[qmeb b hi]
   by_cases h:b=l[i]
   · have hb:(b == l[i])=true:=by simp[h]
     rw[if_pos h];simp (disch:=omega) only[ir75p0,qc,qb,eq_self,aBin,reduceIte,qvfb,hi,qebc,hb]
   · have hb:(b == l[i])=false:=by simpa using h
     rw[if_neg h];simp (disch:=omega) only[ir75p0,qc,qb,eq_self,aBin,reduceIte,qvfb,hi,qebc,hb,wr,natS,hnext]
 · rintro _ L _;rw[qcnb];simp (disch:=omega) only[ir75p0,qc,qb,eq_self,aBin,reduceIte,Nat.lt_irrefl]
theorem qoo (l:List Bool) (b:Bool) (hl:l.length<1000000000):run tb 58 [boolsD l,.bool b]=some [.bool (decide (b∈l))]:=by
 refine qg (x:=ir58) rfl ?_;have h:=qma l b hl;have h2:=qqjb b l 0;simp (disch:=omega) only[ir58,qc,qb,eq_self,aBin,reduceIte,h,h2]
def seenL (ranks:List Int) (i:Nat):List Bool:=(List.range ranks.length).map fun (k:Nat)=>decide ((k:Int)∈ranks.take i)
theorem qzgb (ranks:List Int):List.replicate ranks.length false=seenL ranks 0:=by
 unfold seenL;refine List.ext_getElem (by simp) fun i h1 h2=>?_
 simp
theorem qflb {ranks:List Int} {i r:Nat} (hi:i<ranks.length) (hr:ranks[i]=(r:Int)) (hr2:r<ranks.length):(seenL ranks i).set r true=seenL ranks (i+1):=by
 unfold seenL;refine List.ext_getElem (by simp) fun k h1 h2=>?_
 rw[List.getElem_set];simp only[List.getElem_map,List.getElem_range,List.take_add_one,List.getElem?_eq_getElem hi,Option.toList_some,List.mem_append,List.mem_singleton,hr]
 by_cases h:r=k
 · subst h;simp
 · have:¬ ((k:Int)=(r:Int)):=by omega
   simp[h,this]
theorem qhf (names:List (List UInt8)) (ranks:List Int) (hn:names.length<1000000000) (hl:ranks.length<1000000000):run tb 41 [strsD names,numsD ranks]=some [.int .i64 (orderE names ranks)]:=by
 refine qg (x:=ir41) rfl ?_;have hv:=qce names hn
 have key:vocOk names=true→ranks.length=2^names.length→∀ b:Bool,b=false→den (run tb) ir41p2 [strsD names,numsD ranks,.bool b] []=some [.int .i64 (orderE names ranks)]:=by
  rintro h1 h2 _ rfl;unfold orderE;rw[if_pos ⟨h1,h2⟩];have hmk:=mkB hl;simp (disch:=omega) only[ir41p2,qc,qb,qge,hmk,qzgb];refine qcb (σ:=Unit) ranks.length (fun i _=>rkIn ranks.length (ranks.take i)=true) (fun i _=>[.int .i64 (maxR (ranks.take i)),.int .i64 i,boolsD (seenL ranks i)]) (fun _ _=>[.int .i64 (if rkOk ranks=true then 0 else 8)]) ?_ ?_ 0 () (Nat.zero_le _) rfl
  · rintro i _ L hi hin hL;have htk:ranks.take (i+1)=ranks.take i++[ranks[i]]:=by rw[List.take_add_one,List.getElem?_eq_getElem hi];rfl
    have hmx:maxR (ranks.take (i+1))=(if ranks[i]>maxR (ranks.take i) then ranks[i] else maxR (ranks.take i)):=by rw[htk];exact qjjb _ _ _
    have hbad:¬ (0≤ranks[i]∧ranks[i]<ranks.length)→rkOk ranks=false:=fun h=>by
     cases hk:rkOk ranks with
     | false=>rfl
     | true=>exact absurd (qyi (qsl hk) _ (List.getElem_mem hi)) h
    have hlb:(seenL ranks i).length=ranks.length:=by simp[seenL]
    by_cases a1:ranks[i]<0
    · rw[hbad (by omega)]
      simp (disch:=omega) only[ir41p1,ir41p0,qc,qb,eq_self,aBin,reduceIte,hi,qpf,a1,if_false]
    by_cases a2:ranks[i]≥(ranks.length:Int)
    · rw[hbad (by omega)]
      simp (disch:=omega) only[ir41p1,ir41p0,qc,qb,eq_self,aBin,reduceIte,hi,qpf,a1,a2,qqwb,hlb,if_false]
    · obtain ⟨r,hr⟩:=Int.eq_ofNat_of_zero_le (show 0≤ranks[i] by omega)
      have hr2:r<ranks.length:=by omega
      have hnext:=hL () (by rw[htk];simp only[rkIn,List.all_append,Bool.and_eq_true,List.all_cons,List.all_nil,Bool.and_true,decide_eq_true_eq];exact ⟨hin,by omega,by omega⟩)
      rw[hmx,← qflb hi hr hr2,hr] at hnext;rw[hr] at a1 a2;have hc:=qpcc (l:=seenL ranks i) (i:=r) (by omega)
      have hs:=qmdc (l:=seenL ranks i) (i:=r) (by omega) true
      simp (disch:=omega) only[ir41p1,ir41p0,qc,qb,eq_self,aBin,reduceIte,hi,qpf,hr,a1,a2,qqwb,hlb,hc,hs,wr,natS,hnext]
  · rintro _ L hin;rw[List.take_length] at hin ⊢;have h0:=qyo ranks;have hlt:=qdw hin (by rw[h2];exact Nat.pow_pos (by omega))
    obtain ⟨m,hm⟩:=Int.eq_ofNat_of_zero_le h0;have hsub:=qlac (l:=seenL ranks ranks.length) (b:=m) (by simp[seenL];omega)
    have hc:=qoo ((seenL ranks ranks.length).take m) false (by simp[seenL];omega)
    have hok:decide (false∈(seenL ranks ranks.length).take m) = !rkOk ranks:=by
     have he:rkOk ranks=(List.range m).all fun (k:Nat)=>decide ((k:Int)∈ranks):=by simp only[rkOk,hin,Bool.true_and,hm,Int.toNat_natCast]
     rw[he]
     have ht:(seenL ranks ranks.length).take m=(List.range m).map fun (k:Nat)=>decide ((k:Int)∈ranks):=by
      unfold seenL;rw[List.take_length,← List.map_take,List.take_range,Nat.min_eq_left (by omega)]
     rw[ht];cases ha:(List.range m).all fun (k:Nat)=>decide ((k:Int)∈ranks) with
     | true=>
      simp only[Bool.not_true,decide_eq_false_iff_not,List.mem_map,not_exists,not_and];intro k hk;exact fun h=>h (by simpa using List.all_eq_true.1 ha k hk)
     | false=>
      simp only[Bool.not_false,decide_eq_true_eq,List.mem_map];obtain ⟨k,hk1,hk2⟩:=List.all_eq_false.1 ha;exact ⟨k,hk1,by simpa using hk2⟩
    rw[hok] at hc;rw[hm] at *;simp only[] at *;cases hk:rkOk ranks with
    | true=>
     rw[hk] at hc;simp (disch:=omega) only[ir41p1,qc,qb,eq_self,aBin,reduceIte,Nat.lt_irrefl,hsub,hc]
    | false=>
     rw[hk] at hc;simp (disch:=omega) only[ir41p1,qc,qb,eq_self,aBin,reduceIte,Nat.lt_irrefl,hsub,hc,if_false]
 have bad:orderE names ranks=1→∀ b:Bool,b=true→den (run tb) ir41p2 [strsD names,numsD ranks,.bool b] []=some [.int .i64 (orderE names ranks)]:=by
  rintro h _ rfl;rw[h];simp (disch:=omega) only[ir41p2,qc,qb,eq_self]
 cases h1:vocOk names with
 | false=>
  rw[h1] at hv;have:=bad (by simp[orderE,h1]) true rfl
  simp (disch:=omega) only[ir41,qc,qb,eq_self,hv,this]
 | true=>
  rw[h1] at hv;have h6:=qy h1
  by_cases h2:ranks.length=2^names.length
  · have:=key h1 h2 false rfl;simp (disch:=omega) only[ir41,qc,qb,eq_self,aBin,reduceIte,bvQ,qbi,hv,qge,qne,ibne,h2,this]
  · have:=bad (by simp[orderE,h2]) true rfl
    simp (disch:=omega) only[ir41,qc,qb,eq_self,aBin,reduceIte,bvQ,qbi,hv,qge,qne,ibne,h2,this]
theorem qou {ranks:List Int} {i r m:Nat} (hi:i<ranks.length) (hr:ranks[i]=(r:Int)) (hm:r<m) (hn:ranks.length≤64) :
 ((List.range m).map fun k=>levS ranks k i).set r (levS ranks r i|||1#64 <<< i)=(List.range m).map fun k=>levS ranks k (i+1):=by
 refine List.ext_getElem (by simp) fun k h1 h2=>?_
 rw[List.getElem_set];simp only[List.getElem_map,List.getElem_range];have hg:ranks.getD i (-1)=(r:Int):=by simp[hi,hr]
 split
 · rename_i h;subst h;exact qnlb (by simpa using hg)
 · rename_i h;refine qgkb ?_;rw[hg];simp;omega
theorem qpv (names:List (List UInt8)) (ranks:List Int) (hn:names.length<1000000000) (hl:ranks.length<1000000000):run tb 30 [strsD names,numsD ranks]=some [bvsD (levelsO names ranks)]:=by
 refine qg (x:=ir30) rfl ?_;have hv:=qhf names ranks hn hl;unfold levelsO
 by_cases h:orderE names ranks=0
 · rw[if_pos h];have hz:=qkc h;have hlen:=qyd h;have hin:=qsl hz.2.2;have hmem:=qyi hin;have hlt:=qdw hin hlen.2;obtain ⟨m,hm⟩:=Int.eq_ofNat_of_zero_le (qyo ranks)
   have hmax:run tb 51 [numsD ranks]=some [.int .i64 m]:=by
    refine qg (x:=ir51) rfl ?_;have h1:¬ ((ranks.length:Nat):Int)<1:=by omega
    have hrow:=qpf (l:=ranks) (i:=0) hlen.2;rw[nat0] at hrow;simp (disch:=omega) only[ir51,qc,qb,eq_self,aBin,reduceIte,qge,h1,hrow]
    have h0:maxF ranks[0] (ranks.drop 1)=(m:Int):=by
     have:maxR ranks=maxF (max1 0 ranks[0]) (ranks.drop 1):=by
      cases ranks with
      | nil=>simp at hlen
      | cons a l=>rfl
     rw[← hm,this];have:max1 0 ranks[0]=ranks[0]:=by have:=(hmem _ (List.getElem_mem hlen.2)).1;unfold max1;split<;>omega
     rw[this]
    have hone:(1:Int)=((1:Nat):Int):=rfl;rw[hone];refine qcb (σ:=Int) ranks.length (fun i x=>maxF x (ranks.drop i)=(m:Int)) (fun i x=>[.int .i64 x,.int .i64 i]) (fun _ _=>[.int .i64 m]) ?_ ?_ 1 ranks[0] hlen.2 h0
    · rintro i x L hi hx hL;rw[qrm hi] at hx;have hnext:=hL (max1 x ranks[i]) hx;unfold max1 at hnext;simp (disch:=omega) only[ir51p0,qc,qb,eq_self,aBin,reduceIte,qge,hi,qpf,wr,natS,hnext]
    · rintro x L hx;rw[List.drop_length] at hx;have:x=(m:Int):=hx;subst this;simp (disch:=omega) only[ir51p0,qc,qb,eq_self,aBin,reduceIte,qge,Nat.lt_irrefl]
   have hmk:=mkV (n:=m+1) (by rw[hm] at hlt;omega)
   have hls:levelsS ranks=(List.range (m+1)).map fun k=>levS ranks k ranks.length:=by unfold levelsS;rw[hm];rfl
   rw[hls];rw[h] at hv
   have h0:List.replicate (m+1) 0#64=(List.range (m+1)).map fun k=>levS ranks k 0:=by
    refine List.ext_getElem (by simp) fun i h1 h2=>?_
    simp[levS,bitsTo]
   rw[h0] at hmk;simp (disch:=omega) only[ir30,qc,qb,eq_self,aBin,reduceIte,bvQ,hv,hmax,qge,wr,natS,hmk,ibne];refine qcb (σ:=Unit) ranks.length (fun _ _=>True) (fun i _=>[.int .i64 i,bvsD ((List.range (m+1)).map fun k=>levS ranks k i)]) (fun _ _=>[bvsD ((List.range (m+1)).map fun k=>levS ranks k ranks.length)]) ?_ ?_ 0 () (Nat.zero_le _) trivial
   · rintro i _ L hi _ hL;have hnext:=hL () trivial;have hri:=hmem _ (List.getElem_mem hi);have hrm:=qbq ranks 0 _ (List.getElem_mem hi);obtain ⟨r,hr⟩:=Int.eq_ofNat_of_zero_le hri.1
     have hr2:r<m+1:=by
      have:ranks[i]≤maxR ranks:=hrm;rw[hm,hr] at this;have:=Int.ofNat_le.1 this;omega
     rw[← qou hi hr hr2 hlen.1] at hnext;have hc:=qicc (l:=(List.range (m+1)).map fun k=>levS ranks k i) (i:=r) (by simpa using hr2)
     have hg:=qtdc (l:=(List.range (m+1)).map fun k=>levS ranks k i) (i:=r) (by simpa using hr2)
     have hs:=qfdc (l:=(List.range (m+1)).map fun k=>levS ranks k i) (i:=r) (by simpa using hr2) (levS ranks r i|||1#64 <<< i)
     simp only[List.getElem_map,List.getElem_range] at hg;simp (disch:=omega) only[ir30p0,qc,qb,eq_self,aBin,reduceIte,bvQ,wu,hi,qpf,hr,hc,hg,hs,wr,natS,hnext]
   · rintro _ L _;simp (disch:=omega) only[ir30p0,qc,qb,eq_self,aBin,reduceIte,Nat.lt_irrefl]
 · rw[if_neg h];simp (disch:=omega) only[ir30,qc,qb,eq_self,aBin,reduceIte,hv,ibne,h,qtwb]
theorem qae (names:List (List UInt8)) (ranks:List Int) (hn:names.length<1000000000) (hl:ranks.length<1000000000) (S:BitVec 64):run tb 11 [strsD names,numsD ranks,bvD S]=some [bvD (leastS names ranks S)]:=by
 refine qg (x:=ir11) rfl ?_;have hv:=qpv names ranks hn hl
 have hlen:(levelsO names ranks).length<1000000000:=by
  unfold levelsO
  split
  · rename_i h;have hlt:=qdw (qsl (qkc h).2.2) (qyd h).2;have:=qyo ranks;simp[levelsS];omega
  · simp
 unfold leastS;generalize levelsO names ranks=ls at *;simp (disch:=omega) only[ir11,qc,qb,hv,quvb];refine qcb (σ:=Unit) ls.length (fun _ _=>True) (fun i _=>[.int .i64 i]) (fun i _=>[bvD (leastL S (ls.drop i))]) ?_ ?_ 0 () (Nat.zero_le _) trivial
 · rintro i _ L hi _ hL;have hnext:=hL () trivial;rw[qex S hi]
   by_cases h:ls[i]&&&S=0#64
   · rw[if_pos h];simp (disch:=omega) only[ir11p0,qc,qb,eq_self,aBin,reduceIte,bvQ,hi,qwnb,h,wr,natS,hnext]
   · rw[if_neg h];simp (disch:=omega) only[ir11p0,qc,qb,eq_self,aBin,reduceIte,bvQ,hi,qwnb,h]
 · rintro _ L _;rw[List.drop_length];simp (disch:=omega) only[ir11p0,qc,qb,eq_self,aBin,reduceIte,bvQ,Nat.lt_irrefl,leastL]
end Go.Proofs.YtoalfckdmoahoaaGreatDoor

namespace Go.Proofs.YtoalfckdmoahoaaGreatDoor
open Go Am
set_option maxRecDepth 100000
theorem qku (n:Nat) (hn:n≤26):run tb 3 [.int .i64 n]=some [strsD (vocN n)]:=by
 refine qg (x:=ir3) rfl ?_;simp (disch:=omega) only[ir3,qc,qb,qcqb];refine qcb (σ:=Unit) n (fun _ _=>True) (fun i _=>[.int .i64 i,strsD (vocN i)]) (fun _ _=>[strsD (vocN n)]) ?_ ?_ 0 () (Nat.zero_le _) trivial
 · rintro i _ L hi _ hL;have hnext:=hL () trivial;rw[qdjb] at hnext;have hlen:=qw i;simp (disch:=omega) only[ir3p0,qc,qb,eq_self,aBin,reduceIte,hi,wr,w8,qyub,qwyb,natS,hnext]
 · rintro _ L _;simp (disch:=omega) only[ir3p0,qc,qb,eq_self,aBin,reduceIte,Nat.lt_irrefl]
theorem qss (lo hi:Int) (l:List Int) (p:Nat) (hl:l.length≤2000) (hp:p≤l.length) (h1:-1000000≤lo) (h2:lo≤hi) (h3:hi<1000000) :
 ∃ (r:Int) (b:Nat),lo≤r∧r≤hi∧b≤l.length∧run tb 2 [.int .i64 lo,.int .i64 hi,numsD l,.int .i64 p]=some [.int .i64 r,numsD l,.int .i64 b]:=by
 obtain ⟨r,b,r0,r1,hb,hr⟩:=qiwb (hi-lo+1) l p hl hp (by omega) (by omega)
 refine ⟨lo+r,b,by omega,by omega,hb,qg (x:=ir2) rfl ?_⟩
 simp (disch:=omega) only[ir2,qc,qb,eq_self,aBin,reduceIte,wr,hr]
end Go.Proofs.YtoalfckdmoahoaaGreatDoor

namespace Go.Proofs.YtoalfckdmoahoaaGreatDoor
open Go Am
set_option maxRecDepth 100000
theorem qhcb (f:F) (hs:f.size<10000000000) (hd:f.depth<1000):run tb 48 (rowF f)=some [strsD (canon (F.atomL f))]:=qjf rfl (qedb f hs hd)
theorem qhe (voc:List (List UInt8)) (f:F) (hv:voc.length<1000000000) (hf:f.size<1000000000):run tb 29 (strsD voc::rowF f)=some [bvD (modelsS voc f),.int .i64 (modelsE voc f)]:=by
 refine qg (x:=ir29) rfl ?_;have h1:=qce voc hv;have h2:=qcn f hf;unfold modelsS;simp only[rowF] at h2;cases hvo:vocOk voc with
 | false=>
  rw[hvo] at h1;have he:modelsE voc f=1:=by simp[modelsE,hvo]
  rw[he];simp (disch:=omega) only[ir29,rowF,qc,qb,eq_self,Int.reduceEq,bvQ,h1,Int.reduceEq,if_false]
 | true=>
  rw[hvo] at h1
  by_cases hva:validate f=0
  · obtain ⟨g1,g2,g3⟩:=qjp hva;have h3:=qhcb f (by omega) (by omega)
    rw[hva] at h2;simp only[rowF] at h3;have he:modelsE voc f=if atomsIn voc f=false then 6 else 0:=by simp[modelsE,hvo,hva]
    have hcl:(canon (F.atomL f)).length<1000000000:=by
     have a1:=F.atomL_len f;have a2:(canon (F.atomL f)).length≤(F.atomL f).length:=qqe ((qojb _).imp fun h e=>by subst e;exact List.lt_irrefl _ h) fun x hx=>(qwl _ x).1 hx
     omega
    simp (disch:=omega) only[ir29,rowF,qc,qb,eq_self,aBin,reduceIte,bvQ,h1,h2,h3,ibne,qne];rw[he];unfold atomsIn
    have hmods:(canon (F.atomL f)).all (fun s=>voc.contains s)=true→run tb 50 (strsD voc::rowF f)=some [bvD (modN voc f 64)]:=fun ha=>qgdb voc hvo f hf g3 fun s hs=>by
     have:=List.all_eq_true.1 ha s ((qwl _ s).2 hs)
     simpa using this
    generalize canon (F.atomL f)=az at *;have hd0:az.all (fun s=>voc.contains s)=(az.drop 0).all fun s=>voc.contains s:=by simp
    rw[hd0];refine qcb (σ:=Unit) az.length (fun i _=>(az.take i).all (fun s=>voc.contains s)=true) (fun i _=>[.int .i64 i]) (fun i _=>[bvD (if (if ((az.drop i).all fun s=>voc.contains s)=false then (6:Int) else 0)=0 then modN voc f (2^voc.length) else 0#64),.int .i64 (if ((az.drop i).all fun s=>voc.contains s)=false then 6 else 0)]) ?_ ?_ 0 () (Nat.zero_le _) rfl
    · rintro i _ L hi hp hL;have hc:=qjs voc az[i] (by omega)
      rw[qrm hi,List.all_cons];cases hcc:voc.contains az[i] with
      | false=>
       rw[hcc] at hc;simp (disch:=omega) only[ir29p0,qc,qb,eq_self,aBin,Int.reduceEq,bvQ,hi,qxt,hc,if_true,Int.reduceEq,if_false]
      | true=>
       rw[hcc] at hc;have hnext:=hL () (by rw[List.take_add_one,List.getElem?_eq_getElem hi];simp only[Option.toList_some,List.all_append,List.all_cons,List.all_nil,Bool.and_true,hp,hcc])
       simp (disch:=omega) only[ir29p0,qc,qb,eq_self,aBin,reduceIte,hi,qxt,hc,wr,natS,hnext]
    · rintro _ L hp;rw[List.take_length] at hp;have hm:=hmods hp;have ha:=qhp voc hv;have hal:allS voc=bitsTo (fun _=>true) (2^voc.length):=by unfold allS;rw[if_pos hvo]
      have hcut:modN voc f 64&&&allS voc=modN voc f (2^voc.length):=by rw[hal];exact qgpb _ (pow6 (qy hvo))
      simp only[rowF] at hm;rw[List.drop_length];simp (disch:=omega) only[ir29p0,qc,qb,eq_self,aBin,bvQ,Nat.lt_irrefl,hm,ha,hcut,List.all_nil,if_false,if_true]
  · have he:modelsE voc f=validate f:=by simp[modelsE,hvo,hva]
    rw[he,if_neg hva];simp (disch:=omega) only[ir29,rowF,qc,qb,eq_self,aBin,reduceIte,bvQ,h1,h2,ibne,hva]
end Go.Proofs.YtoalfckdmoahoaaGreatDoor

namespace Go.Proofs.YtoalfckdmoahoaaGreatDoor
open Go Am
set_option maxRecDepth 100000
theorem qto (x:BitVec 64):run tb 76 [bvD x]=some [.int .i64 (ones x 64)]:=by
 refine qg (x:=ir76) rfl ?_;have hX:=x.isLt;rw[qrkb];obtain ⟨p0,p1,p2,p3,p4,p5,p6,p7,b0,b1,b2,b3,b4,b5,b6,b7,hs,hd⟩:=qxkb x.toNat;obtain ⟨-,hsw⟩:=qhib 8 x.toNat;rw[show bvD x=D.int .u64 (x.toNat:Int) from rfl]
 generalize x.toNat=X at *;obtain ⟨z,u,v,hz,hu,hv,hv1,hv2⟩:=qsx (dig X 8) p0 p1 p2 p3 p4 p5 p6 p7 b0 b1 b2 b3 b4 b5 b6 b7 hd;have m0:mk 256 85 8=6148914691236517205:=by decide
 have m1:mk 256 51 8=3689348814741910323:=by decide
 have m2:mk 256 15 8=1085102592571150095:=by decide
 have a1:X / 2&&&6148914691236517205≤6148914691236517205:=Nat.and_le_right;have a2:X&&&6148914691236517205≤6148914691236517205:=Nat.and_le_right;have hA:(X / 2&&&6148914691236517205)+(X&&&6148914691236517205)=s1 X 8:=by unfold s1;rw[m0]
 have e1:PO.eval (.bin .shr false) [.int .u64 (X:Int),.int .u64 1]=some [.int .u64 ((X / 2:Nat):Int)]:=qmk hX 1;have e2:PO.eval (.bin .and false) [.int .u64 ((X / 2:Nat):Int),.int .u64 6148914691236517205]=some [.int .u64 ((X / 2&&&6148914691236517205:Nat):Int)]:=qym (b:=6148914691236517205) (by omega) (by decide)
 have e3:PO.eval (.bin .and false) [.int .u64 (X:Int),.int .u64 6148914691236517205]=some [.int .u64 ((X&&&6148914691236517205:Nat):Int)]:=qym (b:=6148914691236517205) hX (by decide)
 have e4:=qkk (a:=X / 2&&&6148914691236517205) (b:=X&&&6148914691236517205) (by omega)
 rw[hA] at e4;have hA1:s1 X 8<18446744073709551616:=by rw[← hA];omega
 generalize X / 2&&&6148914691236517205=X1 at *;generalize X&&&6148914691236517205=X2 at *;generalize s1 X 8=A at *;have c1:A / 4&&&3689348814741910323≤3689348814741910323:=Nat.and_le_right;have c2:A&&&3689348814741910323≤3689348814741910323:=Nat.and_le_right;have hB:(A / 4&&&3689348814741910323)+(A&&&3689348814741910323)=s2 A 8:=by unfold s2;rw[m1]
 have f1:PO.eval (.bin .shr false) [.int .u64 (A:Int),.int .u64 2]=some [.int .u64 ((A / 4:Nat):Int)]:=qmk hA1 2;have f2:PO.eval (.bin .and false) [.int .u64 ((A / 4:Nat):Int),.int .u64 3689348814741910323]=some [.int .u64 ((A / 4&&&3689348814741910323:Nat):Int)]:=qym (b:=3689348814741910323) (by omega) (by decide)
 have f3:PO.eval (.bin .and false) [.int .u64 (A:Int),.int .u64 3689348814741910323]=some [.int .u64 ((A&&&3689348814741910323:Nat):Int)]:=qym (b:=3689348814741910323) hA1 (by decide)
 have f4:=qkk (a:=A / 4&&&3689348814741910323) (b:=A&&&3689348814741910323) (by omega)
 rw[hB] at f4;have hB1:s2 A 8≤7378697629483820646:=by rw[← hB];omega
 generalize A / 4&&&3689348814741910323=A1 at *;generalize A&&&3689348814741910323=A2 at *;generalize s2 A 8=B at *;have g1:PO.eval (.bin .shr false) [.int .u64 (B:Int),.int .u64 4]=some [.int .u64 ((B / 16:Nat):Int)]:=qmk (by omega) 4
 have g2:=qkk (a:=B / 16) (b:=B) (by omega)
 have g3:PO.eval (.bin .and false) [.int .u64 ((B / 16+B:Nat):Int),.int .u64 1085102592571150095]=some [.int .u64 ((B / 16+B&&&1085102592571150095:Nat):Int)]:=qym (b:=1085102592571150095) (by omega) (by decide)
 have hy:B / 16+B&&&1085102592571150095=dig X 8:=by rw[← hsw];unfold s3;rw[m2]
 rw[hy] at g3;generalize dig X 8=y at *;have k1:PO.eval (.bin .shr false) [.int .u64 (y:Int),.int .u64 8]=some [.int .u64 ((y / 256:Nat):Int)]:=qmk (by omega) 8
 have k2:=qkk (a:=y) (b:=y / 256) (by omega)
 rw[← hz] at k2;have k3:PO.eval (.bin .shr false) [.int .u64 (z:Int),.int .u64 16]=some [.int .u64 ((z / 65536:Nat):Int)]:=qmk (by omega) 16
 have k4:=qkk (a:=z) (b:=z / 65536) (by omega)
 rw[← hu] at k4;have k5:PO.eval (.bin .shr false) [.int .u64 (u:Int),.int .u64 32]=some [.int .u64 ((u / 4294967296:Nat):Int)]:=qmk (by omega) 32
 have k6:=qkk (a:=u) (b:=u / 4294967296) (by omega)
 rw[← hv] at k6
 have k7:PO.eval (.conv .i64) [.int .u64 (v:Int)]=some [.int .i64 (v:Int)]:=by
  show some [D.int .i64 (IntKind.i64.wrap (v:Int))]=_
  rw[wr (by omega) (by omega)]
 have k8:PO.eval (.bin .and false) [.int .i64 (v:Int),.int .i64 127]=some [.int .i64 ((v&&&127:Nat):Int)]:=qxw (b:=127) hv1 (by decide)
 have h127:v&&&127=v % 128:=Nat.and_two_pow_sub_one_eq_mod v 7;rw[h127,hv2,← hs] at k8;clear hz hu hv hd hy m0 m1 m2;generalize X / 2=X0 at *;generalize A / 4=A0 at *;generalize B / 16+B=B1 at *;generalize B / 16=B0 at *;generalize y / 256=y1 at *;generalize z / 65536=z1 at *;generalize u / 4294967296=u1 at *;simp only[ir76,qc,qb,eq_self,e1,e2,e3,e4,f1,f2,f3,f4,g1,g2,g3,k1,k2,k3,k4,k5,k6,k7,k8]
end Go.Proofs.YtoalfckdmoahoaaGreatDoor

namespace Go.Proofs.YtoalfckdmoahoaaGreatDoor
open Go Am
set_option maxRecDepth 100000
def normE (names:List (List UInt8)) (l:List Int):Bool:=vocOk names&&decide (l.length=2^names.length)
end Go.Proofs.YtoalfckdmoahoaaGreatDoor

namespace Go.Proofs.YtoalfckdmoahoaaGreatDoor
open Go Am
set_option maxRecDepth 100000
theorem qspb (x y:Int):run tb 37 [.int .i64 x,.int .i64 y]=some [.bool (decide (x<y))]:=by
 refine qg (x:=ir37) rfl ?_
 have hn:∀ z:Int,run tb 54 [.int .i64 z]=some [.bool false]:=fun z=>by
  refine qg (x:=ir54) rfl ?_;simp only[ir54,qc,qb,eq_self,aBin,reduceIte,ibne]
 by_cases h:x<y
 · simp only[ir37,qc,qb,eq_self,aBin,reduceIte,hn,h]
 · simp only[ir37,qc,qb,eq_self,aBin,reduceIte,hn,h]
theorem qja (l:List Int) (hl:l.length<1000000000) (hp:l.Pairwise fun x y=>x<y) (t:Int):run tb 22 [numsD l,.int .i64 t]=some [.int .i64 (lessN t l),.bool (decide (lessN t l<l.length∧l.getD (lessN t l) 0=t))]:=by
 refine qg (x:=ir22) rfl ?_
 have hn:∀ z:Int,run tb 38 [.int .i64 z]=some [.bool false]:=fun z=>by
  refine qg (x:=ir38) rfl ?_;simp only[ir38,qc,qb,eq_self,aBin,reduceIte,ibne]
 have hle:=qapb t l;simp (disch:=omega) only[ir22,qc,qb,qge];refine qwfb (ι:=Nat × Nat) (fun x=>x.2-x.1) (fun x=>x.1≤lessN t l∧lessN t l≤x.2∧x.2≤l.length) (fun x=>[.int .i64 x.1,.int .i64 x.2]) (fun _=>[.int .i64 (lessN t l),.bool (decide (lessN t l<l.length∧l.getD (lessN t l) 0=t))]) ?_ (0,l.length) ⟨Nat.zero_le _,hle,Nat.le_refl _⟩
 rintro ⟨i,j⟩ L ⟨h1,h2,h3⟩ hL;simp only at h1 h2 h3
 by_cases hij:i<j
 · have hm:(i+j) / 2<l.length:=by omega
   have hs:(((i+j:Nat):Int)).fdiv (2^(min (Int.toNat 1) IntKind.u64.bits))=(((i+j) / 2:Nat):Int):=by
    have:=qro (a:=i+j) (n:=1) (by omega)
    rw[Nat.pow_one] at this;exact this
   have hadd:(i:Int)+(j:Int)=((i+j:Nat):Int):=by omega
   have hc:=qspb l[(i+j) / 2] t;have hlt:=qco hp t ((i+j) / 2) hm
   by_cases hd:l[(i+j) / 2]<t
   · have hnext:=hL ((i+j) / 2+1,j) ⟨by have:=hlt.1 hd;omega,h2,h3⟩ (by simp only;omega)
     simp only at hnext;rw[decide_eq_true hd] at hc;simp (disch:=omega) only[ir22p0,qc,qb,eq_self,aBin,reduceIte,Int.reduceLE,hij,hadd,wr,wu,hs,qpf,hc,natS,hnext]
   · have hnext:=hL (i,(i+j) / 2) ⟨h1,by have:¬ (i+j) / 2<lessN t l:=fun h=>hd (hlt.2 h);omega,by omega⟩ (by simp only;omega)
     simp only at hnext;rw[decide_eq_false hd] at hc;simp (disch:=omega) only[ir22p0,qc,qb,eq_self,aBin,reduceIte,Int.reduceLE,hij,hadd,wr,wu,hs,qpf,hc,hnext]
 · have hi:i=lessN t l:=by omega
   simp only[← hi]
   by_cases hil:i<l.length
   · have hg:l.getD i 0=l[i]:=by simp[hil]
     have hn1:=hn l[i];rw[hg]
     by_cases he:l[i]=t
     · simp (disch:=omega) only[ir22p0,qc,qb,eq_self,aBin,reduceIte,hij,hil,qpf,he,and_self]
     · simp (disch:=omega) only[ir22p0,qc,qb,eq_self,aBin,reduceIte,hij,hil,qpf,he,hn1,and_false]
   · simp (disch:=omega) only[ir22p0,qc,qb,eq_self,aBin,reduceIte,hij,hil,false_and]
theorem qiu (l:List Int) (hl:l.length<1000000000):run tb 19 [numsD l]=some [numsD (sortI l),numsD l]:=by
 refine qg (x:=ir19) rfl ?_;have h1:run tb 35 [numsD l]=some [numsD l,numsD l]:=qjf rfl (by rw[show ext35=collectE from rfl,collectE,qvg,if_pos hl])
 have h2:run tb 36 [numsD l]=some [numsD (sortI l)]:=qjf rfl (by rw[show ext36=sortE from rfl,sortE,qvg,if_pos hl])
 have c1:∀ k e J,callQ (run tb) 2 false [0] k e J (some [numsD l,numsD l])=den (run tb) k (e++[numsD l,numsD l]) J:=fun k e J=>rfl
 have c2:∀ k e J,callQ (run tb) 1 false [0] k e J (some [numsD (sortI l)])=den (run tb) k (e++[numsD (sortI l)]) J:=fun k e J=>rfl
 simp (disch:=omega) only[ir19,qc,qb,eq_self,h1,h2,c1,c2]
theorem qsg (names:List (List UInt8)) (l:List Int) (hn:names.length<1000000000) (hl:l.length<1000000000) :
 run tb 5 [strsD names,numsD l]=some (if normE names l=true then [strsD names,numsD (normS l),.int .i64 0] else [.sl [],.sl [],.int .i64 1]):=by
 refine qg (x:=ir5) rfl ?_;have hv:=qce names hn
 have key:normE names l=true→den (run tb) ir5p1 [strsD names,numsD l,.bool false] []=some (if normE names l=true then [strsD names,numsD (normS l),.int .i64 0] else [.sl [],.sl [],.int .i64 1]):=by
  intro h;rw[if_pos h];have h1:run tb 18 [numsD l]=some [numsD l]:=qjf rfl (by rw[show ext18=valuesE from rfl,valuesE,qvg])
  have h2:=qiu l hl;have h3:run tb 20 [numsD (sortI l)]=some [numsD (canonI l),numsD (tailI (sortI l))]:=qjf rfl (by rw[show ext20=compactE from rfl,compactE,qvg,if_pos (by rw[qwh];exact hl)];rfl)
  have h4:run tb 21 [strsD names]=some [strsD names]:=qjf rfl (by rw[show ext21=cloneE from rfl];unfold cloneE;simp only[qibb,hn,if_true])
  have c2:∀ k e J,callQ (run tb) 2 false [0] k e J (some [numsD (sortI l),numsD l])=den (run tb) k (e++[numsD (sortI l),numsD l]) J:=fun k e J=>rfl
  have c3:∀ k e J,callQ (run tb) 2 false [1] k e J (some [numsD (canonI l),numsD (tailI (sortI l))])=den (run tb) k (e++[numsD (canonI l),numsD (tailI (sortI l))]) J:=fun k e J=>rfl
  have c4:∀ k e J,callQ (run tb) 1 false [0] k e J (some [strsD names])=den (run tb) k (e++[strsD names]) J:=fun k e J=>rfl
  have hcl:=qfdb l;have hse:=fun t=>qja (canonI l) (by omega) (qjj l) t
  simp (disch:=omega) only[ir5p1,qc,qb,h1,h2,c2,h3,c3,h4,c4,qge,qnob];have hb:=fun r=>qtw r l
  generalize canonI l=cs at *;refine qcb (σ:=Unit) l.length (fun _ _=>True) (fun i _=>[.int .i64 i,numsD ((normS l).take i)]) (fun _ _=>[strsD names,numsD (normS l),.int .i64 0]) ?_ ?_ 0 () (Nat.zero_le _) trivial
  · rintro i _ L hi _ hL;have hnext:=hL () trivial;have hns:(normS l).length=l.length:=by simp[normS]
    have htk:(normS l).take (i+1)=(normS l).take i++[((belowL l[i] l).length:Int)]:=by rw[List.take_add_one,List.getElem?_eq_getElem (by omega)];simp[normS]
    have hsr:=hse l[i];rw[hb] at hsr;rw[htk] at hnext;have htl:((normS l).take i).length=i:=by rw[List.length_take];omega
    generalize (normS l).take i=acc at *;have c5:∀ (x y:D) k e J,callQ (run tb) 2 false [] k e J (some [x,y])=den (run tb) k (e++[x,y]) J:=fun x y k e J=>rfl
    simp (disch:=omega) only[ir5p0,qc,qb,eq_self,aBin,reduceIte,hi,qpf,hsr,c5,qrcc,wr,natS,hnext]
  · rintro _ L _;have hns:(normS l).length=l.length:=by simp[normS]
    rw[show (normS l).take l.length=normS l by rw[← hns,List.take_length]]
    simp (disch:=omega) only[ir5p0,qc,qb,eq_self,aBin,reduceIte,Nat.lt_irrefl]
 have bad:normE names l=false→den (run tb) ir5p1 [strsD names,numsD l,.bool true] []=some (if normE names l=true then [strsD names,numsD (normS l),.int .i64 0] else [.sl [],.sl [],.int .i64 1]):=by
  intro h;rw[h];simp (disch:=omega) only[ir5p1,qc,qb,eq_self,if_false]
 cases h1:vocOk names with
 | false=>
  rw[h1] at hv;have:=bad (by simp[normE,h1])
  simp (disch:=omega) only[ir5,qc,qb,eq_self,hv,this]
 | true=>
  rw[h1] at hv;have h6:=qy h1
  by_cases h2:l.length=2^names.length
  · have:=key (by simp[normE,h1,h2])
    simp (disch:=omega) only[ir5,qc,qb,eq_self,aBin,reduceIte,bvQ,qbi,hv,qge,qne,ibne,h2,this]
  · have:=bad (by simp[normE,h2])
    simp (disch:=omega) only[ir5,qc,qb,eq_self,aBin,reduceIte,bvQ,qbi,hv,qge,qne,ibne,h2,this]
end Go.Proofs.YtoalfckdmoahoaaGreatDoor

namespace Go.Proofs.YtoalfckdmoahoaaGreatDoor
open Go Am
def fillR (l:List Int) (i:Nat):List Int:=(List.range l.length).map fun (k:Nat)=>if k<i then l.getD k 0 else 0
theorem qur (l:List Int):List.replicate l.length 0=fillR l 0:=by
 unfold fillR;refine List.ext_getElem (by simp) fun i h1 h2=>?_
 simp
theorem qzs {l:List Int} {i:Nat} (hi:i<l.length):(fillR l i).set i (l.getD i 0)=fillR l (i+1):=by
 unfold fillR;refine List.ext_getElem (by simp) fun k h1 h2=>?_
 rw[List.getElem_set];simp only[List.getElem_map,List.getElem_range]
 by_cases h:i=k
 · subst h;simp
 · have:(k<i+1)=(k<i):=propext ⟨fun h=>by omega,fun h=>by omega⟩
   simp[h,this]
theorem qby (l:List Int):fillR l l.length=l:=by
 unfold fillR;refine List.ext_getElem (by simp) fun k h1 h2=>?_
 simp[h2]
end Go.Proofs.YtoalfckdmoahoaaGreatDoor

namespace Go.Proofs.YtoalfckdmoahoaaGreatDoor
open Go Am
set_option maxRecDepth 100000
def chE (names:List (List UInt8)) (ranks:List Int) (f:F):Int:=if orderE names ranks≠0 then orderE names ranks else modelsE names f
section
variable (names:List (List UInt8)) (ranks:List Int) (f:F) (hn:names.length<1000000000) (hs:∀ s∈names,s.length<9223372036854775808) (hl:ranks.length<1000000000) (hf:f.size<1000000000) (hb:F.allF nameB f=true)
include hn hs hl hf hb
end
end Go.Proofs.YtoalfckdmoahoaaGreatDoor

namespace Go.Proofs.YtoalfckdmoahoaaGreatDoor
open Go Am
set_option maxRecDepth 100000
theorem qau (names:List (List UInt8)) (ranks:List Int) (hn:names.length<1000000000) (hl:ranks.length<1000000000):run tb 25 [strsD names,numsD ranks]=some [bvD (beliefsS names ranks)]:=by
 refine qg (x:=ir25) rfl ?_;have h:=qae names ranks hn hl (BitVec.allOnes 64);simp (disch:=omega) only[ir25,qc,qb,eq_self,bvQ,h,beliefsS]
end Go.Proofs.YtoalfckdmoahoaaGreatDoor

namespace Go.Proofs.YtoalfckdmoahoaaGreatDoor
open Go Am
set_option maxRecDepth 100000
theorem qik (names:List (List UInt8)) (ranks:List Int) (f:F) (hn:names.length<1000000000) (hl:ranks.length<1000000000) (hf:f.size<1000000000) :
 run tb 24 (strsD names::numsD ranks::rowF f)=some (if orderE names ranks≠0 then [bvD 0#64,bvD 0#64,.int .i64 (orderE names ranks)] else [bvD (modelsS names f),bvD (allS names),.int .i64 (modelsE names f)]):=by
 refine qg (x:=ir24) rfl ?_;have h1:=qhf names ranks hn hl;have h2:=qhe names f hn hf;have h3:=qhp names hn;simp only[rowF] at h2
 by_cases h:orderE names ranks=0
 · rw[if_neg (by simp[h])]
   rw[h] at h1;simp (disch:=omega) only[ir24,rowF,qc,qb,eq_self,aBin,reduceIte,h1,ibne,h2,h3]
 · rw[if_pos h];simp (disch:=omega) only[ir24,rowF,qc,qb,eq_self,aBin,reduceIte,bvQ,h1,ibne,h]
theorem qhn (names:List (List UInt8)) (ranks:List Int) (f:F) (hn:names.length<1000000000) (hl:ranks.length<1000000000) (hf:f.size<1000000000) :
 run tb 7 (strsD names::numsD ranks::rowF f)=some [bvD (if chE names ranks f=0 then leastS names ranks (modelsS names f) else 0#64),.int .i64 (chE names ranks f)]:=by
 refine qg (x:=ir7) rfl ?_;have h1:=qik names ranks f hn hl hf;have h2:=qae names ranks hn hl (modelsS names f);simp only[rowF] at h1
 by_cases h:orderE names ranks=0
 · rw[if_neg (by simp[h])] at h1
   have he:chE names ranks f=modelsE names f:=by simp[chE,h]
   rw[he]
   by_cases hm:modelsE names f=0
   · rw[if_pos hm];rw[hm] at h1 ⊢;simp (disch:=omega) only[ir7,rowF,qc,qb,eq_self,aBin,reduceIte,bvQ,h1,ibne,h2]
   · rw[if_neg hm];simp (disch:=omega) only[ir7,rowF,qc,qb,eq_self,aBin,reduceIte,bvQ,h1,ibne,hm]
 · rw[if_pos h] at h1;have he:chE names ranks f=orderE names ranks:=by simp[chE,h]
   rw[he,if_neg h];simp (disch:=omega) only[ir7,rowF,qc,qb,eq_self,aBin,reduceIte,bvQ,h1,ibne,h]
theorem qhs (names:List (List UInt8)) (ranks:List Int) (f:F) (hn:names.length<1000000000) (hl:ranks.length<1000000000) (hf:f.size<1000000000) :
 run tb 8 (strsD names::numsD ranks::rowF f)=some [bvD (if chE names ranks f=0 then beliefsS names ranks|||leastS names ranks (allS names &&& ~~~modelsS names f) else 0#64),.int .i64 (chE names ranks f)]:=by
 refine qg (x:=ir8) rfl ?_;have h1:=qik names ranks f hn hl hf;have h2:=qae names ranks hn hl (allS names &&& ~~~modelsS names f);have h3:=qau names ranks hn hl;simp only[rowF] at h1
 by_cases h:orderE names ranks=0
 · rw[if_neg (by simp[h])] at h1
   have he:chE names ranks f=modelsE names f:=by simp[chE,h]
   rw[he]
   by_cases hm:modelsE names f=0
   · rw[if_pos hm];rw[hm] at h1 ⊢;simp (disch:=omega) only[ir8,rowF,qc,qb,eq_self,aBin,reduceIte,bvQ,h1,ibne,h2,h3]
   · rw[if_neg hm];simp (disch:=omega) only[ir8,rowF,qc,qb,eq_self,aBin,reduceIte,bvQ,h1,ibne,hm]
 · rw[if_pos h] at h1;have he:chE names ranks f=orderE names ranks:=by simp[chE,h]
   rw[he,if_neg h];simp (disch:=omega) only[ir8,rowF,qc,qb,eq_self,aBin,reduceIte,bvQ,h1,ibne,h]
end Go.Proofs.YtoalfckdmoahoaaGreatDoor

namespace Go.Proofs.YtoalfckdmoahoaaGreatDoor
open Go Am
set_option maxRecDepth 100000
theorem qcpb (a b:List Int) (ha:a.length<1000000000):run tb 33 [numsD a,numsD b]=some [.bool (decide (a=b))]:=by
 refine qg (x:=ir33) rfl ?_
 by_cases hl:a.length=b.length
 · simp (disch:=omega) only[ir33,qc,qb,eq_self,aBin,reduceIte,qge,ibne,hl];have h0:decide (a=b)=decide (a.drop 0=b.drop 0):=by simp
   rw[h0];refine qcb (σ:=Unit) b.length (fun _ _=>True) (fun i _=>[.int .i64 i]) (fun i _=>[.bool (decide (a.drop i=b.drop i))]) ?_ ?_ 0 () (Nat.zero_le _) trivial
   · rintro i _ L hi _ hL;have hnext:=hL () trivial;have hia:i<a.length:=by omega
     have e1:a.drop i=a[i]::a.drop (i+1):=List.drop_eq_getElem_cons hia;have e2:b.drop i=b[i]::b.drop (i+1):=List.drop_eq_getElem_cons hi;rw[e1,e2]
     by_cases h:a[i]=b[i]
     · have:decide (a[i]::a.drop (i+1)=b[i]::b.drop (i+1))=decide (a.drop (i+1)=b.drop (i+1)):=by rw[h];exact decide_eq_decide.2 ⟨fun e=>(List.cons.inj e).2,fun e=>by rw[e]⟩
       rw[this];simp (disch:=omega) only[ir33p0,qc,qb,eq_self,aBin,reduceIte,hi,qpf,ibne,h,wr,natS,hnext]
     · have:decide (a[i]::a.drop (i+1)=b[i]::b.drop (i+1))=false:=decide_eq_false fun e=>h (List.cons.inj e).1
       rw[this];simp (disch:=omega) only[ir33p0,qc,qb,eq_self,aBin,reduceIte,hi,qpf,ibne,h]
   · rintro _ L _;have:decide (a.drop b.length=b.drop b.length)=true:=by simp[← hl]
     rw[this];simp (disch:=omega) only[ir33p0,qc,qb,eq_self,aBin,reduceIte,Nat.lt_irrefl]
 · have:decide (a=b)=false:=by simp;rintro rfl;exact hl rfl
   rw[this];simp (disch:=omega) only[ir33,qc,qb,eq_self,aBin,reduceIte,qge,ibne,hl]
end Go.Proofs.YtoalfckdmoahoaaGreatDoor

/- Lemmas. -/
import Derived.Test.YtefjlhhicgepfaaGreatDoorLb1
set_option linter.unusedSimpArgs false
set_option linter.unusedVariables false
set_option linter.unusedSectionVars false
open Nat (le_refl lt_irrefl zero_le)
open List (all_append all_cons all_nil drop_length ext_getElem getElem?_eq_getElem getElem_map getElem_mem getElem_range getElem_set range replicate take_add_one take_length)
namespace Go.Proofs.YtefjlhhicgepfaaGreatDoor
open Go Am
set_option maxRecDepth 100000
theorem ajc{p:Nat→Bool}{w:Nat}(h:p w=true):bc p w|||1#64 <<< w=bc p (w+1):=by simp only[bc,h,if_true]
theorem aik{p:Nat→Bool}{w:Nat}(h:p w=false):bc p w=bc p (w+1):=by simp[bc,h]
theorem a1z(i:Nat)(hi:i<64):run tb 87 [.int .i64 i]=some [bvD (bc (fun w=>decide (w / 2^i % 2=1)) 64)]:=by
 refine qh (x:=ir87) rfl ?_;simp (disch:=omega) only[ir87,qe,qf,bvQ];refine qu (σ:=Unit) 64 (fun _ _=>True) (fun w _=>[bvD (bc (fun w=>decide (w / 2^i % 2=1)) w),.int .i64 w]) (fun _ _=>[bvD (bc (fun w=>decide (w / 2^i % 2=1)) 64)]) ?_ ?_ 0 () (zero_le _) trivial
 · rintro w _ L hw _ hL;have ah:=hL () trivial;have wv:(w:Int)<64:=by omega
   have h2:w / 2^i≤w:=Nat.div_le_self ..;rcases Nat.mod_two_eq_zero_or_one (w / 2^i) with hb|hb
   · have et:((w / 2^i % 2:Nat):Int)=0:=by omega
     rw[← aik (by simp[hb])] at ah
     simp (disch:=omega) only[ir87p0,qe,qf,eq_self,ac,reduceIte,bvQ,wu,qzq,qyr,wv,wr,bz,et,BitVec.zero_shiftLeft,BitVec.or_zero,ah]
   · have et:((w / 2^i % 2:Nat):Int)=1:=by omega
     rw[← ajc (by simp[hb])] at ah
     simp (disch:=omega) only[ir87p0,qe,qf,eq_self,ac,reduceIte,bvQ,wu,qzq,qyr,wv,wr,bz,et,ah]
 · rintro _ L _;simp (disch:=omega) only[ir87p0,qe,qf,eq_self,ac,reduceIte,Int.reduceLT]
theorem qaj(n:Nat)(hn:n≤6):run tb 79 [.int .i64 n]=some [bvD (bc (fun _=>true) (2^n))]:=by
 refine qh (x:=ir79) rfl ?_;obtain rfl|rfl|rfl|rfl|rfl|rfl|rfl:n=0∨n=1∨n=2∨n=3∨n=4∨n=5∨n=6:=by omega
 all_goals rfl
theorem qbd(l:List (List UInt8))(hl:l.length<1000000000):run tb 28 [af l]=some [.bool (cu l)]:=by
 refine qh (x:=ir28) rfl ?_
 by_cases h6:l.length≤6
 · have w0:¬ ((l.length:Nat):Int)>6:=by omega
   have hv:cu l=mv l 0:=by simp[cu,h6,qjv]
   rw[hv];simp (disch:=omega) only[ir28,qe,qf,eq_self,ac,reduceIte,qac,w0];refine qu (σ:=Unit) l.length (fun _ _=>True) (fun i _=>[.int .i64 i]) (fun i _=>[.bool (mv l i)]) ?_ ?_ 0 () (zero_le _) trivial
   · rintro i _ L hi _ hL;have ah:=hL () trivial;have hn:=qsf l[i];cases ya:al l[i] with
     | false=>
      rw[ya] at hn
      have:mv l i=false:=by
       by_cases h0:0<i
       · rw[qli h0 hi,ya];rfl
       · rw[qxf h0 hi,ya];rfl
      simp (disch:=omega) only[ir28p1,ir28p0,qe,qf,eq_self,ac,reduceIte,hi,qmj,hn,this]
     | true=>
      rw[ya] at hn
      by_cases h0:¬ 0<i
      · have h0':¬ (i:Int)>0:=by omega
        rw[qxf h0 hi,ya,Bool.true_and];simp (disch:=omega) only[ir28p1,ir28p0,qe,qf,eq_self,ac,reduceIte,hi,h0',qmj,hn,wr,bz,ah]
      · have h0:0<i:=by omega
        have h0':(i:Int)>0:=by omega
        have hs:(i:Int)-1=((i-1:Nat):Int):=by omega
        have v6:i-1<l.length:=by omega
        rw[qli h0 hi,ya,Bool.true_and];cases hb:Op.bytesLess l[i-1] l[i] with
        | true=>
         rw[Bool.true_and];simp (disch:=omega) only[ir28p1,ir28p0,qe,qf,eq_self,ac,reduceIte,hi,h0',qmj,hn,wr,bz,hs,hb,ah]
        | false=>
         rw[Bool.false_and];simp (disch:=omega) only[ir28p1,ir28p0,qe,qf,eq_self,ac,reduceIte,hi,h0',qmj,hn,wr,hs,hb]
   · rintro _ L _;rw[qoz];simp (disch:=omega) only[ir28p1,qe,qf,eq_self,ac,reduceIte,lt_irrefl]
 · have w0:((l.length:Nat):Int)>6:=by omega
   have hv:cu l=false:=by simp[cu,h6]
   rw[hv];simp (disch:=omega) only[ir28,qe,qf,eq_self,ac,reduceIte,qac,w0]
theorem at9(l:List (List UInt8))(hl:l.length<1000000000)(hs:∀ s∈l,s.length<9223372036854775808):run tb 51 [af l]=some [.bool (cu l)]:=by
 refine qh (x:=ir51) rfl ?_;have hv:cu l=(mv l 0&&decide (l.length≤6)):=by rw[cu,qjv,Bool.and_comm]
 rw[hv];simp (disch:=omega) only[ir51,qe,qf];refine qu (σ:=Unit) l.length (fun _ _=>True) (fun i _=>[.int .i64 i]) (fun i _=>[.bool (mv l i&&decide (l.length≤6))]) ?_ ?_ 0 () (zero_le _) trivial
 · rintro i _ L hi _ hL;have ah:=hL () trivial;have hn:=qom l[i] (hs _ (getElem_mem hi));cases ya:al l[i] with
   | false=>
    rw[ya] at hn
    have:mv l i=false:=by
     by_cases h0:0<i
     · rw[qli h0 hi,ya];rfl
     · rw[qxf h0 hi,ya];rfl
    rw[this,Bool.false_and];simp (disch:=omega) only[ir51p1,ir51p0,qe,qf,eq_self,ac,reduceIte,qac,hi,qmj,hn]
   | true=>
    rw[ya] at hn
    by_cases h0:¬ 0<i
    · have h0':¬ (i:Int)>0:=by omega
      rw[qxf h0 hi,ya,Bool.true_and];simp (disch:=omega) only[ir51p1,ir51p0,qe,qf,eq_self,ac,reduceIte,qac,hi,h0',qmj,hn,wr,bz,ah]
    · have h0:0<i:=by omega
      have h0':(i:Int)>0:=by omega
      have hs:(i:Int)-1=((i-1:Nat):Int):=by omega
      have v6:i-1<l.length:=by omega
      rw[qli h0 hi,ya,Bool.true_and];have ht:=qqm l[i] l[i-1];cases hb:Op.bytesLess l[i-1] l[i] with
      | true=>
       rw[hb] at ht;rw[Bool.true_and];simp (disch:=omega) only[ir51p1,ir51p0,qe,qf,eq_self,ac,reduceIte,qac,hi,h0',qmj,hn,wr,bz,hs,ht,ah]
      | false=>
       rw[hb] at ht;rw[Bool.false_and,Bool.false_and];simp (disch:=omega) only[ir51p1,ir51p0,qe,qf,eq_self,ac,reduceIte,qac,hi,h0',qmj,hn,wr,hs,ht]
 · rintro _ L _;rw[qoz,Bool.true_and]
   by_cases h6:l.length≤6
   · have w0:((l.length:Nat):Int)≤6:=by omega
     simp (disch:=omega) only[ir51p1,qe,qf,eq_self,ac,reduceIte,qac,lt_irrefl,h6,w0]
   · have w0:¬ ((l.length:Nat):Int)≤6:=by omega
     simp (disch:=omega) only[ir51p1,qe,qf,eq_self,ac,reduceIte,qac,lt_irrefl,h6,w0]
theorem qpp(l:List (List UInt8))(hl:l.length<1000000000):run tb 55 [af l]=some [bvD (ny l)]:=by
 refine qh (x:=ir55) rfl ?_;have hv:=qbd l hl;unfold ny;cases h:cu l with
 | false=>
  rw[h] at hv;simp (disch:=omega) only[ir55,qe,qf,eq_self,reduceIte,bvQ,hv]
 | true=>
  rw[h] at hv;have hw:=qaj l.length (qnb h);simp (disch:=omega) only[ir55,qe,qf,eq_self,reduceIte,hv,qac,hw]
theorem aog{s:List UInt8}:∀ {l:List (List UInt8)} {k:Nat},s∈l→∃ i,∃ h:i<l.length,l[i]=s∧p9 s k l=((k+i:Nat):Int)
 | [],_,h=>by simp at h
 | a::l,k,h=>by
  simp only[p9]
  by_cases hs:s=a
  · exact ⟨0,by simp,by simp[hs],by rw[if_pos hs];rfl⟩
  · rw[if_neg hs];obtain ⟨i,hi,h1,h2⟩:=aog (l:=l) (k:=k+1) ((List.mem_cons.1 h).resolve_left hs);exact ⟨i+1,by simpa using hi,by simpa using h1,by rw[h2];congr 1;omega⟩
theorem a3u(ys:List (List UInt8))(f:F)(h:f.op=5):F.val ys f=f.args.all (F.val ys):=by
 rw[F.val_eq,mu];simp[h,List.all_map,Function.comp_def]
theorem avm(ys:List (List UInt8))(f:F)(h:f.op=6):F.val ys f=f.args.any (F.val ys):=by
 rw[F.val_eq,mu];simp[h,List.any_map,Function.comp_def]
theorem a4v{α:Type}(p:α→Bool){l:List α}{i:Nat}(h:i<l.length):(l.take (i+1)).all p=((l.take i).all p&&p l[i]):=by
 rw[take_add_one,getElem?_eq_getElem h,all_append];simp only[Option.toList_some,all_cons,all_nil,Bool.and_true]
theorem ayi{α:Type}(p:α→Bool){l:List α}{i:Nat}(h:i<l.length):(l.take (i+1)).any p=((l.take i).any p || p l[i]):=by
 rw[take_add_one,getElem?_eq_getElem h,List.any_append];simp only[Option.toList_some,List.any_cons,List.any_nil,Bool.or_false]
theorem atc{bm:List (List UInt8)}{f:F}(hl:f.args.length≠0∨f.op≠3)(h:∀ s∈F.atomL f,s∈bm):∀ g∈f.args,∀ s∈F.atomL g,s∈bm:=by
 intro g hg s hs;obtain ⟨i,hi,rfl⟩:=List.getElem_of_mem hg;refine h s ?_;rw[F.atomL_eq,if_neg (by rintro ⟨h1,h2⟩;rcases hl with h|h;exact h h2;exact h h1)]
 have h1:=F.atomLs_take_s f.args i hi
 have h2:∀ (l:List F) (j:Nat),∀ x∈F.atomLs (l.take j),x∈F.atomLs l:=by
  intro l
  induction l with
  | nil=>intro j x hx;simpa using hx
  | cons a l ih=>
   intro j x hx;cases j with
   | zero=>simp[F.atomLs] at hx
   | succ j=>
    simp only[List.take_succ_cons,F.atomLs,List.mem_append] at hx ⊢;exact hx.imp id (ih j x)
 exact h2 f.args (i+1) s (by rw[h1];simp[hs])
theorem a29(bm:List (List UInt8))(hv:cu bm=true):∀ (f:F),f.size<1000000000→good f=true→(∀ s∈F.atomL f,s∈bm)→run tb 63 (af bm::aj f)=some [bvD (it bm f 64)]:=by
 refine qxh fun f ih hs hg ha=>?_
 refine qh (x:=ir63) rfl ?_;have h6:=qnb hv;have a34:=(qyh (qvc hv)).1;have hgn:=qjh hg;have hc:=hgn.2;rw[aw4] at hc;have hla:=F.sizes_len f.args;have hse:=F.size_eq f
 have iv:∀ i (hi:i<f.args.length),(f.op≠3)→run tb 63 (af bm::aj f.args[i])=some [bvD (it bm f.args[i] 64)]:=fun i hi ho=>
  ih _ (getElem_mem hi) (by have:=F.size_arg f i hi;omega) (qrp hg i hi) (atc (.inr ho) ha _ (getElem_mem hi))
 by_cases h1:f.op=1
 · have : it bm f 64 = BitVec.allOnes 64 := by
    rw[← aju];exact qsb (le_refl _) fun w _=>by rw[F.val_eq,mu];simp[h1]
   rw[this];simp (disch:=omega) only[ir63,aj,qe,qf,eq_self,ac,reduceIte,bvQ,h1]
 by_cases h3:f.op=3
 · have h0:f.args.length=0:=by simpa [h3] using hc
   have fq:f.name∈bm:=ha _ (by rw[F.atomL_eq,if_pos ⟨h3,h0⟩];simp)
   obtain ⟨i,hi,hn,hx⟩:=aog (k:=0) fq;rw[Nat.zero_add] at hx;have abv:=qqu bm f.name (by omega)
   rw[hx] at abv;have htr:=a1z i (by omega)
   have:it bm f 64=bc (fun w=>decide (w / 2^i % 2=1)) 64:=qsb (le_refl _) fun w _=>by
    rw[F.val_eq,mu];simp only[h3,if_true,show ¬((3:Int)=1) by decide,if_false]
    have:=ah6 a34 (w:=w) hi;rw[hn] at this;cases hd:decide (w / 2^i % 2=1) with
    | true=>rw[decide_eq_true_eq] at hd;simpa using this.2 hd
    | false=>rw[decide_eq_false_iff_not] at hd;simpa using fun h=>hd (this.1 h)
   rw[this];simp (disch:=omega) only[ir63,aj,qe,qf,eq_self,ac,reduceIte,Int.reduceEq,bvQ,h3,abv,htr]
 by_cases h4:f.op=4
 · have xt:f.args.length=1:=by simpa [h4] using hc
   have r0:=iv 0 (by omega) h3
   have:it bm f 64 = ~~~(it bm (f.args[0]'(by omega)) 64):=by
    unfold it;rw[qqr]
    exact qsb (le_refl _) fun w _=>by
     rw[F.val_eq,mu];simp[h4,show 0<f.args.length by omega]
   rw[this];simp only[aj] at r0;simp (disch:=omega) only[ir63,aj,qe,qf,eq_self,ac,reduceIte,Int.reduceEq,bvQ,h4,aez,r0]
 by_cases h7:f.op=7
 · have xt:f.args.length=2:=by simpa [h7] using hc
   have r0:=iv 0 (by omega) h3
   have r1:=iv 1 (by omega) h3
   have:it bm f 64 = ~~~(it bm (f.args[0]'(by omega)) 64)|||it bm (f.args[1]'(by omega)) 64:=by
    unfold it;rw[qqr,aoj _ _ (le_refl _)]
    exact qsb (le_refl _) fun w _=>by
     rw[F.val_eq,mu];simp[h7,show 0<f.args.length by omega,show 1<f.args.length by omega]
     cases F.val (fm bm w) (f.args[0]'(by omega))<;>cases F.val (fm bm w) (f.args[1]'(by omega))<;>rfl
   rw[this];simp only[aj] at r0 r1;simp (disch:=omega) only[ir63,aj,qe,qf,eq_self,ac,reduceIte,Int.reduceEq,bvQ,h7,aez,ag5,r0,r1]
 by_cases h8:f.op=8
 · have xt:f.args.length=2:=by simpa [h8] using hc
   have r0:=iv 0 (by omega) h3
   have r1:=iv 1 (by omega) h3
   have:it bm f 64 = ~~~(it bm (f.args[0]'(by omega)) 64 ^^^ it bm (f.args[1]'(by omega)) 64):=by
    unfold it;rw[a0r _ _ (le_refl _),qqr]
    exact qsb (le_refl _) fun w _=>by
     rw[F.val_eq,mu];simp[h8,show 0<f.args.length by omega,show 1<f.args.length by omega]
     cases F.val (fm bm w) (f.args[0]'(by omega))<;>cases F.val (fm bm w) (f.args[1]'(by omega))<;>rfl
   rw[this];simp only[aj] at r0 r1;simp (disch:=omega) only[ir63,aj,qe,qf,eq_self,ac,reduceIte,Int.reduceEq,bvQ,h8,aez,ag5,r0,r1]
 by_cases h5:f.op=5
 · simp (disch:=omega) only[ir63,aj,qe,qf,eq_self,ac,reduceIte,Int.reduceEq,bvQ,h5]
   have hm:it bm f 64=bc (fun w=>(f.args.take f.args.length).all (F.val (fm bm w))) 64:=qsb (le_refl _) fun w _=>by
    rw[a3u _ _ h5,take_length]
   have h0:BitVec.allOnes 64=bc (fun w=>(f.args.take 0).all (F.val (fm bm w))) 64:=by rw[← aju];exact qsb (le_refl _) fun w _=>by simp
   rw[hm,h0];refine qu (σ:=Unit) f.args.length (fun _ _=>True) (fun i _=>[bvD (bc (fun w=>(f.args.take i).all (F.val (fm bm w))) 64),.int .i64 i]) (fun _ _=>[bvD (bc (fun w=>(f.args.take f.args.length).all (F.val (fm bm w))) 64)]) ?_ ?_ 0 () (zero_le _) trivial
   · rintro i _ L hi _ hL;have ah:=hL () trivial;have r:=iv i hi h3
     have om:bc (fun w=>(f.args.take (i+1)).all (F.val (fm bm w))) 64=bc (fun w=>(f.args.take i).all (F.val (fm bm w))) 64&&&it bm f.args[i] 64:=by
      unfold it;rw[a6f _ _ (le_refl _)];exact qsb (le_refl _) fun w _=>a4v _ hi
     rw[om] at ah;simp only[aj] at r;simp (disch:=omega) only[ir63p0,qe,qf,eq_self,ac,reduceIte,bvQ,hi,qfl,r,wr,bz,ah]
   · rintro _ L _;simp (disch:=omega) only[ir63p0,qe,qf,eq_self,ac,reduceIte,lt_irrefl]
 · have h26 : f.op = 2 ∨ f.op = 6 := by
    by_cases h2:f.op=2
    · exact .inl h2
    · by_cases h6:f.op=6
      · exact .inr h6
      · simp[h1,h2,h3,h4,h5,h6,h7,h8] at hc
   simp (disch:=omega) only[ir63,aj,qe,qf,eq_self,ac,reduceIte,bvQ,h1,h3,h4,h5,h7,h8]
   have hm:it bm f 64=bc (fun w=>(f.args.take f.args.length).any (F.val (fm bm w))) 64:=qsb (le_refl _) fun w _=>by
    rw[take_length];rcases h26 with h2|h6
    · have h0:f.args.length=0:=by simpa [h2] using hc
      rw[List.eq_nil_of_length_eq_zero h0,F.val_eq,mu];simp[h2]
    · rw[avm _ _ h6]
   have h0:0#64=bc (fun w=>(f.args.take 0).any (F.val (fm bm w))) 64:=by rw[← aw8];exact qsb (le_refl _) fun w _=>by simp
   rw[hm,h0];refine qu (σ:=Unit) f.args.length (fun _ _=>True) (fun i _=>[bvD (bc (fun w=>(f.args.take i).any (F.val (fm bm w))) 64),.int .i64 i]) (fun _ _=>[bvD (bc (fun w=>(f.args.take f.args.length).any (F.val (fm bm w))) 64)]) ?_ ?_ 0 () (zero_le _) trivial
   · rintro i _ L hi _ hL;have ah:=hL () trivial;have r:=iv i hi h3
     have om:bc (fun w=>(f.args.take (i+1)).any (F.val (fm bm w))) 64=bc (fun w=>(f.args.take i).any (F.val (fm bm w))) 64|||it bm f.args[i] 64:=by
      unfold it;rw[aoj _ _ (le_refl _)];exact qsb (le_refl _) fun w _=>ayi _ hi
     rw[om] at ah;simp only[aj] at r;simp (disch:=omega) only[ir63p1,qe,qf,eq_self,ac,reduceIte,bvQ,hi,qfl,r,wr,bz,ah]
   · rintro _ L _;simp (disch:=omega) only[ir63p1,qe,qf,eq_self,ac,reduceIte,lt_irrefl]
theorem ayz(X:BitVec 64):run tb 80 [bvD X]=some [bvD (sp X 1 32),bvD (sp X 0 32)]:=by
 refine qh (x:=ir80) rfl ?_;have z1:=aiv X 1;have z0:=aiv X 0;simp (disch:=omega) only[ir80,qe,qf,bvQ];rw[show (0#64:BitVec 64)=sp X 1 0 from rfl]
 conv=>lhs;rw[show ([bvD (sp X 1 0),bvD (sp X 1 0),D.int IntKind.i64 0]:List D)=[bvD (sp X 1 0),bvD (sp X 0 0),D.int IntKind.i64 ((0:Nat):Int)] from rfl]
 refine qu (σ:=Unit) 32 (fun _ _=>True) (fun w _=>[bvD (sp X 1 w),bvD (sp X 0 w),.int .i64 w]) (fun _ _=>[bvD (sp X 1 32),bvD (sp X 0 32)]) ?_ ?_ 0 () (zero_le _) trivial
 · rintro w _ L hw _ hL;have ah:=hL () trivial;rw[← an6 X 1 w hw,← an6 X 0 w hw] at ah;rw[show 2*w+0=2*w from rfl] at ah
   have wv:(w:Int)<32:=by omega
   have hm:(2:Int)*(w:Int)=((2*w:Nat):Int):=by omega
   simp (disch:=omega) only[ir80p0,qe,qf,eq_self,ac,reduceIte,bvQ,wv,hm,wr,bz,ah]
 · rintro _ L _;simp (disch:=omega) only[ir80p0,qe,qf,eq_self,ac,reduceIte,Int.reduceLT,bvQ]
theorem qoq(o:Int)(f g:F):run tb 81 (.int .i64 o::aj f++aj g)=some (aj (pr o f g)):=by
 refine qh (x:=ir81) rfl ?_;simp only[ir81,aj,qe,qf,ah8];simp[pr,F.op_mk,F.name_mk,F.args_mk,F.encs,F.enc_eq]
theorem qzh:∀ (bm:List (List UInt8)),ec bm=true→bm.length≤6→∀ X:BitVec 64,Sub bm.length X→run tb 56 [af bm,bvD X]=some (aj (thy bm X))
 | [],h,h6,X,hX=>by
  refine qh (x:=ir56) rfl ?_;have ha:=qaj ([]:List (List UInt8)).length h6;have e:=qyl h6 hX;have o2:=qnx h6 hX;have o1:=qxy h6 hX
  by_cases h1:X=0#64
  · subst h1;have:thy [] 0#64=F.mk 2 [] []:=by unfold thy;rw[if_pos (by simp)]
    rw[this];simp (disch:=omega) only[ir56,aj,qe,qf,eq_self,bvQ,qac,ha,F.op_mk,F.name_mk,F.args_mk,F.encs]
  · have e2 : thy [] X = F.mk 1 [] [] := by
     unfold thy;rw[if_neg];intro hc;exact h1 (by rw[← e];exact hc)
    have h2:X=alW ([]:List (List UInt8)).length:=o1.1 (by rw[e2];rfl)
    rw[e2];unfold alW at h2;rw[← h2] at ha;simp (disch:=omega) only[ir56,aj,qe,qf,eq_self,bvQ,qac,ha,h1,F.op_mk,F.name_mk,F.args_mk,F.encs]
 | a::l,h,h6,X,hX=>by
  refine qh (x:=ir56) rfl ?_;have ha:=qaj (a::l).length h6;have hl:=qhf h;have h5:l.length≤5:=by simp only[List.length_cons] at h6;omega
  have w0:l.length≤6:=by omega
  have he:=qaj l.length w0;have e:=qyl h6 hX;have ze:=ayz X;have hX':Sub (l.length+1) X:=hX;rw[aj8 h5 (by omega) hX',aj8 h5 (by omega) hX'] at ze
  have u1:=adr (X:=X) (b:=1) h5 (by omega)
  have u0:=adr (X:=X) (b:=0) h5 (by omega)
  have r1:=qzh l hl w0 (hf X 1 (2^(l.length+1))) u1;have r0:=qzh l hl w0 (hf X 0 (2^(l.length+1))) u0;have p1:=qxy w0 u1;have p2:=qnx w0 u1;have q1:=qxy w0 u0;have q2:=qnx w0 u0;have inj:=fun hh=>a1w hl w0 u1 u0 hh
  have om:hf X 1 (2^(l.length+1))=hf X 0 (2^(l.length+1))→thy l (hf X 1 (2^(l.length+1)))=thy l (hf X 0 (2^(l.length+1))):=fun h=>by rw[h]
  have ak:PO.eval (.row 1) [af (a::l),.int .i64 0]=some [.str a]:=qmj (l:=a::l) (i:=0) (by simp)
  have my:PO.eval (.subL 1) [af (a::l),.int .i64 1,.int .i64 ((a::l).length:Nat)]=some [af l]:=by
   have:=a07 (l:=a::l) (a:=1) (by simp)
   simpa using this
  have hp:∀ (o:Int) (f g:F),run tb 81 [.int .i64 o,.int .i64 f.op,.str f.name,.sl (F.encs f.args),.int .i64 g.op,.str g.name,.sl (F.encs g.args)]=some (aj (pr o f g)):=qoq;have hpa:∀ (o:Int) (g:F),run tb 81 [.int .i64 o,.int .i64 3,.str a,.sl [],.int .i64 g.op,.str g.name,.sl (F.encs g.args)]=some (aj (pr o (atF a) g)):=fun o g=>qoq o (atF a) g
  have hpn:∀ (o:Int) (g:F),run tb 81 [.int .i64 o,.int .i64 4,.str [],.sl [[.int .i64 3,.str a,.sl []]],.int .i64 g.op,.str g.name,.sl (F.encs g.args)]=some (aj (pr o (lk a) g)):=fun o g=>qoq o (lk a) g
  have ea:aj (atF a)=[.int .i64 3,.str a,.sl []]:=rfl;have en:aj (lk a)=[.int .i64 4,.str [],.sl [[.int .i64 3,.str a,.sl []]]]:=rfl;have ele:(a::l).length=l.length+1:=rfl;unfold thy;unfold alW at e p1 q1;rw[ele] at e ha;rw[e]
  by_cases h1:X=0#64
  · rw[if_pos h1];subst h1;simp (disch:=omega) only[ir56,aj,qe,qf,eq_self,bvQ,qac,ele,ha,F.op_mk,F.name_mk,F.args_mk,F.encs]
  rw[if_neg h1]
  by_cases h2:X=bc (fun _=>true) (2^(l.length+1))
  · rw[if_pos h2];rw[← h2] at ha;simp (disch:=omega) only[ir56,aj,qe,qf,eq_self,bvQ,qac,ele,ha,h1,F.op_mk,F.name_mk,F.args_mk,F.encs]
  rw[if_neg h2];rw[ele] at my;clear e hX hX' u1 u0;generalize thy l (hf X 1 (2^(l.length+1)))=t at *;generalize thy l (hf X 0 (2^(l.length+1)))=f at *;generalize hf X 1 (2^(l.length+1))=S1 at *;generalize hf X 0 (2^(l.length+1))=S0 at *;generalize bc (fun _=>true) (2^(l.length+1))=A1 at *
  generalize bc (fun _=>true) (2^l.length)=A at *
  simp only[aj] at r1 r0 hp hpa hpn;unfold sn
  by_cases b0:F.beq t f=true
  · rw[if_pos b0];have hb:=inj (F.beq_true t f b0);subst hb;simp (disch:=omega) only[ir56,aj,qe,qf,eq_self,bvQ,qac,ele,ha,h1,h2,my,ze,r1]
  rw[if_neg b0]
  by_cases b1:S1=S0
  · exact absurd (by rw[om b1];exact F.beq_refl f) b0
  by_cases t1:t.op=1
  · have s1:=p1.1 t1;subst s1
    by_cases f2:f.op=2
    · rw[if_pos ⟨t1,f2⟩,ea];have s0:=q2.1 f2;subst s0;simp (disch:=omega) only[ir56,ir56p1,ir56p0,qe,qf,eq_self,bvQ,qac,ele,ha,he,h1,h2,ak,my,ze,b1]
    · rw[if_neg (by rintro ⟨_,h⟩;exact f2 h),if_pos t1]
      have s0:¬ S0=0#64:=fun h=>f2 (q2.2 h)
      simp (disch:=omega) only[ir56,ir56p1,ir56p0,aj,qe,qf,eq_self,bvQ,qac,ele,ha,he,h1,h2,ak,my,ze,b1,s0,r0,hpa]
  rw[if_neg (by rintro ⟨h,_⟩;exact t1 h),if_neg t1]
  have s1:¬ S1=A:=fun h=>t1 (p1.2 h)
  by_cases t2:t.op=2
  · have s2:=p2.1 t2;subst s2
    by_cases f1:f.op=1
    · rw[if_pos ⟨t2,f1⟩,en];have s0:=q1.1 f1;subst s0;simp (disch:=omega) only[ir56,ir56p1,ir56p0,qe,qf,eq_self,bvQ,qac,ele,ha,he,h1,h2,ak,my,ze,b1]
    · rw[if_neg (by rintro ⟨_,h⟩;exact f1 h),if_pos t2]
      have s0:¬ S0=A:=fun h=>f1 (q1.2 h)
      simp (disch:=omega) only[ir56,ir56p1,ir56p0,aj,qe,qf,eq_self,bvQ,qac,ele,ha,he,h1,h2,ak,my,ze,b1,s1,s0,r0,hpn]
  rw[if_neg (by rintro ⟨h,_⟩;exact t2 h),if_neg t2]
  have s2:¬ S1=0#64:=fun h=>t2 (p2.2 h)
  by_cases f1:f.op=1
  · rw[if_pos f1];have s0:=q1.1 f1;subst s0;simp (disch:=omega) only[ir56,ir56p1,ir56p0,aj,qe,qf,eq_self,bvQ,qac,ele,ha,he,h1,h2,ak,my,ze,b1,s2,r1,hpn]
  rw[if_neg f1];have s3:¬ S0=A:=fun h=>f1 (q1.2 h)
  by_cases f2:f.op=2
  · rw[if_pos f2];have s0:=q2.1 f2;subst s0;simp (disch:=omega) only[ir56,ir56p1,ir56p0,aj,qe,qf,eq_self,bvQ,qac,ele,ha,he,h1,h2,ak,my,ze,b1,s1,s3,r1,hpa]
  · rw[if_neg f2];have s4:¬ S0=0#64:=fun h=>f2 (q2.2 h)
    have hpr:∀ (f g:F),run tb 81 [.int .i64 6,.int .i64 (pr 5 (atF a) f).op,.str (pr 5 (atF a) f).name,.sl (F.encs (pr 5 (atF a) f).args),.int .i64 (pr 5 (lk a) g).op,.str (pr 5 (lk a) g).name,.sl (F.encs (pr 5 (lk a) g).args)]=some (aj (pr 6 (pr 5 (atF a) f) (pr 5 (lk a) g))):=fun f g=>qoq 6 _ _
    simp only[aj] at hpr;simp (disch:=omega) only[ir56,ir56p1,ir56p0,aj,qe,qf,eq_self,bvQ,qac,ele,ha,he,h1,h2,ak,my,ze,b1,s1,s2,s3,s4,r1,r0,hpa,hpn,hpr]
theorem qsn(bm:List (List UInt8))(hn:bm.length<1000000000)(S:BitVec 64):run tb 21 [af bm,bvD S]=some (aj (aci bm S).1++[.int .i64 (aci bm S).2]):=by
 refine qh (x:=ir21) rfl ?_;have h1:=qbd bm hn;have h2:=qpp bm hn;unfold aci;cases hv:cu bm with
 | false=>
  rw[hv] at h1;simp (disch:=omega) only[ir21,aj,qe,qf,eq_self,h1,F.op_mk,F.name_mk,F.args_mk,F.encs,if_false]
 | true=>
  rw[hv] at h1;have h6:=qnb hv;have wy:ny bm=alW bm.length:=by unfold ny;rw[if_pos hv]
  have h3:=qzh bm (qvc hv) h6 (S&&&ny bm) (by rw[wy];exact apn h6 S)
  rw[wy,awj h6 S,← wy] at h3;simp only[aj] at h3;simp (disch:=omega) only[ir21,aj,qe,qf,eq_self,bvQ,h1,h2,h3,if_true]
theorem a4a(l:List Bool)(b:Bool)(hl:l.length<1000000000):run tb 78 [gw l,.bool b]=some [.int .i64 (pd b 0 l)]:=by
 refine qh (x:=ir78) rfl ?_;simp (disch:=omega) only[ir78,qe,qf,af2];refine qu (σ:=Unit) l.length (fun _ _=>True) (fun i _=>[.int .i64 i]) (fun i _=>[.int .i64 (pd b i (l.drop i))]) ?_ ?_ 0 () (zero_le _) trivial
 · rintro i _ L hi _ hL;have ah:=hL () trivial;rw[aty b hi]
   by_cases h:b=l[i]
   · have hb:(b == l[i])=true:=by simp[h]
     rw[if_pos h];simp (disch:=omega) only[ir78p0,qe,qf,eq_self,ac,reduceIte,ao5,hi,ag6,hb]
   · have hb:(b == l[i])=false:=by simpa using h
     rw[if_neg h];simp (disch:=omega) only[ir78p0,qe,qf,eq_self,ac,reduceIte,ao5,hi,ag6,hb,wr,bz,ah]
 · rintro _ L _;rw[ayc];simp (disch:=omega) only[ir78p0,qe,qf,eq_self,ac,reduceIte,lt_irrefl]
theorem qfr(l:List Bool)(b:Bool)(hl:l.length<1000000000):run tb 53 [gw l,.bool b]=some [.bool (decide (b∈l))]:=by
 refine qh (x:=ir53) rfl ?_;have h:=a4a l b hl;have h2:=qzx b l 0;simp (disch:=omega) only[ir53,qe,qf,eq_self,ac,reduceIte,h,h2]
theorem auy(l:List Int)(x:Int)(hl:l.length<1000000000):run tb 52 [ab l,.int .i64 x]=some [.bool (decide (x∈l))]:=by
 refine qh (x:=ir52) rfl ?_;have h0:decide (x∈l)=decide (x∈l.drop 0):=by simp
 rw[h0];simp (disch:=omega) only[ir52,qe,qf,qob];refine qu (σ:=Unit) l.length (fun _ _=>True) (fun i _=>[.int .i64 i]) (fun i _=>[.bool (decide (x∈l.drop i))]) ?_ ?_ 0 () (zero_le _) trivial
 · rintro i _ L hi _ hL;have ah:=hL () trivial;rw[qbg hi]
   by_cases h:l[i]=x
   · have hd:decide (x∈l[i]::l.drop (i+1))=true:=by simp[h]
     rw[hd];simp (disch:=omega) only[ir52p0,qe,qf,eq_self,ac,reduceIte,hi,qjd,h]
   · have hd : decide (x ∈ l[i] :: l.drop (i + 1)) = decide (x ∈ l.drop (i + 1)) := by
      congr 1;simp only[List.mem_cons,eq_iff_iff];exact ⟨fun h1=>h1.resolve_left fun e=>h e.symm,.inr⟩
     rw[hd];simp (disch:=omega) only[ir52p0,qe,qf,eq_self,ac,reduceIte,hi,qjd,h,wr,bz,ah]
 · rintro _ L _;rw[drop_length];simp (disch:=omega) only[ir52p0,qe,qf,eq_self,ac,reduceIte,lt_irrefl];simp
def jl(ranks:List Int)(i:Nat):List Bool:=(range ranks.length).map fun (k:Nat)=>decide ((k:Int)∈ranks.take i)
theorem aun(ranks:List Int):replicate ranks.length false=jl ranks 0:=by
 unfold jl;refine ext_getElem (by simp) fun i h1 h2=>?_
 simp
theorem a55{ranks:List Int}{i r:Nat}(hi:i<ranks.length)(hr:ranks[i]=(r:Int))(um:r<ranks.length):(jl ranks i).set r true=jl ranks (i+1):=by
 unfold jl;refine ext_getElem (by simp) fun k h1 h2=>?_
 rw[getElem_set];simp only[getElem_map,getElem_range,take_add_one,getElem?_eq_getElem hi,Option.toList_some,List.mem_append,List.mem_singleton,hr]
 by_cases h:r=k
 · subst h;simp
 · have:¬ ((k:Int)=(r:Int)):=by omega
   simp[h,this]
theorem qlc(aa:List (List UInt8))(ranks:List Int)(hn:aa.length<1000000000)(hl:ranks.length<1000000000):run tb 19 [af aa,ab ranks]=some [.int .i64 (bi aa ranks)]:=by
 refine qh (x:=ir19) rfl ?_;have hv:=qbd aa hn
 have key:cu aa=true→ranks.length=2^aa.length→∀ b:Bool,b=false→den (run tb) ir19p2 [af aa,ab ranks,.bool b] []=some [.int .i64 (bi aa ranks)]:=by
  rintro h1 h2 _ rfl;unfold bi;rw[if_pos ⟨h1,h2⟩];have jg:=mkB hl;simp (disch:=omega) only[ir19p2,qe,qf,qob,jg,aun];refine qu (σ:=Unit) ranks.length (fun i _=>ym ranks.length (ranks.take i)=true) (fun i _=>[.int .i64 (di (ranks.take i)),.int .i64 i,gw (jl ranks i)]) (fun _ _=>[.int .i64 (if mo ranks=true then 0 else 8)]) ?_ ?_ 0 () (zero_le _) rfl
  · rintro i _ L hi jy hL;have htk:ranks.take (i+1)=ranks.take i++[ranks[i]]:=by rw[take_add_one,getElem?_eq_getElem hi];rfl
    have hmx:di (ranks.take (i+1))=(if ranks[i]>di (ranks.take i) then ranks[i] else di (ranks.take i)):=by rw[htk];exact as0 _ _ _
    have ac0:¬ (0≤ranks[i]∧ranks[i]<ranks.length)→mo ranks=false:=fun h=>by
     cases hk:mo ranks with
     | false=>rfl
     | true=>exact absurd (quf (qjf hk) _ (getElem_mem hi)) h
    have yn:(jl ranks i).length=ranks.length:=by simp[jl]
    by_cases a1:ranks[i]<0
    · rw[ac0 (by omega)]
      simp (disch:=omega) only[ir19p1,ir19p0,qe,qf,eq_self,ac,reduceIte,hi,qjd,a1,if_false]
    by_cases a2:ranks[i]≥(ranks.length:Int)
    · rw[ac0 (by omega)]
      simp (disch:=omega) only[ir19p1,ir19p0,qe,qf,eq_self,ac,reduceIte,hi,qjd,a1,a2,af2,yn,if_false]
    · obtain ⟨r,hr⟩:=Int.eq_ofNat_of_zero_le (show 0≤ranks[i] by omega)
      have um:r<ranks.length:=by omega
      have ah:=hL () (by rw[htk];simp only[ym,all_append,Bool.and_eq_true,all_cons,all_nil,Bool.and_true,decide_eq_true_eq];exact ⟨jy,by omega,by omega⟩)
      rw[hmx,← a55 hi hr um,hr] at ah;rw[hr] at a1 a2;have hc:=a3e (l:=jl ranks i) (i:=r) (by omega)
      have hs:=apg (l:=jl ranks i) (i:=r) (by omega) true
      simp (disch:=omega) only[ir19p1,ir19p0,qe,qf,eq_self,ac,reduceIte,hi,qjd,hr,a1,a2,af2,yn,hc,hs,wr,bz,ah]
  · rintro _ L jy;rw[take_length] at jy ⊢;have h0:=qkf ranks;have cf:=qnk jy (by rw[h2];exact Nat.pow_pos (by omega))
    obtain ⟨m,hm⟩:=Int.eq_ofNat_of_zero_le h0;have my:=as2 (l:=jl ranks ranks.length) (b:=m) (by simp[jl];omega)
    have hc:=qfr ((jl ranks ranks.length).take m) false (by simp[jl];omega)
    have hok:decide (false∈(jl ranks ranks.length).take m) = !mo ranks:=by
     have he:mo ranks=(range m).all fun (k:Nat)=>decide ((k:Int)∈ranks):=by simp only[mo,jy,Bool.true_and,hm,Int.toNat_natCast]
     rw[he]
     have ht:(jl ranks ranks.length).take m=(range m).map fun (k:Nat)=>decide ((k:Int)∈ranks):=by
      unfold jl;rw[take_length,← List.map_take,List.take_range,Nat.min_eq_left (by omega)]
     rw[ht];cases ha:(range m).all fun (k:Nat)=>decide ((k:Int)∈ranks) with
     | true=>
      simp only[Bool.not_true,decide_eq_false_iff_not,List.mem_map,not_exists,not_and];intro k hk;exact fun h=>h (by simpa using List.all_eq_true.1 ha k hk)
     | false=>
      simp only[Bool.not_false,decide_eq_true_eq,List.mem_map];obtain ⟨k,yb,hk2⟩:=List.all_eq_false.1 ha;exact ⟨k,yb,by simpa using hk2⟩
    rw[hok] at hc;rw[hm] at *;simp only[] at *;cases hk:mo ranks with
    | true=>
     rw[hk] at hc;simp (disch:=omega) only[ir19p1,qe,qf,eq_self,ac,reduceIte,lt_irrefl,my,hc]
    | false=>
     rw[hk] at hc;simp (disch:=omega) only[ir19p1,qe,qf,eq_self,ac,reduceIte,lt_irrefl,my,hc,if_false]
 have bad:bi aa ranks=1→∀ b:Bool,b=true→den (run tb) ir19p2 [af aa,ab ranks,.bool b] []=some [.int .i64 (bi aa ranks)]:=by
  rintro h _ rfl;rw[h];simp (disch:=omega) only[ir19p2,qe,qf,eq_self]
 cases h1:cu aa with
 | false=>
  rw[h1] at hv;have:=bad (by simp[bi,h1]) true rfl
  simp (disch:=omega) only[ir19,qe,qf,eq_self,hv,this]
 | true=>
  rw[h1] at hv;have h6:=qnb h1
  by_cases h2:ranks.length=2^aa.length
  · have:=key h1 h2 false rfl;simp (disch:=omega) only[ir19,qe,qf,eq_self,ac,reduceIte,bvQ,qcd,hv,qob,qac,bw,h2,this]
  · have:=bad (by simp[bi,h2]) true rfl
    simp (disch:=omega) only[ir19,qe,qf,eq_self,ac,reduceIte,bvQ,qcd,hv,qob,qac,bw,h2,this]
theorem qqw{ranks:List Int}{i r m:Nat}(hi:i<ranks.length)(hr:ranks[i]=(r:Int))(hm:r<m)(hn:ranks.length≤64) :
 ((range m).map fun k=>d8 ranks k i).set r (d8 ranks r i|||1#64 <<< i)=(range m).map fun k=>d8 ranks k (i+1):=by
 refine ext_getElem (by simp) fun k h1 h2=>?_
 rw[getElem_set];simp only[getElem_map,getElem_range];have hg:ranks.getD i (-1)=(r:Int):=by simp[hi,hr]
 split
 · rename_i h;subst h;exact ajc (by simpa using hg)
 · rename_i h;refine aik ?_;rw[hg];simp;omega
theorem qbi(aa:List (List UInt8))(ranks:List Int)(hn:aa.length<1000000000)(hl:ranks.length<1000000000):run tb 20 [af aa,ab ranks]=some [dq (je aa ranks)]:=by
 refine qh (x:=ir20) rfl ?_;have hv:=qlc aa ranks hn hl;unfold je
 by_cases h:bi aa ranks=0
 · rw[if_pos h];have hz:=qz h;have an:=qhb h;have jy:=qjf hz.2.2;have fq:=quf jy;have cf:=qnk jy an.2;obtain ⟨m,hm⟩:=Int.eq_ofNat_of_zero_le (qkf ranks)
   have agc:run tb 54 [ab ranks]=some [.int .i64 m]:=by
    refine qh (x:=ir54) rfl ?_;have h1:¬ ((ranks.length:Nat):Int)<1:=by omega
    have ak:=qjd (l:=ranks) (i:=0) an.2;rw[rt] at ak;simp (disch:=omega) only[ir54,qe,qf,eq_self,ac,reduceIte,qob,h1,ak]
    have h0:od ranks[0] (ranks.drop 1)=(m:Int):=by
     have:di ranks=od (j5 0 ranks[0]) (ranks.drop 1):=by
      cases ranks with
      | nil=>simp at an
      | cons a l=>rfl
     rw[← hm,this];have:j5 0 ranks[0]=ranks[0]:=by have:=(fq _ (getElem_mem an.2)).1;unfold j5;split<;>omega
     rw[this]
    have kv:(1:Int)=((1:Nat):Int):=rfl;rw[kv];refine qu (σ:=Int) ranks.length (fun i x=>od x (ranks.drop i)=(m:Int)) (fun i x=>[.int .i64 x,.int .i64 i]) (fun _ _=>[.int .i64 m]) ?_ ?_ 1 ranks[0] an.2 h0
    · rintro i x L hi hx hL;rw[qbg hi] at hx;have ah:=hL (j5 x ranks[i]) hx;unfold j5 at ah;simp (disch:=omega) only[ir54p0,qe,qf,eq_self,ac,reduceIte,qob,hi,qjd,wr,bz,ah]
    · rintro x L hx;rw[drop_length] at hx;have:x=(m:Int):=hx;subst this;simp (disch:=omega) only[ir54p0,qe,qf,eq_self,ac,reduceIte,qob,lt_irrefl]
   have jg:=mkV (n:=m+1) (by rw[hm] at cf;omega)
   have hls:j4 ranks=(range (m+1)).map fun k=>d8 ranks k ranks.length:=by unfold j4;rw[hm];rfl
   rw[hls];rw[h] at hv
   have h0:replicate (m+1) 0#64=(range (m+1)).map fun k=>d8 ranks k 0:=by
    refine ext_getElem (by simp) fun i h1 h2=>?_
    simp[d8,bc]
   rw[h0] at jg;simp (disch:=omega) only[ir20,qe,qf,eq_self,ac,reduceIte,bvQ,hv,agc,qob,wr,bz,jg,bw];refine qu (σ:=Unit) ranks.length (fun _ _=>True) (fun i _=>[.int .i64 i,dq ((range (m+1)).map fun k=>d8 ranks k i)]) (fun _ _=>[dq ((range (m+1)).map fun k=>d8 ranks k ranks.length)]) ?_ ?_ 0 () (zero_le _) trivial
   · rintro i _ L hi _ hL;have ah:=hL () trivial;have hri:=fq _ (getElem_mem hi);have hrm:=qdf ranks 0 _ (getElem_mem hi);obtain ⟨r,hr⟩:=Int.eq_ofNat_of_zero_le hri.1
     have um:r<m+1:=by
      have:ranks[i]≤di ranks:=hrm;rw[hm,hr] at this;have:=Int.ofNat_le.1 this;omega
     rw[← qqw hi hr um an.1] at ah;have hc:=auk (l:=(range (m+1)).map fun k=>d8 ranks k i) (i:=r) (by simpa using um)
     have hg:=a5q (l:=(range (m+1)).map fun k=>d8 ranks k i) (i:=r) (by simpa using um)
     have hs:=a4p (l:=(range (m+1)).map fun k=>d8 ranks k i) (i:=r) (by simpa using um) (d8 ranks r i|||1#64 <<< i)
     simp only[getElem_map,getElem_range] at hg;simp (disch:=omega) only[ir20p0,qe,qf,eq_self,ac,reduceIte,bvQ,wu,hi,qjd,hr,hc,hg,hs,wr,bz,ah]
   · rintro _ L _;simp (disch:=omega) only[ir20p0,qe,qf,eq_self,ac,reduceIte,lt_irrefl]
 · rw[if_neg h];simp (disch:=omega) only[ir20,qe,qf,eq_self,ac,reduceIte,hv,bw,h,asd]
theorem qnh(aa:List (List UInt8))(ranks:List Int)(hn:aa.length<1000000000)(hl:ranks.length<1000000000)(S:BitVec 64):run tb 43 [af aa,ab ranks,bvD S]=some [bvD (bq aa ranks S)]:=by
 refine qh (x:=ir43) rfl ?_;have hv:=qbi aa ranks hn hl
 have an:(je aa ranks).length<1000000000:=by
  unfold je
  split
  · rename_i h;have cf:=qnk (qjf (qz h).2.2) (qhb h).2;have:=qkf ranks;simp[j4];omega
  · simp
 unfold bq;generalize je aa ranks=ls at *;simp (disch:=omega) only[ir43,qe,qf,hv,afj];refine qu (σ:=Unit) ls.length (fun _ _=>True) (fun i _=>[.int .i64 i]) (fun i _=>[bvD (mf S (ls.drop i))]) ?_ ?_ 0 () (zero_le _) trivial
 · rintro i _ L hi _ hL;have ah:=hL () trivial;rw[qpy S hi]
   by_cases h:ls[i]&&&S=0#64
   · rw[if_pos h];simp (disch:=omega) only[ir43p0,qe,qf,eq_self,ac,reduceIte,bvQ,hi,ac5,h,wr,bz,ah]
   · rw[if_neg h];simp (disch:=omega) only[ir43p0,qe,qf,eq_self,ac,reduceIte,bvQ,hi,ac5,h]
 · rintro _ L _;rw[drop_length];simp (disch:=omega) only[ir43p0,qe,qf,eq_self,ac,reduceIte,bvQ,lt_irrefl,mf]
def nh(ranks:List Int)(lo hi:Int)(n:Nat):BitVec 64:=bc (fun w=>decide (ranks.getD w (-1)≥lo)&&decide (ranks.getD w (-1)≤hi)) n
theorem qax(n:Nat)(hn:n≤26):run tb 3 [.int .i64 n]=some [af (aq n)]:=by
 refine qh (x:=ir3) rfl ?_;simp (disch:=omega) only[ir3,qe,qf,qma];refine qu (σ:=Unit) n (fun _ _=>True) (fun i _=>[.int .i64 i,af (aq i)]) (fun _ _=>[af (aq n)]) ?_ ?_ 0 () (zero_le _) trivial
 · rintro i _ L hi _ hL;have ah:=hL () trivial;rw[a3l] at ah;have an:=qv i;simp (disch:=omega) only[ir3p0,qe,qf,eq_self,ac,reduceIte,hi,wr,w8,a1x,ahe,bz,ah]
 · rintro _ L _;simp (disch:=omega) only[ir3p0,qe,qf,eq_self,ac,reduceIte,lt_irrefl]
theorem qsu(lo hi:Int)(l:List Int)(p:Nat)(hl:l.length≤2000)(hp:p≤l.length)(h1:-1000000≤lo)(h2:lo≤hi)(h3:hi<1000000) :
 ∃ (r:Int) (b:Nat),lo≤r∧r≤hi∧b≤l.length∧run tb 2 [.int .i64 lo,.int .i64 hi,ab l,.int .i64 p]=some [.int .i64 r,ab l,.int .i64 b]:=by
 obtain ⟨r,b,r0,r1,hb,hr⟩:=aly (hi-lo+1) l p hl hp (by omega) (by omega)
 refine ⟨lo+r,b,by omega,by omega,hb,qh (x:=ir2) rfl ?_⟩
 simp (disch:=omega) only[ir2,qe,qf,eq_self,ac,reduceIte,wr,hr]
theorem avd(a b:List Int)(ha:a.length<1000000000):run tb 40 [ab a,ab b]=some [.bool (decide (a=b))]:=by
 refine qh (x:=ir40) rfl ?_
 by_cases hl:a.length=b.length
 · simp (disch:=omega) only[ir40,qe,qf,eq_self,ac,reduceIte,qob,bw,hl];have h0:decide (a=b)=decide (a.drop 0=b.drop 0):=by simp
   rw[h0];refine qu (σ:=Unit) b.length (fun _ _=>True) (fun i _=>[.int .i64 i]) (fun i _=>[.bool (decide (a.drop i=b.drop i))]) ?_ ?_ 0 () (zero_le _) trivial
   · rintro i _ L hi _ hL;have ah:=hL () trivial;have hia:i<a.length:=by omega
     have e1:a.drop i=a[i]::a.drop (i+1):=List.drop_eq_getElem_cons hia;have e2:b.drop i=b[i]::b.drop (i+1):=List.drop_eq_getElem_cons hi;rw[e1,e2]
     by_cases h:a[i]=b[i]
     · have:decide (a[i]::a.drop (i+1)=b[i]::b.drop (i+1))=decide (a.drop (i+1)=b.drop (i+1)):=by rw[h];exact decide_eq_decide.2 ⟨fun e=>(List.cons.inj e).2,fun e=>by rw[e]⟩
       rw[this];simp (disch:=omega) only[ir40p0,qe,qf,eq_self,ac,reduceIte,hi,qjd,bw,h,wr,bz,ah]
     · have:decide (a[i]::a.drop (i+1)=b[i]::b.drop (i+1))=false:=decide_eq_false fun e=>h (List.cons.inj e).1
       rw[this];simp (disch:=omega) only[ir40p0,qe,qf,eq_self,ac,reduceIte,hi,qjd,bw,h]
   · rintro _ L _;have:decide (a.drop b.length=b.drop b.length)=true:=by simp[← hl]
     rw[this];simp (disch:=omega) only[ir40p0,qe,qf,eq_self,ac,reduceIte,lt_irrefl]
 · have:decide (a=b)=false:=by simp;rintro rfl;exact hl rfl
   rw[this];simp (disch:=omega) only[ir40,qe,qf,eq_self,ac,reduceIte,qob,bw,hl]
theorem qsk(aa:List (List UInt8))(ranks:List Int)(hn:aa.length<1000000000)(hl:ranks.length<1000000000):run tb 14 [af aa,ab ranks]=some [bvD (dh aa ranks)]:=by
 refine qh (x:=ir14) rfl ?_;have h:=qnh aa ranks hn hl (BitVec.allOnes 64);simp (disch:=omega) only[ir14,qe,qf,eq_self,bvQ,h,dh]
theorem qat(r:Int):∀ (l acc:List Int),(l.foldl (cy r) acc).length≤acc.length+l.length
 | [],acc=>by simp
 | x::l,acc=>by
  have:=qat r l (cy r acc x);have h2:(cy r acc x).length≤acc.length+1:=by unfold cy;split<;>simp
  simp only[List.foldl_cons,List.length_cons];omega
def stg(l:List Int)(i:Nat):List Int:=(range l.length).map fun (k:Nat)=>if k<i then ((ci (l.getD k 0) l).length:Int) else 0
theorem axh(l:List Int):replicate l.length 0=stg l 0:=by
 unfold stg;refine ext_getElem (by simp) fun i h1 h2=>?_
 simp
theorem ays{l:List Int}{i:Nat}(hi:i<l.length):(stg l i).set i ((ci l[i] l).length:Int)=stg l (i+1):=by
 unfold stg;refine ext_getElem (by simp) fun k h1 h2=>?_
 rw[getElem_set];simp only[getElem_map,getElem_range]
 by_cases h:i=k
 · subst h;simp[hi]
 · have:(k<i+1)=(k<i):=propext ⟨fun h=>by omega,fun h=>by omega⟩
   simp[h,this]
theorem a4j(l:List Int):stg l l.length=bg l:=by
 unfold stg bg;refine ext_getElem (by simp) fun k h1 h2=>?_
 have hk:k<l.length:=by simpa using h2
 simp[hk]
def ej(aa:List (List UInt8))(l:List Int):Bool:=cu aa&&decide (l.length=2^aa.length)
theorem qcx(aa:List (List UInt8))(l:List Int)(hn:aa.length<1000000000)(hs:∀ s∈aa,s.length<9223372036854775808)(hl:l.length<1000000000) :
 run tb 18 [af aa,ab l]=some (if ej aa l=true then [af aa,ab (bg l),.int .i64 0] else [.sl [],.sl [],.int .i64 1]):=by
 refine qh (x:=ir18) rfl ?_;have hv:=at9 aa hn hs
 have key:ej aa l=true→den (run tb) ir18p4 [af aa,ab l,.bool false] []=some (if ej aa l=true then [af aa,ab (bg l),.int .i64 0] else [.sl [],.sl [],.int .i64 1]):=by
  intro h;rw[if_pos h];have jg:=mkN hl;rw[axh] at jg;simp (disch:=omega) only[ir18p4,qe,qf,asl,qob,jg];refine qu (σ:=Unit) l.length (fun _ _=>True) (fun i _=>[.int .i64 i,ab (stg l i)]) (fun _ _=>[af aa,ab (bg l),.int .i64 0]) ?_ ?_ 0 () (zero_le _) trivial
  · rintro i _ L hi _ hL;have ah:=hL () trivial;rw[← ays hi] at ah;have m9:(stg l i).length=l.length:=by simp[stg]
    simp (disch:=omega) only[ir18p3,qe,qf,eq_self,ac,reduceIte,qob,hi,am2];refine qu (σ:=Unit) l.length (fun _ _=>True) (fun v _=>[.int .i64 v,ab ((l.take v).foldl (cy l[i]) [])]) (fun _ _=>[af aa,ab (bg l),.int .i64 0]) ?_ ?_ 0 () (zero_le _) trivial
    · rintro v _ M hv' _ hM;have dw:=hM () trivial;have htk:l.take (v+1)=l.take v++[l[v]]:=by rw[take_add_one,getElem?_eq_getElem hv'];rfl
      have rh:(l.take (v+1)).foldl (cy l[i]) []=cy l[i] ((l.take v).foldl (cy l[i]) []) l[v]:=by rw[htk,List.foldl_append];rfl
      have wy:=qat l[i] (l.take v) [];rw[rh] at dw;simp only[List.length_nil,List.length_take] at wy;generalize (l.take v).foldl (cy l[i]) []=acc at *;have jy:=auy acc l[v] (by omega)
      by_cases a1:l[v]<l[i]
      · by_cases a2:l[v]∈acc
        · have:cy l[i] acc l[v]=acc:=by unfold cy;rw[if_neg (by simp[a2])]
          rw[this] at dw;rw[decide_eq_true a2] at jy;simp (disch:=omega) only[ir18p2,ir18p1,ir18p0,qe,qf,eq_self,ac,reduceIte,qob,hv',qjd,a1,jy,qzi,wr,bz,dw]
        · have:cy l[i] acc l[v]=acc++[l[v]]:=by unfold cy;rw[if_pos ⟨a1,a2⟩]
          rw[this] at dw;rw[decide_eq_false a2] at jy;simp (disch:=omega) only[ir18p2,ir18p1,ir18p0,qe,qf,eq_self,ac,reduceIte,qob,hv',qjd,a1,jy,qzi,ajr,wr,bz,dw]
      · have:cy l[i] acc l[v]=acc:=by unfold cy;rw[if_neg (by simp[a1])]
        rw[this] at dw;simp (disch:=omega) only[ir18p2,ir18p1,ir18p0,qe,qf,eq_self,ac,reduceIte,qob,hv',qjd,a1,wr,bz,dw]
    · rintro _ M _;rw[take_length];have hc:=qgl (l:=stg l i) (i:=i) (by omega)
      have om:=qio (l:=stg l i) (i:=i) (by omega) ((ci l[i] l).length:Int)
      simp only[ci] at om ah;simp (disch:=omega) only[ir18p2,qe,qf,eq_self,ac,reduceIte,qob,lt_irrefl,hc,om,wr,bz,ah]
  · rintro _ L _;rw[a4j];simp (disch:=omega) only[ir18p3,qe,qf,eq_self,ac,reduceIte,qob,lt_irrefl]
 have bad:ej aa l=false→den (run tb) ir18p4 [af aa,ab l,.bool true] []=some (if ej aa l=true then [af aa,ab (bg l),.int .i64 0] else [.sl [],.sl [],.int .i64 1]):=by
  intro h;rw[h];simp (disch:=omega) only[ir18p4,qe,qf,eq_self,if_false]
 cases h1:cu aa with
 | false=>
  rw[h1] at hv;have:=bad (by simp[ej,h1])
  simp (disch:=omega) only[ir18,qe,qf,eq_self,hv,this]
 | true=>
  rw[h1] at hv;have h6:=qnb h1
  by_cases h2:l.length=2^aa.length
  · have:=key (by simp[ej,h1,h2])
    simp (disch:=omega) only[ir18,qe,qf,eq_self,ac,reduceIte,bvQ,wu,qcd,hv,qob,qac,bw,h2,this]
  · have:=bad (by simp[ej,h2])
    simp (disch:=omega) only[ir18,qe,qf,eq_self,ac,reduceIte,bvQ,wu,qcd,hv,qob,qac,bw,h2,this]
theorem a23{n:Nat}(h:n≤6):2^n<1000000000:=by have:=lq h;omega
theorem a2r(n:Nat)(hn:n≤6)(l:List Int)(p:Nat)(hl:l.length≤2000)(hp:p≤l.length) :
 ∃ (rs:List Int) (b:Nat),rs.length=2^n∧b≤l.length∧run tb 4 [.int .i64 n,ab l,.int .i64 p]=some [af (aq n),ab (bg rs),ab l,.int .i64 b]:=by
 obtain ⟨sp,b0,s1,s2,pm,ze⟩:=qsu 1 6 l p hl hp (by omega) (by omega) (by omega)
 have hpw:=a23 hn;have jg:=mkN (n:=2^n) hpw;have hvc:=qax n (by omega)
 have key:=axu (run:=run tb) (body:=ir4p0) (e:=[.int .i64 n,ab l,.int .i64 p,.int .u64 n,.int .i64 ((2^n:Nat):Int),ab (replicate (2^n) 0),.int .i64 sp,ab l,.int .i64 b0]) (J:=[]) (σ:=Nat × List Int) (2^n)
  (fun _ s=>s.1≤l.length∧s.2.length=2^n) (fun i s=>[.int .i64 i,ab l,.int .i64 s.1,ab s.2]) (fun r=>∃ (rs:List Int) (b:Nat),rs.length=2^n∧b≤l.length∧r=[af (aq n),ab (bg rs),ab l,.int .i64 b])
  (by
   rintro i ⟨q,rs⟩ L hi ⟨hq,zl⟩ hL;simp only at hq zl;obtain ⟨x,q',x0,x1,hq',hx⟩:=aly sp l q hl hq (by omega) (by omega)
   obtain ⟨r,hr,ahf⟩:=hL (q',rs.set i x) ⟨hq',by simpa using zl⟩
   refine ⟨r,?_,ahf⟩;have hc:=qgl (l:=rs) (i:=i) (by omega)
   have om:=qio (l:=rs) (i:=i) (by omega) x
   simp only at hr;generalize 2^n=N at *;simp (disch:=omega) only[ir4p0,qe,qf,eq_self,ac,reduceIte,qob,zl,hi,hx,hc,om,wr,bz,hr])
  (by
   rintro ⟨q,rs⟩ L ⟨hq,zl⟩;simp only at hq zl;refine ⟨_,?_,rs,q,zl,hq,rfl⟩;have i6:=qcx (aq n) rs (by rw[qv];omega) (fun s hs=>by rw[qlk s hs];omega) (by omega)
   rw[if_pos (by simp[ej,qnd hn,qv,zl])] at i6
   generalize 2^n=N at *;simp (disch:=omega) only[ir4p0,qe,qf,eq_self,ac,reduceIte,qob,zl,lt_irrefl,hvc,i6])
 obtain ⟨r,hr,rs,b,h1,h2,rfl⟩:=key 0 (b0,replicate (2^n) 0) (zero_le _) ⟨pm,by simp⟩
 refine ⟨rs,b,h1,h2,qh (x:=ir4) rfl ?_⟩;simp only[rt] at hr;have vr:2^n≤64:=lq hn;simp (disch:=omega) only[ir4,qe,qf,ac,reduceIte,bvQ,wu,qcd,jg,ze]
 simpa only[List.cons_append,List.nil_append] using hr
theorem a17(x y:Int):run tb 90 [.int .i64 x,.int .i64 y]=some [.bool (decide (x<y))]:=by
 refine qh (x:=ir90) rfl ?_
 have hn:∀ z:Int,run tb 102 [.int .i64 z]=some [.bool false]:=fun z=>by
  refine qh (x:=ir102) rfl ?_;simp only[ir102,qe,qf,eq_self,ac,reduceIte,bw]
 by_cases h:x<y
 · simp only[ir90,qe,qf,eq_self,ac,reduceIte,hn,h]
 · simp only[ir90,qe,qf,eq_self,ac,reduceIte,hn,h]
theorem ayr(l:List Int)(hl:l.length<1000000000)(hp:l.Pairwise fun x y=>x<y)(t:Int):run tb 68 [ab l,.int .i64 t]=some [.int .i64 (jw t l),.bool (decide (jw t l<l.length∧l.getD (jw t l) 0=t))]:=by
 refine qh (x:=ir68) rfl ?_
 have hn:∀ z:Int,run tb 91 [.int .i64 z]=some [.bool false]:=fun z=>by
  refine qh (x:=ir91) rfl ?_;simp only[ir91,qe,qf,eq_self,ac,reduceIte,bw]
 have j7:=azj t l;simp (disch:=omega) only[ir68,qe,qf,qob];refine quj (ι:=Nat × Nat) (fun x=>x.2-x.1) (fun x=>x.1≤jw t l∧jw t l≤x.2∧x.2≤l.length) (fun x=>[.int .i64 x.1,.int .i64 x.2]) (fun _=>[.int .i64 (jw t l),.bool (decide (jw t l<l.length∧l.getD (jw t l) 0=t))]) ?_ (0,l.length) ⟨zero_le _,j7,le_refl _⟩
 rintro ⟨i,j⟩ L ⟨h1,h2,h3⟩ hL;simp only at h1 h2 h3
 by_cases hij:i<j
 · have hm:(i+j) / 2<l.length:=by omega
   have hs:(((i+j:Nat):Int)).fdiv (2^(min (Int.toNat 1) IntKind.u64.bits))=(((i+j) / 2:Nat):Int):=by
    have:=qzq (a:=i+j) (n:=1) (by omega)
    rw[Nat.pow_one] at this;exact this
   have hadd:(i:Int)+(j:Int)=((i+j:Nat):Int):=by omega
   have hc:=a17 l[(i+j) / 2] t;have cf:=qdp hp t ((i+j) / 2) hm
   by_cases hd:l[(i+j) / 2]<t
   · have ah:=hL ((i+j) / 2+1,j) ⟨by have:=cf.1 hd;omega,h2,h3⟩ (by simp only;omega)
     simp only at ah;rw[decide_eq_true hd] at hc;simp (disch:=omega) only[ir68p0,qe,qf,eq_self,ac,reduceIte,Int.reduceLE,hij,hadd,wr,wu,hs,qjd,hc,bz,ah]
   · have ah:=hL (i,(i+j) / 2) ⟨h1,by have:¬ (i+j) / 2<jw t l:=fun h=>hd (cf.2 h);omega,by omega⟩ (by simp only;omega)
     simp only at ah;rw[decide_eq_false hd] at hc;simp (disch:=omega) only[ir68p0,qe,qf,eq_self,ac,reduceIte,Int.reduceLE,hij,hadd,wr,wu,hs,qjd,hc,ah]
 · have hi:i=jw t l:=by omega
   simp only[← hi]
   by_cases hil:i<l.length
   · have hg:l.getD i 0=l[i]:=by simp[hil]
     have hn1:=hn l[i];rw[hg]
     by_cases he:l[i]=t
     · simp (disch:=omega) only[ir68p0,qe,qf,eq_self,ac,reduceIte,hij,hil,qjd,he,and_self]
     · simp (disch:=omega) only[ir68p0,qe,qf,eq_self,ac,reduceIte,hij,hil,qjd,he,hn1,and_false]
   · simp (disch:=omega) only[ir68p0,qe,qf,eq_self,ac,reduceIte,hij,hil,false_and]
theorem qbw(l:List Int)(hl:l.length<1000000000):run tb 65 [ab l]=some [ab (ii l),ab l]:=by
 refine qh (x:=ir65) rfl ?_;have h1:run tb 88 [ab l]=some [ab l,ab l]:=qif rfl (by rw[show ext88=nq from rfl,nq,qnl,if_pos hl])
 have h2:run tb 89 [ab l]=some [ab (ii l)]:=qif rfl (by rw[show ext89=yq from rfl,yq,qnl,if_pos hl])
 have c1:∀ k e J,fj (run tb) 2 false [0] k e J (some [ab l,ab l])=den (run tb) k (e++[ab l,ab l]) J:=fun k e J=>rfl
 have c2:∀ k e J,fj (run tb) 1 false [0] k e J (some [ab (ii l)])=den (run tb) k (e++[ab (ii l)]) J:=fun k e J=>rfl
 simp (disch:=omega) only[ir65,qe,qf,eq_self,h1,h2,c1,c2]
theorem qme(aa:List (List UInt8))(l:List Int)(hn:aa.length<1000000000)(hl:l.length<1000000000) :
 run tb 33 [af aa,ab l]=some (if ej aa l=true then [af aa,ab (bg l),.int .i64 0] else [.sl [],.sl [],.int .i64 1]):=by
 refine qh (x:=ir33) rfl ?_;have hv:=qbd aa hn
 have key:ej aa l=true→den (run tb) ir33p1 [af aa,ab l,.bool false] []=some (if ej aa l=true then [af aa,ab (bg l),.int .i64 0] else [.sl [],.sl [],.int .i64 1]):=by
  intro h;rw[if_pos h];have h1:run tb 64 [ab l]=some [ab l]:=qif rfl (by rw[show ext64=rm from rfl,rm,qnl])
  have h2:=qbw l hl;have h3:run tb 66 [ab (ii l)]=some [ab (jq l),ab (pz (ii l))]:=qif rfl (by rw[show ext66=ng from rfl,ng,qnl,if_pos (by rw[qqn];exact hl)];rfl)
  have h4:run tb 67 [af aa]=some [af aa]:=qif rfl (by rw[show ext67=pq from rfl];unfold pq;simp only[a0s,hn,if_true])
  have c2:∀ k e J,fj (run tb) 2 false [0] k e J (some [ab (ii l),ab l])=den (run tb) k (e++[ab (ii l),ab l]) J:=fun k e J=>rfl
  have c3:∀ k e J,fj (run tb) 2 false [1] k e J (some [ab (jq l),ab (pz (ii l))])=den (run tb) k (e++[ab (jq l),ab (pz (ii l))]) J:=fun k e J=>rfl
  have c4:∀ k e J,fj (run tb) 1 false [0] k e J (some [af aa])=den (run tb) k (e++[af aa]) J:=fun k e J=>rfl
  have su:=awq l;have hse:=fun t=>ayr (jq l) (by omega) (qzj l) t
  simp (disch:=omega) only[ir33p1,qe,qf,h1,h2,c2,h3,c3,h4,c4,qob,am2];have hb:=fun r=>qsx r l
  generalize jq l=cs at *;refine qu (σ:=Unit) l.length (fun _ _=>True) (fun i _=>[.int .i64 i,ab ((bg l).take i)]) (fun _ _=>[af aa,ab (bg l),.int .i64 0]) ?_ ?_ 0 () (zero_le _) trivial
  · rintro i _ L hi _ hL;have ah:=hL () trivial;have hns:(bg l).length=l.length:=by simp[bg]
    have htk:(bg l).take (i+1)=(bg l).take i++[((ci l[i] l).length:Int)]:=by rw[take_add_one,getElem?_eq_getElem (by omega)];simp[bg]
    have hsr:=hse l[i];rw[hb] at hsr;rw[htk] at ah;have fo:((bg l).take i).length=i:=by rw[List.length_take];omega
    generalize (bg l).take i=acc at *;have c5:∀ (x y:D) k e J,fj (run tb) 2 false [] k e J (some [x,y])=den (run tb) k (e++[x,y]) J:=fun x y k e J=>rfl
    simp (disch:=omega) only[ir33p0,qe,qf,eq_self,ac,reduceIte,hi,qjd,hsr,c5,ajr,wr,bz,ah]
  · rintro _ L _;have hns:(bg l).length=l.length:=by simp[bg]
    rw[show (bg l).take l.length=bg l by rw[← hns,take_length]]
    simp (disch:=omega) only[ir33p0,qe,qf,eq_self,ac,reduceIte,lt_irrefl]
 have bad:ej aa l=false→den (run tb) ir33p1 [af aa,ab l,.bool true] []=some (if ej aa l=true then [af aa,ab (bg l),.int .i64 0] else [.sl [],.sl [],.int .i64 1]):=by
  intro h;rw[h];simp (disch:=omega) only[ir33p1,qe,qf,eq_self,if_false]
 cases h1:cu aa with
 | false=>
  rw[h1] at hv;have:=bad (by simp[ej,h1])
  simp (disch:=omega) only[ir33,qe,qf,eq_self,hv,this]
 | true=>
  rw[h1] at hv;have h6:=qnb h1
  by_cases h2:l.length=2^aa.length
  · have:=key (by simp[ej,h1,h2])
    simp (disch:=omega) only[ir33,qe,qf,eq_self,ac,reduceIte,bvQ,qcd,hv,qob,qac,bw,h2,this]
  · have:=bad (by simp[ej,h2])
    simp (disch:=omega) only[ir33,qe,qf,eq_self,ac,reduceIte,bvQ,qcd,hv,qob,qac,bw,h2,this]
theorem ax2(f:F)(hs:f.size<10000000000)(hd:f.depth<1000):run tb 61 (aj f)=some [af (canon (F.atomL f))]:=qif rfl (as4 f hs hd)
theorem qqd(bm:List (List UInt8))(f:F)(hv:bm.length<1000000000)(hf:f.size<1000000000):run tb 30 (af bm::aj f)=some [bvD (cj bm f),.int .i64 (bv bm f)]:=by
 refine qh (x:=ir30) rfl ?_;have h1:=qbd bm hv;have h2:=qeo f hf;unfold cj;simp only[aj] at h2;cases oy:cu bm with
 | false=>
  rw[oy] at h1;have he:bv bm f=1:=by simp[bv,oy]
  rw[he];simp (disch:=omega) only[ir30,aj,qe,qf,eq_self,Int.reduceEq,bvQ,h1,Int.reduceEq,if_false]
 | true=>
  rw[oy] at h1
  by_cases hva:ca f=0
  · obtain ⟨g1,g2,g3⟩:=qyq hva;have h3:=ax2 f (by omega) (by omega)
    rw[hva] at h2;simp only[aj] at h3;have he:bv bm f=if p6 bm f=false then 6 else 0:=by simp[bv,oy,hva]
    have su:(canon (F.atomL f)).length<1000000000:=by
     have a1:=F.atomL_len f;have a2:(canon (F.atomL f)).length≤(F.atomL f).length:=qff ((a5r _).imp fun h e=>by subst e;exact List.lt_irrefl _ h) fun x hx=>(qfn _ x).1 hx
     omega
    simp (disch:=omega) only[ir30,aj,qe,qf,eq_self,ac,reduceIte,bvQ,h1,h2,h3,bw,qac];rw[he];unfold p6
    have akj:(canon (F.atomL f)).all (fun s=>bm.contains s)=true→run tb 63 (af bm::aj f)=some [bvD (it bm f 64)]:=fun ha=>a29 bm oy f hf g3 fun s hs=>by
     have:=List.all_eq_true.1 ha s ((qfn _ s).2 hs)
     simpa using this
    generalize canon (F.atomL f)=az at *;have hd0:az.all (fun s=>bm.contains s)=(az.drop 0).all fun s=>bm.contains s:=by simp
    rw[hd0];refine qu (σ:=Unit) az.length (fun i _=>(az.take i).all (fun s=>bm.contains s)=true) (fun i _=>[.int .i64 i]) (fun i _=>[bvD (if (if ((az.drop i).all fun s=>bm.contains s)=false then (6:Int) else 0)=0 then it bm f (2^bm.length) else 0#64),.int .i64 (if ((az.drop i).all fun s=>bm.contains s)=false then 6 else 0)]) ?_ ?_ 0 () (zero_le _) rfl
    · rintro i _ L hi hp hL;have hc:=qas bm az[i] (by omega)
      rw[qbg hi,all_cons];cases ly:bm.contains az[i] with
      | false=>
       rw[ly] at hc;simp (disch:=omega) only[ir30p0,qe,qf,eq_self,ac,Int.reduceEq,bvQ,hi,qmj,hc,if_true,Int.reduceEq,if_false]
      | true=>
       rw[ly] at hc;have ah:=hL () (by rw[take_add_one,getElem?_eq_getElem hi];simp only[Option.toList_some,all_append,all_cons,all_nil,Bool.and_true,hp,ly])
       simp (disch:=omega) only[ir30p0,qe,qf,eq_self,ac,reduceIte,hi,qmj,hc,wr,bz,ah]
    · rintro _ L hp;rw[take_length] at hp;have hm:=akj hp;have ha:=qpp bm hv;have wy:ny bm=bc (fun _=>true) (2^bm.length):=by unfold ny;rw[if_pos oy]
      have ab1:it bm f 64&&&ny bm=it bm f (2^bm.length):=by rw[wy];exact arh _ (lq (qnb oy))
      simp only[aj] at hm;rw[drop_length];simp (disch:=omega) only[ir30p0,qe,qf,eq_self,ac,bvQ,lt_irrefl,hm,ha,ab1,all_nil,if_false,if_true]
  · have he:bv bm f=ca f:=by simp[bv,oy,hva]
    rw[he,if_neg hva];simp (disch:=omega) only[ir30,aj,qe,qf,eq_self,ac,reduceIte,bvQ,h1,h2,bw,hva]
def fc(l:List Int)(i:Nat):List Int:=(range l.length).map fun (k:Nat)=>if k<i then l.getD k 0 else 0
theorem qpt(l:List Int):replicate l.length 0=fc l 0:=by
 unfold fc;refine ext_getElem (by simp) fun i h1 h2=>?_
 simp
theorem qzt{l:List Int}{i:Nat}(hi:i<l.length):(fc l i).set i (l.getD i 0)=fc l (i+1):=by
 unfold fc;refine ext_getElem (by simp) fun k h1 h2=>?_
 rw[getElem_set];simp only[getElem_map,getElem_range]
 by_cases h:i=k
 · subst h;simp
 · have:(k<i+1)=(k<i):=propext ⟨fun h=>by omega,fun h=>by omega⟩
   simp[h,this]
theorem qsz(l:List Int):fc l l.length=l:=by
 unfold fc;refine ext_getElem (by simp) fun k h1 h2=>?_
 simp[h2]
def chE(aa:List (List UInt8))(ranks:List Int)(f:F):Int:=if bi aa ranks≠0 then bi aa ranks else bv aa f
section
variable (aa:List (List UInt8))(ranks:List Int)(f:F)(hn:aa.length<1000000000)(hs:∀ s∈aa,s.length<9223372036854775808)(hl:ranks.length<1000000000)(hf:f.size<1000000000)(hb:F.allF aaz f=true)
include hn hs hl hf hb
end
end Go.Proofs.YtefjlhhicgepfaaGreatDoor

namespace Go.Proofs.YtefjlhhicgepfaaGreatDoor
open Go Am
set_option maxRecDepth 100000
theorem qyt(aa:List (List UInt8))(ranks:List Int)(f:F)(hn:aa.length<1000000000)(hl:ranks.length<1000000000)(hf:f.size<1000000000) :
 run tb 70 (af aa::ab ranks::aj f)=some (if bi aa ranks≠0 then [bvD 0#64,bvD 0#64,.int .i64 (bi aa ranks)] else [bvD (cj aa f),bvD (ny aa),.int .i64 (bv aa f)]):=by
 refine qh (x:=ir70) rfl ?_;have h1:=qlc aa ranks hn hl;have h2:=qqd aa f hn hf;have h3:=qpp aa hn;simp only[aj] at h2
 by_cases h:bi aa ranks=0
 · rw[if_neg (by simp[h])]
   rw[h] at h1;simp (disch:=omega) only[ir70,aj,qe,qf,eq_self,ac,reduceIte,h1,bw,h2,h3]
 · rw[if_pos h];simp (disch:=omega) only[ir70,aj,qe,qf,eq_self,ac,reduceIte,bvQ,h1,bw,h]
theorem awh(aa:List (List UInt8))(ranks:List Int)(f:F)(hn:aa.length<1000000000)(hl:ranks.length<1000000000)(hf:f.size<1000000000) :
 run tb 38 (af aa::ab ranks::aj f)=some [bvD (if chE aa ranks f=0 then bq aa ranks (cj aa f) else 0#64),.int .i64 (chE aa ranks f)]:=by
 refine qh (x:=ir38) rfl ?_;have h1:=qyt aa ranks f hn hl hf;have h2:=qnh aa ranks hn hl (cj aa f);simp only[aj] at h1
 by_cases h:bi aa ranks=0
 · rw[if_neg (by simp[h])] at h1
   have he:chE aa ranks f=bv aa f:=by simp[chE,h]
   rw[he]
   by_cases hm:bv aa f=0
   · rw[if_pos hm];rw[hm] at h1 ⊢;simp (disch:=omega) only[ir38,aj,qe,qf,eq_self,ac,reduceIte,bvQ,h1,bw,h2]
   · rw[if_neg hm];simp (disch:=omega) only[ir38,aj,qe,qf,eq_self,ac,reduceIte,bvQ,h1,bw,hm]
 · rw[if_pos h] at h1;have he:chE aa ranks f=bi aa ranks:=by simp[chE,h]
   rw[he,if_neg h];simp (disch:=omega) only[ir38,aj,qe,qf,eq_self,ac,reduceIte,bvQ,h1,bw,h]
end Go.Proofs.YtefjlhhicgepfaaGreatDoor

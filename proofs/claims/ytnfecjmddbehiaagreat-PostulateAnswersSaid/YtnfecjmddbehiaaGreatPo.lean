/- What functions of the program compute: lemmas. -/
import Derived.Test.YtnfecjmddbehiaaGreatOd
import Derived.Test.YtnfecjmddbehiaaGreatAm7
import Derived.Test.YtnfecjmddbehiaaGreatAm8
import Derived.Test.YtnfecjmddbehiaaGreatKw
import Derived.Test.YtnfecjmddbehiaaGreatLk
set_option linter.unusedSimpArgs false
set_option linter.unusedVariables false
set_option linter.unusedSectionVars false
namespace Go.Proofs.YtnfecjmddbehiaaGreat
open Go Am
set_option maxRecDepth 100000
theorem qeqb (a b:List Int) (ha:a.length<1000000000):run tb 71 [numsD a,numsD b]=some [.bool (decide (a=b))]:=by
 refine qc (x:=ir71) rfl ?_
 by_cases hl:a.length=b.length
 · simp (disch:=omega) only[ir71,qa,qb,eq_self,aBin,reduceIte,qu,ibne,hl];have h0:decide (a=b)=decide (a.drop 0=b.drop 0):=by simp
   rw[h0];refine qk (σ:=Unit) b.length (fun _ _=>True) (fun i _=>[.int .i64 i]) (fun i _=>[.bool (decide (a.drop i=b.drop i))]) ?_ ?_ 0 () (Nat.zero_le _) trivial
   · rintro i _ L hi _ hL;have hnext:=hL () trivial;have hia:i<a.length:=by omega
     have e1:a.drop i=a[i]::a.drop (i+1):=List.drop_eq_getElem_cons hia;have e2:b.drop i=b[i]::b.drop (i+1):=List.drop_eq_getElem_cons hi;rw[e1,e2]
     by_cases h:a[i]=b[i]
     · have:decide (a[i]::a.drop (i+1)=b[i]::b.drop (i+1))=decide (a.drop (i+1)=b.drop (i+1)):=by rw[h];exact decide_eq_decide.2 ⟨fun e=>(List.cons.inj e).2,fun e=>by rw[e]⟩
       rw[this];simp (disch:=omega) only[ir71p0,qa,qb,eq_self,aBin,reduceIte,hi,qtb,ibne,h,wr,natS,hnext]
     · have:decide (a[i]::a.drop (i+1)=b[i]::b.drop (i+1))=false:=decide_eq_false fun e=>h (List.cons.inj e).1
       rw[this];simp (disch:=omega) only[ir71p0,qa,qb,eq_self,aBin,reduceIte,hi,qtb,ibne,h]
   · rintro _ L _;have:decide (a.drop b.length=b.drop b.length)=true:=by simp[← hl]
     rw[this];simp (disch:=omega) only[ir71p0,qa,qb,eq_self,aBin,reduceIte,Nat.lt_irrefl]
 · have:decide (a=b)=false:=decide_eq_false fun e=>hl (by rw[e])
   rw[this];have hl':¬ (a.length:Int)=(b.length:Int):=by omega
   simp (disch:=omega) only[ir71,qa,qb,eq_self,aBin,reduceIte,qu,ibne,hl']
theorem qxrb (a b:List (List Int)) (ha:a.length<1000000000) (hr:∀ r∈a,r.length<1000000000):run tb 33 [tabD a,tabD b]=some [.bool (decide (a=b))]:=by
 refine qc (x:=ir33) rfl ?_;have hla:=qbe a;have hlb:=qbe b
 by_cases hl:a.length=b.length
 · simp (disch:=omega) only[ir33,qa,qb,eq_self,aBin,reduceIte,hla,hlb,ibne,hl];have h0:decide (a=b)=decide (a.drop 0=b.drop 0):=by simp
   rw[h0];refine qk (σ:=Unit) b.length (fun _ _=>True) (fun i _=>[.int .i64 i]) (fun i _=>[.bool (decide (a.drop i=b.drop i))]) ?_ ?_ 0 () (Nat.zero_le _) trivial
   · rintro i _ L hi _ hL;have hnext:=hL () trivial;have hia:i<a.length:=by omega
     have e1:a.drop i=a[i]::a.drop (i+1):=List.drop_eq_getElem_cons hia;have e2:b.drop i=b[i]::b.drop (i+1):=List.drop_eq_getElem_cons hi;rw[e1,e2];have ra:=qgl hia;have rb:=qgl hi;have hi':(i:Int)<(b.length:Int):=by omega
     have hc:run tb 55 [numsD a[i],numsD b[i]]=some [.bool (decide (a[i]=b[i]))]:=by
      refine qc (x:=ir55) rfl ?_;have:=qeqb a[i] b[i] (hr _ (List.getElem_mem hia));simp only[ir55,qa,qb,eq_self,this]
     by_cases h:a[i]=b[i]
     · have:decide (a[i]::a.drop (i+1)=b[i]::b.drop (i+1))=decide (a.drop (i+1)=b.drop (i+1)):=by rw[h];exact decide_eq_decide.2 ⟨fun e=>(List.cons.inj e).2,fun e=>by rw[e]⟩
       rw[this];rw[decide_eq_true h] at hc;simp (disch:=omega) only[ir33p0,qa,qb,eq_self,aBin,reduceIte,hi',ra,rb,hc,wr,natS,hnext]
     · have:decide (a[i]::a.drop (i+1)=b[i]::b.drop (i+1))=false:=decide_eq_false fun e=>h (List.cons.inj e).1
       rw[this];rw[decide_eq_false h] at hc;simp (disch:=omega) only[ir33p0,qa,qb,eq_self,aBin,reduceIte,hi',ra,rb,hc]
   · rintro _ L _;have:decide (a.drop b.length=b.drop b.length)=true:=by simp[← hl]
     rw[this];simp (disch:=omega) only[ir33p0,qa,qb,eq_self,aBin,reduceIte,Int.lt_irrefl]
 · have:decide (a=b)=false:=decide_eq_false fun e=>hl (by rw[e])
   rw[this];have hl':¬ (a.length:Int)=(b.length:Int):=by omega
   simp (disch:=omega) only[ir33,qa,qb,eq_self,aBin,reduceIte,hla,hlb,ibne,hl']
theorem qpa (os:List OO) (h:Sane os):run tb 16 [osD os,osD os]=some [.bool true]:=by
 refine qc (x:=ir16) rfl ?_;have hl:=qwy os;have hn:=h.n;simp (disch:=omega) only[ir16,qa,qb,eq_self,aBin,reduceIte,hl,ibne];refine qk (σ:=Unit) os.length (fun _ _=>True) (fun i _=>[.int .i64 i]) (fun _ _=>[.bool true]) ?_ ?_ 0 () (Nat.zero_le _) trivial
 · rintro i _ L hi _ hL;have hnext:=hL () trivial;have hi':(i:Int)<(os.length:Int):=by omega
   have hro:=qqi hi;have hs:=qdfb os[i].1 (h.nm _ (List.getElem_mem hi)) os[i].2 (h.rk _ (List.getElem_mem hi));simp (disch:=omega) only[ir16p0,qa,qb,eq_self,aBin,reduceIte,hl,hi',hro,hs,wr,natS,hnext]
 · rintro _ L _;simp (disch:=omega) only[ir16p0,qa,qb,eq_self,aBin,reduceIte,hl,Int.lt_irrefl]
end Go.Proofs.YtnfecjmddbehiaaGreat

namespace Go.Proofs.YtnfecjmddbehiaaGreat
open Go Am
set_option maxRecDepth 100000
theorem qfu (n:Nat) (hn:n<62) (t:D):run tb 30 [.int .i64 (n:Int),t]=some [.int .i64 ((2^n:Nat):Int)]:=by
 refine qc (x:=ir30) rfl ?_;have h:PO.eval (.bin .shl false) [.int .i64 1,.int .i64 (n:Int)]=some [.int .i64 ((2^n:Nat):Int)]:=qgrb n (by omega)
 simp only[ir30,qa,qb,eq_self,h]
theorem qsjb {n:Nat} (hn:n=1∨n=2) {kind:Int} (hk:kind=1∨kind=2) (rows:List (List Int)) (names:List (List UInt8)) (hv:Vld n rows) (hvo:vocOk names=true) (hnl:names.length=n) (hst:∀ s∈names,s.length<9223372036854775808) (x4 x5 x6 x7:D) :
 den (run tb) ir14p6 [.int .i64 (n:Int),tabD rows,.int .i64 kind,strsD names,x4,x5,x6,.bool false] []=some (ordV kind n rows names):=by
 have hsz:=que hn;have h16:=qg (n:Int);have hN4:2^n≤4:=by rcases hn with rfl|rfl<;>decide
 have hlT:=qbe rows;rw[hv.len] at hlT;have hal:=qkeb hv;rw[hv.len] at hal;have hwo:=qfu n (by omega) (tabD rows)
 have hmk:=mkN (n:=2^n) (by omega)
 obtain ⟨m,hm⟩:∃ m,m=szT (n:Int):=⟨_,rfl⟩;obtain ⟨N,hN⟩:∃ N,N=2^n:=⟨_,rfl⟩;obtain ⟨R,hR⟩:∃ R,R=ordR kind n rows:=⟨_,rfl⟩;obtain ⟨fin,hfin⟩:∃ fin,fin=ordV kind n rows names:=⟨_,rfl⟩
 have hfin0:∀ i,i<m→R i=none→fin=[.sl [],.int .i64 9]:=fun i hi h=>by
  rw[hfin];unfold ordV;rw[if_neg];intro hb;unfold ordB at hb;simp only[Bool.and_eq_true,List.all_eq_true,List.mem_range] at hb;have:=hb.1 i (by rw[← hm];exact hi)
  rw[← hR,h] at this;cases this
 have ovA':Ovr N (alA n):=by rw[hN];exact ovA hn
 have lt:∀ {S:BitVec 64},Ovr N S→S.toNat<szT (n:Int):=fun hS=>by rw[hN] at hS;rw[hsz];exact qiz hS
 rw[← hfin];rw[← hm] at hlT hal;rw[← hN] at hwo hmk hN4;have hmk:PO.eval (.mkL 8 [.int .i64 0]) [.int .i64 (N:Int)]=some [numsD (List.replicate N 0)]:=hmk;simp (disch:=omega) only[ir14p6,qa,qb,hlT,hal];rw[qyw];refine qk (σ:=List OO) m (fun i s=>s=(List.range i).map (fun j=>(names,normS ((R j).getD [])))∧∀ j,j<i→(R j).isSome=true) (fun i s=>[.int .i64 i,osD s]) (fun _ _=>fin) ?_ ?_ 0 [] (Nat.zero_le _) ⟨rfl,fun j h=>by omega⟩
 · rintro i s L hi ⟨hs,hpre⟩ hL;have hi':(i:Int)<(m:Int):=by omega
   have hKt:(BitVec.ofNat 64 i).toNat=i:=qmc (m:=m) hi (by omega)
   have hK:(BitVec.ofNat 64 i).toNat<szT (n:Int):=by rw[hKt];omega
   have hrow:PO.eval (.row 1) [tabD rows,.int .i64 (i:Int)]=some [numsD (Am.rowAt rows (BitVec.ofNat 64 i))]:=by
    rw[qpf (by omega)];exact tr hv hK
   have hsl:s.length=i:=by rw[hs];simp
   obtain ⟨c,hc⟩:∃ c,c=cR kind (alA n) (tOf rows) (BitVec.ofNat 64 i):=⟨_,rfl⟩;have hRi:R i=lvlR c N 0 (alA n) (List.replicate N 0):=by rw[hR,hc,hN];unfold ordR;rw[Int.toNat_natCast]
   simp (disch:=omega) only[ir14p5,qa,qb,eq_self,aBin,reduceIte,hi',hrow,hwo,hmk];refine qkhb (ι:=Nat × Nat × BitVec 64 × List Int) (fun x=>x.1) (fun x=>Ovr N x.2.2.1∧popN N x.2.2.1≤x.1∧x.2.2.2.length=N∧x.2.1+x.1≤N∧lvlR c x.1 x.2.1 x.2.2.1 x.2.2.2=R i) (fun x=>[ivD x.2.2.1,.int .i64 (x.2.1:Int),numsD x.2.2.2]) (fun _=>fin) ?_ (N,0,alA n,List.replicate N 0) ⟨ovA',qbwb _ _,by simp,by simp,hRi.symm⟩
   rintro ⟨k,l,S,q⟩ M ⟨oS,hp,hq,hlk,hlv⟩ hM;simp only at oS hp hq hlk hlv;have hSlt:=lt oS;have hS16:S.toNat<16:=by omega
   have hSm:Sml S:=by unfold Sml;omega
   have hnz:=qac false S
   by_cases h0:S=0#64
   · subst h0;rw[qkjb] at hlv
     have hnext:=hL (s++[(names,normS q)]) ⟨by rw[List.range_succ,List.map_append,hs];simp[← hlv],fun j hj=>by
      by_cases e:j=i
      · subst e;rw[← hlv];rfl
      · exact hpre j (by omega)⟩
     have hno:=qsz names q (by omega) (by omega)
     rw[if_pos (by simp[normE,hvo,hq,hnl,hN])] at hno
     have hmk2:PO.eval (.mk 2 1) [strsD names,numsD (normS q)]=some [.sl [[strsD names,numsD (normS q)]]]:=rfl;have happ:=qkmb (os:=s) (o:=(names,normS q)) (by omega)
     simp only at happ;simp only[decide_true,Bool.not_true] at hnz;simp (disch:=omega) only[ir14p3,qa,qb,eq_self,aBin,reduceIte,hnz,hno,Int.reduceBNe,hmk2,happ,wr,natS,hnext]
   · rw[decide_eq_false h0,Bool.not_false] at hnz;have htc:=tc hv hK (f:=S) hSlt;have hand:∀ {b:BitVec 64},b.toNat<szT (n:Int)→PO.eval (.bin .and false) [ivD b,ivD S]=some [ivD (b&&&S)]:=fun {b} hb=>qgb false (y:=S) (by unfold Sml;omega)
     have hcS:c S=(if kind=2 then tOf rows (BitVec.ofNat 64 i) (alA n &&& ~~~S) else tOf rows (BitVec.ofNat 64 i) S):=by rw[hc];rfl
     have oAS:(alA n &&& ~~~S).toNat<szT (n:Int):=qbb (lt ovA');have htc2:=tc hv hK (f:=alA n &&& ~~~S) oAS;have haN:=qwg false (x:=alA n) (y:=S) (by have:=lt ovA';unfold Sml;omega)
     have hcl:(c S).toNat<szT (n:Int):=by
      rw[hcS]
      split
      · exact t_lt hv hK oAS
      · exact t_lt hv hK hSlt
     have hAnd:=hand hcl;have hez:=qkb false (c S&&&S);have hq2:=qu q;rw[hq] at hq2
     have key:∀ (y21 y:D) (Jx:List PF),den (run tb) ir14p2 ([.int .i64 (n:Int),tabD rows,.int .i64 kind,strsD names,x4,x5,x6,.bool false,.int .i64 (m:Int),ivD (alA n),.int .i64 (m:Int),.int .i64 (i:Int),osD s,.bool true,numsD (Am.rowAt rows (BitVec.ofNat 64 i)),.int .i64 (N:Int),numsD (List.replicate N 0),ivD S,.int .i64 (l:Int),numsD q,.bool true,y21]++[ivD (c S)]) [L,M]=some fin:=by
      intro y21 y Jx
      by_cases hb:c S&&&S=0#64
      · have hn0:=qlmb (l:=l) (q:=q) oS hp h0 hb;rw[hn0] at hlv;rw[decide_eq_true hb] at hez;rw[hfin0 i hi hlv.symm];simp (disch:=omega) only[ir14p2,qa,qb,eq_self,hAnd,hez]
      · obtain ⟨k',hk',hp',hls⟩:=qjmb (l:=l) (q:=q) oS hp h0 hb;rw[decide_eq_false hb] at hez;have hnext:=hM (k',l+1,S &&& ~~~(c S&&&S),setLv q (c S&&&S) l) ⟨fun w hw=>oS w (qx.1 hw).1,hp',by simp only[qgg];exact hq,by simp only;omega,by simp only;rw[← hls];exact hlv⟩ (by simp only;omega)
        simp only at hnext;have hbm:Sml (c S&&&S):=by have:=qbb (y:=S) hcl;unfold Sml;omega
        simp (disch:=omega) only[ir14p2,qa,qb,hAnd,hez,hq2];have e0:numsD q=numsD (setTo q (c S&&&S) l 0):=by rw[qecb]
        have start:∀ (E:Env) (J:List PF),loopQ (run tb) ir14p1 E J [.int .i64 0,numsD (setTo q (c S&&&S) l 0)]=some fin→loopQ (run tb) ir14p1 E J [.int .i64 0,numsD q]=some fin:=fun E J h=>by rw[qecb] at h;exact h
        refine start _ _ ?_;clear e0 start;refine qk (σ:=Unit) N (fun _ _=>True) (fun w _=>[.int .i64 w,numsD (setTo q (c S&&&S) l w)]) (fun _ _=>fin) ?_ ?_ 0 () (Nat.zero_le _) trivial
        · rintro w _ K hw _ hK2;have hnx:=hK2 () trivial;have hw':(w:Int)<(N:Int):=by omega
          have hsh:=qygb false .i64 (c S&&&S) w;have hbt:=qzw hbm w;have hon:=qkv (c S&&&S) w;cases hbw:(c S&&&S).getLsbD w with
          | false=>
           rw[hbw] at hon;rw[← qkkb hbw] at hnx;simp (disch:=omega) only[ir14p1,ir14p0,qa,qb,eq_self,aBin,reduceIte,hw',hsh,hbt,hon,wr,natS,hnx]
          | true=>
           rw[hbw] at hon;rw[← qxcb (by omega) hbw] at hnx
           have hc1:=qbk (l:=setTo q (c S&&&S) l w) (i:=w) (by rw[qpr];omega)
           have hs1:=qwt (l:=setTo q (c S&&&S) l w) (i:=w) (by rw[qpr];omega) (l:Int)
           simp (disch:=omega) only[ir14p1,ir14p0,qa,qb,eq_self,aBin,reduceIte,hw',hsh,hbt,hon,hc1,hs1,wr,natS,hnx]
        · rintro _ K _;have e:setTo q (c S&&&S) l N=setLv q (c S&&&S) l:=by rw[← hq];exact qdbb q _ l
          rw[e];have han:=qwg false (x:=S) (y:=c S&&&S) hSm;simp (disch:=omega) only[ir14p1,qa,qb,eq_self,aBin,reduceIte,Int.lt_irrefl,han,wr,natS,hnext]
     simp only[List.cons_append,List.nil_append] at key;have hik:(kind=2)=(kind=2):=rfl;rcases hk with rfl|rfl
     · rw[if_neg (by decide)] at hcS
       rw[hcS] at key;have key:=fun y=>key y (.int .i64 0) []
       simp (disch:=omega) only[ir14p3,qa,qb,eq_self,aBin,reduceIte,Int.reduceEq,hnz,htc,key]
     · rw[if_pos rfl] at hcS;rw[hcS] at key;have key:=fun y=>key y (.int .i64 0) []
       simp (disch:=omega) only[ir14p3,qa,qb,eq_self,aBin,reduceIte,hnz,htc,htc2,haN,key]
 · rintro s L ⟨hs,hpre⟩;have hso:s=ordO kind n rows names:=by rw[hs,hm,hR];rfl
   have hsl:s.length=m:=by rw[hs];simp
   have hSn:Sane s:=by
    have key:∀ o∈s,o.1=names∧o.2.length<1000000000:=fun o ho=>by
     rw[hs] at ho;obtain ⟨j,hj,rfl⟩:=List.mem_map.1 ho;refine ⟨rfl,?_⟩;have hjm:=hpre j (List.mem_range.1 hj);obtain ⟨q,hq⟩:=Option.isSome_iff_exists.1 hjm
     have:q.length=N:=by
      rw[hR] at hq;unfold ordR at hq;rw[Int.toNat_natCast,← hN] at hq;exact qku _ _ _ (by simp) hq
     simp only[hq,Option.getD_some,normS,List.length_map];omega
    refine ⟨by omega,fun o ho=>by rw[(key o ho).1];omega,fun o ho s hs=>hst s (by rw[← (key o ho).1];exact hs),fun o ho=>(key o ho).2⟩
   have hall:((List.range m).all fun i=>(R i).isSome)=true:=List.all_eq_true.2 fun i hi=>hpre i (List.mem_range.1 hi)
   have hmv:=qrhb s kind hSn
   have hfd:fin=if mkE s kind=0∧mkT kind s (2^(2^(nam0 s).length))=rows then [osD s,.int .i64 0] else [.sl [],.int .i64 9]:=by
    rw[hfin];unfold ordV ordB;rw[← hso,← hR,← hm,hall];simp only[Bool.true_and,Bool.and_eq_true,decide_eq_true_eq]
   unfold mkV at hmv
   by_cases hE:mkE s kind=0
   · rw[if_pos hE] at hmv
     have hM:MkO s kind:=by
      rcases qze s kind with c|c|c|c|c
      · omega
      · omega
      · omega
      · omega
      · exact c.1
     have hTl:(mkT kind s (2^(2^(nam0 s).length))).length<1000000000:=by
      rw[qon];rcases hM.at_ with e|e<;>rw[e]<;>decide
     have hTr:∀ r∈mkT kind s (2^(2^(nam0 s).length)),r.length<1000000000:=fun r hr=>by
      obtain ⟨k,_,rfl⟩:=List.mem_map.1 hr;rw[qao];rcases hM.at_ with e|e<;>rw[e]<;>decide
     have heq:=qxrb (mkT kind s (2^(2^(nam0 s).length))) rows hTl hTr
     by_cases hT:mkT kind s (2^(2^(nam0 s).length))=rows
     · rw[if_pos ⟨hE,hT⟩] at hfd;rw[decide_eq_true hT] at heq;rw[hfd];simp (disch:=omega) only[ir14p5,ir14p4,qa,qb,eq_self,aBin,reduceIte,Int.lt_irrefl,hmv,Int.reduceBNe,heq]
     · rw[if_neg (fun h=>hT h.2)] at hfd
       rw[decide_eq_false hT] at heq;rw[hfd];simp (disch:=omega) only[ir14p5,ir14p4,qa,qb,eq_self,aBin,reduceIte,Int.lt_irrefl,hmv,Int.reduceBNe,heq]
   · rw[if_neg hE] at hmv;rw[if_neg (fun h=>hE h.1)] at hfd
     have hE':(mkE s kind != 0)=true:=by simp[hE]
     rw[hfd];simp (disch:=omega) only[ir14p5,ir14p4,qa,qb,eq_self,aBin,reduceIte,Int.lt_irrefl,hmv,hE']
end Go.Proofs.YtnfecjmddbehiaaGreat

namespace Go.Proofs.YtnfecjmddbehiaaGreat
open Go Am
set_option maxRecDepth 100000
theorem qgeb (kind a:Int) (rows:List (List Int)) (names:List (List UInt8)) (hl:rows.length<9223372036854775808) (hr:∀ r∈rows,r.length<9223372036854775808) (hnl:names.length<1000000000) (hst:∀ s∈names,s.length<9223372036854775808) :
 run tb 14 [.int .i64 a,tabD rows,.int .i64 kind,strsD names]=some (ordW kind a rows names):=by
 refine qc (x:=ir14) rfl ?_;have hva:=qgh a rows hl hr;have hvo:=qpk names hnl;unfold ordW;cases hv:vldB a rows with
 | false=>
  rw[hv] at hva;simp only[Bool.false_eq_true,if_false] at hva;simp (disch:=omega) only[ir14,qa,qb,eq_self,aBin,reduceIte,hva,Int.reduceBNe]
 | true=>
  rw[hv] at hva;simp only[if_true] at hva;rw[if_neg (by decide)]
  by_cases hk:kind=1∨kind=2
  · rw[if_neg (fun h=>h hk)]
    have hbad:∀ e6,den (run tb) ir14p7 [.int .i64 a,tabD rows,.int .i64 kind,strsD names,.int .i64 0,e6,.bool false] []=some (if ¬ (vocOk names=true∧(names.length:Int)=a) then [.sl [],.int .i64 1] else ordV kind a rows names):=by
     intro e6;cases hv2:vocOk names with
     | false=>
      rw[hv2] at hvo;rw[if_pos (by simp)]
      simp (disch:=omega) only[ir14p7,ir14p6,qa,qb,eq_self,hvo]
     | true=>
      rw[hv2] at hvo
      by_cases hna:(names.length:Int)=a
      · rw[if_neg (by simp[hna])]
        have hV:=qid.1 hv;subst hna;have hn12:names.length=1∨names.length=2:=by rcases hV.at_ with h|h<;>omega
        have:=qsjb hn12 hk rows names hV hv2 rfl hst (.int .i64 0) e6 (.bool false) (.bool false);simp (disch:=omega) only[ir14p7,qa,qb,eq_self,aBin,reduceIte,hvo,qpb,ibne,this]
      · rw[if_pos (by simp[hna])]
        have hne:((names.length:Int) != a)=true:=by simp[hna]
        simp (disch:=omega) only[ir14p7,ir14p6,qa,qb,eq_self,aBin,reduceIte,hvo,qpb,hne]
    rcases hk with rfl|rfl
    · simp (disch:=omega) only[ir14,qa,qb,eq_self,aBin,reduceIte,hva,Int.reduceBNe,hbad]
    · simp (disch:=omega) only[ir14,qa,qb,eq_self,aBin,reduceIte,hva,Int.reduceBNe,hbad]
  · rw[if_pos hk];have h1:(kind != 1)=true:=by simp;omega
    have h2:(kind != 2)=true:=by simp;omega
    simp (disch:=omega) only[ir14,ir14p7,qa,qb,eq_self,aBin,reduceIte,hva,Int.reduceBNe,h1,h2]
end Go.Proofs.YtnfecjmddbehiaaGreat

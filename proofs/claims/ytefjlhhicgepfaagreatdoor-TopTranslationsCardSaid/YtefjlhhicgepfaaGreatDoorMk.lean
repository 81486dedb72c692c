/- Lemmas. -/
import Derived.Test.YtefjlhhicgepfaaGreatDoorMg
import Derived.Test.YtefjlhhicgepfaaGreatDoorAm8
set_option linter.unusedSimpArgs false
set_option linter.unusedVariables false
set_option linter.unusedSectionVars false
open BitVec (allOnes ofNat toNat_ofNat)
open List (drop_length drop_zero getElem_mem mem_range range replicate)
open Nat (lt_irrefl zero_le)
namespace Go.Proofs.YtefjlhhicgepfaaGreatDoor
open Go Am
set_option maxRecDepth 100000
def dg:List (BitVec 64)→Nat→Nat
 | [],_=>0
 | x::l,w=>if x.getLsbD w=true then 0 else dg l w+1
theorem a4k{R:Nat→PF}{e:Env}{J:List PF}(k:IR)(l:List (BitVec 64)):fj R 1 false [0] k e J (some [dq l])=den R k (e++[dq l]) J:=rfl
theorem qeu:∀ (l:List (BitVec 64)) (w:Nat),dg l w≤l.length
 | [],_=>Nat.le_refl _
 | x::l,w=>by have:=qeu l w;simp only[dg,List.length_cons];split<;>omega
theorem qgy{l:List (BitVec 64)}{w i:Nat}(h:i<l.length):dg (l.drop i) w=if l[i].getLsbD w=true then 0 else dg (l.drop (i+1)) w+1:=by rw[qbg h];rfl
theorem qik:∀ (l:List (BitVec 64)) (w:Nat),w<64→dg (l++[allOnes 64]) w=dg l w
 | [],w,h=>by
  have h1:(allOnes 64).getLsbD w=true:=by rw[BitVec.getLsbD_allOnes];simpa using h
  simp only[List.nil_append,dg,h1,if_true]
 | x::l,w,h=>by simp only[List.cons_append,dg,qik l w h]
theorem a3h:∀ (l:List (BitVec 64)) (w:Nat),w<64→dg (l++[allOnes 64]) w<(l++[allOnes 64]).length
 | l,w,h=>by have:=qeu l w;rw[qik l w h];simp;omega
def rc(l:List (BitVec 64))(n:Nat):List Int:=(range n).map fun w=>(dg l w:Int)
theorem qhj(l:List (BitVec 64))(n:Nat):(rc l n).length=n:=by simp[rc]
theorem qut{l:List (BitVec 64)}{n w:Nat}(h:w<n):(rc l n).getD w 0=(dg l w:Int):=by simp[rc,h]
def acb(aa:List (List UInt8))(l:List (BitVec 64)):List D:=if cu aa=true then [af aa,ab (bg (rc l (2^aa.length))),.int .i64 0] else [.sl [],.sl [],.int .i64 1]
theorem a2a(x:BitVec 64)(w:Nat)(h:w<1000000000):run tb 73 [bvD x,.int .i64 w]=some [.bool (x.getLsbD w)]:=by
 refine qh (x:=ir73) rfl ?_;have hc:PO.eval (.conv .u64) [.int .i64 (w:Int)]=some [.int .u64 (w:Int)]:=ay9 _ (by omega)
 have hs:=qsa false .u64 x w;have hb:=qtv x w;simp (disch:=omega) only[ir73,qe,qf,eq_self,bvQ,hc,hs,hb]
theorem auw(l:List (BitVec 64))(w:Nat)(hl:l.length<1000000000)(hw:w<1000000000):run tb 42 [dq l,.int .i64 w]=some [.int .i64 (if dg l w<l.length then (dg l w:Int) else -1)]:=by
 refine qh (x:=ir42) rfl ?_
 have key:=qu (run:=run tb) (body:=ir42p0) (e:=[dq l,.int .i64 w,.int .i64 l.length]) (J:=[]) (σ:=Unit) l.length
  (fun _ _=>True) (fun i _=>[.int .i64 i]) (fun i _=>[.int .i64 (if dg (l.drop i) w<l.length-i then ((i+dg (l.drop i) w:Nat):Int) else -1)])
  (by
   rintro i _ L hi _ hL;have ah:=hL () trivial;have hf:=a2a l[i] w hw;rw[qgy hi];cases hb:l[i].getLsbD w with
   | true=>
    rw[hb] at hf;have h1:0<l.length-i:=by omega
    simp (disch:=omega) only[ir42p0,qe,qf,eq_self,ac,hi,ac5,hf,if_true,h1,Nat.add_zero]
   | false=>
    rw[hb] at hf
    have e:(if dg (l.drop (i+1)) w+1<l.length-i then ((i+(dg (l.drop (i+1)) w+1):Nat):Int) else -1)=(if dg (l.drop (i+1)) w<l.length-(i+1) then ((i+1+dg (l.drop (i+1)) w:Nat):Int) else -1):=by
     by_cases hc:dg (l.drop (i+1)) w<l.length-(i+1)
     · rw[if_pos hc,if_pos (by omega)];congr 1;omega
     · rw[if_neg hc,if_neg (by omega)]
    simp only[Bool.false_eq_true,if_false];rw[e];simp (disch:=omega) only[ir42p0,qe,qf,eq_self,ac,reduceIte,hi,ac5,hf,wr,bz,ah])
  (by
   rintro _ L _;have h1:¬ (dg (l.drop l.length) w<l.length-l.length):=by omega
   simp (disch:=omega) only[ir42p0,qe,qf,eq_self,ac,reduceIte,lt_irrefl,h1,if_false])
 have hk:=key 0 () (by omega) trivial
 simp only[rt,drop_zero,Nat.sub_zero,Nat.zero_add] at hk;simp only[ir42,qe,qf,eq_self,afj,hk]
theorem ax3(aa:List (List UInt8))(l:List (BitVec 64))(hn:aa.length<1000000000)(hl:l.length<100000000):run tb 13 [af aa,dq l]=some (acb aa l):=by
 refine qh (x:=ir13) rfl ?_;have hv:=qbd aa hn;unfold acb;cases hok:cu aa with
 | false=>
  rw[hok] at hv;simp (disch:=omega) only[ir13,qe,qf,eq_self,hv,if_false]
 | true=>
  rw[hok] at hv;have h6:=qnb hok;have hp:=lq h6;have i6:=qme aa (rc l (2^aa.length)) hn (by rw[qhj];omega)
  have dc:ej aa (rc l (2^aa.length))=true:=by simp[ej,hok,qhj]
  rw[dc,if_pos rfl] at i6;have jg:PO.eval (.mkL 8 [.int .i64 0]) [.int .i64 ((2^aa.length:Nat):Int)]=some [ab (replicate (2^aa.length) 0)]:=mkN (by omega)
  have an:=qhj l (2^aa.length);generalize hF:rc l (2^aa.length)=Fr at i6 an;have hz:replicate (2^aa.length) 0=fc Fr 0:=by rw[← an];exact qpt Fr
  rw[hz] at jg;have su:run tb 41 [dq l]=some [dq l]:=qif rfl (qwx l (by omega))
  have s6:PO.eval (.app 1 8) [dq l,.sl [[bvD (allOnes 64)]]]=some [dq (l++[allOnes 64])]:=awo (by omega)
  have hm1:PO.eval (.mk 1 1) [bvD (allOnes 64)]=some [.sl [[bvD (allOnes 64)]]]:=rfl;have rh:∀ i,(fc Fr i).length=Fr.length:=fun i=>by simp[fc]
  have key:=qu (run:=run tb) (body:=ir13p0) (e:=[af aa,dq l,.bool true,.bool false,.int .i64 aa.length,.int .i64 ((2^aa.length:Nat):Int),ab (fc Fr 0),.int .i64 ((2^aa.length:Nat):Int)]) (J:=[]) (σ:=Unit) (2^aa.length)
   (fun _ _=>True) (fun i _=>[.int .i64 i,ab (fc Fr i)]) (fun _ _=>[af aa,ab (bg Fr),.int .i64 0])
   (by
    rintro i _ L hi _ hL;have ah:=hL () trivial;have bn:((i:Int)<((2^aa.length:Nat):Int)):=by omega
    have vm:=auw (l++[allOnes 64]) i (by simp;omega) (by omega)
    have cf:=a3h l i (by omega)
    rw[if_pos cf,qik l i (by omega)] at vm
    have hg:Fr.getD i 0=(dg l i:Int):=by rw[← hF];exact qut hi
    have xf:PO.eval (.set 0 1) [ab (fc Fr i),.int .i64 i,.int .i64 (dg l i:Int)]=some [ab (fc Fr (i+1))]:=by
     rw[← hg,qio (by rw[rh];omega),qzt (by omega)]
    have ac7:=qgl (l:=fc Fr i) (i:=i) (by rw[rh];omega)
    simp (disch:=omega) only[ir13p0,qe,qf,eq_self,ac,reduceIte,bvQ,bn,a4k,su,hm1,s6,qbr,vm,ac7,xf,wr,bz,ah])
   (by
    rintro _ L _;have he:fc Fr (2^aa.length)=Fr:=by rw[← an];exact qsz Fr
    rw[he];simp (disch:=omega) only[ir13p0,qe,qf,eq_self,ac,reduceIte,Int.lt_irrefl,i6])
  have hk:=key 0 () (by omega) trivial
  have lx:PO.eval .lenL [ab (fc Fr 0)]=some [.int .i64 ((2^aa.length:Nat):Int)]:=by rw[qob,rh,an]
  simp only[rt] at hk;simp (disch:=omega) only[ir13,qe,qf,eq_self,ac,reduceIte,bvQ,qcd,hv,qac,qcd,jg,lx,hk]
theorem az6(kind:Int):∃ q:List (List D),q.length=(iy kind).1∧run tb 74 [.int .i64 kind]=some [.sl q]:=by
 have h1:∃ q:List (List D),q.length=5∧run tb 95 []=some [.sl q]:=⟨_,rfl,qh (x:=ir95) rfl rfl⟩;have h2:∃ q:List (List D),q.length=6∧run tb 96 []=some [.sl q]:=⟨_,rfl,qh (x:=ir96) rfl rfl⟩;have h3:∃ q:List (List D),q.length=7∧run tb 97 []=some [.sl q]:=⟨_,rfl,qh (x:=ir97) rfl rfl⟩;obtain ⟨q1,l1,h1⟩:=h1;obtain ⟨q2,l2,h2⟩:=h2;obtain ⟨q3,l3,h3⟩:=h3
 by_cases c1:kind=1
 · subst c1;refine ⟨q1,l1,qh (x:=ir74) rfl ?_⟩;simp only[ir74,qe,qf,eq_self,ac,reduceIte,h1]
 · by_cases c2:kind=2
   · subst c2;refine ⟨q2,l2,qh (x:=ir74) rfl ?_⟩;simp only[ir74,qe,qf,eq_self,ac,reduceIte,c1,h2]
   · by_cases c3:kind=3
     · subst c3;refine ⟨q3,l3,qh (x:=ir74) rfl ?_⟩;simp only[ir74,qe,qf,eq_self,ac,reduceIte,c1,c2,h3]
     · refine ⟨[],by simp[iy,c1,c2,c3],qh (x:=ir74) rfl ?_⟩
       simp only[ir74,qe,qf,eq_self,ac,reduceIte,c1,c2,c3]
theorem af7(n:Nat)(h:n<63):PO.eval (.bin .shl false) [.int .i64 1,.int .i64 (n:Int)]=some [.int .i64 ((2^n:Nat):Int)]:=qiq false .i64 h
theorem adz(i:Nat):PO.eval (.conv .u64) [.int .i64 (i:Int)]=some [bvD (ofNat 64 i)]:=by rw[auv,BitVec.ofInt_natCast]
theorem ahd{i:Nat}(h:i<18446744073709551616):PO.eval (.bin .shl false) [.int .u64 1,bvD (ofNat 64 i)]=some [bvD (1#64 <<< i)]:=by
 have:=qxv false 1#64 (ofNat 64 i);rw[toNat_ofNat,Nat.mod_eq_of_lt (by omega)] at this
 exact this
theorem apy(x:BitVec 64):PO.eval (.bin .neq false) [bvD x,.int .u64 0]=some [.bool (!decide (x=0#64))]:=aec false x 0#64
theorem qgw(l:List OO)(kind:Int)(hs:ac8 l)(a2 a3 a4 a5 a6 a7 a8 a9 a10 a11 a12 a13 a14 a15:D)(L0:PF) :
 eo (run tb) ir44p3 [osD l,.int .i64 kind,a2,a3,a4,a5,a6,a7,a8,a9,a10,a11,a12,a13,a14,a15,.int .i64 l.length] [L0] [.int .i64 0]=some [.int .i64 (if nf (sb kind) 0 l=true then 7 else 0)]:=by
 have hn:=hs.n;refine qu (σ:=Unit) l.length (fun _ _=>True) (fun i _=>[.int .i64 i]) (fun i _=>[.int .i64 (if nf (sb kind) i (l.drop i)=true then 7 else 0)]) ?_ ?_ 0 () (zero_le _) trivial
 · rintro i _ M hi _ hM;have ah:=hM () trivial;have hm:=getElem_mem hi;have ak:=qex hi;have ug:=qsk l[i].1 l[i].2 (hs.nm _ hm) (hs.rk _ hm);have hc:=adz i;have yz:=ahd (i:=i) (by omega)
   have hz:=apy (bse kind i);have hq:=aec false (dh l[i].1 l[i].2) (bse kind i);rw[atr _ hi];have hb:sb kind i l[i]=(!decide (bse kind i=0#64) && !decide (dh l[i].1 l[i].2=bse kind i)):=rfl;rw[hb]
   by_cases k3:kind=3
   · have hbs:bse kind i=1#64 <<< i:=by unfold bse;rw[if_pos k3]
     rw[hbs] at hz hq ⊢;cases si:decide (1#64 <<< i=0#64) with
     | true=>
      rw[si] at hz;simp (disch:=omega) only[ir44p3,ir44p2,ir44p1,qe,qf,eq_self,ac,reduceIte,hi,ak,hc,k3,yz,hz,wr,bz,ah]
     | false=>
      rw[si] at hz;cases tp:decide (dh l[i].1 l[i].2=1#64 <<< i) with
      | true=>
       rw[tp] at hq;simp (disch:=omega) only[ir44p3,ir44p2,ir44p1,qe,qf,eq_self,ac,reduceIte,hi,ak,hc,k3,yz,hz,ug,hq,wr,bz,ah]
      | false=>
       rw[tp] at hq;simp (disch:=omega) only[ir44p3,ir44p2,ir44p1,qe,qf,eq_self,ac,hi,ak,hc,k3,yz,hz,ug,hq,if_true]
   · have hbs:bse kind i=ofNat 64 i:=by unfold bse;rw[if_neg k3]
     rw[hbs] at hz hq ⊢;cases si:decide (ofNat 64 i=0#64) with
     | true=>
      rw[si] at hz;simp (disch:=omega) only[ir44p3,ir44p2,ir44p1,qe,qf,eq_self,ac,reduceIte,hi,ak,hc,k3,hz,wr,bz,ah]
     | false=>
      rw[si] at hz;cases tp:decide (dh l[i].1 l[i].2=ofNat 64 i) with
      | true=>
       rw[tp] at hq;simp (disch:=omega) only[ir44p3,ir44p2,ir44p1,qe,qf,eq_self,ac,reduceIte,hi,ak,hc,k3,hz,ug,hq,wr,bz,ah]
      | false=>
       rw[tp] at hq;simp (disch:=omega) only[ir44p3,ir44p2,ir44p1,qe,qf,eq_self,ac,hi,ak,hc,k3,hz,ug,hq,if_true]
 · rintro _ M _;rw[drop_length];have e:(if nf (sb kind) l.length []=true then (7:Int) else 0)=0:=rfl
   simp (disch:=omega) only[ir44p3,qe,qf,eq_self,ac,reduceIte,lt_irrefl,e]
theorem qvw(l:List OO)(kind:Int)(hs:ac8 l):run tb 44 [osD l,.int .i64 kind]=some [.int .i64 (mkE l kind)]:=by
 refine qh (x:=ir44) rfl ?_;obtain ⟨q,hq,hls⟩:=az6 kind;have hlq:PO.eval .lenL [.sl q]=some [.int .i64 ((iy kind).1:Int)]:=by rw[qkd,hq]
 have hn:=hs.n;have hlO:=agl l
 by_cases k0:(iy kind).1=0
 · have:mkE l kind=4:=by unfold mkE;rw[if_pos k0]
   rw[this];have k0':((iy kind).1:Int)=0:=by omega
   simp only[ir44,qe,qf,eq_self,ac,reduceIte,hls,hlq,k0']
 have k0':¬ ((iy kind).1:Int)=0:=by omega
 by_cases l0:l.length=0
 · have:mkE l kind=1:=by unfold mkE;rw[if_neg k0,if_pos l0]
   rw[this];have l0':(l.length:Int)=0:=by omega
   simp only[ir44,qe,qf,eq_self,ac,reduceIte,hls,hlq,k0',hlO,l0']
 have l0':¬ (l.length:Int)=0:=by omega
 have hp:0<l.length:=by omega
 have e0:l[0].1=cg l:=by simp[cg,hp]
 have fp:=anz hp;rw[e0] at fp;have hE:mkE l kind=if l.any (mr (cg l))=true then 1 else if l.length≠jv kind (cg l).length then 1 else if nf (sb kind) 0 l=true then 7 else 0:=by unfold mkE;rw[if_neg k0,if_neg l0]
 rw[hE];obtain ⟨T,hT⟩:∃ T:Int,T=if l.length≠jv kind (cg l).length then 1 else if nf (sb kind) 0 l=true then 7 else 0:=⟨_,rfl⟩
 rw[← hT];simp only[ir44,qe,qf,eq_self,ac,reduceIte,hls,hlq,k0',hlO,l0'];have key:∀ i,i≤l.length→(∀ j,j<i→mr (cg l) (l.getD j ([],[]))=false)→True:=fun _ _ _=>trivial
 refine qu (σ:=Unit) l.length (fun i _=>∀ o∈l.take i,mr (cg l) o=false) (fun i _=>[.int .i64 i]) (fun i _=>[.int .i64 (if (l.drop i).any (mr (cg l))=true then 1 else T)]) ?_ ?_ 0 () (zero_le _) (fun o ho=>by simp at ho)
 · rintro i _ M hi uy hM;have hm:=getElem_mem hi;have ak:=qex hi;have hv:=qlc l[i].1 l[i].2 (hs.nm _ hm) (hs.rk _ hm);have heq:=qpo l[i].1 (cg l) (hs.nm _ hm);have hlN:=qac l[i].1;rw[ayq _ hi];have hb:mr (cg l) l[i]=(!decide (bi l[i].1 l[i].2=0) || (decide (l[i].1.length<1) || (decide (l[i].1.length>2) || !decide (l[i].1=cg l)))):=rfl
   have ah:mr (cg l) l[i]=false→M [.int .i64 ((i+1:Nat):Int)]=some [.int .i64 (if (l.drop (i+1)).any (mr (cg l))=true then 1 else T)]:=fun ac0=>hM () (fun o ho=>by
    rw[List.take_add_one,List.getElem?_eq_getElem hi] at ho;rcases List.mem_append.1 ho with h|h
    · exact uy o h
    · simp at h;subst h;exact ac0)
   generalize hB:mr (cg l) l[i]=B at hb ah
   by_cases c1:bi l[i].1 l[i].2=0
   · by_cases c2:l[i].1.length<1
     · have c2':(l[i].1.length:Int)<1:=by omega
       have hBt:B=true:=by rw[hb,decide_eq_true c2];simp
       subst hBt;simp (disch:=omega) only[ir44p5,ir44p0,qe,qf,eq_self,ac,hi,ak,hv,bw,c1,hlN,c2',if_true]
     · have c2':¬ (l[i].1.length:Int)<1:=by omega
       by_cases c3:l[i].1.length>2
       · have c3':(l[i].1.length:Int)>2:=by omega
         have hBt:B=true:=by rw[hb,decide_eq_true c3];simp
         subst hBt;simp (disch:=omega) only[ir44p5,ir44p0,qe,qf,eq_self,ac,hi,ak,hv,bw,c1,hlN,c2',c3',if_true]
       · have c3':¬ (l[i].1.length:Int)>2:=by omega
         cases hc:decide (l[i].1=cg l) with
         | false=>
          rw[hc] at heq;have hBt:B=true:=by rw[hb,hc];simp
          subst hBt;simp (disch:=omega) only[ir44p5,ir44p0,qe,qf,eq_self,ac,hi,ak,hv,bw,c1,hlN,c2',c3',fp,heq,if_true]
         | true=>
          rw[hc] at heq;have hBt:B=false:=by rw[hb,hc,decide_eq_true c1,decide_eq_false c2,decide_eq_false c3];rfl
          subst hBt;have oq:=ah rfl;simp (disch:=omega) only[ir44p5,ir44p0,qe,qf,eq_self,ac,reduceIte,hi,ak,hv,bw,c1,hlN,c2',c3',fp,heq,wr,bz,oq]
   · have hBt:B=true:=by rw[hb,decide_eq_false c1];rfl
     subst hBt;simp (disch:=omega) only[ir44p5,ir44p0,qe,qf,eq_self,ac,hi,ak,hv,bw,c1,if_true]
 · rintro _ M uy;rw[List.take_length] at uy;rw[drop_length];have z7:l.any (mr (cg l))=false:=List.any_eq_false.2 fun o ho=>by rw[uy o ho];decide
   obtain ⟨ha,hok,xv⟩:=ai6 z7 hp;have um:l[0].2.length=2^(cg l).length:=by rw[(qz (hok _ (getElem_mem hp))).2.1,xv _ (getElem_mem hp)]
   have hlr:PO.eval .lenL [ab l[0].2]=some [.int .i64 ((2^(cg l).length:Nat):Int)]:=by rw[qob,um]
   have yz:=af7 (2^(cg l).length) (by rcases ha with e|e<;>rw[e]<;>decide)
   have e1:(if ([]:List OO).any (mr (cg l))=true then (1:Int) else T)=T:=rfl
   rw[e1];have rest:∀ (e:Env) (J:List PF),True:=fun _ _=>trivial
   have hw:jv kind (cg l).length=if kind=3 then 2^(cg l).length else 2^(2^(cg l).length):=rfl
   have fin:∀ b:Bool,b=nf (sb kind) 0 l→(if b=true then (7:Int) else 0)=if b=true then 7 else 0:=fun _ _=>rfl
   have om:=qgw l kind hs
   by_cases k3:kind=3
   · rw[if_pos k3] at hw
     by_cases an:l.length=2^(cg l).length
     · have lp:(l.length:Int)=((2^(cg l).length:Nat):Int):=by rw[an]
       have hTe:T=if nf (sb kind) 0 l=true then 7 else 0:=by rw[hT,hw,if_neg (by rw[an];simp)]
       rw[hTe];simp (disch:=omega) only[ir44p5,ir44p4,qe,qf,eq_self,ac,reduceIte,lt_irrefl,fp,hlr,bw,k3,hlO,← lp];rw[k3] at om;exact om _ _ _ _ _ _ _ _ _ _ _ _ _ _ _
     · have lp:¬ (l.length:Int)=((2^(cg l).length:Nat):Int):=by omega
       have hTe:T=1:=by rw[hT,hw,if_pos an]
       rw[hTe];simp (disch:=omega) only[ir44p5,ir44p4,qe,qf,eq_self,ac,reduceIte,lt_irrefl,fp,hlr,bw,k3,hlO,lp]
   · rw[if_neg k3] at hw
     by_cases an:l.length=2^(2^(cg l).length)
     · have lp:(l.length:Int)=((2^(2^(cg l).length):Nat):Int):=by rw[an]
       have hTe:T=if nf (sb kind) 0 l=true then 7 else 0:=by rw[hT,hw,if_neg (by rw[an];simp)]
       rw[hTe];simp (disch:=omega) only[ir44p5,ir44p4,qe,qf,eq_self,ac,reduceIte,lt_irrefl,fp,hlr,bw,k3,yz,hlO,← lp];exact om _ _ _ _ _ _ _ _ _ _ _ _ _ _ _
     · have lp:¬ (l.length:Int)=((2^(2^(cg l).length):Nat):Int):=by omega
       have hTe:T=1:=by rw[hT,hw,if_pos an]
       rw[hTe];simp (disch:=omega) only[ir44p5,ir44p4,qe,qf,eq_self,ac,reduceIte,lt_irrefl,fp,hlr,bw,k3,yz,hlO,lp]
def mkV(l:List OO)(kind:Int):List D:=if mkE l kind=0 then [.int .i64 ((cg l).length:Int),jo (mkT kind l (2^(2^(cg l).length))),.int .i64 0] else [.int .i64 0,.sl [],.int .i64 (mkE l kind)]
theorem av5(o:OO)(f:Nat)(h1:o.1.length<1000000000)(h2:o.2.length<1000000000)(h3:(bq o.1 o.2 (ofNat 64 f)).toNat<16):run tb 45 [af o.1,ab o.2,.int .i64 (f:Int)]=some [ivD (bq o.1 o.2 (ofNat 64 f))]:=by
 refine qh (x:=ir45) rfl ?_;have hl:=qnh o.1 o.2 h1 h2 (ofNat 64 f);have hc:=adz f;have hi:=aix (x:=bq o.1 o.2 (ofNat 64 f)) (by omega)
 simp only[ir45,qe,qf,hc,hl,hi];rfl
theorem ajw{l:List Int}{i:Nat}(h:i<l.length)(x:BitVec 64):PO.eval (.set 0 1) [ab l,.int .i64 i,ivD x]=some [ab (l.set i (x.toNat:Int))]:=qio h _
theorem aww{l:List Int}{i:Nat}{x:BitVec 64}(h:i<l.length)(hx:l[i]=(x.toNat:Int)):PO.eval (.get 0 1) [ab l,.int .i64 i]=some [ivD x]:=by rw[adw h,hx];rfl
theorem qbt(l:List OO)(kind:Int)(hs:ac8 l):run tb 15 [osD l,.int .i64 kind]=some (mkV l kind):=by
 refine qh (x:=ir15) rfl ?_;have ho:=qvw l kind hs;unfold mkV
 by_cases he:mkE l kind=0
 · rw[if_pos he];rw[he] at ho
   have hM:MkO l kind:=by
    rcases qim l kind with h|h|h|h|h
    · omega
    · omega
    · omega
    · omega
    · exact h.1
   obtain ⟨n,hn⟩:∃ n,n=(cg l).length:=⟨_,rfl⟩;have hat:=hM.at_;have xx:=fun {o:OO} (ho:o∈l)=>hM.rkl ho
   rw[← hn] at hat xx ⊢;have hp:=hM.pos;have an:=hM.len;rw[← hn] at an;have fp:=anz hp;have e0:l[0].1=cg l:=hM.nm _ (getElem_mem hp);have ud:PO.eval .lenL [af l[0].1]=some [.int .i64 (n:Int)]:=by rw[qac,e0,hn]
   have xt:PO.eval .lenL [ab l[0].2]=some [.int .i64 ((2^n:Nat):Int)]:=by rw[qob,xx (getElem_mem hp)]
   have yz:=af7 (2^n) (by rcases hat with e|e<;>rw[e]<;>decide)
   have hlO:=agl l
   have zv:∀ {i:Nat} (hi:i<l.length) (f:Nat),run tb 45 [af l[i].1,ab l[i].2,.int .i64 (f:Int)]=some [ivD (bq l[i].1 l[i].2 (ofNat 64 f))]:=fun {i} hi f=>
    av5 l[i] f (hs.nm _ (getElem_mem hi)) (hs.rk _ (getElem_mem hi)) (hM.lt (getElem_mem hi) _)
   have hN16:2^(2^n)≤16:=by rcases hat with e|e<;>rw[e]<;>decide
   have sw:(kind=1∨kind=2)→l.length=2^(2^n):=fun h=>by rw[an];unfold jv;rw[if_neg (by omega)]
   have afn:kind=3→l.length=2^n:=fun h=>by rw[an];unfold jv;rw[if_pos h]
   have a0q:=fun k f {m:Nat} (hm:m≤l.length)=>hM.uni k f hm
   have hkd:=hM.kd;have cf:∀ {i:Nat} (hi:i<l.length) (S:BitVec 64),(bq l[i].1 l[i].2 S).toNat<16:=fun {i} hi S=>hM.lt (getElem_mem hi) S
   clear an hM;generalize hN:2^(2^n)=N at *;have acp:=mkN (n:=N) (by omega)
   simp (disch:=omega) only[ir15,qe,qf,eq_self,ac,reduceIte,ho,bw,fp,ud,xt,yz];clear ho fp ud xt yz;rw[az0];refine qu (σ:=Unit) N (fun _ _=>True) (fun k _=>[.int .i64 k,jo ((mkT kind l N).take k)]) (fun _ _=>[.int .i64 (n:Int),jo (mkT kind l N),.int .i64 0]) ?_ ?_ 0 () (zero_le _) trivial
   · rintro k _ M hk _ hM;have ah:=hM () trivial;rw[azz kind l hk] at ah;obtain ⟨R,hR⟩:∃ R,R=zy kind l N k:=⟨_,rfl⟩;have hRl:R.length=N:=by rw[hR,aok]
     have hRg:∀ f,f<N→R.getD f 0=((ni kind l N k f).toNat:Int):=fun f hf=>by rw[hR];exact ax4 hf
     rw[← hR] at ah;have hz:=a1h R;rw[hRl] at hz;rw[hz] at acp;have hlf:∀ i,PO.eval .lenL [ab (fil R i)]=some [.int .i64 (N:Int)]:=fun i=>by rw[qob,qgr,hRl]
     have s6:=azs (rows:=(mkT kind l N).take k) (r:=R) (by rw[List.length_take];omega)
     simp (disch:=omega) only[ir15p4,qe,qf,eq_self,ac,reduceIte,hk,acp,hlf];refine qu (σ:=Unit) N (fun _ _=>True) (fun f _=>[.int .i64 f,ab (fil R f)]) (fun _ _=>[.int .i64 (n:Int),jo (mkT kind l N),.int .i64 0]) ?_ ?_ 0 () (zero_le _) trivial
     · rintro f _ M2 hf _ hM2;have dw:=hM2 () trivial;rw[← ark (by omega),hRg f hf] at dw
       have hck:=qgl (l:=fil R f) (i:=f) (by rw[qgr];omega)
       have xf:=fun x=>ajw (l:=fil R f) (i:=f) (by rw[qgr];omega) x
       rcases hkd with k1|k2|k3
       · have hkl:k<l.length:=by rw[sw (.inl k1)];exact hk
         have ak:=qex hkl;have j7:=zv hkl f;have hE:ni kind l N k f=bq l[k].1 l[k].2 (ofNat 64 f):=by unfold ni;rw[if_pos k1];simp[hkl]
         rw[hE] at dw;simp (disch:=omega) only[ir15p3,ir15p0,qe,qf,eq_self,ac,reduceIte,hf,k1,ak,j7,hck,xf,wr,bz,dw]
       · have hkl:k<l.length:=by rw[sw (.inr k2)];exact hk
         have ak:=qex hkl;have j7:=zv hkl (N-1-f);have hE:ni kind l N k f=ofNat 64 k|||bq l[k].1 l[k].2 (ofNat 64 (N-1-f)):=by unfold ni;rw[if_neg (by omega),if_pos k2];simp[hkl]
         rw[hE] at dw;have n1:¬ (2:Int)=1:=by decide
         have s1:IntKind.i64.wrap ((N:Int)-1)=((N-1:Nat):Int):=by rw[wr (by omega) (by omega)];omega
         have s2:IntKind.i64.wrap (((N-1:Nat):Int)-(f:Int))=((N-1-f:Nat):Int):=by rw[wr (by omega) (by omega)];omega
         have hor:PO.eval (.bin .or false) [.int .i64 (k:Int),ivD (bq l[k].1 l[k].2 (ofNat 64 (N-1-f)))]=some [ivD (ofNat 64 k|||bq l[k].1 l[k].2 (ofNat 64 (N-1-f)))]:=by
          rw[afd (n:=k) (by omega)]
          refine ag7 false ?_ ?_
          · unfold Sml;rw[toNat_ofNat];omega
          · unfold Sml;have:=cf hkl (ofNat 64 (N-1-f));omega
         simp (disch:=omega) only[ir15p3,ir15p0,qe,qf,eq_self,ac,reduceIte,hf,k2,n1,ak,s1,s2,j7,hor,hck,xf,wr,bz,dw]
       · subst k3;have hl3:=afn rfl;have hl4:l.length≤4:=by rw[hl3];rcases hat with e|e<;>rw[e]<;>decide
         have n1:¬ (3:Int)=1:=by decide
         have n2:¬ (3:Int)=2:=by decide
         have hE:ni 3 l N k f=kw l (ofNat 64 k) (ofNat 64 f) l.length:=by unfold ni;rw[if_neg (by omega),if_neg (by omega)]
         rw[hE] at dw;obtain ⟨kD,hkD⟩:∃ d,d=D.int .i64 (k:Int):=⟨_,rfl⟩;rw[← hkD];have hsm:Sml (ofNat 64 k):=by unfold Sml;rw[toNat_ofNat];omega
         have yz:∀ w:Nat,PO.eval (.bin .shr false) [kD,.int .i64 (w:Int)]=some [ivD (ofNat 64 k >>> w)]:=fun w=>by rw[hkD,afd (n:=k) (by omega)];exact ahm false .i64 _ w
         have hbt:∀ w:Nat,PO.eval (.bin .and false) [ivD (ofNat 64 k >>> w),.int .i64 1]=some [ivD (ofNat 64 k >>> w&&&1#64)]:=ahi hsm;have hon:∀ w:Nat,PO.eval (.bin .eql false) [ivD (ofNat 64 k >>> w&&&1#64),.int .i64 1]=some [.bool ((ofNat 64 k).getLsbD w)]:=aj7 _;simp (disch:=omega) only[ir15p3,qe,qf,eq_self,ac,reduceIte,hf,n1,n2,hlO];have h0:(fil R f).set f (((kw l (ofNat 64 k) (ofNat 64 f) 0).toNat:Nat):Int)=fil R f:=a5t (by omega)
         rw[← h0];refine qu (σ:=Unit) l.length (fun _ _=>True) (fun w _=>[.int .i64 w,ab ((fil R f).set f (((kw l (ofNat 64 k) (ofNat 64 f) w).toNat:Nat):Int))]) (fun _ _=>[.int .i64 (n:Int),jo (mkT 3 l N),.int .i64 0]) ?_ ?_ 0 () (zero_le _) trivial
         · rintro w _ M3 hw _ hM3;have pc:=hM3 () trivial;have ak:=qex hw;have j7:=zv hw f;have m9:∀ x:Int,((fil R f).set f x).length=N:=fun x=>by rw[List.length_set,qgr,hRl]
           have a42:=fun x:Int=>qgl (l:=(fil R f).set f x) (i:=f) (by rw[m9];exact hf)
           have mz:=fun x:BitVec 64=>aww (l:=(fil R f).set f (x.toNat:Int)) (i:=f) (x:=x) (by rw[m9];exact hf) (by rw[List.getElem_set_self])
           have aj6:=fun (x:Int) (y:BitVec 64)=>ajw (l:=(fil R f).set f x) (i:=f) (by rw[m9];exact hf) y
           have hu:=a0q (ofNat 64 k) (ofNat 64 f) (m:=w) (by omega)
           have hl2:=cf hw (ofNat 64 f);have hor:PO.eval (.bin .or false) [ivD (kw l (ofNat 64 k) (ofNat 64 f) w),ivD (bq l[w].1 l[w].2 (ofNat 64 f))]=some [ivD (kw l (ofNat 64 k) (ofNat 64 f) w|||bq l[w].1 l[w].2 (ofNat 64 f))]:=ag7 false (by unfold Sml;omega) (by unfold Sml;omega)
           have hun:kw l (ofNat 64 k) (ofNat 64 f) (w+1)=if (ofNat 64 k).getLsbD w=true then kw l (ofNat 64 k) (ofNat 64 f) w|||bq l[w].1 l[w].2 (ofNat 64 f) else kw l (ofNat 64 k) (ofNat 64 f) w:=by
            have e:l.getD w ([],[])=l[w]:=by simp[hw]
            rw[kw,e]
           rw[hun] at pc;have adt:=hon w;have al1:=yz w;have ajl:=hbt w;generalize kw l (ofNat 64 k) (ofNat 64 f) w=U at *;generalize bq l[w].1 l[w].2 (ofNat 64 f)=Lw at *;cases hb:(ofNat 64 k).getLsbD w with
           | true=>
            rw[hb] at adt pc;rw[if_pos rfl] at pc;simp (disch:=omega) only[ir15p2,ir15p1,qe,qf,eq_self,ac,reduceIte,hw,ak,al1,ajl,adt,a42,mz,j7,hor,aj6,List.set_set,wr,bz,pc]
           | false=>
            rw[hb] at adt pc;rw[if_neg (by decide)] at pc
            simp (disch:=omega) only[ir15p2,ir15p1,qe,qf,eq_self,ac,reduceIte,hw,ak,al1,ajl,adt,wr,bz,pc]
         · rintro _ M3 _;simp (disch:=omega) only[ir15p2,ir15p0,qe,qf,eq_self,ac,reduceIte,lt_irrefl,wr,bz,dw]
     · rintro _ M2 _;rw[hRl.symm,aq0,hRl];simp (disch:=omega) only[ir15p3,qe,qf,eq_self,ac,reduceIte,lt_irrefl,s6,wr,bz,ah]
   · rintro _ M _;have he:(mkT kind l N).take N=mkT kind l N:=by rw[List.take_of_length_le (by rw[am9];exact Nat.le_refl _)]
     simp (disch:=omega) only[ir15p4,qe,qf,eq_self,ac,reduceIte,lt_irrefl,he]
 · rw[if_neg he];simp (disch:=omega) only[ir15,qe,qf,eq_self,ac,reduceIte,ho,bw,he]
theorem ayj(x S:Int):run tb 110 [.int .i64 x,.int .i64 S]=some [.bool (ua S x),.int .i64 S]:=by
 refine qh (x:=ir110) rfl ?_;unfold ua
 by_cases h:x<0
 · simp only[ir110,qe,qf,eq_self,ac,reduceIte,h]
 · simp only[ir110,qe,qf,eq_self,ac,reduceIte,h]
theorem a0g(l:List Int)(S:Int)(hl:l.length<9223372036854775808):run tb 108 [ab l,.int .i64 S]=some [.int .i64 (uo (ua S) 0 l),.int .i64 S]:=by
 refine qh (x:=ir108) rfl ?_
 have key:=qu (run:=run tb) (body:=ir108p0) (e:=[ab l,.int .i64 S,.int .i64 l.length]) (J:=[]) (σ:=Unit) l.length
  (fun _ _=>True) (fun i _=>[.int .i64 i,.int .i64 S]) (fun i _=>[.int .i64 (uo (ua S) i (l.drop i)),.int .i64 S])
  (by
   rintro i _ L hi _ hL;have ah:=hL () trivial;have hf:=ayj l[i] S;rw[qfu _ hi];cases hb:ua S l[i] with
   | true=>
    rw[hb] at hf;simp (disch:=omega) only[ir108p0,qe,qf,eq_self,ac,hi,qjd,hf,if_true]
   | false=>
    rw[hb] at hf;simp only[Bool.false_eq_true,if_false];simp (disch:=omega) only[ir108p0,qe,qf,eq_self,ac,reduceIte,hi,qjd,hf,wr,bz,ah])
  (by
   rintro _ L _;have e:uo (ua S) l.length (l.drop l.length) = -1:=by rw[drop_length];rfl
   simp (disch:=omega) only[ir108p0,qe,qf,eq_self,ac,reduceIte,lt_irrefl,e])
 have hk:=key 0 () (by omega) trivial
 simp only[rt,drop_zero] at hk;simp only[ir108,qe,qf,eq_self,qob,hk]
theorem arc(l:List Int)(S:Int)(hl:l.length<9223372036854775808):run tb 106 [ab l,.int .i64 S]=some [.bool (l.any (ua S)),.int .i64 S]:=by
 refine qh (x:=ir106) rfl ?_;have h1:=a0g l S hl;have h2:=qsw (ua S) l 0;simp only[ir106,qe,qf,eq_self,ac,reduceIte,h1];rw[← h2]
theorem a50(l:List Int)(S:Int)(hl:l.length<9223372036854775808):run tb 104 [ab l,.int .i64 S]=some [.bool (rf S l),.int .i64 S]:=by
 refine qh (x:=ir104) rfl ?_;have h1:=arc l S hl;unfold rf
 by_cases h:(l.length:Int)=S
 · simp only[ir104,qe,qf,eq_self,ac,reduceIte,qob,bw,h,h1,ne_eq,not_true_eq_false]
 · simp only[ir104,qe,qf,eq_self,ac,reduceIte,qob,bw,h,ne_eq,not_false_eq_true]
theorem a47(rows:List (List Int))(S:Int)(hl:rows.length<9223372036854775808)(hr:∀ r∈rows,r.length<9223372036854775808):run tb 98 [jo rows,.int .i64 S]=some [.int .i64 (uo (rf S) 0 rows),.int .i64 S]:=by
 refine qh (x:=ir98) rfl ?_
 have key:=qu (run:=run tb) (body:=ir98p0) (e:=[jo rows,.int .i64 S,.int .i64 rows.length]) (J:=[]) (σ:=Unit) rows.length
  (fun _ _=>True) (fun i _=>[.int .i64 i,.int .i64 S]) (fun i _=>[.int .i64 (uo (rf S) i (rows.drop i)),.int .i64 S])
  (by
   rintro i _ L hi _ hL;have ah:=hL () trivial;have hf:=a50 rows[i] S (hr _ (getElem_mem hi));rw[qfu _ hi];cases hb:rf S rows[i] with
   | true=>
    rw[hb] at hf;simp (disch:=omega) only[ir98p0,qe,qf,eq_self,ac,hi,ad1,hf,if_true]
   | false=>
    rw[hb] at hf;simp only[Bool.false_eq_true,if_false];simp (disch:=omega) only[ir98p0,qe,qf,eq_self,ac,reduceIte,hi,ad1,hf,wr,bz,ah])
  (by
   rintro _ L _;have e:uo (rf S) rows.length (rows.drop rows.length) = -1:=by rw[drop_length];rfl
   simp (disch:=omega) only[ir98p0,qe,qf,eq_self,ac,reduceIte,lt_irrefl,e])
 have hk:=key 0 () (by omega) trivial
 simp only[rt,drop_zero] at hk;simp only[ir98,qe,qf,eq_self,qht,hk]
theorem a1i(rows:List (List Int))(S:Int)(hl:rows.length<9223372036854775808)(hr:∀ r∈rows,r.length<9223372036854775808):run tb 75 [jo rows,.int .i64 S]=some [.bool (rows.any (rf S)),.int .i64 S]:=by
 refine qh (x:=ir75) rfl ?_;have h1:=a47 rows S hl hr;have h2:=qsw (rf S) rows 0;simp only[ir75,qe,qf,eq_self,ac,reduceIte,h1];rw[← h2]
theorem qbx(a:Int)(t:D)(ha:a=1∨a=2):run tb 47 [.int .i64 a,t]=some [.int .i64 (if a=1 then 2 else 4)]:=by
 refine qh (x:=ir47) rfl ?_;rcases ha with rfl|rfl
 · rfl
 · rfl
theorem qbq(a:Int)(rows:List (List Int))(hl:rows.length<9223372036854775808)(hr:∀ r∈rows,r.length<9223372036854775808):run tb 46 [.int .i64 a,jo rows]=some [.int .i64 (if ac9 a rows=true then 0 else 1)]:=by
 refine qh (x:=ir46) rfl ?_
 by_cases ha:a=1∨a=2
 · have h1:=qbx a (jo rows) ha;have h2:=a1i rows (szT a:Int) hl hr;rw[a49 ha];have h4:∀ b:Bool,(if (!b)=true then (0:Int) else 1)=if b=true then 1 else 0:=by decide
   rw[h4];have e1:IntKind.i64.wrap (1*2^min (Int.toNat 2) IntKind.i64.bits)=4:=by decide
   have e2:IntKind.i64.wrap (1*2^min (Int.toNat 4) IntKind.i64.bits)=16:=by decide
   have s1:(szT 1:Int)=4:=rfl;have s2:(szT 2:Int)=16:=rfl;have i1:(if (1:Int)=1 then (2:Int) else 4)=2:=rfl
   have i2:(if (2:Int)=1 then (2:Int) else 4)=4:=rfl
   have n1:¬ (2:Int)=1:=by decide
   have n2:¬ (1:Int)=2:=by decide
   rcases ha with rfl|rfl
   · rw[s1] at h2 ⊢;rw[i1] at h1
     by_cases an:(rows.length:Int)=4
     · cases z7 : rows.any (rf 4) <;> rw [z7] at h2 <;>
        simp only[ir46,ir46p0,ir46p1,qe,qf,eq_self,ac,Int.reduceLE,bw,h1,h2,e1,qht,an,ne_eq,not_true_eq_false,if_true,if_false]
     · simp only[ir46,ir46p0,ir46p1,qe,qf,eq_self,ac,Int.reduceLE,bw,h1,e1,qht,an,ne_eq,not_false_eq_true,if_true]
   · rw[s2] at h2 ⊢;rw[i2] at h1
     by_cases an:(rows.length:Int)=16
     · cases z7 : rows.any (rf 16) <;> rw [z7] at h2 <;>
        simp only[ir46,ir46p0,ir46p1,qe,qf,eq_self,ac,Int.reduceLE,bw,h1,h2,e2,n1,qht,an,ne_eq,not_true_eq_false,if_true,if_false]
     · simp only[ir46,ir46p0,ir46p1,qe,qf,eq_self,ac,Int.reduceLE,bw,h1,e2,n1,qht,an,ne_eq,not_false_eq_true,if_true]
 · have hv : ac9 a rows = false := by
    rw[Bool.eq_false_iff];intro h;exact ha (qkl.1 h).at_
   rw[hv];have h1:¬ a=1:=fun h=>ha (.inl h)
   have h2:¬ a=2:=fun h=>ha (.inr h)
   simp only[ir46,ir46p1,qe,qf,eq_self,ac,reduceIte,bw,h1,h2,if_false]
theorem ayd(a b:List Int)(ha:a.length<1000000000):run tb 37 [ab a,ab b]=some [.bool (decide (a=b))]:=by
 refine qh (x:=ir37) rfl ?_
 by_cases hl:a.length=b.length
 · simp (disch:=omega) only[ir37,qe,qf,eq_self,ac,reduceIte,qob,bw,hl];have h0:decide (a=b)=decide (a.drop 0=b.drop 0):=by simp
   rw[h0];refine qu (σ:=Unit) b.length (fun _ _=>True) (fun i _=>[.int .i64 i]) (fun i _=>[.bool (decide (a.drop i=b.drop i))]) ?_ ?_ 0 () (zero_le _) trivial
   · rintro i _ L hi _ hL;have ah:=hL () trivial;have hia:i<a.length:=by omega
     have e1:a.drop i=a[i]::a.drop (i+1):=List.drop_eq_getElem_cons hia;have e2:b.drop i=b[i]::b.drop (i+1):=List.drop_eq_getElem_cons hi;rw[e1,e2]
     by_cases h:a[i]=b[i]
     · have:decide (a[i]::a.drop (i+1)=b[i]::b.drop (i+1))=decide (a.drop (i+1)=b.drop (i+1)):=by rw[h];exact decide_eq_decide.2 ⟨fun e=>(List.cons.inj e).2,fun e=>by rw[e]⟩
       rw[this];simp (disch:=omega) only[ir37p0,qe,qf,eq_self,ac,reduceIte,hi,qjd,bw,h,wr,bz,ah]
     · have:decide (a[i]::a.drop (i+1)=b[i]::b.drop (i+1))=false:=decide_eq_false fun e=>h (List.cons.inj e).1
       rw[this];simp (disch:=omega) only[ir37p0,qe,qf,eq_self,ac,reduceIte,hi,qjd,bw,h]
   · rintro _ L _;have:decide (a.drop b.length=b.drop b.length)=true:=by simp[← hl]
     rw[this];simp (disch:=omega) only[ir37p0,qe,qf,eq_self,ac,reduceIte,lt_irrefl]
 · have:decide (a=b)=false:=decide_eq_false fun e=>hl (by rw[e])
   rw[this];have sa:¬ (a.length:Int)=(b.length:Int):=by omega
   simp (disch:=omega) only[ir37,qe,qf,eq_self,ac,reduceIte,qob,bw,sa]
theorem a2q(a b:List (List Int))(ha:a.length<1000000000)(hr:∀ r∈a,r.length<1000000000):run tb 48 [jo a,jo b]=some [.bool (decide (a=b))]:=by
 refine qh (x:=ir48) rfl ?_;have hla:=qht a;have yn:=qht b
 by_cases hl:a.length=b.length
 · simp (disch:=omega) only[ir48,qe,qf,eq_self,ac,reduceIte,hla,yn,bw,hl];have h0:decide (a=b)=decide (a.drop 0=b.drop 0):=by simp
   rw[h0];refine qu (σ:=Unit) b.length (fun _ _=>True) (fun i _=>[.int .i64 i]) (fun i _=>[.bool (decide (a.drop i=b.drop i))]) ?_ ?_ 0 () (zero_le _) trivial
   · rintro i _ L hi _ hL;have ah:=hL () trivial;have hia:i<a.length:=by omega
     have e1:a.drop i=a[i]::a.drop (i+1):=List.drop_eq_getElem_cons hia;have e2:b.drop i=b[i]::b.drop (i+1):=List.drop_eq_getElem_cons hi;rw[e1,e2];have ra:=ad1 hia;have rb:=ad1 hi;have bn:(i:Int)<(b.length:Int):=by omega
     have hc:run tb 76 [ab a[i],ab b[i]]=some [.bool (decide (a[i]=b[i]))]:=by
      refine qh (x:=ir76) rfl ?_;have:=ayd a[i] b[i] (hr _ (getElem_mem hia));simp only[ir76,qe,qf,eq_self,this]
     by_cases h:a[i]=b[i]
     · have:decide (a[i]::a.drop (i+1)=b[i]::b.drop (i+1))=decide (a.drop (i+1)=b.drop (i+1)):=by rw[h];exact decide_eq_decide.2 ⟨fun e=>(List.cons.inj e).2,fun e=>by rw[e]⟩
       rw[this];rw[decide_eq_true h] at hc;simp (disch:=omega) only[ir48p0,qe,qf,eq_self,ac,reduceIte,bn,ra,rb,hc,wr,bz,ah]
     · have:decide (a[i]::a.drop (i+1)=b[i]::b.drop (i+1))=false:=decide_eq_false fun e=>h (List.cons.inj e).1
       rw[this];rw[decide_eq_false h] at hc;simp (disch:=omega) only[ir48p0,qe,qf,eq_self,ac,reduceIte,bn,ra,rb,hc]
   · rintro _ L _;have:decide (a.drop b.length=b.drop b.length)=true:=by simp[← hl]
     rw[this];simp (disch:=omega) only[ir48p0,qe,qf,eq_self,ac,reduceIte,Int.lt_irrefl]
 · have:decide (a=b)=false:=decide_eq_false fun e=>hl (by rw[e])
   rw[this];have sa:¬ (a.length:Int)=(b.length:Int):=by omega
   simp (disch:=omega) only[ir48,qe,qf,eq_self,ac,reduceIte,hla,yn,bw,sa]
theorem a5z{i:Nat}(h:i<63):PO.eval (.bin .shl false) [.int .i64 1,bvD (ofNat 64 i)]=some [.int .i64 ((2^i:Nat):Int)]:=by
 have:bvD (ofNat 64 i) = .int .u64 (i:Int):=by unfold bvD;rw[toNat_ofNat,Nat.mod_eq_of_lt (by omega)]
 rw[this];exact qiq false .u64 h
theorem a6l(i:Nat):ofNat 64 (2^i)=1#64 <<< i:=by
 apply BitVec.eq_of_toNat_eq
 simp[Nat.shiftLeft_eq]
theorem arn{os:List OO}{o:OO}(h:os.length<1000000000):PO.eval (.app 2 48) [osD os,.sl [[af o.1,ab o.2]]]=some [osD (os++[o])]:=by
 have:=qxg (sz:=2) (bt:=48) (xs:=os.map fun o=>[af o.1,ab o.2]) (ys:=[[af o.1,ab o.2]]) (by simp;omega) (by simp;omega) rfl
 simpa [osD] using this
theorem apl:D.sl []=osD []:=rfl
theorem qtx(n:Nat)(hn:n<62)(t:D):run tb 47 [.int .i64 (n:Int),t]=some [.int .i64 ((2^n:Nat):Int)]:=by
 refine qh (x:=ir47) rfl ?_;have h:PO.eval (.bin .shl false) [.int .i64 1,.int .i64 (n:Int)]=some [.int .i64 ((2^n:Nat):Int)]:=af7 n (by omega)
 simp only[ir47,qe,qf,eq_self,h]
theorem a2c{n:Nat}(hn:n=1∨n=2){kind:Int}(hk:kind=1∨kind=2)(rows:List (List Int))(aa:List (List UInt8))(hv:Vld n rows)(oy:cu aa=true)(hnl:aa.length=n)(om:∀ s∈aa,s.length<9223372036854775808)(x4 x5 x6 x7:D) :
 den (run tb) ir16p6 [.int .i64 (n:Int),jo rows,.int .i64 kind,af aa,x4,x5,x6,.bool false] []=some (zw kind n rows aa):=by
 have de:=qvp hn;have h16:=qcj (n:Int);have hN4:2^n≤4:=by rcases hn with rfl|rfl<;>decide
 have hlT:=qht rows;rw[hv.len] at hlT;have wy:=azb hv;rw[hv.len] at wy;have hwo:=qtx n (by omega) (jo rows)
 have jg:=mkN (n:=2^n) (by omega)
 obtain ⟨m,hm⟩:∃ m,m=szT (n:Int):=⟨_,rfl⟩;obtain ⟨N,hN⟩:∃ N,N=2^n:=⟨_,rfl⟩;obtain ⟨R,hR⟩:∃ R,R=yd kind n rows:=⟨_,rfl⟩;obtain ⟨fin,zg⟩:∃ fin,fin=zw kind n rows aa:=⟨_,rfl⟩
 have ako:∀ i,i<m→R i=none→fin=[.sl [],.int .i64 9]:=fun i hi h=>by
  rw[zg];unfold zw;rw[if_neg];intro hb;unfold adn at hb;simp only[Bool.and_eq_true,List.all_eq_true,mem_range] at hb;have:=hb.1 i (by rw[← hm];exact hi)
  rw[← hR,h] at this;cases this
 have ovA':Ovr N (alA n):=by rw[hN];exact ovA hn
 have lt:∀ {S:BitVec 64},Ovr N S→S.toNat<szT (n:Int):=fun hS=>by rw[hN] at hS;rw[de];exact abs hS
 rw[← zg];rw[← hm] at hlT wy;rw[← hN] at hwo jg hN4;have jg:PO.eval (.mkL 8 [.int .i64 0]) [.int .i64 (N:Int)]=some [ab (replicate N 0)]:=jg;simp (disch:=omega) only[ir16p6,qe,qf,hlT,wy];rw[apl];refine qu (σ:=List OO) m (fun i s=>s=(range i).map (fun j=>(aa,bg ((R j).getD [])))∧∀ j,j<i→(R j).isSome=true) (fun i s=>[.int .i64 i,osD s]) (fun _ _=>fin) ?_ ?_ 0 [] (zero_le _) ⟨rfl,fun j h=>by omega⟩
 · rintro i s L hi ⟨hs,uy⟩ hL;have bn:(i:Int)<(m:Int):=by omega
   have hKt:(ofNat 64 i).toNat=i:=qpd (m:=m) hi (by omega)
   have hK:(ofNat 64 i).toNat<szT (n:Int):=by rw[hKt];omega
   have ak:PO.eval (.row 1) [jo rows,.int .i64 (i:Int)]=some [ab (Am.rowAt rows (ofNat 64 i))]:=by
    rw[afd (by omega)];exact tr hv hK
   have m9:s.length=i:=by rw[hs];simp
   obtain ⟨c,hc⟩:∃ c,c=cR kind (alA n) (tOf rows) (ofNat 64 i):=⟨_,rfl⟩;have hRi:R i=ku c N 0 (alA n) (replicate N 0):=by rw[hR,hc,hN];unfold yd;rw[Int.toNat_natCast]
   simp (disch:=omega) only[ir16p5,qe,qf,eq_self,ac,reduceIte,bn,ak,hwo,jg];refine quj (ι:=Nat × Nat × BitVec 64 × List Int) (fun x=>x.1) (fun x=>Ovr N x.2.2.1∧xd N x.2.2.1≤x.1∧x.2.2.2.length=N∧x.2.1+x.1≤N∧ku c x.1 x.2.1 x.2.2.1 x.2.2.2=R i) (fun x=>[ivD x.2.2.1,.int .i64 (x.2.1:Int),ab x.2.2.2]) (fun _=>fin) ?_ (N,0,alA n,replicate N 0) ⟨ovA',a08 _ _,by simp,by simp,hRi.symm⟩
   rintro ⟨k,l,S,q⟩ M ⟨oS,hp,hq,hlk,hlv⟩ hM;simp only at oS hp hq hlk hlv;have hSlt:=lt oS;have hS16:S.toNat<16:=by omega
   have hSm:Sml S:=by unfold Sml;omega
   have hnz:=a0v false S
   by_cases h0:S=0#64
   · subst h0;rw[a4w] at hlv
     have ah:=hL (s++[(aa,bg q)]) ⟨by rw[List.range_succ,List.map_append,hs];simp[← hlv],fun j hj=>by
      by_cases e:j=i
      · subst e;rw[← hlv];rfl
      · exact uy j (by omega)⟩
     have i6:=qme aa q (by omega) (by omega)
     rw[if_pos (by simp[ej,oy,hq,hnl,hN])] at i6
     have acd:PO.eval (.mk 2 1) [af aa,ab (bg q)]=some [.sl [[af aa,ab (bg q)]]]:=rfl;have s6:=arn (os:=s) (o:=(aa,bg q)) (by omega)
     simp only at s6;simp only[decide_true,Bool.not_true] at hnz;simp (disch:=omega) only[ir16p3,qe,qf,eq_self,ac,reduceIte,hnz,i6,Int.reduceBNe,acd,s6,wr,bz,ah]
   · rw[decide_eq_false h0,Bool.not_false] at hnz;have htc:=tc hv hK (f:=S) hSlt;have aei:∀ {b:BitVec 64},b.toNat<szT (n:Int)→PO.eval (.bin .and false) [ivD b,ivD S]=some [ivD (b&&&S)]:=fun {b} hb=>aod false (y:=S) (by unfold Sml;omega)
     have hcS:c S=(if kind=2 then tOf rows (ofNat 64 i) (alA n &&& ~~~S) else tOf rows (ofNat 64 i) S):=by rw[hc];rfl
     have oAS:(alA n &&& ~~~S).toNat<szT (n:Int):=ahr (lt ovA');have aza:=tc hv hK (f:=alA n &&& ~~~S) oAS;have haN:=qys false (x:=alA n) (y:=S) (by have:=lt ovA';unfold Sml;omega)
     have su:(c S).toNat<szT (n:Int):=by
      rw[hcS]
      split
      · exact ak6 hv hK oAS
      · exact ak6 hv hK hSlt
     have hAnd:=aei su;have hez:=atd false (c S&&&S);have hq2:=qob q;rw[hq] at hq2
     have key:∀ (y21 y:D) (Jx:List PF),den (run tb) ir16p2 ([.int .i64 (n:Int),jo rows,.int .i64 kind,af aa,x4,x5,x6,.bool false,.int .i64 (m:Int),ivD (alA n),.int .i64 (m:Int),.int .i64 (i:Int),osD s,.bool true,ab (Am.rowAt rows (ofNat 64 i)),.int .i64 (N:Int),ab (replicate N 0),ivD S,.int .i64 (l:Int),ab q,.bool true,y21]++[ivD (c S)]) [L,M]=some fin:=by
      intro y21 y Jx
      by_cases hb:c S&&&S=0#64
      · have hn0:=a5j (l:=l) (q:=q) oS hp h0 hb;rw[hn0] at hlv;rw[decide_eq_true hb] at hez;rw[ako i hi hlv.symm];simp (disch:=omega) only[ir16p2,qe,qf,eq_self,hAnd,hez]
      · obtain ⟨k',lu,xy,hls⟩:=azr (l:=l) (q:=q) oS hp h0 hb;rw[decide_eq_false hb] at hez;have ah:=hM (k',l+1,S &&& ~~~(c S&&&S),oz q (c S&&&S) l) ⟨fun w hw=>oS w (qfb.1 hw).1,xy,by simp only[qwi];exact hq,by simp only;omega,by simp only;rw[← hls];exact hlv⟩ (by simp only;omega)
        simp only at ah;have hbm:Sml (c S&&&S):=by have:=ahr (y:=S) su;unfold Sml;omega
        simp (disch:=omega) only[ir16p2,qe,qf,hAnd,hez,hq2];have e0:ab q=ab (gy q (c S&&&S) l 0):=by rw[ahz]
        have start:∀ (E:Env) (J:List PF),eo (run tb) ir16p1 E J [.int .i64 0,ab (gy q (c S&&&S) l 0)]=some fin→eo (run tb) ir16p1 E J [.int .i64 0,ab q]=some fin:=fun E J h=>by rw[ahz] at h;exact h
        refine start _ _ ?_;clear e0 start;refine qu (σ:=Unit) N (fun _ _=>True) (fun w _=>[.int .i64 w,ab (gy q (c S&&&S) l w)]) (fun _ _=>fin) ?_ ?_ 0 () (zero_le _) trivial
        · rintro w _ K hw _ hK2;have oq:=hK2 () trivial;have wv:(w:Int)<(N:Int):=by omega
          have yz:=ahm false .i64 (c S&&&S) w;have hbt:=ahi hbm w;have hon:=aj7 (c S&&&S) w;cases hbw:(c S&&&S).getLsbD w with
          | false=>
           rw[hbw] at hon;rw[← a0z hbw] at oq;simp (disch:=omega) only[ir16p1,ir16p0,qe,qf,eq_self,ac,reduceIte,wv,yz,hbt,hon,wr,bz,oq]
          | true=>
           rw[hbw] at hon;rw[← a5h (by omega) hbw] at oq
           have zm:=qgl (l:=gy q (c S&&&S) l w) (i:=w) (by rw[qmu];omega)
           have hs1:=qio (l:=gy q (c S&&&S) l w) (i:=w) (by rw[qmu];omega) (l:Int)
           simp (disch:=omega) only[ir16p1,ir16p0,qe,qf,eq_self,ac,reduceIte,wv,yz,hbt,hon,zm,hs1,wr,bz,oq]
        · rintro _ K _;have e:gy q (c S&&&S) l N=oz q (c S&&&S) l:=by rw[← hq];exact a2e q _ l
          rw[e];have han:=qys false (x:=S) (y:=c S&&&S) hSm;simp (disch:=omega) only[ir16p1,qe,qf,eq_self,ac,reduceIte,Int.lt_irrefl,han,wr,bz,ah]
     simp only[List.cons_append,List.nil_append] at key;have hik:(kind=2)=(kind=2):=rfl;rcases hk with rfl|rfl
     · rw[if_neg (by decide)] at hcS
       rw[hcS] at key;have key:=fun y=>key y (.int .i64 0) []
       simp (disch:=omega) only[ir16p3,qe,qf,eq_self,ac,reduceIte,Int.reduceEq,hnz,htc,key]
     · rw[if_pos rfl] at hcS;rw[hcS] at key;have key:=fun y=>key y (.int .i64 0) []
       simp (disch:=omega) only[ir16p3,qe,qf,eq_self,ac,reduceIte,hnz,htc,aza,haN,key]
 · rintro s L ⟨hs,uy⟩;have hso:s=zr kind n rows aa:=by rw[hs,hm,hR];rfl
   have m9:s.length=m:=by rw[hs];simp
   have hSn:ac8 s:=by
    have key:∀ o∈s,o.1=aa∧o.2.length<1000000000:=fun o ho=>by
     rw[hs] at ho;obtain ⟨j,hj,rfl⟩:=List.mem_map.1 ho;refine ⟨rfl,?_⟩;have hjm:=uy j (List.mem_range.1 hj);obtain ⟨q,hq⟩:=Option.isSome_iff_exists.1 hjm
     have:q.length=N:=by
      rw[hR] at hq;unfold yd at hq;rw[Int.toNat_natCast,← hN] at hq;exact aop _ _ _ (by simp) hq
     simp only[hq,Option.getD_some,bg,List.length_map];omega
    refine ⟨by omega,fun o ho=>by rw[(key o ho).1];omega,fun o ho s hs=>om s (by rw[← (key o ho).1];exact hs),fun o ho=>(key o ho).2⟩
   have eu:((range m).all fun i=>(R i).isSome)=true:=List.all_eq_true.2 fun i hi=>uy i (List.mem_range.1 hi)
   have hmv:=qbt s kind hSn
   have hfd:fin=if mkE s kind=0∧mkT kind s (2^(2^(cg s).length))=rows then [osD s,.int .i64 0] else [.sl [],.int .i64 9]:=by
    rw[zg];unfold zw adn;rw[← hso,← hR,← hm,eu];simp only[Bool.true_and,Bool.and_eq_true,decide_eq_true_eq]
   unfold mkV at hmv
   by_cases hE:mkE s kind=0
   · rw[if_pos hE] at hmv
     have hM:MkO s kind:=by
      rcases qim s kind with c|c|c|c|c
      · omega
      · omega
      · omega
      · omega
      · exact c.1
     have hTl:(mkT kind s (2^(2^(cg s).length))).length<1000000000:=by
      rw[am9];rcases hM.at_ with e|e<;>rw[e]<;>decide
     have hTr:∀ r∈mkT kind s (2^(2^(cg s).length)),r.length<1000000000:=fun r hr=>by
      obtain ⟨k,_,rfl⟩:=List.mem_map.1 hr;rw[aok];rcases hM.at_ with e|e<;>rw[e]<;>decide
     have heq:=a2q (mkT kind s (2^(2^(cg s).length))) rows hTl hTr
     by_cases hT:mkT kind s (2^(2^(cg s).length))=rows
     · rw[if_pos ⟨hE,hT⟩] at hfd;rw[decide_eq_true hT] at heq;rw[hfd];simp (disch:=omega) only[ir16p5,ir16p4,qe,qf,eq_self,ac,reduceIte,Int.lt_irrefl,hmv,Int.reduceBNe,heq]
     · rw[if_neg (fun h=>hT h.2)] at hfd
       rw[decide_eq_false hT] at heq;rw[hfd];simp (disch:=omega) only[ir16p5,ir16p4,qe,qf,eq_self,ac,reduceIte,Int.lt_irrefl,hmv,Int.reduceBNe,heq]
   · rw[if_neg hE] at hmv;rw[if_neg (fun h=>hE h.1)] at hfd
     have hE':(mkE s kind != 0)=true:=by simp[hE]
     rw[hfd];simp (disch:=omega) only[ir16p5,ir16p4,qe,qf,eq_self,ac,reduceIte,Int.lt_irrefl,hmv,hE']
end Go.Proofs.YtefjlhhicgepfaaGreatDoor

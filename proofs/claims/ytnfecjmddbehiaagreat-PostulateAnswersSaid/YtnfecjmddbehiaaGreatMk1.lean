/- What functions of the program compute: lemmas. -/
import Derived.Test.YtnfecjmddbehiaaGreatOd
import Derived.Test.YtnfecjmddbehiaaGreatAm8
set_option linter.unusedSimpArgs false
set_option linter.unusedVariables false
set_option linter.unusedSectionVars false
namespace Go.Proofs.YtnfecjmddbehiaaGreat
open Go Am
set_option maxRecDepth 100000
theorem qrib (kind:Int):∃ q:List (List D),q.length=(postN kind).1∧run tb 66 [.int .i64 kind]=some [.sl q]:=by
 have h1:∃ q:List (List D),q.length=5∧run tb 76 []=some [.sl q]:=⟨_,rfl,qc (x:=ir76) rfl rfl⟩;have h2:∃ q:List (List D),q.length=6∧run tb 77 []=some [.sl q]:=⟨_,rfl,qc (x:=ir77) rfl rfl⟩;have h3:∃ q:List (List D),q.length=7∧run tb 78 []=some [.sl q]:=⟨_,rfl,qc (x:=ir78) rfl rfl⟩;obtain ⟨q1,l1,h1⟩:=h1;obtain ⟨q2,l2,h2⟩:=h2;obtain ⟨q3,l3,h3⟩:=h3
 by_cases c1:kind=1
 · subst c1;refine ⟨q1,l1,qc (x:=ir66) rfl ?_⟩;simp only[ir66,qa,qb,eq_self,aBin,reduceIte,h1]
 · by_cases c2:kind=2
   · subst c2;refine ⟨q2,l2,qc (x:=ir66) rfl ?_⟩;simp only[ir66,qa,qb,eq_self,aBin,reduceIte,c1,h2]
   · by_cases c3:kind=3
     · subst c3;refine ⟨q3,l3,qc (x:=ir66) rfl ?_⟩;simp only[ir66,qa,qb,eq_self,aBin,reduceIte,c1,c2,h3]
     · refine ⟨[],by simp[postN,c1,c2,c3],qc (x:=ir66) rfl ?_⟩
       simp only[ir66,qa,qb,eq_self,aBin,reduceIte,c1,c2,c3]
theorem qgrb (n:Nat) (h:n<63):PO.eval (.bin .shl false) [.int .i64 1,.int .i64 (n:Int)]=some [.int .i64 ((2^n:Nat):Int)]:=qwn false .i64 h
theorem qyd (i:Nat):PO.eval (.conv .u64) [.int .i64 (i:Int)]=some [bvD (BitVec.ofNat 64 i)]:=by rw[qfrb,BitVec.ofInt_natCast]
theorem qayb {i:Nat} (h:i<18446744073709551616):PO.eval (.bin .shl false) [.int .u64 1,bvD (BitVec.ofNat 64 i)]=some [bvD (1#64 <<< i)]:=by
 have:=qlt false 1#64 (BitVec.ofNat 64 i);rw[BitVec.toNat_ofNat,Nat.mod_eq_of_lt (by omega)] at this
 exact this
theorem neU0 (x:BitVec 64):PO.eval (.bin .neq false) [bvD x,.int .u64 0]=some [.bool (!decide (x=0#64))]:=qxfb false x 0#64
theorem qeu (l:List OO) (kind:Int) (hs:Sane l) (a2 a3 a4 a5 a6 a7 a8 a9 a10 a11 a12 a13 a14 a15:D) (L0:PF) :
 loopQ (run tb) ir53p3 [osD l,.int .i64 kind,a2,a3,a4,a5,a6,a7,a8,a9,a10,a11,a12,a13,a14,a15,.int .i64 l.length] [L0] [.int .i64 0]=some [.int .i64 (if anyI (badB kind) 0 l=true then 7 else 0)]:=by
 have hn:=hs.n;refine qk (σ:=Unit) l.length (fun _ _=>True) (fun i _=>[.int .i64 i]) (fun i _=>[.int .i64 (if anyI (badB kind) i (l.drop i)=true then 7 else 0)]) ?_ ?_ 0 () (Nat.zero_le _) trivial
 · rintro i _ M hi _ hM;have hnext:=hM () trivial;have hm:=List.getElem_mem hi;have hrow:=qqi hi;have hbel:=qfq l[i].1 l[i].2 (hs.nm _ hm) (hs.rk _ hm);have hc:=qyd i;have hsh:=qayb (i:=i) (by omega)
   have hz:=neU0 (bse kind i);have hq:=qxfb false (beliefsS l[i].1 l[i].2) (bse kind i);rw[qzp _ hi];have hb:badB kind i l[i]=(!decide (bse kind i=0#64) && !decide (beliefsS l[i].1 l[i].2=bse kind i)):=rfl;rw[hb]
   by_cases k3:kind=3
   · have hbs:bse kind i=1#64 <<< i:=by unfold bse;rw[if_pos k3]
     rw[hbs] at hz hq ⊢;cases hd1:decide (1#64 <<< i=0#64) with
     | true=>
      rw[hd1] at hz;simp (disch:=omega) only[ir53p3,ir53p2,ir53p1,qa,qb,eq_self,aBin,reduceIte,hi,hrow,hc,k3,hsh,hz,wr,natS,hnext]
     | false=>
      rw[hd1] at hz;cases hd2:decide (beliefsS l[i].1 l[i].2=1#64 <<< i) with
      | true=>
       rw[hd2] at hq;simp (disch:=omega) only[ir53p3,ir53p2,ir53p1,qa,qb,eq_self,aBin,reduceIte,hi,hrow,hc,k3,hsh,hz,hbel,hq,wr,natS,hnext]
      | false=>
       rw[hd2] at hq;simp (disch:=omega) only[ir53p3,ir53p2,ir53p1,qa,qb,eq_self,aBin,hi,hrow,hc,k3,hsh,hz,hbel,hq,if_true]
   · have hbs:bse kind i=BitVec.ofNat 64 i:=by unfold bse;rw[if_neg k3]
     rw[hbs] at hz hq ⊢;cases hd1:decide (BitVec.ofNat 64 i=0#64) with
     | true=>
      rw[hd1] at hz;simp (disch:=omega) only[ir53p3,ir53p2,ir53p1,qa,qb,eq_self,aBin,reduceIte,hi,hrow,hc,k3,hz,wr,natS,hnext]
     | false=>
      rw[hd1] at hz;cases hd2:decide (beliefsS l[i].1 l[i].2=BitVec.ofNat 64 i) with
      | true=>
       rw[hd2] at hq;simp (disch:=omega) only[ir53p3,ir53p2,ir53p1,qa,qb,eq_self,aBin,reduceIte,hi,hrow,hc,k3,hz,hbel,hq,wr,natS,hnext]
      | false=>
       rw[hd2] at hq;simp (disch:=omega) only[ir53p3,ir53p2,ir53p1,qa,qb,eq_self,aBin,hi,hrow,hc,k3,hz,hbel,hq,if_true]
 · rintro _ M _;rw[List.drop_length];have e:(if anyI (badB kind) l.length []=true then (7:Int) else 0)=0:=rfl
   simp (disch:=omega) only[ir53p3,qa,qb,eq_self,aBin,reduceIte,Nat.lt_irrefl,e]
theorem qvu (l:List OO) (kind:Int) (hs:Sane l):run tb 53 [osD l,.int .i64 kind]=some [.int .i64 (mkE l kind)]:=by
 refine qc (x:=ir53) rfl ?_;obtain ⟨q,hq,hls⟩:=qrib kind;have hlq:PO.eval .lenL [.sl q]=some [.int .i64 ((postN kind).1:Int)]:=by rw[qbd,hq]
 have hn:=hs.n;have hlO:=qwy l
 by_cases k0:(postN kind).1=0
 · have:mkE l kind=4:=by unfold mkE;rw[if_pos k0]
   rw[this];have k0':((postN kind).1:Int)=0:=by omega
   simp only[ir53,qa,qb,eq_self,aBin,reduceIte,hls,hlq,k0']
 have k0':¬ ((postN kind).1:Int)=0:=by omega
 by_cases l0:l.length=0
 · have:mkE l kind=1:=by unfold mkE;rw[if_neg k0,if_pos l0]
   rw[this];have l0':(l.length:Int)=0:=by omega
   simp only[ir53,qa,qb,eq_self,aBin,reduceIte,hls,hlq,k0',hlO,l0']
 have l0':¬ (l.length:Int)=0:=by omega
 have hp:0<l.length:=by omega
 have e0:l[0].1=nam0 l:=by simp[nam0,hp]
 have hr0:=qfgb hp;rw[e0] at hr0;have hE:mkE l kind=if l.any (badO (nam0 l))=true then 1 else if l.length≠wantN kind (nam0 l).length then 1 else if anyI (badB kind) 0 l=true then 7 else 0:=by unfold mkE;rw[if_neg k0,if_neg l0]
 rw[hE];obtain ⟨T,hT⟩:∃ T:Int,T=if l.length≠wantN kind (nam0 l).length then 1 else if anyI (badB kind) 0 l=true then 7 else 0:=⟨_,rfl⟩
 rw[← hT];simp only[ir53,qa,qb,eq_self,aBin,reduceIte,hls,hlq,k0',hlO,l0'];have key:∀ i,i≤l.length→(∀ j,j<i→badO (nam0 l) (l.getD j ([],[]))=false)→True:=fun _ _ _=>trivial
 refine qk (σ:=Unit) l.length (fun i _=>∀ o∈l.take i,badO (nam0 l) o=false) (fun i _=>[.int .i64 i]) (fun i _=>[.int .i64 (if (l.drop i).any (badO (nam0 l))=true then 1 else T)]) ?_ ?_ 0 () (Nat.zero_le _) (fun o ho=>by simp at ho)
 · rintro i _ M hi hpre hM;have hm:=List.getElem_mem hi;have hrow:=qqi hi;have hv:=qmg l[i].1 l[i].2 (hs.nm _ hm) (hs.rk _ hm);have heq:=qmy l[i].1 (nam0 l) (hs.nm _ hm);have hlN:=qpb l[i].1;rw[qvjb _ hi];have hb:badO (nam0 l) l[i]=(!decide (orderE l[i].1 l[i].2=0) || (decide (l[i].1.length<1) || (decide (l[i].1.length>2) || !decide (l[i].1=nam0 l)))):=rfl
   have hnext:badO (nam0 l) l[i]=false→M [.int .i64 ((i+1:Nat):Int)]=some [.int .i64 (if (l.drop (i+1)).any (badO (nam0 l))=true then 1 else T)]:=fun hbad=>hM () (fun o ho=>by
    rw[List.take_add_one,List.getElem?_eq_getElem hi] at ho;rcases List.mem_append.1 ho with h|h
    · exact hpre o h
    · simp at h;subst h;exact hbad)
   generalize hB:badO (nam0 l) l[i]=B at hb hnext
   by_cases c1:orderE l[i].1 l[i].2=0
   · by_cases c2:l[i].1.length<1
     · have c2':(l[i].1.length:Int)<1:=by omega
       have hBt:B=true:=by rw[hb,decide_eq_true c2];simp
       subst hBt;simp (disch:=omega) only[ir53p5,ir53p0,qa,qb,eq_self,aBin,hi,hrow,hv,ibne,c1,hlN,c2',if_true]
     · have c2':¬ (l[i].1.length:Int)<1:=by omega
       by_cases c3:l[i].1.length>2
       · have c3':(l[i].1.length:Int)>2:=by omega
         have hBt:B=true:=by rw[hb,decide_eq_true c3];simp
         subst hBt;simp (disch:=omega) only[ir53p5,ir53p0,qa,qb,eq_self,aBin,hi,hrow,hv,ibne,c1,hlN,c2',c3',if_true]
       · have c3':¬ (l[i].1.length:Int)>2:=by omega
         cases hc:decide (l[i].1=nam0 l) with
         | false=>
          rw[hc] at heq;have hBt:B=true:=by rw[hb,hc];simp
          subst hBt;simp (disch:=omega) only[ir53p5,ir53p0,qa,qb,eq_self,aBin,hi,hrow,hv,ibne,c1,hlN,c2',c3',hr0,heq,if_true]
         | true=>
          rw[hc] at heq;have hBt:B=false:=by rw[hb,hc,decide_eq_true c1,decide_eq_false c2,decide_eq_false c3];rfl
          subst hBt;have hnx:=hnext rfl;simp (disch:=omega) only[ir53p5,ir53p0,qa,qb,eq_self,aBin,reduceIte,hi,hrow,hv,ibne,c1,hlN,c2',c3',hr0,heq,wr,natS,hnx]
   · have hBt:B=true:=by rw[hb,decide_eq_false c1];rfl
     subst hBt;simp (disch:=omega) only[ir53p5,ir53p0,qa,qb,eq_self,aBin,hi,hrow,hv,ibne,c1,if_true]
 · rintro _ M hpre;rw[List.take_length] at hpre;rw[List.drop_length];have hany:l.any (badO (nam0 l))=false:=List.any_eq_false.2 fun o ho=>by rw[hpre o ho];decide
   obtain ⟨ha,hok,hnm⟩:=qhbb hany hp;have hr2:l[0].2.length=2^(nam0 l).length:=by rw[(qy (hok _ (List.getElem_mem hp))).2.1,hnm _ (List.getElem_mem hp)]
   have hlr:PO.eval .lenL [numsD l[0].2]=some [.int .i64 ((2^(nam0 l).length:Nat):Int)]:=by rw[qu,hr2]
   have hsh:=qgrb (2^(nam0 l).length) (by rcases ha with e|e<;>rw[e]<;>decide)
   have e1:(if ([]:List OO).any (badO (nam0 l))=true then (1:Int) else T)=T:=rfl
   rw[e1];have rest:∀ (e:Env) (J:List PF),True:=fun _ _=>trivial
   have hw:wantN kind (nam0 l).length=if kind=3 then 2^(nam0 l).length else 2^(2^(nam0 l).length):=rfl
   have fin:∀ b:Bool,b=anyI (badB kind) 0 l→(if b=true then (7:Int) else 0)=if b=true then 7 else 0:=fun _ _=>rfl
   have hst:=qeu l kind hs
   by_cases k3:kind=3
   · rw[if_pos k3] at hw
     by_cases hlen:l.length=2^(nam0 l).length
     · have hlen':(l.length:Int)=((2^(nam0 l).length:Nat):Int):=by rw[hlen]
       have hTe:T=if anyI (badB kind) 0 l=true then 7 else 0:=by rw[hT,hw,if_neg (by rw[hlen];simp)]
       rw[hTe];simp (disch:=omega) only[ir53p5,ir53p4,qa,qb,eq_self,aBin,reduceIte,Nat.lt_irrefl,hr0,hlr,ibne,k3,hlO,← hlen'];rw[k3] at hst;exact hst _ _ _ _ _ _ _ _ _ _ _ _ _ _ _
     · have hlen':¬ (l.length:Int)=((2^(nam0 l).length:Nat):Int):=by omega
       have hTe:T=1:=by rw[hT,hw,if_pos hlen]
       rw[hTe];simp (disch:=omega) only[ir53p5,ir53p4,qa,qb,eq_self,aBin,reduceIte,Nat.lt_irrefl,hr0,hlr,ibne,k3,hlO,hlen']
   · rw[if_neg k3] at hw
     by_cases hlen:l.length=2^(2^(nam0 l).length)
     · have hlen':(l.length:Int)=((2^(2^(nam0 l).length):Nat):Int):=by rw[hlen]
       have hTe:T=if anyI (badB kind) 0 l=true then 7 else 0:=by rw[hT,hw,if_neg (by rw[hlen];simp)]
       rw[hTe];simp (disch:=omega) only[ir53p5,ir53p4,qa,qb,eq_self,aBin,reduceIte,Nat.lt_irrefl,hr0,hlr,ibne,k3,hsh,hlO,← hlen'];exact hst _ _ _ _ _ _ _ _ _ _ _ _ _ _ _
     · have hlen':¬ (l.length:Int)=((2^(2^(nam0 l).length):Nat):Int):=by omega
       have hTe:T=1:=by rw[hT,hw,if_pos hlen]
       rw[hTe];simp (disch:=omega) only[ir53p5,ir53p4,qa,qb,eq_self,aBin,reduceIte,Nat.lt_irrefl,hr0,hlr,ibne,k3,hsh,hlO,hlen']
end Go.Proofs.YtnfecjmddbehiaaGreat

namespace Go.Proofs.YtnfecjmddbehiaaGreat
open Go Am
set_option maxRecDepth 100000
def mkV (l:List OO) (kind:Int):List D:=if mkE l kind=0 then [.int .i64 ((nam0 l).length:Int),tabD (mkT kind l (2^(2^(nam0 l).length))),.int .i64 0] else [.int .i64 0,.sl [],.int .i64 (mkE l kind)]
theorem qfib (o:OO) (f:Nat) (h1:o.1.length<1000000000) (h2:o.2.length<1000000000) (h3:(leastS o.1 o.2 (BitVec.ofNat 64 f)).toNat<16):run tb 54 [strsD o.1,numsD o.2,.int .i64 (f:Int)]=some [ivD (leastS o.1 o.2 (BitVec.ofNat 64 f))]:=by
 refine qc (x:=ir54) rfl ?_;have hl:=qvl o.1 o.2 h1 h2 (BitVec.ofNat 64 f);have hc:=qyd f;have hi:=qlob (x:=leastS o.1 o.2 (BitVec.ofNat 64 f)) (by omega)
 simp only[ir54,qa,qb,hc,hl,hi];rfl
theorem qbkb {l:List Int} {i:Nat} (h:i<l.length) (x:BitVec 64):PO.eval (.set 0 1) [numsD l,.int .i64 i,ivD x]=some [numsD (l.set i (x.toNat:Int))]:=qwt h _
theorem qlvb {l:List Int} {i:Nat} {x:BitVec 64} (h:i<l.length) (hx:l[i]=(x.toNat:Int)):PO.eval (.get 0 1) [numsD l,.int .i64 i]=some [ivD x]:=by rw[qymb h,hx];rfl
theorem qrhb (l:List OO) (kind:Int) (hs:Sane l):run tb 32 [osD l,.int .i64 kind]=some (mkV l kind):=by
 refine qc (x:=ir32) rfl ?_;have ho:=qvu l kind hs;unfold mkV
 by_cases he:mkE l kind=0
 · rw[if_pos he];rw[he] at ho
   have hM:MkO l kind:=by
    rcases qze l kind with h|h|h|h|h
    · omega
    · omega
    · omega
    · omega
    · exact h.1
   obtain ⟨n,hn⟩:∃ n,n=(nam0 l).length:=⟨_,rfl⟩;have hat:=hM.at_;have hrk:=fun {o:OO} (ho:o∈l)=>hM.rkl ho
   rw[← hn] at hat hrk ⊢;have hp:=hM.pos;have hlen:=hM.len;rw[← hn] at hlen;have hr0:=qfgb hp;have e0:l[0].1=nam0 l:=hM.nm _ (List.getElem_mem hp);have hl0:PO.eval .lenL [strsD l[0].1]=some [.int .i64 (n:Int)]:=by rw[qpb,e0,hn]
   have hl1:PO.eval .lenL [numsD l[0].2]=some [.int .i64 ((2^n:Nat):Int)]:=by rw[qu,hrk (List.getElem_mem hp)]
   have hsh:=qgrb (2^n) (by rcases hat with e|e<;>rw[e]<;>decide)
   have hlO:=qwy l
   have hleast:∀ {i:Nat} (hi:i<l.length) (f:Nat),run tb 54 [strsD l[i].1,numsD l[i].2,.int .i64 (f:Int)]=some [ivD (leastS l[i].1 l[i].2 (BitVec.ofNat 64 f))]:=fun {i} hi f=>
    qfib l[i] f (hs.nm _ (List.getElem_mem hi)) (hs.rk _ (List.getElem_mem hi)) (hM.lt (List.getElem_mem hi) _)
   have hN16:2^(2^n)≤16:=by rcases hat with e|e<;>rw[e]<;>decide
   have hwant:(kind=1∨kind=2)→l.length=2^(2^n):=fun h=>by rw[hlen];unfold wantN;rw[if_neg (by omega)]
   have hwant3:kind=3→l.length=2^n:=fun h=>by rw[hlen];unfold wantN;rw[if_pos h]
   have huni:=fun k f {m:Nat} (hm:m≤l.length)=>hM.uni k f hm
   have hkd:=hM.kd;have hlt:∀ {i:Nat} (hi:i<l.length) (S:BitVec 64),(leastS l[i].1 l[i].2 S).toNat<16:=fun {i} hi S=>hM.lt (List.getElem_mem hi) S
   clear hlen hM;generalize hN:2^(2^n)=N at *;have hmkN:=mkN (n:=N) (by omega)
   simp (disch:=omega) only[ir32,qa,qb,eq_self,aBin,reduceIte,ho,ibne,hr0,hl0,hl1,hsh];clear ho hr0 hl0 hl1 hsh;rw[qls];refine qk (σ:=Unit) N (fun _ _=>True) (fun k _=>[.int .i64 k,tabD ((mkT kind l N).take k)]) (fun _ _=>[.int .i64 (n:Int),tabD (mkT kind l N),.int .i64 0]) ?_ ?_ 0 () (Nat.zero_le _) trivial
   · rintro k _ M hk _ hM;have hnext:=hM () trivial;rw[qzx kind l hk] at hnext;obtain ⟨R,hR⟩:∃ R,R=rowT kind l N k:=⟨_,rfl⟩;have hRl:R.length=N:=by rw[hR,qao]
     have hRg:∀ f,f<N→R.getD f 0=((entB kind l N k f).toNat:Int):=fun f hf=>by rw[hR];exact qrdb hf
     rw[← hR] at hnext;have hz:=qcn R;rw[hRl] at hz;rw[hz] at hmkN;have hlf:∀ i,PO.eval .lenL [numsD (fil R i)]=some [.int .i64 (N:Int)]:=fun i=>by rw[qu,qte,hRl]
     have happ:=qtlb (rows:=(mkT kind l N).take k) (r:=R) (by rw[List.length_take];omega)
     simp (disch:=omega) only[ir32p4,qa,qb,eq_self,aBin,reduceIte,hk,hmkN,hlf];refine qk (σ:=Unit) N (fun _ _=>True) (fun f _=>[.int .i64 f,numsD (fil R f)]) (fun _ _=>[.int .i64 (n:Int),tabD (mkT kind l N),.int .i64 0]) ?_ ?_ 0 () (Nat.zero_le _) trivial
     · rintro f _ M2 hf _ hM2;have hnext2:=hM2 () trivial;rw[← qxm (by omega),hRg f hf] at hnext2
       have hck:=qbk (l:=fil R f) (i:=f) (by rw[qte];omega)
       have hset:=fun x=>qbkb (l:=fil R f) (i:=f) (by rw[qte];omega) x
       rcases hkd with k1|k2|k3
       · have hkl:k<l.length:=by rw[hwant (.inl k1)];exact hk
         have hrow:=qqi hkl;have hle:=hleast hkl f;have hE:entB kind l N k f=leastS l[k].1 l[k].2 (BitVec.ofNat 64 f):=by unfold entB;rw[if_pos k1];simp[hkl]
         rw[hE] at hnext2;simp (disch:=omega) only[ir32p3,ir32p0,qa,qb,eq_self,aBin,reduceIte,hf,k1,hrow,hle,hck,hset,wr,natS,hnext2]
       · have hkl:k<l.length:=by rw[hwant (.inr k2)];exact hk
         have hrow:=qqi hkl;have hle:=hleast hkl (N-1-f);have hE:entB kind l N k f=BitVec.ofNat 64 k|||leastS l[k].1 l[k].2 (BitVec.ofNat 64 (N-1-f)):=by unfold entB;rw[if_neg (by omega),if_pos k2];simp[hkl]
         rw[hE] at hnext2;have n1:¬ (2:Int)=1:=by decide
         have s1:IntKind.i64.wrap ((N:Int)-1)=((N-1:Nat):Int):=by rw[wr (by omega) (by omega)];omega
         have s2:IntKind.i64.wrap (((N-1:Nat):Int)-(f:Int))=((N-1-f:Nat):Int):=by rw[wr (by omega) (by omega)];omega
         have hor:PO.eval (.bin .or false) [.int .i64 (k:Int),ivD (leastS l[k].1 l[k].2 (BitVec.ofNat 64 (N-1-f)))]=some [ivD (BitVec.ofNat 64 k|||leastS l[k].1 l[k].2 (BitVec.ofNat 64 (N-1-f)))]:=by
          rw[qpf (n:=k) (by omega)]
          refine qwh false ?_ ?_
          · unfold Sml;rw[BitVec.toNat_ofNat];omega
          · unfold Sml;have:=hlt hkl (BitVec.ofNat 64 (N-1-f));omega
         simp (disch:=omega) only[ir32p3,ir32p0,qa,qb,eq_self,aBin,reduceIte,hf,k2,n1,hrow,s1,s2,hle,hor,hck,hset,wr,natS,hnext2]
       · subst k3;have hl3:=hwant3 rfl;have hl4:l.length≤4:=by rw[hl3];rcases hat with e|e<;>rw[e]<;>decide
         have n1:¬ (3:Int)=1:=by decide
         have n2:¬ (3:Int)=2:=by decide
         have hE:entB 3 l N k f=uniU l (BitVec.ofNat 64 k) (BitVec.ofNat 64 f) l.length:=by unfold entB;rw[if_neg (by omega),if_neg (by omega)]
         rw[hE] at hnext2;obtain ⟨kD,hkD⟩:∃ d,d=D.int .i64 (k:Int):=⟨_,rfl⟩;rw[← hkD];have hsm:Sml (BitVec.ofNat 64 k):=by unfold Sml;rw[BitVec.toNat_ofNat];omega
         have hsh:∀ w:Nat,PO.eval (.bin .shr false) [kD,.int .i64 (w:Int)]=some [ivD (BitVec.ofNat 64 k >>> w)]:=fun w=>by rw[hkD,qpf (n:=k) (by omega)];exact qygb false .i64 _ w
         have hbt:∀ w:Nat,PO.eval (.bin .and false) [ivD (BitVec.ofNat 64 k >>> w),.int .i64 1]=some [ivD (BitVec.ofNat 64 k >>> w&&&1#64)]:=qzw hsm;have hon:∀ w:Nat,PO.eval (.bin .eql false) [ivD (BitVec.ofNat 64 k >>> w&&&1#64),.int .i64 1]=some [.bool ((BitVec.ofNat 64 k).getLsbD w)]:=qkv _;simp (disch:=omega) only[ir32p3,qa,qb,eq_self,aBin,reduceIte,hf,n1,n2,hlO];have h0:(fil R f).set f (((uniU l (BitVec.ofNat 64 k) (BitVec.ofNat 64 f) 0).toNat:Nat):Int)=fil R f:=qccb (by omega)
         rw[← h0];refine qk (σ:=Unit) l.length (fun _ _=>True) (fun w _=>[.int .i64 w,numsD ((fil R f).set f (((uniU l (BitVec.ofNat 64 k) (BitVec.ofNat 64 f) w).toNat:Nat):Int))]) (fun _ _=>[.int .i64 (n:Int),tabD (mkT 3 l N),.int .i64 0]) ?_ ?_ 0 () (Nat.zero_le _) trivial
         · rintro w _ M3 hw _ hM3;have hnext3:=hM3 () trivial;have hrow:=qqi hw;have hle:=hleast hw f;have hsl:∀ x:Int,((fil R f).set f x).length=N:=fun x=>by rw[List.length_set,qte,hRl]
           have hck3:=fun x:Int=>qbk (l:=(fil R f).set f x) (i:=f) (by rw[hsl];exact hf)
           have hget:=fun x:BitVec 64=>qlvb (l:=(fil R f).set f (x.toNat:Int)) (i:=f) (x:=x) (by rw[hsl];exact hf) (by rw[List.getElem_set_self])
           have hset3:=fun (x:Int) (y:BitVec 64)=>qbkb (l:=(fil R f).set f x) (i:=f) (by rw[hsl];exact hf) y
           have hu:=huni (BitVec.ofNat 64 k) (BitVec.ofNat 64 f) (m:=w) (by omega)
           have hl2:=hlt hw (BitVec.ofNat 64 f);have hor:PO.eval (.bin .or false) [ivD (uniU l (BitVec.ofNat 64 k) (BitVec.ofNat 64 f) w),ivD (leastS l[w].1 l[w].2 (BitVec.ofNat 64 f))]=some [ivD (uniU l (BitVec.ofNat 64 k) (BitVec.ofNat 64 f) w|||leastS l[w].1 l[w].2 (BitVec.ofNat 64 f))]:=qwh false (by unfold Sml;omega) (by unfold Sml;omega)
           have hun:uniU l (BitVec.ofNat 64 k) (BitVec.ofNat 64 f) (w+1)=if (BitVec.ofNat 64 k).getLsbD w=true then uniU l (BitVec.ofNat 64 k) (BitVec.ofNat 64 f) w|||leastS l[w].1 l[w].2 (BitVec.ofNat 64 f) else uniU l (BitVec.ofNat 64 k) (BitVec.ofNat 64 f) w:=by
            have e:l.getD w ([],[])=l[w]:=by simp[hw]
            rw[uniU,e]
           rw[hun] at hnext3;have hon':=hon w;have hsh':=hsh w;have hbt':=hbt w;generalize uniU l (BitVec.ofNat 64 k) (BitVec.ofNat 64 f) w=U at *;generalize leastS l[w].1 l[w].2 (BitVec.ofNat 64 f)=Lw at *;cases hb:(BitVec.ofNat 64 k).getLsbD w with
           | true=>
            rw[hb] at hon' hnext3;rw[if_pos rfl] at hnext3;simp (disch:=omega) only[ir32p2,ir32p1,qa,qb,eq_self,aBin,reduceIte,hw,hrow,hsh',hbt',hon',hck3,hget,hle,hor,hset3,List.set_set,wr,natS,hnext3]
           | false=>
            rw[hb] at hon' hnext3;rw[if_neg (by decide)] at hnext3
            simp (disch:=omega) only[ir32p2,ir32p1,qa,qb,eq_self,aBin,reduceIte,hw,hrow,hsh',hbt',hon',wr,natS,hnext3]
         · rintro _ M3 _;simp (disch:=omega) only[ir32p2,ir32p0,qa,qb,eq_self,aBin,reduceIte,Nat.lt_irrefl,wr,natS,hnext2]
     · rintro _ M2 _;rw[hRl.symm,qct,hRl];simp (disch:=omega) only[ir32p3,qa,qb,eq_self,aBin,reduceIte,Nat.lt_irrefl,happ,wr,natS,hnext]
   · rintro _ M _;have he:(mkT kind l N).take N=mkT kind l N:=by rw[List.take_of_length_le (by rw[qon];exact Nat.le_refl _)]
     simp (disch:=omega) only[ir32p4,qa,qb,eq_self,aBin,reduceIte,Nat.lt_irrefl,he]
 · rw[if_neg he];simp (disch:=omega) only[ir32,qa,qb,eq_self,aBin,reduceIte,ho,ibne,he]
end Go.Proofs.YtnfecjmddbehiaaGreat

/- What functions of the program compute: lemmas. -/
import Derived.Test.YtnfecjmddbehiaaGreatMk1
import Derived.Test.YtnfecjmddbehiaaGreatOd
set_option linter.unusedSimpArgs false
set_option linter.unusedVariables false
set_option linter.unusedSectionVars false
namespace Go.Proofs.YtnfecjmddbehiaaGreat
open Go Am
set_option maxRecDepth 100000
theorem qdl (a:Int) (t:D):run tb 22 [.int .i64 a,t]=some [.int .i64 (if a=1 then 2 else if a=2 then 4 else 0),.int .i64 (szT a:Int)]:=by
 refine qc (x:=ir22) rfl ?_;unfold szT
 by_cases h1:a=1
 · simp only[ir22,qa,qb,eq_self,aBin,reduceIte,Int.reduceEq,h1,if_true]
 · by_cases h2:a=2
   · simp only[ir22,qa,qb,eq_self,aBin,Int.reduceEq,h2,Int.reduceEq,if_true,if_false]
   · simp only[ir22,qa,qb,eq_self,aBin,reduceIte,h1,h2,if_false]
theorem qxj (kind:Int):run tb 21 [.int .i64 kind]=some [.int .i64 ((postN kind).1:Int),.int .i64 ((postN kind).2:Int)]:=by
 refine qc (x:=ir21) rfl ?_;unfold postN
 by_cases h1:kind=1
 · simp only[ir21,qa,qb,eq_self,aBin,reduceIte,Int.reduceEq,h1,if_true]
 · by_cases h2:kind=2
   · simp only[ir21,qa,qb,eq_self,aBin,Int.reduceEq,h2,Int.reduceEq,if_true,if_false]
   · by_cases h3:kind=3
     · simp only[ir21,qa,qb,eq_self,aBin,Int.reduceEq,h3,Int.reduceEq,if_true,if_false]
     · simp only[ir21,qa,qb,eq_self,aBin,reduceIte,h1,h2,h3,if_false]
theorem qim {i:Nat} (h:i<63):PO.eval (.bin .shl false) [.int .i64 1,bvD (BitVec.ofNat 64 i)]=some [.int .i64 ((2^i:Nat):Int)]:=by
 have:bvD (BitVec.ofNat 64 i) = .int .u64 (i:Int):=by unfold bvD;rw[BitVec.toNat_ofNat,Nat.mod_eq_of_lt (by omega)]
 rw[this];exact qwn false .u64 h
theorem qvx (i:Nat):BitVec.ofNat 64 (2^i)=1#64 <<< i:=by
 apply BitVec.eq_of_toNat_eq
 simp[Nat.shiftLeft_eq]
theorem qnnb {k w:Nat} (hk:k<18446744073709551616) (hw:w<18446744073709551616):PO.eval (.bin .shr false) [.int .i64 (k:Int),bvD (BitVec.ofNat 64 w)]=some [ivD (BitVec.ofNat 64 k >>> w)]:=by
 have:bvD (BitVec.ofNat 64 w) = .int .u64 (w:Int):=by unfold bvD;rw[BitVec.toNat_ofNat,Nat.mod_eq_of_lt (by omega)]
 rw[this,qpf hk];exact qygb false .u64 _ w
theorem qseb (l:List OO) (kind:Int) (hs:Sane l) (hM:MkO l kind) (x2 x3 x4 x5 x6 x7 x8 x12 x13 x14 x15 x16 x17 x18 x19:D) (L0 L1:PF) :
 loopQ (run tb) ir6p7 [osD l,.int .i64 kind,x2,x3,x4,x5,x6,x7,x8,.int .i64 ((nam0 l).length:Int),.int .i64 ((2^(nam0 l).length:Nat):Int),.int .i64 ((2^(2^(nam0 l).length):Nat):Int),x12,x13,x14,x15,x16,x17,x18,x19] [L0,L1] [.int .i64 0,.sl []] =
  some [.int .i64 ((nam0 l).length:Int),tabD (mkT kind l (2^(2^(nam0 l).length))),.int .i64 0]:=by
 have hlt:∀ {i:Nat} (hi:i<l.length) (S:BitVec 64),(leastS l[i].1 l[i].2 S).toNat<16:=fun {i} hi S=>hM.lt (List.getElem_mem hi) S
 obtain ⟨n,hn⟩:∃ n,n=(nam0 l).length:=⟨_,rfl⟩;have hat:=hM.at_;rw[← hn] at hat ⊢;have hlen:=hM.len;rw[← hn] at hlen
 have hleast:∀ {i:Nat} (hi:i<l.length) (f:Nat),run tb 26 [strsD l[i].1,numsD l[i].2,bvD (BitVec.ofNat 64 f)]=some [bvD (leastS l[i].1 l[i].2 (BitVec.ofNat 64 f))]:=fun {i} hi f=>
  qqm l[i].1 l[i].2 (hs.nm _ (List.getElem_mem hi)) (hs.st _ (List.getElem_mem hi)) (hs.rk _ (List.getElem_mem hi)) (BitVec.ofNat 64 f)
 have hint:∀ {i:Nat} (hi:i<l.length) (S:BitVec 64),PO.eval (.conv .i64) [bvD (leastS l[i].1 l[i].2 S)]=some [ivD (leastS l[i].1 l[i].2 S)]:=fun {i} hi S=>qlob (by have:=hlt hi S;omega)
 have hN16:2^(2^n)≤16:=by rcases hat with e|e<;>rw[e]<;>decide
 have hwant:(kind=1∨kind=2)→l.length=2^(2^n):=fun h=>by rw[hlen];unfold wantN;rw[if_neg (by omega)]
 have hwant3:kind=3→l.length=2^n:=fun h=>by rw[hlen];unfold wantN;rw[if_pos h]
 have huni:=fun k f {m:Nat} (hm:m≤l.length)=>hM.uni k f hm
 have hkd:=hM.kd;clear hlen hM;generalize hN:2^(2^n)=N at *;have hmkN:=mkN (n:=N) (by omega)
 rw[qls];refine qk (σ:=Unit) N (fun _ _=>True) (fun k _=>[.int .i64 k,tabD ((mkT kind l N).take k)]) (fun _ _=>[.int .i64 (n:Int),tabD (mkT kind l N),.int .i64 0]) ?_ ?_ 0 () (Nat.zero_le _) trivial
 · rintro k _ M hk _ hM;have hnext:=hM () trivial;rw[qzx kind l hk] at hnext;obtain ⟨R,hR⟩:∃ R,R=rowT kind l N k:=⟨_,rfl⟩;have hRl:R.length=N:=by rw[hR,qao]
   have hRg:∀ f,f<N→R.getD f 0=((entB kind l N k f).toNat:Int):=fun f hf=>by rw[hR];exact qrdb hf
   rw[← hR] at hnext;have hz:=qcn R;rw[hRl] at hz;rw[hz] at hmkN;have happ:=qtlb (rows:=(mkT kind l N).take k) (r:=R) (by rw[List.length_take];omega)
   simp (disch:=omega) only[ir6p7,qa,qb,eq_self,aBin,reduceIte,hk,hmkN];refine qk (σ:=Unit) N (fun _ _=>True) (fun f _=>[.int .i64 f,numsD (fil R f)]) (fun _ _=>[.int .i64 (n:Int),tabD (mkT kind l N),.int .i64 0]) ?_ ?_ 0 () (Nat.zero_le _) trivial
   · rintro f _ M2 hf _ hM2;have hnext2:=hM2 () trivial;rw[← qxm (by omega),hRg f hf] at hnext2
     have hck:=qbk (l:=fil R f) (i:=f) (by rw[qte];omega)
     have hset:=fun x=>qbkb (l:=fil R f) (i:=f) (by rw[qte];omega) x
     have hcf:=qyd f;rcases hkd with k1|k2|k3
     · have hkl:k<l.length:=by rw[hwant (.inl k1)];exact hk
       have hrow:=qqi hkl;have hle:=hleast hkl f;have hi2:=hint hkl (BitVec.ofNat 64 f);have hE:entB kind l N k f=leastS l[k].1 l[k].2 (BitVec.ofNat 64 f):=by unfold entB;rw[if_pos k1];simp[hkl]
       rw[hE] at hnext2;simp (disch:=omega) only[ir6p6,ir6p3,qa,qb,eq_self,aBin,reduceIte,hf,k1,hrow,hcf,hle,hi2,hck,hset,wr,natS,hnext2]
     · have hkl:k<l.length:=by rw[hwant (.inr k2)];exact hk
       have hrow:=qqi hkl;have hle:=hleast hkl (N-1-f);have hi2:=hint hkl (BitVec.ofNat 64 (N-1-f));have hE:entB kind l N k f=BitVec.ofNat 64 k|||leastS l[k].1 l[k].2 (BitVec.ofNat 64 (N-1-f)):=by unfold entB;rw[if_neg (by omega),if_pos k2];simp[hkl]
       rw[hE] at hnext2;have n1:¬ (2:Int)=1:=by decide
       have s1:IntKind.i64.wrap ((N:Int)-1)=((N-1:Nat):Int):=by rw[wr (by omega) (by omega)];omega
       have s2:IntKind.i64.wrap (((N-1:Nat):Int)-(f:Int))=((N-1-f:Nat):Int):=by rw[wr (by omega) (by omega)];omega
       have hcn:=qyd (N-1-f)
       have hor:PO.eval (.bin .or false) [.int .i64 (k:Int),ivD (leastS l[k].1 l[k].2 (BitVec.ofNat 64 (N-1-f)))]=some [ivD (BitVec.ofNat 64 k|||leastS l[k].1 l[k].2 (BitVec.ofNat 64 (N-1-f)))]:=by
        rw[qpf (n:=k) (by omega)]
        refine qwh false ?_ ?_
        · unfold Sml;rw[BitVec.toNat_ofNat];omega
        · unfold Sml;have:=hlt hkl (BitVec.ofNat 64 (N-1-f));omega
       simp (disch:=omega) only[ir6p6,ir6p3,qa,qb,eq_self,aBin,reduceIte,hf,k2,n1,hrow,s1,s2,hcn,hle,hi2,hor,hck,hset,wr,natS,hnext2]
     · subst k3;have hl3:=hwant3 rfl;have hl4:l.length≤4:=by rw[hl3];rcases hat with e|e<;>rw[e]<;>decide
       have n1:¬ (3:Int)=1:=by decide
       have n2:¬ (3:Int)=2:=by decide
       have hE:entB 3 l N k f=uniU l (BitVec.ofNat 64 k) (BitVec.ofNat 64 f) l.length:=by unfold entB;rw[if_neg (by omega),if_neg (by omega)]
       rw[hE] at hnext2;obtain ⟨kD,hkD⟩:∃ d,d=D.int .i64 (k:Int):=⟨_,rfl⟩;rw[← hkD,← hl3];have hsm:Sml (BitVec.ofNat 64 k):=by unfold Sml;rw[BitVec.toNat_ofNat];omega
       have hsh:∀ w:Nat,w<100→PO.eval (.bin .shr false) [kD,bvD (BitVec.ofNat 64 w)]=some [ivD (BitVec.ofNat 64 k >>> w)]:=fun w hw=>by rw[hkD];exact qnnb (by omega) (by omega)
       have hbt:∀ w:Nat,PO.eval (.bin .and false) [ivD (BitVec.ofNat 64 k >>> w),.int .i64 1]=some [ivD (BitVec.ofNat 64 k >>> w&&&1#64)]:=qzw hsm;have hon:∀ w:Nat,PO.eval (.bin .eql false) [ivD (BitVec.ofNat 64 k >>> w&&&1#64),.int .i64 1]=some [.bool ((BitVec.ofNat 64 k).getLsbD w)]:=qkv _;simp (disch:=omega) only[ir6p6,qa,qb,eq_self,aBin,reduceIte,hf,n1,n2];have h0:(fil R f).set f (((uniU l (BitVec.ofNat 64 k) (BitVec.ofNat 64 f) 0).toNat:Nat):Int)=fil R f:=qccb (by omega)
       rw[← h0];refine qk (σ:=Unit) l.length (fun _ _=>True) (fun w _=>[.int .i64 w,numsD ((fil R f).set f (((uniU l (BitVec.ofNat 64 k) (BitVec.ofNat 64 f) w).toNat:Nat):Int))]) (fun _ _=>[.int .i64 (n:Int),tabD (mkT 3 l N),.int .i64 0]) ?_ ?_ 0 () (Nat.zero_le _) trivial
       · rintro w _ M3 hw _ hM3;have hnext3:=hM3 () trivial;have hrow:=qqi hw;have hle:=hleast hw f;have hi2:=hint hw (BitVec.ofNat 64 f);have hsl:∀ x:Int,((fil R f).set f x).length=N:=fun x=>by rw[List.length_set,qte,hRl]
         have hck3:=fun x:Int=>qbk (l:=(fil R f).set f x) (i:=f) (by rw[hsl];exact hf)
         have hget:=fun x:BitVec 64=>qlvb (l:=(fil R f).set f (x.toNat:Int)) (i:=f) (x:=x) (by rw[hsl];exact hf) (by rw[List.getElem_set_self])
         have hset3:=fun (x:Int) (y:BitVec 64)=>qbkb (l:=(fil R f).set f x) (i:=f) (by rw[hsl];exact hf) y
         have hu:=huni (BitVec.ofNat 64 k) (BitVec.ofNat 64 f) (m:=w) (by omega)
         have hl2:=hlt hw (BitVec.ofNat 64 f);have hor:PO.eval (.bin .or false) [ivD (uniU l (BitVec.ofNat 64 k) (BitVec.ofNat 64 f) w),ivD (leastS l[w].1 l[w].2 (BitVec.ofNat 64 f))]=some [ivD (uniU l (BitVec.ofNat 64 k) (BitVec.ofNat 64 f) w|||leastS l[w].1 l[w].2 (BitVec.ofNat 64 f))]:=qwh false (by unfold Sml;omega) (by unfold Sml;omega)
         have hun:uniU l (BitVec.ofNat 64 k) (BitVec.ofNat 64 f) (w+1)=if (BitVec.ofNat 64 k).getLsbD w=true then uniU l (BitVec.ofNat 64 k) (BitVec.ofNat 64 f) w|||leastS l[w].1 l[w].2 (BitVec.ofNat 64 f) else uniU l (BitVec.ofNat 64 k) (BitVec.ofNat 64 f) w:=by
          have e:l.getD w ([],[])=l[w]:=by simp[hw]
          rw[uniU,e]
         rw[hun] at hnext3;have hon':=hon w;have hsh':=hsh w (by omega)
         have hbt':=hbt w;have hcw:=qyd w;generalize uniU l (BitVec.ofNat 64 k) (BitVec.ofNat 64 f) w=U at *;generalize leastS l[w].1 l[w].2 (BitVec.ofNat 64 f)=Lw at *;cases hb:(BitVec.ofNat 64 k).getLsbD w with
         | true=>
          rw[hb] at hon' hnext3;rw[if_pos rfl] at hnext3;simp (disch:=omega) only[ir6p5,ir6p4,qa,qb,eq_self,aBin,reduceIte,hw,hcw,hsh',hbt',hon',hck3,hget,hrow,hcf,hle,hi2,hor,hset3,List.set_set,wr,natS,hnext3]
         | false=>
          rw[hb] at hon' hnext3;rw[if_neg (by decide)] at hnext3
          simp (disch:=omega) only[ir6p5,ir6p4,qa,qb,eq_self,aBin,reduceIte,hw,hcw,hsh',hbt',hon',wr,natS,hnext3]
       · rintro _ M3 _;simp (disch:=omega) only[ir6p5,ir6p3,qa,qb,eq_self,aBin,reduceIte,Nat.lt_irrefl,wr,natS,hnext2]
   · rintro _ M2 _;rw[hRl.symm,qct,hRl];simp (disch:=omega) only[ir6p6,qa,qb,eq_self,aBin,reduceIte,Nat.lt_irrefl,happ,wr,natS,hnext]
 · rintro _ M _;have he:(mkT kind l N).take N=mkT kind l N:=by rw[List.take_of_length_le (by rw[qon];exact Nat.le_refl _)]
   simp (disch:=omega) only[ir6p7,qa,qb,eq_self,aBin,reduceIte,Nat.lt_irrefl,he]
theorem qqs (l:List OO) (kind:Int) (hs:Sane l) (hM:MkO l kind) (x2 x3 x4 x5 x6 x7 x8 x12 x13 x14 x15 x16:D) (L0:PF) :
 loopQ (run tb) ir6p8 [osD l,.int .i64 kind,x2,x3,x4,x5,x6,x7,x8,.int .i64 ((nam0 l).length:Int),.int .i64 ((2^(nam0 l).length:Nat):Int),.int .i64 ((2^(2^(nam0 l).length):Nat):Int),x12,x13,x14,x15,x16] [L0] [.int .i64 0] =
  some (if anyI (badB kind) 0 l=true then [.int .i64 0,.sl [],.int .i64 7] else [.int .i64 ((nam0 l).length:Int),tabD (mkT kind l (2^(2^(nam0 l).length))),.int .i64 0]):=by
 have hn:=hs.n;have hlO:=qwy l;have ht:=qseb l kind hs hM;generalize hT:[D.int .i64 ((nam0 l).length:Int),tabD (mkT kind l (2^(2^(nam0 l).length))),.int .i64 0]=T at *
 have hl64:kind=3→l.length≤4:=fun h=>by
  have:=hM.len;rw[this];unfold wantN;rw[if_pos h];rcases hM.at_ with e|e<;>rw[e]<;>decide
 refine qk (σ:=Unit) l.length (fun _ _=>True) (fun i _=>[.int .i64 i]) (fun i _=>if anyI (badB kind) i (l.drop i)=true then [.int .i64 0,.sl [],.int .i64 7] else T) ?_ ?_ 0 () (Nat.zero_le _) trivial
 · rintro i _ M hi _ hM;have hnext:=hM () trivial;have hm:=List.getElem_mem hi;have hrow:=qqi hi;have hbel:=qqr l[i].1 l[i].2 (hs.nm _ hm) (hs.st _ hm) (hs.rk _ hm);have hq:=qxfb false (beliefsS l[i].1 l[i].2) (bse kind i);rw[qzp _ hi];have hb:badB kind i l[i]=(!decide (bse kind i=0#64) && !decide (beliefsS l[i].1 l[i].2=bse kind i)):=rfl;rw[hb];have hi':(i:Int)<(l.length:Int):=by omega
   by_cases k3:kind=3
   · have hbs:bse kind i=1#64 <<< i:=by unfold bse;rw[if_pos k3]
     have hi4:=hl64 k3;rw[hbs] at hq ⊢;have hc:=qyd i;have hsh:=qim (i:=i) (by omega)
     have hc2:PO.eval (.conv .u64) [.int .i64 ((2^i:Nat):Int)]=some [bvD (1#64 <<< i)]:=by rw[qyd,qvx]
     have hpos:¬ ((2^i:Nat):Int)=0:=by have:=Nat.two_pow_pos i;omega
     have hne:¬ (1#64 <<< i=0#64):=by
      rw[← qvx];intro h;have:=congrArg BitVec.toNat h;rw[BitVec.toNat_ofNat,Nat.mod_eq_of_lt (Nat.pow_lt_pow_right (by omega) (by omega))] at this
      have:=Nat.two_pow_pos i;simp at *
     rw[decide_eq_false hne];generalize ((2^i:Nat):Int)=pi at *;cases hd2:decide (beliefsS l[i].1 l[i].2=1#64 <<< i) with
     | true=>
      rw[hd2] at hq;simp (disch:=omega) only[ir6p8,ir6p2,ir6p1,qa,qb,eq_self,aBin,reduceIte,hlO,hi',hc,ibne,k3,hsh,hpos,hrow,hbel,hc2,hq,wr,natS,hnext]
     | false=>
      rw[hd2] at hq;simp (disch:=omega) only[ir6p8,ir6p2,ir6p1,qa,qb,eq_self,aBin,hlO,hi',hc,ibne,k3,hsh,hpos,hrow,hbel,hc2,hq,if_true]
   · have hbs:bse kind i=BitVec.ofNat 64 i:=by unfold bse;rw[if_neg k3]
     rw[hbs] at hq ⊢;have hc:=qyd i
     have hiz:decide (BitVec.ofNat 64 i=0#64)=decide ((i:Int)=0):=by
      congr 1
      refine propext ⟨fun h=>?_,fun h=>?_⟩
      · have:=congrArg BitVec.toNat h;rw[BitVec.toNat_ofNat,Nat.mod_eq_of_lt (by omega)] at this
        simp at this;omega
      · have:i=0:=by omega
        subst this;rfl
     rw[hiz]
     by_cases hz:(i:Int)=0
     · have hzt:((i:Int)=0)=True:=eq_true hz;rw[decide_eq_true hz];simp (disch:=omega) only[ir6p8,ir6p2,ir6p1,qa,qb,eq_self,aBin,reduceIte,hlO,hi',ibne,k3,hzt,wr,natS,hnext]
     · cases hd2:decide (beliefsS l[i].1 l[i].2=BitVec.ofNat 64 i) with
       | true=>
        rw[hd2] at hq;simp (disch:=omega) only[ir6p8,ir6p2,ir6p1,qa,qb,eq_self,aBin,reduceIte,hlO,hi',ibne,k3,hz,hrow,hbel,hc,hq,wr,natS,hnext]
       | false=>
        rw[hd2] at hq;simp (disch:=omega) only[ir6p8,ir6p2,ir6p1,qa,qb,eq_self,aBin,hlO,hi',ibne,k3,hz,hrow,hbel,hc,hq,if_true]
 · rintro _ M _;rw[List.drop_length];have e:(if anyI (badB kind) l.length []=true then [D.int .i64 0,.sl [],.int .i64 7] else T)=T:=rfl
   simp (disch:=omega) only[ir6p8,qa,qb,eq_self,aBin,reduceIte,hlO,Int.lt_irrefl,e,ht]
theorem qhtb {l:List OO} (h:l.any (badO3 (nam0 l))=false):(∀ o∈l,orderE o.1 o.2=0)∧∀ o∈l,o.1=nam0 l:=by
 have key:∀ o∈l,orderE o.1 o.2=0∧o.1=nam0 l:=fun o ho=>by
  have:=List.any_eq_false.1 h o ho
  simpa [badO3] using this
 exact ⟨fun o ho=>(key o ho).1,fun o ho=>(key o ho).2⟩
theorem qbcb (l:List OO) (kind:Int) (hs:Sane l) (hp:0<l.length) (k0:¬ (postN kind).1=0) (h3:l.any (badO3 (nam0 l))=false) (x2 x3 x4 x5 x6 x7 x8 x14 x15:D) (L0:PF) (hx15:True) :
 den (run tb) (.letj 1 (.op (.bin .eql false) [.v 11,.c (.int .i64 0)] (.ite (.v 16) (.jump 1 [.c (.bool true)]) (.op .lenL [.v 0] (.op (.bin .neq false) [.v 17,.v 12] (.jump 1 [.v 18]))))) ir6p9)
  [osD l,.int .i64 kind,x2,x3,x4,x5,x6,x7,x8,.int .i64 ((nam0 l).length:Int),.int .i64 (if ((nam0 l).length:Int)=1 then 2 else if ((nam0 l).length:Int)=2 then 4 else 0),.int .i64 (szT ((nam0 l).length:Int):Int),.int .i64 (if kind=3 then (if ((nam0 l).length:Int)=1 then 2 else if ((nam0 l).length:Int)=2 then 4 else 0) else (szT ((nam0 l).length:Int):Int)),.int .i64 l.length,x14,x15] [L0]=some (mkV l kind):=by
 have hlO:=qwy l;obtain ⟨hok,hnm⟩:=qhtb h3;have hE:mkE l kind=if l.any (badO (nam0 l))=true then 1 else if l.length≠wantN kind (nam0 l).length then 1 else if anyI (badB kind) 0 l=true then 7 else 0:=by unfold mkE;rw[if_neg k0,if_neg (by omega)]
 have hst:=qqs l kind hs
 by_cases hat:(nam0 l).length=1∨(nam0 l).length=2
 · have hany : l.any (badO (nam0 l)) = false := List.any_eq_false.2 fun o ho => by
    have h1:=hok o ho;have h2:=hnm o ho;unfold badO;rw[decide_eq_true h1,decide_eq_true h2,decide_eq_false (show ¬ o.1.length<1 by rw[h2];omega),decide_eq_false (show ¬ o.1.length>2 by rw[h2];omega)]
    decide
   rw[hany] at hE;rw[if_neg (by decide)] at hE
   have hw1:(if ((nam0 l).length:Int)=1 then (2:Int) else if ((nam0 l).length:Int)=2 then 4 else 0)=((2^(nam0 l).length:Nat):Int):=by
    rcases hat with e|e<;>rw[e]<;>rfl
   have hw2:(szT ((nam0 l).length:Int):Int)=((2^(2^(nam0 l).length):Nat):Int):=by
    rcases hat with e|e<;>rw[e]<;>rfl
   have hw3:(if kind=3 then ((2^(nam0 l).length:Nat):Int) else ((2^(2^(nam0 l).length):Nat):Int))=(wantN kind (nam0 l).length:Int):=by
    unfold wantN
    split<;>rfl
   have hnz:¬ ((2^(2^(nam0 l).length):Nat):Int)=0:=by rcases hat with e|e<;>rw[e]<;>decide
   rw[hw1,hw2,hw3]
   by_cases hlen:l.length=wantN kind (nam0 l).length
   · have hM:MkO l kind:=⟨qadb k0,hp,hat,hok,hnm,hlen⟩;have hst':=hst hM;rw[if_neg (by omega)] at hE
     have hV:mkV l kind=if anyI (badB kind) 0 l=true then [.int .i64 0,.sl [],.int .i64 7] else [.int .i64 ((nam0 l).length:Int),tabD (mkT kind l (2^(2^(nam0 l).length))),.int .i64 0]:=by
      unfold mkV;rw[hE];cases anyI (badB kind) 0 l<;>rfl
     rw[hV];generalize (if anyI (badB kind) 0 l=true then [D.int .i64 0,.sl [],.int .i64 7] else [.int .i64 ((nam0 l).length:Int),tabD (mkT kind l (2^(2^(nam0 l).length))),.int .i64 0])=V at *
     have hle:((l.length:Int)=(wantN kind (nam0 l).length:Int))=True:=eq_true (by rw[hlen])
     generalize ((2^(2^(nam0 l).length):Nat):Int)=NN at *;generalize ((2^(nam0 l).length:Nat):Int)=WW at *;generalize (wantN kind (nam0 l).length:Int)=QQ at *;simp (disch:=omega) only[ir6p9,qa,qb,eq_self,aBin,reduceIte,ibne,hnz,hlO,hle,hst']
   · have hV : mkV l kind = [.int .i64 0,.sl [],.int .i64 1] := by
      rw[if_pos hlen] at hE;unfold mkV;rw[hE];rfl
     rw[hV];have hle:¬ ((l.length:Int)=(wantN kind (nam0 l).length:Int)):=by omega
     generalize ((2^(2^(nam0 l).length):Nat):Int)=NN at *;generalize (wantN kind (nam0 l).length:Int)=QQ at *;simp (disch:=omega) only[ir6p9,qa,qb,eq_self,aBin,reduceIte,ibne,hnz,hlO,hle]
 · have hany : l.any (badO (nam0 l)) = true := by
    rw[List.any_eq_true];refine ⟨l[0],List.getElem_mem hp,?_⟩;have e:=hnm _ (List.getElem_mem hp);simp only[badO,e,Bool.or_eq_true,decide_eq_true_eq];omega
   rw[if_pos hany] at hE
   have hV:mkV l kind=[.int .i64 0,.sl [],.int .i64 1]:=by
    unfold mkV;rw[hE];rfl
   have hz:(szT ((nam0 l).length:Int):Int)=0:=by unfold szT;rw[if_neg (by omega),if_neg (by omega)];rfl
   rw[hV,hz];simp (disch:=omega) only[ir6p9,qa,qb,eq_self,aBin,reduceIte]
theorem qcr (l:List OO) (kind:Int) (hs:Sane l):run tb 6 [osD l,.int .i64 kind]=some (mkV l kind):=by
 refine qc (x:=ir6) rfl ?_;have hpo:=qxj kind;have hlO:=qwy l;have hn:=hs.n
 by_cases k0:(postN kind).1=0
 · have hV : mkV l kind = [.int .i64 0,.sl [],.int .i64 4] := by
    have:mkE l kind=4:=by unfold mkE;rw[if_pos k0]
    unfold mkV;rw[this];rfl
   rw[hV];have k0':((postN kind).1:Int)=0:=by omega
   simp only[ir6,qa,qb,eq_self,aBin,reduceIte,hpo,k0']
 have k0':¬ ((postN kind).1:Int)=0:=by omega
 by_cases l0:l.length=0
 · have hV : mkV l kind = [.int .i64 0,.sl [],.int .i64 1] := by
    have:mkE l kind=1:=by unfold mkE;rw[if_neg k0,if_pos l0]
    unfold mkV;rw[this];rfl
   rw[hV];have l0':(l.length:Int)=0:=by omega
   simp only[ir6,qa,qb,eq_self,aBin,reduceIte,hpo,k0',hlO,l0']
 have l0':¬ (l.length:Int)=0:=by omega
 have hp:0<l.length:=by omega
 have e0:l[0].1=nam0 l:=by simp[nam0,hp]
 have hr0:=qfgb hp;rw[e0] at hr0;have hsz:=qdl ((nam0 l).length:Int) (.sl []);have hlN:=qpb (nam0 l)
 have hE:l.any (badO3 (nam0 l))=true→mkV l kind=[.int .i64 0,.sl [],.int .i64 1]:=fun h=>by
  have hb:l.any (badO (nam0 l))=true:=by
   obtain ⟨o,ho,hb⟩:=List.any_eq_true.1 h;refine List.any_eq_true.2 ⟨o,ho,?_⟩;simp only[badO3,Bool.or_eq_true] at hb;simp only[badO,Bool.or_eq_true];rcases hb with hb|hb
   · exact .inl hb
   · exact .inr (.inr (.inr hb))
  have:mkE l kind=1:=by unfold mkE;rw[if_neg k0,if_neg (by omega),if_pos hb]
  unfold mkV;rw[this];rfl
 have hrest:=qbcb l kind hs hp k0;obtain ⟨W,hW⟩:∃ W:Int,W=if ((nam0 l).length:Int)=1 then 2 else if ((nam0 l).length:Int)=2 then 4 else 0:=⟨_,rfl⟩
 rw[← hW] at hsz hrest;obtain ⟨Q,hQ⟩:∃ Q:Int,Q=if kind=3 then W else (szT ((nam0 l).length:Int):Int):=⟨_,rfl⟩
 rw[← hQ] at hrest
 have loop:∀ x2 x3 x4 x5 x6 x7 x8:D,loopQ (run tb) ir6p10 [osD l,.int .i64 kind,x2,x3,x4,x5,x6,x7,x8,.int .i64 ((nam0 l).length:Int),.int .i64 W,.int .i64 (szT ((nam0 l).length:Int):Int),.int .i64 Q] [] [.int .i64 0]=some (mkV l kind):=by
  intro x2 x3 x4 x5 x6 x7 x8;refine qk (σ:=Unit) l.length (fun i _=>∀ o∈l.take i,badO3 (nam0 l) o=false) (fun i _=>[.int .i64 i]) (fun _ _=>mkV l kind) ?_ ?_ 0 () (Nat.zero_le _) (fun o ho=>by simp at ho)
  · rintro i _ M hi hpre hM;have hm:=List.getElem_mem hi;have hrow:=qqi hi;have hv:=qsf l[i].1 l[i].2 (hs.nm _ hm) (hs.st _ hm) (hs.rk _ hm);have heq:=qwa l[i].1 (nam0 l) (hs.nm _ hm);have hi':(i:Int)<(l.length:Int):=by omega
    by_cases c1:orderE l[i].1 l[i].2=0
    · cases hc:decide (l[i].1=nam0 l) with
      | false=>
       rw[hc] at heq;have hb:l.any (badO3 (nam0 l))=true:=List.any_eq_true.2 ⟨l[i],hm,by simp only[badO3,hc];simp⟩
       rw[hE hb];simp (disch:=omega) only[ir6p10,ir6p0,qa,qb,eq_self,aBin,reduceIte,hlO,hi',hrow,hv,ibne,c1,hr0,heq]
      | true=>
       rw[hc] at heq
       have hnx:=hM () (fun o ho=>by
        rw[List.take_add_one,List.getElem?_eq_getElem hi] at ho;rcases List.mem_append.1 ho with h|h
        · exact hpre o h
        · simp at h;subst h;simp only[badO3,hc,decide_eq_true c1];rfl)
       simp (disch:=omega) only[ir6p10,ir6p0,qa,qb,eq_self,aBin,reduceIte,hlO,hi',hrow,hv,ibne,c1,hr0,heq,wr,natS,hnx]
    · have hb:l.any (badO3 (nam0 l))=true:=List.any_eq_true.2 ⟨l[i],hm,by simp only[badO3,decide_eq_false c1];rfl⟩
      rw[hE hb];simp (disch:=omega) only[ir6p10,ir6p0,qa,qb,eq_self,aBin,reduceIte,hlO,hi',hrow,hv,ibne,c1]
  · rintro _ M hpre;rw[List.take_length] at hpre;have hany:l.any (badO3 (nam0 l))=false:=List.any_eq_false.2 fun o ho=>by rw[hpre o ho];decide
    have:=hrest hany x2 x3 x4 x5 x6 x7 x8 (.int .i64 l.length) (.bool false) M trivial;have hil:¬ (l.length:Int)<(l.length:Int):=Int.lt_irrefl _;simp (disch:=omega) only[ir6p10,qa,qb,eq_self,aBin,reduceIte,hlO,hil];simp (disch:=omega) only[qa,qb,eq_self,aBin,reduceIte] at this;exact this
 by_cases k3:kind=3
 · have hQ':Q=W:=by rw[hQ,if_pos k3]
   subst hQ';subst k3;simp (disch:=omega) only[ir6,ir6p11,qa,qb,eq_self,aBin,reduceIte,hpo,k0',hlO,l0',hr0,hlN,hsz,loop]
 · have hQ':Q=(szT ((nam0 l).length:Int):Int):=by rw[hQ,if_neg k3]
   rw[hQ'] at loop;simp (disch:=omega) only[ir6,ir6p11,qa,qb,eq_self,aBin,reduceIte,hpo,k0',hlO,l0',hr0,hlN,hsz,k3,loop]
end Go.Proofs.YtnfecjmddbehiaaGreat

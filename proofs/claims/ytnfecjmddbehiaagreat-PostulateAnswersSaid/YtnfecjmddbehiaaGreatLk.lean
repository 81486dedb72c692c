/- What functions of the program compute: lemmas. -/
import Derived.Test.YtnfecjmddbehiaaGreatMk3
import Derived.Test.YtnfecjmddbehiaaGreatOd
import Derived.Test.YtnfecjmddbehiaaGreatAm8
import Derived.Test.YtnfecjmddbehiaaGreatBc
import Derived.Test.YtnfecjmddbehiaaGreatBn
set_option linter.unusedSimpArgs false
set_option linter.unusedVariables false
set_option linter.unusedSectionVars false
namespace Go.Proofs.YtnfecjmddbehiaaGreat
open Go Am
set_option maxRecDepth 100000
theorem qqj (n k:Nat) (hn:n≤2) (hk:k<16) (hkn:∀ w,(BitVec.ofNat 64 k).getLsbD w=true→w<2^n) (l:List Int) (p:Nat) (hl:l.length≤2000) (hp:p≤l.length) :
 ∃ (o:OO) (b:Nat),b≤l.length∧FitO n (BitVec.ofNat 64 k) o∧run tb 20 [.int .i64 n,.int .i64 k,numsD l,.int .i64 p]=some [strsD o.1,numsD o.2,numsD l,.int .i64 b]:=by
 have h4:2^n≤4:=by
  have:=Nat.pow_le_pow_right (n:=2) (by omega) hn;omega
 have hmk:=mkN (n:=2^n) (by omega)
 have hcn:=qyd n;have hsh:=qim (i:=n) (by omega)
 have hvc:=qtfb n (by omega)
 have hsm:Sml (BitVec.ofNat 64 k):=by unfold Sml;rw[BitVec.toNat_ofNat];omega
 obtain ⟨kD,hkD⟩:∃ d,d=D.int .i64 (k:Int):=⟨_,rfl⟩;have hshr:∀ w:Nat,w<100→PO.eval (.bin .shr false) [kD,bvD (BitVec.ofNat 64 w)]=some [ivD (BitVec.ofNat 64 k >>> w)]:=fun w hw=>by rw[hkD];exact qnnb (by omega) (by omega)
 have hbt:∀ w:Nat,PO.eval (.bin .and false) [ivD (BitVec.ofNat 64 k >>> w),.int .i64 1]=some [ivD (BitVec.ofNat 64 k >>> w&&&1#64)]:=qzw hsm;have hon:∀ w:Nat,PO.eval (.bin .eql false) [ivD (BitVec.ofNat 64 k >>> w&&&1#64),.int .i64 1]=some [.bool ((BitVec.ofNat 64 k).getLsbD w)]:=qkv _;obtain ⟨N,hN⟩:∃ N,N=2^n:=⟨_,rfl⟩;rw[← hN] at h4 hmk hsh;have hfit:=fun (rs:List Int) (h1:rs.length=N) (h2:∀ w,w<N→((BitVec.ofNat 64 k).getLsbD w=true→rs.getD w 0=0)∧(¬ (BitVec.ofNat 64 k).getLsbD w=true→1≤rs.getD w 0))=>qsmb (n:=n) (by omega) (K:=BitVec.ofNat 64 k) (rs:=rs) (by rw[h1,hN]) hkn (by rw[← hN];exact h2)
 have key:=qxn (run:=run tb) (body:=ir20p1) (e:=[.int .i64 n,kD,numsD l,.int .i64 p,bvD (BitVec.ofNat 64 n),.int .i64 (N:Int),numsD (List.replicate N 0)]) (J:=[]) (σ:=Nat × List Int) N
  (fun i s=>s.1≤l.length∧s.2.length=N∧∀ w,w<i→((BitVec.ofNat 64 k).getLsbD w=true→s.2.getD w 0=0)∧(¬ (BitVec.ofNat 64 k).getLsbD w=true→1≤s.2.getD w 0)) (fun i s=>[.int .i64 i,numsD l,.int .i64 s.1,numsD s.2])
  (fun r=>∃ (o:OO) (b:Nat),b≤l.length∧FitO n (BitVec.ofNat 64 k) o∧r=[strsD o.1,numsD o.2,numsD l,.int .i64 b])
  (by
   rintro i ⟨q,rs⟩ L hi ⟨hq,hrs,hpre⟩ hL;simp only at hq hrs hpre;obtain ⟨x,q',x0,x1,hq',hx⟩:=qpwb 4 l q hl hq (by omega) (by omega)
   have hxs:IntKind.i64.wrap (1+x)=1+x:=wr (by omega) (by omega)
   have hc:=qbk (l:=rs) (i:=i) (by omega)
   have hst:=qwt (l:=rs) (i:=i) (by omega) (1+x)
   have hc2:=qbk (l:=rs.set i (1+x)) (i:=i) (by rw[List.length_set];omega)
   have hst2:=qwt (l:=rs.set i (1+x)) (i:=i) (by rw[List.length_set];omega) 0
   rw[List.set_set] at hst2;have hci:=qyd i;have hsi:=hshr i (by omega)
   have hbi:=hbt i;have hoi:=hon i
   have gset:∀ (v:Int) (w:Nat),w<i+1→(rs.set i v).getD w 0=if w=i then v else rs.getD w 0:=fun v w hw=>by
    rw[List.getD_eq_getElem?_getD,List.getElem?_set]
    by_cases h:i=w
    · subst h;rw[if_pos rfl,if_pos rfl,if_pos (by omega)];rfl
    · rw[if_neg h,if_neg (fun e=>h e.symm),List.getD_eq_getElem?_getD]
   cases hb:(BitVec.ofNat 64 k).getLsbD i with
   | true=>
    rw[hb] at hoi
    obtain ⟨r,hr,hpost⟩:=hL (q',rs.set i 0) ⟨hq',by simpa using hrs,fun w hw=>by
     simp only;rw[gset 0 w hw]
     by_cases h:w=i
     · subst h;rw[if_pos rfl];exact ⟨fun _=>rfl,fun hn=>absurd hb hn⟩
     · rw[if_neg h];exact hpre w (by omega)⟩
    refine ⟨r,?_,hpost⟩;simp only at hr;simp (disch:=omega) only[ir20p1,ir20p0,qa,qb,eq_self,aBin,reduceIte,qu,hrs,hi,hx,hxs,hc,hst,hci,hsi,hbi,hoi,hc2,hst2,wr,natS,hr]
   | false=>
    rw[hb] at hoi
    obtain ⟨r,hr,hpost⟩:=hL (q',rs.set i (1+x)) ⟨hq',by simpa using hrs,fun w hw=>by
     simp only;rw[gset (1+x) w hw]
     by_cases h:w=i
     · subst h;rw[if_pos rfl];exact ⟨fun hn=>absurd hn (by rw[hb];decide),fun _=>by omega⟩
     · rw[if_neg h];exact hpre w (by omega)⟩
    refine ⟨r,?_,hpost⟩;simp only at hr;simp (disch:=omega) only[ir20p1,ir20p0,qa,qb,eq_self,aBin,reduceIte,qu,hrs,hi,hx,hxs,hc,hst,hci,hsi,hbi,hoi,wr,natS,hr])
  (by
   rintro ⟨q,rs⟩ L ⟨hq,hrs,hpre⟩;simp only at hq hrs hpre;refine ⟨_,?_,(vocN n,normS rs),q,hq,hfit rs hrs hpre,rfl⟩;have hno:=qtj (vocN n) rs (by rw[qlb];omega) (fun s hs=>by rw[qph s hs];omega) (by omega)
   rw[if_pos (by simp[normE,qbu (show n≤6 by omega),qlb,hrs,hN])] at hno
   simp (disch:=omega) only[ir20p1,qa,qb,eq_self,aBin,reduceIte,qu,hrs,Nat.lt_irrefl,hvc,hno])
 obtain ⟨r,hr,o,b,h1,h2,rfl⟩:=key 0 (p,List.replicate N 0) (Nat.zero_le _) ⟨hp,by simp,fun w hw=>absurd hw (by omega)⟩
 refine ⟨o,b,h1,h2,qc (x:=ir20) rfl ?_⟩;simp only[nat0] at hr;rw[← hkD];simp (disch:=omega) only[ir20,qa,qb,hcn,hsh,hmk]
 simpa only[List.cons_append,List.nil_append] using hr
theorem qkmb {os:List OO} {o:OO} (h:os.length<1000000000):PO.eval (.app 2 48) [osD os,.sl [[strsD o.1,numsD o.2]]]=some [osD (os++[o])]:=by
 have:=qmq (sz:=2) (bt:=48) (xs:=os.map fun o=>[strsD o.1,numsD o.2]) (ys:=[[strsD o.1,numsD o.2]]) (by simp;omega) (by simp;omega) rfl
 simpa [osD] using this
theorem qyw:D.sl []=osD []:=rfl
theorem qea (n:Nat) (hn:n=1∨n=2) (kind:Int) (l:List Int) (p:Nat) (hl:l.length≤2000) (hp:p≤l.length) :
 ∃ (os:List OO) (b:Nat),b≤l.length∧FitL n kind os∧run tb 5 [.int .i64 n,.int .i64 kind,numsD l,.int .i64 p]=some [osD os,numsD l,.int .i64 b]:=by
 have hcn:=qyd n;have hsh:=qim (i:=n) (by omega)
 have hsu:=qayb (i:=n) (by omega)
 have hsn:PO.eval (.bin .shl false) [.int .i64 1,bvD (1#64 <<< n)]=some [.int .i64 ((2^(2^n):Nat):Int)]:=by
  rw[← qvx];exact qim (by rcases hn with rfl|rfl<;>decide)
 have hN2:2^n=2∨2^n=4:=by rcases hn with rfl|rfl<;>simp
 have h16:2^(2^n)≤16:=by rcases hn with rfl|rfl<;>decide
 have start:FitL n kind []∨True:=.inr trivial
 have snoc:∀ {i:Nat} {os:List OO} {o:OO},os.length=i→(∀ j (h:j<os.length),FitO n (bse kind j) os[j])→FitO n (bse kind i) o→∀ j (h:j<(os++[o]).length),FitO n (bse kind j) (os++[o])[j]:=fun {i os o} h1 h2 h3 j h=>by
  by_cases hj:j<os.length
  · rw[List.getElem_append_left hj];exact h2 j hj
  · have:j=os.length:=by simp at h;omega
    subst this;rw[List.getElem_append_right (Nat.le_refl _)];simp only[Nat.sub_self,List.getElem_cons_zero];rw[h1];exact h3
 by_cases k3:kind=3
 · obtain ⟨N,hN⟩:∃ N,N=2^n:=⟨_,rfl⟩;rw[← hN] at hsh
   have key:=qxn (run:=run tb) (body:=ir5p0) (e:=[.int .i64 n,.int .i64 kind,numsD l,.int .i64 p,.bool true]) (J:=[]) (σ:=Nat × List OO) N
    (fun i s=>s.1≤l.length∧s.2.length=i∧∀ j (h:j<s.2.length),FitO n (bse kind j) s.2[j]) (fun i s=>[.int .i64 i,numsD l,.int .i64 s.1,osD s.2])
    (fun r=>∃ (os:List OO) (b:Nat),b≤l.length∧FitL n kind os∧r=[osD os,numsD l,.int .i64 b])
    (by
     rintro i ⟨q,os⟩ L hi ⟨hq,hos,hpre⟩ hL;simp only at hq hos hpre;have hi4:i<2^n:=by omega
     have hi16:2^i<2^(2^n):=Nat.pow_lt_pow_right (by omega) hi4
     obtain ⟨o,b,hb,hfo,hfr⟩:=qqj n (2^i) (by omega) (by omega) (qin hN2 hi16) l q hl hq
     have hbs:bse kind i=BitVec.ofNat 64 (2^i):=by unfold bse;rw[if_pos k3,qvx]
     rw[← hbs] at hfo;obtain ⟨r,hr,hpost⟩:=hL (b,os++[o]) ⟨hb,by simp[hos],snoc hos hpre hfo⟩
     refine ⟨r,?_,hpost⟩;simp only at hr;have hci:=qyd i;have hsi:=qim (i:=i) (by rcases hN2 with e|e<;>omega)
     have happ:=qkmb (os:=os) (o:=o) (by omega)
     have hmk2:PO.eval (.mk 2 1) [strsD o.1,numsD o.2]=some [.sl [[strsD o.1,numsD o.2]]]:=rfl;have hlt:(i:Int)<(N:Int):=by omega
     generalize ((2^i:Nat):Int)=pi at *;simp (disch:=omega) only[ir5p0,qa,qb,eq_self,aBin,reduceIte,hcn,hsh,hlt,hci,hsi,hfr,hmk2,happ,wr,natS,hr])
    (by
     rintro ⟨q,os⟩ L ⟨hq,hos,hpre⟩;simp only at hq hos hpre;refine ⟨_,?_,os,q,hq,⟨by rw[hos,hN];unfold wantN;rw[if_pos k3],hpre⟩,rfl⟩
     simp (disch:=omega) only[ir5p0,qa,qb,eq_self,aBin,reduceIte,hcn,hsh,Int.lt_irrefl])
   obtain ⟨r,hr,os,b,h1,h2,rfl⟩:=key 0 (p,[]) (Nat.zero_le _) ⟨hp,rfl,fun j h=>by simp at h⟩
   refine ⟨os,b,h1,h2,qc (x:=ir5) rfl ?_⟩;simp only[nat0] at hr;rw[qyw.symm] at hr;simp (disch:=omega) only[ir5,qa,qb,eq_self,aBin,reduceIte,k3]
   simpa only[List.cons_append,List.nil_append,k3] using hr
 · obtain ⟨N,hN⟩:∃ N,N=2^(2^n):=⟨_,rfl⟩;rw[← hN] at hsn
   have key:=qxn (run:=run tb) (body:=ir5p1) (e:=[.int .i64 n,.int .i64 kind,numsD l,.int .i64 p,.bool false]) (J:=[]) (σ:=Nat × List OO) N
    (fun i s=>s.1≤l.length∧s.2.length=i∧∀ j (h:j<s.2.length),FitO n (bse kind j) s.2[j]) (fun i s=>[.int .i64 i,numsD l,.int .i64 s.1,osD s.2])
    (fun r=>∃ (os:List OO) (b:Nat),b≤l.length∧FitL n kind os∧r=[osD os,numsD l,.int .i64 b])
    (by
     rintro i ⟨q,os⟩ L hi ⟨hq,hos,hpre⟩ hL;simp only at hq hos hpre;have hi16:i<2^(2^n):=by omega
     obtain ⟨o,b,hb,hfo,hfr⟩:=qqj n i (by omega) (by omega) (qin hN2 hi16) l q hl hq
     have hbs:bse kind i=BitVec.ofNat 64 i:=by unfold bse;rw[if_neg k3]
     rw[← hbs] at hfo;obtain ⟨r,hr,hpost⟩:=hL (b,os++[o]) ⟨hb,by simp[hos],snoc hos hpre hfo⟩
     refine ⟨r,?_,hpost⟩;simp only at hr;have happ:=qkmb (os:=os) (o:=o) (by omega)
     have hmk2:PO.eval (.mk 2 1) [strsD o.1,numsD o.2]=some [.sl [[strsD o.1,numsD o.2]]]:=rfl;have hlt:(i:Int)<(N:Int):=by omega
     simp (disch:=omega) only[ir5p1,qa,qb,eq_self,aBin,reduceIte,hcn,hsu,hsn,hlt,hfr,hmk2,happ,wr,natS,hr])
    (by
     rintro ⟨q,os⟩ L ⟨hq,hos,hpre⟩;simp only at hq hos hpre;refine ⟨_,?_,os,q,hq,⟨by rw[hos,hN];unfold wantN;rw[if_neg k3],hpre⟩,rfl⟩
     simp (disch:=omega) only[ir5p1,qa,qb,eq_self,aBin,reduceIte,hcn,hsu,hsn,Int.lt_irrefl])
   obtain ⟨r,hr,os,b,h1,h2,rfl⟩:=key 0 (p,[]) (Nat.zero_le _) ⟨hp,rfl,fun j h=>by simp at h⟩
   refine ⟨os,b,h1,h2,qc (x:=ir5) rfl ?_⟩;simp only[nat0] at hr;rw[qyw.symm] at hr;simp (disch:=omega) only[ir5,qa,qb,eq_self,aBin,reduceIte,k3]
   simpa only[List.cons_append,List.nil_append] using hr
end Go.Proofs.YtnfecjmddbehiaaGreat

namespace Go.Proofs.YtnfecjmddbehiaaGreat
open Go Am
set_option maxRecDepth 100000
def awA (m:Nat):List (List Int):=List.replicate m [0,1,2,3]
def awB (m:Nat):List (List Int):=(List.range m).map fun k=>[0,((k % 2:Nat):Int),((k / 2*2:Nat):Int),(k:Int)]
theorem qdnb (m:Nat):awA (m+1)=awA m++[[0,1,2,3]]:=by simp[awA,List.replicate_succ']
theorem qmmb (m:Nat):awB (m+1)=awB m++[[0,((m % 2:Nat):Int),((m / 2*2:Nat):Int),(m:Int)]]:=by simp[awB,List.range_succ]
theorem qosb:chkV 1 1 (awA 4)=[.int .i64 2,.int .i64 1,.int .i64 3,.int .i64 0,.bool true,.int .i64 0]:=by kernel_rfl
theorem qfsb:chkV 1 1 (awB 4)=[.int .i64 3,.int .i64 0,.int .i64 1,.int .i64 0,.bool true,.int .i64 0]:=by kernel_rfl
theorem qnxb:∀ {k:Nat},k<4→PO.eval (.bin .and false) [.int .i64 (k:Int),.int .i64 1]=some [.int .i64 ((k % 2:Nat):Int)]∧PO.eval (.bin .and false) [.int .i64 (k:Int),.int .i64 2]=some [.int .i64 ((k / 2*2:Nat):Int)]
 | 0,_=>⟨rfl,rfl⟩
 | 1,_=>⟨rfl,rfl⟩
 | 2,_=>⟨rfl,rfl⟩
 | 3,_=>⟨rfl,rfl⟩
theorem qdqb (a b c d:Int):PO.eval (.mk 1 4) [.int .i64 a,.int .i64 b,.int .i64 c,.int .i64 d]=some [numsD [a,b,c,d]]:=rfl
theorem qthb {R:Nat→PF} {e:Env} {J:List PF} (k:IR) (x1 x2 x3 x4:Int) (b:Bool) (x5:Int):callQ R 6 true [] k e J (some [.int .i64 x1,.int .i64 x2,.int .i64 x3,.int .i64 x4,.bool b,.int .i64 x5])=den R k (e++[.int .i64 x1,.int .i64 x2,.int .i64 x3,.int .i64 x4,.bool b,.int .i64 x5]) J:=rfl
theorem qwz:run tb 2 []=some [.bool true]:=by
 refine qc (x:=ir2) rfl ?_;have c1:run tb 8 [.int .i64 1,tabD (awA 4),.int .i64 1]=some (chkV 1 1 (awA 4)):=qae rfl (qsi _ _ _ (by decide) (by decide))
 have c2:run tb 8 [.int .i64 1,tabD (awB 4),.int .i64 1]=some (chkV 1 1 (awB 4)):=qae rfl (qsi _ _ _ (by decide) (by decide))
 rw[qosb] at c1;rw[qfsb] at c2;have e1:PO.eval (.eqs false 4) [.int .i64 2,.int .i64 1,.int .i64 3,.int .i64 0,.int .i64 2,.int .i64 1,.int .i64 3,.int .i64 0]=some [.bool true]:=rfl;have e2:PO.eval (.eqs false 4) [.int .i64 3,.int .i64 0,.int .i64 1,.int .i64 0,.int .i64 3,.int .i64 0,.int .i64 1,.int .i64 0]=some [.bool true]:=rfl;simp (disch:=omega) only[ir2,qa,qb];rw[qls];refine qk (σ:=Unit) 4 (fun _ _=>True) (fun i _=>[.int .i64 i,tabD (awA i),tabD (awB i)]) (fun _ _=>[.bool true]) ?_ ?_ 0 () (Nat.zero_le _) trivial
 · rintro i _ L hi _ hL;have hnext:=hL () trivial;rw[qdnb,qmmb] at hnext;have h12:=qnxb hi;have hi':(i:Int)<4:=by omega
   have a1:=qtlb (rows:=awA i) (r:=[0,1,2,3]) (by simp[awA];omega)
   have a2:=qtlb (rows:=awB i) (r:=[0,((i % 2:Nat):Int),((i / 2*2:Nat):Int),(i:Int)]) (by simp[awB];omega)
   simp (disch:=omega) only[ir2p0,qa,qb,eq_self,aBin,reduceIte,hi',qdqb,h12.1,h12.2,a1,a2,wr,natS,hnext]
 · rintro _ L _;have h4:¬ ((4:Nat):Int)<4:=by omega
   simp (disch:=omega) only[ir2p0,qa,qb,eq_self,aBin,reduceIte,Int.reduceLT,c1,c2,qthb,e1,e2]
end Go.Proofs.YtnfecjmddbehiaaGreat

namespace Go.Proofs.YtnfecjmddbehiaaGreat
open Go Am
set_option maxRecDepth 100000
theorem qrwb (n:Int) (rows:List (List Int)) (kind:Int) (hl:rows.length<9223372036854775808) (hr:∀ r∈rows,r.length<9223372036854775808):run tb 8 [.int .i64 n,tabD rows,.int .i64 kind]=some (chkV kind n rows):=qae rfl (qsi _ _ _ hl hr)
theorem qqwb (n:Int) (rows:List (List Int)) (kind:Int) (hl:rows.length<9223372036854775808) (hr:∀ r∈rows,r.length<9223372036854775808):run tb 10 [.int .i64 n,tabD rows,.int .i64 kind]=some [numsD (cntR kind n rows),.int .i64 (chkE n rows kind)]:=qae rfl (qsi _ _ _ hl hr)
theorem qmk {n:Int} {rows:List (List Int)} (hv:Vld n rows):rows.length<9223372036854775808∧∀ r∈rows,r.length<9223372036854775808:=by
 have:=qg n;exact ⟨by rw[hv.len];omega,fun r hr=>by rw[hv.row r hr];omega⟩
theorem qzxb (n:Int) {T:List (List Int)} (hv:Vld n T) (x:Nat) (hx:x<1000000) (l:List Int) (hl:l.length≤2000) (p:Nat) (hp:p≤l.length) :
 ∃ (U:List (List Int)) (q:Nat),q≤l.length∧Vld n U∧run tb 7 [.int .i64 n,tabD T,.int .i64 (x:Int),numsD l,.int .i64 (p:Int)]=some [.int .i64 n,tabD U,numsD l,.int .i64 (q:Int)]:=by
 have h16:=qg n;have hpos:0<szT n:=by rcases hv.at_ with rfl|rfl<;>decide
 have hok:BentOK T (x:Int) l (p:Int):=⟨by omega,by omega,by omega,by omega,by omega,by rw[hv.len];exact hpos,by rw[hv.len];exact h16,fun r hr=>by rw[hv.row r hr,hv.len]⟩
 refine ⟨(bend l x T p).1,(bend l x T p).2,qfcb l x T p hp,⟨hv.at_,?_,?_,?_⟩,qae rfl (qwfb n T x l p hok)⟩
 · rw[qlv,hv.len]
 · exact qkx l x T p hv.row
 · exact qcy l hpos (by omega) x T p hv.len hv.ent
end Go.Proofs.YtnfecjmddbehiaaGreat

/- Lemmas. -/
import Derived.Test.YtefjlhhicgepfaaGreatDoorAm7
set_option linter.unusedSimpArgs false
set_option linter.unusedVariables false
set_option linter.unusedSectionVars false
open BitVec (getLsbD ofNat toNat_ofNat)
open List (ext_getElem getElem_map getElem_mem getElem_set mem_map mem_range range)
namespace Am
open Go
section
variable (hh:Nat→Nat→Bool)(N:Nat)(sec:Nat→Nat)
end
def hB(kind a:Int)(rows:List (List Int))(p k f g:Nat):Bool:=afb kind (ofNat 64 (szT a-1)) (tOf rows) p (ofNat 64 k) (ofNat 64 f) (ofNat 64 g)
def bQ(kind a:Int)(rows:List (List Int)):List Brc:=brL (hB kind a rows) (iy kind).1 (iy kind).2 (szT a)
end Am

namespace Am
open Go
abbrev OO:=List (List UInt8) × List Int
def osD(l:List OO):D:=.sl (l.map fun o=>[af o.1,ab o.2])
theorem qex{l:List OO}{i:Nat}(h:i<l.length):PO.eval (.row 2) [osD l,.int .i64 i]=some [af l[i].1,ab l[i].2]:=
 qpg (by omega) (by simp[h]) rfl
theorem anz{l:List OO}(h:0<l.length):PO.eval (.row 2) [osD l,.int .i64 0]=some [af l[0].1,ab l[0].2]:=qex h
theorem agl(l:List OO):PO.eval .lenL [osD l]=some [.int .i64 l.length]:=by simp[osD,qkd]
structure ac8(l:List OO):Prop where
 n:l.length<1000000000
 nm:∀ o∈l,o.1.length<1000000000
 st:∀ o∈l,∀ s∈o.1,s.length<9223372036854775808
 rk:∀ o∈l,o.2.length<1000000000
def mr(nm:List (List UInt8))(o:OO):Bool:=!decide (bi o.1 o.2=0) || (decide (o.1.length<1) || (decide (o.1.length>2) || !decide (o.1=nm)))
def bse(kind:Int)(i:Nat):BitVec 64:=if kind=3 then 1#64 <<< i else ofNat 64 i
def sb(kind:Int)(i:Nat)(o:OO):Bool:=!decide (bse kind i=0#64) && !decide (dh o.1 o.2=bse kind i)
def nf(q:Nat→OO→Bool):Nat→List OO→Bool
 | _,[]=>false
 | i,o::l=>q i o || nf q (i+1) l
theorem atr(q:Nat→OO→Bool){l:List OO}{i:Nat}(h:i<l.length):nf q i (l.drop i)=(q i l[i] || nf q (i+1) (l.drop (i+1))):=by
 rw[List.drop_eq_getElem_cons h];rfl
theorem ayq(q:OO→Bool){l:List OO}{i:Nat}(h:i<l.length):(l.drop i).any q=(q l[i] || (l.drop (i+1)).any q):=by
 rw[List.drop_eq_getElem_cons h];rfl
def cg(l:List OO):List (List UInt8):=(l.getD 0 ([],[])).1
def jv(kind:Int)(n:Nat):Nat:=if kind=3 then 2^n else 2^(2^n)
def mkE(l:List OO)(kind:Int):Int:=if (iy kind).1=0 then 4 else if l.length=0 then 1 else if l.any (mr (cg l))=true then 1 else if l.length≠jv kind (cg l).length then 1 else if nf (sb kind) 0 l=true then 7 else 0
def kw(l:List OO)(k f:BitVec 64):Nat→BitVec 64
 | 0=>0#64
 | m+1=>if k.getLsbD m=true then kw l k f m|||bq (l.getD m ([],[])).1 (l.getD m ([],[])).2 f else kw l k f m
def ni(kind:Int)(l:List OO)(N k f:Nat):BitVec 64:=if kind=1 then bq (l.getD k ([],[])).1 (l.getD k ([],[])).2 (ofNat 64 f)
 else if kind=2 then ofNat 64 k|||bq (l.getD k ([],[])).1 (l.getD k ([],[])).2 (ofNat 64 (N-1-f))
 else kw l (ofNat 64 k) (ofNat 64 f) l.length
def zy(kind:Int)(l:List OO)(N k:Nat):List Int:=(range N).map fun f=>((ni kind l N k f).toNat:Int)
def mkT(kind:Int)(l:List OO)(N:Nat):List (List Int):=(range N).map fun k=>zy kind l N k
structure MkO(l:List OO)(kind:Int):Prop where
 kd:kind=1∨kind=2∨kind=3
 pos:0<l.length
 at_:(cg l).length=1∨(cg l).length=2
 ok:∀ o∈l,bi o.1 o.2=0
 nm:∀ o∈l,o.1=cg l
 len:l.length=jv kind (cg l).length
theorem ai6{l:List OO}(h:l.any (mr (cg l))=false)(hp:0<l.length):((cg l).length=1∨(cg l).length=2)∧(∀ o∈l,bi o.1 o.2=0)∧∀ o∈l,o.1=cg l:=by
 have key:∀ o∈l,bi o.1 o.2=0∧¬ o.1.length<1∧¬ o.1.length>2∧o.1=cg l:=fun o ho=>by
  have:=List.any_eq_false.1 h o ho;simp only[mr,Bool.or_eq_true,Bool.not_eq_true',decide_eq_true_eq,decide_eq_false_iff_not,not_or,Classical.not_not] at this;exact ⟨this.1,this.2.1,this.2.2.1,this.2.2.2⟩
 have h0:l[0]∈l:=getElem_mem hp;have e0:cg l=l[0].1:=by simp[cg,hp]
 refine ⟨?_,fun o ho=>(key o ho).1,fun o ho=>(key o ho).2.2.2⟩
 have:=key _ h0;rw[e0];omega
theorem arx{kind:Int}(h:¬ (iy kind).1=0):kind=1∨kind=2∨kind=3:=by
 unfold iy at h
 by_cases h1:kind=1
 · exact .inl h1
 · by_cases h2:kind=2
   · exact .inr (.inl h2)
   · by_cases h3:kind=3
     · exact .inr (.inr h3)
     · simp[h1,h2,h3] at h
theorem qim(l:List OO)(kind:Int):(mkE l kind=4∧(iy kind).1=0)∨(¬ (iy kind).1=0∧l.length=0∧mkE l kind=1)∨(¬ (iy kind).1=0∧0<l.length∧l.any (mr (cg l))=true∧mkE l kind=1)∨
 (¬ (iy kind).1=0∧0<l.length∧l.any (mr (cg l))=false∧l.length≠jv kind (cg l).length∧mkE l kind=1)∨(MkO l kind∧mkE l kind=if nf (sb kind) 0 l=true then 7 else 0):=by
 unfold mkE
 by_cases h1:(iy kind).1=0
 · exact .inl ⟨by rw[if_pos h1],h1⟩
 · rw[if_neg h1]
   by_cases h2:l.length=0
   · exact .inr (.inl ⟨h1,h2,by rw[if_pos h2]⟩)
   · rw[if_neg h2];have hp:0<l.length:=by omega
     by_cases h3:l.any (mr (cg l))=true
     · exact .inr (.inr (.inl ⟨h1,hp,h3,by rw[if_pos h3]⟩))
     · rw[if_neg h3];have h3':=Bool.eq_false_iff.2 h3
       by_cases h4:l.length≠jv kind (cg l).length
       · exact .inr (.inr (.inr (.inl ⟨h1,hp,h3',h4,by rw[if_pos h4]⟩)))
       · rw[if_neg h4];obtain ⟨a1,a2,a3⟩:=ai6 h3' hp;exact .inr (.inr (.inr (.inr ⟨⟨arx h1,hp,a1,a2,a3,Classical.not_not.1 h4⟩,rfl⟩)))
theorem ahm(tb:Bool)(kk:IntKind)(x:BitVec 64)(w:Nat):PO.eval (.bin .shr tb) [ivD x,.int kk (w:Int)]=some [ivD (x >>> w)]:=by
 show one1 (if 0≤(w:Int) then some (.int .i64 (((x.toNat:Int)).fdiv (2^(min ((w:Int)).toNat 64)))) else none)=_
 rw[if_pos (by omega),Int.toNat_natCast,aji];rfl
theorem ast(x:BitVec 64)(w:Nat):decide ((x >>> w)&&&1#64=1#64)=x.getLsbD w:=by
 rw[Bool.eq_iff_iff,decide_eq_true_eq]
 constructor
 · intro h;have:=congrArg (fun y:BitVec 64=>y.getLsbD 0) h
   simpa using this
 · intro h;refine qzb fun i=>?_
   rw[qy]
   have h1:has 1#64 i↔i=0:=by
    have:has (1#64 <<< 0) i↔i=0:=by rw[has,qwc _ _ (by omega),decide_eq_true_eq]
    simpa using this
   rw[h1]
   constructor
   · exact fun x=>x.2
   · rintro rfl;exact ⟨by rw[has,BitVec.getLsbD_ushiftRight];simpa using h,rfl⟩
theorem ay3{x:BitVec 64}(h:Sml x)(w:Nat):Sml (x >>> w):=by
 unfold Sml at *;rw[BitVec.toNat_ushiftRight,Nat.shiftRight_eq_div_pow];exact Nat.lt_of_le_of_lt (Nat.div_le_self _ _) h
theorem ahi{x:BitVec 64}(h:Sml x)(w:Nat):PO.eval (.bin .and false) [ivD (x >>> w),.int .i64 1]=some [ivD (x >>> w&&&1#64)]:=aod false (y:=1#64) (ay3 h w)
theorem aj7(x:BitVec 64)(w:Nat):PO.eval (.bin .eql false) [ivD (x >>> w&&&1#64),.int .i64 1]=some [.bool (x.getLsbD w)]:=by
 rw[← ast];exact aql false _ 1#64
theorem afd{n:Nat}(h:n<18446744073709551616):D.int .i64 (n:Int)=ivD (ofNat 64 n):=by
 unfold ivD;rw[toNat_ofNat,Nat.mod_eq_of_lt (by omega)]
theorem abs{N:Nat}{x:BitVec 64}(h:Ovr N x):x.toNat<2^N:=by
 refine Nat.lt_pow_two_of_testBit _ fun i hi=>?_
 rw[← getLsbD];exact Bool.eq_false_iff.2 fun hx=>by have:=h i hx;omega
theorem qnz{aa:List (List UInt8)}{ranks:List Int}(h:bi aa ranks=0)(S:BitVec 64):Ovr (2^aa.length) (bq aa ranks S):=fun w hw=>by
 have:=((qld h).get S w).1 hw;rw[(qz h).2.1] at this;exact this.1
theorem qla{l:List OO}{N:Nat}(h:∀ o∈l,∀ S,Ovr N (bq o.1 o.2 S))(k f:BitVec 64):∀ m,m≤l.length→Ovr N (kw l k f m)
 | 0,_=>fun w hw=>absurd hw ((qxb.1 rfl) w)
 | m+1,hm=>fun w hw=>by
  have hm':m<l.length:=by omega
  unfold kw at hw
  split at hw
  · rcases qic.1 hw with h1|h1
    · exact qla h k f m (by omega) w h1
    · have e:l.getD m ([],[])=l[m]:=by simp[hm']
      rw[e] at h1;exact h _ (getElem_mem hm') f w h1
  · exact qla h k f m (by omega) w hw
section
variable {l:List OO}{kind:Int}(h:MkO l kind)
include h
theorem MkO.rkl{o:OO}(ho:o∈l):o.2.length=2^(cg l).length:=by
 rw[(qz (h.ok o ho)).2.1,h.nm o ho]
theorem MkO.ov{o:OO}(ho:o∈l)(S:BitVec 64):Ovr (2^(cg l).length) (bq o.1 o.2 S):=by
 have:=qnz (h.ok o ho) S
 rwa [h.nm o ho] at this ⊢
theorem MkO.sz:szT ((cg l).length:Int)=2^(2^(cg l).length):=by
 rcases h.at_ with e|e<;>rw[e]<;>rfl
theorem MkO.lt{o:OO}(ho:o∈l)(S:BitVec 64):(bq o.1 o.2 S).toNat<16:=by
 have:=abs (h.ov ho S);rcases h.at_ with e|e
 · rw[e] at this;omega
 · rw[e] at this;omega
theorem MkO.uni(k f:BitVec 64){m:Nat}(hm:m≤l.length):(kw l k f m).toNat<16:=by
 have:=abs (qla (fun o ho=>h.ov ho) k f m hm)
 rcases h.at_ with e|e
 · rw[e] at this;omega
 · rw[e] at this;omega
end
def fil(l:List Int)(i:Nat):List Int:=(range l.length).map fun (k:Nat)=>if k<i then l.getD k 0 else 0
theorem qgr(l:List Int)(i:Nat):(fil l i).length=l.length:=by simp[fil]
theorem a1h(l:List Int):List.replicate l.length 0=fil l 0:=by
 unfold fil;refine ext_getElem (by simp) fun i h1 h2=>?_
 simp
theorem ark{l:List Int}{i:Nat}(hi:i<l.length):(fil l i).set i (l.getD i 0)=fil l (i+1):=by
 unfold fil;refine ext_getElem (by simp) fun k h1 h2=>?_
 rw[getElem_set];simp only[getElem_map,List.getElem_range]
 by_cases h:i=k
 · subst h;simp
 · have:(k<i+1)=(k<i):=propext ⟨fun h=>by omega,fun h=>by omega⟩
   simp[h,this]
theorem aq0(l:List Int):fil l l.length=l:=by
 unfold fil;refine ext_getElem (by simp) fun k h1 h2=>?_
 simp[h2]
theorem a5t{l:List Int}{i:Nat}(hi:i<l.length):(fil l i).set i 0=fil l i:=by
 refine ext_getElem (by simp) fun k h1 h2=>?_
 rw[getElem_set]
 split
 · rename_i hk;subst hk;simp[fil]
 · rfl
theorem aok(kind:Int)(l:List OO)(N k:Nat):(zy kind l N k).length=N:=by simp[zy]
theorem ax4{kind:Int}{l:List OO}{N k f:Nat}(h:f<N):(zy kind l N k).getD f 0=((ni kind l N k f).toNat:Int):=by simp[zy,h]
theorem azz(kind:Int)(l:List OO){N k:Nat}(h:k<N):(mkT kind l N).take (k+1)=(mkT kind l N).take k++[zy kind l N k]:=by
 rw[List.take_add_one,List.getElem?_eq_getElem (by simpa [mkT] using h)]
 simp[mkT]
theorem am9(kind:Int)(l:List OO)(N:Nat):(mkT kind l N).length=N:=by simp[mkT]
theorem azs{rows:List (List Int)}{r:List Int}(h:rows.length<1000000000):PO.eval (.app 1 24) [jo rows,.sl [[ab r]]]=some [jo (rows++[r])]:=by
 have:=qxg (sz:=1) (bt:=24) (xs:=rows.map fun r=>[ab r]) (ys:=[[ab r]]) (by simp;omega) (by simp;omega) rfl
 simpa [jo] using this
theorem az0:D.sl []=jo []:=rfl
structure abm(n:Nat)(K:BitVec 64)(o:OO):Prop where
 nm:o.1=aq n
 ok:bi o.1 o.2=0
 len:o.2.length=2^n
 bel:K≠0#64→dh o.1 o.2=K
theorem a5n{n:Nat}(hn:n≤6){K:BitVec 64}{rs:List Int}(hl:rs.length=2^n)(hK:Ovr (2^n) K)(h:∀ w,w<2^n→(K.getLsbD w=true→rs.getD w 0=0)∧(¬ K.getLsbD w=true→1≤rs.getD w 0)):abm n K (aq n,bg rs):=by
 have hnl:(bg rs).length=2^n:=by rw[← hl];simp[bg]
 have hok:bi (aq n) (bg rs)=0:=by
  unfold bi;rw[if_pos ⟨qnd hn,by rw[hnl,qv]⟩,if_pos (ao7 rs)]
 refine ⟨rfl,hok,hnl,fun hK0=>?_⟩
 have hp:=aux rs;have hL:=qld hok;obtain ⟨u,hu⟩:=qph hK0;have hu2:=hK u hu;have hu0:=(h u hu2).1 hu
 have j7:∀ a b,a<2^n→b<2^n→((bg rs).getD a (-1)≤(bg rs).getD b (-1)↔rs.getD a 0≤rs.getD b 0):=fun a b ha hb=>by
  have e1:(bg rs).getD a (-1)=(bg rs).getD a 0:=by simp[show a<(bg rs).length by omega]
  have e2:(bg rs).getD b (-1)=(bg rs).getD b 0:=by simp[show b<(bg rs).length by omega]
  rw[e1,e2];have:=hp.2 b a (by omega) (by omega)
  constructor
  · intro h;exact Int.not_lt.1 fun hx=>by have:=this.2 hx;omega
  · intro h;exact Int.not_lt.1 fun hx=>by have:=this.1 hx;omega
 refine qzb fun w=>?_
 show has (bq (aq n) (bg rs) (BitVec.allOnes 64)) w↔has K w
 rw[hL.top,hnl]
 constructor
 · rintro ⟨h1,h2⟩;have h3:=(j7 w u h1 hu2).1 (h2 u hu2);exact Classical.byContradiction fun hn=>by have:=(h w h1).2 hn;omega
 · intro hw;have tq:=hK w hw;refine ⟨tq,fun v hv=>(j7 w v tq hv).2 ?_⟩
   have h1:=(h w tq).1 hw
   by_cases hv2:K.getLsbD v=true
   · have:=(h v hv).1 hv2;omega
   · have:=(h v hv).2 hv2;omega
end Am

namespace Am
open Go
theorem al3{N k:Nat}(hN:N=2∨N=4)(hk:k<2^N):Ovr N (ofNat 64 k):=fun w hw=>by
 have h1:(ofNat 64 k).toNat=k:=by
  rw[toNat_ofNat,Nat.mod_eq_of_lt];rcases hN with rfl|rfl<;>omega
 have h2:(ofNat 64 k).getLsbD w=true:=hw;rw[getLsbD,h1] at h2
 exact Classical.byContradiction fun hn=>by
  have:=Nat.testBit_lt_two_pow (x:=k) (i:=w) (Nat.lt_of_lt_of_le hk (Nat.pow_le_pow_right (by omega) (by omega)))
  rw[this] at h2;cases h2
structure xm(n:Nat)(kind:Int)(os:List OO):Prop where
 len:os.length=jv kind n
 fit:∀ i (h:i<os.length),abm n (bse kind i) os[i]
theorem az2{n:Nat}(hn:n=1∨n=2){kind:Int}{os:List OO}(h:xm n kind os):ac8 os:=by
 have key:∀ o∈os,o.1=aq n∧o.2.length=2^n:=fun o ho=>by
  obtain ⟨i,hi,rfl⟩:=List.getElem_of_mem ho;exact ⟨(h.fit i hi).nm,(h.fit i hi).len⟩
 have h4:2^n≤4:=by rcases hn with rfl|rfl<;>decide
 have h16:2^(2^n)≤16:=by rcases hn with rfl|rfl<;>decide
 refine ⟨?_,fun o ho=>?_,fun o ho s hs=>?_,fun o ho=>?_⟩
 · rw[h.len];unfold jv;split<;>omega
 · rw[(key o ho).1,qv];omega
 · rw[(key o ho).1] at hs;rw[qlk s hs];omega
 · rw[(key o ho).2];omega
def zx(m:Nat)(G:Nat→Nat→BitVec 64):List (List Int):=(range m).map fun k=>(range m).map fun f=>((G k f).toNat:Int)
theorem amw(kind:Int)(l:List OO)(N:Nat):mkT kind l N=zx N (ni kind l N):=rfl
theorem a3a(m:Nat)(G:Nat→Nat→BitVec 64):(zx m G).length=m:=by simp[zx]
theorem a2v{m:Nat}{G:Nat→Nat→BitVec 64}{r:List Int}(h:r∈zx m G):r.length=m:=by
 obtain ⟨k,_,rfl⟩:=List.mem_map.1 h;simp
theorem qxp{a:Int}(ha:a=1∨a=2){G:Nat→Nat→BitVec 64}(h:∀ k f,k<szT a→f<szT a→(G k f).toNat<szT a):Vld a (zx (szT a) G):=by
 refine ⟨ha,a3a _ _,fun r hr=>a2v hr,fun r hr x hx=>?_⟩
 obtain ⟨k,hk,rfl⟩:=List.mem_map.1 hr;obtain ⟨f,hf,rfl⟩:=List.mem_map.1 hx;have:=h k f (List.mem_range.1 hk) (List.mem_range.1 hf);exact ⟨by omega,by omega⟩
theorem qbu{m:Nat}{G:Nat→Nat→BitVec 64}{k f:BitVec 64}(hk:k.toNat<m)(hf:f.toNat<m):tOf (zx m G) k f=G k.toNat f.toNat:=by
 unfold tOf zx;simp[hk,hf]
theorem agf{kind a:Int}{rows:List (List Int)}(h:∀ p k f g,1≤p→p≤(iy kind).1→k<szT a→f<szT a→g<szT a→hB kind a rows p k f g=true):bQ kind a rows=[]:=by
 refine List.eq_nil_iff_forall_not_mem.2 fun b hb=>?_
 obtain ⟨h1,h2,h3,h4,h5,_,h6⟩:=(a3v b).1 hb;rw[h _ _ _ _ h1 h2 h3 h4 h5] at h6;cases h6
theorem qvp{n:Nat}(hn:n=1∨n=2):szT (n:Int)=2^(2^n):=by rcases hn with rfl|rfl<;>rfl
theorem qpd{x m:Nat}(h:x<m)(hm:m≤16):(ofNat 64 x).toNat=x:=by
 rw[toNat_ofNat];exact Nat.mod_eq_of_lt (by omega)
theorem qqt{n:Nat}(hn:n=1∨n=2):2^n=2∨2^n=4:=by rcases hn with rfl|rfl<;>simp
theorem wl{q:Nat→OO→Bool}:∀ {l:List OO} {i:Nat},nf q i l=true→∃ (j:Nat) (h:j<l.length),q (i+j) l[j]=true
 | [],i,h=>by simp[nf] at h
 | o::l,i,h=>by
  simp only[nf,Bool.or_eq_true] at h;rcases h with h|h
  · exact ⟨0,by simp,h⟩
  · obtain ⟨j,hj,h⟩:=wl h;refine ⟨j+1,by simp;omega,?_⟩
    rw[show i+(j+1)=i+1+j by omega]
    simpa using h
theorem qii{n:Nat}{kind:Int}{os:List OO}(h:xm n kind os){i:Nat}(hi:i<os.length):abm n (bse kind i) (os.getD i ([],[])):=by
 rw[List.getD_eq_getElem?_getD,List.getElem?_eq_getElem hi];exact h.fit i hi
theorem qox{n:Nat}(hn:n=1∨n=2){kind:Int}(hk:kind=1∨kind=2∨kind=3){os:List OO}(h:xm n kind os):mkE os kind=0∧cg os=aq n∧MkO os kind:=by
 have hp:0<os.length:=by rw[h.len];unfold jv;split<;>exact Nat.two_pow_pos _
 have xn:cg os=aq n:=(qii h hp).nm;have hk0:¬ (iy kind).1=0:=by rcases hk with rfl|rfl|rfl<;>decide
 have z7:os.any (mr (cg os))=false:=by
  rw[List.any_eq_false];intro o ho;obtain ⟨i,hi,rfl⟩:=List.getElem_of_mem ho;have hf:=h.fit i hi;have h1:¬ os[i].1.length<1:=by rw[hf.nm,qv];omega
  have h2:¬ os[i].1.length>2:=by rw[hf.nm,qv];omega
  have h3:os[i].1=cg os:=by rw[hf.nm,xn]
  unfold mr;rw[decide_eq_true hf.ok,decide_eq_false h1,decide_eq_false h2,decide_eq_true h3];decide
 have an:os.length=jv kind (cg os).length:=by rw[h.len,xn,qv]
 have hb:¬ nf (sb kind) 0 os=true:=fun hc=>by
  obtain ⟨j,hj,hc⟩:=wl hc;rw[Nat.zero_add] at hc;unfold sb at hc;rw[Bool.and_eq_true,Bool.not_eq_true',Bool.not_eq_true',decide_eq_false_iff_not,decide_eq_false_iff_not] at hc;exact hc.2 ((h.fit j hj).bel hc.1)
 have hE:mkE os kind=0:=by
  unfold mkE;rw[if_neg hk0,if_neg (by omega),if_neg (by rw[z7];decide),if_neg (by simpa using an),if_neg hb]
 refine ⟨hE,xn,?_⟩;rcases qim os kind with c|c|c|c|c
 · omega
 · omega
 · omega
 · omega
 · exact c.1
theorem aiy(l:List OO)(k f:BitVec 64):∀ (m w:Nat),has (kw l k f m) w↔∃ v,v<m∧has k v∧has (bq (l.getD v ([],[])).1 (l.getD v ([],[])).2 f) w
 | 0,w=>⟨fun h=>absurd h (by simp[kw,has]),fun ⟨v,h,_⟩=>absurd h (by omega)⟩
 | m+1,w=>by
  have ih:=aiy l k f m w
  have step:has (kw l k f (m+1)) w↔has (kw l k f m) w∨(has k m∧has (bq (l.getD m ([],[])).1 (l.getD m ([],[])).2 f) w):=by
   by_cases hk:k.getLsbD m=true
   · simp only[kw,if_pos hk,qic];exact or_congr_right ⟨fun h=>⟨hk,h⟩,fun h=>h.2⟩
   · simp only[kw,if_neg hk];exact ⟨.inl,fun h=>h.resolve_right fun h=>hk h.1⟩
  rw[step,ih]
  constructor
  · rintro (⟨v,h1,h2,h3⟩|⟨h2,h3⟩)
    · exact ⟨v,by omega,h2,h3⟩
    · exact ⟨m,by omega,h2,h3⟩
  · rintro ⟨v,h1,h2,h3⟩
    by_cases hv:v=m
    · subst hv;exact .inr ⟨h2,h3⟩
    · exact .inl ⟨v,by omega,h2,h3⟩
theorem ad6{n:Nat}(hn:n=1∨n=2)(w:Nat):has (ofNat 64 (szT (n:Int)-1)) w↔w<2^n:=by
 by_cases hw:w<64
 · rcases hn with rfl|rfl
   · have:∀ w,w<64→((ofNat 64 (szT ((1:Nat):Int)-1)).getLsbD w=true↔w<2^1):=by decide +kernel
     exact this w hw
   · have:∀ w,w<64→((ofNat 64 (szT ((2:Nat):Int)-1)).getLsbD w=true↔w<2^2):=by decide +kernel
     exact this w hw
 · have:2^n≤4:=by rcases hn with rfl|rfl<;>decide
   exact ⟨fun h=>absurd (qya h) hw,fun h=>by omega⟩
theorem aj3{n:Nat}(hn:n=1∨n=2){f:Nat}(hf:f<szT (n:Int)):ofNat 64 (2^(2^n)-1-f)=ofNat 64 (szT (n:Int)-1) &&& ~~~ofNat 64 f:=by
 rcases hn with rfl|rfl
 · have:∀ f,f<4→ofNat 64 (2^(2^1)-1-f)=ofNat 64 (szT ((1:Nat):Int)-1) &&& ~~~ofNat 64 f:=by decide +kernel
   exact this f hf
 · have:∀ f,f<16→ofNat 64 (2^(2^2)-1-f)=ofNat 64 (szT ((2:Nat):Int)-1) &&& ~~~ofNat 64 f:=by decide +kernel
   exact this f hf
theorem qng(x:BitVec 64):ofNat 64 x.toNat=x:=by simp
theorem a2x{n:Nat}(hn:n=1∨n=2){kind:Int}(hk:kind=1∨kind=2∨kind=3){os:List OO}(h:xm n kind os):Vld (n:Int) (mkT kind os (2^(2^n)))∧bQ kind (n:Int) (mkT kind os (2^(2^n)))=[]:=by
 obtain ⟨hE,xn,hM⟩:=qox hn hk h;have de:=qvp hn;have hN4:2^n≤4:=by rcases hn with rfl|rfl<;>decide
 have h16:2^(2^n)≤16:=by rcases hn with rfl|rfl<;>decide
 have hov:∀ o∈os,∀ S,Ovr (2^n) (bq o.1 o.2 S):=fun o ho S=>by have:=hM.ov ho S;rwa [xn,qv] at this
 have ovn:∀ {k:Nat},k<2^(2^n)→Ovr (2^n) (ofNat 64 k):=fun hk=>al3 (qqt hn) hk
 have ovlt:∀ {x:BitVec 64},Ovr (2^n) x→x.toNat<szT (n:Int):=fun hx=>by rw[de];exact abs hx
 have memD:∀ {i:Nat},i<os.length→os.getD i ([],[])∈os:=fun {i} hi=>by
  rw[List.getD_eq_getElem?_getD,List.getElem?_eq_getElem hi];exact getElem_mem hi
 have af5:∀ {i:Nat},i<os.length→Lst (2^n) (fun w=>(os.getD i ([],[])).2.getD w (-1)) (bq (os.getD i ([],[])).1 (os.getD i ([],[])).2):=fun {i} hi=>by
  have:=qld (qii h hi).ok
  rwa [(qii h hi).len] at this
 have ph:∀ {i:Nat},i<os.length→Fit (bse kind i) (bq (os.getD i ([],[])).1 (os.getD i ([],[])).2):=fun {i} hi=>(qii h hi).bel
 rw[amw];rw[← de];rcases hk with rfl|rfl|rfl
 · have an:os.length=szT (n:Int):=by rw[h.len,de];rfl
   refine ⟨qxp (by rcases hn with rfl|rfl<;>decide) fun k f hk hf=>ovlt ?_,agf fun p k f g _ _ hk hf hg=>?_⟩
   · exact hov _ (memD (by omega)) _
   · have k64:=qpd hk (qcj _);have hf':=ph (i:=k) (by omega)
     have:bse 1 k=ofNat 64 k:=rfl;rw[this] at hf'
     exact axo (af5 (i:=k) (by omega)) hf' (fun x hx=>by
      rw[qbu (by rw[k64];exact hk) (ovlt hx)]
      unfold ni;rw[if_pos rfl,k64,qng]) (ovn (by rw[← de];exact hf)) p
 · have an:os.length=szT (n:Int):=by rw[h.len,de];rfl
   refine ⟨qxp (by rcases hn with rfl|rfl<;>decide) fun k f hk hf=>?_,agf fun p k f g _ _ hk hf hg=>?_⟩
   · unfold ni;rw[if_neg (by decide),if_pos rfl]
     exact arj (by rw[qpd hk (qcj _)];exact hk) (ovlt (hov _ (memD (by omega)) _))
   · have k64:=qpd hk (qcj _);have hf':=ph (i:=k) (by omega)
     have:bse 2 k=ofNat 64 k:=rfl;rw[this] at hf'
     exact av2 (af5 (i:=k) (by omega)) (ad6 hn) hf' (fun x hx=>by
      rw[qbu (by rw[k64];exact hk) (ovlt hx)]
      unfold ni;rw[if_neg (by decide),if_pos rfl,k64]
      have:=aj3 hn (ovlt hx);rw[← de,qng] at this;rw[this]) (ovn (by rw[← de];exact hf)) (ovn (by rw[← de];exact hg)) p
 · have an:os.length=2^n:=by rw[h.len];rfl
   refine ⟨qxp (by rcases hn with rfl|rfl<;>decide) fun k f hk hf=>ovlt ?_,agf fun p k f g _ _ hk hf hg=>?_⟩
   · unfold ni;rw[if_neg (by decide),if_neg (by decide)]
     exact qla hov _ _ _ (Nat.le_refl _)
   · refine a2u (N:=2^n) (r:=fun i w=>(os.getD i ([],[])).2.getD w (-1)) (L:=fun i=>bq (os.getD i ([],[])).1 (os.getD i ([],[])).2) (fun v hv=>af5 (by omega)) (fun v hv w=>?_) (fun k f hk hf w=>?_) hN4 (ovn (by rw[← de];exact hk)) (ovn (by rw[← de];exact hf)) (ovn (by rw[← de];exact hg)) p
     · have h1:=ph (i:=v) (by omega)
       have h2:bse 3 v=1#64 <<< v:=rfl;rw[h2] at h1
       have h3:∀ w,has (1#64 <<< v) w↔w=v:=fun w=>by
        rw[has,qwc _ _ (by omega)];simp
       have h4:(1#64 <<< v)≠0#64:=qgd ((h3 v).2 rfl);rw[h1 h4];exact h3 w
     · rw[qbu (ovlt hk) (ovlt hf)];unfold ni;rw[if_neg (by decide),if_neg (by decide),qng,qng,aiy,an]
def cR(kind:Int)(A:BitVec 64)(t:Tbl)(k:BitVec 64)(S:BitVec 64):BitVec 64:=if kind=2 then t k (A &&& ~~~S) else t k S
def alA(a:Int):BitVec 64:=ofNat 64 (szT a-1)
def yd(kind a:Int)(rows:List (List Int))(i:Nat):Option (List Int):=ku (cR kind (alA a) (tOf rows) (ofNat 64 i)) (2^a.toNat) 0 (alA a) (List.replicate (2^a.toNat) 0)
def zr(kind a:Int)(rows:List (List Int))(aa:List (List UInt8)):List OO:=(range (szT a)).map fun i=>(aa,bg ((yd kind a rows i).getD []))
def adn(kind a:Int)(rows:List (List Int))(aa:List (List UInt8)):Bool:=(range (szT a)).all (fun i=>(yd kind a rows i).isSome)&&(decide (mkE (zr kind a rows aa) kind=0)&&decide (mkT kind (zr kind a rows aa) (2^(2^(cg (zr kind a rows aa)).length))=rows))
def zw(kind a:Int)(rows:List (List Int))(aa:List (List UInt8)):List D:=if adn kind a rows aa=true then [osD (zr kind a rows aa),.int .i64 0] else [.sl [],.int .i64 9]
theorem akf{N:Nat}{c c':BitVec 64→BitVec 64}(h:∀ S,Ovr N S→c S&&&S=c' S&&&S):∀ (m l:Nat) (S:BitVec 64) (q:List Int),Ovr N S→ku c m l S q=ku c' m l S q
 | 0,_,_,_,_=>rfl
 | m+1,l,S,q,hS=>by
  unfold ku;rw[h S hS,akf h m _ _ _ fun w hw=>hS w (qfb.1 hw).1]
theorem avz{n:Nat}{K:BitVec 64}{o:OO}(h:abm n K o):Chs (2^n) o.2 (bq o.1 o.2):=fun S hS w=>by
 have hl:=qld h.ok;rw[h.len] at hl;rw[hl.get]
 have g:∀ v,v<2^n→o.2.getD v (-1)=o.2.getD v 0:=fun v hv=>by
  have:v<o.2.length:=by rw[h.len];exact hv
  simp[this]
 constructor
 · rintro ⟨h1,h2,h3⟩;exact ⟨h1,h2,fun v hv hs=>by have:=h3 v hv hs;rwa [g w h1,g v hv] at this⟩
 · rintro ⟨h1,h2,h3⟩;exact ⟨h1,h2,fun v hv hs=>by have:=h3 v hv hs;rw[← g w h1,← g v hv] at this;exact this⟩
section
variable {n:Nat}(hn:n=1∨n=2){kind:Int}(hk:kind=1∨kind=2)
include hn
theorem ovA:Ovr (2^n) (alA n):=fun w h=>(ad6 hn w).1 h
theorem axm{S:BitVec 64}(hS:Ovr (2^n) S):alA n &&& ~~~(alA n &&& ~~~S)=S:=qzb fun w=>by
 rw[qfb,qfb]
 constructor
 · rintro ⟨h1,h2⟩;exact Classical.byContradiction fun h=>h2 ⟨h1,h⟩
 · intro h;exact ⟨(ad6 hn w).2 (hS w h),fun h2=>h2.2 h⟩
include hk
theorem awr{os:List OO}(h:xm n kind os){i:Nat}(hi:i<os.length){S:BitVec 64}(hS:Ovr (2^n) S) :
 cR kind (alA n) (tOf (mkT kind os (2^(2^n)))) (ofNat 64 i) S&&&S=bq (os.getD i ([],[])).1 (os.getD i ([],[])).2 S&&&S:=by
 have de:=qvp hn;have an:os.length=2^(2^n):=by rw[h.len];unfold jv;rw[if_neg (by omega)]
 have h16:2^(2^n)≤16:=by rcases hn with rfl|rfl<;>decide
 have k64:(ofNat 64 i).toNat=i:=qpd (by omega) h16
 have ovlt:∀ {x:BitVec 64},Ovr (2^n) x→x.toNat<2^(2^n):=fun hx=>abs hx
 have ph:=qii h hi;have oc:Ovr (2^n) (alA n &&& ~~~S):=fun w hw=>ovA hn w (qfb.1 hw).1
 rw[amw];rcases hk with rfl|rfl
 · unfold cR;rw[if_neg (by decide),qbu (by rw[k64];omega) (ovlt hS)]
   unfold ni;rw[if_pos rfl,k64,qng]
 · unfold cR;rw[if_pos rfl,qbu (by rw[k64];omega) (ovlt oc)]
   unfold ni;rw[if_neg (by decide),if_pos rfl,k64]
   have e1:=aj3 hn (f:=(alA n &&& ~~~S).toNat) (by rw[de];exact ovlt oc)
   rw[qng] at e1;have e2:ofNat 64 (szT (n:Int)-1) &&& ~~~(alA n &&& ~~~S)=S:=axm hn hS;rw[e2] at e1;rw[e1];refine qzb fun w=>?_
   rw[qy,qic,qy]
   constructor
   · rintro ⟨h1|h1,h2⟩
     · refine ⟨?_,h2⟩;have hl:=qld ph.ok;have hF:Fit (ofNat 64 i) (bq (os.getD i ([],[])).1 (os.getD i ([],[])).2):=ph.bel;have hm:=qwm hl hF h1;exact (hl.get S w).2 ⟨hm.1,h2,fun v hv _=>hm.2 v hv⟩
     · exact ⟨h1,h2⟩
   · rintro ⟨h1,h2⟩;exact ⟨.inr h1,h2⟩
theorem qzz{os:List OO}(h:xm n kind os){i:Nat}(hi:i<os.length):∃ q,yd kind n (mkT kind os (2^(2^n))) i=some q∧bg q=(os.getD i ([],[])).2:=by
 have ph:=qii h hi;have vr:2^n≤64:=by rcases hn with rfl|rfl<;>decide
 have xx:mo (os.getD i ([],[])).2=true:=(qz ph.ok).2.2;obtain ⟨q,h1,h2⟩:=a2z vr ph.len (avz ph) (A:=alA n) (fun w=>ad6 hn w) xx
 refine ⟨q,?_,h2⟩;unfold yd;rw[Int.toNat_natCast];rw[akf (c':=bq (os.getD i ([],[])).1 (os.getD i ([],[])).2) (N:=2^n) (fun S hS=>awr hn hk h hi hS) _ _ _ _ (ovA hn)]
 exact h1
theorem auh{os:List OO}(h:xm n kind os):zr kind n (mkT kind os (2^(2^n))) (aq n)=os∧((range (szT (n:Int))).all fun i=>(yd kind n (mkT kind os (2^(2^n))) i).isSome)=true:=by
 have an:os.length=szT (n:Int):=by rw[h.len,qvp hn];unfold jv;rw[if_neg (by omega)]
 constructor
 · unfold zr;refine ext_getElem (by simp[an]) fun i h1 h2=>?_
   obtain ⟨q,e1,e2⟩:=qzz hn hk h h2;simp only[getElem_map,List.getElem_range,e1,Option.getD_some,e2];have:=qii h h2;have e3:os.getD i ([],[])=os[i]:=by rw[List.getD_eq_getElem?_getD,List.getElem?_eq_getElem h2];rfl
   rw[e3] at this ⊢;rw[← this.nm]
 · rw[List.all_eq_true];intro i hi;obtain ⟨q,e1,_⟩:=qzz hn hk h (i:=i) (by rw[an];exact List.mem_range.1 hi)
   rw[e1];rfl
theorem ayh{os:List OO}(h:xm n kind os):zw kind n (mkT kind os (2^(2^n))) (aq n)=[osD os,.int .i64 0]:=by
 obtain ⟨e1,e2⟩:=auh hn hk h;obtain ⟨hE,xn,_⟩:=qox hn (by omega) h
 unfold zw adn;rw[e1,e2,hE,xn,qv];simp
end
section
variable {n:Nat}(hn:n=1∨n=2){kind:Int}(hk:kind=1∨kind=2){rows:List (List Int)}(hv:Vld n rows)(hq:bQ kind n rows=[])
include hn hk hv hq
end
end Am

namespace Am
open Go
def xd(N:Nat)(S:BitVec 64):Nat:=(range N).countP fun w=>S.getLsbD w
theorem ane{N:Nat}{S:BitVec 64}(hS:Ovr N S)(h:S≠0#64):0<xd N S:=by
 obtain ⟨w,hw⟩:=qph h;exact List.countP_pos_iff.2 ⟨w,List.mem_range.2 (hS w hw),hw⟩
theorem a08(N:Nat)(S:BitVec 64):xd N S≤N:=by
 have:=List.countP_le_length (p:=fun w=>S.getLsbD w) (l:=range N)
 unfold xd;simpa using this
theorem a4w(c:BitVec 64→BitVec 64)(m l:Nat)(q:List Int):ku c m l 0#64 q=some q:=by cases m<;>simp[ku]
theorem a5j{N:Nat}{c:BitVec 64→BitVec 64}{m l:Nat}{S:BitVec 64}{q:List Int}(hS:Ovr N S)(hp:xd N S≤m)(h0:S≠0#64)(hb:c S&&&S=0#64):ku c m l S q=none:=by
 have:=ane hS h0;cases m with
 | zero=>omega
 | succ m=>unfold ku;rw[if_neg h0,if_pos hb]
theorem azr{N:Nat}{c:BitVec 64→BitVec 64}{m l:Nat}{S:BitVec 64}{q:List Int}(hS:Ovr N S)(hp:xd N S≤m)(h0:S≠0#64)(hb:c S&&&S≠0#64) :
 ∃ m',m=m'+1∧xd N (S &&& ~~~(c S&&&S))≤m'∧ku c m l S q=ku c m' (l+1) (S &&& ~~~(c S&&&S)) (oz q (c S&&&S) l):=by
 have:=ane hS h0;cases m with
 | zero=>omega
 | succ m=>
  refine ⟨m,rfl,?_,?_⟩
  · obtain ⟨u,hu⟩:=qph hb;have hu2:=qy.1 hu;have cf:xd N (S &&& ~~~(c S&&&S))<xd N S:=qen (fun x _ hx=>(qfb.1 hx).1) (List.mem_range.2 (hS u hu2.2)) (Bool.eq_false_iff.2 fun hx=>(qfb.1 hx).2 hu) hu2.2
    omega
  · conv=>lhs;unfold ku
    rw[if_neg h0,if_neg hb]
theorem aop{c:BitVec 64→BitVec 64}{N:Nat}{out:List Int}:∀ (m l:Nat) (S:BitVec 64) {q:List Int},q.length=N→ku c m l S q=some out→out.length=N
 | 0,l,S,q,hq,h=>by
  unfold ku at h
  split at h
  · cases h;exact hq
  · cases h
 | m+1,l,S,q,hq,h=>by
  unfold ku at h
  split at h
  · cases h;exact hq
  · split at h
    · cases h
    · exact aop m _ _ (by rw[qwi];exact hq) h
def gy(q:List Int)(b:BitVec 64)(l i:Nat):List Int:=(range q.length).map fun w=>if w<i∧b.getLsbD w=true then (l:Int) else q.getD w 0
theorem qmu(q:List Int)(b:BitVec 64)(l i:Nat):(gy q b l i).length=q.length:=by simp[gy]
theorem ahz(q:List Int)(b:BitVec 64)(l:Nat):gy q b l 0=q:=by
 refine ext_getElem (by simp[gy]) fun i h1 h2=>?_
 simp[gy,h2]
theorem a2e(q:List Int)(b:BitVec 64)(l:Nat):gy q b l q.length=oz q b l:=by
 unfold gy oz;refine List.map_congr_left fun w hw=>?_
 have:=List.mem_range.1 hw;simp[this]
theorem a5h{q:List Int}{b:BitVec 64}{l i:Nat}(hi:i<q.length)(h:b.getLsbD i=true):(gy q b l i).set i (l:Int)=gy q b l (i+1):=by
 refine ext_getElem (by simp[gy]) fun w h1 h2=>?_
 rw[getElem_set];simp only[gy,getElem_map,List.getElem_range]
 by_cases e:i=w
 · subst e;rw[if_pos rfl,if_pos ⟨by omega,h⟩]
 · rw[if_neg e]
   by_cases e2:w<i
   · have e3:w<i+1:=by omega
     simp only[e2,e3,true_and]
   · have e3:¬ w<i+1:=by omega
     simp only[e2,e3,false_and]
theorem a0z{q:List Int}{b:BitVec 64}{l i:Nat}(h:b.getLsbD i=false):gy q b l i=gy q b l (i+1):=by
 unfold gy;refine List.map_congr_left fun w _=>?_
 by_cases e:w=i
 · subst e;rw[h];simp
 · by_cases e2:w<i
   · have e3:w<i+1:=by omega
     simp only[e2,e3,true_and]
   · have e3:¬ w<i+1:=by omega
     simp only[e2,e3,false_and]
theorem a4r(a:Int):(alA a).toNat=szT a-1:=by
 have:=qcj a;unfold alA;rw[toNat_ofNat];omega
theorem azb{a:Int}{rows:List (List Int)}(hv:Vld a rows):PO.eval (.bin .sub false) [.int .i64 (rows.length:Int),.int .i64 1]=some [ivD (alA a)]:=by
 have hp:0<szT a:=by rcases hv.at_ with rfl|rfl<;>decide
 have h16:=qcj a;unfold ivD;rw[a4r,hv.len]
 show some [D.int .i64 (IntKind.i64.wrap ((szT a:Int)-1))]=_
 rw[wr (by omega) (by omega)]
 congr 3
 omega
end Am

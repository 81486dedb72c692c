/- Lemmas. -/
import Derived.Test.YtefjlhhicgepfaaGreatDoorMg
set_option linter.unusedSimpArgs false
set_option linter.unusedVariables false
set_option linter.unusedSectionVars false
open Nat (le_refl lt_irrefl zero_le)
open List (drop_length ext_getElem getElem_mem mem_cons range range_succ replicate)
namespace Go.Proofs.YtefjlhhicgepfaaGreatDoor
open Go Am
set_option maxRecDepth 100000
theorem qua(x:BitVec 64)(w:Nat)(h:w<9223372036854775808):run tb 32 [bvD x,.int .i64 w]=some [.bool (x.getLsbD w)]:=by
 refine qh (x:=ir32) rfl ?_;simp (disch:=omega) only[ir32,qe,qf,eq_self,bvQ,wu]
theorem qxr(aa:List (List UInt8))(hn:aa.length<1000000000)(fs:List F)(hf:∀ f∈fs,f.size<1000000000)(rh:fs.length<1000000000) :
 run tb 31 [af aa,.sl (F.encs fs)]=some [.int .i64 (jp aa fs)]:=by
 refine qh (x:=ir31) rfl ?_;simp (disch:=omega) only[ir31,qe,qf];refine qu (σ:=Unit) fs.length (fun i _=>jp aa (fs.drop i)=jp aa fs) (fun i _=>[.int .i64 i]) (fun _ _=>[.int .i64 (jp aa fs)]) ?_ ?_ 0 () (zero_le _) rfl
 · rintro i _ L hi hp hL;rw[qbg hi,qrt] at hp;have hm:=qqd aa fs[i] hn (hf _ (getElem_mem hi));simp only[aj] at hm
   by_cases c:bv aa fs[i]=0
   · rw[if_pos c] at hp;have ah:=hL () hp;rw[c] at hm;simp (disch:=omega) only[ir31p0,qe,qf,eq_self,ac,reduceIte,hi,qfl,hm,bw,wr,bz,ah]
   · rw[if_neg c] at hp;rw[hp] at hm c;simp (disch:=omega) only[ir31p0,qe,qf,eq_self,ac,reduceIte,hi,qfl,hm,bw,c]
 · rintro _ L hp;rw[drop_length] at hp;simp (disch:=omega) only[ir31p0,qe,qf,eq_self,ac,reduceIte,lt_irrefl,← hp,az3]
def rkR(aa:List (List UInt8))(l:List Int):List D:=if ej aa l=true then [af aa,ab (bg l),.int .i64 0] else [.sl [],.sl [],.int .i64 1]
def aan(aa:List (List UInt8))(fs:List F):List D:=if abx aa fs=0 then rkR aa (rkL (msO aa fs) (2^aa.length)) else [.sl [],.sl [],.int .i64 (abx aa fs)]
theorem afw:∀ l:List F,(F.encs l).all (fun r=>r.length == 3)=true
 | []=>rfl
 | f::l=>by simp[F.encs,F.enc_eq,afw l]
theorem aw2(d:D):run tb 29 [d]=some [d]:=by
 refine qh (x:=ir29) rfl ?_;simp only[ir29,qe,qf,eq_self]
theorem a3j(aa:List (List UInt8))(hn:aa.length<1000000000)(fs:List F)(hf:∀ f∈fs,f.size<1000000000)(rh:fs.length<1000000000) :
 run tb 9 [af aa,.sl (F.encs fs)]=some (aan aa fs):=by
 refine qh (x:=ir9) rfl ?_;have hv:=qbd aa hn;unfold aan abx;cases oy:cu aa with
 | false=>
  rw[oy] at hv;simp (disch:=omega) only[ir9,qe,qf,eq_self,reduceIte,Int.reduceEq,hv]
 | true=>
  rw[oy] at hv;have n8:=qnb oy
  by_cases vr:64<fs.length
  · have zt:(fs.length:Int)>64:=by omega
    simp (disch:=omega) only[ir9,qe,qf,eq_self,ac,reduceIte,Int.reduceEq,hv,vr,zt]
  · have zt:¬ (fs.length:Int)>64:=by omega
    have hb:=aw2 (.sl (F.encs fs));have abt:=qxr aa hn fs hf rh;have ab5:(if true=false then (1:Int) else if 64<fs.length then 2 else jp aa fs)=jp aa fs:=by rw[if_neg (by simp),if_neg vr]
    rw[ab5];have hml:(msO aa fs).length=fs.length:=by simp[msO]
    have hmi:∀ i (h:i<fs.length),(msO aa fs)[i]'(by rw[hml];exact h)=cj aa fs[i]:=fun i h=>by simp[msO]
    generalize msO aa fs=ms at *;have hN:2^aa.length≤64:=Nat.pow_le_pow_right (by omega:0<2) n8
    have jg:=mkN (n:=2^aa.length) (by omega)
    have hz:replicate (2^aa.length) (0:Int)=rkL (ms.drop fs.length) (2^aa.length):=by
     rw[← hml,drop_length];refine ext_getElem (by simp[rkL]) fun i h1 h2=>by simp[rkL,rkB]
    rw[hz] at jg
    have my:PO.eval (.subL 3) [.sl (F.encs fs),.int .i64 0,.int .i64 fs.length]=some [.sl (F.encs fs)]:=by
     simp only[PO.eval,F.encs_len];rw[if_pos ⟨by omega,by omega,by omega,afw fs⟩]
     have:(fs.length:Int).toNat=(F.encs fs).length:=by rw[F.encs_len];omega
     rw[this,List.take_length];rfl
    have zc:PO.eval (.room 1 0) [.sl (F.encs fs)]=some []:=by
     simp only[PO.eval,F.encs_len];rw[if_pos ⟨by omega,by omega⟩]
    simp (disch:=omega) only[ir9,qe,qf,eq_self,ac,reduceIte,bvQ,qcd,hv,zt,qac,jg,hb,my,zc,wr];have lx:∀ l:List Int,PO.eval .lenL [ab l]=some [.int .i64 l.length]:=qob;generalize hNN:2^aa.length=N at *;refine quj (ι:=Nat) (fun k=>k) (fun k=>k≤fs.length∧∀ f∈fs.drop k,bv aa f=0) (fun k=>[ab (rkL (ms.drop k) N),.int .i64 ((k:Int)-1)]) (fun _=>if jp aa fs=0 then rkR aa (rkL ms N) else [.sl [],.sl [],.int .i64 (jp aa fs)]) ?_ fs.length ⟨le_refl _,by simp⟩
    rintro k L ⟨hk,hz⟩ hL;cases k with
    | zero=>
     have h0:¬ ((0:Int)-1≥0):=by omega
     have hf0:jp aa fs=0:=qjg.2 (by simpa using hz)
     have i6:=qme aa (rkL ms N) hn (by rw[qkw];omega)
     rw[if_pos hf0];unfold rkR
     by_cases dc:ej aa (rkL ms N)=true
     · rw[if_pos dc] at i6 ⊢;simp (disch:=omega) only[ir9p2,qe,qf,eq_self,ac,reduceIte,h0,List.drop_zero,i6]
     · rw[if_neg dc] at i6 ⊢;simp (disch:=omega) only[ir9p2,qe,qf,eq_self,ac,reduceIte,h0,List.drop_zero,i6]
    | succ k=>
     have lu:k<fs.length:=by omega
     have e1:((k+1:Nat):Int)-1=(k:Int):=by omega
     have h0:(k:Int)≥0:=by omega
     have hm:=qqd aa fs[k] hn (hf _ (getElem_mem lu));simp only[aj] at hm;rw[e1]
     by_cases c:bv aa fs[k]=0
     · rw[c] at hm
       have ah:=hL k ⟨by omega,fun f hf'=>by
        rw[List.drop_eq_getElem_cons lu] at hf';rcases List.mem_cons.1 hf' with rfl|h
        · exact c
        · exact hz f h⟩ (by omega)
       simp (disch:=omega) only[ir9p2,qe,qf,eq_self,ac,reduceIte,h0,qfl,hm,bw,lx,qkw];have hmz:rkL (ms.drop (k+1)) N=ey (rkB (ms.drop k)) (rkB (ms.drop (k+1))) N 0:=(qgj _ _ _).symm;rw[hmz];refine qu (σ:=Unit) N (fun _ _=>True) (fun w _=>[.int .i64 w,ab (ey (rkB (ms.drop k)) (rkB (ms.drop (k+1))) N w)]) (fun _ _=>_) ?_ ?_ 0 () (zero_le _) trivial
       · rintro w _ L2 hw _ hL2;have dw:=hL2 () trivial;have hh:=qua (cj aa fs[k]) w (by omega)
         have xx:=axr (ms:=ms) (i:=k) (by omega) w
         rw[hmi k lu,hml] at xx;cases o9:(cj aa fs[k]).getLsbD w with
         | true=>
          rw[o9] at hh xx;rw[if_pos rfl] at xx;rw[← qrm _ _ _ _ xx] at dw;simp (disch:=omega) only[ir9p1,ir9p0,qe,qf,eq_self,ac,reduceIte,hw,hh,wr,bz,dw]
         | false=>
          rw[o9] at hh xx;rw[if_neg (by simp)] at xx
          have hc:=qgl (l:=ey (rkB (ms.drop k)) (rkB (ms.drop (k+1))) N w) (i:=w) (by rw[qnc];exact hw)
          have hs:=qio (l:=ey (rkB (ms.drop k)) (rkB (ms.drop (k+1))) N w) (i:=w) (by rw[qnc];exact hw) (rkB (ms.drop k) w)
          rw[qwl _ _ _ _ hw,xx] at hs;simp (disch:=omega) only[ir9p1,ir9p0,qe,qf,eq_self,ac,reduceIte,hw,hh,wr,hc,hs,bz,dw]
       · rintro _ L2 _;rw[qtl];have af1:L [ab ((range N).map (rkB (ms.drop k))),.int .i64 ((k:Int)-1)]=some (if jp aa fs=0 then rkR aa (rkL ms N) else [.sl [],.sl [],.int .i64 (jp aa fs)]):=ah
         simp (disch:=omega) only[ir9p1,qe,qf,eq_self,ac,reduceIte,lt_irrefl,wr,af1]
     · have dc:¬ jp aa fs=0:=fun h=>c (qjg.1 h _ (getElem_mem lu))
       rw[if_neg dc];simp (disch:=omega) only[ir9p2,qe,qf,eq_self,ac,reduceIte,h0,qfl,hm,bw,c,abt]
def upS(ranks:List Int)(k:Int):BitVec 64:=nh ranks 0 k ranks.length
def nu(aa:List (List UInt8))(ranks:List Int)(M:Nat):List F:=(range M).map fun (j:Nat)=>thy aa (upS ranks (j:Int))
def stS(aa:List (List UInt8))(ranks:List Int):List F:=(nu aa ranks (di ranks).toNat).reverse
def stR(aa:List (List UInt8))(ranks:List Int):List D:=if bi aa ranks=0 then [.sl (F.encs (stS aa ranks)),.int .i64 0] else [.sl [],.int .i64 (bi aa ranks)]
theorem qeh(aa:List (List UInt8))(ranks:List Int)(M:Nat):(nu aa ranks M).length=M:=by simp[nu]
theorem qds(aa:List (List UInt8))(ranks:List Int)(i:Nat):nu aa ranks (i+1)=nu aa ranks i++[thy aa (upS ranks i)]:=by simp[nu,range_succ]
theorem qtr(l:List F):(F.encs l).reverse=F.encs l.reverse:=by
 simp only[F.encs_map,List.map_reverse]
theorem aqi(ranks:List Int)(h:ranks.length≤64)(i:Nat):upS ranks ((i:Int)-1)|||d8 ranks i ranks.length=upS ranks i:=by
 refine qxe fun w hw=>?_
 rw[BitVec.getLsbD_or];unfold upS nh d8;rw[qk _ _ _ h,qk _ _ _ h,qk _ _ _ h];generalize ranks.getD w (-1)=r
 by_cases h1:w<ranks.length
 · simp only[h1,decide_true,Bool.true_and]
   by_cases a:r≥0
   · by_cases b:r=(i:Int)
     · subst b;simp
     · by_cases c:r≤(i:Int)-1
       · have:r≤(i:Int):=by omega
         simp[a,b,c,this]
       · have:¬ r≤(i:Int):=by omega
         simp[a,b,c,this]
   · have:¬ r=(i:Int):=by omega
     simp[a,this]
 · simp[h1]
theorem asi(ranks:List Int)(h:ranks.length≤64):upS ranks (-1)=0#64:=by
 refine qxe fun w hw=>?_
 unfold upS nh;rw[qk _ _ _ h];generalize ranks.getD w (-1)=r
 by_cases a:r≥0
 · have:¬ r≤-1:=by omega
   simp[this]
 · simp[a]
theorem a5s(l:List F)(h:l.length<1000000000):run tb 22 [.sl (F.encs l)]=some [.sl (F.encs l.reverse)]:=
 qif rfl (by
  rw[show ext22=ur from rfl]
  unfold ur;simp only[afw,F.encs_len,h,and_self,if_true,qtr])
theorem qow(aa:List (List UInt8))(ranks:List Int)(hn:aa.length<1000000000)(hl:ranks.length<1000000000) :
 run tb 5 [af aa,ab ranks]=some (stR aa ranks):=by
 refine qh (x:=ir5) rfl ?_;have hv:=qlc aa ranks hn hl;have hlv:=qbi aa ranks hn hl;unfold stR
 by_cases h:bi aa ranks=0
 · rw[if_pos h];have an:=qhb h;have oy:=(qz h).1;obtain ⟨m,hm⟩:=Int.eq_ofNat_of_zero_le (qkf ranks);have cf:=qnk (qjf (qz h).2.2) an.2;rw[h] at hv;unfold je at hlv;rw[if_pos h] at hlv;have hM:(di ranks).toNat=m:=by omega
   have hls:j4 ranks=(range (m+1)).map fun k=>d8 ranks k ranks.length:=by unfold j4;rw[hM]
   unfold stS;rw[hM];rw[hls] at hlv
   have my:PO.eval (.subL 1) [dq ((range (m+1)).map fun k=>d8 ranks k ranks.length),.int .i64 0,.int .i64 m]=some [dq ((range m).map fun k=>d8 ranks k ranks.length)]:=by
    simp only[PO.eval,dq];rw[if_pos ⟨by omega,by omega,by simp;omega,by simp⟩]
    have:(m:Int).toNat=m:=by omega
    rw[this,range_succ];simp
   have hml:((range m).map fun k=>d8 ranks k ranks.length).length=m:=by simp
   have hmg:∀ i (hi:i<m),((range m).map fun k=>d8 ranks k ranks.length)[i]'(by rw[hml];exact hi)=d8 ranks i ranks.length:=fun i hi=>by simp
   have axj:((range (m+1)).map fun k=>d8 ranks k ranks.length).length=m+1:=by simp
   simp (disch:=omega) only[ir5,qe,qf,eq_self,ac,reduceIte,hv,bw,hlv,afj,axj,wr,my,hml];have h0:D.int .u64 0=bvD (upS ranks (((0:Nat):Int)-1)):=by rw[show ((0:Nat):Int)-1 = -1 from rfl,asi _ an.1];rfl
   have h1:D.sl [] = .sl (F.encs (nu aa ranks 0)):=rfl;rw[h0,h1];generalize hLV:((range m).map fun k=>d8 ranks k ranks.length)=lv at *
   refine qu (σ:=Unit) m (fun _ _=>True) (fun i _=>[bvD (upS ranks ((i:Int)-1)),.int .i64 i,.sl (F.encs (nu aa ranks i))]) (fun _ _=>[.sl (F.encs (nu aa ranks m).reverse),.int .i64 0]) ?_ ?_ 0 () (zero_le _) trivial
   · rintro i _ L hi _ hL;have ah:=hL () trivial;have hr:=ac5 (l:=lv) (i:=i) (by rw[hml];exact hi)
     rw[hmg i hi] at hr;have hth:=qsn aa hn (upS ranks i);unfold aci at hth;rw[if_pos oy] at hth;simp only[aj,List.cons_append,List.nil_append] at hth;have e1:((i+1:Nat):Int)-1=(i:Int):=by omega
     rw[e1,qds] at ah;have wz:=amf (l:=nu aa ranks i) (g:=thy aa (upS ranks i)) (by rw[qeh];omega)
     simp (disch:=omega) only[ir5p0,qe,qf,eq_self,ac,reduceIte,bvQ,hi,hr,aqi ranks an.1 i,hth,bw,wz,wr,bz,ah]
   · rintro _ L _;have awx:=a5s (nu aa ranks m) (by rw[qeh];omega)
     have c1:∀ k e J xs,fj (run tb) 1 false [0] k e J (some [.sl xs])=den (run tb) k (e++[.sl xs]) J:=fun k e J xs=>rfl
     simp (disch:=omega) only[ir5p0,qe,qf,eq_self,ac,reduceIte,lt_irrefl,awx,c1]
 · rw[if_neg h];simp (disch:=omega) only[ir5,qe,qf,eq_self,ac,reduceIte,hv,bw,h]
theorem aut(aa:List (List UInt8))(hn:aa.length<1000000000)(l:List CF)(hf:∀ c∈l,c.1.size<1000000000∧c.2.size<1000000000)(rh:l.length<1000000000) :
 run tb 34 [af aa,ez l]=some (if prE aa l=0 then [vi (o8 aa l),.int .i64 0] else [.sl [],.int .i64 (prE aa l)]):=by
 refine qh (x:=ir34) rfl ?_;have hv:=qbd aa hn;unfold prE;cases oy:cu aa with
 | false=>
  rw[oy] at hv;simp (disch:=omega) only[ir34,qe,qf,eq_self,reduceIte,Int.reduceEq,hv]
 | true=>
  rw[oy] at hv
  by_cases vr:64<l.length
  · have zt:(l.length:Int)>64:=by omega
    simp (disch:=omega) only[ir34,qe,qf,eq_self,ac,reduceIte,Int.reduceEq,hv,ae3,vr,zt]
  · have zt:¬ (l.length:Int)>64:=by omega
    have ab5:(if true=false then (1:Int) else if 64<l.length then 2 else cE aa l)=cE aa l:=by rw[if_neg (by simp),if_neg vr]
    rw[ab5];simp (disch:=omega) only[ir34,qe,qf,eq_self,ac,reduceIte,hv,ae3,zt];refine qu (σ:=Unit) l.length (fun i _=>cE aa (l.drop i)=cE aa l) (fun i _=>[.int .i64 i,vi (o8 aa (l.take i))]) (fun _ _=>if cE aa l=0 then [vi (o8 aa l),.int .i64 0] else [.sl [],.int .i64 (cE aa l)]) ?_ ?_ 0 () (zero_le _) rfl
    · rintro i _ L hi hp hL;rw[List.drop_eq_getElem_cons hi,ak5] at hp;have hr:=a2s hi;have hfi:=hf _ (getElem_mem hi);have abt:=qxr aa hn [l[i].1,l[i].2] (fun x hx=>by simp only[mem_cons,List.not_mem_nil,or_false] at hx;rcases hx with rfl|rfl;exact hfi.1;exact hfi.2) (by simp)
      have hm1:=qqd aa l[i].1 hn hfi.1;have hm2:=qqd aa l[i].2 hn hfi.2;simp only[aj] at hm1 hm2;have jg:PO.eval (.mk 3 2) [.int .i64 l[i].1.op,.str l[i].1.name,.sl (F.encs l[i].1.args),.int .i64 l[i].2.op,.str l[i].2.name,.sl (F.encs l[i].2.args)]=some [.sl (F.encs [l[i].1,l[i].2])]:=by rw[ah8];simp[F.encs,F.enc_eq]
      unfold vq at hr
      by_cases c:jp aa [l[i].1,l[i].2]=0
      · rw[if_pos c] at hp;have ah:=hL () hp;rw[c] at abt;have wz:=ave (l:=o8 aa (l.take i)) (c:=prS aa l[i]) (by simp[o8];omega)
        have he:o8 aa (l.take i)++[prS aa l[i]]=o8 aa (l.take (i+1)):=by
         rw[List.take_succ_eq_append_getElem hi];simp only[o8,List.map_append,List.map_cons,List.map_nil]
        rw[he] at wz;unfold xb prS at wz;simp (disch:=omega) only[ir34p0,qe,qf,eq_self,ac,reduceIte,bvQ,hi,hr,jg,abt,bw,qbr,hm1,hm2,qyv,wz,wr,bz,ah]
      · rw[if_neg c] at hp;rw[hp] at abt c;simp (disch:=omega) only[ir34p0,qe,qf,eq_self,ac,reduceIte,hi,hr,jg,abt,bw,qbr,c]
    · rintro _ L hp;rw[drop_length] at hp;have hp:cE aa l=0:=by rw[← hp];rfl
      simp (disch:=omega) only[ir34p0,qe,qf,eq_self,ac,reduceIte,lt_irrefl,hp,List.take_length]
theorem a3q(l:List Int)(x:Int)(hl:l.length<1000000000):run tb 92 [ab l,.int .i64 x]=some [.int .i64 (pd x 0 l)]:=by
 refine qh (x:=ir92) rfl ?_;simp (disch:=omega) only[ir92,qe,qf,qob];refine qu (σ:=Unit) l.length (fun i _=>pd x i (l.drop i)=pd x 0 l) (fun i _=>[.int .i64 i]) (fun _ _=>[.int .i64 (pd x 0 l)]) ?_ ?_ 0 () (zero_le _) rfl
 · rintro i _ L hi hp hL;rw[List.drop_eq_getElem_cons hi] at hp;simp only[pd] at hp
   by_cases c:x=l[i]
   · rw[if_pos c] at hp;rw[← hp];simp (disch:=omega) only[ir92p0,qe,qf,eq_self,ac,reduceIte,hi,qjd,c]
   · rw[if_neg c] at hp;have ah:=hL () hp;simp (disch:=omega) only[ir92p0,qe,qf,eq_self,ac,reduceIte,hi,qjd,c,wr,bz,ah]
 · rintro _ L hp;rw[drop_length] at hp;rw[← hp];simp (disch:=omega) only[ir92p0,qe,qf,eq_self,ac,reduceIte,lt_irrefl,pd]
theorem qtq(l:List Int)(x:Int)(hl:l.length<1000000000):run tb 69 [ab l,.int .i64 x]=some [.bool (decide (x∈l))]:=by
 refine qh (x:=ir69) rfl ?_;have h:=a3q l x hl;rw[← qzx x l 0];simp (disch:=omega) only[ir69,qe,qf,eq_self,ac,reduceIte,h]
theorem qov(p:List PP)(hp:p.length≤64):run tb 35 [vi p]=some (aab (aaj p)):=by
 refine qh (x:=ir35) rfl ?_;have jg:=mkN (n:=p.length) (by omega)
 rw[awd] at jg;have lx:∀ l:List Int,PO.eval .lenL [ab l]=some [.int .i64 l.length]:=qob;simp (disch:=omega) only[ir35,qe,qf,aee,jg,lx,qnc];refine qu (σ:=Unit) p.length (fun _ _=>True) (fun i _=>[.int .i64 i,ab (ey (fun _=>-1) (fun _=>0) p.length i)]) (fun _ _=>aab (aaj p)) ?_ ?_ 0 () (zero_le _) trivial
 · rintro i _ L hi _ hL;have ah:=hL () trivial;have hc:=qgl (l:=ey (fun _=>-1) (fun _=>0) p.length i) (i:=i) (by rw[qnc];exact hi)
   have hs:=qio (l:=ey (fun _=>-1) (fun _=>0) p.length i) (i:=i) (by rw[qnc];exact hi) (-1)
   have hms:=qwl (fun _=>-1) (fun _=>0) p.length i hi
   rw[hms] at hs;simp (disch:=omega) only[ir35p6,qe,qf,eq_self,ac,reduceIte,hi,hc,hs,wr,bz,ah]
 · rintro _ L0 _;rw[a45];simp (disch:=omega) only[ir35p6,qe,qf,eq_self,ac,reduceIte,lt_irrefl];refine quj (ι:=Nat × Nat × List Int) (fun x=>x.1) (fun x=>x.1+x.2.1=p.length+1∧ww p 100 x.2.2∧uq x.2.2 p.length<x.1) (fun x=>[.int .i64 x.2.1,ab x.2.2]) (fun x=>aab (zf p x.1 x.2.1 x.2.2)) ?_ (p.length+1,0,replicate p.length (-1)) ⟨rfl,anp p (by omega),by have:=aig (replicate p.length (-1)) p.length;simp only;omega⟩
   rintro ⟨n,k,out⟩ L uy hL;obtain ⟨hnk,hok,a6z⟩:n+k=p.length+1∧ww p 100 out∧uq out p.length<n:=uy;cases n with
   | zero=>omega
   | succ n=>
    have ace:=qtq out (-1) (by rw[hok.1];omega)
    rw[a1o hok] at ace;simp only[qkm];cases hd:n5 out p.length with
    | true=>
     rw[hd] at ace;simp (disch:=omega) only[ir35p5,qe,qf,eq_self,reduceIte,ace,qzi,aab]
    | false=>
     rw[hd] at ace;simp (disch:=omega) only[ir35p5,qe,qf,ace,qzi,aee,if_false];have hz:D.int .u64 0=bvD (p4 p out 0):=rfl;rw[hz];refine qu (σ:=Unit) p.length (fun _ _=>True) (fun i _=>[bvD (p4 p out i),.int .i64 i]) (fun _ _=>_) ?_ ?_ 0 () (zero_le _) trivial
     · rintro i _ L2 hi _ hL2;have ah:=hL2 () trivial;have hio:i<out.length:=by rw[hok.1];exact hi
       have hc:=qgl hio;have hg:=adw hio;have hr:=agy hi;rw[qku,gd hio,gdP hi] at ah;unfold xb at hr
       by_cases c:out[i]<0
       · rw[if_pos c] at ah;simp (disch:=omega) only[ir35p4,ir35p0,qe,qf,eq_self,ac,reduceIte,bvQ,hi,hc,hg,hr,c,wr,bz,ah]
       · rw[if_neg c] at ah;simp (disch:=omega) only[ir35p4,ir35p0,qe,qf,eq_self,ac,reduceIte,hi,hc,hg,hr,c,wr,bz,ah]
     · rintro _ L2 _;have ho:=aw1 hok (p4 p out p.length) k;simp (disch:=omega) only[ir35p4,qe,qf,eq_self,ac,reduceIte,aee,lt_irrefl];generalize ac0:p4 p out p.length=bad at *;have wb:[D.bool false,.int .i64 0,ab out]=[.bool (ui p out bad 0),.int .i64 ((0:Nat):Int),ab (ey (mkF p out bad k) (fun v=>out.getD v 0) p.length 0)]:=by rw[← ho];rfl
       rw[wb];refine qu (σ:=Unit) p.length (fun _ _=>True) (fun i _=>[.bool (ui p out bad i),.int .i64 i,ab (ey (mkF p out bad k) (fun v=>out.getD v 0) p.length i)]) (fun _ _=>_) ?_ ?_ 0 () (zero_le _) trivial
       · rintro i _ L3 hi _ hL3;have ah:=hL3 () trivial;have hil:i<(ey (mkF p out bad k) (fun v=>out.getD v 0) p.length i).length:=by rw[qnc];exact hi
         have hc:=qgl hil;have hg:=adw hil;rw[qqz,if_neg (by omega)] at hg
         have hr:=agy hi;unfold xb at hr;have hs:=qio hil (mkF p out bad k i);rw[qwl _ _ _ _ hi] at hs;rw[qjm] at ah
         by_cases c:out.getD i 0<0
         · by_cases c2:p[i].1 &&& ~~~bad=0#64
           · have i6:¬ se p out bad i:=fun h=>h.2 (by rw[gdP hi];exact c2)
             have rn:=qrm (mkF p out bad k) (fun v=>out.getD v 0) p.length i (by unfold mkF;rw[if_neg i6])
             rw[if_neg i6,← rn] at ah;simp (disch:=omega) only[ir35p3,ir35p2,ir35p1,qe,qf,eq_self,ac,reduceIte,bvQ,hi,hc,hg,hr,c,c2,wr,bz,ah]
           · have aow:se p out bad i:=⟨c,by rw[gdP hi];exact c2⟩
             have acd:mkF p out bad k i=k:=by unfold mkF;rw[if_pos aow]
             rw[if_pos aow] at ah;rw[acd] at hs;simp (disch:=omega) only[ir35p3,ir35p2,ir35p1,qe,qf,eq_self,ac,reduceIte,bvQ,hi,hc,hg,hr,c,c2,hs,wr,bz,ah]
         · have i6:¬ se p out bad i:=fun h=>c h.1
           have rn:=qrm (mkF p out bad k) (fun v=>out.getD v 0) p.length i (by unfold mkF;rw[if_neg i6])
           rw[if_neg i6,← rn] at ah;simp (disch:=omega) only[ir35p3,ir35p2,ir35p1,qe,qf,eq_self,ac,reduceIte,bvQ,hi,hc,hg,hr,c,wr,bz,ah]
       · rintro _ L3 _;rw[← aw5];cases hf:ui p out bad p.length with
         | true=>
          have oq:=hL (n,k+1,mkS p out bad k) ⟨by show n+(k+1)=p.length+1;omega,ahu hok (by omega),by
           have:=(ahk (p:=p) (out:=out) (bad:=bad) (k:=k) p.length (le_refl _)).2 hf;simp only;omega⟩ (by simp only;omega)
          simp only at oq;simp (disch:=omega) only[ir35p3,qe,qf,eq_self,ac,reduceIte,lt_irrefl,wr,bz,oq]
         | false=>
          simp (disch:=omega) only[ir35p3,qe,qf,eq_self,ac,reduceIte,lt_irrefl,aab,if_false]
theorem am6{aa:List (List UInt8)}{l:List CF}(h:prE aa l=0):cu aa=true∧l.length≤64:=by
 unfold prE at h;cases hv:cu aa with
 | false=>rw[hv] at h;simp at h
 | true=>
  rw[hv,if_neg (by simp)] at h
  by_cases h2:64<l.length
  · rw[if_pos h2] at h;simp at h
  · exact ⟨rfl,by omega⟩
def zR(aa:List (List UInt8))(l:List CF):List D:=if prE aa l=0 then (match aaj (o8 aa l) with|some o=>rkR aa (zL (o8 aa l) o (2^aa.length))|none=>[.sl [],.sl [],.int .i64 9]) else [.sl [],.sl [],.int .i64 (prE aa l)]
def nd(p:List PP)(o:List Int)(N w i:Nat):List Int:=(ey (fun w=>zF p o w p.length) (fun _=>0) N w).set w (zF p o w i)
theorem av4(p:List PP)(o:List Int)(N w i:Nat):(nd p o N w i).length=N:=by simp[nd,qnc]
theorem a1n(p:List PP)(o:List Int)(N w:Nat)(h:w<N):nd p o N w 0=ey (fun w=>zF p o w p.length) (fun _=>0) N w:=by
 unfold nd;have r4:w<(ey (fun w=>zF p o w p.length) (fun _=>0) N w).length:=by rw[qnc];exact h
 have hx:(ey (fun w=>zF p o w p.length) (fun _=>0) N w)[w]=0:=by rw[qqz,if_neg (by omega)]
 have hs:=List.set_getElem_self r4;rw[hx] at hs;exact hs
theorem az7(p:List PP)(o:List Int)(N w:Nat)(h:w<N):nd p o N w p.length=ey (fun w=>zF p o w p.length) (fun _=>0) N (w+1):=qwl (fun w=>zF p o w p.length) (fun _=>0) N w h
theorem asc(p:List PP)(o:List Int)(N w i:Nat)(h:w<(nd p o N w i).length):(nd p o N w i)[w]=zF p o w i:=by simp[nd]
theorem a1r(p:List PP)(o:List Int)(N w i:Nat)(x:Int):(nd p o N w i).set w x=(ey (fun w=>zF p o w p.length) (fun _=>0) N w).set w x:=by simp[nd]
theorem aui(aa:List (List UInt8))(hn:aa.length<1000000000)(l:List CF)(hf:∀ c∈l,c.1.size<1000000000∧c.2.size<1000000000)(rh:l.length<1000000000) :
 run tb 10 [af aa,ez l]=some (zR aa l):=by
 refine qh (x:=ir10) rfl ?_;have h1:=aut aa hn l hf rh;unfold zR
 by_cases c:prE aa l=0
 · rw[if_pos c] at h1 ⊢;have oy:=(am6 c).1;have alh:(o8 aa l).length≤64:=by simp only[o8,List.length_map];exact (am6 c).2
   generalize o8 aa l=p at *;have h2:=qov p alh;cases hl:aaj p with
   | none=>
    rw[hl] at h2;simp (disch:=omega) only[ir10,qe,qf,eq_self,ac,reduceIte,Int.reduceEq,h1,bw,aab,h2]
   | some o=>
    rw[hl] at h2;obtain ⟨hol,hob⟩:=avc alh hl;have n8:=qnb oy;have hN:2^aa.length≤64:=Nat.pow_le_pow_right (by omega:0<2) n8
    have jg:=mkN (n:=2^aa.length) (by omega)
    have hz:replicate (2^aa.length) (0:Int)=ey (fun w=>zF p o w p.length) (fun _=>0) (2^aa.length) 0:=by
     rw[qgj];refine ext_getElem (by simp) fun i h1 h2=>by simp
    rw[hz] at jg;have lx:∀ l:List Int,PO.eval .lenL [ab l]=some [.int .i64 l.length]:=qob;simp (disch:=omega) only[ir10,qe,qf,eq_self,ac,reduceIte,bvQ,qcd,h1,bw,aab,h2,qac,jg,lx,qnc];generalize hNN:2^aa.length=N at *;refine qu (σ:=Unit) N (fun _ _=>True) (fun w _=>[.int .i64 w,ab (ey (fun w=>zF p o w p.length) (fun _=>0) N w)]) (fun _ _=>rkR aa (zL p o N)) ?_ ?_ 0 () (zero_le _) trivial
    · rintro w _ L hw _ hL;have ah:=hL () trivial;simp (disch:=omega) only[ir10p2,qe,qf,eq_self,ac,reduceIte,hw,aee];rw[← a1n p o N w hw];refine qu (σ:=Unit) p.length (fun _ _=>True) (fun i _=>[.int .i64 i,ab (nd p o N w i)]) (fun _ _=>_) ?_ ?_ 0 () (zero_le _) trivial
      · rintro i _ L2 hi _ hL2;have dw:=hL2 () trivial;have hh:=qua p[i].2 w (by omega)
        have hr:=agy hi;unfold xb at hr;have r4:w<(nd p o N w i).length:=by rw[av4];exact hw
        have hc:=qgl r4;have hg:=adw r4;rw[asc] at hg;have hio:i<o.length:=by rw[hol];exact hi
        have mn:=qjd hio;have hoi:=hob _ (getElem_mem hio);have hs:=qio r4 (zF p o w (i+1));have hs2:(nd p o N w i).set w (zF p o w (i+1))=nd p o N w (i+1):=a1r _ _ _ _ _ _;rw[hs2] at hs;cases o9:p[i].2.getLsbD w with
        | true=>
         rw[o9] at hh;have hzs:zF p o w (i+1)=j5 (zF p o w i) (o[i]+1):=by rw[qix,gdP hi,o9,if_pos rfl,gd hio]
         rw[hzs] at hs;unfold j5 at hs;simp (disch:=omega) only[ir10p1,ir10p0,qe,qf,eq_self,ac,reduceIte,hi,hr,hh,hc,hg,mn,hs,wr,bz,dw]
        | false=>
         rw[o9] at hh;have hzs:zF p o w (i+1)=zF p o w i:=by rw[qix,gdP hi,o9,if_neg (by simp)]
         have hzr:nd p o N w i=nd p o N w (i+1):=by unfold nd;rw[hzs]
         rw[← hzr] at dw;simp (disch:=omega) only[ir10p1,ir10p0,qe,qf,eq_self,ac,reduceIte,hi,hr,hh,wr,bz,dw]
      · rintro _ L2 _;rw[az7 p o N w hw];simp (disch:=omega) only[ir10p1,qe,qf,eq_self,ac,reduceIte,lt_irrefl,wr,bz,ah]
    · rintro _ L _;have i6:=qme aa (zL p o N) hn (by rw[anr];omega)
      rw[qtl];have i6:run tb 33 [af aa,ab ((range N).map fun w=>zF p o w p.length)]=some (rkR aa (zL p o N)):=i6
      unfold rkR at i6 ⊢
      by_cases dc:ej aa (zL p o N)=true
      · rw[if_pos dc] at i6 ⊢;simp (disch:=omega) only[ir10p2,qe,qf,eq_self,ac,reduceIte,lt_irrefl,i6]
      · rw[if_neg dc] at i6 ⊢;simp (disch:=omega) only[ir10p2,qe,qf,eq_self,ac,reduceIte,lt_irrefl,i6]
 · rw[if_neg c] at h1 ⊢;simp (disch:=omega) only[ir10,qe,qf,eq_self,ac,reduceIte,h1,bw,c]
def io(ranks:List Int)(k:Int):BitVec 64:=nh ranks k (di ranks) ranks.length
def cdF(aa:List (List UInt8))(ranks:List Int)(k:Nat):CF:=(thy aa (io ranks (k:Int)),thy aa (d8 ranks k ranks.length))
def cdS(aa:List (List UInt8))(ranks:List Int)(M:Nat):List CF:=(range M).map (cdF aa ranks)
def cdR(aa:List (List UInt8))(ranks:List Int):List D:=if bi aa ranks=0 then [ez (cdS aa ranks (di ranks).toNat),.int .i64 0] else [.sl [],.int .i64 (bi aa ranks)]
theorem qvj(aa:List (List UInt8))(ranks:List Int)(M:Nat):(cdS aa ranks M).length=M:=by simp[cdS]
theorem a48(aa:List (List UInt8))(ranks:List Int)(i:Nat):cdS aa ranks (i+1)=cdS aa ranks i++[cdF aa ranks i]:=by simp[cdS,range_succ]
theorem qfp(ranks:List Int)(h:ranks.length≤64)(i:Nat):io ranks (i:Int) &&& ~~~d8 ranks i ranks.length=io ranks ((i+1:Nat):Int):=by
 refine qxe fun w hw=>?_
 rw[BitVec.getLsbD_and,BitVec.getLsbD_not];unfold io nh d8;rw[qk _ _ _ h,qk _ _ _ h,qk _ _ _ h];generalize ranks.getD w (-1)=r
 by_cases h1:w<ranks.length
 · simp only[h1,decide_true,Bool.true_and]
   by_cases b:r=(i:Int)
   · have:¬ r≥((i+1:Nat):Int):=by omega
     simp[b];intros;omega
   · by_cases c:r≥(i:Int)
     · have:r≥((i+1:Nat):Int):=by omega
       simp[b,c,hw];intros;omega
     · have:¬ r≥((i+1:Nat):Int):=by omega
       simp[b,c];intros;omega
 · simp[h1]
theorem ayv{aa:List (List UInt8)}{ranks:List Int}(h:bi aa ranks=0):ny aa=io ranks 0:=by
 have an:=qhb h;obtain ⟨oy,hl,xx⟩:=qz h;refine qxe fun w hw=>?_
 unfold ny io nh;rw[if_pos oy,← hl,qk _ _ _ an.1,qk _ _ _ an.1]
 by_cases h1:w<ranks.length
 · have hm:=quf (qjf xx) ranks[w] (getElem_mem h1);have hx:ranks[w]≤di ranks:=qdf ranks 0 _ (getElem_mem h1);have hg:ranks.getD w (-1)=ranks[w]:=by simp[h1]
   rw[hg];have h0:ranks[w]≥0:=hm.1;simp[h0,hx]
 · simp[h1]
theorem ae6{aa:List (List UInt8)}{N:Nat}{o:List Int}(h:Ord aa N o)(k:Int)(w:Nat):has (upS o k) w↔w<N∧o.getD w 0≤k:=by
 have hN:o.length=N:=h.rk.1;have vr:o.length≤64:=(qhb h.ok).1;unfold has upS nh;rw[qk _ _ _ vr,← hN]
 by_cases hw:w<o.length
 · have g:o.getD w (-1)=o.getD w 0:=by simp[hw]
   have:=(agu h.rk (w:=w) (by omega)).1
   have h0:o.getD w 0≥0:=this;rw[g];simp only[hw,decide_true,Bool.true_and,Bool.and_eq_true,decide_eq_true_eq,true_and];exact ⟨fun x=>x.2,fun x=>⟨h0,x⟩⟩
 · simp[hw]
theorem qef{aa:List (List UInt8)}{N:Nat}{o:List Int}(h:Ord aa N o)(k:Int)(w:Nat):has (io o k) w↔w<N∧k≤o.getD w 0:=by
 have hN:o.length=N:=h.rk.1;have vr:o.length≤64:=(qhb h.ok).1;unfold has io nh;rw[qk _ _ _ vr,← hN]
 by_cases hw:w<o.length
 · have g:o.getD w (-1)=o.getD w 0:=by simp[hw]
   have hm:o.getD w 0≤di o:=by rw[gd hw];exact qdf o 0 _ (getElem_mem _)
   rw[g];simp only[hw,decide_true,Bool.true_and,Bool.and_eq_true,decide_eq_true_eq,true_and];omega
 · simp[hw]
theorem qln{aa:List (List UInt8)}{N:Nat}{o:List Int}(h:Ord aa N o)(k:Nat)(w:Nat):has (d8 o k o.length) w↔w<N∧o.getD w 0=k:=by
 have hN:o.length=N:=h.rk.1;have vr:o.length≤64:=(qhb h.ok).1;unfold has d8;rw[qk _ _ _ vr,← hN]
 by_cases hw:w<o.length
 · have g:o.getD w (-1)=o.getD w 0:=by simp[hw]
   rw[g];simp[hw]
 · simp[hw]
theorem qlh{n:Nat}(hn:n≤6){X:BitVec 64}(hX:∀ w,has X w→w<2^n):bv (aq n) (thy (aq n) X)=0∧cj (aq n) (thy (aq n) X)=X:=by
 have:=azd (qnd hn) X;rw[asr hn hX] at this;exact this
theorem axt{n:Nat}(hn:n≤6){o:List Int}(h:Ord (aq n) (2^n) o){w:Nat}(hw:w<2^n):∀ k:Nat,rkB (msO (aq n) (nu (aq n) o k).reverse) w=if o.getD w 0≤k then o.getD w 0 else k:=by
 intro k
 induction k with
 | zero=>
  have:=(agu h.rk hw).1;simp only[nu,List.range_zero,List.map_nil,List.reverse_nil,msO,at5]
  split<;>omega
 | succ k ih=>
  rw[qds,List.reverse_append];simp only[List.reverse_cons,List.reverse_nil,List.nil_append,List.cons_append,msO,List.map_cons];rw[qka,(qlh hn fun v hv=>((ae6 h _ _).1 hv).1).2]
  have hu:=ae6 h (k:Int) w;unfold has at hu;have ih:rkB ((nu (aq n) o k).reverse.map (cj (aq n))) w=if o.getD w 0≤k then o.getD w 0 else k:=ih
  by_cases c:o.getD w 0≤(k:Int)
  · rw[if_pos (hu.2 ⟨hw,c⟩),ih,if_pos c,if_pos (by omega)]
  · rw[if_neg (fun x=>c (hu.1 x).2),List.length_map,List.length_reverse,qeh]
    split<;>omega
theorem qfa{n:Nat}(hn:n≤6){o:List Int}(h:Ord (aq n) (2^n) o):di o<((2^n:Nat):Int):=by
 have hN:o.length=2^n:=h.rk.1;have:=qnk (qjf (qz h.ok).2.2) (qhb h.ok).2;rw[hN] at this;exact this
theorem qtz{n:Nat}(hn:n≤6){o:List Int}(h:Ord (aq n) (2^n) o):rkR (aq n) o=[af (aq n),ab o,.int .i64 0]:=by
 have hN:o.length=2^n:=h.rk.1;obtain ⟨hv,hl,hr⟩:=qz h.ok;unfold rkR;have:ej (aq n) o=true:=by unfold ej;rw[hv,hl];simp
 rw[if_pos this,qjp hr]
theorem qvx{n:Nat}(hn:n≤4){o:List Int}(h:Ord (aq n) (2^n) o):aan (aq n) (stS (aq n) o)=[af (aq n),ab o,.int .i64 0]:=by
 have n8:n≤6:=by omega
 have hp:2^n≤2^4:=Nat.pow_le_pow_right (by omega) hn
 have hmx:=qfa n8 h;have ue:=qkf o;have hN:o.length=2^n:=h.rk.1;have m9:(stS (aq n) o).length=(di o).toNat:=by unfold stS;rw[List.length_reverse,qeh]
 have he:abx (aq n) (stS (aq n) o)=0:=by
  unfold abx;rw[qnd n8,if_neg (by simp),if_neg (by rw[m9];omega),qjg]
  intro f hf;unfold stS nu at hf;rw[List.mem_reverse,List.mem_map] at hf;obtain ⟨j,_,rfl⟩:=hf;exact (qlh n8 fun v hv=>((ae6 h _ _).1 hv).1).1
 unfold aan;rw[if_pos he]
 have hl:rkL (msO (aq n) (stS (aq n) o)) (2^(aq n).length)=o:=by
  rw[qv];refine ext_getElem (by rw[qkw,hN]) fun w h1 h2=>?_
  have hw:w<2^n:=by omega
  have:=axt n8 h hw (di o).toNat;have hm:o.getD w 0≤di o:=by rw[gd h2];exact qdf o 0 _ (getElem_mem _)
  rw[if_pos (by omega)] at this
  simp only[rkL,List.getElem_map,List.getElem_range];rw[← gd h2];exact this
 rw[hl,qtz n8 h]
def ol(M k:Nat):List Int:=(range M).map fun i=>if i<k then (i:Int) else -1
theorem qgh{M k i:Nat}(h:i<M):(ol M k).getD i 0=if i<k then (i:Int) else -1:=by
 rw[List.getD_eq_getElem?_getD];simp[ol,List.getElem?_map,List.getElem?_range h]
def prK(o:List Int)(M:Nat):List PP:=(range M).map fun k=>(d8 o k o.length,io o ((k+1:Nat):Int))
theorem qir(o:List Int)(M:Nat):(prK o M).length=M:=by simp[prK]
theorem qux{o:List Int}{M i:Nat}(h:i<M):(prK o M).getD i (0#64,0#64)=(d8 o i o.length,io o ((i+1:Nat):Int)):=by
 rw[List.getD_eq_getElem?_getD];simp[prK,List.getElem?_map,List.getElem?_range h]
theorem a3w{n:Nat}(hn:n≤6){o:List Int}(h:Ord (aq n) (2^n) o)(M:Nat):o8 (aq n) (cdS (aq n) o M)=prK o M:=by
 unfold o8 cdS prK;rw[List.map_map];refine List.map_congr_left fun k _=>?_
 show prS (aq n) (cdF (aq n) o k)=_
 unfold prS cdF;have a1:=(qlh hn (X:=io o (k:Int)) fun v hv=>((qef h _ _).1 hv).1).2
 have a2:=(qlh hn (X:=d8 o k o.length) fun v hv=>((qln h _ _).1 hv).1).2
 simp only;rw[a1,a2];refine Prod.ext (qzb fun w=>?_) (qfp o (qhb h.ok).1 k)
 rw[qy,qef h,qln h]
 constructor
 · exact fun x=>x.2
 · exact fun x=>⟨⟨x.1,by omega⟩,x⟩
theorem akd{aa:List (List UInt8)}{N:Nat}{o:List Int}(h:Ord aa N o){M k:Nat}(hk:k<M):∀ i,i≤M→p4 (prK o M) (ol M k) i=if i≤k then 0#64 else io o ((k+1:Nat):Int)
 | 0,_=>by rw[if_pos (by omega)];rfl
 | i+1,hi=>by
  rw[qku,qgh (by omega),qux (by omega),akd h hk i (by omega)]
  by_cases c:i<k
  · rw[if_pos c,if_neg (by omega),if_pos (by omega),if_pos (by omega)]
  · rw[if_neg c,if_pos (by omega),if_neg (by omega:¬ i+1≤k)]
    refine qzb fun w=>?_
    rw[qic];simp only[qef h]
    by_cases e:i=k
    · subst e;rw[if_pos (le_refl _)];simp[has]
    · rw[if_neg (by omega),qef h]
      constructor
      · rintro (x|x)
        · exact x
        · exact ⟨x.1,by have:=x.2;omega⟩
      · exact fun x=>.inl x
theorem aus{aa:List (List UInt8)}{N:Nat}{o:List Int}(h:Ord aa N o){k:Nat}(hk:(k:Int)<di o):∃ w,w<N∧o.getD w 0=k:=by
 obtain ⟨_,_,hr⟩:=qz h.ok;unfold mo at hr;rw[Bool.and_eq_true] at hr;have:=List.all_eq_true.1 hr.2 k (List.mem_range.2 (by omega))
 have hm:(k:Int)∈o:=by simpa using this
 obtain ⟨w,hw,he⟩:=List.getElem_of_mem hm;exact ⟨w,by rw[← h.rk.1];exact hw,by rw[gd hw];exact he⟩
theorem ae1{aa:List (List UInt8)}{N:Nat}{o:List Int}(h:Ord aa N o){M k v:Nat}(hM:(M:Int)=di o)(hk:k<M)(hv:v<M):se (prK o M) (ol M k) (io o ((k+1:Nat):Int)) v↔v=k:=by
 unfold se;rw[qgh hv,qux hv]
 constructor
 · rintro ⟨h1,h2⟩
   by_cases c:v<k
   · rw[if_pos c] at h1;omega
   · refine Classical.byContradiction fun dc=>h2 (qxb.2 fun w hw=>?_)
     rw[qfb,qln h,qef h] at hw;exact hw.2 ⟨hw.1.1,by omega⟩
 · rintro rfl;refine ⟨by rw[if_neg (by omega)];decide,fun hz=>?_⟩
   obtain ⟨w,hw,he⟩:=aus h (k:=v) (by omega)
   refine qxb.1 hz w (qfb.2 ⟨(qln h _ _).2 ⟨hw,he⟩,fun hf=>?_⟩)
   have:=((qef h _ _).1 hf).2;omega
theorem ajf{p:List PP}{out:List Int}{bad:BitVec 64}{k:Nat}(hk:se p out bad k):∀ n,k<n→ui p out bad n=true
 | 0,h=>by omega
 | n+1,h=>by
  rw[qjm]
  by_cases c:se p out bad n
  · rw[if_pos c]
  · rw[if_neg c];exact ajf hk n (by have:k≠n:=fun e=>c (e ▸ hk);omega)
theorem ahh{aa:List (List UInt8)}{N:Nat}{o:List Int}(h:Ord aa N o){M:Nat}(hM:(M:Int)=di o):∀ n k,n+k=M+1→0<n→zf (prK o M) n k (ol M k)=some (ol M M)
 | 0,k,_,h0=>by omega
 | n+1,k,hn,_=>by
  rw[qkm,qir]
  by_cases hk:k=M
  · subst hk;rw[if_pos];refine (qqf _ _).2 fun i hi=>?_
    rw[qgh hi,if_pos hi];omega
  · have hkM:k<M:=by omega
    rw[if_neg (fun hd=>by
     have:=(qqf _ _).1 hd k hkM;rw[qgh hkM,if_neg (by omega)] at this
     omega),akd h hkM M (le_refl _),if_neg (by omega:¬ M≤k)]
    rw[if_pos (ajf ((ae1 h hM hkM hkM).2 rfl) M hkM)]
    have jg:mkS (prK o M) (ol M k) (io o ((k+1:Nat):Int)) k=ol M (k+1):=by
     unfold mkS ol;rw[qir];refine List.map_congr_left fun v hv=>?_
     have hv:=List.mem_range.1 hv
     show mkF (prK o M) (ol M k) (io o ((k+1:Nat):Int)) k v=_
     unfold mkF
     by_cases e:v=k
     · rw[if_pos ((ae1 h hM hkM hv).2 e),if_pos (by omega),e]
     · rw[if_neg (fun x=>e ((ae1 h hM hkM hv).1 x)),qgh hv]
       by_cases c:v<k
       · rw[if_pos c,if_pos (by omega)]
       · rw[if_neg c,if_neg (by omega)]
    rw[jg];exact ahh h hM n (k+1) (by omega) (by omega)
theorem z_K{aa:List (List UInt8)}{N:Nat}{o:List Int}(h:Ord aa N o){M w:Nat}(hw:w<N):∀ i,i≤M→zF (prK o M) (ol M M) w i=if o.getD w 0≤i then o.getD w 0 else i
 | 0,_=>by
  have:=(agu h.rk hw).1
  show (0:Int)=_
  split<;>omega
 | i+1,hi=>by
  have hat:(if i<M then (i:Int) else -1)=i:=if_pos (by omega)
  rw[qix,qux (by omega),qgh (by omega),hat,z_K h hw i (by omega)]
  simp only;have hf:=qef h ((i+1:Nat):Int) w;unfold has at hf
  by_cases c:((i+1:Nat):Int)≤o.getD w 0
  · rw[if_pos (hf.2 ⟨hw,c⟩),if_neg (by omega:¬ o.getD w 0≤(i:Int))]
    unfold j5;rw[if_pos (by omega)]
    split<;>omega
  · rw[if_neg (fun x=>c (hf.1 x).2),if_pos (by omega:o.getD w 0≤(i:Int)),if_pos (by omega:o.getD w 0≤((i+1:Nat):Int))]
theorem amt{aa:List (List UInt8)}:∀ {l:List CF},(∀ c∈l,jp aa [c.1,c.2]=0)→cE aa l=0
 | [],_=>rfl
 | c::l,h=>by rw[ak5,if_pos (h c (by simp)),amt fun c hc=>h c (by simp[hc])]
theorem a0x{n:Nat}(hn:n≤4){o:List Int}(h:Ord (aq n) (2^n) o):zR (aq n) (cdS (aq n) o (di o).toNat)=[af (aq n),ab o,.int .i64 0]:=by
 have n8:n≤6:=by omega
 have hp:2^n≤2^4:=Nat.pow_le_pow_right (by omega) hn
 have hmx:=qfa n8 h;have ue:=qkf o;have hN:o.length=2^n:=h.rk.1;obtain ⟨M,hM⟩:=Int.eq_ofNat_of_zero_le ue;have hMt:(di o).toNat=M:=by omega
 rw[hMt]
 have he:prE (aq n) (cdS (aq n) o M)=0:=by
  unfold prE;rw[qnd n8,if_neg (by simp),if_neg (by rw[qvj];omega)]
  refine amt fun c hc=>?_
  unfold cdS at hc;obtain ⟨k,_,rfl⟩:=List.mem_map.1 hc;rw[qjg];intro f hf;unfold cdF at hf;simp only[mem_cons,List.not_mem_nil,or_false] at hf;rcases hf with rfl|rfl
  · exact (qlh n8 fun v hv=>((qef h _ _).1 hv).1).1
  · exact (qlh n8 fun v hv=>((qln h _ _).1 hv).1).1
 have hl:aaj (prK o M)=some (ol M M):=by
  unfold aaj;rw[qir];have:replicate M (-1:Int)=ol M 0:=ext_getElem (by simp[ol]) fun i h1 h2=>by simp[ol]
  rw[this];exact ahh h hM.symm (M+1) 0 (by omega) (by omega)
 unfold zR;rw[if_pos he,a3w n8 h,hl];simp only
 have hz:zL (prK o M) (ol M M) (2^(aq n).length)=o:=by
  rw[qv];refine ext_getElem (by rw[anr,hN]) fun w h1 h2=>?_
  have hw:w<2^n:=by omega
  have hm:o.getD w 0≤di o:=by rw[gd h2];exact qdf o 0 _ (getElem_mem _)
  have:=z_K h hw M (le_refl _);rw[if_pos (by omega)] at this
  simp only[zL,List.getElem_map,List.getElem_range,qir];rw[← gd h2];exact this
 rw[hz,qtz n8 h]
end Go.Proofs.YtefjlhhicgepfaaGreatDoor

/- Lemmas. -/
import Derived.Test.YtefjlhhicgepfaaGreatDoorCe
import Derived.Test.YtefjlhhicgepfaaGreatDoorRw0
set_option linter.unusedSimpArgs false
set_option linter.unusedVariables false
set_option linter.unusedSectionVars false
open BitVec (ofNat)
namespace Go.Proofs.YtefjlhhicgepfaaGreatDoor
open Go.Proofs.Tryz (prog)
open Go Am
set_option maxRecDepth 100000
theorem a0t{n:Nat}(hn:n=1∨n=2)(rows:List (List Int))(hV:Vld n rows) :
 run tb 16 [.int .i64 (n:Int),jo rows,.int .i64 1,af (aq n)]=some (zw 1 n rows (aq n)):=by
 refine qh (x:=ir16) rfl ?_;have n8:n≤6:=by omega
 have hs:=qcj (n:Int);have hva:=qbq n rows (by rw[hV.len];omega) (fun r hr=>by rw[hV.row r hr];omega)
 rw[if_pos (qkl.2 hV)] at hva;have oy:=qbd (aq n) (by rw[qv];omega)
 rw[qnd n8] at oy;have:=a2c hn (kind:=1) (.inl rfl) rows (aq n) hV (qnd n8) (qv n) (fun s hs=>by rw[qlk s hs];omega) (.int .i64 0) (.bool false) (.bool false) (.bool false)
 simp (disch:=omega) only[ir16,ir16p7,qe,qf,eq_self,ac,reduceIte,hva,oy,qac,qv,bw,this]
def flO(n k:Nat):OO:=(aq n,bg (rc [ofNat 64 k] (2^n)))
def abn(n:Nat)(o:List Int)(k:Nat):OO:=if k=(dh (aq n) o).toNat then (aq n,o) else flO n k
def mh(n:Nat)(o:List Int)(k:Nat):List OO:=(List.range k).map (abn n o)
theorem a52{n:Nat}(hn:n=1∨n=2){k:Nat}(hk:k<2^2^n):abm n (ofNat 64 k) (flO n k):=
 a5n (by omega) (qhj _ _) (al3 (qqt hn) hk) fun w hw=>by
  rw[qut hw];simp only[dg];exact ⟨fun h=>by rw[if_pos h];rfl,fun h=>by rw[if_neg h];simp⟩
section
variable {n:Nat}(hn:n=1∨n=2){o:List Int}(hO:Ord (aq n) (2^n) o)
include hn hO
theorem awt:(dh (aq n) o).toNat<2^2^n:=by
 have:=abs (qnz hO.ok (BitVec.allOnes 64))
 rwa [qv] at this
theorem a6b:xm n 1 (mh n o (2^2^n)):=by
 refine ⟨by simp[mh,jv],fun i hi=>?_⟩
 have bn:i<2^2^n:=by simpa [mh] using hi
 have e:(mh n o (2^2^n))[i]=abn n o i:=by simp[mh]
 rw[e]
 show abm n (ofNat 64 i) _
 unfold abn
 split
 · rename_i h;refine ⟨rfl,hO.ok,hO.rk.1,fun _=>?_⟩
   rw[h,qng]
 · exact a52 hn bn
end
theorem avo{n:Nat}(hn:n≤6)(k:Nat):run tb 13 [af (aq n),dq [ofNat 64 k]]=some [af (flO n k).1,ab (flO n k).2,.int .i64 0]:=by
 have:=ax3 (aq n) [ofNat 64 k] (by rw[qv];omega) (by simp)
 unfold acb at this
 rwa [if_pos (qnd hn),qv] at this
theorem a5g{os:List OO}{o:OO}(h:os.length<1000000000):PO.eval (.app 2 48) [osD os,.sl [[af o.1,ab o.2]]]=some [osD (os++[o])]:=by
 have:=qxg (sz:=2) (bt:=48) (xs:=os.map fun o=>[af o.1,ab o.2]) (ys:=[[af o.1,ab o.2]]) (by simp;omega) (by simp;omega) rfl
 simpa [osD] using this
theorem a6a{n:Nat}(hn:n≤3)(hn1:1≤n){o:List Int}(hO:Ord (aq n) (2^n) o)(v0 v1 v2 v4 v5 v9 v10 v11 v12 v13 v14 v15 v16 v17 v18 v19 v20 v21 v22 v23 v24 v25 v26 v27 v28 v29:D)(J0 J1:PF) :
 den (run tb1) ir0p4 [v0,v1,v2,.int .i64 (n:Int),v4,v5,af (aq n),af (aq n),ab o,v9,v10,v11,v12,v13,v14,v15,v16,v17,v18,v19,v20,v21,v22,v23,v24,v25,v26,v27,v28,v29,.bool false] [J0,J1]=some [.bool true]:=by
 have aw:=up qdy
 by_cases h2:(n:Int)>2
 · simp (disch:=omega) only[ir0p4,qe,qf,eq_self,ac,reduceIte,h2,aw]
 have xe:n=1∨n=2:=by omega
 have n8:n≤6:=by omega
 have ry:(aq n).length<1000000000:=by rw[qv];omega
 have hol:o.length<1000000000:=by
  have:=lq n8;rw[hO.rk.1];omega
 have ug:=up (qsk (aq n) o ry hol);have hcn:=adz n;have hsu:=ahd (i:=n) (by omega)
 have hsn:PO.eval (.bin .shl false) [.int .i64 1,bvD (1#64 <<< n)]=some [.int .i64 ((2^(2^n):Nat):Int)]:=by
  rw[← a6l];exact a5z (by rcases xe with rfl|rfl<;>decide)
 have ph:=a6b xe hO;have hS:=az2 xe ph;obtain ⟨hE,xn,_⟩:=qox xe (kind:=1) (.inl rfl) ph;obtain ⟨zj,_⟩:=a2x xe (kind:=1) (.inl rfl) ph;have jg:=up (qbt (mh n o (2^2^n)) 1 hS);unfold mkV at jg;rw[if_pos hE,xn,qv] at jg;have hor:=up (a0t xe _ zj);rw[ayh xe (kind:=1) (.inl rfl) ph] at hor;have alw:=awt xe hO;have ay1:2^2^n≤16:=by rcases xe with rfl|rfl<;>decide
 have hbi:=aix (x:=dh (aq n) o) (by omega)
 have wy:(mh n o (2^2^n)).length=2^2^n:=by simp[mh]
 have ak:=qex (l:=mh n o (2^2^n)) (i:=(dh (aq n) o).toNat) (by rw[wy];exact alw)
 have ue:(mh n o (2^2^n))[(dh (aq n) o).toNat]'(by rw[wy];exact alw)=(aq n,o):=by simp[mh,abn]
 rw[ue] at ak;have hsm:=up (qes (aq n) (aq n) o o ry hol);rw[decide_eq_true rfl,decide_eq_true rfl] at hsm;have o5:=agl (mh n o (2^2^n));rw[wy] at o5;have ax5:((dh (aq n) o).toNat:Int)<((2^2^n:Nat):Int):=by omega
 have ax0:∀ k,abn n o k=if k=(dh (aq n) o).toNat then (aq n,o) else flO n k:=fun _=>rfl
 generalize hm:2^2^n=m at *;generalize dh (aq n) o=bel at *;simp (disch:=omega) only[ir0p4,qe,qf,eq_self,ac,reduceIte,h2];refine qu (σ:=Unit) m (fun _ _=>True) (fun i _=>[.int .i64 i,osD (mh n o i)]) (fun _ _=>[.bool true]) ?_ ?_ 0 () (Nat.zero_le _) trivial
 · rintro k _ L hk _ hL;have ah:=hL () trivial;have lu:(k:Int)<(m:Int):=by omega
   have hcv:=adz k;have f9:run tb1 13 [af (aq n),.sl [[bvD (ofNat 64 k)]]]=some [af (flO n k).1,ab (flO n k).2,.int .i64 0]:=up (avo n8 k);have an:(mh n o k).length=k:=by simp[mh]
   have wz:=fun x=>a5g (os:=mh n o k) (o:=x) (by omega)
   have akc:mh n o (k+1)=mh n o k++[abn n o k]:=by simp[mh,List.range_succ]
   rw[akc] at ah;have hd:=ax0 k
   by_cases hkb:k=bel.toNat
   · have hq:PO.eval (.bin .eql false) [bvD (ofNat 64 k),bvD bel]=some [.bool true]:=by rw[adp,decide_eq_true (by rw[hkb,qng])]
     rw[if_pos hkb] at hd;rw[hd] at ah;have ha:=wz (aq n,o);simp (disch:=omega) only[ir0p3,ir0p2,qe,qf,eq_self,ac,reduceIte,hcn,hsu,hsn,lu,hcv,f9,bw,ug,hq,qyv,ha,wr,bz,ah]
   · have hq:PO.eval (.bin .eql false) [bvD (ofNat 64 k),bvD bel]=some [.bool false]:=by rw[adp,decide_eq_false fun e=>hkb (by rw[← e,qpd hk ay1])]
     rw[if_neg hkb] at hd;rw[hd] at ah;have ha:=wz (flO n k);simp (disch:=omega) only[ir0p3,ir0p2,qe,qf,eq_self,ac,reduceIte,hcn,hsu,hsn,lu,hcv,f9,bw,ug,hq,qyv,ha,wr,bz,ah]
 · rintro _ L _;simp (disch:=omega) only[ir0p3,qe,qf,eq_self,ac,reduceIte,hcn,hsu,hsn,Int.lt_irrefl,jg,hor,ug,hbi,o5,ax5,ak,hsm,aw]
end Go.Proofs.YtefjlhhicgepfaaGreatDoor

namespace Go.Proofs.YtefjlhhicgepfaaGreatDoor
open Go.Proofs.Tryz (prog)
open Go Am
set_option maxRecDepth 100000
theorem a59{l:List CF}{i:Nat}(h:i<l.length):PO.eval (.get 0 3) [ez l,.int .i64 i]=some [.int .i64 l[i].1.op,.str l[i].1.name,.sl (F.encs l[i].1.args)]:=by simp[PO.eval,ez,h,vq]
theorem a30{l:List CF}{i:Nat}(h:i<l.length):PO.eval (.get 3 3) [ez l,.int .i64 i]=some [.int .i64 l[i].2.op,.str l[i].2.name,.sl (F.encs l[i].2.args)]:=by simp[PO.eval,ez,h,vq]
theorem atb{l:List CF}{i:Nat}(h:i<l.length):PO.eval .chk [ez l,.int .i64 i]=some []:=qet (by omega) (by simp;omega)
theorem a0h{l:List CF}{i:Nat}(h:i<l.length):PO.eval (.set 0 6) [ez l,.int .i64 i,.int .i64 l[i].1.op,.str l[i].1.name,.sl (F.encs l[i].1.args),.int .i64 l[i].2.op,.str l[i].2.name,.sl (F.encs l[i].2.args)]=some [ez l]:=by
 simp[PO.eval,ez,h,vq]
 show (l.map vq).set i (vq l[i])=_
 rw[← List.map_set,List.set_getElem_self]
theorem a0l{n:Nat}(hn:n≤3)(hn1:1≤n){o:List Int}(hO:Ord (aq n) (2^n) o)(v0 v1 v2 v4 v5 v9 v10 v11 v12 v13 v14 v15 v16 v17 v19:D)(J0:PF) :
 eo (run tb1) ir0p5 [v0,v1,v2,.int .i64 (n:Int),v4,v5,af (aq n),af (aq n),ab o,v9,v10,v11,v12,v13,v14,v15,v16,v17,.sl (F.encs (stS (aq n) o)),v19,.int .i64 (di o).toNat] [J0]
  [.int .i64 0,ez (cdS (aq n) o (di o).toNat)]=some [.bool true]:=by
 have n8:n≤6:=by omega
 have hv:=qnd n8;have ry:(aq n).length<1000000000:=by rw[qv];omega
 have vr:=lq n8;have o5:o.length=2^n:=hO.rk.1;have hmx:=qfa n8 hO;have ue:=qkf o
 have hfs:∀ f∈stS (aq n) o,f.size<1000000000:=fun f hf=>by
  unfold stS nu at hf;rw[List.mem_reverse,List.mem_map] at hf;obtain ⟨j,_,rfl⟩:=hf;exact (qxn n8 _).1
 have b2:=up (a3j (aq n) ry (stS (aq n) o) hfs (by unfold stS;rw[List.length_reverse,qeh];omega))
 rw[qvx (by omega) hO] at b2
 have kr:∀ c∈cdS (aq n) o (di o).toNat,c.1.size<1000000000∧c.2.size<1000000000:=fun c hc=>by
  unfold cdS at hc;obtain ⟨k,_,rfl⟩:=List.mem_map.1 hc;exact ⟨(qxn n8 _).1,(qxn n8 _).1⟩
 have b4:=up (aui (aq n) ry (cdS (aq n) o (di o).toNat) kr (by rw[qvj];omega))
 rw[a0x (by omega) hO] at b4
 have hsm:=up (qes (aq n) (aq n) o o ry (by omega))
 rw[decide_eq_true rfl,decide_eq_true rfl] at hsm;have su:=qvj (aq n) o (di o).toNat;have hcg:∀ i (h:i<(cdS (aq n) o (di o).toNat).length),(cdS (aq n) o (di o).toNat)[i]=cdF (aq n) o i:=fun i h=>by simp[cdS]
 have a3o:=fun v11 v12 v13 v14 v15 v16 v17 v18 v19 v20 v21 v22 v23 v24 v25 v26 v27 v28 v29 J1=>a6a hn hn1 hO v0 v1 v2 v4 v5 v9 v10 v11 v12 v13 v14 v15 v16 v17 v18 v19 v20 v21 v22 v23 v24 v25 v26 v27 v28 v29 J0 J1
 have hMb:(di o).toNat<64:=by omega
 generalize (di o).toNat=M at *;generalize cdS (aq n) o M=cs at *;generalize stS (aq n) o=fs at *;refine qu (σ:=Unit) M (fun _ _=>True) (fun i _=>[.int .i64 i,ez cs]) (fun _ _=>[.bool true]) ?_ ?_ 0 () (Nat.zero_le _) trivial
 · rintro i _ L hi _ hL;have ah:=hL () trivial;have bn:(i:Int)<(M:Int):=by omega
   have hc:=atb (l:=cs) (i:=i) (by omega)
   have g0:=a59 (l:=cs) (i:=i) (by omega)
   have g3:=a30 (l:=cs) (i:=i) (by omega)
   have hs:=a0h (l:=cs) (i:=i) (by omega)
   have hg:=hcg i (by omega)
   rw[hg] at g0 g3 hs;obtain ⟨f1,p1⟩:=qwn hn (io o (i:Int));obtain ⟨f2,p2⟩:=qwn hn (d8 o i o.length);have f1:=up f1;have p1:=up p1;have f2:=up f2;have p2:=up p2;unfold cdF at g0 g3 hs;simp only[aj,List.cons_append,List.nil_append] at f1 f2 p1 p2 g0 g3 hs;generalize thy (aq n) (io o (i:Int))=a at *;generalize thy (aq n) (d8 o i o.length)=b at *;simp (disch:=omega) only[ir0p5,ir0p1,qe,qf,eq_self,ac,reduceIte,bn,hc,g0,g3,f1,f2,p1,p2,bw,hs,wr,bz,ah]
 · rintro _ L _;simp (disch:=omega) only[ir0p5,qe,qf,eq_self,ac,reduceIte,Int.lt_irrefl,b2,b4,bw,hsm,a3o]
theorem qel(l0:List Int):run tb1 0 [ab l0]=some [.bool true]:=by
 obtain ⟨l,hl,hn⟩:=a3p l0;obtain ⟨r,p,r1,r2,hp,hr⟩:=qsu 1 3 l 0 hl (by omega) (by omega) (by omega) (by omega)
 obtain ⟨n,rfl⟩:=Int.eq_ofNat_of_zero_le (show 0≤r by omega)
 have hr:run tb1 2 [.int .i64 1,.int .i64 3,ab l,.int .i64 0]=some [.int .i64 n,ab l,.int .i64 p]:=up hr;have hn:=up hn;have hn3:n≤3:=by omega
 have hn1:1≤n:=by omega
 have n8:n≤6:=by omega
 have oy:=up (qax n (by omega))
 obtain ⟨rs,q,zl,h2,h3⟩:=a2r n n8 l p hl hp;have h3:=up h3;have vr:=lq n8;have hO:Ord (aq n) (2^n) (bg rs):=⟨a6j n8 zl,by have:=as7 rs;rw[zl] at this;exact this⟩
 generalize bg rs=o at *;have ry:(aq n).length<1000000000:=by rw[qv];omega
 have o5:o.length=2^n:=hO.rk.1;have b1:=up (qow (aq n) o ry (by omega))
 unfold stR at b1;rw[if_pos hO.ok] at b1;have b3:run tb1 6 [af (aq n),ab o]=some (cdR (aq n) o):=qif (E:=rp) rfl (atz hO.ok);unfold cdR at b3;rw[if_pos hO.ok] at b3;have hmx:=qfa n8 hO;have ue:=qkf o;have rh:(stS (aq n) o).length=(di o).toNat:=by unfold stS;rw[List.length_reverse,qeh]
 have hfg:∀ i (h:i<(stS (aq n) o).length),∃ X,(stS (aq n) o)[i]=thy (aq n) X:=fun i h=>by
  have hm:=List.getElem_mem h;generalize (stS (aq n) o)[i]=f at hm;unfold stS nu at hm;rw[List.mem_reverse,List.mem_map] at hm;obtain ⟨j,_,rfl⟩:=hm;exact ⟨_,rfl⟩
 have su:=ae3 (cdS (aq n) o (di o).toNat);rw[qvj] at su;have hMb:(di o).toNat<64:=by omega
 have key:=fun v0 v1 v2 v4 v5 v9 v10 v11 v12 v13 v14 v15 v16 v17 v19 J0=>a0l hn3 hn1 hO v0 v1 v2 v4 v5 v9 v10 v11 v12 v13 v14 v15 v16 v17 v19 J0
 refine qh (x:=ir0) rfl ?_;generalize (di o).toNat=M at *;generalize cdS (aq n) o M=cs at *;generalize stS (aq n) o=fs at *;subst rh;simp (disch:=omega) only[ir0,ir0p7,qe,qf,hn,hr,oy,h3,b1,b3];refine qu (σ:=Unit) fs.length (fun _ _=>True) (fun i _=>[.int .i64 i,.sl (F.encs (fs.take i))]) (fun _ _=>[.bool true]) ?_ ?_ 0 () (Nat.zero_le _) trivial
 · rintro i _ L hi _ hL;have ah:=hL () trivial;have v6:i<fs.length:=hi;have ak:=qfl v6;obtain ⟨X,hX⟩:=hfg i v6;obtain ⟨f1,p1⟩:=qwn hn3 X;have f1:=up f1;have p1:=up p1;have htk:fs.take (i+1)=fs.take i++[fs[i]]:=by rw[List.take_add_one,List.getElem?_eq_getElem v6];rfl
   rw[htk] at ah;have wz:=amf (l:=fs.take i) (g:=fs[i]) (by rw[List.length_take];omega)
   rw[hX] at ak wz ah;simp only[aj,List.cons_append,List.nil_append] at f1 p1;generalize thy (aq n) X=a at *;simp (disch:=omega) only[ir0p6,ir0p0,qe,qf,eq_self,ac,reduceIte,v6,ak,f1,p1,bw,wz,wr,bz,ah]
 · rintro _ L _;have htk:fs.take fs.length=fs:=List.take_length;simp (disch:=omega) only[ir0p6,qe,qf,eq_self,ac,reduceIte,Nat.lt_irrefl,bne_self_eq_false,su,htk,key]
theorem qfj(I:List (List D))(hI:Ins prog Tryz.f3.params.toList I):CC prog GW 3 [] (SV.instL I.flatten (lnL I.flatten []) sg0.args) [] (.d (.bool true)):=by
 rw[Tryz.params3] at hI;obtain _|⟨m1,h1,_,hI⟩:=hI;cases hI;obtain ⟨x1,rfl,_⟩:=axx h1;exact qtm (G:=GW) tok gok (by kernel_rfl) (awe ap1) (i:=0) rfl (qfo (qnw x1) abr) rfl (fun k hk=>by cases hk) (qel x1) rfl
theorem a6p{f:Nat}{W:World}{fk:List AV}{vs:List Value}(ly:CC prog GW f [] fk [] (.d (.bool true)))
 (hL:laidMetH prog [("deliberation/formula.words",Rows.laid_deliberation_formula_words)] W) (ck:dy W (rz W) (fun _=>none) (hOf []) fk vs) :
 Calls prog f ⟨vs⟩ W fun e W'=>e = .returned (.bool true)∧∃ C' ρ',Ext W (rz W) (fun _=>none) (hOf []) W' C' ρ' (hOf []):=by
 refine (ly.2 W (rz W) (fun _=>none) vs (a0n W _) (aqp hL) ck).mono fun e W' h=>?_
 obtain ⟨v,C',ρ',rfl,_,hE,hv⟩:=h
 have:v = .bool true:=by
  cases hv with
  | d _ _ h=>cases h;rfl
 subst this;exact ⟨rfl,C',ρ',hE⟩
end Go.Proofs.YtefjlhhicgepfaaGreatDoor

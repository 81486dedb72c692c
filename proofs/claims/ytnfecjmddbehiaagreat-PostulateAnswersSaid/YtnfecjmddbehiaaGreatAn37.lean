/- What functions of the program compute: lemmas. -/
import Derived.Test.YtnfecjmddbehiaaGreatRf
set_option linter.unusedSimpArgs false
set_option linter.unusedVariables false
set_option linter.unusedSectionVars false
namespace Go.Proofs.YtnfecjmddbehiaaGreat
open Go Am
set_option maxRecDepth 100000
theorem qst (a:Int) (rows:List (List Int)) (hl:rows.length<9223372036854775808):∃ b:Bool,run tb 1 [.int .i64 a,tabD rows]=some [.bool b]:=by
 have hlT:=qbe rows
 have key:=qxn (run:=run tb) (body:=ir1p0) (e:=[.int .i64 a,tabD rows,.int .i64 (rows.length:Int)]) (J:=[]) (σ:=Int) rows.length (fun _ _=>True) (fun i s=>[.int .i64 s,.int .i64 i]) (fun r=>∃ b:Bool,r=[.bool b])
  (by
   rintro i s L hi _ hL;have hi':(i:Int)<(rows.length:Int):=by omega
   have hrow:=qgl hi;have hlr:=qu rows[i];obtain ⟨r,hr,hp⟩:=hL (IntKind.i64.wrap (s+(rows[i].length:Int))) trivial;refine ⟨r,?_,hp⟩;have hw:IntKind.i64.wrap ((i:Int)+1)=((i+1:Nat):Int):=by rw[wr (by omega) (by omega)];omega
   simp only[ir1p0,qa,qb,eq_self,aBin,reduceIte,hlT,hi',hrow,hlr,hw,hr])
  (by
   rintro s L _;refine ⟨_,?_,decide (s≤400),rfl⟩;simp only[ir1p0,qa,qb,eq_self,aBin,reduceIte,hlT,Int.lt_irrefl])
 obtain ⟨r,hr,b,rfl⟩:=key 0 (rows.length:Int) (Nat.zero_le _) trivial;refine ⟨b,qc (x:=ir1) rfl ?_⟩;simp only[nat0] at hr;simp only[ir1,qa,qb,hlT]
 simpa only[List.cons_append,List.nil_append] using hr
theorem qvib (kind a:Int) (rows:List (List Int)):∃ (x1 x2 x3 x4:Int) (y:Bool) (e:Int),chkV kind a rows=[.int .i64 x1,.int .i64 x2,.int .i64 x3,.int .i64 x4,.bool y,.int .i64 e]:=by
 unfold chkV
 split
 · split
   · exact ⟨_,_,_,_,_,_,rfl⟩
   · exact ⟨_,_,_,_,_,_,rfl⟩
 · exact ⟨_,_,_,_,_,_,rfl⟩
theorem qhkb (x1 x2 x3 x4:Int):PO.eval (.eqs true 4) [.int .i64 x1,.int .i64 x2,.int .i64 x3,.int .i64 x4,.int .i64 x1,.int .i64 x2,.int .i64 x3,.int .i64 x4]=some [.bool false]:=by
 simp[PO.eval,eqD]
theorem qcdb (kind a:Int) (rows:List (List Int)) (names:List (List UInt8)) (hnl:names.length<1000000000) (hst:∀ s∈names,s.length<9223372036854775808):∃ (os:List OO) (e:Int),ordW kind a rows names=[osD os,.int .i64 e]∧Sane os:=by
 unfold ordW
 split
 · exact ⟨[],1,rfl,⟨by decide,fun x hx=>by simp at hx,fun x hx=>by simp at hx,fun x hx=>by simp at hx⟩⟩
 · rename_i hv
   split
   · exact ⟨[],4,rfl,⟨by decide,fun x hx=>by simp at hx,fun x hx=>by simp at hx,fun x hx=>by simp at hx⟩⟩
   · split
     · exact ⟨[],1,rfl,⟨by decide,fun x hx=>by simp at hx,fun x hx=>by simp at hx,fun x hx=>by simp at hx⟩⟩
     · unfold ordV
       split
       · refine ⟨_,0,rfl,?_⟩;have hV:Vld a rows:=qid.1 (by cases h:vldB a rows with|true=>rfl|false=>exact absurd h hv)
         have h16:=qg a;have hN4:2^a.toNat≤4:=by rcases hV.at_ with rfl|rfl<;>decide
         have key:∀ o∈ordO kind a rows names,o.1=names∧o.2.length<1000000000:=fun o ho=>by
          obtain ⟨j,_,rfl⟩:=List.mem_map.1 ho;refine ⟨rfl,?_⟩;simp only[normS,List.length_map];cases hq:ordR kind a rows j with
          | none=>simp
          | some q=>
           unfold ordR at hq;have:q.length=2^a.toNat:=qku _ _ _ (by simp) hq
           simp only[Option.getD_some];omega
         exact ⟨by simp only[ordO,List.length_map,List.length_range];omega,fun o ho=>by rw[(key o ho).1];exact hnl,fun o ho s hs=>hst s (by rw[← (key o ho).1];exact hs),fun o ho=>(key o ho).2⟩
       · exact ⟨[],9,rfl,⟨by decide,fun x hx=>by simp at hx,fun x hx=>by simp at hx,fun x hx=>by simp at hx⟩⟩
def tsD (ts:List (Int × List (List Int))):D:=.sl (ts.map fun t=>[.int .i64 t.1,tabD t.2])
theorem qyxb {l:List (Int × List (List Int))} {i:Nat} (h:i<l.length):PO.eval .chk [tsD l,.int .i64 i]=some []:=qqo (by omega) (by simp;omega)
theorem quvb {l:List (Int × List (List Int))} {i:Nat} (h:i<l.length):PO.eval (.get 0 2) [tsD l,.int .i64 i]=some [.int .i64 l[i].1,tabD l[i].2]:=by
 simp[PO.eval,tsD,h]
def zsD (l:List (List (List UInt8))):D:=.sl (l.map fun z=>[strsD z])
theorem qfxb {l:List (List (List UInt8))} {i:Nat} (h:i<l.length):PO.eval .chk [zsD l,.int .i64 i]=some []:=qqo (by omega) (by simp;omega)
theorem qrxb {l:List (List (List UInt8))} {i:Nat} (h:i<l.length):PO.eval (.get 0 1) [zsD l,.int .i64 i]=some [strsD l[i]]:=by
 simp[PO.eval,zsD,h]
theorem quyb (a b:List (List UInt8)):PO.eval (.mk 1 2) [strsD a,strsD b]=some [zsD [a,b]]:=rfl
theorem qnwb (l:List (List (List UInt8))):PO.eval .lenL [zsD l]=some [.int .i64 l.length]:=by simp[zsD,qbd]
theorem qvvb (l:List (Int × List (List Int))):PO.eval .lenL [tsD l]=some [.int .i64 l.length]:=by simp[tsD,qbd]
theorem qhub (a b:Int):PO.eval (.mk 1 2) [.int .i64 a,.int .i64 b]=some [numsD [a,b]]:=rfl
theorem qmt (a0:Int) (rows0:List (List Int)) (names:List (List UInt8)) (l0:List Int) (kind:Int) (hl0:rows0.length<9223372036854775808) (hr0:∀ r∈rows0,r.length<9223372036854775808) (hst:∀ s∈names,s.length<9223372036854775808) :
 run tb 0 [.int .i64 a0,tabD rows0,strsD names,numsD l0,.int .i64 kind]=some [.bool true]:=by
 have aw:=qwz;obtain ⟨sb,hsb⟩:=qst a0 rows0 hl0;refine qc (x:=ir0) rfl ?_;cases sb with
 | false=>simp (disch:=omega) only[ir0,ir0p5,qa,qb,eq_self,hsb,aw]
 | true=>
 by_cases b1:(names.length:Int)>10
 · simp (disch:=omega) only[ir0,ir0p5,qa,qb,eq_self,aBin,reduceIte,hsb,qpb,b1,aw]
 obtain ⟨l,hl,hn⟩:=qzqb l0;obtain ⟨n,p,n1,n2,hp,hnr⟩:=qgp 1 2 l 0 hl (by omega) (by omega) (by omega) (by omega)
 obtain ⟨n,rfl⟩:=Int.eq_ofNat_of_zero_le (show 0≤n by omega)
 have hnr:run tb 4 [.int .i64 1,.int .i64 2,numsD l,.int .i64 0]=some [.int .i64 (n:Int),numsD l,.int .i64 p]:=hnr;have hn12:n=1∨n=2:=by have h1:(1:Int)≤n:=n1;have h2:(n:Int)≤2:=n2;omega
 obtain ⟨k,p1,k1,k2,hp1,hkr⟩:=qgp 1 3 l p hl hp (by omega) (by omega) (by omega)
 have hk3:k=1∨k=2∨k=3:=by omega
 obtain ⟨os,p2,hp2,hF,hor⟩:=qea n hn12 k l p1 hl hp1;have hS:=qegb hn12 hF;obtain ⟨hE,hnam,_⟩:=qzs hn12 hk3 hF;obtain ⟨hv1,_⟩:=qtqb hn12 hk3 hF;have hmk:=qcr os k hS;unfold mkV at hmk;rw[if_pos hE,hnam,qlb] at hmk;have hvoc:=qtfb n (by omega)
 have hvnl:(vocN n).length<1000000000:=by rw[qlb];omega
 have hvst:∀ s∈vocN n,s.length<9223372036854775808:=fun s hs=>by rw[qph s hs];omega
 clear hE hF hnam hS;generalize mkT k os (2^2^n)=T1 at *;obtain ⟨U1,q1,hq1,hU1,hb1⟩:=qzxb n hv1 1 (by omega) l hl p2 hp2
 have hb1:run tb 7 [.int .i64 (n:Int),tabD T1,.int .i64 1,numsD l,.int .i64 (p2:Int)]=some [.int .i64 (n:Int),tabD U1,numsD l,.int .i64 (q1:Int)]:=hb1;obtain ⟨U3,q3,hq3,hU3,hb3⟩:=qzxb n hv1 3 (by omega) l hl q1 hq1
 have hb3:run tb 7 [.int .i64 (n:Int),tabD T1,.int .i64 3,numsD l,.int .i64 (q1:Int)]=some [.int .i64 (n:Int),tabD U3,numsD l,.int .i64 (q3:Int)]:=hb3;obtain ⟨ts,hts⟩:∃ ts:List (Int × List (List Int)),ts=[(a0,rows0),((n:Int),T1),((n:Int),U1),((n:Int),U3)]:=⟨_,rfl⟩;have hmt:PO.eval (.mk 2 4) [.int .i64 a0,tabD rows0,.int .i64 (n:Int),tabD T1,.int .i64 (n:Int),tabD U1,.int .i64 (n:Int),tabD U3]=some [tsD ts]:=by rw[hts];rfl
 have hl4:ts.length=4:=by rw[hts];rfl
 have hall:∀ t∈ts,t.2.length<9223372036854775808∧∀ r∈t.2,r.length<9223372036854775808:=by
  rw[hts];intro t ht;simp only[List.mem_cons,List.not_mem_nil,or_false] at ht;rcases ht with rfl|rfl|rfl|rfl
  · exact ⟨hl0,hr0⟩
  · exact qmk hv1
  · exact qmk hU1
  · exact qmk hU3
 have hzs:∀ z∈[names,vocN n],z.length<1000000000∧∀ s∈z,s.length<9223372036854775808:=by
  intro z hz;simp only[List.mem_cons,List.not_mem_nil,or_false] at hz;rcases hz with rfl|rfl
  · exact ⟨by omega,hst⟩
  · exact ⟨hvnl,hvst⟩
 have nbb:∀ b:Bool,PO.eval (.bin .neq true) [.bool b,.bool b]=some [.bool false]:=fun b=>by cases b<;>rfl
 have hlt:=qvvb ts;rw[hl4] at hlt;have hlt:PO.eval .lenL [tsD ts]=some [.int .i64 4]:=hlt;clear hts hv1 hU1 hU3;simp (disch:=omega) only[ir0,ir0p5,qa,qb,eq_self,aBin,reduceIte,hsb,qpb,b1,hn,hnr,hkr,hor,hmk,hb1,hb3,hmt,hlt];refine qk (σ:=Unit) 4 (fun _ _=>True) (fun i _=>[.int .i64 i]) (fun _ _=>[.bool true]) ?_ ?_ 0 () (Nat.zero_le _) trivial
 · rintro i _ L hi _ hL;have hnext:=hL () trivial;have hi':(i:Int)<4:=by omega
   have hc:=qyxb (l:=ts) (i:=i) (by omega)
   have hg:=quvb (l:=ts) (i:=i) (by omega)
   obtain ⟨hxl,hxr⟩:=hall (ts[i]'(by omega)) (List.getElem_mem _)
   generalize ts[i]'(by omega)=x at *
   obtain ⟨xa,xr⟩:=x;simp only at hg hxl hxr;have hvp:=qgh xa xr hxl hxr;have hvr:=qef xa xr hxl hxr;simp (disch:=omega) only[ir0p4,qa,qb,eq_self,aBin,reduceIte,hi',hc,hg,qhub,qu];refine qk (σ:=Unit) 2 (fun _ _=>True) (fun i _=>[.int .i64 i]) (fun _ _=>[.bool true]) ?_ ?_ 0 () (Nat.zero_le _) trivial
   · rintro j _ M hj _ hM;have hnext2:=hM () trivial;have hc3:=qbk (l:=[kind,k]) (i:=j) hj;have hg3:=qymb (l:=[kind,k]) (i:=j) hj;have hj':(j:Int)<([kind,k].length:Int):=by simp;omega
     generalize [kind,k][j]=y at *;have e1:=qrwb xa xr y hxl hxr;have e2:=qgy xa xr y hxl hxr;have e3:=qqwb xa xr y hxl hxr;have e4:=qnz xa xr y hxl hxr;obtain ⟨x1,x2,x3,x4,yy,er,hcf⟩:=qvib y xa xr;rw[hcf] at e1 e2
     have hcl:(cntR y xa xr).length<1000000000:=by
      unfold cntR
      split
      · rw[qwi];unfold postN;split
        · decide
        · split
          · decide
          · split<;>decide
      · decide
     have hin:=qmx (cntR y xa xr) (cntR y xa xr) hcl;rw[decide_eq_true rfl] at hin;have hes:=qhkb x1 x2 x3 x4;have hby:=nbb yy;simp (disch:=omega) only[ir0p3,ir0p2,qa,qb,eq_self,aBin,reduceIte,hj',hc3,hg3,e1,e2,e3,e4,ibne,hes,hby,hin,hvoc,quyb,qnwb];refine qk (σ:=Unit) 2 (fun _ _=>True) (fun i _=>[.int .i64 i]) (fun _ _=>[.bool true]) ?_ ?_ 0 () (Nat.zero_le _) trivial
     · rintro z _ K hz _ hK;have hnext3:=hK () trivial;have hz1:=qfxb (l:=[names,vocN n]) (i:=z) hz;have hz2:=qrxb (l:=[names,vocN n]) (i:=z) hz;have hz':(z:Int)<([names,vocN n].length:Int):=by simp;omega
       obtain ⟨zl,zs⟩:=hzs ([names,vocN n][z]'hz) (List.getElem_mem _);generalize [names,vocN n][z]=nm at *;have o1:=qgeb y xa xr nm hxl hxr zl zs;have o2:=qdgb y xa xr nm hxl hxr zl zs;obtain ⟨os2,ee,hof,hSn⟩:=qcdb y xa xr nm zl zs;rw[hof] at o1 o2;have hso:=qpa os2 hSn;simp (disch:=omega) only[ir0p1,ir0p0,qa,qb,eq_self,aBin,reduceIte,hz',hz1,hz2,o1,o2,ibne,hso,wr,natS,hnext3]
     · rintro _ K _;have hz':¬ (2:Int)<([names,vocN n].length:Int):=by simp
       simp (disch:=omega) only[ir0p1,qa,qb,eq_self,aBin,reduceIte,hz',wr,natS,hnext2]
   · rintro _ M _;have hj':¬ (2:Int)<([kind,k].length:Int):=by simp
     simp (disch:=omega) only[ir0p3,qa,qb,eq_self,aBin,reduceIte,hj',hvp,hvr,ibne,wr,natS,hnext]
 · rintro _ L _;have hi':¬ ((4:Nat):Int)<4:=by omega
   simp (disch:=omega) only[ir0p4,qa,qb,eq_self,aBin,reduceIte,Int.reduceLT,aw]
end Go.Proofs.YtnfecjmddbehiaaGreat

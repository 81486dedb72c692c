/- What functions of the program compute: lemmas. -/
import Derived.Test.YtnfecjmddbehiaaGreatSb3
import Derived.Test.YtnfecjmddbehiaaGreatAm4
set_option linter.unusedSimpArgs false
set_option linter.unusedVariables false
set_option linter.unusedSectionVars false
namespace Go.Proofs.YtnfecjmddbehiaaGreat
open Go Am
set_option maxRecDepth 100000
theorem qlsb (l:List Int) (at_:Nat) (hl:l.length≤2000) (ha:at_≤l.length):∃ (x:Int) (b:Nat),b≤l.length∧run tb 39 [numsD l,.int .i64 at_]=some [.int .i64 x,numsD l,.int .i64 b]:=by
 have e3:IntKind.i64.wrap (at_:Int)=(at_:Int):=wr (by omega) (by omega)
 by_cases h:at_<l.length
 · refine ⟨l[at_],at_+1,by omega,qc (x:=ir39) rfl ?_⟩
   have e1:IntKind.i64.wrap ((at_:Int)+1)=(at_:Int)+1:=wr (by omega) (by omega)
   have hd:decide (l.length≤at_)=false:=by simp;omega
   simp[ir39,den,PO.eval,SA.val,one1,aBin,numsD,numR,go_sem,e1,e3,hd,h]
 · refine ⟨0,at_,ha,qc (x:=ir39) rfl ?_⟩;have hd:decide (l.length≤at_)=true:=by simp;omega
   simp[ir39,den,PO.eval,SA.val,one1,aBin,numsD,go_sem,hd]
theorem qrub (x n:Int) (h0:1≤n) (h1:n<4611686018427387904):∃ r:Int,0≤r∧r<n∧run tb 40 [.int .i64 x,.int .i64 n]=some [.int .i64 r]:=by
 have a1:-n<Int.tmod x n:=Int.lt_tmod_of_pos x (by omega)
 have a2:Int.tmod x n<n:=Int.tmod_lt_of_pos x (by omega)
 have hn:n≠0:=by omega
 have hn1:¬ n<1:=by omega
 have hw:IntKind.i64.wrap (Int.tmod x n)=Int.tmod x n:=wr (by omega) (by omega)
 by_cases h:Int.tmod x n<0
 · refine ⟨Int.tmod x n+n,by omega,by omega,qc (x:=ir40) rfl ?_⟩
   have hw2:IntKind.i64.wrap (Int.tmod x n+n)=Int.tmod x n+n:=wr (by omega) (by omega)
   simp[ir40,ir40p0,den,PO.eval,SA.val,one1,aBin,hn,hn1,h,hw2,go_sem]
 · refine ⟨Int.tmod x n,by omega,by omega,qc (x:=ir40) rfl ?_⟩
   simp[ir40,ir40p0,den,PO.eval,SA.val,one1,aBin,hn,hn1,h,go_sem]
theorem qpwb (n:Int) (l:List Int) (at_:Nat) (hl:l.length≤2000) (ha:at_≤l.length) (h0:1≤n) (h1:n<4611686018427387904) :
 ∃ (r:Int) (b:Nat),0≤r∧r<n∧b≤l.length∧run tb 19 [.int .i64 n,numsD l,.int .i64 at_]=some [.int .i64 r,numsD l,.int .i64 b]:=by
 obtain ⟨x,b,hb,hr⟩:=qlsb l at_ hl ha;obtain ⟨r,r0,r1,hm⟩:=qrub x n h0 h1;refine ⟨r,b,r0,r1,hb,qc (x:=ir19) rfl ?_⟩;simp[ir19,den,SA.val,hr,hm]
theorem qzqb (l:List Int):∃ l':List Int,l'.length≤2000∧run tb 3 [numsD l]=some [numsD l',.int .i64 0]:=by
 refine ⟨l.take (min l.length 2000),by simp;omega,qc (x:=ir3) rfl ?_⟩
 by_cases h:(2000:Int)<l.length
 · have h2:(2000:Int)≤l.length:=by omega
   have h3:min l.length 2000=2000:=by omega
   simp[ir3,den,PO.eval,SA.val,numsD,numR,h,h3,h2]
 · have h3:min l.length 2000=l.length:=by omega
   have h4:List.take l.length (List.map numR l)=List.map numR l:=List.take_of_length_le (by simp)
   have h5:∀ x,x∈l→(numR x).length=1:=fun x _=>rfl
   simp only[ir3,den,PO.eval,SA.val,numsD];simp[h,h3,h4];rw[if_pos h5];rfl
theorem qsn (s:List UInt8):run tb 47 [.str s]=some [.bool (validName s)]:=by
 refine qc (x:=ir47) rfl ?_
 by_cases h0:s.length=0
 · have:s=[]:=List.length_eq_zero_iff.1 h0;subst this;simp[ir47,ir47p4,qhp,qsj,qbh,qjg,qel,qch,qrp,qjf,qij,qyf,qru,qht,aBin,qzk,validName]
 by_cases h1:(s.length:Int)>12
 · have h0':¬ (s.length:Int)=0:=by omega
   simp[ir47,ir47p4,qhp,qsj,qbh,qjg,qel,qch,qrp,qjf,qij,qyf,qru,qht,aBin,qzk,validName,h1]
 have h0':¬ (s.length:Int)=0:=by omega
 have h1':decide ((s.length:Int)>12)=false:=by simpa using h1
 have h0b:((s.length:Int) == 0)=false:=by simpa using h0'
 have key:=qgo (run:=run tb) (body:=ir47p3) (e:=[.str s,.bool false,.int .i64 s.length]) (J:=[])
  (fun i:Nat=>s.length-i) (fun i=>i≤s.length) (fun i=>[.int .i64 i]) (fun i=>[.bool (nameFrom i (s.drop i))]) (by
  intro i L hp hL
  by_cases hi:i<s.length
  · have hlt:(i:Int)<s.length:=by omega
    have hidx:PO.eval .idxS [.str s,.int .i64 i]=some [.int .u8 s[i].toNat]:=qfbb (by omega) (by simp[hi])
    have hw:IntKind.i64.wrap ((i:Int)+1)=((i+1:Nat):Int):=by rw[wr (by omega) (by omega)];omega
    have hnext:=hL (i+1) (by omega) (by omega)
    rw[qnn s i hi];simp only[ir47p3,ir47p2,ir47p1,ir47p0,qhp,qsj,qbh,qjg,qel,qch,qrp,qjf,qru,qht,List.map_cons,List.map_nil,qtv,qdv,List.cons_append,List.nil_append,List.append_assoc,qyf,aBin,qzk,hlt,decide_true,if_true,hidx,List.getElem?_cons_zero,List.getElem?_cons_succ,hw,nameOk,hnext]
    by_cases c1:(s[i].toNat:Int)≥97<;>by_cases c2:(s[i].toNat:Int)≤122<;>by_cases c3:0<i<;>by_cases c4:(s[i].toNat:Int)≥48<;>by_cases c5:(s[i].toNat:Int)≤57<;>by_cases c6:(s[i].toNat:Int)=95<;>simp[c1,c2,c3,c4,c5,c6]
  · have hd:s.drop i=[]:=List.drop_eq_nil_of_le (by omega)
    have hlt:¬ (i:Int)<s.length:=by omega
    simp[ir47p3,qhp,qsj,qbh,qjg,qel,qch,qrp,qru,qht,qyf,aBin,qzk,hlt,hd,nameFrom])
 have hk:=key 0 (by omega)
 simp only[ir47,ir47p4,qhp,qsj,qbh,qjg,qel,qyjb,qch,qrp,qjf,qij,qyf,qru,qht,aBin,qzk,validName,List.map_cons,List.map_nil,qtv,qdv,List.cons_append,List.nil_append,List.getElem?_cons_zero,h0b,h1',if_true,Bool.false_eq_true,if_false,Bool.or_self,Bool.not_false,Bool.true_and];exact hk
abbrev opsD:D:=.sl [[.int .i64 4],[.int .i64 4],[.int .i64 5],[.int .i64 5],[.int .i64 6],[.int .i64 6],[.int .i64 7],[.int .i64 8]]
variable {R:Nat→PF} {e:Env} {J:List PF}
theorem qwj (s:List UInt8) (hs:s.length<9223372036854775808):run tb 56 [.str s]=some [.bool (validName s)]:=by
 refine qc (x:=ir56) rfl ?_;cases s with
 | nil=>
  simp only[ir56,ir56p2,qa,qb,eq_self,aBin,reduceIte,Int.reduceLT,List.length_nil,show validName []=false from rfl]
 | cons c l=>
  rw[qjl];have h1:¬ (((c::l).length:Nat):Int)<1:=by simp;omega
  have hpos:0<(c::l).length:=by simp
  by_cases hl:(c::l).length≤12
  · have h2:¬ (((c::l).length:Nat):Int)>12:=by omega
    have key:=qk (run:=run tb) (body:=ir56p1) (e:=[.str (c::l),.bool false]) (J:=[]) (σ:=Unit) (c::l).length
     (fun _ _=>True) (fun i _=>[.int .i64 i]) (fun i _=>[.bool (((c::l).drop i).all okc)])
     (by
      rintro i _ L hi _ hL;have hnext:=hL () trivial;rw[qem hi,List.all_cons];generalize hd:((c::l).drop (i+1)).all okc=b at hnext;generalize (c::l)=s at *;unfold okc;generalize hx:(s[i].toNat:Int)=x
      by_cases a1:x<97<;>by_cases a2:x>122<;>by_cases a3:x<48<;>by_cases a4:x>57<;>by_cases a5:x=95<;>first|omega|skip
      all_goals
       simp (disch:=omega) only[ir56p1,ir56p0,qa,qb,eq_self,aBin,reduceIte,Int.reduceLT,Int.reduceLE,Int.reduceGT,hi,qmvb,hx,ibne,a1,a2,a3,a4,a5,wr,natS,hnext,show (97≤x) = ¬ (x<97) by simp,show (x≤122) = ¬ (x>122) by simp,show (48≤x) = ¬ (x<48) by simp,show (x≤57) = ¬ (x>57) by simp,not_true_eq_false,not_false_eq_true,Bool.or_self])
     (by
      rintro _ L _;rw[List.drop_length];simp (disch:=omega) only[ir56p1,qa,qb,eq_self,aBin,reduceIte,Nat.lt_irrefl,List.all_nil])
    have hk:=key 0 () (by omega) trivial
    simp only[nat0,List.drop_zero] at hk;have hc:(c::l)[0]=c:=rfl
    by_cases a1:(c.toNat:Int)<97
    · simp (disch:=omega) only[ir56,ir56p2,qa,qb,eq_self,aBin,reduceIte,h1,h2,qeeb,hc,a1,hl,show (97≤(c.toNat:Int))=False by simp;omega]
    · by_cases a2:(c.toNat:Int)>122
      · simp (disch:=omega) only[ir56,ir56p2,qa,qb,eq_self,aBin,reduceIte,h1,h2,qeeb,hc,a1,a2,hl,show ((c.toNat:Int)≤122)=False by simp;omega]
      · simp (disch:=omega) only[ir56,ir56p2,qa,qb,eq_self,aBin,reduceIte,h1,h2,qeeb,hc,a1,a2,hl,hk,show (97≤(c.toNat:Int))=True by simp;omega,show ((c.toNat:Int)≤122)=True by simp;omega]
  · have h2:(((c::l).length:Nat):Int)>12:=by omega
    simp only[ir56,ir56p2,qa,qb,eq_self,aBin,reduceIte,h1,h2,hl]
end Go.Proofs.YtnfecjmddbehiaaGreat

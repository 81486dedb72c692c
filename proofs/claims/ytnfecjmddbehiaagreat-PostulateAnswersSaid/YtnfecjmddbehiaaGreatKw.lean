/- What functions of the program compute: lemmas. -/
import Derived.Test.YtnfecjmddbehiaaGreatLb1
import Derived.Test.YtnfecjmddbehiaaGreatAm7
import Derived.Test.YtnfecjmddbehiaaGreatAm5
import Derived.Test.YtnfecjmddbehiaaGreatAm6
set_option linter.unusedSimpArgs false
set_option linter.unusedVariables false
set_option linter.unusedSectionVars false
namespace Go.Proofs.YtnfecjmddbehiaaGreat
open Go Am
set_option maxRecDepth 100000
theorem qutb (x S:Int):run tb 85 [.int .i64 x,.int .i64 S]=some [.bool (badS S x),.int .i64 S]:=by
 refine qc (x:=ir85) rfl ?_;unfold badS
 by_cases h:x<0
 · simp only[ir85,qa,qb,eq_self,aBin,reduceIte,h]
 · simp only[ir85,qa,qb,eq_self,aBin,reduceIte,h]
theorem qqkb (l:List Int) (S:Int) (hl:l.length<9223372036854775808):run tb 84 [numsD l,.int .i64 S]=some [.int .i64 (idxP (badS S) 0 l),.int .i64 S]:=by
 refine qc (x:=ir84) rfl ?_
 have key:=qk (run:=run tb) (body:=ir84p0) (e:=[numsD l,.int .i64 S,.int .i64 l.length]) (J:=[]) (σ:=Unit) l.length
  (fun _ _=>True) (fun i _=>[.int .i64 i,.int .i64 S]) (fun i _=>[.int .i64 (idxP (badS S) i (l.drop i)),.int .i64 S])
  (by
   rintro i _ L hi _ hL;have hnext:=hL () trivial;have hf:=qutb l[i] S;rw[qnh _ hi];cases hb:badS S l[i] with
   | true=>
    rw[hb] at hf;simp (disch:=omega) only[ir84p0,qa,qb,eq_self,aBin,hi,qtb,hf,if_true]
   | false=>
    rw[hb] at hf;simp only[Bool.false_eq_true,if_false];simp (disch:=omega) only[ir84p0,qa,qb,eq_self,aBin,reduceIte,hi,qtb,hf,wr,natS,hnext])
  (by
   rintro _ L _;have e:idxP (badS S) l.length (l.drop l.length) = -1:=by rw[List.drop_length];rfl
   simp (disch:=omega) only[ir84p0,qa,qb,eq_self,aBin,reduceIte,Nat.lt_irrefl,e])
 have hk:=key 0 () (by omega) trivial
 simp only[nat0,List.drop_zero] at hk;simp only[ir84,qa,qb,eq_self,qu,hk]
theorem qdjb (l:List Int) (S:Int) (hl:l.length<9223372036854775808):run tb 81 [numsD l,.int .i64 S]=some [.bool (l.any (badS S)),.int .i64 S]:=by
 refine qc (x:=ir81) rfl ?_;have h1:=qqkb l S hl;have h2:=qal (badS S) l 0;simp only[ir81,qa,qb,eq_self,aBin,reduceIte,h1];rw[← h2]
theorem qcrb (l:List Int) (S:Int) (hl:l.length<9223372036854775808):run tb 72 [numsD l,.int .i64 S]=some [.bool (badR S l),.int .i64 S]:=by
 refine qc (x:=ir72) rfl ?_;have h1:=qdjb l S hl;unfold badR
 by_cases h:(l.length:Int)=S
 · simp only[ir72,qa,qb,eq_self,aBin,reduceIte,qu,ibne,h,h1,ne_eq,not_true_eq_false]
 · simp only[ir72,qa,qb,eq_self,aBin,reduceIte,qu,ibne,h,ne_eq,not_false_eq_true]
theorem qamb (rows:List (List Int)) (S:Int) (hl:rows.length<9223372036854775808) (hr:∀ r∈rows,r.length<9223372036854775808):run tb 57 [tabD rows,.int .i64 S]=some [.int .i64 (idxP (badR S) 0 rows),.int .i64 S]:=by
 refine qc (x:=ir57) rfl ?_
 have key:=qk (run:=run tb) (body:=ir57p0) (e:=[tabD rows,.int .i64 S,.int .i64 rows.length]) (J:=[]) (σ:=Unit) rows.length
  (fun _ _=>True) (fun i _=>[.int .i64 i,.int .i64 S]) (fun i _=>[.int .i64 (idxP (badR S) i (rows.drop i)),.int .i64 S])
  (by
   rintro i _ L hi _ hL;have hnext:=hL () trivial;have hf:=qcrb rows[i] S (hr _ (List.getElem_mem hi));rw[qnh _ hi];cases hb:badR S rows[i] with
   | true=>
    rw[hb] at hf;simp (disch:=omega) only[ir57p0,qa,qb,eq_self,aBin,hi,qgl,hf,if_true]
   | false=>
    rw[hb] at hf;simp only[Bool.false_eq_true,if_false];simp (disch:=omega) only[ir57p0,qa,qb,eq_self,aBin,reduceIte,hi,qgl,hf,wr,natS,hnext])
  (by
   rintro _ L _;have e:idxP (badR S) rows.length (rows.drop rows.length) = -1:=by rw[List.drop_length];rfl
   simp (disch:=omega) only[ir57p0,qa,qb,eq_self,aBin,reduceIte,Nat.lt_irrefl,e])
 have hk:=key 0 () (by omega) trivial
 simp only[nat0,List.drop_zero] at hk;simp only[ir57,qa,qb,eq_self,qbe,hk]
theorem qjjb (rows:List (List Int)) (S:Int) (hl:rows.length<9223372036854775808) (hr:∀ r∈rows,r.length<9223372036854775808):run tb 38 [tabD rows,.int .i64 S]=some [.bool (rows.any (badR S)),.int .i64 S]:=by
 refine qc (x:=ir38) rfl ?_;have h1:=qamb rows S hl hr;have h2:=qal (badR S) rows 0;simp only[ir38,qa,qb,eq_self,aBin,reduceIte,h1];rw[← h2]
theorem qjs (a:Int) (t:D) (ha:a=1∨a=2):run tb 30 [.int .i64 a,t]=some [.int .i64 (if a=1 then 2 else 4)]:=by
 refine qc (x:=ir30) rfl ?_;rcases ha with rfl|rfl
 · rfl
 · rfl
theorem qgh (a:Int) (rows:List (List Int)) (hl:rows.length<9223372036854775808) (hr:∀ r∈rows,r.length<9223372036854775808):run tb 17 [.int .i64 a,tabD rows]=some [.int .i64 (if vldB a rows=true then 0 else 1)]:=by
 refine qc (x:=ir17) rfl ?_
 by_cases ha:a=1∨a=2
 · have h1:=qjs a (tabD rows) ha;have h2:=qjjb rows (szT a:Int) hl hr;rw[qtt ha];have h4:∀ b:Bool,(if (!b)=true then (0:Int) else 1)=if b=true then 1 else 0:=by decide
   rw[h4];have e1:IntKind.i64.wrap (1*2^min (Int.toNat 2) IntKind.i64.bits)=4:=by decide
   have e2:IntKind.i64.wrap (1*2^min (Int.toNat 4) IntKind.i64.bits)=16:=by decide
   have s1:(szT 1:Int)=4:=rfl;have s2:(szT 2:Int)=16:=rfl;have i1:(if (1:Int)=1 then (2:Int) else 4)=2:=rfl
   have i2:(if (2:Int)=1 then (2:Int) else 4)=4:=rfl
   have n1:¬ (2:Int)=1:=by decide
   have n2:¬ (1:Int)=2:=by decide
   rcases ha with rfl|rfl
   · rw[s1] at h2 ⊢;rw[i1] at h1
     by_cases hlen:(rows.length:Int)=4
     · cases hany : rows.any (badR 4) <;> rw [hany] at h2 <;>
        simp only[ir17,ir17p0,ir17p1,qa,qb,eq_self,aBin,Int.reduceLE,ibne,h1,h2,e1,qbe,hlen,ne_eq,not_true_eq_false,if_true,if_false]
     · simp only[ir17,ir17p0,ir17p1,qa,qb,eq_self,aBin,Int.reduceLE,ibne,h1,e1,qbe,hlen,ne_eq,not_false_eq_true,if_true]
   · rw[s2] at h2 ⊢;rw[i2] at h1
     by_cases hlen:(rows.length:Int)=16
     · cases hany : rows.any (badR 16) <;> rw [hany] at h2 <;>
        simp only[ir17,ir17p0,ir17p1,qa,qb,eq_self,aBin,Int.reduceLE,ibne,h1,h2,e2,n1,qbe,hlen,ne_eq,not_true_eq_false,if_true,if_false]
     · simp only[ir17,ir17p0,ir17p1,qa,qb,eq_self,aBin,Int.reduceLE,ibne,h1,e2,n1,qbe,hlen,ne_eq,not_false_eq_true,if_true]
 · have hv : vldB a rows = false := by
    rw[Bool.eq_false_iff];intro h;exact ha (qid.1 h).at_
   rw[hv];have h1:¬ a=1:=fun h=>ha (.inl h)
   have h2:¬ a=2:=fun h=>ha (.inr h)
   simp only[ir17,ir17p1,qa,qb,eq_self,aBin,reduceIte,ibne,h1,h2,if_false]
end Go.Proofs.YtnfecjmddbehiaaGreat

namespace Go.Proofs.YtnfecjmddbehiaaGreat
open Go Am
set_option maxRecDepth 100000
theorem qmhb (l:List (List UInt8)) (h:l.length<63):run tb 58 [strsD l]=some [.int .i64 ((2^l.length:Nat):Int)]:=by
 refine qc (x:=ir58) rfl ?_;simp (disch:=omega) only[ir58,qa,qb,eq_self,aBin,reduceIte,bvQ,wu,qjd,qpb]
theorem qyu {p:Nat→Bool} {w:Nat} (h:p w=true):bitsTo p w|||1#64 <<< w=bitsTo p (w+1):=by simp only[bitsTo,h,if_true]
theorem qos {p:Nat→Bool} {w:Nat} (h:p w=false):bitsTo p w=bitsTo p (w+1):=by simp[bitsTo,h]
theorem qpk (l:List (List UInt8)) (hl:l.length<1000000000):run tb 29 [strsD l]=some [.bool (vocOk l)]:=by
 refine qc (x:=ir29) rfl ?_
 by_cases h6:l.length≤6
 · have h6':¬ ((l.length:Nat):Int)>6:=by omega
   have hv:vocOk l=okAt l 0:=by simp[vocOk,h6,qvr]
   rw[hv];simp (disch:=omega) only[ir29,qa,qb,eq_self,aBin,reduceIte,qpb,h6'];refine qk (σ:=Unit) l.length (fun _ _=>True) (fun i _=>[.int .i64 i]) (fun i _=>[.bool (okAt l i)]) ?_ ?_ 0 () (Nat.zero_le _) trivial
   · rintro i _ L hi _ hL;have hnext:=hL () trivial;have hn:=qsn l[i];cases hvn:validName l[i] with
     | false=>
      rw[hvn] at hn
      have:okAt l i=false:=by
       by_cases h0:0<i
       · rw[qfh h0 hi,hvn];rfl
       · rw[qhe h0 hi,hvn];rfl
      simp (disch:=omega) only[ir29p1,ir29p0,qa,qb,eq_self,aBin,reduceIte,hi,qsh,hn,this]
     | true=>
      rw[hvn] at hn
      by_cases h0:¬ 0<i
      · have h0':¬ (i:Int)>0:=by omega
        rw[qhe h0 hi,hvn,Bool.true_and];simp (disch:=omega) only[ir29p1,ir29p0,qa,qb,eq_self,aBin,reduceIte,hi,h0',qsh,hn,wr,natS,hnext]
      · have h0:0<i:=by omega
        have h0':(i:Int)>0:=by omega
        have hs:(i:Int)-1=((i-1:Nat):Int):=by omega
        have hi1:i-1<l.length:=by omega
        rw[qfh h0 hi,hvn,Bool.true_and];cases hb:Op.bytesLess l[i-1] l[i] with
        | true=>
         rw[Bool.true_and];simp (disch:=omega) only[ir29p1,ir29p0,qa,qb,eq_self,aBin,reduceIte,hi,h0',qsh,hn,wr,natS,hs,hb,hnext]
        | false=>
         rw[Bool.false_and];simp (disch:=omega) only[ir29p1,ir29p0,qa,qb,eq_self,aBin,reduceIte,hi,h0',qsh,hn,wr,hs,hb]
   · rintro _ L _;rw[qyv];simp (disch:=omega) only[ir29p1,qa,qb,eq_self,aBin,reduceIte,Nat.lt_irrefl]
 · have h6':((l.length:Nat):Int)>6:=by omega
   have hv:vocOk l=false:=by simp[vocOk,h6]
   rw[hv];simp (disch:=omega) only[ir29,qa,qb,eq_self,aBin,reduceIte,qpb,h6']
theorem qlf (l:List (List UInt8)) (hl:l.length<1000000000) (hs:∀ s∈l,s.length<9223372036854775808):run tb 34 [strsD l]=some [.bool (vocOk l)]:=by
 refine qc (x:=ir34) rfl ?_;have hv:vocOk l=(okAt l 0&&decide (l.length≤6)):=by rw[vocOk,qvr,Bool.and_comm]
 rw[hv];simp (disch:=omega) only[ir34,qa,qb];refine qk (σ:=Unit) l.length (fun _ _=>True) (fun i _=>[.int .i64 i]) (fun i _=>[.bool (okAt l i&&decide (l.length≤6))]) ?_ ?_ 0 () (Nat.zero_le _) trivial
 · rintro i _ L hi _ hL;have hnext:=hL () trivial;have hn:=qwj l[i] (hs _ (List.getElem_mem hi));cases hvn:validName l[i] with
   | false=>
    rw[hvn] at hn
    have:okAt l i=false:=by
     by_cases h0:0<i
     · rw[qfh h0 hi,hvn];rfl
     · rw[qhe h0 hi,hvn];rfl
    rw[this,Bool.false_and];simp (disch:=omega) only[ir34p1,ir34p0,qa,qb,eq_self,aBin,reduceIte,qpb,hi,qsh,hn]
   | true=>
    rw[hvn] at hn
    by_cases h0:¬ 0<i
    · have h0':¬ (i:Int)>0:=by omega
      rw[qhe h0 hi,hvn,Bool.true_and];simp (disch:=omega) only[ir34p1,ir34p0,qa,qb,eq_self,aBin,reduceIte,qpb,hi,h0',qsh,hn,wr,natS,hnext]
    · have h0:0<i:=by omega
      have h0':(i:Int)>0:=by omega
      have hs:(i:Int)-1=((i-1:Nat):Int):=by omega
      have hi1:i-1<l.length:=by omega
      rw[qfh h0 hi,hvn,Bool.true_and];have ht:=qyk l[i] l[i-1];cases hb:Op.bytesLess l[i-1] l[i] with
      | true=>
       rw[hb] at ht;rw[Bool.true_and];simp (disch:=omega) only[ir34p1,ir34p0,qa,qb,eq_self,aBin,reduceIte,qpb,hi,h0',qsh,hn,wr,natS,hs,ht,hnext]
      | false=>
       rw[hb] at ht;rw[Bool.false_and,Bool.false_and];simp (disch:=omega) only[ir34p1,ir34p0,qa,qb,eq_self,aBin,reduceIte,qpb,hi,h0',qsh,hn,wr,hs,ht]
 · rintro _ L _;rw[qyv,Bool.true_and]
   by_cases h6:l.length≤6
   · have h6':((l.length:Nat):Int)≤6:=by omega
     simp (disch:=omega) only[ir34p1,qa,qb,eq_self,aBin,reduceIte,qpb,Nat.lt_irrefl,h6,h6']
   · have h6':¬ ((l.length:Nat):Int)≤6:=by omega
     simp (disch:=omega) only[ir34p1,qa,qb,eq_self,aBin,reduceIte,qpb,Nat.lt_irrefl,h6,h6']
theorem qcnb (l:List (List UInt8)) (hl:l.length<1000000000) (hs:∀ s∈l,s.length<9223372036854775808):run tb 43 [strsD l]=some [bvD (allS l)]:=by
 refine qc (x:=ir43) rfl ?_;have hv:=qlf l hl hs;unfold allS;cases h:vocOk l with
 | false=>
  rw[h] at hv;simp (disch:=omega) only[ir43,qa,qb,eq_self,reduceIte,bvQ,hv]
 | true=>
  rw[h] at hv;have h6:=qrd h;have hp:=pow6 h6;have hc:=qmhb l (by omega)
  simp (disch:=omega) only[ir43,qa,qb,eq_self,reduceIte,bvQ,hv];refine qk (σ:=Unit) (2^l.length) (fun _ _=>True) (fun w _=>[bvD (bitsTo (fun _=>true) w),.int .i64 w]) (fun _ _=>[bvD (bitsTo (fun _=>true) (2^l.length))]) ?_ ?_ 0 () (Nat.zero_le _) trivial
  · rintro w _ L hw _ hL;have hnext:=hL () trivial;rw[← qyu rfl] at hnext;generalize 2^l.length=n at *;simp (disch:=omega) only[ir43p0,qa,qb,eq_self,aBin,reduceIte,bvQ,wu,hc,hw,wr,natS,hnext]
  · rintro _ L _;generalize 2^l.length=n at *;simp (disch:=omega) only[ir43p0,qa,qb,eq_self,aBin,reduceIte,bvQ,hc,Nat.lt_irrefl]
end Go.Proofs.YtnfecjmddbehiaaGreat

namespace Go.Proofs.YtnfecjmddbehiaaGreat
open Go Am
set_option maxRecDepth 100000
end Go.Proofs.YtnfecjmddbehiaaGreat

namespace Go.Proofs.YtnfecjmddbehiaaGreat
open Go Am
set_option maxRecDepth 100000
end Go.Proofs.YtnfecjmddbehiaaGreat

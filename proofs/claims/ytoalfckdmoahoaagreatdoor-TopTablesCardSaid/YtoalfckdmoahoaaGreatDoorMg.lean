/- What functions of the program compute: lemmas. -/
import Derived.Test.YtoalfckdmoahoaaGreatDoorWd
import Derived.Test.YtoalfckdmoahoaaGreatDoorUd
import Derived.Test.YtoalfckdmoahoaaGreatDoorAm7
import Derived.Test.YtoalfckdmoahoaaGreatDoorAm8
import Derived.Test.YtoalfckdmoahoaaGreatDoorAm6
set_option linter.unusedSimpArgs false
set_option linter.unusedVariables false
set_option linter.unusedSectionVars false
namespace Go.Proofs.YtoalfckdmoahoaaGreatDoor
open Go Am
set_option maxRecDepth 100000
theorem qgub (x:BitVec 64):run tb 59 [bvD x]=some [.int .i64 (low x)]:=qjf rfl (qvvb x)
theorem qqrb {l:List Int} {a:Int} (h:l.length+1≤1000000):PO.eval (.app 1 8) [numsD l,.sl [[.int .i64 a]]]=some [numsD (l++[a])]:=by
 unfold numsD;rw[qtz (by simp;omega) (by simp;omega) (by simp[])]
 simp[numR]
def natL (l:List Nat):List Int:=l.map fun (n:Nat)=>(n:Int)
theorem qxj (voc:List (List UInt8)) (X:BitVec 64) (hl:voc.length<1000000000):run tb 43 [strsD voc,bvD X]=some [numsD (natL (worldsTo (X&&&allS voc) 64))]:=by
 refine qg (x:=ir43) rfl ?_;have h1:=qhp voc hl;simp (disch:=omega) only[ir43,qc,qb,bvQ,h1];generalize X&&&allS voc=Y;have h0:from_ Y 0=Y:=qbgb Y
 show loopQ _ _ _ _ [bvD Y,numsD (natL (worldsTo Y 0))]=_
 rw[← h0]
 conv=>rhs;rw[h0]
 conv=>lhs;rw[show worldsTo (from_ Y 0) 0=worldsTo Y 0 from rfl]
 refine qwfb (ι:=Nat) (fun a=>64-a) (fun a=>a≤64) (fun a=>[bvD (from_ Y a),numsD (natL (worldsTo Y a))]) (fun _=>[numsD (natL (worldsTo Y 64))]) ?_ 0 (by omega)
 rintro a L ha hL
 by_cases hz:from_ Y a=0#64
 · have hd:=qlhb Y a ha hz;simp (disch:=omega) only[ir43p0,qc,qb,eq_self,bvQ,hz,hd]
 · obtain ⟨n1,n2,n3,n4⟩:=qlib Y a hz;have ht:=qgub (from_ Y a);have hnext:=hL (low (from_ Y a)+1) (by show _≤64;omega) (by show 64-(low (from_ Y a)+1)<64-a;omega)
   rw[n4] at hnext
   have hlen:(natL (worldsTo Y a)).length+1≤1000000:=by
    have:=qoe Y a;simp only[natL,List.length_map];omega
   have happ:=qqrb (a:=(low (from_ Y a):Int)) hlen;have hnl:natL (worldsTo Y a++[low (from_ Y a)])=natL (worldsTo Y a)++[(low (from_ Y a):Int)]:=by simp[natL]
   rw[hnl] at hnext;simp (disch:=omega) only[ir43p0,qc,qb,eq_self,bvQ,hz,ht,happ,n3,hnext]
theorem qgo (v w:Int):run tb 60 [.int .i64 v,.int .i64 w]=some [bvD (dif v w)]:=by
 refine qg (x:=ir60) rfl ?_;have l63:D.int .u64 63=bvD 63#64:=rfl;simp (disch:=omega) only[ir60,qc,qb,eq_self,aBin,reduceIte,bvQ,l63];rw[qpcb];exact congrArg (fun x=>some [bvD (x&&&63#64)]) (qaf (BitVec.ofInt 64 v ^^^ BitVec.ofInt 64 w))
theorem qfr (v w:Int):run tb 83 [.int .i64 v,.int .i64 w]=some [.int .i64 (ones (dif v w) 64)]:=by
 refine qg (x:=ir83) rfl ?_;have h1:=qgo v w;have h2:=qto (dif v w);simp (disch:=omega) only[ir83,qc,qb,eq_self,h1,h2]
def msF (d:Int):D:=if d=1 then fnD 74 else if d=2 then fnD 76 else if d=3 then fnD 77 else .raw .nilFunc
def dOk (d:Int):Bool:=decide (1≤d)&&decide (d≤3)
theorem qgl (d:Int):run tb 42 [.int .i64 d]=some [msF d,.bool (dOk d)]:=by
 refine qg (x:=ir42) rfl ?_;unfold msF dOk
 by_cases h1:d=1
 · subst h1;simp (disch:=omega) only[ir42,qc,qb,eq_self,aBin,reduceIte,Int.reduceEq,Int.reduceLE]
 by_cases h2:d=2
 · subst h2;simp (disch:=omega) only[ir42,qc,qb,eq_self,aBin,reduceIte,Int.reduceEq,Int.reduceLE]
 by_cases h3:d=3
 · subst h3;simp (disch:=omega) only[ir42,qc,qb,eq_self,aBin,reduceIte,Int.reduceEq,Int.reduceLE]
 have h4:(decide (1≤d)&&decide (d≤3))=false:=by simp;omega
 rw[if_neg h1,if_neg h2,if_neg h3,h4];simp (disch:=omega) only[ir42,qc,qb,eq_self,aBin,reduceIte,h1,h2,h3]
theorem qsqb (a b:BitVec 64):run tb 61 [bvD a,bvD b]=some [.bool (nearP 1 a b)]:=by
 refine qg (x:=ir61) rfl ?_;have h1:=qto a;have h2:=qto b;have e:nearP 1 a b=decide ((ones a 64:Int)<(ones b 64:Int)):=by simp[nearP]
 rw[e];simp (disch:=omega) only[ir61,qc,qb,eq_self,aBin,reduceIte,h1,h2]
theorem qmrb (a b:BitVec 64):run tb 62 [bvD a,bvD b]=some [.bool (nearP 2 a b)]:=by
 refine qg (x:=ir62) rfl ?_;have e:nearP 2 a b=(decide (a &&& ~~~b=0#64) && !decide (a=b)):=rfl;rw[e]
 by_cases h:a &&& ~~~b=0#64
 · simp (disch:=omega) only[ir62,qc,qb,eq_self,bvQ,h]
 · simp (disch:=omega) only[ir62,qc,qb,eq_self,bvQ,h]
theorem qtrb (a b:BitVec 64):run tb 63 [bvD a,bvD b]=some [.bool (nearP 3 a b)]:=by
 refine qg (x:=ir63) rfl ?_;have e:nearP 3 a b=(decide (a=0#64) && !decide (b=0#64)):=rfl;rw[e]
 by_cases h:a=0#64
 · simp (disch:=omega) only[ir63,qc,qb,eq_self,bvQ,h]
 · simp (disch:=omega) only[ir63,qc,qb,eq_self,bvQ,h]
theorem qeq {l:List Nat} {i:Nat} (h:i<l.length):PO.eval (.row 1) [numsD (natL l),.int .i64 i]=some [.int .i64 (l[i]:Nat)]:=by
 have h1:i<(natL l).length:=by simpa [natL] using h
 have:=qpf h1;rw[this];simp[natL]
theorem qpo (l:List Nat):PO.eval .lenL [numsD (natL l)]=some [.int .i64 l.length]:=by rw[qge];simp[natL]
theorem qvv (names:List (List UInt8)) (v:Int) (X:BitVec 64) (d:Int) (hd:dOk d=true) (hl:names.length<1000000000) :
 run tb 44 [strsD names,.int .i64 v,bvD X,msF d]=some [bvD (accN v (worldsTo (X&&&allS names) 64) d (worldsTo (X&&&allS names) 64).length)]:=by
 refine qg (x:=ir44) rfl ?_;have h1:=qxj names X hl;obtain ⟨l,hll⟩:∃ l,l=worldsTo (X&&&allS names) 64:=⟨_,rfl⟩;have hlt:∀ w∈l,w<64:=fun w hw=>by rw[hll,qgb] at hw;exact hw.1
 have hlen:l.length≤64:=by rw[hll];exact qoe _ _
 rw[← hll] at h1 ⊢;clear hll;simp (disch:=omega) only[ir44,qc,qb,bvQ,h1,qpo];rw[← qrbc v l d];refine qcb (σ:=Unit) l.length (fun _ _=>True) (fun i _=>[msF d,bvD (accN v l d i),.int .i64 i]) (fun _ _=>[bvD (accN v l d l.length)]) ?_ ?_ 0 () (Nat.zero_le _) trivial
 · rintro i _ L hi _ hL;have hnext:=hL () trivial;have hw:=hlt _ (List.getElem_mem hi);rw[qjyb hi hw] at hnext;have hrw:=qeq hi;have d1:=fun u:Nat=>qgo v u
   simp (disch:=omega) only[ir44p3,qc,qb,eq_self,aBin,reduceIte,hi,hrw,qpo];generalize l[i]=w at *;refine qcb (σ:=Unit) l.length (fun j _=>(l.take j).all (fun u=>!nearP d (dif v u) (dif v w))=true) (fun j _=>[msF d,.int .i64 j]) (fun _ _=>[bvD (accN v l d l.length)]) ?_ ?_ 0 () (Nat.zero_le _) rfl
   · rintro j _ M hj hp hM;have hrj:=qeq hj;have hmem:l[j]∈l:=List.getElem_mem hj
     have hpj:(!nearP d (dif v (l[j]:Nat)) (dif v w))=true→(l.take (j+1)).all (fun u=>!nearP d (dif v u) (dif v w))=true:=fun h=>by
      rw[List.take_add_one,List.getElem?_eq_getElem hj];simp only[Option.toList_some,List.all_append,List.all_cons,List.all_nil,Bool.and_true,Bool.true_and,hp];exact h
     have hok:nearP d (dif v (l[j]:Nat)) (dif v w)=true→okN v l d w=false:=fun h=>by
      unfold okN;rw[List.all_eq_false];exact ⟨_,hmem,by rw[h];simp⟩
     generalize l[j]=u at *;cases hb:nearP d (dif v u) (dif v w) with
     | true=>
      rw[hok hb] at hnext;simp only[Bool.false_eq_true,if_false] at hnext;unfold dOk at hd;simp only[Bool.and_eq_true,decide_eq_true_eq] at hd;rcases (by omega:d=1∨d=2∨d=3) with rfl|rfl|rfl
      · have hm:=qsqb (dif v u) (dif v w);rw[hb] at hm;simp only[msF,Int.reduceEq,if_true,if_false] at hnext ⊢;simp (disch:=omega) only[ir44p2,ir44p1,ir44p0,qc,qb,eq_self,aBin,reduceIte,qsbb,isFn,Nat.reduceBEq,hj,hrj,d1,hm,wr,natS,hnext]
      · have hm:=qmrb (dif v u) (dif v w);rw[hb] at hm;simp only[msF,Int.reduceEq,if_true,if_false] at hnext ⊢;simp (disch:=omega) only[ir44p2,ir44p1,ir44p0,qc,qb,eq_self,aBin,reduceIte,qsbb,isFn,Nat.reduceBEq,hj,hrj,d1,hm,wr,natS,hnext]
      · have hm:=qtrb (dif v u) (dif v w);rw[hb] at hm;simp only[msF,Int.reduceEq,if_true,if_false] at hnext ⊢;simp (disch:=omega) only[ir44p2,ir44p1,ir44p0,qc,qb,eq_self,aBin,reduceIte,qsbb,isFn,Nat.reduceBEq,hj,hrj,d1,hm,wr,natS,hnext]
     | false=>
      have hnx:=hM () (hpj (by rw[hb];rfl))
      unfold dOk at hd;simp only[Bool.and_eq_true,decide_eq_true_eq] at hd;rcases (by omega:d=1∨d=2∨d=3) with rfl|rfl|rfl
      · have hm:=qsqb (dif v u) (dif v w);rw[hb] at hm;simp only[msF,Int.reduceEq,if_true,if_false] at hnx ⊢;simp (disch:=omega) only[ir44p2,ir44p1,qc,qb,eq_self,aBin,reduceIte,qsbb,isFn,Nat.reduceBEq,hj,hrj,d1,hm,wr,natS,hnx]
      · have hm:=qmrb (dif v u) (dif v w);rw[hb] at hm;simp only[msF,Int.reduceEq,if_true,if_false] at hnx ⊢;simp (disch:=omega) only[ir44p2,ir44p1,qc,qb,eq_self,aBin,reduceIte,qsbb,isFn,Nat.reduceBEq,hj,hrj,d1,hm,wr,natS,hnx]
      · have hm:=qtrb (dif v u) (dif v w);rw[hb] at hm;simp only[msF,Int.reduceEq,if_true,if_false] at hnx ⊢;simp (disch:=omega) only[ir44p2,ir44p1,qc,qb,eq_self,aBin,reduceIte,qsbb,isFn,Nat.reduceBEq,hj,hrj,d1,hm,wr,natS,hnx]
   · rintro _ M hp;rw[List.take_length] at hp;have hok:okN v l d w=true:=hp;rw[hok,if_pos rfl] at hnext;simp (disch:=omega) only[ir44p2,ir44p0,qc,qb,eq_self,aBin,reduceIte,bvQ,wu,Nat.lt_irrefl,wr,natS,hnext]
 · rintro _ L _;simp (disch:=omega) only[ir44p3,qc,qb,eq_self,aBin,reduceIte,Nat.lt_irrefl]
end Go.Proofs.YtoalfckdmoahoaaGreatDoor

namespace Go.Proofs.YtoalfckdmoahoaaGreatDoor
open Go Am
set_option maxRecDepth 100000
def idxZ (x:BitVec 64):Nat→List (BitVec 64)→Int
 | _,[]=>-1
 | k,y::l=>if x=y then (k:Int) else idxZ x (k+1) l
theorem qieb (x:BitVec 64):∀ (k:Nat) (l:List (BitVec 64)),decide (idxZ x k l≥0)=l.contains x
 | k,[]=>rfl
 | k,y::l=>by
  rw[idxZ,List.contains_cons]
  by_cases h:x=y
  · rw[if_pos h,h];simp
  · rw[if_neg h,qieb x (k+1) l];have:(x == y)=false:=by simpa using h
    rw[this,Bool.false_or]
theorem qlcb (l:List (BitVec 64)) (x:BitVec 64) (hl:l.length<1000000000):run tb 77 [bvsD l,bvD x]=some [.int .i64 (idxZ x 0 l)]:=by
 refine qg (x:=ir77) rfl ?_;simp (disch:=omega) only[ir77,qc,qb,quvb];rw[show idxZ x 0 l=idxZ x 0 (l.drop 0) from rfl]
 refine qcb (σ:=Unit) l.length (fun _ _=>True) (fun i _=>[.int .i64 i]) (fun i _=>[.int .i64 (idxZ x i (l.drop i))]) ?_ ?_ 0 () (Nat.zero_le _) trivial
 · rintro i _ L hi _ hL;have hnext:=hL () trivial;have hr:=qwnb hi;rw[qrm hi,idxZ]
   by_cases hx:x=l[i]
   · rw[if_pos hx];simp (disch:=omega) only[ir77p0,qc,qb,eq_self,aBin,reduceIte,bvQ,hi,hr,eq_true hx]
   · rw[if_neg hx];simp (disch:=omega) only[ir77p0,qc,qb,eq_self,aBin,reduceIte,bvQ,hi,hr,hx,wr,natS,hnext]
 · rintro _ L _;rw[List.drop_length];simp (disch:=omega) only[ir77p0,qc,qb,eq_self,aBin,reduceIte,Nat.lt_irrefl,idxZ]
theorem qop (l:List (BitVec 64)) (x:BitVec 64) (hl:l.length<1000000000):run tb 64 [bvsD l,bvD x]=some [.bool (l.contains x)]:=by
 refine qg (x:=ir64) rfl ?_;have h:=qlcb l x hl;rw[← qieb x 0 l];simp (disch:=omega) only[ir64,qc,qb,eq_self,aBin,reduceIte,h]
def firstE (names:List (List UInt8)):List F→Int
 | []=>0
 | f::l=>if modelsE names f=0 then firstE names l else modelsE names f
def prE (names:List (List UInt8)) (fs:List F) (kind:Int):Int:=
 if vocOk names=false then 1 else if kind<1∨kind>4 then 4 else if fs.length>8 then 2 else if firstE names fs≠0 then firstE names fs else if (fs.map (modelsS names)).contains 0#64=true then 7 else 0
theorem qhac {l:List (BitVec 64)} {a:BitVec 64} (h:l.length+1≤1000000):PO.eval (.app 1 8) [bvsD l,.sl [[bvD a]]]=some [bvsD (l++[a])]:=by
 unfold bvsD;rw[qtz (by simp;omega) (by simp;omega) (by simp)]
 simp
theorem qoac {l:List F} {i:Nat} (h:i<l.length):PO.eval (.row 3) [.sl (F.encs l),.int .i64 i]=some [.int .i64 l[i].op,.str l[i].name,.sl (F.encs l[i].args)]:=qdu h
theorem qxq (names:List (List UInt8)) (hl:names.length<1000000000) (fs:List F) (hf:∀ f∈fs,f.size<1000000000) (hfl:fs.length<1000000000) (kind:Int) :
 run tb 45 [strsD names,.sl (F.encs fs),.int .i64 kind]=some [if prE names fs kind=0 then bvsD (fs.map (modelsS names)) else .sl [],.int .i64 (prE names fs kind)]:=by
 refine qg (x:=ir45) rfl ?_;have h1:=qce names hl;cases hv:vocOk names with
 | false=>
  rw[hv] at h1;have e:prE names fs kind=1:=by unfold prE;rw[if_pos hv]
  rw[e,if_neg (by decide)]
  simp (disch:=omega) only[ir45,qc,qb,eq_self,h1]
 | true=>
 rw[hv] at h1
 by_cases c1:kind<1
 · have e:prE names fs kind=4:=by unfold prE;rw[if_neg (by simp[hv]),if_pos (.inl c1)]
   rw[e,if_neg (by decide)]
   simp (disch:=omega) only[ir45,ir45p1,qc,qb,eq_self,aBin,reduceIte,h1,c1]
 by_cases c2:kind>4
 · have e:prE names fs kind=4:=by unfold prE;rw[if_neg (by simp[hv]),if_pos (.inr c2)]
   rw[e,if_neg (by decide)]
   simp (disch:=omega) only[ir45,ir45p1,qc,qb,eq_self,aBin,reduceIte,h1,c1,c2]
 by_cases c3:fs.length>8
 · have e:prE names fs kind=2:=by unfold prE;rw[if_neg (by simp[hv]),if_neg (by omega),if_pos c3]
   have c3':(fs.length:Int)>8:=by omega
   rw[e,if_neg (by decide)]
   simp (disch:=omega) only[ir45,ir45p1,qc,qb,eq_self,aBin,reduceIte,h1,c1,c2,c3']
 have c3':¬ (fs.length:Int)>8:=by omega
 have e:prE names fs kind=if firstE names fs≠0 then firstE names fs else if (fs.map (modelsS names)).contains 0#64=true then 7 else 0:=by unfold prE;rw[if_neg (by simp[hv]),if_neg (by omega),if_neg c3]
 rw[e];simp (disch:=omega) only[ir45,ir45p1,qc,qb,eq_self,aBin,reduceIte,h1,c1,c2,c3']
 show loopQ _ _ _ _ [.int .i64 ((0:Nat):Int),bvsD ((fs.take 0).map (modelsS names))]=_
 have hd0:firstE names fs=firstE names (fs.drop 0):=by simp
 rw[hd0]
 refine qcb (σ:=Unit) fs.length (fun _ _=>True) (fun i _=>[.int .i64 i,bvsD ((fs.take i).map (modelsS names))])
  (fun i _=>[if (if firstE names (fs.drop i)≠0 then firstE names (fs.drop i) else if (fs.map (modelsS names)).contains 0#64=true then 7 else 0)=0 then bvsD (fs.map (modelsS names)) else .sl [],.int .i64 (if firstE names (fs.drop i)≠0 then firstE names (fs.drop i) else if (fs.map (modelsS names)).contains 0#64=true then 7 else 0)]) ?_ ?_ 0 () (Nat.zero_le _) trivial
 · rintro i _ L hi _ hL;have hnext:=hL () trivial;have hr:=qoac hi;have hm:=qhe names fs[i] hl (hf _ (List.getElem_mem hi));simp only[rowF] at hm;rw[qrm hi,firstE]
   by_cases c:modelsE names fs[i]=0
   · rw[if_pos c];rw[c] at hm
     have htk:(fs.take (i+1)).map (modelsS names)=(fs.take i).map (modelsS names)++[modelsS names fs[i]]:=by
      rw[List.take_add_one,List.getElem?_eq_getElem hi,List.map_append];rfl
     rw[htk] at hnext;have happ:=qhac (l:=(fs.take i).map (modelsS names)) (a:=modelsS names fs[i]) (by rw[List.length_map,List.length_take];omega)
     simp (disch:=omega) only[ir45p0,qc,qb,eq_self,aBin,reduceIte,hi,hr,hm,ibne,happ,wr,natS,hnext]
   · rw[if_neg c,if_pos c,if_neg c];simp (disch:=omega) only[ir45p0,qc,qb,eq_self,aBin,reduceIte,hi,hr,hm,ibne,c]
 · rintro _ L _;rw[List.take_length,List.drop_length];have hc:=qop (fs.map (modelsS names)) 0#64 (by rw[List.length_map];exact hfl)
   cases hz:(fs.map (modelsS names)).contains 0#64 with
   | true=>
    rw[hz] at hc;simp (disch:=omega) only[ir45p0,qc,qb,eq_self,aBin,Int.reduceEq,bvQ,Nat.lt_irrefl,hc,qmp,firstE,ne_eq,not_true_eq_false,if_false,if_true,Int.reduceEq]
   | false=>
    rw[hz] at hc;simp (disch:=omega) only[ir45p0,qc,qb,eq_self,aBin,bvQ,Nat.lt_irrefl,hc,qmp,firstE,ne_eq,not_true_eq_false,if_false,if_true]
def dsT (kind:Int) (w:Nat) (l:List Nat):Nat:=l.foldl (fun (m v:Nat)=>min m (if kind=4 then min (ones (dif v w) 64) 1 else ones (dif v w) 64)) 7
theorem qjpb (kind:Int) (w:Nat) (l:List Nat) (v:Nat):dsT kind w (l++[v])=min (dsT kind w l) (if kind=4 then min (ones (dif v w) 64) 1 else ones (dif v w) 64):=by simp[dsT]
theorem qibc (kind:Int) (w:Nat) (l:List Nat):dsT kind w l≤7:=by
 have:∀ (l:List Nat) (a:Nat),l.foldl (fun (m v:Nat)=>min m (if kind=4 then min (ones (dif v w) 64) 1 else ones (dif v w) 64)) a≤a:=by
  intro l
  induction l with
  | nil=>intro a;exact Nat.le_refl _
  | cons v l ih=>intro a;simp only[List.foldl_cons];exact Nat.le_trans (ih _) (Nat.min_le_left _ _)
 exact this l 7
theorem qxwb (kind:Int) (w:Nat) {l:List Nat} (h:l≠[]):(dsT kind w l:Int)=entS kind (dsL w l):=by
 unfold entS
 by_cases hk:kind=4
 · subst hk;simp only[if_true]
   have:∀ (l:List Nat) (a b:Nat),min a 1=min b 1→min (l.foldl (fun (m v:Nat)=>min m (if (4:Int)=4 then min (ones (dif v w) 64) 1 else ones (dif v w) 64)) a) 1=min (l.foldl (fun (m v:Nat)=>min m (ones (dif v w) 64)) b) 1:=by
    intro l
    induction l with
    | nil=>intro a b h;exact h
    | cons v l ih=>intro a b h;simp only[List.foldl_cons,if_true];exact ih _ _ (by omega)
   have h1:=this l 7 7 rfl
   have h2:dsT 4 w l≤1:=by
    obtain ⟨v,l,rfl⟩:=List.exists_cons_of_ne_nil h
    have h3:∀ (l:List Nat) (a:Nat),l.foldl (fun (m v:Nat)=>min m (if (4:Int)=4 then min (ones (dif v w) 64) 1 else ones (dif v w) 64)) a≤a:=by
     intro l
     induction l with
     | nil=>intro a;exact Nat.le_refl _
     | cons v l ih=>intro a;simp only[List.foldl_cons];exact Nat.le_trans (ih _) (Nat.min_le_left _ _)
    have:=h3 l (min 7 (min (ones (dif v w) 64) 1));unfold dsT;simp only[List.foldl_cons,if_true] at this ⊢;omega
   have h4:min (dsT 4 w l) 1=min (dsL w l) 1:=h1;omega
 · simp only[hk,if_false];unfold dsT dsL;simp only[hk,if_false]
theorem qso (names:List (List UInt8)) (hv:vocOk names=true) (X:BitVec 64) (hX:∃ u,u<2^names.length∧has X u) (w:Nat) (kind:Int) :
 run tb 78 [strsD names,bvD X,.int .i64 w,.int .i64 kind]=some [.int .i64 (entS kind (dsS (2^names.length) X w))]:=by
 refine qg (x:=ir78) rfl ?_;have h6:=qy hv;have h1:=qxj names X (by omega)
 have hal:allS names=alW names.length:=by unfold allS;rw[if_pos hv]
 rw[hal,qqj h6] at h1;obtain ⟨u,hu,hxu⟩:=hX
 have hne:worldsTo X (2^names.length)≠[]:=fun h=>by
  have:=(qgb (X:=X) (n:=2^names.length)).2 ⟨hu,hxu⟩;rw[h] at this;cases this
 unfold dsS;rw[← qxwb kind w hne];clear hne;have hlen:=qoe X (2^names.length);have h64:=pow6 h6;generalize worldsTo X (2^names.length)=l at *;simp (disch:=omega) only[ir78,qc,qb,h1,qpo]
 show loopQ _ _ _ _ [.int .i64 ((dsT kind w (l.take 0):Nat):Int),.int .i64 ((0:Nat):Int)]=_
 refine qcb (σ:=Unit) l.length (fun _ _=>True) (fun i _=>[.int .i64 ((dsT kind w (l.take i):Nat):Int),.int .i64 i]) (fun _ _=>[.int .i64 ((dsT kind w l:Nat):Int)]) ?_ ?_ 0 () (Nat.zero_le _) trivial
 · rintro i _ L hi _ hL;have hnext:=hL () trivial;have hr:=qeq hi;have hd:=qfr (l[i]:Nat) w;rw[List.take_add_one,List.getElem?_eq_getElem hi,Option.toList_some,qjpb] at hnext;have hle:=qibc kind w (l.take i);generalize dsT kind w (l.take i)=T at *;generalize ones (dif (l[i]:Nat) w) 64=o at *
   by_cases hk:kind=4
   · subst hk;simp only[if_true] at hnext;have e1:(if (1:Int)<(o:Int) then (1:Int) else (o:Int))=((min o 1:Nat):Int):=by split<;>omega
     have e2:(if min o 1<T then ((min o 1:Nat):Int) else (T:Int))=((min T (min o 1):Nat):Int):=by split<;>omega
     simp (disch:=omega) only[ir78p1,ir78p0,qc,qb,eq_self,aBin,reduceIte,hi,hr,hd,e1,e2,wr,natS,hnext]
   · simp only[hk,if_false] at hnext;have e2:(if o<T then ((o:Nat):Int) else (T:Int))=((min T o:Nat):Int):=by split<;>omega
     simp (disch:=omega) only[ir78p1,ir78p0,qc,qb,eq_self,aBin,reduceIte,hi,hr,hd,hk,e2,wr,natS,hnext]
 · rintro _ L _;rw[List.take_length];simp (disch:=omega) only[ir78p1,qc,qb,eq_self,aBin,reduceIte,Nat.lt_irrefl]
theorem qkw (names:List (List UInt8)) (hv:vocOk names=true) (ms:List (BitVec 64)) (hm:Mods (2^names.length) ms) (h8:ms.length≤1000) (w:Nat) (kind:Int) :
 run tb 65 [strsD names,bvsD ms,.int .i64 w,.int .i64 kind]=some [numsD (vecS (2^names.length) ms kind w)]:=by
 refine qg (x:=ir65) rfl ?_;simp (disch:=omega) only[ir65,qc,qb,quvb]
 show loopQ _ _ _ _ [.int .i64 ((0:Nat):Int),numsD (vecS (2^names.length) (ms.take 0) kind w)]=_
 refine qcb (σ:=Unit) ms.length (fun _ _=>True) (fun i _=>[.int .i64 i,numsD (vecS (2^names.length) (ms.take i) kind w)]) (fun _ _=>[numsD (vecS (2^names.length) ms kind w)]) ?_ ?_ 0 () (Nat.zero_le _) trivial
 · rintro i _ L hi _ hL;have hnext:=hL () trivial;have hr:=qwnb hi;have hd:=qso names hv ms[i] (hm _ (List.getElem_mem hi)) w kind
   have htk:vecS (2^names.length) (ms.take (i+1)) kind w=vecS (2^names.length) (ms.take i) kind w++[entS kind (dsS (2^names.length) ms[i] w)]:=by
    unfold vecS;rw[List.take_add_one,List.getElem?_eq_getElem hi,List.map_append];rfl
   rw[htk] at hnext;have happ:=qqrb (l:=vecS (2^names.length) (ms.take i) kind w) (a:=entS kind (dsS (2^names.length) ms[i] w)) (by rw[qul,List.length_take];omega)
   simp (disch:=omega) only[ir65p0,qc,qb,eq_self,aBin,reduceIte,hi,hr,hd,happ,wr,natS,hnext]
 · rintro _ L _;rw[List.take_length];simp (disch:=omega) only[ir65p0,qc,qb,eq_self,aBin,reduceIte,Nat.lt_irrefl]
def keyT (kind:Int) (v:List Int):Int:=if kind=3 then mxF v else if kind=2 then baseF v else sumF id v
theorem qaib (kind:Int) (v:List Int) (d:Int):keyT kind (v++[d])=if kind=3 then (if d>keyT kind v then d else keyT kind v) else if kind=2 then keyT kind v*7+d else keyT kind v+d:=by
 unfold keyT
 split
 · simp[mxF]
 split
 · simp[baseF]
 · simp[sumF]
theorem qka (kind:Int) {v:List Int} (hd:Dig v) (h8:v.length≤8):0≤keyT kind v∧keyT kind v<5764801:=by
 unfold keyT
 split
 · have h1:=qcbc v
   have h2:mxF v≤6:=by
    clear h1
    induction v with
    | nil=>simp[mxF]
    | cons x v ih=>
     rw[qef];have:=ih (fun y hy=>hd y (List.mem_cons_of_mem _ hy)) (by simp at h8;omega)
     have:=hd x List.mem_cons_self;omega
   omega
 split
 · have h:=qgf hd;have hp:(7:Int)^v.length≤7^8:=by exact_mod_cast Nat.pow_le_pow_right (by omega:0<7) h8
   have:(7:Int)^8=5764801:=by decide
   omega
 · have h1:=qnw (f:=id) (v:=v) fun x hx=>(hd x hx).1
   have h2:=qkj (f:=id) (c:=6) (v:=v) fun x hx=>(hd x hx).2
   omega
theorem qhob (kind:Int) (v:List Int) (hd:Dig v) (h8:v.length≤8):run tb 66 [.int .i64 kind,numsD v]=some [.int .i64 (keyS kind v),numsD (descI v)]:=by
 refine qg (x:=ir66) rfl ?_;have h1:run tb 36 [numsD v]=some [numsD (sortI v)]:=qjf rfl (by rw[show ext36=sortE from rfl,sortE,qvg,if_pos (by omega)])
 have h2:run tb 79 [numsD (sortI v)]=some [numsD (descI v)]:=qjf rfl (by rw[show ext79=revE from rfl,revE,qvg,if_pos (by rw[qwh];omega)];rfl)
 have hl:(descI v).length=v.length:=(qoc v).length_eq;have hk:keyS kind v=keyT kind (descI v):=rfl;have hdd:Dig (descI v):=fun x hx=>hd x ((qoc v).mem_iff.1 hx)
 rw[hk];have c1:∀ (l:List Int) k e J,callQ (run tb) 1 false [0] k e J (some [numsD l])=den (run tb) k (e++[numsD l]) J:=fun l k e J=>rfl
 generalize descI v=z at *;simp (disch:=omega) only[ir66,qc,qb,h1,h2,c1,qge];have hz:keyT kind (z.take 0)=0:=by simp[keyT,mxF,baseF,sumF]
 show loopQ _ _ _ _ ([D.int .i64 0]++[.int .i64 ((0:Nat):Int)])=_
 rw[show ([D.int .i64 0]:List D)=[D.int .i64 (keyT kind (z.take 0))] by rw[hz]]
 refine qcb (σ:=Unit) z.length (fun _ _=>True) (fun i _=>[.int .i64 (keyT kind (z.take i)),.int .i64 i]) (fun _ _=>[.int .i64 (keyT kind z),numsD z]) ?_ ?_ 0 () (Nat.zero_le _) trivial
 · rintro i _ L hi _ hL;have hnext:=hL () trivial;have hg:=qxbc hi;have hc:=qhwb hi;rw[List.take_add_one,List.getElem?_eq_getElem hi,Option.toList_some,qaib] at hnext;obtain ⟨b1,b2⟩:=qka kind (v:=z.take i) (fun x hx=>hdd x (List.mem_of_mem_take hx)) (by rw[List.length_take];omega)
   obtain ⟨d1,d2⟩:=hdd z[i] (List.getElem_mem hi);generalize keyT kind (z.take i)=T at *;generalize z[i]=d at *
   by_cases k3:kind=3
   · rw[if_pos k3] at hnext;simp (disch:=omega) only[ir66p1,ir66p0,qc,qb,eq_self,aBin,reduceIte,hi,hg,hc,k3,wr,natS,hnext]
   rw[if_neg k3] at hnext
   by_cases k2:kind=2
   · rw[if_pos k2] at hnext;simp (disch:=omega) only[ir66p1,ir66p0,qc,qb,eq_self,aBin,reduceIte,Int.reduceEq,hi,hg,hc,k2,wr,natS,hnext]
   · rw[if_neg k2] at hnext;simp (disch:=omega) only[ir66p1,ir66p0,qc,qb,eq_self,aBin,reduceIte,hi,hg,hc,k3,k2,wr,natS,hnext]
 · rintro _ L _;rw[List.take_length];simp (disch:=omega) only[ir66p1,qc,qb,eq_self,aBin,reduceIte,Nat.lt_irrefl]
theorem qww (names:List (List UInt8)) (hv:vocOk names=true) (ms:List (BitVec 64)) (hm:Mods (2^names.length) ms) (h8:ms.length≤8) (kind:Int) :
 run tb 46 [strsD names,bvsD ms,.int .i64 kind]=some [strsD names,numsD (mrgR (2^names.length) ms kind),.int .i64 0]:=by
 refine qg (x:=ir46) rfl ?_;have h6:=qy hv;have h64:=pow6 h6;have hkl:(keysL (2^names.length) ms kind).length=2^names.length:=by simp[keysL]
 have hno:=qsg names (keysL (2^names.length) ms kind) (by omega) (by omega)
 rw[if_pos (by simp[normE,hv,hkl]),qneb hm h8] at hno
 have hmkN:=mkN (n:=2^names.length) (by omega)
 rw[← hkl,qur,hkl] at hmkN;have hV:=fun w:Nat=>qkw names hv ms hm (by omega) w kind
 have hK:=fun w:Nat=>qhob kind (vecS (2^names.length) ms kind w) (qwu hm kind w) (by rw[qul];exact h8)
 have hG:=fun (w:Nat) (h:w<2^names.length)=>qem ms kind h
 show den _ _ _ _=some [strsD names,numsD (normS (scoL (2^names.length) ms kind)),.int .i64 0]
 simp (disch:=omega) only[ir46,qc,qb,aBin,reduceIte,qbi,qzfb,qne,hmkN];generalize normS (scoL (2^names.length) ms kind)=R at *;generalize hN:2^names.length=n at *;generalize keysL n ms kind=K at *;have hfl:∀ i,(fillR K i).length=n:=fun i=>by simp[fillR,hkl]
 have hl3:PO.eval .lenL [numsD (fillR K 0)]=some [.int .i64 n]:=by rw[qge,hfl]
 have c2:∀ (l:List Int) k e J,callQ (run tb) 1 false [0] k e J (some [numsD l])=den (run tb) k (e++[numsD l]) J:=fun l k e J=>rfl
 have c3:∀ (x:Int) (l:List Int) k e J,callQ (run tb) 2 false [1] k e J (some [.int .i64 x,numsD l])=den (run tb) k (e++[.int .i64 x,numsD l]) J:=fun x l k e J=>rfl
 simp (disch:=omega) only[qc,qb,hl3];refine qcb (σ:=Unit) n (fun _ _=>True) (fun i _=>[.int .i64 i,numsD (fillR K i)]) (fun _ _=>[strsD names,numsD R,.int .i64 0]) ?_ ?_ 0 () (Nat.zero_le _) trivial
 · rintro i _ L hi _ hL;have hnext:=hL () trivial;rw[← qzs (by omega),hG i hi] at hnext
   have hc:=qhwb (l:=fillR K i) (i:=i) (by rw[hfl];exact hi)
   have hs:=qczb (l:=fillR K i) (i:=i) (by rw[hfl];exact hi) (keyS kind (vecS n ms kind i))
   have h1:=hV i;have h2:=hK i;simp (disch:=omega) only[ir46p0,qc,qb,eq_self,aBin,reduceIte,hi,h1,c2,h2,c3,hc,hs,wr,natS,hnext]
 · rintro _ L _;have he:fillR K n=K:=by rw[← hkl];exact qby _
   simp (disch:=omega) only[ir46p0,qc,qb,eq_self,aBin,reduceIte,Nat.lt_irrefl,he,hno]
end Go.Proofs.YtoalfckdmoahoaaGreatDoor

namespace Go.Proofs.YtoalfckdmoahoaaGreatDoor
open Go Am
set_option maxRecDepth 100000
theorem qvn {names:List (List UInt8)}:∀ {fs:List F},firstE names fs=0↔∀ f∈fs,modelsE names f=0
 | []=>by simp[firstE]
 | f::l=>by
  rw[firstE]
  by_cases h:modelsE names f=0
  · rw[if_pos h,qvn];simp[h]
  · rw[if_neg h];exact ⟨fun h'=>absurd h' h,fun h'=>absurd (h' f List.mem_cons_self) h⟩
theorem qphb {names:List (List UInt8)} {f:F} {w:Nat} (h:has (modelsS names f) w):vocOk names=true→w<2^names.length:=fun hv=>by
 unfold modelsS at h
 split at h
 · exact ((qyx (qy hv)).1 h).1
 · simp[has] at h
theorem qvqb {names:List (List UInt8)} {fs:List F} {kind:Int} (h:prE names fs kind=0):vocOk names=true∧1≤kind∧kind≤4∧fs.length≤8∧Mods (2^names.length) (fs.map (modelsS names)):=by
 unfold prE at h;cases hv:vocOk names with
 | false=>rw[if_pos hv] at h;cases h
 | true=>
  rw[if_neg (by simp[hv])] at h
  split at h
  · cases h
  rename_i hk
  split at h
  · cases h
  rename_i hl
  split at h
  · rename_i h1;exact absurd h h1
  split at h
  · cases h
  rename_i hz;refine ⟨rfl,by omega,by omega,by omega,fun X hX=>?_⟩
  have hne:X≠0#64:=fun e=>by subst e;exact hz (List.contains_iff_mem.2 hX)
  obtain ⟨w,hw⟩:=qag hne;obtain ⟨f,_,rfl⟩:=List.mem_map.1 hX;exact ⟨w,qphb hw hv,hw⟩
theorem qacb (names:List (List UInt8)) (hl:names.length<1000000000) (fs:List F) (hf:∀ f∈fs,f.size<1000000000) (hfl:fs.length<1000000000) (kind:Int) :
 run tb 28 [strsD names,.sl (F.encs fs),.int .i64 kind]=some (if prE names fs kind=0 then [strsD names,numsD (mrgR (2^names.length) (fs.map (modelsS names)) kind),.int .i64 0] else [.sl [],.sl [],.int .i64 (prE names fs kind)]):=by
 refine qg (x:=ir28) rfl ?_;have h1:=qxq names hl fs hf hfl kind
 by_cases c:prE names fs kind=0
 · obtain ⟨hv,k1,k4,h8,hm⟩:=qvqb c;rw[if_pos c,c] at h1;have h2:=qww names hv (fs.map (modelsS names)) hm (by rw[List.length_map];exact h8) kind
   rw[if_pos c];simp (disch:=omega) only[ir28,qc,qb,eq_self,aBin,reduceIte,h1,ibne,h2]
 · rw[if_neg c] at h1 ⊢;simp (disch:=omega) only[ir28,qc,qb,eq_self,aBin,reduceIte,h1,ibne,c]
def mgE (names:List (List UInt8)) (fs:List F) (c:F) (kind:Int):Int:=if prE names fs kind≠0 then prE names fs kind else modelsE names c
def mgA (names:List (List UInt8)) (fs:List F) (c:F) (kind:Int):BitVec 64:=if mgE names fs c kind=0 then leastS names (mrgR (2^names.length) (fs.map (modelsS names)) kind) (modelsS names c) else 0#64
theorem qcbb (names:List (List UInt8)) (hl:names.length<1000000000) (fs:List F) (hf:∀ f∈fs,f.size<1000000000) (hfl:fs.length<1000000000) (c:F) (hc:c.size<1000000000) (kind:Int) :
 run tb 10 [strsD names,.sl (F.encs fs),.int .i64 c.op,.str c.name,.sl (F.encs c.args),.int .i64 kind]=some [bvD (mgA names fs c kind),.int .i64 (mgE names fs c kind)]:=by
 refine qg (x:=ir10) rfl ?_;have h1:=qacb names hl fs hf hfl kind;have h2:=qhe names c hl hc;simp only[rowF] at h2;unfold mgA
 by_cases c1:prE names fs kind=0
 · have e:mgE names fs c kind=modelsE names c:=by unfold mgE;rw[if_neg (by simp[c1])]
   rw[if_pos c1] at h1;rw[e]
   by_cases c2:modelsE names c=0
   · have hle:=qvqb c1;have h6:=qy hle.1;have h64:=pow6 h6;have h3:=qae names (mrgR (2^names.length) (fs.map (modelsS names)) kind) hl (by unfold mrgR;rw[qok,qpk];omega) (modelsS names c)
     rw[c2] at h2;rw[c2,if_pos rfl];simp (disch:=omega) only[ir10,qc,qb,eq_self,aBin,reduceIte,h1,ibne,h2,h3]
   · rw[if_neg c2];simp (disch:=omega) only[ir10,qc,qb,eq_self,aBin,reduceIte,bvQ,h1,ibne,h2,c2]
 · have e:mgE names fs c kind=prE names fs kind:=by unfold mgE;rw[if_pos c1]
   rw[if_neg c1] at h1;rw[e,if_neg c1];simp (disch:=omega) only[ir10,qc,qb,eq_self,aBin,reduceIte,bvQ,h1,ibne,c1]
end Go.Proofs.YtoalfckdmoahoaaGreatDoor

namespace Go.Proofs.YtoalfckdmoahoaaGreatDoor
open Go Am
set_option maxRecDepth 100000
theorem qcec {d:Int} (h1:1≤d) (h2:d≤3):dOk d=true:=by unfold dOk;simp[h1,h2]
theorem qdcc (names:List (List UInt8)) (hv:vocOk names=true) (v:Int) (X:BitVec 64) (d:Int) :
 accN v (worldsTo (X&&&allS names) 64) d (worldsTo (X&&&allS names) 64).length=nearS (2^names.length) v X d:=by
 have h6:=qy hv;have hal:allS names=alW names.length:=by unfold allS;rw[if_pos hv]
 rw[hal,qqj h6];exact qqeb (pow6 h6) v X d
theorem qqr (names:List (List UInt8)) (hv:vocOk names=true) (v:Int) (X:BitVec 64) (d:Int) (hd:dOk d=true) :
 run tb 44 [strsD names,.int .i64 v,bvD X,msF d]=some [bvD (nearS (2^names.length) v X d)]:=by
 have:=qvv names v X d hd (by have:=qy hv;omega)
 rwa [qdcc names hv] at this
theorem qrcb (names:List (List UInt8)) (hv:vocOk names=true) (K X:BitVec 64) (d:Int) (hd:dOk d=true) :
 run tb 27 [strsD names,bvD K,bvD X,.int .i64 d]=some [bvD (unionS (2^names.length) K X d)]:=by
 refine qg (x:=ir27) rfl ?_;have h6:=qy hv;have h64:=pow6 h6;have h1:=qgl d;have hal:allS names=alW names.length:=by unfold allS;rw[if_pos hv]
 have h2:=qxj names K (by omega)
 rw[hal,qqj h6] at h2;rw[hd] at h1;have h3:=fun v:Nat=>qqr names hv v X d hd
 have hlen:=qoe K (2^names.length);have hU:=qgcb h64 K X d;have hS:=qkv h64 K X d;rw[← hU];clear hU;generalize worldsTo K (2^names.length)=l at *;generalize 2^names.length=n at *;simp (disch:=omega) only[ir27,qc,qb,bvQ,h1,h2,qpo];have z:(0#64:BitVec 64)=bitsTo (fun w=>(l.take 0).any fun v=>(nearS n v X d).getLsbD w) n:=(qvc.2 fun w h=>by rw[qab h64] at h;simp at h).symm
 rw[z];refine qcb (σ:=Unit) l.length (fun _ _=>True) (fun i _=>[bvD (bitsTo (fun w=>(l.take i).any fun v=>(nearS n v X d).getLsbD w) n),.int .i64 i]) (fun _ _=>[bvD (bitsTo (fun w=>(l.take l.length).any fun v=>(nearS n v X d).getLsbD w) n)]) ?_ ?_ 0 () (Nat.zero_le _) trivial
 · rintro i _ L hi _ hL;have hnext:=hL () trivial;rw[hS i hi] at hnext;have hrw:=qeq hi;simp (disch:=omega) only[ir27p0,qc,qb,eq_self,aBin,reduceIte,bvQ,hi,hrw,h3,wr,natS,hnext]
 · rintro _ L _;simp (disch:=omega) only[ir27p0,qc,qb,eq_self,aBin,reduceIte,Nat.lt_irrefl]
def upE (names:List (List UInt8)) (f:F) (d:Int):Int:=if vocOk names=false then 1 else if dOk d=false then 4 else modelsE names f
theorem qyyb {names:List (List UInt8)} {f:F} {d:Int} (h:upE names f d=0):vocOk names=true∧dOk d=true:=by
 unfold upE at h;cases hv:vocOk names with
 | false=>rw[if_pos hv] at h;cases h
 | true=>
  cases hd:dOk d with
  | false=>rw[if_neg (by rw[hv];simp),if_pos hd] at h;cases h
  | true=>exact ⟨rfl,rfl⟩
theorem qov (names:List (List UInt8)) (hl:names.length<1000000000) (f:F) (hf:f.size<1000000000) (d:Int) :
 ∃ S,run tb 26 [strsD names,.int .i64 f.op,.str f.name,.sl (F.encs f.args),.int .i64 d]=some [bvD S,.int .i64 (upE names f d)]∧(upE names f d=0→S=modelsS names f):=by
 have h1:=qce names hl;have h2:=qgl d;have h3:=qhe names f hl hf;simp only[rowF] at h3;unfold upE;cases hv:vocOk names with
 | false=>
  rw[hv] at h1;refine ⟨0#64,qg (x:=ir26) rfl ?_,by simp⟩
  simp (disch:=omega) only[ir26,qc,qb,eq_self,reduceIte,bvQ,h1]
 | true=>
  rw[hv] at h1;cases hd:dOk d with
  | false=>
   rw[hd] at h2;refine ⟨0#64,qg (x:=ir26) rfl ?_,by simp⟩
   simp (disch:=omega) only[ir26,qc,qb,eq_self,reduceIte,bvQ,h1,h2]
  | true=>
   rw[hd] at h2;refine ⟨modelsS names f,qg (x:=ir26) rfl ?_,fun _=>rfl⟩
   simp (disch:=omega) only[ir26,qc,qb,eq_self,reduceIte,bvQ,h1,h2,h3]
def updA (names:List (List UInt8)) (K:BitVec 64) (f:F) (d:Int):BitVec 64:=if upE names f d=0 then unionS (2^names.length) K (modelsS names f) d else 0#64
theorem qbdb (names:List (List UInt8)) (hl:names.length<1000000000) (K:BitVec 64) (f:F) (hf:f.size<1000000000) (d:Int) :
 run tb 9 [strsD names,bvD K,.int .i64 f.op,.str f.name,.sl (F.encs f.args),.int .i64 d]=some [bvD (updA names K f d),.int .i64 (upE names f d)]:=by
 obtain ⟨S,h1,hS⟩:=qov names hl f hf d;refine qg (x:=ir9) rfl ?_;unfold updA
 by_cases c:upE names f d=0
 · obtain ⟨hv,hd⟩:=qyyb c;rw[hS c] at h1;have h2:=qrcb names hv K (modelsS names f) d hd;rw[if_pos c];simp (disch:=omega) only[ir9,qc,qb,eq_self,aBin,reduceIte,bvQ,h1,c,ibne,h2]
 · rw[if_neg c];simp (disch:=omega) only[ir9,qc,qb,eq_self,aBin,reduceIte,bvQ,h1,c,ibne]
end Go.Proofs.YtoalfckdmoahoaaGreatDoor

namespace Go.Proofs.YtoalfckdmoahoaaGreatDoor
open Go Am
set_option maxRecDepth 100000
theorem qsz (x:BitVec 64) (w:Nat) (h:w<9223372036854775808):run tb 82 [bvD x,.int .i64 w]=some [.bool (x.getLsbD w)]:=by
 refine qg (x:=ir82) rfl ?_;simp (disch:=omega) only[ir82,qc,qb,eq_self,bvQ,wu]
theorem qfpb (names:D) (o:List Int) (m l:BitVec 64) (k:Int) (hk:k=1∨k=2∨k=3) (w:Nat) (hw:w<o.length) (hr:0≤o[w]∧o[w]<o.length) (h64:o.length≤64) :
 run tb 74 [names,numsD o,.int .i64 w,bvD m,bvD l,.int .i64 k]=some [.int .i64 (nxtP k o.length m l o[w] w)]:=by
 refine qg (x:=ir74) rfl ?_;have h1:=qsz m w (by omega)
 have h2:=qsz l w (by omega)
 have hrow:=qpf hw;unfold nxtP;generalize o[w]=r at *
 cases hm:m.getLsbD w<;>rw[hm] at h1<;>cases hl:l.getLsbD w<;>rw[hl] at h2<;>rcases hk with rfl|rfl|rfl <;>
  simp (disch:=omega) only[ir74,ir74p1,ir74p0,qc,qb,eq_self,aBin,Int.reduceEq,hrow,qge,h1,h2,wr,if_true,if_false,true_and,and_true,false_and,not_true_eq_false,not_false_eq_true]
theorem qydb (names:List (List UInt8)) (o:List Int) (m:BitVec 64) (k:Int) (hk:k=1∨k=2∨k=3) (ho:orderE names o=0) :
 run tb 53 [strsD names,numsD o,bvD m,.int .i64 k]=some [strsD names,numsD (nextS names k o m),.int .i64 0]:=by
 refine qg (x:=ir53) rfl ?_;obtain ⟨hv,la,ra⟩:=qkc ho;have h64:=qyd ho;have hvl:names.length<1000000000:=by have:=qy hv;omega
 have hle:=qae names o hvl (by omega) m
 unfold nextS;generalize leastS names o m=l at *;have hmkN:=mkN (n:=o.length) (by omega)
 have hlx:(nxtPL k o m l).length=o.length:=by simp[nxtPL]
 rw[← hlx,qur,hlx] at hmkN;have hfl:∀ i,(fillR (nxtPL k o m l) i).length=o.length:=fun i=>by simp[fillR,hlx]
 have hl3:PO.eval .lenL [numsD (fillR (nxtPL k o m l) 0)]=some [.int .i64 o.length]:=by rw[qge,hfl]
 have hlo:PO.eval .lenL [numsD o]=some [.int .i64 o.length]:=qge o;simp (disch:=omega) only[ir53,qc,qb,hle,hlo,hmkN,hl3];refine qcb (σ:=Unit) o.length (fun _ _=>True) (fun i _=>[.int .i64 i,numsD (fillR (nxtPL k o m l) i)]) (fun _ _=>[strsD names,numsD (normS (nxtPL k o m l)),.int .i64 0]) ?_ ?_ 0 () (Nat.zero_le _) trivial
 · rintro i _ M hi _ hM;have hnext:=hM () trivial;rw[← qzs (by omega),qhpb hi,gd hi] at hnext
   have hr:=qyi (qsl ra) o[i] (List.getElem_mem _);have hrk:=qfpb (strsD names) o m l k hk i hi hr h64.1;have hc:=qhwb (l:=fillR (nxtPL k o m l) i) (i:=i) (by rw[hfl];exact hi)
   have hs:=qczb (l:=fillR (nxtPL k o m l) i) (i:=i) (by rw[hfl];exact hi) (nxtP k o.length m l o[i] i)
   simp (disch:=omega) only[ir53p0,qc,qb,eq_self,aBin,reduceIte,hi,hrk,hc,hs,wr,natS,hnext]
 · rintro _ M _;have hno:=qsg names (nxtPL k o m l) hvl (by omega)
   rw[if_pos (by simp[normE,hv,hlx,la])] at hno
   have he:fillR (nxtPL k o m l) o.length=nxtPL k o m l:=by rw[← hlx];exact qby _
   simp (disch:=omega) only[ir53p0,qc,qb,eq_self,aBin,reduceIte,Nat.lt_irrefl,he,hno]
theorem qna (k:Int):run tb 73 [.int .i64 k]=some [.bool (decide (1≤k∧k≤3))]:=by
 refine qg (x:=ir73) rfl ?_
 by_cases h1:k≥1
 · by_cases h2:k≤3
   · rw[decide_eq_true ⟨h1,h2⟩];simp (disch:=omega) only[ir73,qc,qb,eq_self,aBin,reduceIte,h1,h2]
   · rw[decide_eq_false (fun h=>h2 h.2)];simp (disch:=omega) only[ir73,qc,qb,eq_self,aBin,reduceIte,h1,h2]
 · rw[decide_eq_false (fun h=>h1 h.1)];simp (disch:=omega) only[ir73,qc,qb,eq_self,aBin,reduceIte,h1]
def ckE (names:List (List UInt8)) (ranks:List Int) (k:Int):Int:=if orderE names ranks≠0 then orderE names ranks else if ¬ (1≤k∧k≤3) then 4 else 0
theorem queb (names:List (List UInt8)) (ranks:List Int) (k:Int) (hn:names.length<1000000000) (hl:ranks.length<1000000000):run tb 52 [strsD names,numsD ranks,.int .i64 k]=some [.int .i64 (ckE names ranks k)]:=by
 refine qg (x:=ir52) rfl ?_;have h1:=qhf names ranks hn hl;have h2:=qna k;unfold ckE
 by_cases c1:orderE names ranks=0
 · rw[c1] at h1 ⊢;rw[if_neg (by simp)]
   by_cases c2:1≤k∧k≤3
   · rw[decide_eq_true c2] at h2;rw[if_neg (by simp[c2])]
     simp (disch:=omega) only[ir52,qc,qb,eq_self,aBin,reduceIte,h1,ibne,h2]
   · rw[decide_eq_false c2] at h2;rw[if_pos c2];simp (disch:=omega) only[ir52,qc,qb,eq_self,aBin,reduceIte,h1,ibne,h2]
 · rw[if_pos c1];simp (disch:=omega) only[ir52,qc,qb,eq_self,aBin,reduceIte,h1,ibne,c1]
theorem qfz {names:List (List UInt8)} {ranks:List Int} {f:F} {k:Int}:itE names ranks f k=if ckE names ranks k≠0 then ckE names ranks k else if modelsE names f≠0 then modelsE names f else if modelsS names f=0#64 then 9 else 0:=by
 unfold itE ckE
 by_cases c1:orderE names ranks=0
 · by_cases c2:1≤k∧k≤3<;>simp[c1,c2]
 · simp[c1]
theorem qhxb {names:List (List UInt8)} {ranks:List Int} {k:Int} (h:ckE names ranks k=0):orderE names ranks=0∧(k=1∨k=2∨k=3):=by
 unfold ckE at h
 by_cases c1:orderE names ranks=0
 · refine ⟨c1,?_⟩;rw[if_neg (by simp[c1])] at h
   by_cases c2:1≤k∧k≤3
   · omega
   · rw[if_pos c2] at h;omega
 · rw[if_pos c1] at h;exact absurd h c1
theorem qmjb (names:List (List UInt8)) (ranks:List Int) (f:F) (k:Int) (hn:names.length<1000000000) (hl:ranks.length<1000000000) (hf:f.size<1000000000) :
 run tb 32 [strsD names,numsD ranks,.int .i64 f.op,.str f.name,.sl (F.encs f.args),.int .i64 k]=some (if itE names ranks f k=0 then [strsD names,numsD (nextS names k ranks (modelsS names f)),.int .i64 0] else [.sl [],.sl [],.int .i64 (itE names ranks f k)]):=by
 refine qg (x:=ir32) rfl ?_;have h1:=queb names ranks k hn hl;have h2:=qhe names f hn hf;simp only[rowF] at h2
 by_cases c1:ckE names ranks k=0
 · rw[c1] at h1;obtain ⟨z1,z2⟩:=qhxb c1
   by_cases c2:modelsE names f=0
   · rw[c2] at h2
     by_cases c3:modelsS names f=0#64
     · have e:itE names ranks f k=9:=by rw[qfz];simp[c1,c2,c3]
       rw[c3] at h2;rw[e,if_neg (by decide)]
       simp (disch:=omega) only[ir32,qc,qb,eq_self,aBin,reduceIte,bvQ,h1,ibne,h2]
     · have e:itE names ranks f k=0:=by rw[qfz];simp[c1,c2,c3]
       rw[e,if_pos rfl];have h3:=qydb names ranks (modelsS names f) k z2 z1;simp (disch:=omega) only[ir32,qc,qb,eq_self,aBin,reduceIte,bvQ,h1,ibne,h2,c3,h3]
   · have e:itE names ranks f k=modelsE names f:=by rw[qfz];simp[c1,c2]
     rw[e,if_neg c2];simp (disch:=omega) only[ir32,qc,qb,eq_self,aBin,reduceIte,bvQ,h1,ibne,h2,c2]
 · have e:itE names ranks f k=ckE names ranks k:=by rw[qfz];simp[c1]
   rw[e,if_neg c1];simp (disch:=omega) only[ir32,qc,qb,eq_self,aBin,reduceIte,bvQ,h1,ibne,c1]
end Go.Proofs.YtoalfckdmoahoaaGreatDoor

namespace Go.Proofs.YtoalfckdmoahoaaGreatDoor
open Go Am
set_option maxRecDepth 100000
theorem qkob {n:Nat} (hn:n≤6) (X:BitVec 64):run tb 6 [.int .i64 n,bvD X]=some [.int .i64 (thy (vocN n) X).op,.str (thy (vocN n) X).name,.sl (F.encs (thy (vocN n) X).args),.bool true]:=by
 refine qg (x:=ir6) rfl ?_;have hv:=qzf hn;have hvo:=qku n (by omega)
 have h1:=qew (vocN n) (by rw[qw];omega) X
 unfold thyE at h1;rw[if_pos hv] at h1;simp only[rowF,List.cons_append,List.nil_append] at h1;simp (disch:=omega) only[ir6,qc,qb,eq_self,aBin,reduceIte,hvo,h1]
def notB:F:=F.mk 4 [] [F.mk 3 [98] []]
theorem qmw:run tb 14 []=some [.bool true]:=by
 refine qg (x:=ir14) rfl ?_;have hvo:=qku 2 (by omega)
 have hmk:PO.eval (.mk 1 4) [.int .i64 2,.int .i64 1,.int .i64 2,.int .i64 0]=some [numsD [2,1,2,0]]:=rfl;have hno:=qsg (vocN 2) [2,1,2,0] (by rw[qw];omega) (by simp)
 rw[if_pos (by decide +kernel),show normS [2,1,2,0]=[2,1,2,0] by decide +kernel] at hno
 have hrow:PO.eval (.row 1) [strsD (vocN 2),.int .i64 1]=some [.str [98]]:=rfl;have hmkF:PO.eval (.mk 3 1) [.int .i64 3,.str [98],.sl []]=some [.sl (F.encs [F.mk 3 [98] []])]:=rfl;have hrv:=qhn (vocN 2) [2,1,2,0] notB (by rw[qw];omega) (by simp) (by decide +kernel)
 have hnx:=qmjb (vocN 2) [2,1,2,0] notB 2 (by rw[qw];omega) (by simp) (by decide +kernel)
 rw[show chE (vocN 2) [2,1,2,0] notB=0 by decide +kernel,if_pos rfl,show leastS (vocN 2) [2,1,2,0] (modelsS (vocN 2) notB)=2#64 by decide +kernel] at hrv
 rw[show itE (vocN 2) [2,1,2,0] notB 2=0 by decide +kernel,if_pos rfl,show nextS (vocN 2) 2 [2,1,2,0] (modelsS (vocN 2) notB)=[1,0,3,2] by decide +kernel] at hnx
 have hrv:run tb 7 [strsD (vocN 2),numsD [2,1,2,0],.int .i64 4,.str [],.sl (F.encs [F.mk 3 [98] []])]=some [bvD 2#64,.int .i64 0]:=hrv;have hnx:run tb 32 [strsD (vocN 2),numsD [2,1,2,0],.int .i64 4,.str [],.sl (F.encs [F.mk 3 [98] []]),.int .i64 2]=some [strsD (vocN 2),numsD [1,0,3,2],.int .i64 0]:=hnx;have hmk2:PO.eval (.mk 1 4) [.int .i64 1,.int .i64 0,.int .i64 3,.int .i64 2]=some [numsD [1,0,3,2]]:=rfl;have hint:=qcpb [1,0,3,2] [1,0,3,2] (by decide)
 rw[decide_eq_true rfl] at hint;have e2:PO.eval (.bin .eql false) [bvD 2#64,.int .u64 2]=some [.bool true]:=rfl;have hvo:run tb 3 [.int .i64 2]=some [strsD (vocN 2)]:=hvo;simp (disch:=omega) only[ir14,qc,qb,eq_self,aBin,reduceIte,hvo,hmk,hno,hrow,hmkF,hrv,hnx,hmk2,hint,e2,qreb,qmp]
end Go.Proofs.YtoalfckdmoahoaaGreatDoor

namespace Go.Proofs.YtoalfckdmoahoaaGreatDoor
open Go Am
set_option maxRecDepth 100000
end Go.Proofs.YtoalfckdmoahoaaGreatDoor

namespace Go.Proofs.YtoalfckdmoahoaaGreatDoor
open Go Am
set_option maxRecDepth 100000
end Go.Proofs.YtoalfckdmoahoaaGreatDoor

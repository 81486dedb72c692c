/- What functions of the program compute: lemmas. -/
import Derived.Test.YtnfecjmddbehiaaGreatKw
import Derived.Test.YtnfecjmddbehiaaGreatAm5
import Derived.Test.YtnfecjmddbehiaaGreatAm6
set_option linter.unusedSimpArgs false
set_option linter.unusedVariables false
set_option linter.unusedSectionVars false
namespace Go.Proofs.YtnfecjmddbehiaaGreat
open Go Am
set_option maxRecDepth 100000
theorem qsy (l:List Bool) (b:Bool) (hl:l.length<1000000000):run tb 82 [boolsD l,.bool b]=some [.int .i64 (idxG b 0 l)]:=by
 refine qc (x:=ir82) rfl ?_;simp (disch:=omega) only[ir82,qa,qb,qsrb];refine qk (σ:=Unit) l.length (fun _ _=>True) (fun i _=>[.int .i64 i]) (fun i _=>[.int .i64 (idxG b i (l.drop i))]) ?_ ?_ 0 () (Nat.zero_le _) trivial
 · rintro i _ L hi _ hL;have hnext:=hL () trivial;rw[qafb b hi]
   by_cases h:b=l[i]
   · have hb:(b == l[i])=true:=by simp[h]
     rw[if_pos h];simp (disch:=omega) only[ir82p0,qa,qb,eq_self,aBin,reduceIte,qncb,hi,qhxb,hb]
   · have hb:(b == l[i])=false:=by simpa using h
     rw[if_neg h];simp (disch:=omega) only[ir82p0,qa,qb,eq_self,aBin,reduceIte,qncb,hi,qhxb,hb,wr,natS,hnext]
 · rintro _ L _;rw[qblb];simp (disch:=omega) only[ir82p0,qa,qb,eq_self,aBin,reduceIte,Nat.lt_irrefl]
theorem qdn (l:List Bool) (b:Bool) (hl:l.length<1000000000):run tb 79 [boolsD l,.bool b]=some [.bool (decide (b∈l))]:=by
 refine qc (x:=ir79) rfl ?_;have h:=qsy l b hl;have h2:=qqib b l 0;simp (disch:=omega) only[ir79,qa,qb,eq_self,aBin,reduceIte,h,h2]
theorem qxob (l:List Int) (x:Int) (hl:l.length<1000000000):run tb 42 [numsD l,.int .i64 x]=some [.bool (decide (x∈l))]:=by
 refine qc (x:=ir42) rfl ?_;have h0:decide (x∈l)=decide (x∈l.drop 0):=by simp
 rw[h0];simp (disch:=omega) only[ir42,qa,qb,qu];refine qk (σ:=Unit) l.length (fun _ _=>True) (fun i _=>[.int .i64 i]) (fun i _=>[.bool (decide (x∈l.drop i))]) ?_ ?_ 0 () (Nat.zero_le _) trivial
 · rintro i _ L hi _ hL;have hnext:=hL () trivial;rw[qem hi]
   by_cases h:l[i]=x
   · have hd:decide (x∈l[i]::l.drop (i+1))=true:=by simp[h]
     rw[hd];simp (disch:=omega) only[ir42p0,qa,qb,eq_self,aBin,reduceIte,hi,qtb,h]
   · have hd : decide (x ∈ l[i] :: l.drop (i + 1)) = decide (x ∈ l.drop (i + 1)) := by
      congr 1;simp only[List.mem_cons,eq_iff_iff];exact ⟨fun h1=>h1.resolve_left fun e=>h e.symm,.inr⟩
     rw[hd];simp (disch:=omega) only[ir42p0,qa,qb,eq_self,aBin,reduceIte,hi,qtb,h,wr,natS,hnext]
 · rintro _ L _;rw[List.drop_length];simp (disch:=omega) only[ir42p0,qa,qb,eq_self,aBin,reduceIte,Nat.lt_irrefl];simp
def seenL (ranks:List Int) (i:Nat):List Bool:=(List.range ranks.length).map fun (k:Nat)=>decide ((k:Int)∈ranks.take i)
theorem qldb (ranks:List Int):List.replicate ranks.length false=seenL ranks 0:=by
 unfold seenL;refine List.ext_getElem (by simp) fun i h1 h2=>?_
 simp
theorem qudb {ranks:List Int} {i r:Nat} (hi:i<ranks.length) (hr:ranks[i]=(r:Int)) (hr2:r<ranks.length):(seenL ranks i).set r true=seenL ranks (i+1):=by
 unfold seenL;refine List.ext_getElem (by simp) fun k h1 h2=>?_
 rw[List.getElem_set];simp only[List.getElem_map,List.getElem_range,List.take_add_one,List.getElem?_eq_getElem hi,Option.toList_some,List.mem_append,List.mem_singleton,hr]
 by_cases h:r=k
 · subst h;simp
 · have:¬ ((k:Int)=(r:Int)):=by omega
   simp[h,this]
theorem qmg (names:List (List UInt8)) (ranks:List Int) (hn:names.length<1000000000) (hl:ranks.length<1000000000):run tb 67 [strsD names,numsD ranks]=some [.int .i64 (orderE names ranks)]:=by
 refine qc (x:=ir67) rfl ?_;have hv:=qpk names hn
 have key:vocOk names=true→ranks.length=2^names.length→∀ b:Bool,b=false→den (run tb) ir67p2 [strsD names,numsD ranks,.bool b] []=some [.int .i64 (orderE names ranks)]:=by
  rintro h1 h2 _ rfl;unfold orderE;rw[if_pos ⟨h1,h2⟩];have hmk:=mkB hl;simp (disch:=omega) only[ir67p2,qa,qb,qu,hmk,qldb];refine qk (σ:=Unit) ranks.length (fun i _=>rkIn ranks.length (ranks.take i)=true) (fun i _=>[.int .i64 (maxR (ranks.take i)),.int .i64 i,boolsD (seenL ranks i)]) (fun _ _=>[.int .i64 (if rkOk ranks=true then 0 else 8)]) ?_ ?_ 0 () (Nat.zero_le _) rfl
  · rintro i _ L hi hin hL;have htk:ranks.take (i+1)=ranks.take i++[ranks[i]]:=by rw[List.take_add_one,List.getElem?_eq_getElem hi];rfl
    have hmx:maxR (ranks.take (i+1))=(if ranks[i]>maxR (ranks.take i) then ranks[i] else maxR (ranks.take i)):=by rw[htk];exact qyj _ _ _
    have hbad:¬ (0≤ranks[i]∧ranks[i]<ranks.length)→rkOk ranks=false:=fun h=>by
     cases hk:rkOk ranks with
     | false=>rfl
     | true=>exact absurd (qgf (qzf hk) _ (List.getElem_mem hi)) h
    have hlb:(seenL ranks i).length=ranks.length:=by simp[seenL]
    by_cases a1:ranks[i]<0
    · rw[hbad (by omega)]
      simp (disch:=omega) only[ir67p1,ir67p0,qa,qb,eq_self,aBin,reduceIte,hi,qtb,a1,if_false]
    by_cases a2:ranks[i]≥(ranks.length:Int)
    · rw[hbad (by omega)]
      simp (disch:=omega) only[ir67p1,ir67p0,qa,qb,eq_self,aBin,reduceIte,hi,qtb,a1,a2,qsrb,hlb,if_false]
    · obtain ⟨r,hr⟩:=Int.eq_ofNat_of_zero_le (show 0≤ranks[i] by omega)
      have hr2:r<ranks.length:=by omega
      have hnext:=hL () (by rw[htk];simp only[rkIn,List.all_append,Bool.and_eq_true,List.all_cons,List.all_nil,Bool.and_true,decide_eq_true_eq];exact ⟨hin,by omega,by omega⟩)
      rw[hmx,← qudb hi hr hr2,hr] at hnext;rw[hr] at a1 a2;have hc:=qkzb (l:=seenL ranks i) (i:=r) (by omega)
      have hs:=qqyb (l:=seenL ranks i) (i:=r) (by omega) true
      simp (disch:=omega) only[ir67p1,ir67p0,qa,qb,eq_self,aBin,reduceIte,hi,qtb,hr,a1,a2,qsrb,hlb,hc,hs,wr,natS,hnext]
  · rintro _ L hin;rw[List.take_length] at hin ⊢;have h0:=quh ranks;have hlt:=qck hin (by rw[h2];exact Nat.pow_pos (by omega))
    obtain ⟨m,hm⟩:=Int.eq_ofNat_of_zero_le h0;have hsub:=qowb (l:=seenL ranks ranks.length) (b:=m) (by simp[seenL];omega)
    have hc:=qdn ((seenL ranks ranks.length).take m) false (by simp[seenL];omega)
    have hok:decide (false∈(seenL ranks ranks.length).take m) = !rkOk ranks:=by
     have he:rkOk ranks=(List.range m).all fun (k:Nat)=>decide ((k:Int)∈ranks):=by simp only[rkOk,hin,Bool.true_and,hm,Int.toNat_natCast]
     rw[he]
     have ht:(seenL ranks ranks.length).take m=(List.range m).map fun (k:Nat)=>decide ((k:Int)∈ranks):=by
      unfold seenL;rw[List.take_length,← List.map_take,List.take_range,Nat.min_eq_left (by omega)]
     rw[ht];cases ha:(List.range m).all fun (k:Nat)=>decide ((k:Int)∈ranks) with
     | true=>
      simp only[Bool.not_true,decide_eq_false_iff_not,List.mem_map,not_exists,not_and];intro k hk;exact fun h=>h (by simpa using List.all_eq_true.1 ha k hk)
     | false=>
      simp only[Bool.not_false,decide_eq_true_eq,List.mem_map];obtain ⟨k,hk1,hk2⟩:=List.all_eq_false.1 ha;exact ⟨k,hk1,by simpa using hk2⟩
    rw[hok] at hc;rw[hm] at *;simp only[] at *;cases hk:rkOk ranks with
    | true=>
     rw[hk] at hc;simp (disch:=omega) only[ir67p1,qa,qb,eq_self,aBin,reduceIte,Nat.lt_irrefl,hsub,hc]
    | false=>
     rw[hk] at hc;simp (disch:=omega) only[ir67p1,qa,qb,eq_self,aBin,reduceIte,Nat.lt_irrefl,hsub,hc,if_false]
 have bad:orderE names ranks=1→∀ b:Bool,b=true→den (run tb) ir67p2 [strsD names,numsD ranks,.bool b] []=some [.int .i64 (orderE names ranks)]:=by
  rintro h _ rfl;rw[h];simp (disch:=omega) only[ir67p2,qa,qb,eq_self]
 cases h1:vocOk names with
 | false=>
  rw[h1] at hv;have:=bad (by simp[orderE,h1]) true rfl
  simp (disch:=omega) only[ir67,qa,qb,eq_self,hv,this]
 | true=>
  rw[h1] at hv;have h6:=qrd h1
  by_cases h2:ranks.length=2^names.length
  · have:=key h1 h2 false rfl;simp (disch:=omega) only[ir67,qa,qb,eq_self,aBin,reduceIte,bvQ,qjd,hv,qu,qpb,ibne,h2,this]
  · have:=bad (by simp[orderE,h2]) true rfl
    simp (disch:=omega) only[ir67,qa,qb,eq_self,aBin,reduceIte,bvQ,qjd,hv,qu,qpb,ibne,h2,this]
theorem qsf (names:List (List UInt8)) (ranks:List Int) (hn:names.length<1000000000) (hs:∀ s∈names,s.length<9223372036854775808) (hl:ranks.length<1000000000):run tb 23 [strsD names,numsD ranks]=some [.int .i64 (orderE names ranks)]:=by
 refine qc (x:=ir23) rfl ?_;have hv:=qlf names hn hs
 have key:vocOk names=true→ranks.length=2^names.length→∀ b:Bool,b=false→den (run tb) ir23p3 [strsD names,numsD ranks,.bool b] []=some [.int .i64 (orderE names ranks)]:=by
  rintro h1 h2 _ rfl;unfold orderE;rw[if_pos ⟨h1,h2⟩];simp (disch:=omega) only[ir23p3,qa,qb];refine qk (σ:=Unit) ranks.length (fun i _=>rkIn ranks.length (ranks.take i)=true) (fun i _=>[.int .i64 (maxR (ranks.take i)),.int .i64 i]) (fun _ _=>[.int .i64 (if rkOk ranks=true then 0 else 8)]) ?_ ?_ 0 () (Nat.zero_le _) rfl
  · rintro i _ L hi hin hL;have htk:ranks.take (i+1)=ranks.take i++[ranks[i]]:=by rw[List.take_add_one,List.getElem?_eq_getElem hi];rfl
    have hmx:maxR (ranks.take (i+1))=(if ranks[i]>maxR (ranks.take i) then ranks[i] else maxR (ranks.take i)):=by rw[htk];exact qyj _ _ _
    have hbad:¬ (0≤ranks[i]∧ranks[i]<ranks.length)→rkOk ranks=false:=fun h=>by
     cases hk:rkOk ranks with
     | false=>rfl
     | true=>exact absurd (qgf (qzf hk) _ (List.getElem_mem hi)) h
    by_cases a1:ranks[i]<0
    · rw[hbad (by omega)]
      simp (disch:=omega) only[ir23p2,ir23p0,qa,qb,eq_self,aBin,reduceIte,hi,qu,qtb,a1,if_false]
    by_cases a2:ranks[i]≥(ranks.length:Int)
    · rw[hbad (by omega)]
      simp (disch:=omega) only[ir23p2,ir23p0,qa,qb,eq_self,aBin,reduceIte,hi,qu,qtb,a1,a2,if_false]
    · have hnext:=hL () (by rw[htk];simp only[rkIn,List.all_append,Bool.and_eq_true,List.all_cons,List.all_nil,Bool.and_true,decide_eq_true_eq];exact ⟨hin,by omega,by omega⟩)
      rw[hmx] at hnext;simp (disch:=omega) only[ir23p2,ir23p0,qa,qb,eq_self,aBin,reduceIte,hi,qu,qtb,a1,a2,wr,natS,hnext]
  · rintro _ L hin;rw[List.take_length] at hin ⊢;have h0:=quh ranks;have hlt:=qck hin (by rw[h2];exact Nat.pow_pos (by omega))
    obtain ⟨m,hm⟩:=Int.eq_ofNat_of_zero_le h0;have hml:m<ranks.length:=by rw[hm] at hlt;exact Int.ofNat_lt.1 hlt
    have he:rkOk ranks=(List.range m).all fun (k:Nat)=>decide ((k:Int)∈ranks):=by simp only[rkOk,hin,Bool.true_and,hm,Int.toNat_natCast]
    have hr:(List.range m).all (fun (k:Nat)=>decide ((k:Int)∈ranks))=(List.range' 0 m).all (fun (k:Nat)=>decide ((k:Int)∈ranks)):=by rw[List.range_eq_range']
    rw[he,hr];rw[hm] at *;simp (disch:=omega) only[ir23p2,qa,qb,eq_self,aBin,reduceIte,qu,Nat.lt_irrefl];refine qk (σ:=Unit) m (fun _ _=>True) (fun i _=>[.int .i64 i]) (fun i _=>[.int .i64 (if ((List.range' i (m-i)).all fun (k:Nat)=>decide ((k:Int)∈ranks))=true then 0 else 8)]) ?_ ?_ 0 () (Nat.zero_le _) trivial
    · rintro i _ L hi _ hL;have hnext:=hL () trivial;have hin:=qxob ranks i hl;rw[show m-i=(m-(i+1))+1 by omega,List.range'_succ,List.all_cons]
      cases hd:decide ((i:Int)∈ranks) with
      | true=>
       rw[hd] at hin;rw[Bool.true_and];simp (disch:=omega) only[ir23p1,qa,qb,eq_self,aBin,reduceIte,hi,hin,wr,natS,hnext]
      | false=>
       rw[hd] at hin;rw[Bool.false_and];simp (disch:=omega) only[ir23p1,qa,qb,eq_self,aBin,reduceIte,hi,hin,if_false]
    · rintro _ L _;rw[Nat.sub_self];simp (disch:=omega) only[ir23p1,qa,qb,eq_self,aBin,reduceIte,Nat.lt_irrefl,List.range'_zero,List.all_nil]
 have bad:orderE names ranks=1→∀ b:Bool,b=true→den (run tb) ir23p3 [strsD names,numsD ranks,.bool b] []=some [.int .i64 (orderE names ranks)]:=by
  rintro h _ rfl;rw[h];simp (disch:=omega) only[ir23p3,qa,qb,eq_self]
 cases h1:vocOk names with
 | false=>
  rw[h1] at hv;have:=bad (by simp[orderE,h1]) true rfl
  simp (disch:=omega) only[ir23,qa,qb,eq_self,hv,this]
 | true=>
  rw[h1] at hv;have h6:=qrd h1
  by_cases h2:ranks.length=2^names.length
  · have:=key h1 h2 false rfl;simp (disch:=omega) only[ir23,qa,qb,eq_self,aBin,reduceIte,bvQ,wu,qjd,hv,qu,qpb,ibne,h2,this]
  · have:=bad (by simp[orderE,h2]) true rfl
    simp (disch:=omega) only[ir23,qa,qb,eq_self,aBin,reduceIte,bvQ,wu,qjd,hv,qu,qpb,ibne,h2,this]
theorem qcv {ranks:List Int} {i r m:Nat} (hi:i<ranks.length) (hr:ranks[i]=(r:Int)) (hm:r<m) (hn:ranks.length≤64) :
 ((List.range m).map fun k=>levS ranks k i).set r (levS ranks r i|||1#64 <<< i)=(List.range m).map fun k=>levS ranks k (i+1):=by
 refine List.ext_getElem (by simp) fun k h1 h2=>?_
 rw[List.getElem_set];simp only[List.getElem_map,List.getElem_range];have hg:ranks.getD i (-1)=(r:Int):=by simp[hi,hr]
 split
 · rename_i h;subst h;exact qyu (by simpa using hg)
 · rename_i h;refine qos ?_;rw[hg];simp;omega
theorem qou (names:List (List UInt8)) (ranks:List Int) (hn:names.length<1000000000) (hl:ranks.length<1000000000):run tb 80 [strsD names,numsD ranks]=some [bvsD (levelsO names ranks)]:=by
 refine qc (x:=ir80) rfl ?_;have hv:=qmg names ranks hn hl;unfold levelsO
 by_cases h:orderE names ranks=0
 · rw[if_pos h];have hz:=qy h;have hlen:=quc h;have hin:=qzf hz.2.2;have hmem:=qgf hin;have hlt:=qck hin hlen.2;obtain ⟨m,hm⟩:=Int.eq_ofNat_of_zero_le (quh ranks)
   have hmax:run tb 83 [numsD ranks]=some [.int .i64 m]:=by
    refine qc (x:=ir83) rfl ?_;have h1:¬ ((ranks.length:Nat):Int)<1:=by omega
    have hrow:=qtb (l:=ranks) (i:=0) hlen.2;rw[nat0] at hrow;simp (disch:=omega) only[ir83,qa,qb,eq_self,aBin,reduceIte,qu,h1,hrow]
    have h0:maxF ranks[0] (ranks.drop 1)=(m:Int):=by
     have:maxR ranks=maxF (max1 0 ranks[0]) (ranks.drop 1):=by
      cases ranks with
      | nil=>simp at hlen
      | cons a l=>rfl
     rw[← hm,this];have:max1 0 ranks[0]=ranks[0]:=by have:=(hmem _ (List.getElem_mem hlen.2)).1;unfold max1;split<;>omega
     rw[this]
    have hone:(1:Int)=((1:Nat):Int):=rfl;rw[hone];refine qk (σ:=Int) ranks.length (fun i x=>maxF x (ranks.drop i)=(m:Int)) (fun i x=>[.int .i64 x,.int .i64 i]) (fun _ _=>[.int .i64 m]) ?_ ?_ 1 ranks[0] hlen.2 h0
    · rintro i x L hi hx hL;rw[qem hi] at hx;have hnext:=hL (max1 x ranks[i]) hx;unfold max1 at hnext;simp (disch:=omega) only[ir83p0,qa,qb,eq_self,aBin,reduceIte,qu,hi,qtb,wr,natS,hnext]
    · rintro x L hx;rw[List.drop_length] at hx;have:x=(m:Int):=hx;subst this;simp (disch:=omega) only[ir83p0,qa,qb,eq_self,aBin,reduceIte,qu,Nat.lt_irrefl]
   have hmk:=mkV (n:=m+1) (by rw[hm] at hlt;omega)
   have hls:levelsS ranks=(List.range (m+1)).map fun k=>levS ranks k ranks.length:=by unfold levelsS;rw[hm];rfl
   rw[hls];rw[h] at hv
   have h0:List.replicate (m+1) 0#64=(List.range (m+1)).map fun k=>levS ranks k 0:=by
    refine List.ext_getElem (by simp) fun i h1 h2=>?_
    simp[levS,bitsTo]
   rw[h0] at hmk;simp (disch:=omega) only[ir80,qa,qb,eq_self,aBin,reduceIte,bvQ,hv,hmax,qu,wr,natS,hmk,ibne];refine qk (σ:=Unit) ranks.length (fun _ _=>True) (fun i _=>[.int .i64 i,bvsD ((List.range (m+1)).map fun k=>levS ranks k i)]) (fun _ _=>[bvsD ((List.range (m+1)).map fun k=>levS ranks k ranks.length)]) ?_ ?_ 0 () (Nat.zero_le _) trivial
   · rintro i _ L hi _ hL;have hnext:=hL () trivial;have hri:=hmem _ (List.getElem_mem hi);have hrm:=qzi ranks 0 _ (List.getElem_mem hi);obtain ⟨r,hr⟩:=Int.eq_ofNat_of_zero_le hri.1
     have hr2:r<m+1:=by
      have:ranks[i]≤maxR ranks:=hrm;rw[hm,hr] at this;have:=Int.ofNat_le.1 this;omega
     rw[← qcv hi hr hr2 hlen.1] at hnext;have hc:=qeyb (l:=(List.range (m+1)).map fun k=>levS ranks k i) (i:=r) (by simpa using hr2)
     have hg:=qzzb (l:=(List.range (m+1)).map fun k=>levS ranks k i) (i:=r) (by simpa using hr2)
     have hs:=qozb (l:=(List.range (m+1)).map fun k=>levS ranks k i) (i:=r) (by simpa using hr2) (levS ranks r i|||1#64 <<< i)
     simp only[List.getElem_map,List.getElem_range] at hg;simp (disch:=omega) only[ir80p0,qa,qb,eq_self,aBin,reduceIte,bvQ,wu,hi,qtb,hr,hc,hg,hs,wr,natS,hnext]
   · rintro _ L _;simp (disch:=omega) only[ir80p0,qa,qb,eq_self,aBin,reduceIte,Nat.lt_irrefl]
 · rw[if_neg h];simp (disch:=omega) only[ir80,qa,qb,eq_self,aBin,reduceIte,hv,ibne,h,qaub]
theorem qvl (names:List (List UInt8)) (ranks:List Int) (hn:names.length<1000000000) (hl:ranks.length<1000000000) (S:BitVec 64):run tb 70 [strsD names,numsD ranks,bvD S]=some [bvD (leastS names ranks S)]:=by
 refine qc (x:=ir70) rfl ?_;have hv:=qou names ranks hn hl
 have hlen:(levelsO names ranks).length<1000000000:=by
  unfold levelsO
  split
  · rename_i h;have hlt:=qck (qzf (qy h).2.2) (quc h).2;have:=quh ranks;simp[levelsS];omega
  · simp
 unfold leastS;generalize levelsO names ranks=ls at *;simp (disch:=omega) only[ir70,qa,qb,hv,qiyb];refine qk (σ:=Unit) ls.length (fun _ _=>True) (fun i _=>[.int .i64 i]) (fun i _=>[bvD (leastL S (ls.drop i))]) ?_ ?_ 0 () (Nat.zero_le _) trivial
 · rintro i _ L hi _ hL;have hnext:=hL () trivial;rw[qoj S hi]
   by_cases h:ls[i]&&&S=0#64
   · rw[if_pos h];simp (disch:=omega) only[ir70p0,qa,qb,eq_self,aBin,reduceIte,bvQ,hi,qhwb,h,wr,natS,hnext]
   · rw[if_neg h];simp (disch:=omega) only[ir70p0,qa,qb,eq_self,aBin,reduceIte,bvQ,hi,qhwb,h]
 · rintro _ L _;rw[List.drop_length];simp (disch:=omega) only[ir70p0,qa,qb,eq_self,aBin,reduceIte,bvQ,Nat.lt_irrefl,leastL]
end Go.Proofs.YtnfecjmddbehiaaGreat

namespace Go.Proofs.YtnfecjmddbehiaaGreat
open Go Am
set_option maxRecDepth 100000
theorem qwkb (names:D) (ranks:List Int) (hl:ranks.length<1000000000):run tb 44 [names,numsD ranks]=some [.int .i64 (maxR ranks)]:=by
 refine qc (x:=ir44) rfl ?_;simp (disch:=omega) only[ir44,qa,qb];refine qk (σ:=Unit) ranks.length (fun _ _=>True) (fun i _=>[.int .i64 (maxR (ranks.take i)),.int .i64 i]) (fun _ _=>[.int .i64 (maxR ranks)]) ?_ ?_ 0 () (Nat.zero_le _) trivial
 · rintro i _ L hi _ hL;have hnext:=hL () trivial;have htk:ranks.take (i+1)=ranks.take i++[ranks[i]]:=by rw[List.take_add_one,List.getElem?_eq_getElem hi];rfl
   have hmx:maxR (ranks.take (i+1))=(if ranks[i]>maxR (ranks.take i) then ranks[i] else maxR (ranks.take i)):=by rw[htk];exact qyj _ _ _
   rw[hmx] at hnext;simp (disch:=omega) only[ir44p0,qa,qb,eq_self,aBin,reduceIte,qu,hi,qtb,wr,natS,hnext]
 · rintro _ L _;rw[List.take_length];simp (disch:=omega) only[ir44p0,qa,qb,eq_self,aBin,reduceIte,qu,Nat.lt_irrefl]
def whereS (ranks:List Int) (lo hi:Int) (n:Nat):BitVec 64:=bitsTo (fun w=>decide (ranks.getD w (-1)≥lo)&&decide (ranks.getD w (-1)≤hi)) n
theorem qlfb (names:D) (ranks:List Int) (hl:ranks.length<1000000000) (lo hi:Int):run tb 45 [names,numsD ranks,.int .i64 lo,.int .i64 hi]=some [bvD (whereS ranks lo hi ranks.length)]:=by
 refine qc (x:=ir45) rfl ?_;simp (disch:=omega) only[ir45,qa,qb,bvQ];refine qk (σ:=Unit) ranks.length (fun _ _=>True) (fun i _=>[bvD (whereS ranks lo hi i),.int .i64 i]) (fun _ _=>[bvD (whereS ranks lo hi ranks.length)]) ?_ ?_ 0 () (Nat.zero_le _) trivial
 · rintro i _ L hi' _ hL;have hnext:=hL () trivial;have hg:ranks.getD i (-1)=ranks[i]:=by simp[hi']
   by_cases a1:ranks[i]≥lo
   · by_cases a2:ranks[i]≤hi
     · have hs:whereS ranks lo hi (i+1)=whereS ranks lo hi i|||1#64 <<< i:=(qyu (by rw[hg];simp[a1,a2])).symm
       rw[hs] at hnext;simp (disch:=omega) only[ir45p2,ir45p1,ir45p0,qa,qb,eq_self,aBin,reduceIte,bvQ,wu,qu,hi',qtb,a1,a2,wr,natS,hnext]
     · have hs:whereS ranks lo hi (i+1)=whereS ranks lo hi i:=(qos (by rw[hg];simp[a2])).symm
       rw[hs] at hnext;simp (disch:=omega) only[ir45p2,ir45p1,ir45p0,qa,qb,eq_self,aBin,reduceIte,bvQ,qu,hi',qtb,a1,a2,wr,natS,hnext]
   · have hs:whereS ranks lo hi (i+1)=whereS ranks lo hi i:=(qos (by rw[hg];simp[a1])).symm
     rw[hs] at hnext;simp (disch:=omega) only[ir45p2,ir45p1,ir45p0,qa,qb,eq_self,aBin,reduceIte,bvQ,qu,hi',qtb,a1,wr,natS,hnext]
 · rintro _ L _;simp (disch:=omega) only[ir45p2,qa,qb,eq_self,aBin,reduceIte,qu,Nat.lt_irrefl]
theorem qdeb (ranks:List Int) (k n:Nat) (hn:n≤64):whereS ranks k k n=levS ranks k n:=qky hn fun w _=>by
 by_cases h:ranks.getD w (-1)=(k:Int)
 · rw[h];simp
 · simp only[h,decide_false,Bool.and_eq_false_iff,decide_eq_false_iff_not];omega
theorem qqm (names:List (List UInt8)) (ranks:List Int) (hn:names.length<1000000000) (hs:∀ s∈names,s.length<9223372036854775808) (hl:ranks.length<1000000000) (S:BitVec 64):run tb 26 [strsD names,numsD ranks,bvD S]=some [bvD (leastS names ranks S)]:=by
 refine qc (x:=ir26) rfl ?_;have hv:=qsf names ranks hn hs hl;have hmo:=qwkb (strsD names) ranks hl;unfold leastS levelsO
 by_cases h:orderE names ranks=0
 · rw[if_pos h];have hlen:=quc h;have hlt:=qck (qzf (qy h).2.2) hlen.2;obtain ⟨m,hm⟩:=Int.eq_ofNat_of_zero_le (quh ranks);have hml:m<ranks.length:=by rw[hm] at hlt;exact Int.ofNat_lt.1 hlt
   rw[h] at hv;rw[hm] at hmo;have hls:levelsS ranks=(List.range (m+1)).map fun k=>levS ranks k ranks.length:=by unfold levelsS;rw[hm];rfl
   rw[hls];have hll:((List.range (m+1)).map fun k=>levS ranks k ranks.length).length=m+1:=by simp
   have hlg:∀ i (hi:i<((List.range (m+1)).map fun k=>levS ranks k ranks.length).length),((List.range (m+1)).map fun k=>levS ranks k ranks.length)[i]=whereS ranks i i ranks.length:=fun i hi=>by
    rw[qdeb _ _ _ hlen.1];simp
   generalize ((List.range (m+1)).map fun k=>levS ranks k ranks.length)=ls at *
   simp (disch:=omega) only[ir26,qa,qb,eq_self,aBin,reduceIte,hv,ibne];refine qk (σ:=Unit) ls.length (fun _ _=>True) (fun i _=>[.int .i64 i]) (fun i _=>[bvD (leastL S (ls.drop i))]) ?_ ?_ 0 () (Nat.zero_le _) trivial
   · rintro i _ L hi _ hL;have hnext:=hL () trivial;have hle:i≤m:=by omega
     have hw:=qlfb (strsD names) ranks hl i i;rw[qoj S hi,hlg i hi]
     by_cases h:whereS ranks i i ranks.length&&&S=0#64
     · rw[if_pos h];simp (disch:=omega) only[ir26p0,qa,qb,eq_self,aBin,reduceIte,bvQ,hmo,hle,hw,h,wr,natS,hnext]
     · rw[if_neg h];simp (disch:=omega) only[ir26p0,qa,qb,eq_self,aBin,reduceIte,bvQ,hmo,hle,hw,h]
   · rintro _ L _;have hle:¬ ls.length≤m:=by omega
     rw[List.drop_length];simp (disch:=omega) only[ir26p0,qa,qb,eq_self,aBin,reduceIte,bvQ,hmo,hle,leastL]
 · rw[if_neg h];simp (disch:=omega) only[ir26,qa,qb,eq_self,aBin,reduceIte,bvQ,hv,ibne,h,leastL]
theorem qqr (names:List (List UInt8)) (ranks:List Int) (hn:names.length<1000000000) (hs:∀ s∈names,s.length<9223372036854775808) (hl:ranks.length<1000000000):run tb 25 [strsD names,numsD ranks]=some [bvD (beliefsS names ranks)]:=by
 refine qc (x:=ir25) rfl ?_;have h:=qqm names ranks hn hs hl (allS names);have h2:=qcnb names hn hs;rw[qwu] at h;simp (disch:=omega) only[ir25,qa,qb,eq_self,h2,h]
theorem qtfb (n:Nat) (hn:n≤26):run tb 13 [.int .i64 n]=some [strsD (vocN n)]:=by
 refine qc (x:=ir13) rfl ?_;simp (disch:=omega) only[ir13,qa,qb,qgw];refine qk (σ:=Unit) n (fun _ _=>True) (fun i _=>[.int .i64 i,strsD (vocN i)]) (fun _ _=>[strsD (vocN n)]) ?_ ?_ 0 () (Nat.zero_le _) trivial
 · rintro i _ L hi _ hL;have hnext:=hL () trivial;rw[qwgb] at hnext;have hlen:=qlb i;simp (disch:=omega) only[ir13p0,qa,qb,eq_self,aBin,reduceIte,hi,wr,w8,qztb,qxzb,natS,hnext]
 · rintro _ L _;simp (disch:=omega) only[ir13p0,qa,qb,eq_self,aBin,reduceIte,Nat.lt_irrefl]
theorem qgp (lo hi:Int) (l:List Int) (p:Nat) (hl:l.length≤2000) (hp:p≤l.length) (h1:-1000000≤lo) (h2:lo≤hi) (h3:hi<1000000) :
 ∃ (r:Int) (b:Nat),lo≤r∧r≤hi∧b≤l.length∧run tb 4 [.int .i64 lo,.int .i64 hi,numsD l,.int .i64 p]=some [.int .i64 r,numsD l,.int .i64 b]:=by
 obtain ⟨r,b,r0,r1,hb,hr⟩:=qpwb (hi-lo+1) l p hl hp (by omega) (by omega)
 refine ⟨lo+r,b,by omega,by omega,hb,qc (x:=ir4) rfl ?_⟩
 simp (disch:=omega) only[ir4,qa,qb,eq_self,aBin,reduceIte,wr,hr]
end Go.Proofs.YtnfecjmddbehiaaGreat

namespace Go.Proofs.YtnfecjmddbehiaaGreat
open Go Am
set_option maxRecDepth 100000
theorem qyo (r:Int):∀ (l acc:List Int),(l.foldl (belowF r) acc).length≤acc.length+l.length
 | [],acc=>by simp
 | x::l,acc=>by
  have:=qyo r l (belowF r acc x);have h2:(belowF r acc x).length≤acc.length+1:=by unfold belowF;split<;>simp
  simp only[List.foldl_cons,List.length_cons];omega
def stg (l:List Int) (i:Nat):List Int:=(List.range l.length).map fun (k:Nat)=>if k<i then ((belowL (l.getD k 0) l).length:Int) else 0
theorem qxkb (l:List Int):List.replicate l.length 0=stg l 0:=by
 unfold stg;refine List.ext_getElem (by simp) fun i h1 h2=>?_
 simp
theorem qfmb {l:List Int} {i:Nat} (hi:i<l.length):(stg l i).set i ((belowL l[i] l).length:Int)=stg l (i+1):=by
 unfold stg;refine List.ext_getElem (by simp) fun k h1 h2=>?_
 rw[List.getElem_set];simp only[List.getElem_map,List.getElem_range]
 by_cases h:i=k
 · subst h;simp[hi]
 · have:(k<i+1)=(k<i):=propext ⟨fun h=>by omega,fun h=>by omega⟩
   simp[h,this]
theorem qsub (l:List Int):stg l l.length=normS l:=by
 unfold stg normS;refine List.ext_getElem (by simp) fun k h1 h2=>?_
 have hk:k<l.length:=by simpa using h2
 simp[hk]
def normE (names:List (List UInt8)) (l:List Int):Bool:=vocOk names&&decide (l.length=2^names.length)
theorem qtj (names:List (List UInt8)) (l:List Int) (hn:names.length<1000000000) (hs:∀ s∈names,s.length<9223372036854775808) (hl:l.length<1000000000) :
 run tb 41 [strsD names,numsD l]=some (if normE names l=true then [strsD names,numsD (normS l),.int .i64 0] else [.sl [],.sl [],.int .i64 1]):=by
 refine qc (x:=ir41) rfl ?_;have hv:=qlf names hn hs
 have key:normE names l=true→den (run tb) ir41p4 [strsD names,numsD l,.bool false] []=some (if normE names l=true then [strsD names,numsD (normS l),.int .i64 0] else [.sl [],.sl [],.int .i64 1]):=by
  intro h;rw[if_pos h];have hmk:=mkN hl;rw[qxkb] at hmk;simp (disch:=omega) only[ir41p4,qa,qb,qevb,qu,hmk];refine qk (σ:=Unit) l.length (fun _ _=>True) (fun i _=>[.int .i64 i,numsD (stg l i)]) (fun _ _=>[strsD names,numsD (normS l),.int .i64 0]) ?_ ?_ 0 () (Nat.zero_le _) trivial
  · rintro i _ L hi _ hL;have hnext:=hL () trivial;rw[← qfmb hi] at hnext;have hsl:(stg l i).length=l.length:=by simp[stg]
    simp (disch:=omega) only[ir41p3,qa,qb,eq_self,aBin,reduceIte,qu,hi,qqw];refine qk (σ:=Unit) l.length (fun _ _=>True) (fun v _=>[.int .i64 v,numsD ((l.take v).foldl (belowF l[i]) [])]) (fun _ _=>[strsD names,numsD (normS l),.int .i64 0]) ?_ ?_ 0 () (Nat.zero_le _) trivial
    · rintro v _ M hv' _ hM;have hnext2:=hM () trivial;have htk:l.take (v+1)=l.take v++[l[v]]:=by rw[List.take_add_one,List.getElem?_eq_getElem hv'];rfl
      have hfl:(l.take (v+1)).foldl (belowF l[i]) []=belowF l[i] ((l.take v).foldl (belowF l[i]) []) l[v]:=by rw[htk,List.foldl_append];rfl
      have hal:=qyo l[i] (l.take v) [];rw[hfl] at hnext2;simp only[List.length_nil,List.length_take] at hal;generalize (l.take v).foldl (belowF l[i]) []=acc at *;have hin:=qxob acc l[v] (by omega)
      by_cases a1:l[v]<l[i]
      · by_cases a2:l[v]∈acc
        · have:belowF l[i] acc l[v]=acc:=by unfold belowF;rw[if_neg (by simp[a2])]
          rw[this] at hnext2;rw[decide_eq_true a2] at hin;simp (disch:=omega) only[ir41p2,ir41p1,ir41p0,qa,qb,eq_self,aBin,reduceIte,qu,hv',qtb,a1,hin,qmw,wr,natS,hnext2]
        · have:belowF l[i] acc l[v]=acc++[l[v]]:=by unfold belowF;rw[if_pos ⟨a1,a2⟩]
          rw[this] at hnext2;rw[decide_eq_false a2] at hin;simp (disch:=omega) only[ir41p2,ir41p1,ir41p0,qa,qb,eq_self,aBin,reduceIte,qu,hv',qtb,a1,hin,qmw,qgxb,wr,natS,hnext2]
      · have:belowF l[i] acc l[v]=acc:=by unfold belowF;rw[if_neg (by simp[a1])]
        rw[this] at hnext2;simp (disch:=omega) only[ir41p2,ir41p1,ir41p0,qa,qb,eq_self,aBin,reduceIte,qu,hv',qtb,a1,wr,natS,hnext2]
    · rintro _ M _;rw[List.take_length];have hc:=qbk (l:=stg l i) (i:=i) (by omega)
      have hst:=qwt (l:=stg l i) (i:=i) (by omega) ((belowL l[i] l).length:Int)
      simp only[belowL] at hst hnext;simp (disch:=omega) only[ir41p2,qa,qb,eq_self,aBin,reduceIte,qu,Nat.lt_irrefl,hc,hst,wr,natS,hnext]
  · rintro _ L _;rw[qsub];simp (disch:=omega) only[ir41p3,qa,qb,eq_self,aBin,reduceIte,qu,Nat.lt_irrefl]
 have bad:normE names l=false→den (run tb) ir41p4 [strsD names,numsD l,.bool true] []=some (if normE names l=true then [strsD names,numsD (normS l),.int .i64 0] else [.sl [],.sl [],.int .i64 1]):=by
  intro h;rw[h];simp (disch:=omega) only[ir41p4,qa,qb,eq_self,if_false]
 cases h1:vocOk names with
 | false=>
  rw[h1] at hv;have:=bad (by simp[normE,h1])
  simp (disch:=omega) only[ir41,qa,qb,eq_self,hv,this]
 | true=>
  rw[h1] at hv;have h6:=qrd h1
  by_cases h2:l.length=2^names.length
  · have:=key (by simp[normE,h1,h2])
    simp (disch:=omega) only[ir41,qa,qb,eq_self,aBin,reduceIte,bvQ,wu,qjd,hv,qu,qpb,ibne,h2,this]
  · have:=bad (by simp[normE,h2])
    simp (disch:=omega) only[ir41,qa,qb,eq_self,aBin,reduceIte,bvQ,wu,qjd,hv,qu,qpb,ibne,h2,this]
end Go.Proofs.YtnfecjmddbehiaaGreat

namespace Go.Proofs.YtnfecjmddbehiaaGreat
open Go Am
set_option maxRecDepth 100000
theorem qemb (x y:Int):run tb 64 [.int .i64 x,.int .i64 y]=some [.bool (decide (x<y))]:=by
 refine qc (x:=ir64) rfl ?_
 have hn:∀ z:Int,run tb 75 [.int .i64 z]=some [.bool false]:=fun z=>by
  refine qc (x:=ir75) rfl ?_;simp only[ir75,qa,qb,eq_self,aBin,reduceIte,ibne]
 by_cases h:x<y
 · simp only[ir64,qa,qb,eq_self,aBin,reduceIte,hn,h]
 · simp only[ir64,qa,qb,eq_self,aBin,reduceIte,hn,h]
theorem qyz (l:List Int) (hl:l.length<1000000000) (hp:l.Pairwise fun x y=>x<y) (t:Int):run tb 52 [numsD l,.int .i64 t]=some [.int .i64 (lessN t l),.bool (decide (lessN t l<l.length∧l.getD (lessN t l) 0=t))]:=by
 refine qc (x:=ir52) rfl ?_
 have hn:∀ z:Int,run tb 65 [.int .i64 z]=some [.bool false]:=fun z=>by
  refine qc (x:=ir65) rfl ?_;simp only[ir65,qa,qb,eq_self,aBin,reduceIte,ibne]
 have hle:=qakb t l;simp (disch:=omega) only[ir52,qa,qb,qu];refine qkhb (ι:=Nat × Nat) (fun x=>x.2-x.1) (fun x=>x.1≤lessN t l∧lessN t l≤x.2∧x.2≤l.length) (fun x=>[.int .i64 x.1,.int .i64 x.2]) (fun _=>[.int .i64 (lessN t l),.bool (decide (lessN t l<l.length∧l.getD (lessN t l) 0=t))]) ?_ (0,l.length) ⟨Nat.zero_le _,hle,Nat.le_refl _⟩
 rintro ⟨i,j⟩ L ⟨h1,h2,h3⟩ hL;simp only at h1 h2 h3
 by_cases hij:i<j
 · have hm:(i+j) / 2<l.length:=by omega
   have hs:(((i+j:Nat):Int)).fdiv (2^(min (Int.toNat 1) IntKind.u64.bits))=(((i+j) / 2:Nat):Int):=by
    have:=qujb (a:=i+j) (n:=1) (by omega)
    rw[Nat.pow_one] at this;exact this
   have hadd:(i:Int)+(j:Int)=((i+j:Nat):Int):=by omega
   have hc:=qemb l[(i+j) / 2] t;have hlt:=qom hp t ((i+j) / 2) hm
   by_cases hd:l[(i+j) / 2]<t
   · have hnext:=hL ((i+j) / 2+1,j) ⟨by have:=hlt.1 hd;omega,h2,h3⟩ (by simp only;omega)
     simp only at hnext;rw[decide_eq_true hd] at hc;simp (disch:=omega) only[ir52p0,qa,qb,eq_self,aBin,reduceIte,Int.reduceLE,hij,hadd,wr,wu,hs,qtb,hc,natS,hnext]
   · have hnext:=hL (i,(i+j) / 2) ⟨h1,by have:¬ (i+j) / 2<lessN t l:=fun h=>hd (hlt.2 h);omega,by omega⟩ (by simp only;omega)
     simp only at hnext;rw[decide_eq_false hd] at hc;simp (disch:=omega) only[ir52p0,qa,qb,eq_self,aBin,reduceIte,Int.reduceLE,hij,hadd,wr,wu,hs,qtb,hc,hnext]
 · have hi:i=lessN t l:=by omega
   simp only[← hi]
   by_cases hil:i<l.length
   · have hg:l.getD i 0=l[i]:=by simp[hil]
     have hn1:=hn l[i];rw[hg]
     by_cases he:l[i]=t
     · simp (disch:=omega) only[ir52p0,qa,qb,eq_self,aBin,reduceIte,hij,hil,qtb,he,and_self]
     · simp (disch:=omega) only[ir52p0,qa,qb,eq_self,aBin,reduceIte,hij,hil,qtb,he,hn1,and_false]
   · simp (disch:=omega) only[ir52p0,qa,qb,eq_self,aBin,reduceIte,hij,hil,false_and]
theorem qrt (l:List Int) (hl:l.length<1000000000):run tb 49 [numsD l]=some [numsD (sortI l),numsD l]:=by
 refine qc (x:=ir49) rfl ?_;have h1:run tb 62 [numsD l]=some [numsD l,numsD l]:=qae rfl (by rw[show ext62=collectE from rfl,collectE,qvi,if_pos hl])
 have h2:run tb 63 [numsD l]=some [numsD (sortI l)]:=qae rfl (by rw[show ext63=sortE from rfl,sortE,qvi,if_pos hl])
 have c1:∀ k e J,callQ (run tb) 2 false [0] k e J (some [numsD l,numsD l])=den (run tb) k (e++[numsD l,numsD l]) J:=fun k e J=>rfl
 have c2:∀ k e J,callQ (run tb) 1 false [0] k e J (some [numsD (sortI l)])=den (run tb) k (e++[numsD (sortI l)]) J:=fun k e J=>rfl
 simp (disch:=omega) only[ir49,qa,qb,eq_self,h1,h2,c1,c2]
theorem qsz (names:List (List UInt8)) (l:List Int) (hn:names.length<1000000000) (hl:l.length<1000000000) :
 run tb 31 [strsD names,numsD l]=some (if normE names l=true then [strsD names,numsD (normS l),.int .i64 0] else [.sl [],.sl [],.int .i64 1]):=by
 refine qc (x:=ir31) rfl ?_;have hv:=qpk names hn
 have key:normE names l=true→den (run tb) ir31p1 [strsD names,numsD l,.bool false] []=some (if normE names l=true then [strsD names,numsD (normS l),.int .i64 0] else [.sl [],.sl [],.int .i64 1]):=by
  intro h;rw[if_pos h];have h1:run tb 48 [numsD l]=some [numsD l]:=qae rfl (by rw[show ext48=valuesE from rfl,valuesE,qvi])
  have h2:=qrt l hl;have h3:run tb 50 [numsD (sortI l)]=some [numsD (canonI l),numsD (tailI (sortI l))]:=qae rfl (by rw[show ext50=compactE from rfl,compactE,qvi,if_pos (by rw[qqk];exact hl)];rfl)
  have h4:run tb 51 [strsD names]=some [strsD names]:=qae rfl (by rw[show ext51=cloneE from rfl];unfold cloneE;simp only[qfz,hn,if_true])
  have c2:∀ k e J,callQ (run tb) 2 false [0] k e J (some [numsD (sortI l),numsD l])=den (run tb) k (e++[numsD (sortI l),numsD l]) J:=fun k e J=>rfl
  have c3:∀ k e J,callQ (run tb) 2 false [1] k e J (some [numsD (canonI l),numsD (tailI (sortI l))])=den (run tb) k (e++[numsD (canonI l),numsD (tailI (sortI l))]) J:=fun k e J=>rfl
  have c4:∀ k e J,callQ (run tb) 1 false [0] k e J (some [strsD names])=den (run tb) k (e++[strsD names]) J:=fun k e J=>rfl
  have hcl:=qty l;have hse:=fun t=>qyz (canonI l) (by omega) (qbi l) t
  simp (disch:=omega) only[ir31p1,qa,qb,h1,h2,c2,h3,c3,h4,c4,qu,qqw];have hb:=fun r=>qzt r l
  generalize canonI l=cs at *;refine qk (σ:=Unit) l.length (fun _ _=>True) (fun i _=>[.int .i64 i,numsD ((normS l).take i)]) (fun _ _=>[strsD names,numsD (normS l),.int .i64 0]) ?_ ?_ 0 () (Nat.zero_le _) trivial
  · rintro i _ L hi _ hL;have hnext:=hL () trivial;have hns:(normS l).length=l.length:=by simp[normS]
    have htk:(normS l).take (i+1)=(normS l).take i++[((belowL l[i] l).length:Int)]:=by rw[List.take_add_one,List.getElem?_eq_getElem (by omega)];simp[normS]
    have hsr:=hse l[i];rw[hb] at hsr;rw[htk] at hnext;have htl:((normS l).take i).length=i:=by rw[List.length_take];omega
    generalize (normS l).take i=acc at *;have c5:∀ (x y:D) k e J,callQ (run tb) 2 false [] k e J (some [x,y])=den (run tb) k (e++[x,y]) J:=fun x y k e J=>rfl
    simp (disch:=omega) only[ir31p0,qa,qb,eq_self,aBin,reduceIte,hi,qtb,hsr,c5,qgxb,wr,natS,hnext]
  · rintro _ L _;have hns:(normS l).length=l.length:=by simp[normS]
    rw[show (normS l).take l.length=normS l by rw[← hns,List.take_length]]
    simp (disch:=omega) only[ir31p0,qa,qb,eq_self,aBin,reduceIte,Nat.lt_irrefl]
 have bad:normE names l=false→den (run tb) ir31p1 [strsD names,numsD l,.bool true] []=some (if normE names l=true then [strsD names,numsD (normS l),.int .i64 0] else [.sl [],.sl [],.int .i64 1]):=by
  intro h;rw[h];simp (disch:=omega) only[ir31p1,qa,qb,eq_self,if_false]
 cases h1:vocOk names with
 | false=>
  rw[h1] at hv;have:=bad (by simp[normE,h1])
  simp (disch:=omega) only[ir31,qa,qb,eq_self,hv,this]
 | true=>
  rw[h1] at hv;have h6:=qrd h1
  by_cases h2:l.length=2^names.length
  · have:=key (by simp[normE,h1,h2])
    simp (disch:=omega) only[ir31,qa,qb,eq_self,aBin,reduceIte,bvQ,qjd,hv,qu,qpb,ibne,h2,this]
  · have:=bad (by simp[normE,h2])
    simp (disch:=omega) only[ir31,qa,qb,eq_self,aBin,reduceIte,bvQ,qjd,hv,qu,qpb,ibne,h2,this]
end Go.Proofs.YtnfecjmddbehiaaGreat

namespace Go.Proofs.YtnfecjmddbehiaaGreat
open Go Am
set_option maxRecDepth 100000
theorem qmx (a b:List Int) (ha:a.length<1000000000):run tb 12 [numsD a,numsD b]=some [.bool (decide (a=b))]:=by
 refine qc (x:=ir12) rfl ?_
 by_cases hl:a.length=b.length
 · simp (disch:=omega) only[ir12,qa,qb,eq_self,aBin,reduceIte,qu,ibne,hl];have h0:decide (a=b)=decide (a.drop 0=b.drop 0):=by simp
   rw[h0];refine qk (σ:=Unit) b.length (fun _ _=>True) (fun i _=>[.int .i64 i]) (fun i _=>[.bool (decide (a.drop i=b.drop i))]) ?_ ?_ 0 () (Nat.zero_le _) trivial
   · rintro i _ L hi _ hL;have hnext:=hL () trivial;have hia:i<a.length:=by omega
     have e1:a.drop i=a[i]::a.drop (i+1):=List.drop_eq_getElem_cons hia;have e2:b.drop i=b[i]::b.drop (i+1):=List.drop_eq_getElem_cons hi;rw[e1,e2]
     by_cases h:a[i]=b[i]
     · have:decide (a[i]::a.drop (i+1)=b[i]::b.drop (i+1))=decide (a.drop (i+1)=b.drop (i+1)):=by rw[h];exact decide_eq_decide.2 ⟨fun e=>(List.cons.inj e).2,fun e=>by rw[e]⟩
       rw[this];simp (disch:=omega) only[ir12p0,qa,qb,eq_self,aBin,reduceIte,hi,qtb,ibne,h,wr,natS,hnext]
     · have:decide (a[i]::a.drop (i+1)=b[i]::b.drop (i+1))=false:=decide_eq_false fun e=>h (List.cons.inj e).1
       rw[this];simp (disch:=omega) only[ir12p0,qa,qb,eq_self,aBin,reduceIte,hi,qtb,ibne,h]
   · rintro _ L _;have:decide (a.drop b.length=b.drop b.length)=true:=by simp[← hl]
     rw[this];simp (disch:=omega) only[ir12p0,qa,qb,eq_self,aBin,reduceIte,Nat.lt_irrefl]
 · have:decide (a=b)=false:=by simp;rintro rfl;exact hl rfl
   rw[this];simp (disch:=omega) only[ir12,qa,qb,eq_self,aBin,reduceIte,qu,ibne,hl]
theorem qhy (l:List (List UInt8)) (hl:l.length<1000000000):run tb 24 [strsD l,strsD l]=some [.bool true]:=by
 refine qc (x:=ir24) rfl ?_;simp (disch:=omega) only[ir24,qa,qb,eq_self,aBin,reduceIte,qpb,ibne];refine qk (σ:=Unit) l.length (fun _ _=>True) (fun i _=>[.int .i64 i]) (fun _ _=>[.bool true]) ?_ ?_ 0 () (Nat.zero_le _) trivial
 · rintro i _ L hi _ hL;have hnext:=hL () trivial;have h1:(l[i] == l[i])=true:=beq_self_eq_true _;have h2:(l[i] != l[i])=false:=bne_self_eq_false _;simp (disch:=omega) only[ir24p0,qa,qb,eq_self,aBin,reduceIte,qpb,hi,qsh,h1,wr,natS,hnext]
 · rintro _ L _;simp (disch:=omega) only[ir24p0,qa,qb,eq_self,aBin,reduceIte,qpb,Nat.lt_irrefl]
theorem qdfb (l:List (List UInt8)) (hl:l.length<1000000000) (a:List Int) (ha:a.length<1000000000):run tb 37 [strsD l,numsD a,strsD l,numsD a]=some [.bool true]:=by
 refine qc (x:=ir37) rfl ?_;have h1:=qhy l hl;have h2:=qmx a a ha;rw[decide_eq_true rfl] at h2;simp (disch:=omega) only[ir37,qa,qb,eq_self,h1,h2]
end Go.Proofs.YtnfecjmddbehiaaGreat

namespace Go.Proofs.YtnfecjmddbehiaaGreat
open Go Am
set_option maxRecDepth 100000
theorem qfq (names:List (List UInt8)) (ranks:List Int) (hn:names.length<1000000000) (hl:ranks.length<1000000000):run tb 69 [strsD names,numsD ranks]=some [bvD (beliefsS names ranks)]:=by
 refine qc (x:=ir69) rfl ?_;have h:=qvl names ranks hn hl (BitVec.allOnes 64);simp (disch:=omega) only[ir69,qa,qb,eq_self,bvQ,h,beliefsS]
end Go.Proofs.YtnfecjmddbehiaaGreat

namespace Go.Proofs.YtnfecjmddbehiaaGreat
open Go Am
set_option maxRecDepth 100000
end Go.Proofs.YtnfecjmddbehiaaGreat

namespace Go.Proofs.YtnfecjmddbehiaaGreat
open Go Am
set_option maxRecDepth 100000
theorem qmy (a b:List (List UInt8)) (ha:a.length<1000000000):run tb 68 [strsD a,strsD b]=some [.bool (decide (a=b))]:=by
 refine qc (x:=ir68) rfl ?_
 by_cases hl:a.length=b.length
 · simp (disch:=omega) only[ir68,qa,qb,eq_self,aBin,reduceIte,qpb,ibne,hl];have h0:decide (a=b)=decide (a.drop 0=b.drop 0):=by simp
   rw[h0];refine qk (σ:=Unit) b.length (fun _ _=>True) (fun i _=>[.int .i64 i]) (fun i _=>[.bool (decide (a.drop i=b.drop i))]) ?_ ?_ 0 () (Nat.zero_le _) trivial
   · rintro i _ L hi _ hL;have hnext:=hL () trivial;have hia:i<a.length:=by omega
     have e1:a.drop i=a[i]::a.drop (i+1):=List.drop_eq_getElem_cons hia;have e2:b.drop i=b[i]::b.drop (i+1):=List.drop_eq_getElem_cons hi;rw[e1,e2]
     by_cases h:a[i]=b[i]
     · have:decide (a[i]::a.drop (i+1)=b[i]::b.drop (i+1))=decide (a.drop (i+1)=b.drop (i+1)):=by rw[h];exact decide_eq_decide.2 ⟨fun e=>(List.cons.inj e).2,fun e=>by rw[e]⟩
       rw[this];have b1:(a[i] == b[i])=true:=beq_iff_eq.2 h;have b2:(a[i] != b[i])=false:=by rw[bne,b1];rfl
       simp (disch:=omega) only[ir68p0,qa,qb,eq_self,aBin,reduceIte,hi,qsh,b1,wr,natS,hnext]
     · have:decide (a[i]::a.drop (i+1)=b[i]::b.drop (i+1))=false:=decide_eq_false fun e=>h (List.cons.inj e).1
       rw[this];have b1:(a[i] == b[i])=false:=beq_eq_false_iff_ne.2 h;have b2:(a[i] != b[i])=true:=by rw[bne,b1];rfl
       simp (disch:=omega) only[ir68p0,qa,qb,eq_self,aBin,reduceIte,hi,qsh,b1]
   · rintro _ L _;have:decide (a.drop b.length=b.drop b.length)=true:=by simp[← hl]
     rw[this];simp (disch:=omega) only[ir68p0,qa,qb,eq_self,aBin,reduceIte,Nat.lt_irrefl]
 · have:decide (a=b)=false:=by simp;rintro rfl;exact hl rfl
   rw[this];simp (disch:=omega) only[ir68,qa,qb,eq_self,aBin,reduceIte,qpb,ibne,hl]
theorem qwa (a b:List (List UInt8)) (ha:a.length<1000000000):run tb 24 [strsD a,strsD b]=some [.bool (decide (a=b))]:=by
 refine qc (x:=ir24) rfl ?_
 by_cases hl:a.length=b.length
 · simp (disch:=omega) only[ir24,qa,qb,eq_self,aBin,reduceIte,qpb,ibne,hl];have h0:decide (a=b)=decide (a.drop 0=b.drop 0):=by simp
   rw[h0];refine qk (σ:=Unit) b.length (fun _ _=>True) (fun i _=>[.int .i64 i]) (fun i _=>[.bool (decide (a.drop i=b.drop i))]) ?_ ?_ 0 () (Nat.zero_le _) trivial
   · rintro i _ L hi _ hL;have hnext:=hL () trivial;have hia:i<a.length:=by omega
     have e1:a.drop i=a[i]::a.drop (i+1):=List.drop_eq_getElem_cons hia;have e2:b.drop i=b[i]::b.drop (i+1):=List.drop_eq_getElem_cons hi;rw[e1,e2]
     by_cases h:a[i]=b[i]
     · have:decide (a[i]::a.drop (i+1)=b[i]::b.drop (i+1))=decide (a.drop (i+1)=b.drop (i+1)):=by rw[h];exact decide_eq_decide.2 ⟨fun e=>(List.cons.inj e).2,fun e=>by rw[e]⟩
       rw[this];have b1:(a[i] == b[i])=true:=beq_iff_eq.2 h;have b2:(a[i] != b[i])=false:=by rw[bne,b1];rfl
       simp (disch:=omega) only[ir24p0,qa,qb,eq_self,aBin,reduceIte,qpb,hia,qsh,b1,wr,natS,hnext]
     · have:decide (a[i]::a.drop (i+1)=b[i]::b.drop (i+1))=false:=decide_eq_false fun e=>h (List.cons.inj e).1
       rw[this];have b1:(a[i] == b[i])=false:=beq_eq_false_iff_ne.2 h;have b2:(a[i] != b[i])=true:=by rw[bne,b1];rfl
       simp (disch:=omega) only[ir24p0,qa,qb,eq_self,aBin,reduceIte,qpb,hia,qsh,b1]
   · rintro _ L _;have:decide (a.drop b.length=b.drop b.length)=true:=by simp[← hl]
     rw[this];simp (disch:=omega) only[ir24p0,qa,qb,eq_self,aBin,reduceIte,qpb,hl,Nat.lt_irrefl]
 · have:decide (a=b)=false:=by simp;rintro rfl;exact hl rfl
   rw[this];simp (disch:=omega) only[ir24,qa,qb,eq_self,aBin,reduceIte,qpb,ibne,hl]
end Go.Proofs.YtnfecjmddbehiaaGreat

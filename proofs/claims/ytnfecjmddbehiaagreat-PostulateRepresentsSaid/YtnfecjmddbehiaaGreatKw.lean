/- What functions of the program compute: lemmas. -/
import Derived.Test.YtnfecjmddbehiaaGreatLb1
import Derived.Test.YtnfecjmddbehiaaGreatAm7
import Derived.Test.YtnfecjmddbehiaaGreatAm5
import Derived.Test.YtnfecjmddbehiaaGreatAm6
set_option linter.unusedSimpArgs false
set_option linter.unusedVariables false
set_option linter.unusedSectionVars false
namespace Go.Proofs.YtnfecjmddbehiaaGreat
open Go Am
set_option maxRecDepth 100000
theorem v1V_run (x S : Int) : run tb 60 [.int .i64 x,.int .i64 S]=some [.bool (badS S x),.int .i64 S]:=by
 refine run_ir (x:=ir60) rfl ?_
 unfold badS
 by_cases h : x<0
 · simp only [ir60,stepQ,stepL,eq_self,aBin,reduceIte,h]
 · simp only [ir60,stepQ,stepL,eq_self,aBin,reduceIte,h]
theorem ixNV_run (l : List Int) (S : Int) (hl : l.length<1000000000) : run tb 59 [numsD l,.int .i64 S]=some [.int .i64 (idxP (badS S) 0 l),.int .i64 S]:=by
 refine run_ir (x:=ir59) rfl ?_
 have key:=loop_k (run:=run tb) (body:=ir59p0) (e:=[numsD l,.int .i64 S,.int .i64 l.length]) (J:=[]) (σ:=Unit) l.length
  (fun _ _=>True) (fun i _=>[.int .i64 i,.int .i64 S]) (fun i _=>[.int .i64 (idxP (badS S) i (l.drop i)),.int .i64 S])
  (by
   rintro i _ L hi _ hL
   have hnext:=hL () trivial
   have hf:=v1V_run l[i] S
   rw [idxP_drop _ hi]
   cases hb : badS S l[i] with
   | true=>
    rw [hb] at hf
    simp (disch:=omega) only [ir59p0,stepQ,stepL,eq_self,aBin,hi,row_N,hf,if_true]
   | false=>
    rw [hb] at hf
    simp only [Bool.false_eq_true,if_false]
    simp (disch:=omega) only [ir59p0,stepQ,stepL,eq_self,aBin,reduceIte,hi,row_N,hf,wr,natS,hnext])
  (by
   rintro _ L _
   have e : idxP (badS S) l.length (l.drop l.length) = -1:=by rw [List.drop_length]; rfl
   simp (disch:=omega) only [ir59p0,stepQ,stepL,eq_self,aBin,reduceIte,Nat.lt_irrefl,e])
 have hk:=key 0 () (by omega) trivial
 simp only [nat0,List.drop_zero] at hk
 simp only [ir59,stepQ,stepL,eq_self,len_N,hk]
theorem cfNV_run (l : List Int) (S : Int) (hl : l.length<1000000000) : run tb 58 [numsD l,.int .i64 S]=some [.bool (l.any (badS S)),.int .i64 S]:=by
 refine run_ir (x:=ir58) rfl ?_
 have h1:=ixNV_run l S hl
 have h2:=idxP_ge (badS S) l 0
 simp only [ir58,stepQ,stepL,eq_self,aBin,reduceIte,h1]
 rw [← h2]
theorem v2V_run (l : List Int) (S : Int) (hl : l.length<1000000000) : run tb 56 [numsD l,.int .i64 S]=some [.bool (badR S l),.int .i64 S]:=by
 refine run_ir (x:=ir56) rfl ?_
 have h1:=cfNV_run l S hl
 unfold badR
 by_cases h : (l.length : Int)=S
 · simp only [ir56,stepQ,stepL,eq_self,aBin,reduceIte,len_N,ibne,h,h1,ne_eq,not_true_eq_false]
 · simp only [ir56,stepQ,stepL,eq_self,aBin,reduceIte,len_N,ibne,h,ne_eq,not_false_eq_true]
theorem ixTV_run (rows : List (List Int)) (S : Int) (hl : rows.length<1000000000) (hr : ∀ r ∈ rows,r.length<1000000000) : run tb 47 [tabD rows,.int .i64 S]=some [.int .i64 (idxP (badR S) 0 rows),.int .i64 S]:=by
 refine run_ir (x:=ir47) rfl ?_
 have key:=loop_k (run:=run tb) (body:=ir47p0) (e:=[tabD rows,.int .i64 S,.int .i64 rows.length]) (J:=[]) (σ:=Unit) rows.length
  (fun _ _=>True) (fun i _=>[.int .i64 i,.int .i64 S]) (fun i _=>[.int .i64 (idxP (badR S) i (rows.drop i)),.int .i64 S])
  (by
   rintro i _ L hi _ hL
   have hnext:=hL () trivial
   have hf:=v2V_run rows[i] S (hr _ (List.getElem_mem hi))
   rw [idxP_drop _ hi]
   cases hb : badR S rows[i] with
   | true=>
    rw [hb] at hf
    simp (disch:=omega) only [ir47p0,stepQ,stepL,eq_self,aBin,hi,row_T,hf,if_true]
   | false=>
    rw [hb] at hf
    simp only [Bool.false_eq_true,if_false]
    simp (disch:=omega) only [ir47p0,stepQ,stepL,eq_self,aBin,reduceIte,hi,row_T,hf,wr,natS,hnext])
  (by
   rintro _ L _
   have e : idxP (badR S) rows.length (rows.drop rows.length) = -1:=by rw [List.drop_length]; rfl
   simp (disch:=omega) only [ir47p0,stepQ,stepL,eq_self,aBin,reduceIte,Nat.lt_irrefl,e])
 have hk:=key 0 () (by omega) trivial
 simp only [nat0,List.drop_zero] at hk
 simp only [ir47,stepQ,stepL,eq_self,len_T,hk]
theorem cfTV_run (rows : List (List Int)) (S : Int) (hl : rows.length<1000000000) (hr : ∀ r ∈ rows,r.length<1000000000) : run tb 30 [tabD rows,.int .i64 S]=some [.bool (rows.any (badR S)),.int .i64 S]:=by
 refine run_ir (x:=ir30) rfl ?_
 have h1:=ixTV_run rows S hl hr
 have h2:=idxP_ge (badR S) rows 0
 simp only [ir30,stepQ,stepL,eq_self,aBin,reduceIte,h1]
 rw [← h2]
theorem worldsV_run (a : Int) (t : D) (ha : a=1∨a=2) : run tb 18 [.int .i64 a,t]=some [.int .i64 (if a=1 then 2 else 4)]:=by
 refine run_ir (x:=ir18) rfl ?_
 rcases ha with rfl | rfl
 · rfl
 · rfl
theorem validateV_run (a : Int) (rows : List (List Int)) (hl : rows.length<1000000000) (hr : ∀ r ∈ rows,r.length<1000000000) : run tb 16 [.int .i64 a,tabD rows]=some [.int .i64 (if vldB a rows=true then 0 else 1)]:=by
 refine run_ir (x:=ir16) rfl ?_
 by_cases ha : a=1∨a=2
 · have h1:=worldsV_run a (tabD rows) ha
   have h2:=cfTV_run rows (szT a : Int) hl hr
   rw [vldB_eq ha]
   have h4 : ∀ b : Bool,(if (!b)=true then (0 : Int) else 1)=if b=true then 1 else 0:=by decide
   rw [h4]
   have e1 : IntKind.i64.wrap (1 * 2 ^ min (Int.toNat 2) IntKind.i64.bits)=4:=by decide
   have e2 : IntKind.i64.wrap (1 * 2 ^ min (Int.toNat 4) IntKind.i64.bits)=16:=by decide
   have s1 : (szT 1 : Int)=4:=rfl
   have s2 : (szT 2 : Int)=16:=rfl
   have i1 : (if (1 : Int)=1 then (2 : Int) else 4)=2:=rfl
   have i2 : (if (2 : Int)=1 then (2 : Int) else 4)=4:=rfl
   have n1 : ¬ (2 : Int)=1:=by decide
   have n2 : ¬ (1 : Int)=2:=by decide
   rcases ha with rfl | rfl
   · rw [s1] at h2 ⊢
     rw [i1] at h1
     by_cases hlen : (rows.length : Int)=4
     · cases hany : rows.any (badR 4) <;> rw [hany] at h2 <;>
        simp only [ir16,ir16p0,ir16p1,stepQ,stepL,eq_self,aBin,Int.reduceLE,ibne,h1,h2,e1,len_T,hlen,ne_eq,not_true_eq_false,if_true,if_false]
     · simp only [ir16,ir16p0,ir16p1,stepQ,stepL,eq_self,aBin,Int.reduceLE,ibne,h1,e1,len_T,hlen,ne_eq,not_false_eq_true,if_true]
   · rw [s2] at h2 ⊢
     rw [i2] at h1
     by_cases hlen : (rows.length : Int)=16
     · cases hany : rows.any (badR 16) <;> rw [hany] at h2 <;>
        simp only [ir16,ir16p0,ir16p1,stepQ,stepL,eq_self,aBin,Int.reduceLE,ibne,h1,h2,e2,n1,len_T,hlen,ne_eq,not_true_eq_false,if_true,if_false]
     · simp only [ir16,ir16p0,ir16p1,stepQ,stepL,eq_self,aBin,Int.reduceLE,ibne,h1,e2,n1,len_T,hlen,ne_eq,not_false_eq_true,if_true]
 · have hv : vldB a rows = false := by
    rw [Bool.eq_false_iff]
    intro h
    exact ha (vldB_iff.1 h).at_
   rw [hv]
   have h1 : ¬ a=1:=fun h=>ha (.inl h)
   have h2 : ¬ a=2:=fun h=>ha (.inr h)
   simp only [ir16,ir16p1,stepQ,stepL,eq_self,aBin,reduceIte,ibne,h1,h2,if_false]
end Go.Proofs.YtnfecjmddbehiaaGreat

namespace Go.Proofs.YtnfecjmddbehiaaGreat
open Go Am
set_option maxRecDepth 100000
theorem bits_s1 {p : Nat→Bool} {w : Nat} (h : p w=true) : bitsTo p w ||| 1#64 <<< w=bitsTo p (w + 1):=by simp only [bitsTo,h,if_true]
theorem bits_s0 {p : Nat→Bool} {w : Nat} (h : p w=false) : bitsTo p w=bitsTo p (w + 1):=by simp [bitsTo,h]
theorem valid_run (l : List (List UInt8)) (hl : l.length<1000000000) : run tb 17 [strsD l]=some [.bool (vocOk l)]:=by
 refine run_ir (x:=ir17) rfl ?_
 by_cases h6 : l.length≤6
 · have h6' : ¬ ((l.length : Nat) : Int) > 6:=by omega
   have hv : vocOk l=okAt l 0:=by simp [vocOk,h6,okAt_zero]
   rw [hv]
   simp (disch:=omega) only [ir17,stepQ,stepL,eq_self,aBin,reduceIte,len_S,h6']
   refine loop_k (σ:=Unit) l.length (fun _ _=>True) (fun i _=>[.int .i64 i]) (fun i _=>[.bool (okAt l i)]) ?_ ?_ 0 () (Nat.zero_le _) trivial
   · rintro i _ L hi _ hL
     have hnext:=hL () trivial
     have hn:=validName_run l[i]
     cases hvn : validName l[i] with
     | false=>
      rw [hvn] at hn
      have : okAt l i=false:=by
       by_cases h0 : 0<i
       · rw [okAt_next h0 hi,hvn]; rfl
       · rw [okAt_first' h0 hi,hvn]; rfl
      simp (disch:=omega) only [ir17p1,ir17p0,stepQ,stepL,eq_self,aBin,reduceIte,hi,row_S,hn,this]
     | true=>
      rw [hvn] at hn
      by_cases h0 : ¬ 0<i
      · have h0' : ¬ (i : Int) > 0:=by omega
        rw [okAt_first' h0 hi,hvn,Bool.true_and]
        simp (disch:=omega) only [ir17p1,ir17p0,stepQ,stepL,eq_self,aBin,reduceIte,hi,h0',row_S,hn,wr,natS,hnext]
      · have h0 : 0<i:=by omega
        have h0' : (i : Int) > 0:=by omega
        have hs : (i : Int) - 1=((i - 1 : Nat) : Int):=by omega
        have hi1 : i - 1<l.length:=by omega
        rw [okAt_next h0 hi,hvn,Bool.true_and]
        cases hb : Op.bytesLess l[i - 1] l[i] with
        | true=>
         rw [Bool.true_and]
         simp (disch:=omega) only [ir17p1,ir17p0,stepQ,stepL,eq_self,aBin,reduceIte,hi,h0',row_S,hn,wr,natS,hs,hb,hnext]
        | false=>
         rw [Bool.false_and]
         simp (disch:=omega) only [ir17p1,ir17p0,stepQ,stepL,eq_self,aBin,reduceIte,hi,h0',row_S,hn,wr,hs,hb]
   · rintro _ L _
     rw [okAt_end]
     simp (disch:=omega) only [ir17p1,stepQ,stepL,eq_self,aBin,reduceIte,Nat.lt_irrefl]
 · have h6' : ((l.length : Nat) : Int) > 6:=by omega
   have hv : vocOk l=false:=by simp [vocOk,h6]
   rw [hv]
   simp (disch:=omega) only [ir17,stepQ,stepL,eq_self,aBin,reduceIte,len_S,h6']
theorem valid3_run (l : List (List UInt8)) (hl : l.length<1000000000) (hs : ∀ s ∈ l,s.length<9223372036854775808) : run tb 40 [strsD l]=some [.bool (vocOk l)]:=by
 refine run_ir (x:=ir40) rfl ?_
 have hv : vocOk l=(okAt l 0 && decide (l.length≤6)):=by rw [vocOk,okAt_zero,Bool.and_comm]
 rw [hv]
 simp (disch:=omega) only [ir40,stepQ,stepL]
 refine loop_k (σ:=Unit) l.length (fun _ _=>True) (fun i _=>[.int .i64 i]) (fun i _=>[.bool (okAt l i && decide (l.length≤6))]) ?_ ?_ 0 () (Nat.zero_le _) trivial
 · rintro i _ L hi _ hL
   have hnext:=hL () trivial
   have hn:=validName57_run l[i] (hs _ (List.getElem_mem hi))
   cases hvn : validName l[i] with
   | false=>
    rw [hvn] at hn
    have : okAt l i=false:=by
     by_cases h0 : 0<i
     · rw [okAt_next h0 hi,hvn]; rfl
     · rw [okAt_first' h0 hi,hvn]; rfl
    rw [this,Bool.false_and]
    simp (disch:=omega) only [ir40p1,ir40p0,stepQ,stepL,eq_self,aBin,reduceIte,len_S,hi,row_S,hn]
   | true=>
    rw [hvn] at hn
    by_cases h0 : ¬ 0<i
    · have h0' : ¬ (i : Int) > 0:=by omega
      rw [okAt_first' h0 hi,hvn,Bool.true_and]
      simp (disch:=omega) only [ir40p1,ir40p0,stepQ,stepL,eq_self,aBin,reduceIte,len_S,hi,h0',row_S,hn,wr,natS,hnext]
    · have h0 : 0<i:=by omega
      have h0' : (i : Int) > 0:=by omega
      have hs : (i : Int) - 1=((i - 1 : Nat) : Int):=by omega
      have hi1 : i - 1<l.length:=by omega
      rw [okAt_next h0 hi,hvn,Bool.true_and]
      have ht:=bytesLess_total l[i] l[i - 1]
      cases hb : Op.bytesLess l[i - 1] l[i] with
      | true=>
       rw [hb] at ht
       rw [Bool.true_and]
       simp (disch:=omega) only [ir40p1,ir40p0,stepQ,stepL,eq_self,aBin,reduceIte,len_S,hi,h0',row_S,hn,wr,natS,hs,ht,hnext]
      | false=>
       rw [hb] at ht
       rw [Bool.false_and,Bool.false_and]
       simp (disch:=omega) only [ir40p1,ir40p0,stepQ,stepL,eq_self,aBin,reduceIte,len_S,hi,h0',row_S,hn,wr,hs,ht]
 · rintro _ L _
   rw [okAt_end,Bool.true_and]
   by_cases h6 : l.length≤6
   · have h6' : ((l.length : Nat) : Int)≤6:=by omega
     simp (disch:=omega) only [ir40p1,stepQ,stepL,eq_self,aBin,reduceIte,len_S,Nat.lt_irrefl,h6,h6']
   · have h6' : ¬ ((l.length : Nat) : Int)≤6:=by omega
     simp (disch:=omega) only [ir40p1,stepQ,stepL,eq_self,aBin,reduceIte,len_S,Nat.lt_irrefl,h6,h6']
end Go.Proofs.YtnfecjmddbehiaaGreat

namespace Go.Proofs.YtnfecjmddbehiaaGreat
open Go Am
set_option maxRecDepth 100000
end Go.Proofs.YtnfecjmddbehiaaGreat

namespace Go.Proofs.YtnfecjmddbehiaaGreat
open Go Am
set_option maxRecDepth 100000
end Go.Proofs.YtnfecjmddbehiaaGreat

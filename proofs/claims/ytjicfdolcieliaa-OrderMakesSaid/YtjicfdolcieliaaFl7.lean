/- What functions of the program compute: lemmas. -/
import Derived.Test.YtjicfdolcieliaaFl6
set_option linter.unusedSimpArgs false
set_option linter.unusedVariables false
set_option linter.unusedSectionVars false
namespace Go.Proofs.Ytjicfdolcieliaa
open Go Am
set_option maxRecDepth 100000
def numsLD (ls : List (List Int)) : D := .sl (ls.map fun l => [numsD l])
def bvsLD (ls : List (List (BitVec 64))) : D := .sl (ls.map fun l => [bvsD l])
def namesLD (ls : List (List (List UInt8))) : D := .sl (ls.map fun l => [strsD l])
def prsD (qs : List (List (List UInt8) × List Int × List (List UInt8) × List Int)) : D := .sl (qs.map fun q => [strsD q.1,numsD q.2.1,strsD q.2.2.1,numsD q.2.2.2])
theorem chk_L {α : Type} (f : α → List D) {ls : List α} {i : Nat} (h : i < ls.length) : PO.eval .chk [.sl (ls.map f),.int .i64 i] = some [] := ev_chk (by omega) (by simp; omega)
theorem get_L1 {α : Type} (f : α → D) {ls : List α} {i : Nat} (h : i < ls.length) : PO.eval (.get 0 1) [.sl (ls.map fun l => [f l]),.int .i64 i] = some [f ls[i]] := by simp [PO.eval,h]
theorem makes_run (na : List (List UInt8)) (a : List Int) (nb : List (List UInt8)) (b : List Int) (l0 ranks : List Int) (lv : List (BitVec 64)) (sa : ∀ s ∈ na,s.length < 9223372036854775808) (sb : ∀ s ∈ nb,s.length < 9223372036854775808) :
 run tb 1 [strsD na,numsD a,strsD nb,numsD b,numsD l0,numsD ranks,bvsD lv] = some [.bool true] := by
 refine run_ir (x := ir1) rfl ?_
 have aw := awake31_run
 have q1 := small31_run na a
 have q2 := small31_run nb b
 by_cases c1 : (decide (na.length ≤ 10) && decide (a.length ≤ 100)) = true
 case neg =>
  rw [Bool.not_eq_true] at c1
  rw [c1] at q1
  simp (disch := omega) only [ir1,ir1p7,stepQ,stepL,eq_self,aBin,reduceIte,Int.reduceEq,Int.reduceLT,Int.reduceLE,Int.reduceGT,Int.reduceGE,q1,Bool.not_false,aw]
 rw [c1] at q1
 by_cases c2 : (decide (nb.length ≤ 10) && decide (b.length ≤ 100)) = true
 case neg =>
  rw [Bool.not_eq_true] at c2
  rw [c2] at q2
  simp (disch := omega) only [ir1,ir1p7,stepQ,stepL,eq_self,aBin,reduceIte,Int.reduceEq,Int.reduceLT,Int.reduceLE,Int.reduceGT,Int.reduceGE,q1,q2,Bool.not_false,Bool.not_true,aw]
 rw [c2] at q2
 simp only [Bool.and_eq_true,decide_eq_true_eq] at c1 c2
 by_cases c3 : ((ranks.length : Int) > 100)
 · simp (disch := omega) only [ir1,ir1p7,stepQ,stepL,eq_self,aBin,reduceIte,Int.reduceEq,Int.reduceLT,Int.reduceLE,Int.reduceGT,Int.reduceGE,q1,q2,Bool.not_true,len_N,c3,aw]
 by_cases c4 : ((lv.length : Int) > 80)
 · simp (disch := omega) only [ir1,ir1p7,stepQ,stepL,eq_self,aBin,reduceIte,Int.reduceEq,Int.reduceLT,Int.reduceLE,Int.reduceGT,Int.reduceGE,q1,q2,Bool.not_true,len_N,len_V,c3,c4,aw,decide_true]
 obtain ⟨l,hl,hn⟩ := new_run l0
 obtain ⟨r,p,r1,r2,hp,hr⟩ := range_run 0 3 l 0 hl (by omega) (by omega) (by omega) (by omega)
 obtain ⟨n,rfl⟩ := Int.eq_ofNat_of_zero_le (show 0 ≤ r by omega)
 have hn6 : n ≤ 6 := by omega
 have h64 := pow6 hn6
 have hr : run tb 3 [.int .i64 0,.int .i64 3,numsD l,.int .i64 0] = some [.int .i64 n,numsD l,.int .i64 p] := hr
 obtain ⟨ra,p2,hra,hp2,hsa⟩ := some_run n hn6 l p hl hp
 obtain ⟨rb,p3,hrb,hp3,hsb⟩ := some_run n hn6 l p2 hl hp2
 obtain ⟨S1,p4,hp4,hS1⟩ := set_run l p3 hl hp3
 obtain ⟨S2,p5,hp5,hS2⟩ := set_run l p4 hl hp4
 obtain ⟨S3,p6,hp6,hS3⟩ := set_run l p5 hl hp5
 have hmk3 : PO.eval (.mk 1 3) [bvD S1,bvD S2,bvD S3] = some [bvsD [S1,S2,S3]] := rfl
 have hvoc := voc_run n (by omega)
 have hmk2 : PO.eval (.mk 1 2) [strsD na,strsD (vocN n)] = some [namesLD [na,vocN n]] := rfl
 have hl2 : PO.eval .lenL [namesLD [na,vocN n]] = some [.int .i64 2] := rfl
 have hvs := vocN_short (n := n)
 have hvl := vocN_len n
 have hns : ∀ ns ∈ [na,vocN n],ns.length < 1000000000 ∧ ∀ s ∈ ns,s.length < 9223372036854775808 := by
  intro ns hm
  simp only [List.mem_cons,List.not_mem_nil,or_false] at hm
  rcases hm with rfl | rfl
  · exact ⟨by omega,sa⟩
  · exact ⟨by omega,fun s hs => by rw [hvs s hs]; omega⟩
 have hconv : PO.eval (.conv .u64) [.int .i64 (n : Int)] = some [.int .u64 (n : Int)] := bv_convN _ (by omega)
 have hsh : PO.eval (.bin .shl false) [.int .i64 1,.int .u64 (n : Int)] = some [.int .i64 ((2 ^ n : Nat) : Int)] := int_shl1 _ _ (by omega)
 obtain ⟨cut,hcut⟩ : ∃ cut : Nat,(cut : Int) = (if ((2 ^ n : Nat) : Int) < (ranks.length : Int) then ((2 ^ n : Nat) : Int) else (ranks.length : Int)) ∧ cut ≤ ranks.length := by
  by_cases h : ((2 ^ n : Nat) : Int) < (ranks.length : Int)
  · exact ⟨2 ^ n,by rw [if_pos h],by omega⟩
  · exact ⟨ranks.length,by rw [if_neg h],Nat.le_refl _⟩
 have hmin : PO.eval .min [.int .i64 (ranks.length : Int),.int .i64 ((2 ^ n : Nat) : Int)] = some [.int .i64 (cut : Int)] := by rw [ev_min,← hcut.1]
 have hsub : PO.eval (.subL 1) [numsD ranks,.int .i64 0,.int .i64 (cut : Int)] = some [numsD (ranks.take cut)] := by
  show PO.eval (.subL 1) [.sl (ranks.map numR),.int .i64 0,.int .i64 (cut : Int)] = some [.sl ((ranks.take cut).map numR)]
  rw [ev_subL (by omega) (by omega) (by simp; omega) (by simp [numR])]
  simp [List.map_take]
 have hmkr : PO.eval (.mk 1 3) [numsD ranks,numsD a,numsD (ranks.take cut)] = some [numsLD [ranks,a,ranks.take cut]] := rfl
 have hl3 : PO.eval .lenL [numsLD [ranks,a,ranks.take cut]] = some [.int .i64 3] := rfl
 have hrk : ∀ x ∈ [ranks,a,ranks.take cut],x.length < 1000000000 := by
  intro x hm
  simp only [List.mem_cons,List.not_mem_nil,or_false] at hm
  rcases hm with rfl | rfl | rfl
  · omega
  · omega
  · simp; omega
 have hmkl : PO.eval (.mk 1 2) [bvsD lv,bvsD [S1,S2,S3]] = some [bvsLD [lv,[S1,S2,S3]]] := rfl
 have hl22 : PO.eval .lenL [bvsLD [lv,[S1,S2,S3]]] = some [.int .i64 2] := rfl
 have hlv : ∀ x ∈ [lv,[S1,S2,S3]],x.length < 100000000 := by
  intro x hm
  simp only [List.mem_cons,List.not_mem_nil,or_false] at hm
  rcases hm with rfl | rfl
  · omega
  · simp
 have hn3 : [ranks,a,ranks.take cut].length = 3 := rfl
 have hn2 : [lv,[S1,S2,S3]].length = 2 := rfl
 have hnn2 : [na,vocN n].length = 2 := rfl
 generalize [ranks,a,ranks.take cut] = rks at hmkr hl3 hrk hn3
 generalize [lv,[S1,S2,S3]] = lvs at hmkl hl22 hlv hn2
 generalize [na,vocN n] = nss at hmk2 hl2 hns hnn2
 have hra1 := norm_len ra
 have hrb1 := norm_len rb
 simp (disch := omega) only [ir1,ir1p7,stepQ,stepL,eq_self,aBin,reduceIte,Int.reduceEq,Int.reduceLT,Int.reduceLE,Int.reduceGT,Int.reduceGE,q1,q2,Bool.not_true,len_N,len_V,c3,c4,decide_false,hn,hr,hsa,hsb,hS1,hS2,hS3,callQ_tvi,hmk3,hvoc,hmk2,hl2]
 refine loop_k (σ := Unit) 2 (fun _ _ => True) (fun i _ => [.int .i64 i]) (fun _ _ => [.bool true]) ?_ ?_ 0 () (Nat.zero_le _) trivial
 · rintro i _ M hi _ hM
   have hnext := hM () trivial
   have hi' : ((i : Int) < 2) := by omega
   have hin : i < nss.length := by omega
   have hc : PO.eval .chk [namesLD nss,.int .i64 i] = some [] := chk_L _ hin
   have hg : PO.eval (.get 0 1) [namesLD nss,.int .i64 i] = some [strsD nss[i]] := get_L1 _ hin
   obtain ⟨k1,k2⟩ := hns _ (List.getElem_mem hin)
   generalize nss[i] = ns at hg k1 k2
   simp (disch := omega) only [ir1p6,stepQ,stepL,eq_self,aBin,reduceIte,Int.reduceEq,Int.reduceLT,Int.reduceLE,Int.reduceGT,Int.reduceGE,hi',hc,hg,len_N,hconv,hsh,hmin,hsub,hmkr,hl3]
   refine loop_k (σ := Unit) 3 (fun _ _ => True) (fun i _ => [.int .i64 i]) (fun _ _ => [.bool true]) ?_ ?_ 0 () (Nat.zero_le _) trivial
   · rintro j _ M2 hj _ hM2
     have hnext2 := hM2 () trivial
     have hj' : ((j : Int) < 3) := by omega
     have hjn : j < rks.length := by omega
     have hc2 : PO.eval .chk [numsLD rks,.int .i64 j] = some [] := chk_L _ hjn
     have hg2 : PO.eval (.get 0 1) [numsLD rks,.int .i64 j] = some [numsD rks[j]] := get_L1 _ hjn
     have hx := hrk _ (List.getElem_mem hjn)
     generalize rks[j] = x at hg2 hx
     have n1 := normal_run ns x k1 hx
     have n2 := normal3_run ns x k1 k2 hx
     obtain ⟨m2,rr,e,he,hm2,hrr⟩ := normV_ok ns x k1 hx
     rw [he] at n1 n2
     have hsm := sameO3_run m2 m2 rr rr hm2 hrr
     simp only [decide_true,Bool.and_self] at hsm
     simp (disch := omega) only [ir1p3,ir1p0,stepQ,stepL,eq_self,aBin,reduceIte,Int.reduceEq,Int.reduceLT,Int.reduceLE,Int.reduceGT,Int.reduceGE,hj',hc2,hg2,n1,n2,callQ_tvi,ibne,ne_eq,not_true,hsm,Bool.not_true,wr,natS,hnext2]
   · rintro _ M2 _
     have h33 : ¬ (((3 : Nat) : Int) < 3) := by omega
     simp (disch := omega) only [ir1p3,stepQ,stepL,eq_self,aBin,reduceIte,Int.reduceEq,Int.reduceLT,Int.reduceLE,Int.reduceGT,Int.reduceGE,h33,hmkl,hl22]
     refine loop_k (σ := Unit) 2 (fun _ _ => True) (fun i _ => [.int .i64 i]) (fun _ _ => [.bool true]) ?_ ?_ 0 () (Nat.zero_le _) trivial
     · rintro j _ M3 hj _ hM3
       have hnext3 := hM3 () trivial
       have hj' : ((j : Int) < 2) := by omega
       have hjn : j < lvs.length := by omega
       have hc2 : PO.eval .chk [bvsLD lvs,.int .i64 j] = some [] := chk_L _ hjn
       have hg2 : PO.eval (.get 0 1) [bvsLD lvs,.int .i64 j] = some [bvsD lvs[j]] := get_L1 _ hjn
       have hx := hlv _ (List.getElem_mem hjn)
       generalize lvs[j] = x at hg2 hx
       have n1 := fromP_run ns x k1 hx
       have n2 := fromR_run ns x k1 k2 hx
       obtain ⟨m2,rr,e,he,hm2,hrr⟩ := fromV_ok ns x k1
       rw [he] at n1 n2
       have hsm := sameO3_run m2 m2 rr rr hm2 hrr
       simp only [decide_true,Bool.and_self] at hsm
       simp (disch := omega) only [ir1p2,ir1p1,stepQ,stepL,eq_self,aBin,reduceIte,Int.reduceEq,Int.reduceLT,Int.reduceLE,Int.reduceGT,Int.reduceGE,hj',hc2,hg2,n1,n2,ibne,ne_eq,not_true,hsm,Bool.not_true,wr,natS,hnext3]
     · rintro _ M3 _
       have h22 : ¬ (((2 : Nat) : Int) < 2) := by omega
       simp (disch := omega) only [ir1p2,stepQ,stepL,eq_self,aBin,reduceIte,Int.reduceEq,Int.reduceLT,Int.reduceLE,Int.reduceGT,Int.reduceGE,h22,wr,natS,hnext]
 · rintro _ M _
   have h22 : ¬ (((2 : Nat) : Int) < 2) := by omega
   obtain ⟨r3,p7,r31,r32,hp7,hr3⟩ := range_run 0 3 l p6 hl hp6 (by omega) (by omega) (by omega)
   obtain ⟨n3,rfl⟩ := Int.eq_ofNat_of_zero_le (show 0 ≤ r3 by omega)
   have hn36 : n3 ≤ 6 := by omega
   have h643 := pow6 hn36
   have hr3 : run tb 3 [.int .i64 0,.int .i64 3,numsD l,.int .i64 p6] = some [.int .i64 n3,numsD l,.int .i64 p7] := hr3
   obtain ⟨rc,p8,hrc,hp8,hsc⟩ := some_run n3 hn36 l p7 hl hp7
   have hmk5 : PO.eval (.mk 4 5) [strsD na,numsD a,strsD nb,numsD b,strsD (vocN n),numsD (normS ra),strsD (vocN n),numsD (normS rb),strsD (vocN n),numsD (normS ra),strsD na,numsD a,strsD na,numsD a,strsD (vocN n),numsD (normS rb),strsD (vocN n),numsD (normS ra),strsD (vocN n3),numsD (normS rc)] =
    some [prsD [(na,a,nb,b),(vocN n,normS ra,vocN n,normS rb),(vocN n,normS ra,na,a),(na,a,vocN n,normS rb),(vocN n,normS ra,vocN n3,normS rc)]] := rfl
   have hl5 : PO.eval .lenL [prsD [(na,a,nb,b),(vocN n,normS ra,vocN n,normS rb),(vocN n,normS ra,na,a),(na,a,vocN n,normS rb),(vocN n,normS ra,vocN n3,normS rc)]] = some [.int .i64 5] := rfl
   have hvs3 := vocN_short (n := n3)
   have hvl3 := vocN_len n3
   have hrc1 := norm_len rc
   have sv : ∀ s ∈ vocN n,s.length < 9223372036854775808 := fun s hs => by rw [hvs s hs]; omega
   have sv3 : ∀ s ∈ vocN n3,s.length < 9223372036854775808 := fun s hs => by rw [hvs3 s hs]; omega
   have hall : ∀ q ∈ [(na,a,nb,b),(vocN n,normS ra,vocN n,normS rb),(vocN n,normS ra,na,a),(na,a,vocN n,normS rb),(vocN n,normS ra,vocN n3,normS rc)],
    q.1.length < 1000000000 ∧ q.2.1.length < 1000000000 ∧ q.2.2.1.length < 1000000000 ∧ q.2.2.2.length < 1000000000 ∧ (∀ s ∈ q.1,s.length < 9223372036854775808) ∧ (∀ s ∈ q.2.2.1,s.length < 9223372036854775808) := by
    intro q hq
    simp only [List.mem_cons,List.not_mem_nil,or_false] at hq
    rcases hq with rfl | rfl | rfl | rfl | rfl
    · exact ⟨by simp only; omega,by simp only; omega,by simp only; omega,by simp only; omega,sa,sb⟩
    · exact ⟨by simp only; omega,by simp only; omega,by simp only; omega,by simp only; omega,sv,sv⟩
    · exact ⟨by simp only; omega,by simp only; omega,by simp only; omega,by simp only; omega,sv,sa⟩
    · exact ⟨by simp only; omega,by simp only; omega,by simp only; omega,by simp only; omega,sa,sv⟩
    · exact ⟨by simp only; omega,by simp only; omega,by simp only; omega,by simp only; omega,sv,sv3⟩
   have h5 : [(na,a,nb,b),(vocN n,normS ra,vocN n,normS rb),(vocN n,normS ra,na,a),(na,a,vocN n,normS rb),(vocN n,normS ra,vocN n3,normS rc)].length = 5 := rfl
   generalize [(na,a,nb,b),(vocN n,normS ra,vocN n,normS rb),(vocN n,normS ra,na,a),(na,a,vocN n,normS rb),(vocN n,normS ra,vocN n3,normS rc)] = qs at hmk5 hl5 hall h5
   simp (disch := omega) only [ir1p6,stepQ,stepL,eq_self,aBin,reduceIte,Int.reduceEq,Int.reduceLT,Int.reduceLE,Int.reduceGT,Int.reduceGE,h22,hr3,hsc,hmk5,hl5]
   refine loop_k (σ := Unit) 5 (fun _ _ => True) (fun i _ => [.int .i64 i]) (fun _ _ => [.bool true]) ?_ ?_ 0 () (Nat.zero_le _) trivial
   · rintro j _ M3 hj _ hM3
     have hnext3 := hM3 () trivial
     have hj' : ((j : Int) < 5) := by omega
     have hjn : j < qs.length := by omega
     have hc2 : PO.eval .chk [prsD qs,.int .i64 j] = some [] := chk_L _ hjn
     have hg2 : PO.eval (.get 0 4) [prsD qs,.int .i64 j] = some [strsD qs[j].1,numsD qs[j].2.1,strsD qs[j].2.2.1,numsD qs[j].2.2.2] := by simp [PO.eval,prsD,hjn]
     obtain ⟨w1,w2,w3,w4,w5,w6⟩ := hall _ (List.getElem_mem hjn)
     generalize qs[j] = q at hg2 w1 w2 w3 w4 w5 w6
     have n1 := refineP_run q.1 q.2.1 q.2.2.1 q.2.2.2 w1 w2 w3 w4
     have n2 := refineR_run q.1 q.2.1 q.2.2.1 q.2.2.2 w1 w2 w3 w4 w5 w6
     obtain ⟨m2,rr,e,he,hm2,hrr⟩ := refV_ok q.1 q.2.1 q.2.2.1 q.2.2.2 w1 w2
     rw [he] at n1 n2
     have hsm := sameO3_run m2 m2 rr rr hm2 hrr
     simp only [decide_true,Bool.and_self] at hsm
     simp (disch := omega) only [ir1p5,ir1p4,stepQ,stepL,eq_self,aBin,reduceIte,Int.reduceEq,Int.reduceLT,Int.reduceLE,Int.reduceGT,Int.reduceGE,hj',hc2,hg2,n1,n2,ibne,ne_eq,not_true,hsm,Bool.not_true,wr,natS,hnext3]
   · rintro _ M3 _
     have h55 : ¬ (((5 : Nat) : Int) < 5) := by omega
     simp (disch := omega) only [ir1p5,stepQ,stepL,eq_self,aBin,reduceIte,Int.reduceEq,Int.reduceLT,Int.reduceLE,Int.reduceGT,Int.reduceGE,h55,aw]
end Go.Proofs.Ytjicfdolcieliaa

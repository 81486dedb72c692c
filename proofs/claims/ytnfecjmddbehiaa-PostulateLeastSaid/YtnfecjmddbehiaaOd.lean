/- What functions of the program compute: lemmas. -/
import Derived.Test.YtnfecjmddbehiaaWd
import Derived.Test.YtnfecjmddbehiaaAm5
import Derived.Test.YtnfecjmddbehiaaAm6
set_option linter.unusedSimpArgs false
set_option linter.unusedVariables false
set_option linter.unusedSectionVars false
namespace Go.Proofs.Ytnfecjmddbehiaa
open Go Am
set_option maxRecDepth 100000
theorem in_run (l : List Int) (x : Int) (hl : l.length < 1000000000) : run tb 38 [numsD l,.int .i64 x] = some [.bool (decide (x ∈ l))] := by
 refine run_ir (x := ir38) rfl ?_
 have h0 : decide (x ∈ l) = decide (x ∈ l.drop 0) := by simp
 rw [h0]
 simp (disch := omega) only [ir38,stepQ,stepL,eq_self,aBin,reduceIte,Int.reduceEq,Int.reduceLT,Int.reduceLE,Int.reduceGT,Int.reduceGE,len_N]
 refine loop_k (σ := Unit) l.length (fun _ _ => True) (fun i _ => [.int .i64 i]) (fun i _ => [.bool (decide (x ∈ l.drop i))]) ?_ ?_ 0 () (Nat.zero_le _) trivial
 · rintro i _ L hi _ hL
   have hnext := hL () trivial
   rw [drop_s hi]
   by_cases h : l[i] = x
   · have hd : decide (x ∈ l[i] :: l.drop (i + 1)) = true := by simp [h]
     rw [hd]
     simp (disch := omega) only [ir38p0,stepQ,stepL,eq_self,aBin,reduceIte,Int.reduceEq,Int.reduceLT,Int.reduceLE,Int.reduceGT,Int.reduceGE,hi,row_N,h]
   · have hd : decide (x ∈ l[i] :: l.drop (i + 1)) = decide (x ∈ l.drop (i + 1)) := by
      congr 1; simp only [List.mem_cons,eq_iff_iff]; exact ⟨fun h1 => h1.resolve_left fun e => h e.symm,.inr⟩
     rw [hd]
     simp (disch := omega) only [ir38p0,stepQ,stepL,eq_self,aBin,reduceIte,Int.reduceEq,Int.reduceLT,Int.reduceLE,Int.reduceGT,Int.reduceGE,hi,row_N,h,wr,natS,hnext]
 · rintro _ L _
   rw [List.drop_length]
   simp (disch := omega) only [ir38p0,stepQ,stepL,eq_self,aBin,reduceIte,Int.reduceEq,Int.reduceLT,Int.reduceLE,Int.reduceGT,Int.reduceGE,Nat.lt_irrefl]
   simp
theorem validateO3_run (names : List (List UInt8)) (ranks : List Int) (hn : names.length < 1000000000) (hs : ∀ s ∈ names,s.length < 9223372036854775808) (hl : ranks.length < 1000000000) : run tb 23 [strsD names,numsD ranks] = some [.int .i64 (orderE names ranks)] := by
 refine run_ir (x := ir23) rfl ?_
 have hv := valid3_run names hn hs
 have key : vocOk names = true → ranks.length = 2 ^ names.length → ∀ b : Bool,b = false → den (run tb) ir23p3 [strsD names,numsD ranks,.bool b] [] = some [.int .i64 (orderE names ranks)] := by
  rintro h1 h2 _ rfl
  unfold orderE
  rw [if_pos ⟨h1,h2⟩]
  simp (disch := omega) only [ir23p3,stepQ,stepL,eq_self,aBin,reduceIte,Int.reduceEq,Int.reduceLT,Int.reduceLE,Int.reduceGT,Int.reduceGE]
  refine loop_k (σ := Unit) ranks.length (fun i _ => rkIn ranks.length (ranks.take i) = true) (fun i _ => [.int .i64 (maxR (ranks.take i)),.int .i64 i]) (fun _ _ => [.int .i64 (if rkOk ranks = true then 0 else 8)]) ?_ ?_ 0 () (Nat.zero_le _) rfl
  · rintro i _ L hi hin hL
    have htk : ranks.take (i + 1) = ranks.take i ++ [ranks[i]] := by rw [List.take_add_one,List.getElem?_eq_getElem hi]; rfl
    have hmx : maxR (ranks.take (i + 1)) = (if ranks[i] > maxR (ranks.take i) then ranks[i] else maxR (ranks.take i)) := by rw [htk]; exact maxF_snoc _ _ _
    have hbad : ¬ (0 ≤ ranks[i] ∧ ranks[i] < ranks.length) → rkOk ranks = false := fun h => by
     cases hk : rkOk ranks with
     | false => rfl
     | true => exact absurd (rkIn_mem (rkOk_in hk) _ (List.getElem_mem hi)) h
    by_cases a1 : ranks[i] < 0
    · rw [hbad (by omega)]
      simp (disch := omega) only [ir23p2,ir23p0,stepQ,stepL,eq_self,aBin,reduceIte,Int.reduceEq,Int.reduceLT,Int.reduceLE,Int.reduceGT,Int.reduceGE,hi,len_N,row_N,a1,Bool.false_eq_true,if_false]
    by_cases a2 : ranks[i] ≥ (ranks.length : Int)
    · rw [hbad (by omega)]
      simp (disch := omega) only [ir23p2,ir23p0,stepQ,stepL,eq_self,aBin,reduceIte,Int.reduceEq,Int.reduceLT,Int.reduceLE,Int.reduceGT,Int.reduceGE,hi,len_N,row_N,a1,a2,Bool.false_eq_true,if_false]
    · have hnext := hL () (by rw [htk]; simp only [rkIn,List.all_append,Bool.and_eq_true,List.all_cons,List.all_nil,Bool.and_true,decide_eq_true_eq]; exact ⟨hin,by omega,by omega⟩)
      rw [hmx] at hnext
      simp (disch := omega) only [ir23p2,ir23p0,stepQ,stepL,eq_self,aBin,reduceIte,Int.reduceEq,Int.reduceLT,Int.reduceLE,Int.reduceGT,Int.reduceGE,hi,len_N,row_N,a1,a2,wr,natS,hnext]
  · rintro _ L hin
    rw [List.take_length] at hin ⊢
    have h0 := maxR_ge ranks
    have hlt := maxR_lt hin (by rw [h2]; exact Nat.pow_pos (by omega))
    obtain ⟨m,hm⟩ := Int.eq_ofNat_of_zero_le h0
    have hml : m < ranks.length := by rw [hm] at hlt; exact Int.ofNat_lt.1 hlt
    have he : rkOk ranks = (List.range m).all fun (k : Nat) => decide ((k : Int) ∈ ranks) := by simp only [rkOk,hin,Bool.true_and,hm,Int.ofNat_eq_natCast,Int.toNat_natCast]
    have hr : (List.range m).all (fun (k : Nat) => decide ((k : Int) ∈ ranks)) = (List.range' 0 m).all (fun (k : Nat) => decide ((k : Int) ∈ ranks)) := by rw [List.range_eq_range']
    rw [he,hr]
    rw [hm] at *
    simp (disch := omega) only [ir23p2,stepQ,stepL,eq_self,aBin,reduceIte,Int.reduceEq,Int.reduceLT,Int.reduceLE,Int.reduceGT,Int.reduceGE,len_N,Nat.lt_irrefl]
    refine loop_k (σ := Unit) m (fun _ _ => True) (fun i _ => [.int .i64 i]) (fun i _ => [.int .i64 (if ((List.range' i (m - i)).all fun (k : Nat) => decide ((k : Int) ∈ ranks)) = true then 0 else 8)]) ?_ ?_ 0 () (Nat.zero_le _) trivial
    · rintro i _ L hi _ hL
      have hnext := hL () trivial
      have hin := in_run ranks i hl
      rw [show m - i = (m - (i + 1)) + 1 by omega,List.range'_succ,List.all_cons]
      cases hd : decide ((i : Int) ∈ ranks) with
      | true =>
       rw [hd] at hin
       rw [Bool.true_and]
       simp (disch := omega) only [ir23p1,stepQ,stepL,eq_self,aBin,reduceIte,Int.reduceEq,Int.reduceLT,Int.reduceLE,Int.reduceGT,Int.reduceGE,hi,hin,wr,natS,hnext]
      | false =>
       rw [hd] at hin
       rw [Bool.false_and]
       simp (disch := omega) only [ir23p1,stepQ,stepL,eq_self,aBin,reduceIte,Int.reduceEq,Int.reduceLT,Int.reduceLE,Int.reduceGT,Int.reduceGE,hi,hin,Bool.false_eq_true,if_false]
    · rintro _ L _
      rw [Nat.sub_self]
      simp (disch := omega) only [ir23p1,stepQ,stepL,eq_self,aBin,reduceIte,Int.reduceEq,Int.reduceLT,Int.reduceLE,Int.reduceGT,Int.reduceGE,Nat.lt_irrefl,List.range'_zero,List.all_nil]
 have bad : orderE names ranks = 1 → ∀ b : Bool,b = true → den (run tb) ir23p3 [strsD names,numsD ranks,.bool b] [] = some [.int .i64 (orderE names ranks)] := by
  rintro h _ rfl
  rw [h]
  simp (disch := omega) only [ir23p3,stepQ,stepL,eq_self,aBin,reduceIte,Int.reduceEq,Int.reduceLT,Int.reduceLE,Int.reduceGT,Int.reduceGE]
 cases h1 : vocOk names with
 | false =>
  rw [h1] at hv
  have := bad (by simp [orderE,h1]) true rfl
  simp (disch := omega) only [ir23,stepQ,stepL,eq_self,aBin,reduceIte,Int.reduceEq,Int.reduceLT,Int.reduceLE,Int.reduceGT,Int.reduceGE,hv,this]
 | true =>
  rw [h1] at hv
  have h6 := vocOk_len h1
  by_cases h2 : ranks.length = 2 ^ names.length
  · have := key h1 h2 false rfl
    simp (disch := omega) only [ir23,stepQ,stepL,eq_self,aBin,reduceIte,Int.reduceEq,Int.reduceLT,Int.reduceLE,Int.reduceGT,Int.reduceGE,bvQ,wu,shl_norm,shr_norm,and1_norm,hv,len_N,len_S,ibne,h2,this]
  · have := bad (by simp [orderE,h2]) true rfl
    simp (disch := omega) only [ir23,stepQ,stepL,eq_self,aBin,reduceIte,Int.reduceEq,Int.reduceLT,Int.reduceLE,Int.reduceGT,Int.reduceGE,bvQ,wu,shl_norm,shr_norm,and1_norm,hv,len_N,len_S,ibne,h2,this]
end Go.Proofs.Ytnfecjmddbehiaa

namespace Go.Proofs.Ytnfecjmddbehiaa
open Go Am
set_option maxRecDepth 100000
theorem most_run (names : D) (ranks : List Int) (hl : ranks.length < 1000000000) : run tb 40 [names,numsD ranks] = some [.int .i64 (maxR ranks)] := by
 refine run_ir (x := ir40) rfl ?_
 simp (disch := omega) only [ir40,stepQ,stepL,eq_self,aBin,reduceIte,Int.reduceEq,Int.reduceLT,Int.reduceLE,Int.reduceGT,Int.reduceGE]
 refine loop_k (σ := Unit) ranks.length (fun _ _ => True) (fun i _ => [.int .i64 (maxR (ranks.take i)),.int .i64 i]) (fun _ _ => [.int .i64 (maxR ranks)]) ?_ ?_ 0 () (Nat.zero_le _) trivial
 · rintro i _ L hi _ hL
   have hnext := hL () trivial
   have htk : ranks.take (i + 1) = ranks.take i ++ [ranks[i]] := by rw [List.take_add_one,List.getElem?_eq_getElem hi]; rfl
   have hmx : maxR (ranks.take (i + 1)) = (if ranks[i] > maxR (ranks.take i) then ranks[i] else maxR (ranks.take i)) := by rw [htk]; exact maxF_snoc _ _ _
   rw [hmx] at hnext
   simp (disch := omega) only [ir40p0,stepQ,stepL,eq_self,aBin,reduceIte,Int.reduceEq,Int.reduceLT,Int.reduceLE,Int.reduceGT,Int.reduceGE,len_N,hi,row_N,wr,natS,hnext]
 · rintro _ L _
   rw [List.take_length]
   simp (disch := omega) only [ir40p0,stepQ,stepL,eq_self,aBin,reduceIte,Int.reduceEq,Int.reduceLT,Int.reduceLE,Int.reduceGT,Int.reduceGE,len_N,Nat.lt_irrefl]
def whereS (ranks : List Int) (lo hi : Int) (n : Nat) : BitVec 64 := bitsTo (fun w => decide (ranks.getD w (-1) ≥ lo) && decide (ranks.getD w (-1) ≤ hi)) n
theorem where_run (names : D) (ranks : List Int) (hl : ranks.length < 1000000000) (lo hi : Int) : run tb 41 [names,numsD ranks,.int .i64 lo,.int .i64 hi] = some [bvD (whereS ranks lo hi ranks.length)] := by
 refine run_ir (x := ir41) rfl ?_
 simp (disch := omega) only [ir41,stepQ,stepL,eq_self,aBin,reduceIte,Int.reduceEq,Int.reduceLT,Int.reduceLE,Int.reduceGT,Int.reduceGE,bvQ,wu,shl_norm,shr_norm,and1_norm]
 refine loop_k (σ := Unit) ranks.length (fun _ _ => True) (fun i _ => [bvD (whereS ranks lo hi i),.int .i64 i]) (fun _ _ => [bvD (whereS ranks lo hi ranks.length)]) ?_ ?_ 0 () (Nat.zero_le _) trivial
 · rintro i _ L hi' _ hL
   have hnext := hL () trivial
   have hg : ranks.getD i (-1) = ranks[i] := by simp [hi']
   by_cases a1 : ranks[i] ≥ lo
   · by_cases a2 : ranks[i] ≤ hi
     · have hs : whereS ranks lo hi (i + 1) = whereS ranks lo hi i ||| 1#64 <<< i := (bits_s1 (by rw [hg]; simp [a1,a2])).symm
       rw [hs] at hnext
       simp (disch := omega) only [ir41p2,ir41p1,ir41p0,stepQ,stepL,eq_self,aBin,reduceIte,Int.reduceEq,Int.reduceLT,Int.reduceLE,Int.reduceGT,Int.reduceGE,bvQ,wu,shl_norm,shr_norm,and1_norm,len_N,hi',row_N,a1,a2,wr,natS,hnext]
     · have hs : whereS ranks lo hi (i + 1) = whereS ranks lo hi i := (bits_s0 (by rw [hg]; simp [a2])).symm
       rw [hs] at hnext
       simp (disch := omega) only [ir41p2,ir41p1,ir41p0,stepQ,stepL,eq_self,aBin,reduceIte,Int.reduceEq,Int.reduceLT,Int.reduceLE,Int.reduceGT,Int.reduceGE,bvQ,wu,shl_norm,shr_norm,and1_norm,len_N,hi',row_N,a1,a2,wr,natS,hnext]
   · have hs : whereS ranks lo hi (i + 1) = whereS ranks lo hi i := (bits_s0 (by rw [hg]; simp [a1])).symm
     rw [hs] at hnext
     simp (disch := omega) only [ir41p2,ir41p1,ir41p0,stepQ,stepL,eq_self,aBin,reduceIte,Int.reduceEq,Int.reduceLT,Int.reduceLE,Int.reduceGT,Int.reduceGE,bvQ,wu,shl_norm,shr_norm,and1_norm,len_N,hi',row_N,a1,wr,natS,hnext]
 · rintro _ L _
   simp (disch := omega) only [ir41p2,stepQ,stepL,eq_self,aBin,reduceIte,Int.reduceEq,Int.reduceLT,Int.reduceLE,Int.reduceGT,Int.reduceGE,len_N,Nat.lt_irrefl]
theorem where_lev (ranks : List Int) (k n : Nat) (hn : n ≤ 64) : whereS ranks k k n = levS ranks k n := bits_congr hn fun w _ => by
 by_cases h : ranks.getD w (-1) = (k : Int)
 · rw [h]; simp
 · simp only [h,decide_false,Bool.and_eq_false_iff,decide_eq_false_iff_not]; omega
theorem least3_run (names : List (List UInt8)) (ranks : List Int) (hn : names.length < 1000000000) (hs : ∀ s ∈ names,s.length < 9223372036854775808) (hl : ranks.length < 1000000000) (S : BitVec 64) : run tb 26 [strsD names,numsD ranks,bvD S] = some [bvD (leastS names ranks S)] := by
 refine run_ir (x := ir26) rfl ?_
 have hv := validateO3_run names ranks hn hs hl
 have hmo := most_run (strsD names) ranks hl
 unfold leastS levelsO
 by_cases h : orderE names ranks = 0
 · rw [if_pos h]
   have hlen := orderE_len h
   have hlt := maxR_lt (rkOk_in (orderE_zero h).2.2) hlen.2
   obtain ⟨m,hm⟩ := Int.eq_ofNat_of_zero_le (maxR_ge ranks)
   have hml : m < ranks.length := by rw [hm] at hlt; exact Int.ofNat_lt.1 hlt
   rw [h] at hv
   rw [hm] at hmo
   have hls : levelsS ranks = (List.range (m + 1)).map fun k => levS ranks k ranks.length := by unfold levelsS; rw [hm]; rfl
   rw [hls]
   have hll : ((List.range (m + 1)).map fun k => levS ranks k ranks.length).length = m + 1 := by simp
   have hlg : ∀ i (hi : i < ((List.range (m + 1)).map fun k => levS ranks k ranks.length).length),((List.range (m + 1)).map fun k => levS ranks k ranks.length)[i] = whereS ranks i i ranks.length := fun i hi => by
    rw [where_lev _ _ _ hlen.1]; simp
   generalize ((List.range (m + 1)).map fun k => levS ranks k ranks.length) = ls at *
   simp (disch := omega) only [ir26,stepQ,stepL,eq_self,aBin,reduceIte,Int.reduceEq,Int.reduceLT,Int.reduceLE,Int.reduceGT,Int.reduceGE,hv,ibne]
   refine loop_k (σ := Unit) ls.length (fun _ _ => True) (fun i _ => [.int .i64 i]) (fun i _ => [bvD (leastL S (ls.drop i))]) ?_ ?_ 0 () (Nat.zero_le _) trivial
   · rintro i _ L hi _ hL
     have hnext := hL () trivial
     have hle : i ≤ m := by omega
     have hw := where_run (strsD names) ranks hl i i
     rw [leastL_drop S hi,hlg i hi]
     by_cases h : whereS ranks i i ranks.length &&& S = 0#64
     · rw [if_pos h]
       simp (disch := omega) only [ir26p0,stepQ,stepL,eq_self,aBin,reduceIte,Int.reduceEq,Int.reduceLT,Int.reduceLE,Int.reduceGT,Int.reduceGE,bvQ,wu,shl_norm,shr_norm,and1_norm,hmo,hle,hw,h,wr,natS,hnext]
     · rw [if_neg h]
       simp (disch := omega) only [ir26p0,stepQ,stepL,eq_self,aBin,reduceIte,Int.reduceEq,Int.reduceLT,Int.reduceLE,Int.reduceGT,Int.reduceGE,bvQ,wu,shl_norm,shr_norm,and1_norm,hmo,hle,hw,h]
   · rintro _ L _
     have hle : ¬ ls.length ≤ m := by omega
     rw [List.drop_length]
     simp (disch := omega) only [ir26p0,stepQ,stepL,eq_self,aBin,reduceIte,Int.reduceEq,Int.reduceLT,Int.reduceLE,Int.reduceGT,Int.reduceGE,bvQ,wu,shl_norm,shr_norm,and1_norm,hmo,hle,leastL]
 · rw [if_neg h]
   simp (disch := omega) only [ir26,stepQ,stepL,eq_self,aBin,reduceIte,Int.reduceEq,Int.reduceLT,Int.reduceLE,Int.reduceGT,Int.reduceGE,bvQ,wu,shl_norm,shr_norm,and1_norm,hv,ibne,h,leastL]
theorem beliefs3_run (names : List (List UInt8)) (ranks : List Int) (hn : names.length < 1000000000) (hs : ∀ s ∈ names,s.length < 9223372036854775808) (hl : ranks.length < 1000000000) : run tb 25 [strsD names,numsD ranks] = some [bvD (beliefsS names ranks)] := by
 refine run_ir (x := ir25) rfl ?_
 have h := least3_run names ranks hn hs hl (allS names)
 have h2 := all3_run names hn hs
 rw [beliefs_all] at h
 simp (disch := omega) only [ir25,stepQ,stepL,eq_self,aBin,reduceIte,Int.reduceEq,Int.reduceLT,Int.reduceLE,Int.reduceGT,Int.reduceGE,h2,h]
theorem voc_run (n : Nat) (hn : n ≤ 26) : run tb 18 [.int .i64 n] = some [strsD (vocN n)] := by
 refine run_ir (x := ir18) rfl ?_
 simp (disch := omega) only [ir18,stepQ,stepL,eq_self,aBin,reduceIte,Int.reduceEq,Int.reduceLT,Int.reduceLE,Int.reduceGT,Int.reduceGE,strs_nil]
 refine loop_k (σ := Unit) n (fun _ _ => True) (fun i _ => [.int .i64 i,strsD (vocN i)]) (fun _ _ => [strsD (vocN n)]) ?_ ?_ 0 () (Nat.zero_le _) trivial
 · rintro i _ L hi _ hL
   have hnext := hL () trivial
   rw [vocN_succ] at hnext
   have hlen := vocN_len i
   simp (disch := omega) only [ir18p0,stepQ,stepL,eq_self,aBin,reduceIte,Int.reduceEq,Int.reduceLT,Int.reduceLE,Int.reduceGT,Int.reduceGE,hi,wr,w8,ev_toS1,app_S,natS,hnext]
 · rintro _ L _
   simp (disch := omega) only [ir18p0,stepQ,stepL,eq_self,aBin,reduceIte,Int.reduceEq,Int.reduceLT,Int.reduceLE,Int.reduceGT,Int.reduceGE,Nat.lt_irrefl]
theorem range_run (lo hi : Int) (l : List Int) (p : Nat) (hl : l.length ≤ 2000) (hp : p ≤ l.length) (h1 : -1000000 ≤ lo) (h2 : lo ≤ hi) (h3 : hi < 1000000) :
 ∃ (r : Int) (b : Nat),lo ≤ r ∧ r ≤ hi ∧ b ≤ l.length ∧ run tb 4 [.int .i64 lo,.int .i64 hi,numsD l,.int .i64 p] = some [.int .i64 r,numsD l,.int .i64 b] := by
 obtain ⟨r,b,r0,r1,hb,hr⟩ := n_run (hi - lo + 1) l p hl hp (by omega) (by omega)
 refine ⟨lo + r,b,by omega,by omega,hb,run_ir (x := ir4) rfl ?_⟩
 simp (disch := omega) only [ir4,stepQ,stepL,eq_self,aBin,reduceIte,Int.reduceEq,Int.reduceLT,Int.reduceLE,Int.reduceGT,Int.reduceGE,wr,hr]
end Go.Proofs.Ytnfecjmddbehiaa

namespace Go.Proofs.Ytnfecjmddbehiaa
open Go Am
set_option maxRecDepth 100000
theorem foldB_len (r : Int) : ∀ (l acc : List Int),(l.foldl (belowF r) acc).length ≤ acc.length + l.length
 | [],acc => by simp
 | x :: l,acc => by
  have := foldB_len r l (belowF r acc x)
  have h2 : (belowF r acc x).length ≤ acc.length + 1 := by unfold belowF; split <;> simp
  simp only [List.foldl_cons,List.length_cons]; omega
def stg (l : List Int) (i : Nat) : List Int := (List.range l.length).map fun (k : Nat) => if k < i then ((belowL (l.getD k 0) l).length : Int) else 0
theorem stg_zero (l : List Int) : List.replicate l.length 0 = stg l 0 := by
 unfold stg
 refine List.ext_getElem (by simp) fun i h1 h2 => ?_
 simp
theorem stg_succ {l : List Int} {i : Nat} (hi : i < l.length) : (stg l i).set i ((belowL l[i] l).length : Int) = stg l (i + 1) := by
 unfold stg
 refine List.ext_getElem (by simp) fun k h1 h2 => ?_
 rw [List.getElem_set]
 simp only [List.getElem_map,List.getElem_range]
 by_cases h : i = k
 · subst h; simp [hi]
 · have : (k < i + 1) = (k < i) := propext ⟨fun h => by omega,fun h => by omega⟩
   simp [h,this]
theorem stg_end (l : List Int) : stg l l.length = normS l := by
 unfold stg normS
 refine List.ext_getElem (by simp) fun k h1 h2 => ?_
 have hk : k < l.length := by simpa using h2
 simp [hk]
def normE (names : List (List UInt8)) (l : List Int) : Bool := vocOk names && decide (l.length = 2 ^ names.length)
theorem normal3_run (names : List (List UInt8)) (l : List Int) (hn : names.length < 1000000000) (hs : ∀ s ∈ names,s.length < 9223372036854775808) (hl : l.length < 1000000000) :
 run tb 32 [strsD names,numsD l] = some (if normE names l = true then [strsD names,numsD (normS l),.int .i64 0] else [.sl [],.sl [],.int .i64 1]) := by
 refine run_ir (x := ir32) rfl ?_
 have hv := valid3_run names hn hs
 have key : normE names l = true → den (run tb) ir32p4 [strsD names,numsD l,.bool false] [] = some (if normE names l = true then [strsD names,numsD (normS l),.int .i64 0] else [.sl [],.sl [],.int .i64 1]) := by
  intro h
  rw [if_pos h]
  have hmk := mkN hl
  rw [stg_zero] at hmk
  simp (disch := omega) only [ir32p4,stepQ,stepL,eq_self,aBin,reduceIte,Int.reduceEq,Int.reduceLT,Int.reduceLE,Int.reduceGT,Int.reduceGE,app_S0,len_N,hmk]
  refine loop_k (σ := Unit) l.length (fun _ _ => True) (fun i _ => [.int .i64 i,numsD (stg l i)]) (fun _ _ => [strsD names,numsD (normS l),.int .i64 0]) ?_ ?_ 0 () (Nat.zero_le _) trivial
  · rintro i _ L hi _ hL
    have hnext := hL () trivial
    rw [← stg_succ hi] at hnext
    have hsl : (stg l i).length = l.length := by simp [stg]
    simp (disch := omega) only [ir32p3,stepQ,stepL,eq_self,aBin,reduceIte,Int.reduceEq,Int.reduceLT,Int.reduceLE,Int.reduceGT,Int.reduceGE,len_N,hi,nums_nil]
    refine loop_k (σ := Unit) l.length (fun _ _ => True) (fun v _ => [.int .i64 v,numsD ((l.take v).foldl (belowF l[i]) [])]) (fun _ _ => [strsD names,numsD (normS l),.int .i64 0]) ?_ ?_ 0 () (Nat.zero_le _) trivial
    · rintro v _ M hv' _ hM
      have hnext2 := hM () trivial
      have htk : l.take (v + 1) = l.take v ++ [l[v]] := by rw [List.take_add_one,List.getElem?_eq_getElem hv']; rfl
      have hfl : (l.take (v + 1)).foldl (belowF l[i]) [] = belowF l[i] ((l.take v).foldl (belowF l[i]) []) l[v] := by rw [htk,List.foldl_append]; rfl
      have hal := foldB_len l[i] (l.take v) []
      rw [hfl] at hnext2
      simp only [List.length_nil,List.length_take] at hal
      generalize (l.take v).foldl (belowF l[i]) [] = acc at *
      have hin := in_run acc l[v] (by omega)
      by_cases a1 : l[v] < l[i]
      · by_cases a2 : l[v] ∈ acc
        · have : belowF l[i] acc l[v] = acc := by unfold belowF; rw [if_neg (by simp [a2])]
          rw [this] at hnext2
          rw [decide_eq_true a2] at hin
          simp (disch := omega) only [ir32p2,ir32p1,ir32p0,stepQ,stepL,eq_self,aBin,reduceIte,Int.reduceEq,Int.reduceLT,Int.reduceLE,Int.reduceGT,Int.reduceGE,len_N,hv',hi,row_N,a1,hin,callQ_tb,wr,natS,hnext2]
        · have : belowF l[i] acc l[v] = acc ++ [l[v]] := by unfold belowF; rw [if_pos ⟨a1,a2⟩]
          rw [this] at hnext2
          rw [decide_eq_false a2] at hin
          simp (disch := omega) only [ir32p2,ir32p1,ir32p0,stepQ,stepL,eq_self,aBin,reduceIte,Int.reduceEq,Int.reduceLT,Int.reduceLE,Int.reduceGT,Int.reduceGE,len_N,hv',hi,row_N,a1,hin,callQ_tb,app_N,wr,natS,hnext2]
      · have : belowF l[i] acc l[v] = acc := by unfold belowF; rw [if_neg (by simp [a1])]
        rw [this] at hnext2
        simp (disch := omega) only [ir32p2,ir32p1,ir32p0,stepQ,stepL,eq_self,aBin,reduceIte,Int.reduceEq,Int.reduceLT,Int.reduceLE,Int.reduceGT,Int.reduceGE,len_N,hv',hi,row_N,a1,wr,natS,hnext2]
    · rintro _ M _
      rw [List.take_length]
      have hc := chk_N (l := stg l i) (i := i) (by omega)
      have hst := set_N (l := stg l i) (i := i) (by omega) ((belowL l[i] l).length : Int)
      simp only [belowL] at hst hnext
      simp (disch := omega) only [ir32p2,stepQ,stepL,eq_self,aBin,reduceIte,Int.reduceEq,Int.reduceLT,Int.reduceLE,Int.reduceGT,Int.reduceGE,len_N,Nat.lt_irrefl,hc,hst,wr,natS,hnext]
  · rintro _ L _
    rw [stg_end]
    simp (disch := omega) only [ir32p3,stepQ,stepL,eq_self,aBin,reduceIte,Int.reduceEq,Int.reduceLT,Int.reduceLE,Int.reduceGT,Int.reduceGE,len_N,Nat.lt_irrefl]
 have bad : normE names l = false → den (run tb) ir32p4 [strsD names,numsD l,.bool true] [] = some (if normE names l = true then [strsD names,numsD (normS l),.int .i64 0] else [.sl [],.sl [],.int .i64 1]) := by
  intro h
  rw [h]
  simp (disch := omega) only [ir32p4,stepQ,stepL,eq_self,aBin,reduceIte,Int.reduceEq,Int.reduceLT,Int.reduceLE,Int.reduceGT,Int.reduceGE,Bool.false_eq_true,if_false]
 cases h1 : vocOk names with
 | false =>
  rw [h1] at hv
  have := bad (by simp [normE,h1])
  simp (disch := omega) only [ir32,stepQ,stepL,eq_self,aBin,reduceIte,Int.reduceEq,Int.reduceLT,Int.reduceLE,Int.reduceGT,Int.reduceGE,hv,this]
 | true =>
  rw [h1] at hv
  have h6 := vocOk_len h1
  by_cases h2 : l.length = 2 ^ names.length
  · have := key (by simp [normE,h1,h2])
    simp (disch := omega) only [ir32,stepQ,stepL,eq_self,aBin,reduceIte,Int.reduceEq,Int.reduceLT,Int.reduceLE,Int.reduceGT,Int.reduceGE,bvQ,wu,shl_norm,shr_norm,and1_norm,hv,len_N,len_S,ibne,h2,this]
  · have := bad (by simp [normE,h2])
    simp (disch := omega) only [ir32,stepQ,stepL,eq_self,aBin,reduceIte,Int.reduceEq,Int.reduceLT,Int.reduceLE,Int.reduceGT,Int.reduceGE,bvQ,wu,shl_norm,shr_norm,and1_norm,hv,len_N,len_S,ibne,h2,this]
end Go.Proofs.Ytnfecjmddbehiaa

namespace Go.Proofs.Ytnfecjmddbehiaa
open Go Am
set_option maxRecDepth 100000
end Go.Proofs.Ytnfecjmddbehiaa

namespace Go.Proofs.Ytnfecjmddbehiaa
open Go Am
set_option maxRecDepth 100000
end Go.Proofs.Ytnfecjmddbehiaa

namespace Go.Proofs.Ytnfecjmddbehiaa
open Go Am
set_option maxRecDepth 100000
end Go.Proofs.Ytnfecjmddbehiaa

namespace Go.Proofs.Ytnfecjmddbehiaa
open Go Am
set_option maxRecDepth 100000
end Go.Proofs.Ytnfecjmddbehiaa

namespace Go.Proofs.Ytnfecjmddbehiaa
open Go Am
set_option maxRecDepth 100000
theorem sameN_run (a b : List (List UInt8)) (ha : a.length < 1000000000) : run tb 24 [strsD a,strsD b] = some [.bool (decide (a = b))] := by
 refine run_ir (x := ir24) rfl ?_
 by_cases hl : a.length = b.length
 · simp (disch := omega) only [ir24,stepQ,stepL,eq_self,aBin,reduceIte,Int.reduceEq,Int.reduceLT,Int.reduceLE,Int.reduceGT,Int.reduceGE,len_S,ibne,hl]
   have h0 : decide (a = b) = decide (a.drop 0 = b.drop 0) := by simp
   rw [h0]
   refine loop_k (σ := Unit) b.length (fun _ _ => True) (fun i _ => [.int .i64 i]) (fun i _ => [.bool (decide (a.drop i = b.drop i))]) ?_ ?_ 0 () (Nat.zero_le _) trivial
   · rintro i _ L hi _ hL
     have hnext := hL () trivial
     have hia : i < a.length := by omega
     have e1 : a.drop i = a[i] :: a.drop (i + 1) := List.drop_eq_getElem_cons hia
     have e2 : b.drop i = b[i] :: b.drop (i + 1) := List.drop_eq_getElem_cons hi
     rw [e1,e2]
     by_cases h : a[i] = b[i]
     · have : decide (a[i] :: a.drop (i + 1) = b[i] :: b.drop (i + 1)) = decide (a.drop (i + 1) = b.drop (i + 1)) := by rw [h]; exact decide_eq_decide.2 ⟨fun e => (List.cons.inj e).2,fun e => by rw [e]⟩
       rw [this]
       have b1 : (a[i] == b[i]) = true := beq_iff_eq.2 h
       have b2 : (a[i] != b[i]) = false := by rw [bne,b1]; rfl
       simp (disch := omega) only [ir24p0,stepQ,stepL,eq_self,aBin,reduceIte,Int.reduceEq,Int.reduceLT,Int.reduceLE,Int.reduceGT,Int.reduceGE,len_S,hi,hia,row_S,ibne,b1,b2,wr,natS,hnext]
     · have : decide (a[i] :: a.drop (i + 1) = b[i] :: b.drop (i + 1)) = false := decide_eq_false fun e => h (List.cons.inj e).1
       rw [this]
       have b1 : (a[i] == b[i]) = false := beq_eq_false_iff_ne.2 h
       have b2 : (a[i] != b[i]) = true := by rw [bne,b1]; rfl
       simp (disch := omega) only [ir24p0,stepQ,stepL,eq_self,aBin,reduceIte,Int.reduceEq,Int.reduceLT,Int.reduceLE,Int.reduceGT,Int.reduceGE,len_S,hi,hia,row_S,ibne,b1,b2,wr,natS]
   · rintro _ L _
     have : decide (a.drop b.length = b.drop b.length) = true := by simp [← hl]
     rw [this]
     simp (disch := omega) only [ir24p0,stepQ,stepL,eq_self,aBin,reduceIte,Int.reduceEq,Int.reduceLT,Int.reduceLE,Int.reduceGT,Int.reduceGE,len_S,hl,Nat.lt_irrefl]
 · have : decide (a = b) = false := by simp; rintro rfl; exact hl rfl
   rw [this]
   simp (disch := omega) only [ir24,stepQ,stepL,eq_self,aBin,reduceIte,Int.reduceEq,Int.reduceLT,Int.reduceLE,Int.reduceGT,Int.reduceGE,len_S,ibne,hl]
end Go.Proofs.Ytnfecjmddbehiaa

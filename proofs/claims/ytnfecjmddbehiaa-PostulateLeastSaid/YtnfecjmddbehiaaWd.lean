/- What functions of the program compute: lemmas. -/
import Derived.Test.YtnfecjmddbehiaaLb1
import Derived.Test.YtnfecjmddbehiaaAm5
import Derived.Test.YtnfecjmddbehiaaAm6
set_option linter.unusedSimpArgs false
set_option linter.unusedVariables false
set_option linter.unusedSectionVars false
namespace Go.Proofs.Ytnfecjmddbehiaa
open Go Am
set_option maxRecDepth 100000
theorem count_run (l : List (List UInt8)) (h : l.length < 63) : run tb 52 [strsD l] = some [.int .i64 ((2 ^ l.length : Nat) : Int)] := by
 refine run_ir (x := ir52) rfl ?_
 simp (disch := omega) only [ir52,stepQ,stepL,eq_self,aBin,reduceIte,Int.reduceEq,Int.reduceLT,Int.reduceLE,Int.reduceGT,Int.reduceGE,bvQ,wu,shl_norm,shr_norm,and1_norm,len_S]
theorem bits_s1 {p : Nat → Bool} {w : Nat} (h : p w = true) : bitsTo p w ||| 1#64 <<< w = bitsTo p (w + 1) := by simp only [bitsTo,h,if_true]
theorem bits_s0 {p : Nat → Bool} {w : Nat} (h : p w = false) : bitsTo p w = bitsTo p (w + 1) := by simp [bitsTo,h]
theorem valid3_run (l : List (List UInt8)) (hl : l.length < 1000000000) (hs : ∀ s ∈ l,s.length < 9223372036854775808) : run tb 35 [strsD l] = some [.bool (vocOk l)] := by
 refine run_ir (x := ir35) rfl ?_
 have hv : vocOk l = (okAt l 0 && decide (l.length ≤ 6)) := by rw [vocOk,okAt_zero,Bool.and_comm]
 rw [hv]
 simp (disch := omega) only [ir35,stepQ,stepL,eq_self,aBin,reduceIte,Int.reduceEq,Int.reduceLT,Int.reduceLE,Int.reduceGT,Int.reduceGE]
 refine loop_k (σ := Unit) l.length (fun _ _ => True) (fun i _ => [.int .i64 i]) (fun i _ => [.bool (okAt l i && decide (l.length ≤ 6))]) ?_ ?_ 0 () (Nat.zero_le _) trivial
 · rintro i _ L hi _ hL
   have hnext := hL () trivial
   have hn := validName57_run l[i] (hs _ (List.getElem_mem hi))
   cases hvn : validName l[i] with
   | false =>
    rw [hvn] at hn
    have : okAt l i = false := by
     by_cases h0 : 0 < i
     · rw [okAt_next h0 hi,hvn]; rfl
     · rw [okAt_first' h0 hi,hvn]; rfl
    rw [this,Bool.false_and]
    simp (disch := omega) only [ir35p1,ir35p0,stepQ,stepL,eq_self,aBin,reduceIte,Int.reduceEq,Int.reduceLT,Int.reduceLE,Int.reduceGT,Int.reduceGE,len_S,hi,row_S,hn]
   | true =>
    rw [hvn] at hn
    by_cases h0 : ¬ 0 < i
    · have h0' : ¬ (i : Int) > 0 := by omega
      rw [okAt_first' h0 hi,hvn,Bool.true_and]
      simp (disch := omega) only [ir35p1,ir35p0,stepQ,stepL,eq_self,aBin,reduceIte,Int.reduceEq,Int.reduceLT,Int.reduceLE,Int.reduceGT,Int.reduceGE,len_S,hi,h0',row_S,hn,wr,natS,hnext]
    · have h0 : 0 < i := by omega
      have h0' : (i : Int) > 0 := by omega
      have hs : (i : Int) - 1 = ((i - 1 : Nat) : Int) := by omega
      have hi1 : i - 1 < l.length := by omega
      rw [okAt_next h0 hi,hvn,Bool.true_and]
      have ht := bytesLess_total l[i] l[i - 1]
      cases hb : Op.bytesLess l[i - 1] l[i] with
      | true =>
       rw [hb] at ht
       rw [Bool.true_and]
       simp (disch := omega) only [ir35p1,ir35p0,stepQ,stepL,eq_self,aBin,reduceIte,Int.reduceEq,Int.reduceLT,Int.reduceLE,Int.reduceGT,Int.reduceGE,len_S,hi,h0',row_S,hn,wr,natS,hs,hi1,ht,hnext]
      | false =>
       rw [hb] at ht
       rw [Bool.false_and,Bool.false_and]
       simp (disch := omega) only [ir35p1,ir35p0,stepQ,stepL,eq_self,aBin,reduceIte,Int.reduceEq,Int.reduceLT,Int.reduceLE,Int.reduceGT,Int.reduceGE,len_S,hi,h0',row_S,hn,wr,natS,hs,hi1,ht]
 · rintro _ L _
   rw [okAt_end,Bool.true_and]
   by_cases h6 : l.length ≤ 6
   · have h6' : ((l.length : Nat) : Int) ≤ 6 := by omega
     simp (disch := omega) only [ir35p1,stepQ,stepL,eq_self,aBin,reduceIte,Int.reduceEq,Int.reduceLT,Int.reduceLE,Int.reduceGT,Int.reduceGE,len_S,Nat.lt_irrefl,h6,h6']
   · have h6' : ¬ ((l.length : Nat) : Int) ≤ 6 := by omega
     simp (disch := omega) only [ir35p1,stepQ,stepL,eq_self,aBin,reduceIte,Int.reduceEq,Int.reduceLT,Int.reduceLE,Int.reduceGT,Int.reduceGE,len_S,Nat.lt_irrefl,h6,h6']
theorem all3_run (l : List (List UInt8)) (hl : l.length < 1000000000) (hs : ∀ s ∈ l,s.length < 9223372036854775808) : run tb 39 [strsD l] = some [bvD (allS l)] := by
 refine run_ir (x := ir39) rfl ?_
 have hv := valid3_run l hl hs
 unfold allS
 cases h : vocOk l with
 | false =>
  rw [h] at hv
  simp (disch := omega) only [ir39,stepQ,stepL,eq_self,aBin,reduceIte,Int.reduceEq,Int.reduceLT,Int.reduceLE,Int.reduceGT,Int.reduceGE,bvQ,wu,shl_norm,shr_norm,and1_norm,hv,Bool.false_eq_true]
 | true =>
  rw [h] at hv
  have h6 := vocOk_len h
  have hp := pow6 h6
  have hc := count_run l (by omega)
  simp (disch := omega) only [ir39,stepQ,stepL,eq_self,aBin,reduceIte,Int.reduceEq,Int.reduceLT,Int.reduceLE,Int.reduceGT,Int.reduceGE,bvQ,wu,shl_norm,shr_norm,and1_norm,hv]
  refine loop_k (σ := Unit) (2 ^ l.length) (fun _ _ => True) (fun w _ => [bvD (bitsTo (fun _ => true) w),.int .i64 w]) (fun _ _ => [bvD (bitsTo (fun _ => true) (2 ^ l.length))]) ?_ ?_ 0 () (Nat.zero_le _) trivial
  · rintro w _ L hw _ hL
    have hnext := hL () trivial
    rw [← bits_s1 rfl] at hnext
    generalize 2 ^ l.length = n at *
    simp (disch := omega) only [ir39p0,stepQ,stepL,eq_self,aBin,reduceIte,Int.reduceEq,Int.reduceLT,Int.reduceLE,Int.reduceGT,Int.reduceGE,bvQ,wu,shl_norm,shr_norm,and1_norm,hc,hw,wr,natS,hnext]
  · rintro _ L _
    generalize 2 ^ l.length = n at *
    simp (disch := omega) only [ir39p0,stepQ,stepL,eq_self,aBin,reduceIte,Int.reduceEq,Int.reduceLT,Int.reduceLE,Int.reduceGT,Int.reduceGE,bvQ,wu,shl_norm,shr_norm,and1_norm,hc,Nat.lt_irrefl]
end Go.Proofs.Ytnfecjmddbehiaa

namespace Go.Proofs.Ytnfecjmddbehiaa
open Go Am
set_option maxRecDepth 100000
end Go.Proofs.Ytnfecjmddbehiaa

namespace Go.Proofs.Ytnfecjmddbehiaa
open Go Am
set_option maxRecDepth 100000
end Go.Proofs.Ytnfecjmddbehiaa

namespace Go.Proofs.Ytnfecjmddbehiaa
open Go Am
set_option maxRecDepth 100000
end Go.Proofs.Ytnfecjmddbehiaa

namespace Go.Proofs.Ytnfecjmddbehiaa
open Go Am
set_option maxRecDepth 100000
end Go.Proofs.Ytnfecjmddbehiaa

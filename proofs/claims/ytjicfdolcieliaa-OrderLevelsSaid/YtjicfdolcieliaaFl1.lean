/- What functions of the program compute: lemmas. -/
import Derived.Test.YtjicfdolcieliaaOd
import Derived.Test.YtjicfdolcieliaaSqE
import Derived.Test.YtjicfdolcieliaaAm6
set_option linter.unusedSimpArgs false
set_option linter.unusedVariables false
set_option linter.unusedSectionVars false
namespace Go.Proofs.Ytjicfdolcieliaa
open Go Am
set_option maxRecDepth 100000
def firstN : List (BitVec 64) → Nat → Nat
 | [],_ => 0
 | x :: l,w => if x.getLsbD w = true then 0 else firstN l w + 1
theorem callQ_V {R : Nat → PF} {e : Env} {J : List PF} (k : IR) (l : List (BitVec 64)) : callQ R 1 false [0] k e J (some [bvsD l]) = den R k (e ++ [bvsD l]) J := rfl
theorem firstN_le : ∀ (l : List (BitVec 64)) (w : Nat),firstN l w ≤ l.length
 | [],_ => Nat.le_refl _
 | x :: l,w => by have := firstN_le l w; simp only [firstN,List.length_cons]; split <;> omega
theorem firstN_drop {l : List (BitVec 64)} {w i : Nat} (h : i < l.length) : firstN (l.drop i) w = if l[i].getLsbD w = true then 0 else firstN (l.drop (i + 1)) w + 1 := by rw [drop_s h]; rfl
theorem firstN_all : ∀ (l : List (BitVec 64)) (w : Nat),w < 64 → firstN (l ++ [BitVec.allOnes 64]) w = firstN l w
 | [],w,h => by
  have h1 : (BitVec.allOnes 64).getLsbD w = true := by rw [BitVec.getLsbD_allOnes]; simpa using h
  simp only [List.nil_append,firstN,h1,if_true]
 | x :: l,w,h => by simp only [List.cons_append,firstN,firstN_all l w h]
theorem firstN_lt : ∀ (l : List (BitVec 64)) (w : Nat),w < 64 → firstN (l ++ [BitVec.allOnes 64]) w < (l ++ [BitVec.allOnes 64]).length
 | l,w,h => by have := firstN_le l w; rw [firstN_all l w h]; simp; omega
def fromR (l : List (BitVec 64)) (n : Nat) : List Int := (List.range n).map fun w => (firstN l w : Int)
theorem fromR_len (l : List (BitVec 64)) (n : Nat) : (fromR l n).length = n := by simp [fromR]
theorem fromR_get {l : List (BitVec 64)} {n w : Nat} (h : w < n) : (fromR l n).getD w 0 = (firstN l w : Int) := by simp [fromR,h]
def fromV (names : List (List UInt8)) (l : List (BitVec 64)) : List D := if vocOk names = true then [strsD names,numsD (normS (fromR l (2 ^ names.length))),.int .i64 0] else [.sl [],.sl [],.int .i64 1]
theorem fl1_run (x : BitVec 64) (w : Nat) (h : w < 1000000000) : run tb 47 [bvD x,.int .i64 w] = some [.bool (x.getLsbD w)] := by
 refine run_ir (x := ir47) rfl ?_
 have hc : PO.eval (.conv .u64) [.int .i64 (w : Int)] = some [.int .u64 (w : Int)] := bv_convN _ (by omega)
 have hs := bv_shr false .u64 x w
 have hb := bv_bitD x w
 simp (disch := omega) only [ir47,stepQ,stepL,eq_self,aBin,reduceIte,Int.reduceEq,Int.reduceLT,Int.reduceLE,Int.reduceGT,Int.reduceGE,bvQ,wu,shl_norm,shr_norm,and1_norm,hc,hs,hb]
theorem indexF_run (l : List (BitVec 64)) (w : Nat) (hl : l.length < 1000000000) (hw : w < 1000000000) : run tb 31 [bvsD l,.int .i64 w] = some [.int .i64 (if firstN l w < l.length then (firstN l w : Int) else -1)] := by
 refine run_ir (x := ir31) rfl ?_
 have key := loop_k (run := run tb) (body := ir31p0) (e := [bvsD l,.int .i64 w,.int .i64 l.length]) (J := []) (σ := Unit) l.length
  (fun _ _ => True) (fun i _ => [.int .i64 i]) (fun i _ => [.int .i64 (if firstN (l.drop i) w < l.length - i then ((i + firstN (l.drop i) w : Nat) : Int) else -1)])
  (by
   rintro i _ L hi _ hL
   have hnext := hL () trivial
   have hf := fl1_run l[i] w hw
   rw [firstN_drop hi]
   cases hb : l[i].getLsbD w with
   | true =>
    rw [hb] at hf
    have h1 : 0 < l.length - i := by omega
    simp (disch := omega) only [ir31p0,stepQ,stepL,eq_self,aBin,reduceIte,Int.reduceEq,Int.reduceLT,Int.reduceLE,Int.reduceGT,Int.reduceGE,bvQ,wu,shl_norm,shr_norm,and1_norm,hi,row_V,hf,if_true,h1,Nat.add_zero]
   | false =>
    rw [hb] at hf
    have e : (if firstN (l.drop (i + 1)) w + 1 < l.length - i then ((i + (firstN (l.drop (i + 1)) w + 1) : Nat) : Int) else -1) = (if firstN (l.drop (i + 1)) w < l.length - (i + 1) then ((i + 1 + firstN (l.drop (i + 1)) w : Nat) : Int) else -1) := by
     by_cases hc : firstN (l.drop (i + 1)) w < l.length - (i + 1)
     · rw [if_pos hc,if_pos (by omega)]; congr 1; omega
     · rw [if_neg hc,if_neg (by omega)]
    simp only [Bool.false_eq_true,if_false]
    rw [e]
    simp (disch := omega) only [ir31p0,stepQ,stepL,eq_self,aBin,reduceIte,Int.reduceEq,Int.reduceLT,Int.reduceLE,Int.reduceGT,Int.reduceGE,bvQ,wu,shl_norm,shr_norm,and1_norm,hi,row_V,hf,wr,natS,hnext])
  (by
   rintro _ L _
   have h1 : ¬ (firstN (l.drop l.length) w < l.length - l.length) := by omega
   simp (disch := omega) only [ir31p0,stepQ,stepL,eq_self,aBin,reduceIte,Int.reduceEq,Int.reduceLT,Int.reduceLE,Int.reduceGT,Int.reduceGE,Nat.lt_irrefl,h1,if_false])
 have hk := key 0 () (by omega) trivial
 simp only [nat0,List.drop_zero,Nat.sub_zero,Nat.zero_add] at hk
 simp only [ir31,stepQ,stepL,eq_self,aBin,reduceIte,Int.reduceEq,Int.reduceLT,Int.reduceLE,Int.reduceGT,Int.reduceGE,len_V,hk]
theorem fromP_run (names : List (List UInt8)) (l : List (BitVec 64)) (hn : names.length < 1000000000) (hl : l.length < 100000000) : run tb 9 [strsD names,bvsD l] = some (fromV names l) := by
 refine run_ir (x := ir9) rfl ?_
 have hv := valid_run names hn
 unfold fromV
 cases hok : vocOk names with
 | false =>
  rw [hok] at hv
  simp (disch := omega) only [ir9,stepQ,stepL,eq_self,aBin,reduceIte,Int.reduceEq,Int.reduceLT,Int.reduceLE,Int.reduceGT,Int.reduceGE,hv,Bool.not_false,Bool.false_eq_true,if_false]
 | true =>
  rw [hok] at hv
  have h6 := vocOk_len hok
  have hp := pow6 h6
  have hno := normal_run names (fromR l (2 ^ names.length)) hn (by rw [fromR_len]; omega)
  have hne : normE names (fromR l (2 ^ names.length)) = true := by simp [normE,hok,fromR_len]
  rw [hne,if_pos rfl] at hno
  have hmk : PO.eval (.mkL 8 [.int .i64 0]) [.int .i64 ((2 ^ names.length : Nat) : Int)] = some [numsD (List.replicate (2 ^ names.length) 0)] := mkN (by omega)
  have hlen := fromR_len l (2 ^ names.length)
  generalize hF : fromR l (2 ^ names.length) = Fr at hno hlen
  have hz : List.replicate (2 ^ names.length) 0 = fillR Fr 0 := by rw [← hlen]; exact fill_zero Fr
  rw [hz] at hmk
  have hcl : run tb 30 [bvsD l] = some [bvsD l] := run_ext rfl (cloneVE_run l (by omega))
  have happ : PO.eval (.app 1 8) [bvsD l,.sl [[bvD (BitVec.allOnes 64)]]] = some [bvsD (l ++ [BitVec.allOnes 64])] := app_V (by omega)
  have hm1 : PO.eval (.mk 1 1) [bvD (BitVec.allOnes 64)] = some [.sl [[bvD (BitVec.allOnes 64)]]] := rfl
  have hfl : ∀ i,(fillR Fr i).length = Fr.length := fun i => by simp [fillR]
  have key := loop_k (run := run tb) (body := ir9p0) (e := [strsD names,bvsD l,.bool true,.bool false,.int .i64 names.length,.int .i64 ((2 ^ names.length : Nat) : Int),numsD (fillR Fr 0),.int .i64 ((2 ^ names.length : Nat) : Int)]) (J := []) (σ := Unit) (2 ^ names.length)
   (fun _ _ => True) (fun i _ => [.int .i64 i,numsD (fillR Fr i)]) (fun _ _ => [strsD names,numsD (normS Fr),.int .i64 0])
   (by
    rintro i _ L hi _ hL
    have hnext := hL () trivial
    have hi' : ((i : Int) < ((2 ^ names.length : Nat) : Int)) := by omega
    have hix := indexF_run (l ++ [BitVec.allOnes 64]) i (by simp; omega) (by omega)
    have hlt := firstN_lt l i (by omega)
    rw [if_pos hlt,firstN_all l i (by omega)] at hix
    have hg : Fr.getD i 0 = (firstN l i : Int) := by rw [← hF]; exact fromR_get hi
    have hset : PO.eval (.set 0 1) [numsD (fillR Fr i),.int .i64 i,.int .i64 (firstN l i : Int)] = some [numsD (fillR Fr (i + 1))] := by
     rw [← hg,set_N (by rw [hfl]; omega),fill_succ (by omega)]
    have hchk := chk_N (l := fillR Fr i) (i := i) (by rw [hfl]; omega)
    simp (disch := omega) only [ir9p0,stepQ,stepL,eq_self,aBin,reduceIte,Int.reduceEq,Int.reduceLT,Int.reduceLE,Int.reduceGT,Int.reduceGE,bvQ,wu,shl_norm,shr_norm,and1_norm,hi',callQ_V,hcl,hm1,happ,callQ_ti,hix,hchk,hset,wr,natS,hnext])
   (by
    rintro _ L _
    have he : fillR Fr (2 ^ names.length) = Fr := by rw [← hlen]; exact fill_end Fr
    rw [he]
    simp (disch := omega) only [ir9p0,stepQ,stepL,eq_self,aBin,reduceIte,Int.reduceEq,Int.reduceLT,Int.reduceLE,Int.reduceGT,Int.reduceGE,Int.lt_irrefl,hno])
  have hk := key 0 () (by omega) trivial
  have hln : PO.eval .lenL [numsD (fillR Fr 0)] = some [.int .i64 ((2 ^ names.length : Nat) : Int)] := by rw [len_N,hfl,hlen]
  simp only [nat0] at hk
  simp (disch := omega) only [ir9,stepQ,stepL,eq_self,aBin,reduceIte,Int.reduceEq,Int.reduceLT,Int.reduceLE,Int.reduceGT,Int.reduceGE,bvQ,wu,shl_norm,shr_norm,and1_norm,hv,Bool.not_true,len_S,shl_norm,hmk,hln,hk]
end Go.Proofs.Ytjicfdolcieliaa

namespace Go.Proofs.Ytjicfdolcieliaa
open Go Am
set_option maxRecDepth 100000
end Go.Proofs.Ytjicfdolcieliaa

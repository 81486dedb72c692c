/- What functions of the program compute: lemmas. -/
import Derived.Test.YtjicfdolcieliaaOd
import Derived.Test.YtjicfdolcieliaaSqE
import Derived.Test.YtjicfdolcieliaaAm6
set_option linter.unusedSimpArgs false
set_option linter.unusedVariables false
set_option linter.unusedSectionVars false
namespace Go.Proofs.Ytjicfdolcieliaa
open Go Am
set_option maxRecDepth 100000
def firstN : List (BitVec 64) → Nat → Nat
 | [],_ => 0
 | x :: l,w => if x.getLsbD w = true then 0 else firstN l w + 1
theorem callQ_V {R : Nat → PF} {e : Env} {J : List PF} (k : IR) (l : List (BitVec 64)) : callQ R 1 false [0] k e J (some [bvsD l]) = den R k (e ++ [bvsD l]) J := rfl
theorem firstN_le : ∀ (l : List (BitVec 64)) (w : Nat),firstN l w ≤ l.length
 | [],_ => Nat.le_refl _
 | x :: l,w => by have := firstN_le l w; simp only [firstN,List.length_cons]; split <;> omega
theorem firstN_drop {l : List (BitVec 64)} {w i : Nat} (h : i < l.length) : firstN (l.drop i) w = if l[i].getLsbD w = true then 0 else firstN (l.drop (i + 1)) w + 1 := by rw [drop_s h]; rfl
theorem firstN_all : ∀ (l : List (BitVec 64)) (w : Nat),w < 64 → firstN (l ++ [BitVec.allOnes 64]) w = firstN l w
 | [],w,h => by
  have h1 : (BitVec.allOnes 64).getLsbD w = true := by rw [BitVec.getLsbD_allOnes]; simpa using h
  simp only [List.nil_append,firstN,h1,if_true]
 | x :: l,w,h => by simp only [List.cons_append,firstN,firstN_all l w h]
theorem firstN_lt : ∀ (l : List (BitVec 64)) (w : Nat),w < 64 → firstN (l ++ [BitVec.allOnes 64]) w < (l ++ [BitVec.allOnes 64]).length
 | l,w,h => by have := firstN_le l w; rw [firstN_all l w h]; simp; omega
def fromR (l : List (BitVec 64)) (n : Nat) : List Int := (List.range n).map fun w => (firstN l w : Int)
theorem fromR_len (l : List (BitVec 64)) (n : Nat) : (fromR l n).length = n := by simp [fromR]
theorem fromR_get {l : List (BitVec 64)} {n w : Nat} (h : w < n) : (fromR l n).getD w 0 = (firstN l w : Int) := by simp [fromR,h]
def fromV (names : List (List UInt8)) (l : List (BitVec 64)) : List D := if vocOk names = true then [strsD names,numsD (normS (fromR l (2 ^ names.length))),.int .i64 0] else [.sl [],.sl [],.int .i64 1]
theorem fl1_run (x : BitVec 64) (w : Nat) (h : w < 1000000000) : run tb 47 [bvD x,.int .i64 w] = some [.bool (x.getLsbD w)] := by
 refine run_ir (x := ir47) rfl ?_
 have hc : PO.eval (.conv .u64) [.int .i64 (w : Int)] = some [.int .u64 (w : Int)] := bv_convN _ (by omega)
 have hs := bv_shr false .u64 x w
 have hb := bv_bitD x w
 simp (disch := omega) only [ir47,stepQ,stepL,eq_self,aBin,reduceIte,Int.reduceEq,Int.reduceLT,Int.reduceLE,Int.reduceGT,Int.reduceGE,bvQ,wu,shl_norm,shr_norm,and1_norm,hc,hs,hb]
theorem indexF_run (l : List (BitVec 64)) (w : Nat) (hl : l.length < 1000000000) (hw : w < 1000000000) : run tb 31 [bvsD l,.int .i64 w] = some [.int .i64 (if firstN l w < l.length then (firstN l w : Int) else -1)] := by
 refine run_ir (x := ir31) rfl ?_
 have key := loop_k (run := run tb) (body := ir31p0) (e := [bvsD l,.int .i64 w,.int .i64 l.length]) (J := []) (σ := Unit) l.length
  (fun _ _ => True) (fun i _ => [.int .i64 i]) (fun i _ => [.int .i64 (if firstN (l.drop i) w < l.length - i then ((i + firstN (l.drop i) w : Nat) : Int) else -1)])
  (by
   rintro i _ L hi _ hL
   have hnext := hL () trivial
   have hf := fl1_run l[i] w hw
   rw [firstN_drop hi]
   cases hb : l[i].getLsbD w with
   | true =>
    rw [hb] at hf
    have h1 : 0 < l.length - i := by omega
    simp (disch := omega) only [ir31p0,stepQ,stepL,eq_self,aBin,reduceIte,Int.reduceEq,Int.reduceLT,Int.reduceLE,Int.reduceGT,Int.reduceGE,bvQ,wu,shl_norm,shr_norm,and1_norm,hi,row_V,hf,if_true,h1,Nat.add_zero]
   | false =>
    rw [hb] at hf
    have e : (if firstN (l.drop (i + 1)) w + 1 < l.length - i then ((i + (firstN (l.drop (i + 1)) w + 1) : Nat) : Int) else -1) = (if firstN (l.drop (i + 1)) w < l.length - (i + 1) then ((i + 1 + firstN (l.drop (i + 1)) w : Nat) : Int) else -1) := by
     by_cases hc : firstN (l.drop (i + 1)) w < l.length - (i + 1)
     · rw [if_pos hc,if_pos (by omega)]; congr 1; omega
     · rw [if_neg hc,if_neg (by omega)]
    simp only [Bool.false_eq_true,if_false]
    rw [e]
    simp (disch := omega) only [ir31p0,stepQ,stepL,eq_self,aBin,reduceIte,Int.reduceEq,Int.reduceLT,Int.reduceLE,Int.reduceGT,Int.reduceGE,bvQ,wu,shl_norm,shr_norm,and1_norm,hi,row_V,hf,wr,natS,hnext])
  (by
   rintro _ L _
   have h1 : ¬ (firstN (l.drop l.length) w < l.length - l.length) := by omega
   simp (disch := omega) only [ir31p0,stepQ,stepL,eq_self,aBin,reduceIte,Int.reduceEq,Int.reduceLT,Int.reduceLE,Int.reduceGT,Int.reduceGE,Nat.lt_irrefl,h1,if_false])
 have hk := key 0 () (by omega) trivial
 simp only [nat0,List.drop_zero,Nat.sub_zero,Nat.zero_add] at hk
 simp only [ir31,stepQ,stepL,eq_self,aBin,reduceIte,Int.reduceEq,Int.reduceLT,Int.reduceLE,Int.reduceGT,Int.reduceGE,len_V,hk]
theorem fromP_run (names : List (List UInt8)) (l : List (BitVec 64)) (hn : names.length < 1000000000) (hl : l.length < 100000000) : run tb 9 [strsD names,bvsD l] = some (fromV names l) := by
 refine run_ir (x := ir9) rfl ?_
 have hv := valid_run names hn
 unfold fromV
 cases hok : vocOk names with
 | false =>
  rw [hok] at hv
  simp (disch := omega) only [ir9,stepQ,stepL,eq_self,aBin,reduceIte,Int.reduceEq,Int.reduceLT,Int.reduceLE,Int.reduceGT,Int.reduceGE,hv,Bool.not_false,Bool.false_eq_true,if_false]
 | true =>
  rw [hok] at hv
  have h6 := vocOk_len hok
  have hp := pow6 h6
  have hno := normal_run names (fromR l (2 ^ names.length)) hn (by rw [fromR_len]; omega)
  have hne : normE names (fromR l (2 ^ names.length)) = true := by simp [normE,hok,fromR_len]
  rw [hne,if_pos rfl] at hno
  have hmk : PO.eval (.mkL 8 [.int .i64 0]) [.int .i64 ((2 ^ names.length : Nat) : Int)] = some [numsD (List.replicate (2 ^ names.length) 0)] := mkN (by omega)
  have hlen := fromR_len l (2 ^ names.length)
  generalize hF : fromR l (2 ^ names.length) = Fr at hno hlen
  have hz : List.replicate (2 ^ names.length) 0 = fillR Fr 0 := by rw [← hlen]; exact fill_zero Fr
  rw [hz] at hmk
  have hcl : run tb 30 [bvsD l] = some [bvsD l] := run_ext rfl (cloneVE_run l (by omega))
  have happ : PO.eval (.app 1 8) [bvsD l,.sl [[bvD (BitVec.allOnes 64)]]] = some [bvsD (l ++ [BitVec.allOnes 64])] := app_V (by omega)
  have hm1 : PO.eval (.mk 1 1) [bvD (BitVec.allOnes 64)] = some [.sl [[bvD (BitVec.allOnes 64)]]] := rfl
  have hfl : ∀ i,(fillR Fr i).length = Fr.length := fun i => by simp [fillR]
  have key := loop_k (run := run tb) (body := ir9p0) (e := [strsD names,bvsD l,.bool true,.bool false,.int .i64 names.length,.int .i64 ((2 ^ names.length : Nat) : Int),numsD (fillR Fr 0),.int .i64 ((2 ^ names.length : Nat) : Int)]) (J := []) (σ := Unit) (2 ^ names.length)
   (fun _ _ => True) (fun i _ => [.int .i64 i,numsD (fillR Fr i)]) (fun _ _ => [strsD names,numsD (normS Fr),.int .i64 0])
   (by
    rintro i _ L hi _ hL
    have hnext := hL () trivial
    have hi' : ((i : Int) < ((2 ^ names.length : Nat) : Int)) := by omega
    have hix := indexF_run (l ++ [BitVec.allOnes 64]) i (by simp; omega) (by omega)
    have hlt := firstN_lt l i (by omega)
    rw [if_pos hlt,firstN_all l i (by omega)] at hix
    have hg : Fr.getD i 0 = (firstN l i : Int) := by rw [← hF]; exact fromR_get hi
    have hset : PO.eval (.set 0 1) [numsD (fillR Fr i),.int .i64 i,.int .i64 (firstN l i : Int)] = some [numsD (fillR Fr (i + 1))] := by
     rw [← hg,set_N (by rw [hfl]; omega),fill_succ (by omega)]
    have hchk := chk_N (l := fillR Fr i) (i := i) (by rw [hfl]; omega)
    simp (disch := omega) only [ir9p0,stepQ,stepL,eq_self,aBin,reduceIte,Int.reduceEq,Int.reduceLT,Int.reduceLE,Int.reduceGT,Int.reduceGE,bvQ,wu,shl_norm,shr_norm,and1_norm,hi',callQ_V,hcl,hm1,happ,callQ_ti,hix,hchk,hset,wr,natS,hnext])
   (by
    rintro _ L _
    have he : fillR Fr (2 ^ names.length) = Fr := by rw [← hlen]; exact fill_end Fr
    rw [he]
    simp (disch := omega) only [ir9p0,stepQ,stepL,eq_self,aBin,reduceIte,Int.reduceEq,Int.reduceLT,Int.reduceLE,Int.reduceGT,Int.reduceGE,Int.lt_irrefl,hno])
  have hk := key 0 () (by omega) trivial
  have hln : PO.eval .lenL [numsD (fillR Fr 0)] = some [.int .i64 ((2 ^ names.length : Nat) : Int)] := by rw [len_N,hfl,hlen]
  simp only [nat0] at hk
  simp (disch := omega) only [ir9,stepQ,stepL,eq_self,aBin,reduceIte,Int.reduceEq,Int.reduceLT,Int.reduceLE,Int.reduceGT,Int.reduceGE,bvQ,wu,shl_norm,shr_norm,and1_norm,hv,Bool.not_true,len_S,shl_norm,hmk,hln,hk]
end Go.Proofs.Ytjicfdolcieliaa

namespace Go.Proofs.Ytjicfdolcieliaa
open Go Am
set_option maxRecDepth 100000
theorem firstN_before : ∀ {l : List (BitVec 64)} {w k : Nat},k < firstN l w → ∃ h : k < l.length,l[k].getLsbD w = false
 | [],w,k,h => by simp [firstN] at h
 | x :: l,w,k,h => by
  simp only [firstN] at h
  split at h
  · omega
  · rename_i hx
    cases k with
    | zero => exact ⟨by simp,by simpa using hx⟩
    | succ k =>
     obtain ⟨h1,h2⟩ := firstN_before (l := l) (w := w) (k := k) (by omega)
     exact ⟨by simp; omega,by simpa using h2⟩
theorem firstN_at : ∀ {l : List (BitVec 64)} {w : Nat} (h : firstN l w < l.length),l[firstN l w].getLsbD w = true
 | [],w,h => by simp [firstN] at h
 | x :: l,w,h => by
  by_cases hx : x.getLsbD w = true
  · have e : firstN (x :: l) w = 0 := by simp only [firstN,hx,if_true]
    simp only [e,List.getElem_cons_zero]; exact hx
  · have e : firstN (x :: l) w = firstN l w + 1 := by simp only [firstN,hx,Bool.false_eq_true,if_false]
    have h' : firstN l w < l.length := by rw [e] at h; simpa using h
    simp only [e,List.getElem_cons_succ]; exact firstN_at h'
theorem hasF_run (x : BitVec 64) (w : Nat) (h : w < 1000000000) : run tb 38 [bvD x,.int .i64 w] = some [.bool (x.getLsbD w)] := by
 refine run_ir (x := ir38) rfl ?_
 have hc : PO.eval (.conv .u64) [.int .i64 (w : Int)] = some [.int .u64 (w : Int)] := bv_convN _ (by omega)
 have hs := bv_shr false .u64 x w
 have hb := bv_bitD x w
 simp (disch := omega) only [ir38,stepQ,stepL,eq_self,aBin,reduceIte,Int.reduceEq,Int.reduceLT,Int.reduceLE,Int.reduceGT,Int.reduceGE,bvQ,wu,shl_norm,shr_norm,and1_norm,hc,hs,hb]
theorem fromR_run (names : List (List UInt8)) (l : List (BitVec 64)) (hn : names.length < 1000000000) (hs : ∀ s ∈ names,s.length < 9223372036854775808) (hl : l.length < 100000000) : run tb 17 [strsD names,bvsD l] = some (fromV names l) := by
 refine run_ir (x := ir17) rfl ?_
 have hv := valid3_run names hn hs
 unfold fromV
 cases hok : vocOk names with
 | false =>
  rw [hok] at hv
  simp (disch := omega) only [ir17,stepQ,stepL,eq_self,aBin,reduceIte,Int.reduceEq,Int.reduceLT,Int.reduceLE,Int.reduceGT,Int.reduceGE,hv,Bool.not_false,Bool.false_eq_true,if_false]
 | true =>
  rw [hok] at hv
  have h6 := vocOk_len hok
  have hp := pow6 h6
  have hno := normal3_run names (fromR l (2 ^ names.length)) hn hs (by rw [fromR_len]; omega)
  have hne : normE names (fromR l (2 ^ names.length)) = true := by simp [normE,hok,fromR_len]
  rw [hne,if_pos rfl] at hno
  have hmk : PO.eval (.mkL 8 [.int .i64 0]) [.int .i64 ((2 ^ names.length : Nat) : Int)] = some [numsD (List.replicate (2 ^ names.length) 0)] := mkN (by omega)
  have hlen := fromR_len l (2 ^ names.length)
  generalize hF : fromR l (2 ^ names.length) = Fr at hno hlen
  have hz : List.replicate (2 ^ names.length) 0 = fillR Fr 0 := by rw [← hlen]; exact fill_zero Fr
  rw [hz] at hmk
  have hfl : ∀ i,(fillR Fr i).length = Fr.length := fun i => by simp [fillR]
  have hconv : PO.eval (.conv .u64) [.int .i64 (names.length : Int)] = some [.int .u64 (names.length : Int)] := bv_convN _ (by omega)
  have key := loop_k (run := run tb) (body := ir17p2) (e := [strsD names,bvsD l,.bool true,.bool false,.int .i64 names.length,.int .u64 names.length,.int .i64 ((2 ^ names.length : Nat) : Int),numsD (fillR Fr 0)]) (J := []) (σ := Unit) (2 ^ names.length)
   (fun _ _ => True) (fun i _ => [.int .i64 i,numsD (fillR Fr i)]) (fun _ _ => [strsD names,numsD (normS Fr),.int .i64 0])
   (by
    rintro i _ L hi _ hL
    have hnext := hL () trivial
    have hiF : i < Fr.length := by omega
    have hi' : ((i : Int) < ((2 ^ names.length : Nat) : Int)) := by omega
    have hln : PO.eval .lenL [numsD (fillR Fr i)] = some [.int .i64 ((2 ^ names.length : Nat) : Int)] := by rw [len_N,hfl,hlen]
    have hg : Fr.getD i 0 = (firstN l i : Int) := by rw [← hF]; exact fromR_get hi
    have hfi : (fillR Fr i).set i ((0 : Nat) : Int) = fillR Fr i := by
     refine List.ext_getElem (by simp) fun k h1 h2 => ?_
     rw [List.getElem_set]
     split
     · rename_i hk; subst hk; simp [fillR]
     · rfl
    have inner := loop_km (run := run tb) (body := ir17p1) (e := [strsD names,bvsD l,.bool true,.bool false,.int .i64 names.length,.int .u64 names.length,.int .i64 ((2 ^ names.length : Nat) : Int),numsD (fillR Fr 0),.int .i64 i,numsD (fillR Fr i),.int .i64 ((2 ^ names.length : Nat) : Int),.bool true]) (J := [L]) (ι := Nat) (fun k => firstN l i - k)
     (fun k => k ≤ firstN l i) (fun k => [numsD ((fillR Fr i).set i (k : Int))]) (fun _ => [strsD names,numsD (normS Fr),.int .i64 0])
     (by
      intro k M hk hM
      have hkl := firstN_le l i
      have hll : ((fillR Fr i).set i (k : Int)).length = Fr.length := by simp [fillR]
      have hchk := chk_N (l := (fillR Fr i).set i (k : Int)) (i := i) (by rw [hll]; omega)
      have hget : PO.eval (.get 0 1) [numsD ((fillR Fr i).set i (k : Int)),.int .i64 i] = some [.int .i64 (k : Int)] := by
       rw [get_N (by rw [hll]; omega)]
       simp
      by_cases hlt : k < firstN l i
      · obtain ⟨h1,h2⟩ := firstN_before hlt
        have h1' : (k : Int) < (l.length : Int) := by omega
        have hrow := row_V h1
        have hh := hasF_run l[k] i (by omega)
        rw [h2] at hh
        have hinc : IntKind.i64.wrap ((k : Int) + 1) = ((k + 1 : Nat) : Int) := by rw [wr (by omega) (by omega)]; omega
        have hset : PO.eval (.set 0 1) [numsD ((fillR Fr i).set i (k : Int)),.int .i64 i,.int .i64 ((k + 1 : Nat) : Int)] = some [numsD ((fillR Fr i).set i ((k + 1 : Nat) : Int))] := by
         rw [set_N (by rw [hll]; omega),List.set_set]
        have hnx := hM (k + 1) (by omega) (by omega)
        simp (disch := omega) only [ir17p1,ir17p0,stepQ,stepL,eq_self,aBin,reduceIte,Int.reduceEq,Int.reduceLT,Int.reduceLE,Int.reduceGT,Int.reduceGE,bvQ,wu,shl_norm,shr_norm,and1_norm,hchk,hget,len_V,h1',hrow,hh,Bool.not_false,hinc,hset,hnx]
      · have hke : k = firstN l i := by omega
        have hfin : (fillR Fr i).set i (k : Int) = fillR Fr (i + 1) := by rw [hke,← hg]; exact fill_succ hiF
        rw [hfin] at hchk hget ⊢
        by_cases hl1 : k < l.length
        · have h1' : (k : Int) < (l.length : Int) := by omega
          have hrow := row_V hl1
          have hat : l[k].getLsbD i = true := by subst hke; exact firstN_at hl1
          have hh := hasF_run l[k] i (by omega)
          rw [hat] at hh
          simp (disch := omega) only [ir17p1,ir17p0,stepQ,stepL,eq_self,aBin,reduceIte,Int.reduceEq,Int.reduceLT,Int.reduceLE,Int.reduceGT,Int.reduceGE,bvQ,wu,shl_norm,shr_norm,and1_norm,hchk,hget,len_V,h1',hrow,hh,Bool.not_true,wr,natS,hnext]
        · have h1' : ¬ (k : Int) < (l.length : Int) := by omega
          simp (disch := omega) only [ir17p1,ir17p0,stepQ,stepL,eq_self,aBin,reduceIte,Int.reduceEq,Int.reduceLT,Int.reduceLE,Int.reduceGT,Int.reduceGE,bvQ,wu,shl_norm,shr_norm,and1_norm,hchk,hget,len_V,h1',wr,natS,hnext])
    have hin := inner 0 (by omega)
    rw [hfi] at hin
    simp (disch := omega) only [ir17p2,stepQ,stepL,eq_self,aBin,reduceIte,Int.reduceEq,Int.reduceLT,Int.reduceLE,Int.reduceGT,Int.reduceGE,bvQ,wu,shl_norm,shr_norm,and1_norm,hln,hi',hin])
   (by
    rintro _ L _
    have he : fillR Fr (2 ^ names.length) = Fr := by rw [← hlen]; exact fill_end Fr
    have hln : PO.eval .lenL [numsD Fr] = some [.int .i64 ((2 ^ names.length : Nat) : Int)] := by rw [len_N,hlen]
    rw [he]
    simp (disch := omega) only [ir17p2,stepQ,stepL,eq_self,aBin,reduceIte,Int.reduceEq,Int.reduceLT,Int.reduceLE,Int.reduceGT,Int.reduceGE,hln,Int.lt_irrefl,hno])
  have hk := key 0 () (by omega) trivial
  simp only [nat0] at hk
  have hsh : PO.eval (.bin .shl false) [.int .i64 1,.int .u64 (names.length : Int)] = some [.int .i64 ((2 ^ names.length : Nat) : Int)] := int_shl1 _ _ (by omega)
  simp (disch := omega) only [ir17,stepQ,stepL,eq_self,aBin,reduceIte,Int.reduceEq,Int.reduceLT,Int.reduceLE,Int.reduceGT,Int.reduceGE,bvQ,wu,shl_norm,shr_norm,and1_norm,hv,Bool.not_true,len_S,hconv,hsh,hmk,hk]
end Go.Proofs.Ytjicfdolcieliaa

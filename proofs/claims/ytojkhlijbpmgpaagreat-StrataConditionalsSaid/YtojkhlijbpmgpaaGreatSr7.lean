/- What functions of the program compute: lemmas. -/
import Derived.Test.YtojkhlijbpmgpaaGreatSr4
import Derived.Test.YtojkhlijbpmgpaaGreatOd
import Derived.Test.YtojkhlijbpmgpaaGreatAm6
set_option linter.unusedSimpArgs false
set_option linter.unusedVariables false
set_option linter.unusedSectionVars false
namespace Go.Proofs.YtojkhlijbpmgpaaGreat
open Go Am
set_option maxRecDepth 100000
def zR (names : List (List UInt8)) (l : List CF) : List D := if prE names l = 0 then (match layS (prsS names l) with | some o => rkR names (zL (prsS names l) o (2 ^ names.length)) | none => [.sl [],.sl [],.int .i64 9]) else [.sl [],.sl [],.int .i64 (prE names l)]
def zrow (p : List PP) (o : List Int) (N w i : Nat) : List Int := (mixL (fun w => zF p o w p.length) (fun _ => 0) N w).set w (zF p o w i)
theorem zrow_len (p : List PP) (o : List Int) (N w i : Nat) : (zrow p o N w i).length = N := by simp [zrow,mixL_len]
theorem zrow_zero (p : List PP) (o : List Int) (N w : Nat) (h : w < N) : zrow p o N w 0 = mixL (fun w => zF p o w p.length) (fun _ => 0) N w := by
 unfold zrow
 have hwl : w < (mixL (fun w => zF p o w p.length) (fun _ => 0) N w).length := by rw [mixL_len]; exact h
 have hx : (mixL (fun w => zF p o w p.length) (fun _ => 0) N w)[w] = 0 := by rw [mixL_get,if_neg (by omega)]
 have hs := List.set_getElem_self hwl
 rw [hx] at hs
 exact hs
theorem zrow_end (p : List PP) (o : List Int) (N w : Nat) (h : w < N) : zrow p o N w p.length = mixL (fun w => zF p o w p.length) (fun _ => 0) N (w + 1) := mixL_set (fun w => zF p o w p.length) (fun _ => 0) N w h
theorem zrow_get (p : List PP) (o : List Int) (N w i : Nat) (h : w < (zrow p o N w i).length) : (zrow p o N w i)[w] = zF p o w i := by simp [zrow]
theorem zrow_set (p : List PP) (o : List Int) (N w i : Nat) (x : Int) : (zrow p o N w i).set w x = (mixL (fun w => zF p o w p.length) (fun _ => 0) N w).set w x := by simp [zrow]
theorem zP_run (names : List (List UInt8)) (hn : names.length < 1000000000) (l : List CF) (hf : ∀ c ∈ l,c.1.size < 1000000000 ∧ c.2.size < 1000000000) (hfl : l.length < 1000000000) :
 run tb 10 [strsD names,condsD l] = some (zR names l) := by
 refine run_ir (x := ir10) rfl ?_
 have h1 := pairsP_run names hn l hf hfl
 unfold zR
 by_cases c : prE names l = 0
 · rw [if_pos c] at h1 ⊢
   have hvo := (prE_len c).1
   have hp64 : (prsS names l).length ≤ 64 := by simp only [prsS,List.length_map]; exact (prE_len c).2
   generalize prsS names l = p at *
   have h2 := layersP_run p hp64
   cases hl : layS p with
   | none =>
    rw [hl] at h2
    simp (disch := omega) only [ir10,stepQ,stepL,eq_self,aBin,reduceIte,Int.reduceEq,h1,ibne,layR,h2]
   | some o =>
    rw [hl] at h2
    obtain ⟨hol,hob⟩ := layS_ok hp64 hl
    have hn6 := vocOk_len hvo
    have hN : 2 ^ names.length ≤ 64 := Nat.pow_le_pow_right (by omega : 0 < 2) hn6
    have hmk := mkN (n := 2 ^ names.length) (by omega)
    have hz : List.replicate (2 ^ names.length) (0 : Int) = mixL (fun w => zF p o w p.length) (fun _ => 0) (2 ^ names.length) 0 := by
     rw [mixL_zero]
     refine List.ext_getElem (by simp) fun i h1 h2 => by simp
    rw [hz] at hmk
    have hln : ∀ l : List Int,PO.eval .lenL [numsD l] = some [.int .i64 l.length] := len_N
    simp (disch := omega) only [ir10,stepQ,stepL,eq_self,aBin,reduceIte,bvQ,shl_norm,h1,ibne,layR,h2,len_S,hmk,hln,mixL_len]
    generalize hNN : 2 ^ names.length = N at *
    refine loop_k (σ := Unit) N (fun _ _ => True) (fun w _ => [.int .i64 w,numsD (mixL (fun w => zF p o w p.length) (fun _ => 0) N w)]) (fun _ _ => rkR names (zL p o N)) ?_ ?_ 0 () (Nat.zero_le _) trivial
    · rintro w _ L hw _ hL
      have hnext := hL () trivial
      simp (disch := omega) only [ir10p2,stepQ,stepL,eq_self,aBin,reduceIte,hw,len_P]
      rw [← zrow_zero p o N w hw]
      refine loop_k (σ := Unit) p.length (fun _ _ => True) (fun i _ => [.int .i64 i,numsD (zrow p o N w i)]) (fun _ _ => _) ?_ ?_ 0 () (Nat.zero_le _) trivial
      · rintro i _ L2 hi _ hL2
        have hnext2 := hL2 () trivial
        have hh := hasT_run p[i].2 w (by omega)
        have hr := row_P hi
        unfold rowP at hr
        have hwl : w < (zrow p o N w i).length := by rw [zrow_len]; exact hw
        have hc := chk_N hwl
        have hg := get_N hwl
        rw [zrow_get] at hg
        have hio : i < o.length := by rw [hol]; exact hi
        have hro := row_N hio
        have hoi := hob _ (List.getElem_mem hio)
        have hs := set_N hwl (zF p o w (i + 1))
        have hs2 : (zrow p o N w i).set w (zF p o w (i + 1)) = zrow p o N w (i + 1) := zrow_set _ _ _ _ _ _
        rw [hs2] at hs
        cases hb2 : p[i].2.getLsbD w with
        | true =>
         rw [hb2] at hh
         have hzs : zF p o w (i + 1) = max1 (zF p o w i) (o[i] + 1) := by rw [zF_succ,gdP hi,hb2,if_pos rfl,gd hio]
         rw [hzs] at hs
         unfold max1 at hs
         simp (disch := omega) only [ir10p1,ir10p0,stepQ,stepL,eq_self,aBin,reduceIte,hi,hr,hh,hc,hg,hro,hs,wr,natS,hnext2]
        | false =>
         rw [hb2] at hh
         have hzs : zF p o w (i + 1) = zF p o w i := by rw [zF_succ,gdP hi,hb2,if_neg (by simp)]
         have hzr : zrow p o N w i = zrow p o N w (i + 1) := by unfold zrow; rw [hzs]
         rw [← hzr] at hnext2
         simp (disch := omega) only [ir10p1,ir10p0,stepQ,stepL,eq_self,aBin,reduceIte,hi,hr,hh,wr,natS,hnext2]
      · rintro _ L2 _
        rw [zrow_end p o N w hw]
        simp (disch := omega) only [ir10p1,stepQ,stepL,eq_self,aBin,reduceIte,Nat.lt_irrefl,wr,natS,hnext]
    · rintro _ L _
      have hno := normal_run names (zL p o N) hn (by rw [zL_len]; omega)
      rw [mixL_end]
      have hno : run tb 33 [strsD names,numsD ((List.range N).map fun w => zF p o w p.length)] = some (rkR names (zL p o N)) := hno
      unfold rkR at hno ⊢
      by_cases hne : normE names (zL p o N) = true
      · rw [if_pos hne] at hno ⊢
        simp (disch := omega) only [ir10p2,stepQ,stepL,eq_self,aBin,reduceIte,Nat.lt_irrefl,hno]
      · rw [if_neg hne] at hno ⊢
        simp (disch := omega) only [ir10p2,stepQ,stepL,eq_self,aBin,reduceIte,Nat.lt_irrefl,hno]
 · rw [if_neg c] at h1 ⊢
   simp (disch := omega) only [ir10,stepQ,stepL,eq_self,aBin,reduceIte,h1,ibne,c]
theorem z32_run (names : List (List UInt8)) (hn : names.length < 1000000000) (hs : ∀ s ∈ names,s.length < 9223372036854775808) (l : List CF) (hf : ∀ c ∈ l,c.1.size < 1000000000 ∧ c.2.size < 1000000000) (hb : ∀ c ∈ l,F.allF nameB c.1 = true ∧ F.allF nameB c.2 = true) (hfl : l.length < 1000000000) :
 run tb 11 [strsD names,condsD l] = some (zR names l) := by
 refine run_ir (x := ir11) rfl ?_
 have h0 := layers32_run names hn hs l hf hb hfl
 have h1 := pairs32_run names hn hs l hf hb hfl
 unfold zR
 unfold lyR at h0
 by_cases c : prE names l = 0
 · rw [if_pos c] at h0 h1 ⊢
   have hvo := (prE_len c).1
   have hpl : (prsS names l).length = l.length := by simp [prsS]
   have hp64 : (prsS names l).length ≤ 64 := by rw [hpl]; exact (prE_len c).2
   have hnl : (noL names l).length = (prsS names l).length := by simp [noL]
   have hng : ∀ i (h : i < (prsS names l).length),(noL names l)[i]'(by rw [hnl]; exact h) = (prsS names l)[i].2 := fun i h => by simp [noL]
   have hlc : PO.eval .lenL [condsD l] = some [.int .i64 (prsS names l).length] := by rw [len_C,hpl]
   generalize prsS names l = p at *
   generalize noL names l = ns at *
   cases hl : layS p with
   | none =>
    rw [hl] at h0
    unfold layR at h0
    simp (disch := omega) only [ir11,stepQ,stepL,eq_self,aBin,reduceIte,Int.reduceEq,h0,ibne]
   | some o =>
    rw [hl] at h0
    unfold layR at h0
    obtain ⟨hol,hob⟩ := layS_ok hp64 hl
    have hn6 := vocOk_len hvo
    have hN : 2 ^ names.length ≤ 64 := Nat.pow_le_pow_right (by omega : 0 < 2) hn6
    have hmk := mkN (n := 2 ^ names.length) (by omega)
    have hz : List.replicate (2 ^ names.length) (0 : Int) = mixL (fun w => zF p o w p.length) (fun _ => 0) (2 ^ names.length) 0 := by
     rw [mixL_zero]
     refine List.ext_getElem (by simp) fun i h1 h2 => by simp
    rw [hz] at hmk
    have hln : ∀ l : List Int,PO.eval .lenL [numsD l] = some [.int .i64 l.length] := len_N
    simp (disch := omega) only [ir11,stepQ,stepL,eq_self,aBin,reduceIte,bvQ,wu,shl_norm,h0,h1,ibne,len_S,hmk]
    generalize hNN : 2 ^ names.length = N at *
    refine loop_k (σ := Unit) N (fun _ _ => True) (fun w _ => [.int .i64 w,numsD (mixL (fun w => zF p o w p.length) (fun _ => 0) N w)]) (fun _ _ => rkR names (zL p o N)) ?_ ?_ 0 () (Nat.zero_le _) trivial
    · rintro w _ L hw _ hL
      have hnext := hL () trivial
      simp (disch := omega) only [ir11p2,stepQ,stepL,eq_self,aBin,reduceIte,hln,mixL_len,hw]
      rw [← zrow_zero p o N w hw]
      refine loop_k (σ := Unit) p.length (fun _ _ => True) (fun i _ => [.int .i64 i,numsD (zrow p o N w i)]) (fun _ _ => _) ?_ ?_ 0 () (Nat.zero_le _) trivial
      · rintro i _ L2 hi _ hL2
        have hnext2 := hL2 () trivial
        have hh := hasR_run p[i].2 w (by omega)
        have hr := row_V (l := ns) (i := i) (by rw [hnl]; exact hi)
        rw [hng i hi] at hr
        have hwl : w < (zrow p o N w i).length := by rw [zrow_len]; exact hw
        have hc := chk_N hwl
        have hg := get_N hwl
        rw [zrow_get] at hg
        have hio : i < o.length := by rw [hol]; exact hi
        have hro := row_N hio
        have hoi := hob _ (List.getElem_mem hio)
        have hs := set_N hwl (zF p o w (i + 1))
        have hs2 : (zrow p o N w i).set w (zF p o w (i + 1)) = zrow p o N w (i + 1) := zrow_set _ _ _ _ _ _
        rw [hs2] at hs
        have hcm : (1 : Int) + o[i] = o[i] + 1 := Int.add_comm _ _
        cases hb2 : p[i].2.getLsbD w with
        | true =>
         rw [hb2] at hh
         have hzs : zF p o w (i + 1) = max1 (zF p o w i) (o[i] + 1) := by rw [zF_succ,gdP hi,hb2,if_pos rfl,gd hio]
         rw [hzs] at hs
         unfold max1 at hs
         simp (disch := omega) only [ir11p1,ir11p0,stepQ,stepL,eq_self,aBin,reduceIte,hlc,hi,hr,hh,hc,hg,hro,hcm,hs,wr,natS,hnext2]
        | false =>
         rw [hb2] at hh
         have hzs : zF p o w (i + 1) = zF p o w i := by rw [zF_succ,gdP hi,hb2,if_neg (by simp)]
         have hzr : zrow p o N w i = zrow p o N w (i + 1) := by unfold zrow; rw [hzs]
         rw [← hzr] at hnext2
         simp (disch := omega) only [ir11p1,ir11p0,stepQ,stepL,eq_self,aBin,reduceIte,hlc,hi,hr,hh,wr,natS,hnext2]
      · rintro _ L2 _
        rw [zrow_end p o N w hw]
        simp (disch := omega) only [ir11p1,stepQ,stepL,eq_self,aBin,reduceIte,hlc,Nat.lt_irrefl,wr,natS,hnext]
    · rintro _ L _
      have hno := normal3_run names (zL p o N) hn hs (by rw [zL_len]; omega)
      rw [mixL_end]
      have hno : run tb 27 [strsD names,numsD ((List.range N).map fun w => zF p o w p.length)] = some (rkR names (zL p o N)) := hno
      have hlen : ((List.range N).map fun w => zF p o w p.length).length = N := by simp
      unfold rkR at hno ⊢
      by_cases hne : normE names (zL p o N) = true
      · rw [if_pos hne] at hno ⊢
        simp (disch := omega) only [ir11p2,stepQ,stepL,eq_self,aBin,reduceIte,hln,hlen,Nat.lt_irrefl,hno]
      · rw [if_neg hne] at hno ⊢
        simp (disch := omega) only [ir11p2,stepQ,stepL,eq_self,aBin,reduceIte,hln,hlen,Nat.lt_irrefl,hno]
 · rw [if_neg c] at h0 ⊢
   simp (disch := omega) only [ir11,stepQ,stepL,eq_self,aBin,reduceIte,h0,ibne,c]
end Go.Proofs.YtojkhlijbpmgpaaGreat

namespace Go.Proofs.YtojkhlijbpmgpaaGreat
open Go Am
set_option maxRecDepth 100000
def fromS (ranks : List Int) (k : Int) : BitVec 64 := whereS ranks k (maxR ranks) ranks.length
def cdF (names : List (List UInt8)) (ranks : List Int) (k : Nat) : CF := (thy names (fromS ranks (k : Int)),thy names (levS ranks k ranks.length))
def cdS (names : List (List UInt8)) (ranks : List Int) (M : Nat) : List CF := (List.range M).map (cdF names ranks)
def cdR (names : List (List UInt8)) (ranks : List Int) : List D := if orderE names ranks = 0 then [condsD (cdS names ranks (maxR ranks).toNat),.int .i64 0] else [.sl [],.int .i64 (orderE names ranks)]
theorem cdS_len (names : List (List UInt8)) (ranks : List Int) (M : Nat) : (cdS names ranks M).length = M := by simp [cdS]
theorem cdS_succ (names : List (List UInt8)) (ranks : List Int) (i : Nat) : cdS names ranks (i + 1) = cdS names ranks i ++ [cdF names ranks i] := by simp [cdS,List.range_succ]
theorem fromS_step (ranks : List Int) (h : ranks.length ≤ 64) (i : Nat) : fromS ranks (i : Int) &&& ~~~levS ranks i ranks.length = fromS ranks ((i + 1 : Nat) : Int) := by
 refine bv_ext fun w hw => ?_
 rw [BitVec.getLsbD_and,BitVec.getLsbD_not]
 unfold fromS whereS levS
 rw [bitsTo_get _ _ _ h,bitsTo_get _ _ _ h,bitsTo_get _ _ _ h]
 generalize ranks.getD w (-1) = r
 by_cases h1 : w < ranks.length
 · simp only [h1,decide_true,Bool.true_and]
   by_cases b : r = (i : Int)
   · have : ¬ r ≥ ((i + 1 : Nat) : Int) := by omega
     simp [b]; intros; omega
   · by_cases c : r ≥ (i : Int)
     · have : r ≥ ((i + 1 : Nat) : Int) := by omega
       simp [b,c,hw]; intros; omega
     · have : ¬ r ≥ ((i + 1 : Nat) : Int) := by omega
       simp [b,c]; intros; omega
 · simp [h1]
theorem fromS_zero {names : List (List UInt8)} {ranks : List Int} (h : orderE names ranks = 0) : allS names = fromS ranks 0 := by
 have hlen := orderE_len h
 obtain ⟨hvo,hl,hrk⟩ := orderE_zero h
 refine bv_ext fun w hw => ?_
 unfold allS fromS whereS
 rw [if_pos hvo,← hl,bitsTo_get _ _ _ hlen.1,bitsTo_get _ _ _ hlen.1]
 by_cases h1 : w < ranks.length
 · have hm := rkIn_mem (rkOk_in hrk) ranks[w] (List.getElem_mem h1)
   have hx : ranks[w] ≤ maxR ranks := maxF_mem ranks 0 _ (List.getElem_mem h1)
   have hg : ranks.getD w (-1) = ranks[w] := by simp [h1]
   rw [hg]
   have h0 : ranks[w] ≥ 0 := hm.1
   simp [h0,hx]
 · simp [h1]
theorem condsP_run (names : List (List UInt8)) (ranks : List Int) (hn : names.length < 1000000000) (hl : ranks.length < 1000000000) :
 run tb 14 [strsD names,numsD ranks] = some (cdR names ranks) := by
 refine run_ir (x := ir14) rfl ?_
 have hv := validateO_run names ranks hn hl
 have hlv := levelsO_run names ranks hn hl
 have hall := all_run names hn
 unfold cdR
 by_cases h : orderE names ranks = 0
 · rw [if_pos h]
   have hlen := orderE_len h
   have hvo := (orderE_zero h).1
   obtain ⟨m,hm⟩ := Int.eq_ofNat_of_zero_le (maxR_ge ranks)
   have hlt := maxR_lt (rkOk_in (orderE_zero h).2.2) hlen.2
   rw [h] at hv
   unfold levelsO at hlv
   rw [if_pos h] at hlv
   rw [fromS_zero h] at hall
   have hM : (maxR ranks).toNat = m := by omega
   have hls : levelsS ranks = (List.range (m + 1)).map fun k => levS ranks k ranks.length := by unfold levelsS; rw [hM]
   rw [hM]
   rw [hls] at hlv
   have hsub : PO.eval (.subL 1) [bvsD ((List.range (m + 1)).map fun k => levS ranks k ranks.length),.int .i64 0,.int .i64 m] = some [bvsD ((List.range m).map fun k => levS ranks k ranks.length)] := by
    simp only [PO.eval,bvsD]
    rw [if_pos ⟨by omega,by omega,by simp; omega,by simp⟩]
    have : (m : Int).toNat = m := by omega
    rw [this,List.range_succ]
    simp
   have hml : ((List.range m).map fun k => levS ranks k ranks.length).length = m := by simp
   have hmg : ∀ i (hi : i < m),((List.range m).map fun k => levS ranks k ranks.length)[i]'(by rw [hml]; exact hi) = levS ranks i ranks.length := fun i hi => by simp
   have hln1 : ((List.range (m + 1)).map fun k => levS ranks k ranks.length).length = m + 1 := by simp
   simp (disch := omega) only [ir14,stepQ,stepL,eq_self,aBin,reduceIte,hv,ibne,hall,hlv,len_V,hln1,wr,hsub,hml]
   have h1 : [bvD (fromS ranks 0),D.int .i64 0,D.sl []] = [bvD (fromS ranks ((0 : Nat) : Int)),.int .i64 ((0 : Nat) : Int),condsD (cdS names ranks 0)] := rfl
   rw [h1]
   generalize hLV : ((List.range m).map fun k => levS ranks k ranks.length) = lv at *
   refine loop_k (σ := Unit) m (fun _ _ => True) (fun i _ => [bvD (fromS ranks (i : Int)),.int .i64 i,condsD (cdS names ranks i)]) (fun _ _ => [condsD (cdS names ranks m),.int .i64 0]) ?_ ?_ 0 () (Nat.zero_le _) trivial
   · rintro i _ L hi _ hL
     have hnext := hL () trivial
     have hr := row_V (l := lv) (i := i) (by rw [hml]; exact hi)
     rw [hmg i hi] at hr
     have ht1 := theoryW_run names hn (fromS ranks (i : Int))
     have ht2 := theoryW_run names hn (levS ranks i ranks.length)
     unfold thyE at ht1 ht2
     rw [if_pos hvo] at ht1 ht2
     simp only [rowF,List.cons_append,List.nil_append] at ht1 ht2
     rw [cdS_succ] at hnext
     have hap := app_C (l := cdS names ranks i) (c := cdF names ranks i) (by rw [cdS_len]; omega)
     unfold rowC cdF at hap
     simp only at hap
     unfold cdF at hnext
     simp (disch := omega) only [ir14p0,stepQ,stepL,eq_self,aBin,reduceIte,bvQ,hi,hr,ht1,ht2,ibne,ev_mk61,hap,fromS_step ranks hlen.1 i,wr,natS,hnext]
   · rintro _ L _
     simp (disch := omega) only [ir14p0,stepQ,stepL,eq_self,aBin,reduceIte,Nat.lt_irrefl]
 · rw [if_neg h]
   simp (disch := omega) only [ir14,stepQ,stepL,eq_self,aBin,reduceIte,hv,ibne,h]
theorem conds32_run (names : List (List UInt8)) (ranks : List Int) (hn : names.length < 1000000000) (hs : ∀ s ∈ names,s.length < 9223372036854775808) (hl : ranks.length < 1000000000) :
 run tb 15 [strsD names,numsD ranks] = some (cdR names ranks) := by
 refine run_ir (x := ir15) rfl ?_
 have hv := validateO3_run names ranks hn hs hl
 have hmo := most_run (strsD names) ranks hl
 unfold cdR
 by_cases h : orderE names ranks = 0
 · rw [if_pos h]
   have hlen := orderE_len h
   have hvo := (orderE_zero h).1
   obtain ⟨m,hm⟩ := Int.eq_ofNat_of_zero_le (maxR_ge ranks)
   have hlt := maxR_lt (rkOk_in (orderE_zero h).2.2) hlen.2
   rw [h] at hv
   have hM : (maxR ranks).toNat = m := by omega
   rw [hM]
   have hwf : ∀ k : Nat,run tb 42 [strsD names,numsD ranks,.int .i64 k,.int .i64 m] = some [bvD (fromS ranks (k : Int))] := fun k => by
    have := where_run (strsD names) ranks hl (k : Int) (maxR ranks)
    rw [hm] at this
    unfold fromS; rw [hm]; exact this
   rw [hm] at hmo
   simp (disch := omega) only [ir15,stepQ,stepL,eq_self,aBin,reduceIte,hv,ibne,hmo]
   have h1 : [D.int .i64 0,D.sl []] = [.int .i64 ((0 : Nat) : Int),condsD (cdS names ranks 0)] := rfl
   rw [h1]
   refine loop_k (σ := Unit) m (fun _ _ => True) (fun i _ => [.int .i64 i,condsD (cdS names ranks i)]) (fun _ _ => [condsD (cdS names ranks m),.int .i64 0]) ?_ ?_ 0 () (Nat.zero_le _) trivial
   · rintro i _ L hi _ hL
     have hnext := hL () trivial
     have hw1 := hwf i
     have hw2 := where_run (strsD names) ranks hl (i : Int) (i : Int)
     rw [where_lev _ _ _ hlen.1] at hw2
     have ht1 := theoryR_run names hn hs (fromS ranks (i : Int))
     have ht2 := theoryR_run names hn hs (levS ranks i ranks.length)
     unfold thyE at ht1 ht2
     rw [if_pos hvo] at ht1 ht2
     simp only [rowF,List.cons_append,List.nil_append] at ht1 ht2
     rw [cdS_succ] at hnext
     have hap := app_C (l := cdS names ranks i) (c := cdF names ranks i) (by rw [cdS_len]; omega)
     unfold rowC cdF at hap
     simp only at hap
     unfold cdF at hnext
     simp (disch := omega) only [ir15p0,stepQ,stepL,eq_self,aBin,reduceIte,hi,hw1,hw2,ht1,ht2,ev_mk61,hap,wr,natS,hnext]
   · rintro _ L _
     simp (disch := omega) only [ir15p0,stepQ,stepL,eq_self,aBin,reduceIte,Nat.lt_irrefl]
 · rw [if_neg h]
   simp (disch := omega) only [ir15,stepQ,stepL,eq_self,aBin,reduceIte,hv,ibne,h]
end Go.Proofs.YtojkhlijbpmgpaaGreat

namespace Go.Proofs.YtojkhlijbpmgpaaGreat
open Go Am
set_option maxRecDepth 100000
def aP : F := F.mk 3 [97] []
def aQ : F := F.mk 3 [98] []
def aNQ : F := ng aQ
def aPNQ : F := pr 5 aP aNQ
theorem aPNQ_models : modelsE (vocN 2) aPNQ = 0 ∧ modelsS (vocN 2) aPNQ = 2#64 := by
 have h := pr5_models (voc := vocN 2) (f := aP) (g := aNQ) (by decide +kernel) (by decide +kernel) (by decide +kernel) (by decide +kernel) (by decide +kernel) (by decide +kernel) (by decide +kernel) (by decide +kernel) (by decide +kernel)
 refine ⟨h.1,?_⟩
 show modelsS (vocN 2) (pr 5 aP aNQ) = 2#64
 rw [h.2]
 decide +kernel
theorem awake32_run : run tb 1 [] = some [.bool true] := by
 refine run_ir (x := ir1) rfl ?_
 have hvo : run tb 7 [.int .i64 2] = some [strsD (vocN 2)] := voc_run 2 (by omega)
 have hr0 : PO.eval (.row 1) [strsD (vocN 2),.int .i64 0] = some [.str [97]] := rfl
 have hr1 : PO.eval (.row 1) [strsD (vocN 2),.int .i64 1] = some [.str [98]] := rfl
 have at_ : ∀ s,run tb 19 [.str s] = some [.int .i64 3,.str s,.sl []] := fun s => by
  refine run_ir (x := ir19) rfl ?_
  simp only [ir19,stepQ,stepL,eq_self]
 have hmk2 : PO.eval (.mk 3 2) [.int .i64 3,.str [97],.sl [],.int .i64 3,.str [98],.sl []] = some [.sl (F.encs [aP,aQ])] := rfl
 obtain ⟨e1,e2⟩ := aPNQ_models
 have m1 : modelsE (vocN 2) aP = 0 := by decide +kernel
 have m2 : modelsE (vocN 2) aQ = 0 := by decide +kernel
 have m3 : modelsE (vocN 2) aNQ = 0 := by decide +kernel
 have s1 : modelsS (vocN 2) aP = 10#64 := by decide +kernel
 have s2 : modelsS (vocN 2) aQ = 12#64 := by decide +kernel
 have s3 : modelsS (vocN 2) aNQ = 3#64 := by decide +kernel
 have hrk : run tb 20 [strsD (vocN 2),.sl (F.encs [aP,aQ])] = some [strsD (vocN 2),numsD [2,1,2,0],.int .i64 0] := by
  have h := rankP_run (vocN 2) (by rw [vocN_len]; omega) [aP,aQ] (fun f hf => by
   simp only [List.mem_cons,List.not_mem_nil,or_false] at hf
   rcases hf with rfl | rfl <;> decide +kernel) (by simp)
  rw [h]
  have hn : normE (vocN 2) (rkL (msO (vocN 2) [aP,aQ]) (2 ^ (vocN 2).length)) = true := by decide +kernel
  have hs : normS (rkL (msO (vocN 2) [aP,aQ]) (2 ^ (vocN 2).length)) = [2,1,2,0] := by decide +kernel
  have he : strE (vocN 2) [aP,aQ] = 0 := by decide +kernel
  unfold rankR rkR
  rw [if_pos he,if_pos hn,hs]
 have n1 : run tb 21 [.int .i64 3,.str [98],.sl []] = some [.int .i64 4,.str [],.sl (F.encs [aQ])] := by
  refine run_ir (x := ir21) rfl ?_
  have hmk : PO.eval (.mk 3 1) [.int .i64 3,.str [98],.sl []] = some [.sl (F.encs [aQ])] := rfl
  simp only [ir21,stepQ,stepL,eq_self,hmk]
 have a1 : run tb 22 [.int .i64 3,.str [97],.sl [],.int .i64 4,.str [],.sl (F.encs [aQ])] = some [.int .i64 5,.str [],.sl (F.encs [aP,aNQ])] := by
  refine run_ir (x := ir22) rfl ?_
  have hmk : PO.eval (.mk 3 2) [.int .i64 3,.str [97],.sl [],.int .i64 4,.str [],.sl (F.encs [aQ])] = some [.sl (F.encs [aP,aNQ])] := rfl
  simp only [ir22,stepQ,stepL,eq_self,hmk]
 have hmk6 : PO.eval (.mk 6 2) [.int .i64 3,.str [97],.sl [],.int .i64 3,.str [98],.sl [],.int .i64 5,.str [],.sl (F.encs [aP,aNQ]),.int .i64 4,.str [],.sl (F.encs [aQ])] = some [condsD [(aP,aQ),(aPNQ,aNQ)]] := rfl
 have hly : run tb 8 [strsD (vocN 2),condsD [(aP,aQ),(aPNQ,aNQ)]] = some [numsD [0,1],.int .i64 0] := by
  have h := layersL_run (vocN 2) (by rw [vocN_len]; omega) [(aP,aQ),(aPNQ,aNQ)] (fun c hc => by
   simp only [List.mem_cons,List.not_mem_nil,or_false] at hc
   rcases hc with rfl | rfl
   · exact ⟨by decide +kernel,by decide +kernel⟩
   · exact ⟨by simp [aPNQ,pr,aNQ,ng,aP,aQ,F.size,F.sizes],by decide +kernel⟩) (by simp)
  rw [h]
  have hp : prE (vocN 2) [(aP,aQ),(aPNQ,aNQ)] = 0 := by
   unfold prE
   have hv : vocOk (vocN 2) = true := by decide +kernel
   simp [hv,cE,fstE,m1,m2,m3,e1]
  have hs : prsS (vocN 2) [(aP,aQ),(aPNQ,aNQ)] = [(8#64,2#64),(2#64,0#64)] := by
   simp [prsS,prS,s1,s2,s3,e2]
  have hl : layS [(8#64,2#64),(2#64,0#64)] = some [0,1] := by decide +kernel
  unfold lyR
  rw [if_pos hp,hs,hl]
  rfl
 have m4 : PO.eval (.mk 1 4) [.int .i64 2,.int .i64 1,.int .i64 2,.int .i64 0] = some [numsD [2,1,2,0]] := rfl
 have m5 : PO.eval (.mk 1 2) [.int .i64 0,.int .i64 1] = some [numsD [0,1]] := rfl
 have i1 := ints_run [2,1,2,0] [2,1,2,0] (by decide)
 have i2 := ints_run [0,1] [0,1] (by decide)
 rw [decide_eq_true rfl] at i1 i2
 simp (disch := omega) only [ir1,stepQ,stepL,eq_self,aBin,reduceIte,hvo,hr0,hr1,at_,hmk2,hrk,n1,a1,hmk6,hly,m4,m5,i1,i2,callQ_tb]
end Go.Proofs.YtojkhlijbpmgpaaGreat

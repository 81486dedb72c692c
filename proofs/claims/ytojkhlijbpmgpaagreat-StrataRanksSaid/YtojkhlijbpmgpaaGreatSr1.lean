/- What functions of the program compute: lemmas. -/
import Derived.Test.YtojkhlijbpmgpaaGreatSt
import Derived.Test.YtojkhlijbpmgpaaGreatOd
import Derived.Test.YtojkhlijbpmgpaaGreatAm6
set_option linter.unusedSimpArgs false
set_option linter.unusedVariables false
set_option linter.unusedSectionVars false
namespace Go.Proofs.YtojkhlijbpmgpaaGreat
open Go Am
set_option maxRecDepth 100000
def rkR (names : List (List UInt8)) (l : List Int) : List D := if normE names l = true then [strsD names,numsD (normS l),.int .i64 0] else [.sl [],.sl [],.int .i64 1]
def rankR (names : List (List UInt8)) (fs : List F) : List D := if strE names fs = 0 then rkR names (rkL (msO names fs) (2 ^ names.length)) else [.sl [],.sl [],.int .i64 (strE names fs)]
theorem encs3 : ∀ l : List F,(F.encs l).all (fun r => r.length == 3) = true
 | [] => rfl
 | f :: l => by simp [F.encs,F.enc_eq,encs3 l]
theorem backw_run (d : D) : run tb 26 [d] = some [d] := by
 refine run_ir (x := ir26) rfl ?_
 simp only [ir26,stepQ,stepL,eq_self,aBin,reduceIte,Int.reduceEq,Int.reduceLT,Int.reduceLE,Int.reduceGT,Int.reduceGE]
theorem rankP_run (names : List (List UInt8)) (hn : names.length < 1000000000) (fs : List F) (hf : ∀ f ∈ fs,f.size < 1000000000) (hfl : fs.length < 1000000000) :
 run tb 8 [strsD names,.sl (F.encs fs)] = some (rankR names fs) := by
 refine run_ir (x := ir8) rfl ?_
 have hv := valid_run names hn
 unfold rankR strE
 cases hvo : vocOk names with
 | false =>
  rw [hvo] at hv
  simp (disch := omega) only [ir8,stepQ,stepL,eq_self,aBin,reduceIte,Int.reduceEq,Int.reduceLT,Int.reduceLE,Int.reduceGT,Int.reduceGE,hv]
 | true =>
  rw [hvo] at hv
  have hn6 := vocOk_len hvo
  by_cases h64 : 64 < fs.length
  · have h64' : (fs.length : Int) > 64 := by omega
    simp (disch := omega) only [ir8,stepQ,stepL,eq_self,aBin,reduceIte,Int.reduceEq,Int.reduceLT,Int.reduceLE,Int.reduceGT,Int.reduceGE,hv,len_F,h64,h64']
  · have h64' : ¬ (fs.length : Int) > 64 := by omega
    have hb := backw_run (.sl (F.encs fs))
    have hfst := first_run names hn fs hf hfl
    have hfstE : (if true = false then (1 : Int) else if 64 < fs.length then 2 else fstE names fs) = fstE names fs := by rw [if_neg (by simp),if_neg h64]
    rw [hfstE]
    have hml : (msO names fs).length = fs.length := by simp [msO]
    have hmi : ∀ i (h : i < fs.length),(msO names fs)[i]'(by rw [hml]; exact h) = modelsS names fs[i] := fun i h => by simp [msO]
    generalize msO names fs = ms at *
    have hN : 2 ^ names.length ≤ 64 := Nat.pow_le_pow_right (by omega : 0 < 2) hn6
    have hmk := mkN (n := 2 ^ names.length) (by omega)
    have hz : List.replicate (2 ^ names.length) (0 : Int) = rkL (ms.drop fs.length) (2 ^ names.length) := by
     rw [← hml,List.drop_length]
     refine List.ext_getElem (by simp [rkL]) fun i h1 h2 => by simp [rkL,rkB]
    rw [hz] at hmk
    have hsub : PO.eval (.subL 3) [.sl (F.encs fs),.int .i64 0,.int .i64 fs.length] = some [.sl (F.encs fs)] := by
     simp only [PO.eval,F.encs_len]
     rw [if_pos ⟨by omega,by omega,by omega,encs3 fs⟩]
     have : (fs.length : Int).toNat = (F.encs fs).length := by rw [F.encs_len]; omega
     rw [this,List.take_length]; rfl
    have hroom : PO.eval (.room 1 0) [.sl (F.encs fs)] = some [] := by
     simp only [PO.eval,F.encs_len]
     rw [if_pos ⟨by omega,by omega⟩]
    simp (disch := omega) only [ir8,stepQ,stepL,eq_self,aBin,reduceIte,Int.reduceEq,Int.reduceLT,Int.reduceLE,Int.reduceGT,Int.reduceGE,bvQ,wu,shl_norm,shr_norm,and1_norm,hv,len_F,h64',len_S,hmk,hb,hsub,hroom,wr]
    have hln : ∀ l : List Int,PO.eval .lenL [numsD l] = some [.int .i64 l.length] := len_N
    generalize hNN : 2 ^ names.length = N at *
    refine loop_km (ι := Nat) (fun k => k) (fun k => k ≤ fs.length ∧ ∀ f ∈ fs.drop k,modelsE names f = 0) (fun k => [numsD (rkL (ms.drop k) N),.int .i64 ((k : Int) - 1)]) (fun _ => if fstE names fs = 0 then rkR names (rkL ms N) else [.sl [],.sl [],.int .i64 (fstE names fs)]) ?_ fs.length ⟨Nat.le_refl _,by simp⟩
    rintro k L ⟨hk,hz⟩ hL
    cases k with
    | zero =>
     have h0 : ¬ ((0 : Int) - 1 ≥ 0) := by omega
     have hf0 : fstE names fs = 0 := fstE_zero.2 (by simpa using hz)
     have hno := normal_run names (rkL ms N) hn (by rw [rkL_len]; omega)
     rw [if_pos hf0]
     unfold rkR
     by_cases hne : normE names (rkL ms N) = true
     · rw [if_pos hne] at hno ⊢
       simp (disch := omega) only [ir8p2,stepQ,stepL,eq_self,aBin,reduceIte,Int.reduceEq,Int.reduceLT,Int.reduceLE,Int.reduceGT,Int.reduceGE,h0,List.drop_zero,hno,callQ_tvi]
     · rw [if_neg hne] at hno ⊢
       simp (disch := omega) only [ir8p2,stepQ,stepL,eq_self,aBin,reduceIte,Int.reduceEq,Int.reduceLT,Int.reduceLE,Int.reduceGT,Int.reduceGE,h0,List.drop_zero,hno,callQ_tvi]
    | succ k =>
     have hk' : k < fs.length := by omega
     have e1 : ((k + 1 : Nat) : Int) - 1 = (k : Int) := by omega
     have h0 : (k : Int) ≥ 0 := by omega
     have hm := modelsW_run names fs[k] hn (hf _ (List.getElem_mem hk'))
     simp only [rowF] at hm
     rw [e1]
     by_cases c : modelsE names fs[k] = 0
     · rw [c] at hm
       have hnext := hL k ⟨by omega,fun f hf' => by
        rw [List.drop_eq_getElem_cons hk'] at hf'
        rcases List.mem_cons.1 hf' with rfl | h
        · exact c
        · exact hz f h⟩ (by omega)
       simp (disch := omega) only [ir8p2,stepQ,stepL,eq_self,aBin,reduceIte,Int.reduceEq,Int.reduceLT,Int.reduceLE,Int.reduceGT,Int.reduceGE,h0,hk',row_F,hm,ibne,hln,rkL_len]
       have hmz : rkL (ms.drop (k + 1)) N = mixL (rkB (ms.drop k)) (rkB (ms.drop (k + 1))) N 0 := (mixL_zero _ _ _).symm
       rw [hmz]
       refine loop_k (σ := Unit) N (fun _ _ => True) (fun w _ => [.int .i64 w,numsD (mixL (rkB (ms.drop k)) (rkB (ms.drop (k + 1))) N w)]) (fun _ _ => _) ?_ ?_ 0 () (Nat.zero_le _) trivial
       · rintro w _ L2 hw _ hL2
         have hnext2 := hL2 () trivial
         have hh := hasT_run (modelsS names fs[k]) w (by omega)
         have hrk := rkB_drop (ms := ms) (i := k) (by omega) w
         rw [hmi k hk',hml] at hrk
         cases hb2 : (modelsS names fs[k]).getLsbD w with
         | true =>
          rw [hb2] at hh hrk
          rw [if_pos rfl] at hrk
          rw [← mixL_same _ _ _ _ hrk] at hnext2
          simp (disch := omega) only [ir8p1,ir8p0,stepQ,stepL,eq_self,aBin,reduceIte,Int.reduceEq,Int.reduceLT,Int.reduceLE,Int.reduceGT,Int.reduceGE,hw,hh,wr,natS,hnext2]
         | false =>
          rw [hb2] at hh hrk
          rw [if_neg (by simp)] at hrk
          have hc := chk_N (l := mixL (rkB (ms.drop k)) (rkB (ms.drop (k + 1))) N w) (i := w) (by rw [mixL_len]; exact hw)
          have hs := set_N (l := mixL (rkB (ms.drop k)) (rkB (ms.drop (k + 1))) N w) (i := w) (by rw [mixL_len]; exact hw) (rkB (ms.drop k) w)
          rw [mixL_set _ _ _ _ hw,hrk] at hs
          simp (disch := omega) only [ir8p1,ir8p0,stepQ,stepL,eq_self,aBin,reduceIte,Int.reduceEq,Int.reduceLT,Int.reduceLE,Int.reduceGT,Int.reduceGE,hw,hh,len_F,wr,hc,hs,natS,hnext2]
       · rintro _ L2 _
         rw [mixL_end]
         have hnext' : L [numsD ((List.range N).map (rkB (ms.drop k))),.int .i64 ((k : Int) - 1)] = some (if fstE names fs = 0 then rkR names (rkL ms N) else [.sl [],.sl [],.int .i64 (fstE names fs)]) := hnext
         simp (disch := omega) only [ir8p1,stepQ,stepL,eq_self,aBin,reduceIte,Int.reduceEq,Int.reduceLT,Int.reduceLE,Int.reduceGT,Int.reduceGE,Nat.lt_irrefl,wr,hnext']
     · have hne : ¬ fstE names fs = 0 := fun h => c (fstE_zero.1 h _ (List.getElem_mem hk'))
       rw [if_neg hne]
       simp (disch := omega) only [ir8p2,stepQ,stepL,eq_self,aBin,reduceIte,Int.reduceEq,Int.reduceLT,Int.reduceLE,Int.reduceGT,Int.reduceGE,h0,hk',row_F,hm,ibne,c,hfst]
end Go.Proofs.YtojkhlijbpmgpaaGreat

namespace Go.Proofs.YtojkhlijbpmgpaaGreat
open Go Am
set_option maxRecDepth 100000
theorem models32_run (names : List (List UInt8)) (hn : names.length < 1000000000) (hs : ∀ s ∈ names,s.length < 9223372036854775808) (fs : List F) (hf : ∀ f ∈ fs,f.size < 1000000000) (hfl : fs.length < 1000000000) (hb : ∀ f ∈ fs,F.allF nameB f = true) :
 run tb 31 [strsD names,.sl (F.encs fs)] = some (if strE names fs = 0 then [bvsD (msO names fs),.int .i64 0] else [.sl [],.int .i64 (strE names fs)]) := by
 refine run_ir (x := ir31) rfl ?_
 have hv := valid3_run names hn hs
 unfold strE
 cases hvo : vocOk names with
 | false =>
  rw [hvo] at hv
  simp (disch := omega) only [ir31,stepQ,stepL,eq_self,aBin,reduceIte,Int.reduceEq,Int.reduceLT,Int.reduceLE,Int.reduceGT,Int.reduceGE,hv]
 | true =>
  rw [hvo] at hv
  by_cases h64 : 64 < fs.length
  · have h64' : (fs.length : Int) > 64 := by omega
    simp (disch := omega) only [ir31,stepQ,stepL,eq_self,aBin,reduceIte,Int.reduceEq,Int.reduceLT,Int.reduceLE,Int.reduceGT,Int.reduceGE,hv,len_F,h64,h64']
  · have h64' : ¬ (fs.length : Int) > 64 := by omega
    have hfstE : (if true = false then (1 : Int) else if 64 < fs.length then 2 else fstE names fs) = fstE names fs := by rw [if_neg (by simp),if_neg h64]
    rw [hfstE]
    have hz : D.sl [] = bvsD (msO names (fs.take 0)) := rfl
    simp (disch := omega) only [ir31,stepQ,stepL,eq_self,aBin,reduceIte,Int.reduceEq,Int.reduceLT,Int.reduceLE,Int.reduceGT,Int.reduceGE,hv,len_F,h64']
    refine loop_k (σ := Unit) fs.length (fun i _ => fstE names (fs.drop i) = fstE names fs) (fun i _ => [.int .i64 i,bvsD (msO names (fs.take i))]) (fun _ _ => if fstE names fs = 0 then [bvsD (msO names fs),.int .i64 0] else [.sl [],.int .i64 (fstE names fs)]) ?_ ?_ 0 () (Nat.zero_le _) rfl
    · rintro i _ L hi hp hL
      rw [drop_s hi,fstE_cons] at hp
      have hm := modelsR_run names fs[i] hn hs (hf _ (List.getElem_mem hi)) (hb _ (List.getElem_mem hi))
      simp only [rowF] at hm
      by_cases c : modelsE names fs[i] = 0
      · rw [if_pos c] at hp
        have hnext := hL () hp
        rw [c] at hm
        have hap := app_V (l := msO names (fs.take i)) (x := modelsS names fs[i]) (by simp [msO]; omega)
        have he : msO names (fs.take i) ++ [modelsS names fs[i]] = msO names (fs.take (i + 1)) := by
         rw [List.take_succ_eq_append_getElem hi]; simp only [msO,List.map_append,List.map_cons,List.map_nil]
        rw [he] at hap
        simp (disch := omega) only [ir31p0,stepQ,stepL,eq_self,aBin,reduceIte,Int.reduceEq,Int.reduceLT,Int.reduceLE,Int.reduceGT,Int.reduceGE,len_F,hi,row_F,hm,ibne,hap,wr,natS,hnext]
      · rw [if_neg c] at hp
        rw [hp] at hm c
        simp (disch := omega) only [ir31p0,stepQ,stepL,eq_self,aBin,reduceIte,Int.reduceEq,Int.reduceLT,Int.reduceLE,Int.reduceGT,Int.reduceGE,len_F,hi,row_F,hm,ibne,c]
    · rintro _ L hp
      rw [List.drop_length] at hp
      have hp : fstE names fs = 0 := by rw [← hp]; rfl
      simp (disch := omega) only [ir31p0,stepQ,stepL,eq_self,aBin,reduceIte,Int.reduceEq,Int.reduceLT,Int.reduceLE,Int.reduceGT,Int.reduceGE,len_F,Nat.lt_irrefl,hp,List.take_length]
theorem rank32_run (names : List (List UInt8)) (hn : names.length < 1000000000) (hs : ∀ s ∈ names,s.length < 9223372036854775808) (fs : List F) (hf : ∀ f ∈ fs,f.size < 1000000000) (hfl : fs.length < 1000000000) (hb : ∀ f ∈ fs,F.allF nameB f = true) :
 run tb 9 [strsD names,.sl (F.encs fs)] = some (rankR names fs) := by
 refine run_ir (x := ir9) rfl ?_
 have hm := models32_run names hn hs fs hf hfl hb
 unfold rankR
 by_cases c : strE names fs = 0
 · rw [if_pos c] at hm ⊢
   have hvo : vocOk names = true := by
    unfold strE at c
    cases h : vocOk names with
    | true => rfl
    | false => rw [h] at c; simp at c
   have hn6 := vocOk_len hvo
   have hl64 : fs.length ≤ 64 := by
    unfold strE at c
    rw [hvo,if_neg (by simp)] at c
    by_cases h : 64 < fs.length
    · rw [if_pos h] at c; simp at c
    · omega
   have hml : (msO names fs).length = fs.length := by simp [msO]
   generalize msO names fs = ms at *
   have hN : 2 ^ names.length ≤ 64 := Nat.pow_le_pow_right (by omega : 0 < 2) hn6
   have hmk := mkN (n := 2 ^ names.length) (by omega)
   have hz : List.replicate (2 ^ names.length) (0 : Int) = mixL (rkB ms) (fun _ => 0) (2 ^ names.length) 0 := by
    rw [mixL_zero]
    refine List.ext_getElem (by simp) fun i h1 h2 => by simp
   rw [hz] at hmk
   have hln : ∀ l : List Int,PO.eval .lenL [numsD l] = some [.int .i64 l.length] := len_N
   simp (disch := omega) only [ir9,stepQ,stepL,eq_self,aBin,reduceIte,Int.reduceEq,Int.reduceLT,Int.reduceLE,Int.reduceGT,Int.reduceGE,bvQ,wu,shl_norm,shr_norm,and1_norm,hm,ibne,len_S,hmk]
   generalize hNN : 2 ^ names.length = N at *
   refine loop_k (σ := Unit) N (fun _ _ => True) (fun w _ => [.int .i64 w,numsD (mixL (rkB ms) (fun _ => 0) N w)]) (fun _ _ => rkR names (rkL ms N)) ?_ ?_ 0 () (Nat.zero_le _) trivial
   · rintro w _ L hw _ hL
     have hnext := hL () trivial
     simp (disch := omega) only [ir9p2,stepQ,stepL,eq_self,aBin,reduceIte,Int.reduceEq,Int.reduceLT,Int.reduceLE,Int.reduceGT,Int.reduceGE,hln,mixL_len,hw]
     refine loop_k (σ := Unit) ms.length (fun i _ => rkB (ms.drop i) w = rkB ms w) (fun i _ => [.int .i64 i]) (fun _ _ => _) ?_ ?_ 0 () (Nat.zero_le _) rfl
     · rintro i _ L2 hi hp hL2
       have hh := hasR_run ms[i] w (by omega)
       rw [rkB_drop hi] at hp
       cases hb2 : ms[i].getLsbD w with
       | true =>
        rw [hb2] at hh hp
        rw [if_pos rfl] at hp
        have hnext2 := hL2 () hp
        simp (disch := omega) only [ir9p1,ir9p0,stepQ,stepL,eq_self,aBin,reduceIte,Int.reduceEq,Int.reduceLT,Int.reduceLE,Int.reduceGT,Int.reduceGE,len_V,hi,row_V,hh,wr,natS,hnext2]
       | false =>
        rw [hb2] at hh hp
        rw [if_neg (by simp)] at hp
        have hc := chk_N (l := mixL (rkB ms) (fun _ => 0) N w) (i := w) (by rw [mixL_len]; exact hw)
        have hst := set_N (l := mixL (rkB ms) (fun _ => 0) N w) (i := w) (by rw [mixL_len]; exact hw) (rkB ms w)
        rw [mixL_set _ _ _ _ hw,← hp] at hst
        simp (disch := omega) only [ir9p1,ir9p0,stepQ,stepL,eq_self,aBin,reduceIte,Int.reduceEq,Int.reduceLT,Int.reduceLE,Int.reduceGT,Int.reduceGE,len_V,hi,row_V,hh,wr,hc,hst,natS,hnext]
     · rintro _ L2 hp
       rw [List.drop_length] at hp
       have hc := chk_N (l := mixL (rkB ms) (fun _ => 0) N w) (i := w) (by rw [mixL_len]; exact hw)
       have hst := set_N (l := mixL (rkB ms) (fun _ => 0) N w) (i := w) (by rw [mixL_len]; exact hw) (rkB ms w)
       have hsub : IntKind.i64.wrap ((ms.length : Int) - ms.length) = rkB ms w := by rw [← hp,rkB_nil,Int.sub_self]; rfl
       rw [mixL_set _ _ _ _ hw] at hst
       simp (disch := omega) only [ir9p1,ir9p0,stepQ,stepL,eq_self,aBin,reduceIte,Int.reduceEq,Int.reduceLT,Int.reduceLE,Int.reduceGT,Int.reduceGE,len_V,Nat.lt_irrefl,hsub,hc,hst,wr,natS,hnext]
   · rintro _ L _
     have hno := normal3_run names (rkL ms N) hn hs (by rw [rkL_len]; omega)
     rw [mixL_end]
     have hno : run tb 24 [strsD names,numsD ((List.range N).map (rkB ms))] = some (rkR names (rkL ms N)) := hno
     have hlen : ((List.range N).map (rkB ms)).length = N := by simp
     unfold rkR at hno ⊢
     by_cases hne : normE names (rkL ms N) = true
     · rw [if_pos hne] at hno ⊢
       simp (disch := omega) only [ir9p2,stepQ,stepL,eq_self,aBin,reduceIte,Int.reduceEq,Int.reduceLT,Int.reduceLE,Int.reduceGT,Int.reduceGE,hln,hlen,Nat.lt_irrefl,hno]
     · rw [if_neg hne] at hno ⊢
       simp (disch := omega) only [ir9p2,stepQ,stepL,eq_self,aBin,reduceIte,Int.reduceEq,Int.reduceLT,Int.reduceLE,Int.reduceGT,Int.reduceGE,hln,hlen,Nat.lt_irrefl,hno]
 · rw [if_neg c] at hm ⊢
   simp (disch := omega) only [ir9,stepQ,stepL,eq_self,aBin,reduceIte,Int.reduceEq,Int.reduceLT,Int.reduceLE,Int.reduceGT,Int.reduceGE,hm,ibne,c]
end Go.Proofs.YtojkhlijbpmgpaaGreat

namespace Go.Proofs.YtojkhlijbpmgpaaGreat
open Go Am
set_option maxRecDepth 100000
def upS (ranks : List Int) (k : Int) : BitVec 64 := whereS ranks 0 k ranks.length
def ascS (names : List (List UInt8)) (ranks : List Int) (M : Nat) : List F := (List.range M).map fun (j : Nat) => thy names (upS ranks (j : Int))
def stS (names : List (List UInt8)) (ranks : List Int) : List F := (ascS names ranks (maxR ranks).toNat).reverse
def stR (names : List (List UInt8)) (ranks : List Int) : List D := if orderE names ranks = 0 then [.sl (F.encs (stS names ranks)),.int .i64 0] else [.sl [],.int .i64 (orderE names ranks)]
theorem ascS_len (names : List (List UInt8)) (ranks : List Int) (M : Nat) : (ascS names ranks M).length = M := by simp [ascS]
theorem ascS_get (names : List (List UInt8)) (ranks : List Int) (M i : Nat) (h : i < (ascS names ranks M).length) : (ascS names ranks M)[i] = thy names (upS ranks i) := by simp [ascS]
theorem ascS_succ (names : List (List UInt8)) (ranks : List Int) (i : Nat) : ascS names ranks (i + 1) = ascS names ranks i ++ [thy names (upS ranks i)] := by simp [ascS,List.range_succ]
theorem encs_reverse (l : List F) : (F.encs l).reverse = F.encs l.reverse := by
 simp only [F.encs_map,List.map_reverse]
theorem upS_step (ranks : List Int) (h : ranks.length ≤ 64) (i : Nat) : upS ranks ((i : Int) - 1) ||| levS ranks i ranks.length = upS ranks i := by
 refine bv_ext fun w hw => ?_
 rw [BitVec.getLsbD_or]
 unfold upS whereS levS
 rw [bitsTo_get _ _ _ h,bitsTo_get _ _ _ h,bitsTo_get _ _ _ h]
 generalize ranks.getD w (-1) = r
 by_cases h1 : w < ranks.length
 · simp only [h1,decide_true,Bool.true_and]
   by_cases a : r ≥ 0
   · by_cases b : r = (i : Int)
     · subst b; simp
     · by_cases c : r ≤ (i : Int) - 1
       · have : r ≤ (i : Int) := by omega
         simp [a,b,c,this]
       · have : ¬ r ≤ (i : Int) := by omega
         simp [a,b,c,this]
   · have : ¬ r = (i : Int) := by omega
     simp [a,this]
 · simp [h1]
theorem upS_zero (ranks : List Int) (h : ranks.length ≤ 64) : upS ranks (-1) = 0#64 := by
 refine bv_ext fun w hw => ?_
 unfold upS whereS
 rw [bitsTo_get _ _ _ h]
 generalize ranks.getD w (-1) = r
 by_cases a : r ≥ 0
 · have : ¬ r ≤ -1 := by omega
   simp [this]
 · simp [a]
theorem revF_run (l : List F) (h : l.length < 1000000000) : run tb 37 [.sl (F.encs l)] = some [.sl (F.encs l.reverse)] :=
 run_ext rfl (by
  rw [show ext37 = revFE from rfl]
  unfold revFE
  simp only [encs3,F.encs_len,h,and_self,if_true,encs_reverse])
theorem strataP_run (names : List (List UInt8)) (ranks : List Int) (hn : names.length < 1000000000) (hl : ranks.length < 1000000000) :
 run tb 11 [strsD names,numsD ranks] = some (stR names ranks) := by
 refine run_ir (x := ir11) rfl ?_
 have hv := validateO_run names ranks hn hl
 have hlv := levelsO_run names ranks hn hl
 unfold stR
 by_cases h : orderE names ranks = 0
 · rw [if_pos h]
   have hlen := orderE_len h
   have hvo := (orderE_zero h).1
   obtain ⟨m,hm⟩ := Int.eq_ofNat_of_zero_le (maxR_ge ranks)
   have hlt := maxR_lt (rkOk_in (orderE_zero h).2.2) hlen.2
   rw [h] at hv
   unfold levelsO at hlv
   rw [if_pos h] at hlv
   have hM : (maxR ranks).toNat = m := by omega
   have hls : levelsS ranks = (List.range (m + 1)).map fun k => levS ranks k ranks.length := by unfold levelsS; rw [hM]
   unfold stS
   rw [hM]
   rw [hls] at hlv
   have hsub : PO.eval (.subL 1) [bvsD ((List.range (m + 1)).map fun k => levS ranks k ranks.length),.int .i64 0,.int .i64 m] = some [bvsD ((List.range m).map fun k => levS ranks k ranks.length)] := by
    simp only [PO.eval,bvsD]
    rw [if_pos ⟨by omega,by omega,by simp; omega,by simp⟩]
    have : (m : Int).toNat = m := by omega
    rw [this,List.range_succ]
    simp
   have hml : ((List.range m).map fun k => levS ranks k ranks.length).length = m := by simp
   have hmg : ∀ i (hi : i < m),((List.range m).map fun k => levS ranks k ranks.length)[i]'(by rw [hml]; exact hi) = levS ranks i ranks.length := fun i hi => by simp
   have hln1 : ((List.range (m + 1)).map fun k => levS ranks k ranks.length).length = m + 1 := by simp
   simp (disch := omega) only [ir11,stepQ,stepL,eq_self,aBin,reduceIte,Int.reduceEq,Int.reduceLT,Int.reduceLE,Int.reduceGT,Int.reduceGE,hv,ibne,hlv,len_V,hln1,natP,wr,hsub,hml]
   have h0 : D.int .u64 0 = bvD (upS ranks (((0 : Nat) : Int) - 1)) := by rw [show ((0 : Nat) : Int) - 1 = -1 from rfl,upS_zero _ hlen.1]; rfl
   have h1 : D.sl [] = .sl (F.encs (ascS names ranks 0)) := rfl
   rw [h0,h1]
   generalize hLV : ((List.range m).map fun k => levS ranks k ranks.length) = lv at *
   refine loop_k (σ := Unit) m (fun _ _ => True) (fun i _ => [bvD (upS ranks ((i : Int) - 1)),.int .i64 i,.sl (F.encs (ascS names ranks i))]) (fun _ _ => [.sl (F.encs (ascS names ranks m).reverse),.int .i64 0]) ?_ ?_ 0 () (Nat.zero_le _) trivial
   · rintro i _ L hi _ hL
     have hnext := hL () trivial
     have hr := row_V (l := lv) (i := i) (by rw [hml]; exact hi)
     rw [hmg i hi] at hr
     have hth := theoryW_run names hn (upS ranks i)
     unfold thyE at hth
     rw [if_pos hvo] at hth
     simp only [rowF,List.cons_append,List.nil_append] at hth
     have e1 : ((i + 1 : Nat) : Int) - 1 = (i : Int) := by omega
     rw [e1,ascS_succ] at hnext
     have hap := app_F (l := ascS names ranks i) (g := thy names (upS ranks i)) (by rw [ascS_len]; omega)
     simp (disch := omega) only [ir11p0,stepQ,stepL,eq_self,aBin,reduceIte,Int.reduceEq,Int.reduceLT,Int.reduceLE,Int.reduceGT,Int.reduceGE,bvQ,wu,shl_norm,shr_norm,and1_norm,hi,hr,upS_step ranks hlen.1 i,hth,ibne,hap,wr,natS,hnext]
   · rintro _ L _
     have hrev := revF_run (ascS names ranks m) (by rw [ascS_len]; omega)
     have c1 : ∀ k e J xs,callQ (run tb) 1 false [0] k e J (some [.sl xs]) = den (run tb) k (e ++ [.sl xs]) J := fun k e J xs => rfl
     simp (disch := omega) only [ir11p0,stepQ,stepL,eq_self,aBin,reduceIte,Int.reduceEq,Int.reduceLT,Int.reduceLE,Int.reduceGT,Int.reduceGE,Nat.lt_irrefl,hrev,c1]
 · rw [if_neg h]
   simp (disch := omega) only [ir11,stepQ,stepL,eq_self,aBin,reduceIte,Int.reduceEq,Int.reduceLT,Int.reduceLE,Int.reduceGT,Int.reduceGE,hv,ibne,h]
theorem strata32_run (names : List (List UInt8)) (ranks : List Int) (hn : names.length < 1000000000) (hs : ∀ s ∈ names,s.length < 9223372036854775808) (hl : ranks.length < 1000000000) :
 run tb 12 [strsD names,numsD ranks] = some (stR names ranks) := by
 refine run_ir (x := ir12) rfl ?_
 have hv := validateO3_run names ranks hn hs hl
 have hmo := most_run (strsD names) ranks hl
 unfold stR
 by_cases h : orderE names ranks = 0
 · rw [if_pos h]
   have hlen := orderE_len h
   have hvo := (orderE_zero h).1
   obtain ⟨m,hm⟩ := Int.eq_ofNat_of_zero_le (maxR_ge ranks)
   have hlt := maxR_lt (rkOk_in (orderE_zero h).2.2) hlen.2
   rw [h] at hv
   have hM : (maxR ranks).toNat = m := by omega
   unfold stS
   rw [hM]
   rw [hm] at hmo
   simp (disch := omega) only [ir12,stepQ,stepL,eq_self,aBin,reduceIte,Int.reduceEq,Int.reduceLT,Int.reduceLE,Int.reduceGT,Int.reduceGE,hv,ibne,hmo,wr]
   have h1 : D.sl [] = .sl (F.encs ((ascS names ranks m).drop m).reverse) := by
    rw [List.drop_eq_nil_of_le (by rw [ascS_len]; omega)]; rfl
   rw [h1]
   refine loop_km (ι := Nat) (fun k => k) (fun k => k ≤ m) (fun k => [.int .i64 ((k : Int) - 1),.sl (F.encs ((ascS names ranks m).drop k).reverse)]) (fun _ => [.sl (F.encs (ascS names ranks m).reverse),.int .i64 0]) ?_ m (Nat.le_refl _)
   rintro k L hk hL
   cases k with
   | zero =>
    have h0 : ¬ ((0 : Int) - 1 ≥ 0) := by omega
    simp (disch := omega) only [ir12p0,stepQ,stepL,eq_self,aBin,reduceIte,Int.reduceEq,Int.reduceLT,Int.reduceLE,Int.reduceGT,Int.reduceGE,h0,List.drop_zero]
   | succ k =>
    have e1 : ((k + 1 : Nat) : Int) - 1 = (k : Int) := by omega
    have h0 : (k : Int) ≥ 0 := by omega
    have hnext := hL k (by omega) (by omega)
    have hd : (ascS names ranks m).drop k = thy names (upS ranks k) :: (ascS names ranks m).drop (k + 1) := by
     rw [List.drop_eq_getElem_cons (by rw [ascS_len]; omega),ascS_get]
    rw [hd,List.reverse_cons] at hnext
    have hw := where_run (strsD names) ranks hl 0 k
    have hth := theoryR_run names hn hs (upS ranks k)
    unfold thyE at hth
    rw [if_pos hvo] at hth
    simp only [rowF,List.cons_append,List.nil_append] at hth
    have hap := app_F (l := ((ascS names ranks m).drop (k + 1)).reverse) (g := thy names (upS ranks k)) (by rw [List.length_reverse,List.length_drop,ascS_len]; omega)
    rw [e1]
    have hw : run tb 40 [strsD names,numsD ranks,.int .i64 0,.int .i64 k] = some [bvD (upS ranks k)] := hw
    simp (disch := omega) only [ir12p0,stepQ,stepL,eq_self,aBin,reduceIte,Int.reduceEq,Int.reduceLT,Int.reduceLE,Int.reduceGT,Int.reduceGE,h0,hw,hth,hap,wr,hnext]
 · rw [if_neg h]
   simp (disch := omega) only [ir12,stepQ,stepL,eq_self,aBin,reduceIte,Int.reduceEq,Int.reduceLT,Int.reduceLE,Int.reduceGT,Int.reduceGE,hv,ibne,h]
end Go.Proofs.YtojkhlijbpmgpaaGreat

/- What functions of the program compute: lemmas. -/
import Derived.Test.YtojkhlijbpmgpaaGreatSt
import Derived.Test.YtojkhlijbpmgpaaGreatOd
import Derived.Test.YtojkhlijbpmgpaaGreatAm6
set_option linter.unusedSimpArgs false
set_option linter.unusedVariables false
set_option linter.unusedSectionVars false
namespace Go.Proofs.YtojkhlijbpmgpaaGreat
open Go Am
set_option maxRecDepth 100000
def rkR (names : List (List UInt8)) (l : List Int) : List D := if normE names l = true then [strsD names,numsD (normS l),.int .i64 0] else [.sl [],.sl [],.int .i64 1]
def rankR (names : List (List UInt8)) (fs : List F) : List D := if strE names fs = 0 then rkR names (rkL (msO names fs) (2 ^ names.length)) else [.sl [],.sl [],.int .i64 (strE names fs)]
theorem encs3 : ∀ l : List F,(F.encs l).all (fun r => r.length == 3) = true
 | [] => rfl
 | f :: l => by simp [F.encs,F.enc_eq,encs3 l]
theorem backw_run (d : D) : run tb 33 [d] = some [d] := by
 refine run_ir (x := ir33) rfl ?_
 simp only [ir33,stepQ,stepL,eq_self,aBin,reduceIte,Int.reduceEq,Int.reduceLT,Int.reduceLE,Int.reduceGT,Int.reduceGE]
theorem rankP_run (names : List (List UInt8)) (hn : names.length < 1000000000) (fs : List F) (hf : ∀ f ∈ fs,f.size < 1000000000) (hfl : fs.length < 1000000000) :
 run tb 18 [strsD names,.sl (F.encs fs)] = some (rankR names fs) := by
 refine run_ir (x := ir18) rfl ?_
 have hv := valid_run names hn
 unfold rankR strE
 cases hvo : vocOk names with
 | false =>
  rw [hvo] at hv
  simp (disch := omega) only [ir18,stepQ,stepL,eq_self,aBin,reduceIte,Int.reduceEq,Int.reduceLT,Int.reduceLE,Int.reduceGT,Int.reduceGE,hv]
 | true =>
  rw [hvo] at hv
  have hn6 := vocOk_len hvo
  by_cases h64 : 64 < fs.length
  · have h64' : (fs.length : Int) > 64 := by omega
    simp (disch := omega) only [ir18,stepQ,stepL,eq_self,aBin,reduceIte,Int.reduceEq,Int.reduceLT,Int.reduceLE,Int.reduceGT,Int.reduceGE,hv,len_F,h64,h64']
  · have h64' : ¬ (fs.length : Int) > 64 := by omega
    have hb := backw_run (.sl (F.encs fs))
    have hfst := first_run names hn fs hf hfl
    have hfstE : (if true = false then (1 : Int) else if 64 < fs.length then 2 else fstE names fs) = fstE names fs := by rw [if_neg (by simp),if_neg h64]
    rw [hfstE]
    have hml : (msO names fs).length = fs.length := by simp [msO]
    have hmi : ∀ i (h : i < fs.length),(msO names fs)[i]'(by rw [hml]; exact h) = modelsS names fs[i] := fun i h => by simp [msO]
    generalize msO names fs = ms at *
    have hN : 2 ^ names.length ≤ 64 := Nat.pow_le_pow_right (by omega : 0 < 2) hn6
    have hmk := mkN (n := 2 ^ names.length) (by omega)
    have hz : List.replicate (2 ^ names.length) (0 : Int) = rkL (ms.drop fs.length) (2 ^ names.length) := by
     rw [← hml,List.drop_length]
     refine List.ext_getElem (by simp [rkL]) fun i h1 h2 => by simp [rkL,rkB]
    rw [hz] at hmk
    have hsub : PO.eval (.subL 3) [.sl (F.encs fs),.int .i64 0,.int .i64 fs.length] = some [.sl (F.encs fs)] := by
     simp only [PO.eval,F.encs_len]
     rw [if_pos ⟨by omega,by omega,by omega,encs3 fs⟩]
     have : (fs.length : Int).toNat = (F.encs fs).length := by rw [F.encs_len]; omega
     rw [this,List.take_length]; rfl
    have hroom : PO.eval (.room 1 0) [.sl (F.encs fs)] = some [] := by
     simp only [PO.eval,F.encs_len]
     rw [if_pos ⟨by omega,by omega⟩]
    simp (disch := omega) only [ir18,stepQ,stepL,eq_self,aBin,reduceIte,Int.reduceEq,Int.reduceLT,Int.reduceLE,Int.reduceGT,Int.reduceGE,bvQ,wu,shl_norm,shr_norm,and1_norm,hv,len_F,h64',len_S,hmk,hb,hsub,hroom,wr]
    have hln : ∀ l : List Int,PO.eval .lenL [numsD l] = some [.int .i64 l.length] := len_N
    generalize hNN : 2 ^ names.length = N at *
    refine loop_km (ι := Nat) (fun k => k) (fun k => k ≤ fs.length ∧ ∀ f ∈ fs.drop k,modelsE names f = 0) (fun k => [numsD (rkL (ms.drop k) N),.int .i64 ((k : Int) - 1)]) (fun _ => if fstE names fs = 0 then rkR names (rkL ms N) else [.sl [],.sl [],.int .i64 (fstE names fs)]) ?_ fs.length ⟨Nat.le_refl _,by simp⟩
    rintro k L ⟨hk,hz⟩ hL
    cases k with
    | zero =>
     have h0 : ¬ ((0 : Int) - 1 ≥ 0) := by omega
     have hf0 : fstE names fs = 0 := fstE_zero.2 (by simpa using hz)
     have hno := normal_run names (rkL ms N) hn (by rw [rkL_len]; omega)
     rw [if_pos hf0]
     unfold rkR
     by_cases hne : normE names (rkL ms N) = true
     · rw [if_pos hne] at hno ⊢
       simp (disch := omega) only [ir18p2,stepQ,stepL,eq_self,aBin,reduceIte,Int.reduceEq,Int.reduceLT,Int.reduceLE,Int.reduceGT,Int.reduceGE,h0,List.drop_zero,hno,callQ_tvi]
     · rw [if_neg hne] at hno ⊢
       simp (disch := omega) only [ir18p2,stepQ,stepL,eq_self,aBin,reduceIte,Int.reduceEq,Int.reduceLT,Int.reduceLE,Int.reduceGT,Int.reduceGE,h0,List.drop_zero,hno,callQ_tvi]
    | succ k =>
     have hk' : k < fs.length := by omega
     have e1 : ((k + 1 : Nat) : Int) - 1 = (k : Int) := by omega
     have h0 : (k : Int) ≥ 0 := by omega
     have hm := modelsW_run names fs[k] hn (hf _ (List.getElem_mem hk'))
     simp only [rowF] at hm
     rw [e1]
     by_cases c : modelsE names fs[k] = 0
     · rw [c] at hm
       have hnext := hL k ⟨by omega,fun f hf' => by
        rw [List.drop_eq_getElem_cons hk'] at hf'
        rcases List.mem_cons.1 hf' with rfl | h
        · exact c
        · exact hz f h⟩ (by omega)
       simp (disch := omega) only [ir18p2,stepQ,stepL,eq_self,aBin,reduceIte,Int.reduceEq,Int.reduceLT,Int.reduceLE,Int.reduceGT,Int.reduceGE,h0,hk',row_F,hm,ibne,hln,rkL_len]
       have hmz : rkL (ms.drop (k + 1)) N = mixL (rkB (ms.drop k)) (rkB (ms.drop (k + 1))) N 0 := (mixL_zero _ _ _).symm
       rw [hmz]
       refine loop_k (σ := Unit) N (fun _ _ => True) (fun w _ => [.int .i64 w,numsD (mixL (rkB (ms.drop k)) (rkB (ms.drop (k + 1))) N w)]) (fun _ _ => _) ?_ ?_ 0 () (Nat.zero_le _) trivial
       · rintro w _ L2 hw _ hL2
         have hnext2 := hL2 () trivial
         have hh := hasT_run (modelsS names fs[k]) w (by omega)
         have hrk := rkB_drop (ms := ms) (i := k) (by omega) w
         rw [hmi k hk',hml] at hrk
         cases hb2 : (modelsS names fs[k]).getLsbD w with
         | true =>
          rw [hb2] at hh hrk
          rw [if_pos rfl] at hrk
          rw [← mixL_same _ _ _ _ hrk] at hnext2
          simp (disch := omega) only [ir18p1,ir18p0,stepQ,stepL,eq_self,aBin,reduceIte,Int.reduceEq,Int.reduceLT,Int.reduceLE,Int.reduceGT,Int.reduceGE,hw,hh,wr,natS,hnext2]
         | false =>
          rw [hb2] at hh hrk
          rw [if_neg (by simp)] at hrk
          have hc := chk_N (l := mixL (rkB (ms.drop k)) (rkB (ms.drop (k + 1))) N w) (i := w) (by rw [mixL_len]; exact hw)
          have hs := set_N (l := mixL (rkB (ms.drop k)) (rkB (ms.drop (k + 1))) N w) (i := w) (by rw [mixL_len]; exact hw) (rkB (ms.drop k) w)
          rw [mixL_set _ _ _ _ hw,hrk] at hs
          simp (disch := omega) only [ir18p1,ir18p0,stepQ,stepL,eq_self,aBin,reduceIte,Int.reduceEq,Int.reduceLT,Int.reduceLE,Int.reduceGT,Int.reduceGE,hw,hh,len_F,wr,hc,hs,natS,hnext2]
       · rintro _ L2 _
         rw [mixL_end]
         have hnext' : L [numsD ((List.range N).map (rkB (ms.drop k))),.int .i64 ((k : Int) - 1)] = some (if fstE names fs = 0 then rkR names (rkL ms N) else [.sl [],.sl [],.int .i64 (fstE names fs)]) := hnext
         simp (disch := omega) only [ir18p1,stepQ,stepL,eq_self,aBin,reduceIte,Int.reduceEq,Int.reduceLT,Int.reduceLE,Int.reduceGT,Int.reduceGE,Nat.lt_irrefl,wr,hnext']
     · have hne : ¬ fstE names fs = 0 := fun h => c (fstE_zero.1 h _ (List.getElem_mem hk'))
       rw [if_neg hne]
       simp (disch := omega) only [ir18p2,stepQ,stepL,eq_self,aBin,reduceIte,Int.reduceEq,Int.reduceLT,Int.reduceLE,Int.reduceGT,Int.reduceGE,h0,hk',row_F,hm,ibne,c,hfst]
end Go.Proofs.YtojkhlijbpmgpaaGreat

namespace Go.Proofs.YtojkhlijbpmgpaaGreat
open Go Am
set_option maxRecDepth 100000
end Go.Proofs.YtojkhlijbpmgpaaGreat

namespace Go.Proofs.YtojkhlijbpmgpaaGreat
open Go Am
set_option maxRecDepth 100000
end Go.Proofs.YtojkhlijbpmgpaaGreat

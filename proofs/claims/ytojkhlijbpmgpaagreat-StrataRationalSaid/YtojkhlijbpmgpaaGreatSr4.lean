/- What functions of the program compute: lemmas. -/
import Derived.Test.YtojkhlijbpmgpaaGreatSr1
import Derived.Test.YtojkhlijbpmgpaaGreatAm6
set_option linter.unusedSimpArgs false
set_option linter.unusedVariables false
set_option linter.unusedSectionVars false
namespace Go.Proofs.YtojkhlijbpmgpaaGreat
open Go Am
set_option maxRecDepth 100000
theorem pairsP_run (names : List (List UInt8)) (hn : names.length < 1000000000) (l : List CF) (hf : ∀ c ∈ l,c.1.size < 1000000000 ∧ c.2.size < 1000000000) (hfl : l.length < 1000000000) :
 run tb 36 [strsD names,condsD l] = some (if prE names l = 0 then [prsD (prsS names l),.int .i64 0] else [.sl [],.int .i64 (prE names l)]) := by
 refine run_ir (x := ir36) rfl ?_
 have hv := valid_run names hn
 unfold prE
 cases hvo : vocOk names with
 | false =>
  rw [hvo] at hv
  simp (disch := omega) only [ir36,stepQ,stepL,eq_self,aBin,reduceIte,Int.reduceEq,Int.reduceLT,Int.reduceLE,Int.reduceGT,Int.reduceGE,hv]
 | true =>
  rw [hvo] at hv
  by_cases h64 : 64 < l.length
  · have h64' : (l.length : Int) > 64 := by omega
    simp (disch := omega) only [ir36,stepQ,stepL,eq_self,aBin,reduceIte,Int.reduceEq,Int.reduceLT,Int.reduceLE,Int.reduceGT,Int.reduceGE,hv,len_C,h64,h64']
  · have h64' : ¬ (l.length : Int) > 64 := by omega
    have hfstE : (if true = false then (1 : Int) else if 64 < l.length then 2 else cE names l) = cE names l := by rw [if_neg (by simp),if_neg h64]
    rw [hfstE]
    simp (disch := omega) only [ir36,stepQ,stepL,eq_self,aBin,reduceIte,Int.reduceEq,Int.reduceLT,Int.reduceLE,Int.reduceGT,Int.reduceGE,hv,len_C,h64']
    refine loop_k (σ := Unit) l.length (fun i _ => cE names (l.drop i) = cE names l) (fun i _ => [.int .i64 i,prsD (prsS names (l.take i))]) (fun _ _ => if cE names l = 0 then [prsD (prsS names l),.int .i64 0] else [.sl [],.int .i64 (cE names l)]) ?_ ?_ 0 () (Nat.zero_le _) rfl
    · rintro i _ L hi hp hL
      rw [List.drop_eq_getElem_cons hi,cE_cons] at hp
      have hr := row_C hi
      have hfi := hf _ (List.getElem_mem hi)
      have hfst := first_run names hn [l[i].1,l[i].2] (fun x hx => by simp only [List.mem_cons,List.not_mem_nil,or_false] at hx; rcases hx with rfl | rfl; exact hfi.1; exact hfi.2) (by simp)
      have hm1 := modelsW_run names l[i].1 hn hfi.1
      have hm2 := modelsW_run names l[i].2 hn hfi.2
      simp only [rowF] at hm1 hm2
      have hmk : PO.eval (.mk 3 2) [.int .i64 l[i].1.op,.str l[i].1.name,.sl (F.encs l[i].1.args),.int .i64 l[i].2.op,.str l[i].2.name,.sl (F.encs l[i].2.args)] = some [.sl (F.encs [l[i].1,l[i].2])] := by rw [ev_mk32]; simp [F.encs,F.enc_eq]
      unfold rowC at hr
      by_cases c : fstE names [l[i].1,l[i].2] = 0
      · rw [if_pos c] at hp
        have hnext := hL () hp
        rw [c] at hfst
        have hap := app_P (l := prsS names (l.take i)) (c := prS names l[i]) (by simp [prsS]; omega)
        have he : prsS names (l.take i) ++ [prS names l[i]] = prsS names (l.take (i + 1)) := by
         rw [List.take_succ_eq_append_getElem hi]; simp only [prsS,List.map_append,List.map_cons,List.map_nil]
        rw [he] at hap
        unfold rowP prS at hap
        simp (disch := omega) only [ir36p0,stepQ,stepL,eq_self,aBin,reduceIte,Int.reduceEq,Int.reduceLT,Int.reduceLE,Int.reduceGT,Int.reduceGE,bvQ,wu,shl_norm,shr_norm,and1_norm,hi,hr,hmk,hfst,ibne,callQ_ti,hm1,hm2,ev_mk21,hap,wr,natS,hnext]
      · rw [if_neg c] at hp
        rw [hp] at hfst c
        simp (disch := omega) only [ir36p0,stepQ,stepL,eq_self,aBin,reduceIte,Int.reduceEq,Int.reduceLT,Int.reduceLE,Int.reduceGT,Int.reduceGE,bvQ,wu,shl_norm,shr_norm,and1_norm,hi,hr,hmk,hfst,ibne,callQ_ti,c]
    · rintro _ L hp
      rw [List.drop_length] at hp
      have hp : cE names l = 0 := by rw [← hp]; rfl
      simp (disch := omega) only [ir36p0,stepQ,stepL,eq_self,aBin,reduceIte,Int.reduceEq,Int.reduceLT,Int.reduceLE,Int.reduceGT,Int.reduceGE,Nat.lt_irrefl,hp,List.take_length]
end Go.Proofs.YtojkhlijbpmgpaaGreat

namespace Go.Proofs.YtojkhlijbpmgpaaGreat
open Go Am
set_option maxRecDepth 100000
theorem indexN_run (l : List Int) (x : Int) (hl : l.length < 1000000000) : run tb 61 [numsD l,.int .i64 x] = some [.int .i64 (idxG x 0 l)] := by
 refine run_ir (x := ir61) rfl ?_
 simp (disch := omega) only [ir61,stepQ,stepL,eq_self,aBin,reduceIte,Int.reduceEq,Int.reduceLT,Int.reduceLE,Int.reduceGT,Int.reduceGE,len_N]
 refine loop_k (σ := Unit) l.length (fun i _ => idxG x i (l.drop i) = idxG x 0 l) (fun i _ => [.int .i64 i]) (fun _ _ => [.int .i64 (idxG x 0 l)]) ?_ ?_ 0 () (Nat.zero_le _) rfl
 · rintro i _ L hi hp hL
   rw [List.drop_eq_getElem_cons hi] at hp
   simp only [idxG] at hp
   by_cases c : x = l[i]
   · rw [if_pos c] at hp
     rw [← hp]
     simp (disch := omega) only [ir61p0,stepQ,stepL,eq_self,aBin,reduceIte,Int.reduceEq,Int.reduceLT,Int.reduceLE,Int.reduceGT,Int.reduceGE,hi,row_N,c]
   · rw [if_neg c] at hp
     have hnext := hL () hp
     simp (disch := omega) only [ir61p0,stepQ,stepL,eq_self,aBin,reduceIte,Int.reduceEq,Int.reduceLT,Int.reduceLE,Int.reduceGT,Int.reduceGE,hi,row_N,c,wr,natS,hnext]
 · rintro _ L hp
   rw [List.drop_length] at hp
   rw [← hp]
   simp (disch := omega) only [ir61p0,stepQ,stepL,eq_self,aBin,reduceIte,Int.reduceEq,Int.reduceLT,Int.reduceLE,Int.reduceGT,Int.reduceGE,Nat.lt_irrefl,idxG]
theorem containsN_run (l : List Int) (x : Int) (hl : l.length < 1000000000) : run tb 54 [numsD l,.int .i64 x] = some [.bool (decide (x ∈ l))] := by
 refine run_ir (x := ir54) rfl ?_
 have h := indexN_run l x hl
 rw [← idxG_ge x l 0]
 simp (disch := omega) only [ir54,stepQ,stepL,eq_self,aBin,reduceIte,Int.reduceEq,Int.reduceLT,Int.reduceLE,Int.reduceGT,Int.reduceGE,h]
theorem layersP_run (p : List PP) (hp : p.length ≤ 64) : run tb 37 [prsD p] = some (layR (layS p)) := by
 refine run_ir (x := ir37) rfl ?_
 have hmk := mkN (n := p.length) (by omega)
 rw [rep_mix] at hmk
 have hln : ∀ l : List Int,PO.eval .lenL [numsD l] = some [.int .i64 l.length] := len_N
 simp (disch := omega) only [ir37,stepQ,stepL,eq_self,aBin,reduceIte,Int.reduceEq,Int.reduceLT,Int.reduceLE,Int.reduceGT,Int.reduceGE,len_P,hmk,hln,mixL_len]
 refine loop_k (σ := Unit) p.length (fun _ _ => True) (fun i _ => [.int .i64 i,numsD (mixL (fun _ => -1) (fun _ => 0) p.length i)]) (fun _ _ => layR (layS p)) ?_ ?_ 0 () (Nat.zero_le _) trivial
 · rintro i _ L hi _ hL
   have hnext := hL () trivial
   have hc := chk_N (l := mixL (fun _ => -1) (fun _ => 0) p.length i) (i := i) (by rw [mixL_len]; exact hi)
   have hs := set_N (l := mixL (fun _ => -1) (fun _ => 0) p.length i) (i := i) (by rw [mixL_len]; exact hi) (-1)
   have hms := mixL_set (fun _ => -1) (fun _ => 0) p.length i hi
   rw [hms] at hs
   simp (disch := omega) only [ir37p6,stepQ,stepL,eq_self,aBin,reduceIte,Int.reduceEq,Int.reduceLT,Int.reduceLE,Int.reduceGT,Int.reduceGE,hi,hc,hs,wr,natS,hnext]
 · rintro _ L0 _
   rw [rep_mix']
   simp (disch := omega) only [ir37p6,stepQ,stepL,eq_self,aBin,reduceIte,Int.reduceEq,Int.reduceLT,Int.reduceLE,Int.reduceGT,Int.reduceGE,Nat.lt_irrefl]
   refine loop_km (ι := Nat × Nat × List Int) (fun x => x.1) (fun x => x.1 + x.2.1 = p.length + 1 ∧ LyOk p 100 x.2.2 ∧ negs x.2.2 p.length < x.1) (fun x => [.int .i64 x.2.1,numsD x.2.2]) (fun x => layR (layF p x.1 x.2.1 x.2.2)) ?_ (p.length + 1,0,List.replicate p.length (-1)) ⟨rfl,rep_ok p (by omega),by have := negs_le (List.replicate p.length (-1)) p.length; simp only; omega⟩
   rintro ⟨n,k,out⟩ L hpre hL
   obtain ⟨hnk,hok,hneg⟩ : n + k = p.length + 1 ∧ LyOk p 100 out ∧ negs out p.length < n := hpre
   cases n with
   | zero => omega
   | succ n =>
    have hcon := containsN_run out (-1) (by rw [hok.1]; omega)
    rw [done_mem hok] at hcon
    simp only [layF_succ]
    cases hd : doneF out p.length with
    | true =>
     rw [hd] at hcon
     simp (disch := omega) only [ir37p5,stepQ,stepL,eq_self,aBin,reduceIte,Int.reduceEq,Int.reduceLT,Int.reduceLE,Int.reduceGT,Int.reduceGE,hcon,callQ_tb,layR]
    | false =>
     rw [hd] at hcon
     simp (disch := omega) only [ir37p5,stepQ,stepL,eq_self,aBin,reduceIte,Int.reduceEq,Int.reduceLT,Int.reduceLE,Int.reduceGT,Int.reduceGE,hcon,callQ_tb,len_P,if_false,Bool.false_eq_true]
     have hz : D.int .u64 0 = bvD (badF p out 0) := rfl
     rw [hz]
     refine loop_k (σ := Unit) p.length (fun _ _ => True) (fun i _ => [bvD (badF p out i),.int .i64 i]) (fun _ _ => _) ?_ ?_ 0 () (Nat.zero_le _) trivial
     · rintro i _ L2 hi _ hL2
       have hnext := hL2 () trivial
       have hio : i < out.length := by rw [hok.1]; exact hi
       have hc := chk_N hio
       have hg := get_N hio
       have hr := row_P hi
       rw [badF_succ,gd hio,gdP hi] at hnext
       unfold rowP at hr
       by_cases c : out[i] < 0
       · rw [if_pos c] at hnext
         simp (disch := omega) only [ir37p4,ir37p0,stepQ,stepL,eq_self,aBin,reduceIte,Int.reduceEq,Int.reduceLT,Int.reduceLE,Int.reduceGT,Int.reduceGE,bvQ,wu,shl_norm,shr_norm,and1_norm,hi,hc,hg,hr,c,wr,natS,hnext]
       · rw [if_neg c] at hnext
         simp (disch := omega) only [ir37p4,ir37p0,stepQ,stepL,eq_self,aBin,reduceIte,Int.reduceEq,Int.reduceLT,Int.reduceLE,Int.reduceGT,Int.reduceGE,bvQ,wu,shl_norm,shr_norm,and1_norm,hi,hc,hg,hr,c,wr,natS,hnext]
     · rintro _ L2 _
       have ho := out_mix hok (badF p out p.length) k
       simp (disch := omega) only [ir37p4,stepQ,stepL,eq_self,aBin,reduceIte,Int.reduceEq,Int.reduceLT,Int.reduceLE,Int.reduceGT,Int.reduceGE,len_P,Nat.lt_irrefl]
       generalize hbad : badF p out p.length = bad at *
       have hinit : [D.bool false,.int .i64 0,numsD out] = [.bool (fndF p out bad 0),.int .i64 ((0 : Nat) : Int),numsD (mixL (mkF p out bad k) (fun v => out.getD v 0) p.length 0)] := by rw [← ho]; rfl
       rw [hinit]
       refine loop_k (σ := Unit) p.length (fun _ _ => True) (fun i _ => [.bool (fndF p out bad i),.int .i64 i,numsD (mixL (mkF p out bad k) (fun v => out.getD v 0) p.length i)]) (fun _ _ => _) ?_ ?_ 0 () (Nat.zero_le _) trivial
       · rintro i _ L3 hi _ hL3
         have hnext := hL3 () trivial
         have hil : i < (mixL (mkF p out bad k) (fun v => out.getD v 0) p.length i).length := by rw [mixL_len]; exact hi
         have hc := chk_N hil
         have hg := get_N hil
         rw [mixL_get,if_neg (by omega)] at hg
         have hr := row_P hi
         unfold rowP at hr
         have hs := set_N hil (mkF p out bad k i)
         rw [mixL_set _ _ _ _ hi] at hs
         rw [fndF_succ] at hnext
         by_cases c : out.getD i 0 < 0
         · by_cases c2 : p[i].1 &&& ~~~bad = 0#64
           · have hno : ¬ lyAt p out bad i := fun h => h.2 (by rw [gdP hi]; exact c2)
             have hsame := mixL_same (mkF p out bad k) (fun v => out.getD v 0) p.length i (by unfold mkF; rw [if_neg hno])
             rw [if_neg hno,← hsame] at hnext
             simp (disch := omega) only [ir37p3,ir37p2,ir37p1,stepQ,stepL,eq_self,aBin,reduceIte,Int.reduceEq,Int.reduceLT,Int.reduceLE,Int.reduceGT,Int.reduceGE,bvQ,wu,shl_norm,shr_norm,and1_norm,hi,hc,hg,hr,c,c2,wr,natS,hnext]
           · have hyes : lyAt p out bad i := ⟨c,by rw [gdP hi]; exact c2⟩
             have hmk2 : mkF p out bad k i = k := by unfold mkF; rw [if_pos hyes]
             rw [if_pos hyes] at hnext
             rw [hmk2] at hs
             simp (disch := omega) only [ir37p3,ir37p2,ir37p1,stepQ,stepL,eq_self,aBin,reduceIte,Int.reduceEq,Int.reduceLT,Int.reduceLE,Int.reduceGT,Int.reduceGE,bvQ,wu,shl_norm,shr_norm,and1_norm,hi,hc,hg,hr,c,c2,hs,wr,natS,hnext]
         · have hno : ¬ lyAt p out bad i := fun h => c h.1
           have hsame := mixL_same (mkF p out bad k) (fun v => out.getD v 0) p.length i (by unfold mkF; rw [if_neg hno])
           rw [if_neg hno,← hsame] at hnext
           simp (disch := omega) only [ir37p3,ir37p2,ir37p1,stepQ,stepL,eq_self,aBin,reduceIte,Int.reduceEq,Int.reduceLT,Int.reduceLE,Int.reduceGT,Int.reduceGE,bvQ,wu,shl_norm,shr_norm,and1_norm,hi,hc,hg,hr,c,wr,natS,hnext]
       · rintro _ L3 _
         rw [← mkS_mix]
         cases hf : fndF p out bad p.length with
         | true =>
          have hnx := hL (n,k + 1,mkS p out bad k) ⟨by show n + (k + 1) = p.length + 1; omega,mkS_ok hok (by omega),by
           have := (negs_mk (p := p) (out := out) (bad := bad) (k := k) p.length (Nat.le_refl _)).2 hf
           simp only; omega⟩ (by simp only; omega)
          simp only at hnx
          simp (disch := omega) only [ir37p3,stepQ,stepL,eq_self,aBin,reduceIte,Int.reduceEq,Int.reduceLT,Int.reduceLE,Int.reduceGT,Int.reduceGE,Nat.lt_irrefl,wr,natS,hnx]
         | false =>
          simp (disch := omega) only [ir37p3,stepQ,stepL,eq_self,aBin,reduceIte,Int.reduceEq,Int.reduceLT,Int.reduceLE,Int.reduceGT,Int.reduceGE,Nat.lt_irrefl,layR,Bool.false_eq_true,if_false]
end Go.Proofs.YtojkhlijbpmgpaaGreat

namespace Go.Proofs.YtojkhlijbpmgpaaGreat
open Go Am
set_option maxRecDepth 100000
def lyR (names : List (List UInt8)) (l : List CF) : List D := if prE names l = 0 then layR (layS (prsS names l)) else [.sl [],.int .i64 (prE names l)]
theorem prE_len {names : List (List UInt8)} {l : List CF} (h : prE names l = 0) : vocOk names = true ∧ l.length ≤ 64 := by
 unfold prE at h
 cases hv : vocOk names with
 | false => rw [hv] at h; simp at h
 | true =>
  rw [hv,if_neg (by simp)] at h
  by_cases h2 : 64 < l.length
  · rw [if_pos h2] at h; simp at h
  · exact ⟨rfl,by omega⟩
theorem layersL_run (names : List (List UInt8)) (hn : names.length < 1000000000) (l : List CF) (hf : ∀ c ∈ l,c.1.size < 1000000000 ∧ c.2.size < 1000000000) (hfl : l.length < 1000000000) :
 run tb 19 [strsD names,condsD l] = some (lyR names l) := by
 refine run_ir (x := ir19) rfl ?_
 have h1 := pairsP_run names hn l hf hfl
 unfold lyR
 by_cases c : prE names l = 0
 · rw [if_pos c] at h1 ⊢
   have h2 := layersP_run (prsS names l) (by simp only [prsS,List.length_map]; exact (prE_len c).2)
   cases hl : layS (prsS names l) with
   | none =>
    rw [hl] at h2
    simp (disch := omega) only [ir19,stepQ,stepL,eq_self,aBin,reduceIte,Int.reduceEq,Int.reduceLT,Int.reduceLE,Int.reduceGT,Int.reduceGE,h1,ibne,layR,h2]
   | some o =>
    rw [hl] at h2
    simp (disch := omega) only [ir19,stepQ,stepL,eq_self,aBin,reduceIte,Int.reduceEq,Int.reduceLT,Int.reduceLE,Int.reduceGT,Int.reduceGE,h1,ibne,layR,h2]
 · rw [if_neg c] at h1 ⊢
   simp (disch := omega) only [ir19,stepQ,stepL,eq_self,aBin,reduceIte,Int.reduceEq,Int.reduceLT,Int.reduceLE,Int.reduceGT,Int.reduceGE,h1,ibne,c]
end Go.Proofs.YtojkhlijbpmgpaaGreat

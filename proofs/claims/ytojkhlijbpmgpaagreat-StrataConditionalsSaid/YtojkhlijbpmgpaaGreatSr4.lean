/- What functions of the program compute: lemmas. -/
import Derived.Test.YtojkhlijbpmgpaaGreatSr1
import Derived.Test.YtojkhlijbpmgpaaGreatAm6
set_option linter.unusedSimpArgs false
set_option linter.unusedVariables false
set_option linter.unusedSectionVars false
namespace Go.Proofs.YtojkhlijbpmgpaaGreat
open Go Am
set_option maxRecDepth 100000
theorem accepts32_run (names : List (List UInt8)) (ranks : List Int) (f g : F) (hn : names.length < 1000000000) (hs : ∀ s ∈ names,s.length < 9223372036854775808) (hl : ranks.length < 1000000000) (hf : f.size < 1000000000) (hg : g.size < 1000000000) (bf : F.allF nameB f = true) (bg : F.allF nameB g = true) :
 run tb 18 [strsD names,numsD ranks,.int .i64 f.op,.str f.name,.sl (F.encs f.args),.int .i64 g.op,.str g.name,.sl (F.encs g.args)] = some (if accE names ranks f g = 0 then [.bool (accS names ranks f g),.int .i64 0] else [.bool false,.int .i64 (accE names ranks f g)]) := by
 refine run_ir (x := ir18) rfl ?_
 have h1 := validateO3_run names ranks hn hs hl
 have h3 := modelsR_run names f hn hs hf bf
 have h4 := modelsR_run names g hn hs hg bg
 have h5 := least3_run names ranks hn hs hl (modelsS names f)
 simp only [rowF] at h3 h4
 unfold accS
 by_cases c1 : orderE names ranks = 0
 · rw [c1] at h1
   have ha : accE names ranks f g = fstE names [f,g] := by unfold accE; rw [if_neg (by simp [c1])]
   rw [ha,fstE_two]
   by_cases c2 : modelsE names f = 0
   · rw [if_pos c2]
     rw [c2] at h3
     by_cases c3 : modelsE names g = 0
     · rw [c3,if_pos rfl]
       rw [c3] at h4
       by_cases c4 : leastS names ranks (modelsS names f) &&& ~~~modelsS names g = 0#64
       · simp (disch := omega) only [ir18,stepQ,stepL,eq_self,aBin,reduceIte,bvQ,h1,h3,h4,h5,ibne,c4]
       · simp (disch := omega) only [ir18,stepQ,stepL,eq_self,aBin,reduceIte,bvQ,h1,h3,h4,h5,ibne,c4]
     · rw [if_neg c3]
       simp (disch := omega) only [ir18,stepQ,stepL,eq_self,aBin,reduceIte,bvQ,h1,h3,h4,ibne,c3]
   · rw [if_neg c2,if_neg c2]
     simp (disch := omega) only [ir18,stepQ,stepL,eq_self,aBin,reduceIte,bvQ,h1,h3,ibne,c2]
 · have ha : accE names ranks f g = orderE names ranks := by unfold accE; rw [if_pos c1]
   rw [ha,if_neg c1]
   simp (disch := omega) only [ir18,stepQ,stepL,eq_self,aBin,reduceIte,bvQ,h1,ibne,c1]
theorem pairsP_run (names : List (List UInt8)) (hn : names.length < 1000000000) (l : List CF) (hf : ∀ c ∈ l,c.1.size < 1000000000 ∧ c.2.size < 1000000000) (hfl : l.length < 1000000000) :
 run tb 29 [strsD names,condsD l] = some (if prE names l = 0 then [prsD (prsS names l),.int .i64 0] else [.sl [],.int .i64 (prE names l)]) := by
 refine run_ir (x := ir29) rfl ?_
 have hv := valid_run names hn
 unfold prE
 cases hvo : vocOk names with
 | false =>
  rw [hvo] at hv
  simp (disch := omega) only [ir29,stepQ,stepL,eq_self,reduceIte,Int.reduceEq,hv]
 | true =>
  rw [hvo] at hv
  by_cases h64 : 64 < l.length
  · have h64' : (l.length : Int) > 64 := by omega
    simp (disch := omega) only [ir29,stepQ,stepL,eq_self,aBin,reduceIte,Int.reduceEq,hv,len_C,h64,h64']
  · have h64' : ¬ (l.length : Int) > 64 := by omega
    have hfstE : (if true = false then (1 : Int) else if 64 < l.length then 2 else cE names l) = cE names l := by rw [if_neg (by simp),if_neg h64]
    rw [hfstE]
    simp (disch := omega) only [ir29,stepQ,stepL,eq_self,aBin,reduceIte,hv,len_C,h64']
    refine loop_k (σ := Unit) l.length (fun i _ => cE names (l.drop i) = cE names l) (fun i _ => [.int .i64 i,prsD (prsS names (l.take i))]) (fun _ _ => if cE names l = 0 then [prsD (prsS names l),.int .i64 0] else [.sl [],.int .i64 (cE names l)]) ?_ ?_ 0 () (Nat.zero_le _) rfl
    · rintro i _ L hi hp hL
      rw [List.drop_eq_getElem_cons hi,cE_cons] at hp
      have hr := row_C hi
      have hfi := hf _ (List.getElem_mem hi)
      have hfst := first_run names hn [l[i].1,l[i].2] (fun x hx => by simp only [List.mem_cons,List.not_mem_nil,or_false] at hx; rcases hx with rfl | rfl; exact hfi.1; exact hfi.2) (by simp)
      have hm1 := modelsW_run names l[i].1 hn hfi.1
      have hm2 := modelsW_run names l[i].2 hn hfi.2
      simp only [rowF] at hm1 hm2
      have hmk : PO.eval (.mk 3 2) [.int .i64 l[i].1.op,.str l[i].1.name,.sl (F.encs l[i].1.args),.int .i64 l[i].2.op,.str l[i].2.name,.sl (F.encs l[i].2.args)] = some [.sl (F.encs [l[i].1,l[i].2])] := by rw [ev_mk32]; simp [F.encs,F.enc_eq]
      unfold rowC at hr
      by_cases c : fstE names [l[i].1,l[i].2] = 0
      · rw [if_pos c] at hp
        have hnext := hL () hp
        rw [c] at hfst
        have hap := app_P (l := prsS names (l.take i)) (c := prS names l[i]) (by simp [prsS]; omega)
        have he : prsS names (l.take i) ++ [prS names l[i]] = prsS names (l.take (i + 1)) := by
         rw [List.take_succ_eq_append_getElem hi]; simp only [prsS,List.map_append,List.map_cons,List.map_nil]
        rw [he] at hap
        unfold rowP prS at hap
        simp (disch := omega) only [ir29p0,stepQ,stepL,eq_self,aBin,reduceIte,bvQ,hi,hr,hmk,hfst,ibne,callQ_ti,hm1,hm2,ev_mk21,hap,wr,natS,hnext]
      · rw [if_neg c] at hp
        rw [hp] at hfst c
        simp (disch := omega) only [ir29p0,stepQ,stepL,eq_self,aBin,reduceIte,hi,hr,hmk,hfst,ibne,callQ_ti,c]
    · rintro _ L hp
      rw [List.drop_length] at hp
      have hp : cE names l = 0 := by rw [← hp]; rfl
      simp (disch := omega) only [ir29p0,stepQ,stepL,eq_self,aBin,reduceIte,Nat.lt_irrefl,hp,List.take_length]
def yesL (names : List (List UInt8)) (l : List CF) : List (BitVec 64) := (prsS names l).map (·.1)
def noL (names : List (List UInt8)) (l : List CF) : List (BitVec 64) := (prsS names l).map (·.2)
theorem pairs32_run (names : List (List UInt8)) (hn : names.length < 1000000000) (hs : ∀ s ∈ names,s.length < 9223372036854775808) (l : List CF) (hf : ∀ c ∈ l,c.1.size < 1000000000 ∧ c.2.size < 1000000000) (hb : ∀ c ∈ l,F.allF nameB c.1 = true ∧ F.allF nameB c.2 = true) (hfl : l.length < 1000000000) :
 run tb 31 [strsD names,condsD l] = some (if prE names l = 0 then [bvsD (yesL names l),bvsD (noL names l),.int .i64 0] else [.sl [],.sl [],.int .i64 (prE names l)]) := by
 refine run_ir (x := ir31) rfl ?_
 have hv := valid3_run names hn hs
 unfold prE
 cases hvo : vocOk names with
 | false =>
  rw [hvo] at hv
  simp (disch := omega) only [ir31,stepQ,stepL,eq_self,reduceIte,Int.reduceEq,hv]
 | true =>
  rw [hvo] at hv
  by_cases h64 : 64 < l.length
  · have h64' : (l.length : Int) > 64 := by omega
    simp (disch := omega) only [ir31,stepQ,stepL,eq_self,aBin,reduceIte,Int.reduceEq,hv,len_C,h64,h64']
  · have h64' : ¬ (l.length : Int) > 64 := by omega
    have hfstE : (if true = false then (1 : Int) else if 64 < l.length then 2 else cE names l) = cE names l := by rw [if_neg (by simp),if_neg h64]
    rw [hfstE]
    simp (disch := omega) only [ir31,stepQ,stepL,eq_self,aBin,reduceIte,hv,len_C,h64']
    refine loop_k (σ := Unit) l.length (fun i _ => cE names (l.drop i) = cE names l) (fun i _ => [.int .i64 i,bvsD (yesL names (l.take i)),bvsD (noL names (l.take i))]) (fun _ _ => if cE names l = 0 then [bvsD (yesL names l),bvsD (noL names l),.int .i64 0] else [.sl [],.sl [],.int .i64 (cE names l)]) ?_ ?_ 0 () (Nat.zero_le _) rfl
    · rintro i _ L hi hp hL
      rw [List.drop_eq_getElem_cons hi,cE_cons,fstE_two] at hp
      have hr := row_C hi
      have hfi := hf _ (List.getElem_mem hi)
      have hbi := hb _ (List.getElem_mem hi)
      have hm1 := modelsR_run names l[i].1 hn hs hfi.1 hbi.1
      have hm2 := modelsR_run names l[i].2 hn hs hfi.2 hbi.2
      simp only [rowF] at hm1 hm2
      unfold rowC at hr
      by_cases c1 : modelsE names l[i].1 = 0
      · rw [if_pos c1] at hp
        rw [c1] at hm1
        by_cases c2 : modelsE names l[i].2 = 0
        · rw [if_pos c2] at hp
          rw [c2] at hm2
          have hnext := hL () hp
          have ha1 := app_V (l := yesL names (l.take i)) (x := (prS names l[i]).1) (by simp [yesL,prsS]; omega)
          have ha2 := app_V (l := noL names (l.take i)) (x := (prS names l[i]).2) (by simp [noL,prsS]; omega)
          have he1 : yesL names (l.take i) ++ [(prS names l[i]).1] = yesL names (l.take (i + 1)) := by
           rw [List.take_succ_eq_append_getElem hi]; simp only [yesL,prsS,List.map_append,List.map_cons,List.map_nil]
          have he2 : noL names (l.take i) ++ [(prS names l[i]).2] = noL names (l.take (i + 1)) := by
           rw [List.take_succ_eq_append_getElem hi]; simp only [noL,prsS,List.map_append,List.map_cons,List.map_nil]
          rw [he1] at ha1
          rw [he2] at ha2
          unfold prS at ha1 ha2
          simp (disch := omega) only [ir31p0,stepQ,stepL,eq_self,aBin,reduceIte,bvQ,len_C,hi,hr,hm1,hm2,ibne,ha1,ha2,wr,natS,hnext]
        · rw [if_neg c2] at hp
          rw [hp] at hm2 c2
          simp (disch := omega) only [ir31p0,stepQ,stepL,eq_self,aBin,reduceIte,len_C,hi,hr,hm1,hm2,ibne,c2]
      · rw [if_neg c1,if_neg c1] at hp
        rw [hp] at hm1 c1
        simp (disch := omega) only [ir31p0,stepQ,stepL,eq_self,aBin,reduceIte,len_C,hi,hr,hm1,ibne,c1]
    · rintro _ L hp
      rw [List.drop_length] at hp
      have hp : cE names l = 0 := by rw [← hp]; rfl
      simp (disch := omega) only [ir31p0,stepQ,stepL,eq_self,aBin,reduceIte,len_C,Nat.lt_irrefl,hp,List.take_length]
end Go.Proofs.YtojkhlijbpmgpaaGreat

namespace Go.Proofs.YtojkhlijbpmgpaaGreat
open Go Am
set_option maxRecDepth 100000
theorem indexN_run (l : List Int) (x : Int) (hl : l.length < 1000000000) : run tb 79 [numsD l,.int .i64 x] = some [.int .i64 (idxG x 0 l)] := by
 refine run_ir (x := ir79) rfl ?_
 simp (disch := omega) only [ir79,stepQ,stepL,len_N]
 refine loop_k (σ := Unit) l.length (fun i _ => idxG x i (l.drop i) = idxG x 0 l) (fun i _ => [.int .i64 i]) (fun _ _ => [.int .i64 (idxG x 0 l)]) ?_ ?_ 0 () (Nat.zero_le _) rfl
 · rintro i _ L hi hp hL
   rw [List.drop_eq_getElem_cons hi] at hp
   simp only [idxG] at hp
   by_cases c : x = l[i]
   · rw [if_pos c] at hp
     rw [← hp]
     simp (disch := omega) only [ir79p0,stepQ,stepL,eq_self,aBin,reduceIte,hi,row_N,c]
   · rw [if_neg c] at hp
     have hnext := hL () hp
     simp (disch := omega) only [ir79p0,stepQ,stepL,eq_self,aBin,reduceIte,hi,row_N,c,wr,natS,hnext]
 · rintro _ L hp
   rw [List.drop_length] at hp
   rw [← hp]
   simp (disch := omega) only [ir79p0,stepQ,stepL,eq_self,aBin,reduceIte,Nat.lt_irrefl,idxG]
theorem containsN_run (l : List Int) (x : Int) (hl : l.length < 1000000000) : run tb 56 [numsD l,.int .i64 x] = some [.bool (decide (x ∈ l))] := by
 refine run_ir (x := ir56) rfl ?_
 have h := indexN_run l x hl
 rw [← idxG_ge x l 0]
 simp (disch := omega) only [ir56,stepQ,stepL,eq_self,aBin,reduceIte,h]
theorem layersP_run (p : List PP) (hp : p.length ≤ 64) : run tb 30 [prsD p] = some (layR (layS p)) := by
 refine run_ir (x := ir30) rfl ?_
 have hmk := mkN (n := p.length) (by omega)
 rw [rep_mix] at hmk
 have hln : ∀ l : List Int,PO.eval .lenL [numsD l] = some [.int .i64 l.length] := len_N
 simp (disch := omega) only [ir30,stepQ,stepL,len_P,hmk,hln,mixL_len]
 refine loop_k (σ := Unit) p.length (fun _ _ => True) (fun i _ => [.int .i64 i,numsD (mixL (fun _ => -1) (fun _ => 0) p.length i)]) (fun _ _ => layR (layS p)) ?_ ?_ 0 () (Nat.zero_le _) trivial
 · rintro i _ L hi _ hL
   have hnext := hL () trivial
   have hc := chk_N (l := mixL (fun _ => -1) (fun _ => 0) p.length i) (i := i) (by rw [mixL_len]; exact hi)
   have hs := set_N (l := mixL (fun _ => -1) (fun _ => 0) p.length i) (i := i) (by rw [mixL_len]; exact hi) (-1)
   have hms := mixL_set (fun _ => -1) (fun _ => 0) p.length i hi
   rw [hms] at hs
   simp (disch := omega) only [ir30p6,stepQ,stepL,eq_self,aBin,reduceIte,hi,hc,hs,wr,natS,hnext]
 · rintro _ L0 _
   rw [rep_mix']
   simp (disch := omega) only [ir30p6,stepQ,stepL,eq_self,aBin,reduceIte,Nat.lt_irrefl]
   refine loop_km (ι := Nat × Nat × List Int) (fun x => x.1) (fun x => x.1 + x.2.1 = p.length + 1 ∧ LyOk p 100 x.2.2 ∧ negs x.2.2 p.length < x.1) (fun x => [.int .i64 x.2.1,numsD x.2.2]) (fun x => layR (layF p x.1 x.2.1 x.2.2)) ?_ (p.length + 1,0,List.replicate p.length (-1)) ⟨rfl,rep_ok p (by omega),by have := negs_le (List.replicate p.length (-1)) p.length; simp only; omega⟩
   rintro ⟨n,k,out⟩ L hpre hL
   obtain ⟨hnk,hok,hneg⟩ : n + k = p.length + 1 ∧ LyOk p 100 out ∧ negs out p.length < n := hpre
   cases n with
   | zero => omega
   | succ n =>
    have hcon := containsN_run out (-1) (by rw [hok.1]; omega)
    rw [done_mem hok] at hcon
    simp only [layF_succ]
    cases hd : doneF out p.length with
    | true =>
     rw [hd] at hcon
     simp (disch := omega) only [ir30p5,stepQ,stepL,eq_self,reduceIte,hcon,callQ_tb,layR]
    | false =>
     rw [hd] at hcon
     simp (disch := omega) only [ir30p5,stepQ,stepL,hcon,callQ_tb,len_P,if_false]
     have hz : D.int .u64 0 = bvD (badF p out 0) := rfl
     rw [hz]
     refine loop_k (σ := Unit) p.length (fun _ _ => True) (fun i _ => [bvD (badF p out i),.int .i64 i]) (fun _ _ => _) ?_ ?_ 0 () (Nat.zero_le _) trivial
     · rintro i _ L2 hi _ hL2
       have hnext := hL2 () trivial
       have hio : i < out.length := by rw [hok.1]; exact hi
       have hc := chk_N hio
       have hg := get_N hio
       have hr := row_P hi
       rw [badF_succ,gd hio,gdP hi] at hnext
       unfold rowP at hr
       by_cases c : out[i] < 0
       · rw [if_pos c] at hnext
         simp (disch := omega) only [ir30p4,ir30p0,stepQ,stepL,eq_self,aBin,reduceIte,bvQ,hi,hc,hg,hr,c,wr,natS,hnext]
       · rw [if_neg c] at hnext
         simp (disch := omega) only [ir30p4,ir30p0,stepQ,stepL,eq_self,aBin,reduceIte,hi,hc,hg,hr,c,wr,natS,hnext]
     · rintro _ L2 _
       have ho := out_mix hok (badF p out p.length) k
       simp (disch := omega) only [ir30p4,stepQ,stepL,eq_self,aBin,reduceIte,len_P,Nat.lt_irrefl]
       generalize hbad : badF p out p.length = bad at *
       have hinit : [D.bool false,.int .i64 0,numsD out] = [.bool (fndF p out bad 0),.int .i64 ((0 : Nat) : Int),numsD (mixL (mkF p out bad k) (fun v => out.getD v 0) p.length 0)] := by rw [← ho]; rfl
       rw [hinit]
       refine loop_k (σ := Unit) p.length (fun _ _ => True) (fun i _ => [.bool (fndF p out bad i),.int .i64 i,numsD (mixL (mkF p out bad k) (fun v => out.getD v 0) p.length i)]) (fun _ _ => _) ?_ ?_ 0 () (Nat.zero_le _) trivial
       · rintro i _ L3 hi _ hL3
         have hnext := hL3 () trivial
         have hil : i < (mixL (mkF p out bad k) (fun v => out.getD v 0) p.length i).length := by rw [mixL_len]; exact hi
         have hc := chk_N hil
         have hg := get_N hil
         rw [mixL_get,if_neg (by omega)] at hg
         have hr := row_P hi
         unfold rowP at hr
         have hs := set_N hil (mkF p out bad k i)
         rw [mixL_set _ _ _ _ hi] at hs
         rw [fndF_succ] at hnext
         by_cases c : out.getD i 0 < 0
         · by_cases c2 : p[i].1 &&& ~~~bad = 0#64
           · have hno : ¬ lyAt p out bad i := fun h => h.2 (by rw [gdP hi]; exact c2)
             have hsame := mixL_same (mkF p out bad k) (fun v => out.getD v 0) p.length i (by unfold mkF; rw [if_neg hno])
             rw [if_neg hno,← hsame] at hnext
             simp (disch := omega) only [ir30p3,ir30p2,ir30p1,stepQ,stepL,eq_self,aBin,reduceIte,bvQ,hi,hc,hg,hr,c,c2,wr,natS,hnext]
           · have hyes : lyAt p out bad i := ⟨c,by rw [gdP hi]; exact c2⟩
             have hmk2 : mkF p out bad k i = k := by unfold mkF; rw [if_pos hyes]
             rw [if_pos hyes] at hnext
             rw [hmk2] at hs
             simp (disch := omega) only [ir30p3,ir30p2,ir30p1,stepQ,stepL,eq_self,aBin,reduceIte,bvQ,hi,hc,hg,hr,c,c2,hs,wr,natS,hnext]
         · have hno : ¬ lyAt p out bad i := fun h => c h.1
           have hsame := mixL_same (mkF p out bad k) (fun v => out.getD v 0) p.length i (by unfold mkF; rw [if_neg hno])
           rw [if_neg hno,← hsame] at hnext
           simp (disch := omega) only [ir30p3,ir30p2,ir30p1,stepQ,stepL,eq_self,aBin,reduceIte,bvQ,hi,hc,hg,hr,c,wr,natS,hnext]
       · rintro _ L3 _
         rw [← mkS_mix]
         cases hf : fndF p out bad p.length with
         | true =>
          have hnx := hL (n,k + 1,mkS p out bad k) ⟨by show n + (k + 1) = p.length + 1; omega,mkS_ok hok (by omega),by
           have := (negs_mk (p := p) (out := out) (bad := bad) (k := k) p.length (Nat.le_refl _)).2 hf
           simp only; omega⟩ (by simp only; omega)
          simp only at hnx
          simp (disch := omega) only [ir30p3,stepQ,stepL,eq_self,aBin,reduceIte,Nat.lt_irrefl,wr,natS,hnx]
         | false =>
          simp (disch := omega) only [ir30p3,stepQ,stepL,eq_self,aBin,reduceIte,Nat.lt_irrefl,layR,if_false]
end Go.Proofs.YtojkhlijbpmgpaaGreat

namespace Go.Proofs.YtojkhlijbpmgpaaGreat
open Go Am
set_option maxRecDepth 100000
def lyR (names : List (List UInt8)) (l : List CF) : List D := if prE names l = 0 then layR (layS (prsS names l)) else [.sl [],.int .i64 (prE names l)]
theorem prE_len {names : List (List UInt8)} {l : List CF} (h : prE names l = 0) : vocOk names = true ∧ l.length ≤ 64 := by
 unfold prE at h
 cases hv : vocOk names with
 | false => rw [hv] at h; simp at h
 | true =>
  rw [hv,if_neg (by simp)] at h
  by_cases h2 : 64 < l.length
  · rw [if_pos h2] at h; simp at h
  · exact ⟨rfl,by omega⟩
theorem layersL_run (names : List (List UInt8)) (hn : names.length < 1000000000) (l : List CF) (hf : ∀ c ∈ l,c.1.size < 1000000000 ∧ c.2.size < 1000000000) (hfl : l.length < 1000000000) :
 run tb 8 [strsD names,condsD l] = some (lyR names l) := by
 refine run_ir (x := ir8) rfl ?_
 have h1 := pairsP_run names hn l hf hfl
 unfold lyR
 by_cases c : prE names l = 0
 · rw [if_pos c] at h1 ⊢
   have h2 := layersP_run (prsS names l) (by simp only [prsS,List.length_map]; exact (prE_len c).2)
   cases hl : layS (prsS names l) with
   | none =>
    rw [hl] at h2
    simp (disch := omega) only [ir8,stepQ,stepL,eq_self,aBin,reduceIte,h1,ibne,layR,h2]
   | some o =>
    rw [hl] at h2
    simp (disch := omega) only [ir8,stepQ,stepL,eq_self,aBin,reduceIte,h1,ibne,layR,h2]
 · rw [if_neg c] at h1 ⊢
   simp (disch := omega) only [ir8,stepQ,stepL,eq_self,aBin,reduceIte,h1,ibne,c]
theorem layers32_run (names : List (List UInt8)) (hn : names.length < 1000000000) (hs : ∀ s ∈ names,s.length < 9223372036854775808) (l : List CF) (hf : ∀ c ∈ l,c.1.size < 1000000000 ∧ c.2.size < 1000000000) (hb : ∀ c ∈ l,F.allF nameB c.1 = true ∧ F.allF nameB c.2 = true) (hfl : l.length < 1000000000) :
 run tb 9 [strsD names,condsD l] = some (lyR names l) := by
 refine run_ir (x := ir9) rfl ?_
 have h1 := pairs32_run names hn hs l hf hb hfl
 unfold lyR
 by_cases c : prE names l = 0
 · rw [if_pos c] at h1 ⊢
   have hpl : (prsS names l).length = l.length := by simp [prsS]
   have hp64 : (prsS names l).length ≤ 64 := by rw [hpl]; exact (prE_len c).2
   have hyl : (yesL names l).length = (prsS names l).length := by simp [yesL]
   have hnl : (noL names l).length = (prsS names l).length := by simp [noL]
   have hyg : ∀ i (h : i < (prsS names l).length),(yesL names l)[i]'(by rw [hyl]; exact h) = (prsS names l)[i].1 := fun i h => by simp [yesL]
   have hng : ∀ i (h : i < (prsS names l).length),(noL names l)[i]'(by rw [hnl]; exact h) = (prsS names l)[i].2 := fun i h => by simp [noL]
   have hlc : PO.eval .lenL [condsD l] = some [.int .i64 (prsS names l).length] := by rw [len_C,hpl]
   generalize prsS names l = p at *
   generalize yesL names l = ys at *
   generalize noL names l = ns at *
   have hmk := mkN (n := p.length) (by omega)
   rw [rep_mix] at hmk
   simp (disch := omega) only [ir9,stepQ,stepL,eq_self,aBin,reduceIte,h1,ibne,hlc,hmk]
   refine loop_k (σ := Unit) p.length (fun _ _ => True) (fun i _ => [.int .i64 i,numsD (mixL (fun _ => -1) (fun _ => 0) p.length i)]) (fun _ _ => layR (layS p)) ?_ ?_ 0 () (Nat.zero_le _) trivial
   · rintro i _ L hi _ hL
     have hnext := hL () trivial
     have hc := chk_N (l := mixL (fun _ => -1) (fun _ => 0) p.length i) (i := i) (by rw [mixL_len]; exact hi)
     have hs := set_N (l := mixL (fun _ => -1) (fun _ => 0) p.length i) (i := i) (by rw [mixL_len]; exact hi) (-1)
     have hms := mixL_set (fun _ => -1) (fun _ => 0) p.length i hi
     rw [hms] at hs
     simp (disch := omega) only [ir9p6,stepQ,stepL,eq_self,aBin,reduceIte,hlc,hi,hc,hs,wr,natS,hnext]
   · rintro _ L0 _
     rw [rep_mix']
     simp (disch := omega) only [ir9p6,stepQ,stepL,eq_self,aBin,reduceIte,hlc,Nat.lt_irrefl]
     refine loop_km (ι := Nat × Nat × List Int) (fun x => x.1) (fun x => x.1 + x.2.1 = p.length + 1 ∧ LyOk p 100 x.2.2 ∧ negs x.2.2 p.length < x.1) (fun x => [.int .i64 x.2.1,numsD x.2.2]) (fun x => layR (layF p x.1 x.2.1 x.2.2)) ?_ (p.length + 1,0,List.replicate p.length (-1)) ⟨rfl,rep_ok p (by omega),by have := negs_le (List.replicate p.length (-1)) p.length; simp only; omega⟩
     rintro ⟨n,k,out⟩ L hpre hL
     obtain ⟨hnk,hok,hneg⟩ : n + k = p.length + 1 ∧ LyOk p 100 out ∧ negs out p.length < n := hpre
     cases n with
     | zero => omega
     | succ n =>
      have hkl : k ≤ p.length := by omega
      simp only [layF_succ]
      simp (disch := omega) only [ir9p5,stepQ,stepL,eq_self,aBin,reduceIte,hlc,hkl]
      have hz : [D.int .u64 0,.bool true,.int .i64 0] = [bvD (badF p out 0),.bool (doneF out 0),.int .i64 ((0 : Nat) : Int)] := rfl
      rw [hz]
      refine loop_k (σ := Unit) p.length (fun _ _ => True) (fun i _ => [bvD (badF p out i),.bool (doneF out i),.int .i64 i]) (fun _ _ => _) ?_ ?_ 0 () (Nat.zero_le _) trivial
      · rintro i _ L2 hi _ hL2
        have hnext := hL2 () trivial
        have hio : i < out.length := by rw [hok.1]; exact hi
        have hc := chk_N hio
        have hg := get_N hio
        have hr := row_V (l := ns) (i := i) (by rw [hnl]; exact hi)
        rw [hng i hi] at hr
        rw [badF_succ,doneF_succ,gd hio,gdP hi] at hnext
        by_cases c : out[i] < 0
        · rw [if_pos c,if_pos c] at hnext
          simp (disch := omega) only [ir9p4,ir9p0,stepQ,stepL,eq_self,aBin,reduceIte,bvQ,hlc,hi,hc,hg,hr,c,wr,natS,hnext]
        · rw [if_neg c,if_neg c] at hnext
          simp (disch := omega) only [ir9p4,ir9p0,stepQ,stepL,eq_self,aBin,reduceIte,hlc,hi,hc,hg,c,wr,natS,hnext]
      · rintro _ L2 _
        cases hd : doneF out p.length with
        | true => simp (disch := omega) only [ir9p4,stepQ,stepL,eq_self,aBin,hlc,Nat.lt_irrefl,layR,if_true]
        | false =>
         have ho := out_mix hok (badF p out p.length) k
         simp (disch := omega) only [ir9p4,stepQ,stepL,eq_self,aBin,reduceIte,hlc,Nat.lt_irrefl,if_false]
         generalize hbad : badF p out p.length = bad at *
         have hinit : [D.bool false,.int .i64 0,numsD out] = [.bool (fndF p out bad 0),.int .i64 ((0 : Nat) : Int),numsD (mixL (mkF p out bad k) (fun v => out.getD v 0) p.length 0)] := by rw [← ho]; rfl
         rw [hinit]
         refine loop_k (σ := Unit) p.length (fun _ _ => True) (fun i _ => [.bool (fndF p out bad i),.int .i64 i,numsD (mixL (mkF p out bad k) (fun v => out.getD v 0) p.length i)]) (fun _ _ => _) ?_ ?_ 0 () (Nat.zero_le _) trivial
         · rintro i _ L3 hi _ hL3
           have hnext := hL3 () trivial
           have hil : i < (mixL (mkF p out bad k) (fun v => out.getD v 0) p.length i).length := by rw [mixL_len]; exact hi
           have hc := chk_N hil
           have hg := get_N hil
           rw [mixL_get,if_neg (by omega)] at hg
           have hr := row_V (l := ys) (i := i) (by rw [hyl]; exact hi)
           rw [hyg i hi] at hr
           have hs := set_N hil (mkF p out bad k i)
           rw [mixL_set _ _ _ _ hi] at hs
           rw [fndF_succ] at hnext
           by_cases c : out.getD i 0 < 0
           · by_cases c2 : p[i].1 &&& ~~~bad = 0#64
             · have hno : ¬ lyAt p out bad i := fun h => h.2 (by rw [gdP hi]; exact c2)
               have hsame := mixL_same (mkF p out bad k) (fun v => out.getD v 0) p.length i (by unfold mkF; rw [if_neg hno])
               rw [if_neg hno,← hsame] at hnext
               simp (disch := omega) only [ir9p3,ir9p2,ir9p1,stepQ,stepL,eq_self,aBin,reduceIte,bvQ,hlc,hi,hc,hg,hr,c,c2,wr,natS,hnext]
             · have hyes : lyAt p out bad i := ⟨c,by rw [gdP hi]; exact c2⟩
               have hmk2 : mkF p out bad k i = k := by unfold mkF; rw [if_pos hyes]
               rw [if_pos hyes] at hnext
               rw [hmk2] at hs
               simp (disch := omega) only [ir9p3,ir9p2,ir9p1,stepQ,stepL,eq_self,aBin,reduceIte,bvQ,hlc,hi,hc,hg,hr,c,c2,hs,wr,natS,hnext]
           · have hno : ¬ lyAt p out bad i := fun h => c h.1
             have hsame := mixL_same (mkF p out bad k) (fun v => out.getD v 0) p.length i (by unfold mkF; rw [if_neg hno])
             rw [if_neg hno,← hsame] at hnext
             simp (disch := omega) only [ir9p3,ir9p2,ir9p1,stepQ,stepL,eq_self,aBin,reduceIte,bvQ,hlc,hi,hc,hg,c,wr,natS,hnext]
         · rintro _ L3 _
           rw [← mkS_mix]
           cases hf : fndF p out bad p.length with
           | true =>
            have hnx := hL (n,k + 1,mkS p out bad k) ⟨by show n + (k + 1) = p.length + 1; omega,mkS_ok hok (by omega),by
             have := (negs_mk (p := p) (out := out) (bad := bad) (k := k) p.length (Nat.le_refl _)).2 hf
             simp only; omega⟩ (by simp only; omega)
            simp only at hnx
            simp (disch := omega) only [ir9p3,stepQ,stepL,eq_self,aBin,reduceIte,hlc,Nat.lt_irrefl,wr,natS,hnx]
           | false =>
            simp (disch := omega) only [ir9p3,stepQ,stepL,eq_self,aBin,reduceIte,hlc,Nat.lt_irrefl,layR,if_false]
 · rw [if_neg c] at h1 ⊢
   simp (disch := omega) only [ir9,stepQ,stepL,eq_self,aBin,reduceIte,h1,ibne,c]
end Go.Proofs.YtojkhlijbpmgpaaGreat

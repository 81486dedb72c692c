/- What functions of the program compute: lemmas. -/
import Derived.Test.YtjicfdolcieliaaFl3
set_option linter.unusedSimpArgs false
set_option linter.unusedVariables false
set_option linter.unusedSectionVars false
namespace Go.Proofs.Ytjicfdolcieliaa
open Go Am
set_option maxRecDepth 100000
theorem refineR_run (na : List (List UInt8)) (a : List Int) (nb : List (List UInt8)) (b : List Int) (h1 : na.length < 1000000000) (h2 : a.length < 1000000000) (h3 : nb.length < 1000000000) (h4 : b.length < 1000000000)
 (s1 : ∀ s ∈ na,s.length < 9223372036854775808) (s2 : ∀ s ∈ nb,s.length < 9223372036854775808) :
 run tb 19 [strsD na,numsD a,strsD nb,numsD b] = some (refV na a nb b) := by
 have v1 := validateO3_run na a h1 s1 h2
 have v2 := validateO3_run nb b h3 s2 h4
 refine run_ir (x := ir19) rfl ?_
 unfold refV refE
 by_cases ha : orderE na a = 0
 case neg =>
  rw [if_pos (show orderE na a ≠ 0 from ha),if_neg ha]
  simp (disch := omega) only [ir19,stepQ,stepL,eq_self,aBin,reduceIte,Int.reduceEq,Int.reduceLT,Int.reduceLE,Int.reduceGT,Int.reduceGE,v1,ibne,ne_eq,ha,not_false_iff,decide_true]
 rw [if_neg (show ¬ (orderE na a ≠ 0) from fun h => h ha)]
 rw [ha] at v1
 by_cases hb : orderE nb b = 0
 case neg =>
  rw [if_pos (show orderE nb b ≠ 0 from hb),if_neg hb]
  simp (disch := omega) only [ir19,stepQ,stepL,eq_self,aBin,reduceIte,Int.reduceEq,Int.reduceLT,Int.reduceLE,Int.reduceGT,Int.reduceGE,v1,v2,ibne,ne_eq,not_true,decide_false,hb,not_false_iff,decide_true]
 rw [if_neg (show ¬ (orderE nb b ≠ 0) from fun h => h hb)]
 rw [hb] at v2
 obtain ⟨hv,la,ra⟩ := orderE_zero ha
 obtain ⟨_,lb,rb⟩ := orderE_zero hb
 have h64 := orderE_len ha
 have heq := sameN_run na nb h1
 by_cases hnn : na = nb
 case neg =>
  rw [if_neg hnn,if_neg (by decide)]
  rw [decide_eq_false hnn] at heq
  simp (disch := omega) only [ir19,stepQ,stepL,eq_self,aBin,reduceIte,Int.reduceEq,Int.reduceLT,Int.reduceLE,Int.reduceGT,Int.reduceGE,v1,v2,ibne,ne_eq,not_true,decide_false,heq,Bool.not_false]
 subst hnn
 rw [if_pos rfl,if_pos rfl]
 rw [decide_eq_true rfl] at heq
 have hab : b.length = a.length := by rw [la,lb]
 rw [← hund_pat hab (fun r hr => by have := rkIn_mem (rkOk_in rb) r hr; omega) h64.1]
 have hmkN := mkN (n := a.length) (by omega)
 have hlx := hundR_len a b
 rw [← hlx,fill_zero,hlx] at hmkN
 have hfl : ∀ i,(fillR (hundR a b) i).length = a.length := fun i => by simp [fillR,hlx]
 simp (disch := omega) only [ir19,stepQ,stepL,eq_self,aBin,reduceIte,Int.reduceEq,Int.reduceLT,Int.reduceLE,Int.reduceGT,Int.reduceGE,v1,v2,ibne,ne_eq,not_true,decide_false,heq,Bool.not_true,len_N,hmkN]
 refine loop_k (σ := Unit) a.length (fun _ _ => True) (fun i _ => [.int .i64 i,numsD (fillR (hundR a b) i)]) (fun _ _ => [strsD na,numsD (normS (hundR a b)),.int .i64 0]) ?_ ?_ 0 () (Nat.zero_le _) trivial
 · rintro i _ M hi _ hM
   have hnext := hM () trivial
   rw [← fill_succ (by omega),hundR_get a b hi,gd hi,gd (by omega)] at hnext
   have b1 := rkIn_mem (rkOk_in ra) a[i] (List.getElem_mem _)
   have b2 := rkIn_mem (rkOk_in rb) b[i] (List.getElem_mem _)
   have hib : i < b.length := by omega
   have hc := chk_N (l := fillR (hundR a b) i) (i := i) (by rw [hfl]; exact hi)
   have hs := set_N (l := fillR (hundR a b) i) (i := i) (by rw [hfl]; exact hi) (a[i] * 100 + b[i])
   simp (disch := omega) only [ir19p0,stepQ,stepL,eq_self,aBin,reduceIte,Int.reduceEq,Int.reduceLT,Int.reduceLE,Int.reduceGT,Int.reduceGE,hi,hib,row_N,len_N,hfl,wr,hc,hs,natS,hnext]
 · rintro _ M _
   have hno := normal3_run na (hundR a b) h1 s1 (by omega)
   rw [if_pos (by simp [normE,hv,hlx,la])] at hno
   have he : fillR (hundR a b) a.length = hundR a b := by rw [← hlx]; exact fill_end _
   simp (disch := omega) only [ir19p0,stepQ,stepL,eq_self,aBin,reduceIte,Int.reduceEq,Int.reduceLT,Int.reduceLE,Int.reduceGT,Int.reduceGE,len_N,hfl,he,hlx,Nat.lt_irrefl,hno,callQ_tvi]
theorem refV_ok (na : List (List UInt8)) (a : List Int) (nb : List (List UInt8)) (b : List Int) (h1 : na.length < 1000000000) (h2 : a.length < 1000000000) : ∃ (ns : List (List UInt8)) (r : List Int) (e : Int),refV na a nb b = [strsD ns,numsD r,.int .i64 e] ∧ ns.length < 1000000000 ∧ r.length < 1000000000 := by
 unfold refV
 split
 · exact ⟨na,normS (lexR a b),0,rfl,h1,by rw [norm_len,lexR_len]; exact h2⟩
 · exact ⟨[],[],_,rfl,by simp,by simp⟩
theorem fromV_ok (ns : List (List UInt8)) (l : List (BitVec 64)) (h1 : ns.length < 1000000000) : ∃ (n2 : List (List UInt8)) (r : List Int) (e : Int),fromV ns l = [strsD n2,numsD r,.int .i64 e] ∧ n2.length < 1000000000 ∧ r.length < 1000000000 := by
 unfold fromV
 split
 · rename_i hv
   have h6 := pow6 (vocOk_len hv)
   exact ⟨ns,_,0,rfl,h1,by rw [norm_len,fromR_len]; omega⟩
 · exact ⟨[],[],_,rfl,by simp,by simp⟩
theorem normV_ok (ns : List (List UInt8)) (l : List Int) (h1 : ns.length < 1000000000) (h2 : l.length < 1000000000) : ∃ (n2 : List (List UInt8)) (r : List Int) (e : Int),(if normE ns l = true then [strsD ns,numsD (normS l),D.int .i64 0] else [.sl [],.sl [],.int .i64 1]) = [strsD n2,numsD r,.int .i64 e] ∧ n2.length < 1000000000 ∧ r.length < 1000000000 := by
 split
 · exact ⟨ns,_,0,rfl,h1,by rw [norm_len]; exact h2⟩
 · exact ⟨[],[],_,rfl,by simp,by simp⟩
end Go.Proofs.Ytjicfdolcieliaa

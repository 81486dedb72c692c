/- What functions of the program compute: lemmas. -/
import Derived.Test.YtojkhlijbpmgpaaGreatLb1
import Derived.Test.YtojkhlijbpmgpaaGreatAm5
import Derived.Test.YtojkhlijbpmgpaaGreatAm6
set_option linter.unusedSimpArgs false
set_option linter.unusedVariables false
set_option linter.unusedSectionVars false
namespace Go.Proofs.YtojkhlijbpmgpaaGreat
open Go Am
set_option maxRecDepth 100000
theorem count_run (l : List (List UInt8)) (h : l.length < 63) : run tb 71 [strsD l] = some [.int .i64 ((2 ^ l.length : Nat) : Int)] := by
 refine run_ir (x := ir71) rfl ?_
 simp (disch := omega) only [ir71,stepQ,stepL,eq_self,aBin,reduceIte,Int.reduceEq,Int.reduceLT,Int.reduceLE,Int.reduceGT,Int.reduceGE,bvQ,wu,shl_norm,shr_norm,and1_norm,len_S]
theorem bits_s1 {p : Nat → Bool} {w : Nat} (h : p w = true) : bitsTo p w ||| 1#64 <<< w = bitsTo p (w + 1) := by simp only [bitsTo,h,if_true]
theorem bits_s0 {p : Nat → Bool} {w : Nat} (h : p w = false) : bitsTo p w = bitsTo p (w + 1) := by simp [bitsTo,h]
theorem true_run (i : Nat) (hi : i < 64) : run tb 81 [.int .i64 i] = some [bvD (bitsTo (fun w => decide (w / 2 ^ i % 2 = 1)) 64)] := by
 refine run_ir (x := ir81) rfl ?_
 simp (disch := omega) only [ir81,stepQ,stepL,eq_self,aBin,reduceIte,Int.reduceEq,Int.reduceLT,Int.reduceLE,Int.reduceGT,Int.reduceGE,bvQ,wu,shl_norm,shr_norm,and1_norm]
 refine loop_k (σ := Unit) 64 (fun _ _ => True) (fun w _ => [bvD (bitsTo (fun w => decide (w / 2 ^ i % 2 = 1)) w),.int .i64 w]) (fun _ _ => [bvD (bitsTo (fun w => decide (w / 2 ^ i % 2 = 1)) 64)]) ?_ ?_ 0 () (Nat.zero_le _) trivial
 · rintro w _ L hw _ hL
   have hnext := hL () trivial
   have hw' : (w : Int) < 64 := by omega
   have h2 : w / 2 ^ i ≤ w := Nat.div_le_self ..
   rcases Nat.mod_two_eq_zero_or_one (w / 2 ^ i) with hb | hb
   · have hb' : ((w / 2 ^ i % 2 : Nat) : Int) = 0 := by omega
     rw [← bits_s0 (by simp [hb])] at hnext
     simp (disch := omega) only [ir81p0,stepQ,stepL,eq_self,aBin,reduceIte,Int.reduceEq,Int.reduceLT,Int.reduceLE,Int.reduceGT,Int.reduceGE,bvQ,wu,shl_norm,shr_norm,and1_norm,hw',wr,natS,hb',BitVec.zero_shiftLeft,BitVec.or_zero,hnext]
   · have hb' : ((w / 2 ^ i % 2 : Nat) : Int) = 1 := by omega
     rw [← bits_s1 (by simp [hb])] at hnext
     simp (disch := omega) only [ir81p0,stepQ,stepL,eq_self,aBin,reduceIte,Int.reduceEq,Int.reduceLT,Int.reduceLE,Int.reduceGT,Int.reduceGE,bvQ,wu,shl_norm,shr_norm,and1_norm,hw',wr,natS,hb',hnext]
 · rintro _ L _
   simp (disch := omega) only [ir81p0,stepQ,stepL,eq_self,aBin,reduceIte,Int.reduceEq,Int.reduceLT,Int.reduceLE,Int.reduceGT,Int.reduceGE,bvQ,wu,shl_norm,shr_norm,and1_norm]
theorem whole_run (n : Nat) (hn : n ≤ 6) : run tb 82 [.int .i64 n] = some [bvD (bitsTo (fun _ => true) (2 ^ n))] := by
 refine run_ir (x := ir82) rfl ?_
 obtain rfl | rfl | rfl | rfl | rfl | rfl | rfl : n = 0 ∨ n = 1 ∨ n = 2 ∨ n = 3 ∨ n = 4 ∨ n = 5 ∨ n = 6 := by omega
 all_goals rfl
theorem valid_run (l : List (List UInt8)) (hl : l.length < 1000000000) : run tb 25 [strsD l] = some [.bool (vocOk l)] := by
 refine run_ir (x := ir25) rfl ?_
 by_cases h6 : l.length ≤ 6
 · have h6' : ¬ ((l.length : Nat) : Int) > 6 := by omega
   have hv : vocOk l = okAt l 0 := by simp [vocOk,h6,okAt_zero]
   rw [hv]
   simp (disch := omega) only [ir25,stepQ,stepL,eq_self,aBin,reduceIte,Int.reduceEq,Int.reduceLT,Int.reduceLE,Int.reduceGT,Int.reduceGE,len_S,h6']
   refine loop_k (σ := Unit) l.length (fun _ _ => True) (fun i _ => [.int .i64 i]) (fun i _ => [.bool (okAt l i)]) ?_ ?_ 0 () (Nat.zero_le _) trivial
   · rintro i _ L hi _ hL
     have hnext := hL () trivial
     have hn := validName_run l[i]
     cases hvn : validName l[i] with
     | false =>
      rw [hvn] at hn
      have : okAt l i = false := by
       by_cases h0 : 0 < i
       · rw [okAt_next h0 hi,hvn]; rfl
       · rw [okAt_first' h0 hi,hvn]; rfl
      simp (disch := omega) only [ir25p1,ir25p0,stepQ,stepL,eq_self,aBin,reduceIte,Int.reduceEq,Int.reduceLT,Int.reduceLE,Int.reduceGT,Int.reduceGE,hi,row_S,hn,this]
     | true =>
      rw [hvn] at hn
      by_cases h0 : ¬ 0 < i
      · have h0' : ¬ (i : Int) > 0 := by omega
        rw [okAt_first' h0 hi,hvn,Bool.true_and]
        simp (disch := omega) only [ir25p1,ir25p0,stepQ,stepL,eq_self,aBin,reduceIte,Int.reduceEq,Int.reduceLT,Int.reduceLE,Int.reduceGT,Int.reduceGE,hi,h0',row_S,hn,wr,natS,hnext]
      · have h0 : 0 < i := by omega
        have h0' : (i : Int) > 0 := by omega
        have hs : (i : Int) - 1 = ((i - 1 : Nat) : Int) := by omega
        have hi1 : i - 1 < l.length := by omega
        rw [okAt_next h0 hi,hvn,Bool.true_and]
        cases hb : Op.bytesLess l[i - 1] l[i] with
        | true =>
         rw [Bool.true_and]
         simp (disch := omega) only [ir25p1,ir25p0,stepQ,stepL,eq_self,aBin,reduceIte,Int.reduceEq,Int.reduceLT,Int.reduceLE,Int.reduceGT,Int.reduceGE,hi,h0',row_S,hn,wr,natS,hs,hi1,hb,hnext]
        | false =>
         rw [Bool.false_and]
         simp (disch := omega) only [ir25p1,ir25p0,stepQ,stepL,eq_self,aBin,reduceIte,Int.reduceEq,Int.reduceLT,Int.reduceLE,Int.reduceGT,Int.reduceGE,hi,h0',row_S,hn,wr,natS,hs,hi1,hb]
   · rintro _ L _
     rw [okAt_end]
     simp (disch := omega) only [ir25p1,stepQ,stepL,eq_self,aBin,reduceIte,Int.reduceEq,Int.reduceLT,Int.reduceLE,Int.reduceGT,Int.reduceGE,Nat.lt_irrefl]
 · have h6' : ((l.length : Nat) : Int) > 6 := by omega
   have hv : vocOk l = false := by simp [vocOk,h6]
   rw [hv]
   simp (disch := omega) only [ir25,stepQ,stepL,eq_self,aBin,reduceIte,Int.reduceEq,Int.reduceLT,Int.reduceLE,Int.reduceGT,Int.reduceGE,len_S,h6']
theorem valid3_run (l : List (List UInt8)) (hl : l.length < 1000000000) (hs : ∀ s ∈ l,s.length < 9223372036854775808) : run tb 52 [strsD l] = some [.bool (vocOk l)] := by
 refine run_ir (x := ir52) rfl ?_
 have hv : vocOk l = (okAt l 0 && decide (l.length ≤ 6)) := by rw [vocOk,okAt_zero,Bool.and_comm]
 rw [hv]
 simp (disch := omega) only [ir52,stepQ,stepL,eq_self,aBin,reduceIte,Int.reduceEq,Int.reduceLT,Int.reduceLE,Int.reduceGT,Int.reduceGE]
 refine loop_k (σ := Unit) l.length (fun _ _ => True) (fun i _ => [.int .i64 i]) (fun i _ => [.bool (okAt l i && decide (l.length ≤ 6))]) ?_ ?_ 0 () (Nat.zero_le _) trivial
 · rintro i _ L hi _ hL
   have hnext := hL () trivial
   have hn := validName57_run l[i] (hs _ (List.getElem_mem hi))
   cases hvn : validName l[i] with
   | false =>
    rw [hvn] at hn
    have : okAt l i = false := by
     by_cases h0 : 0 < i
     · rw [okAt_next h0 hi,hvn]; rfl
     · rw [okAt_first' h0 hi,hvn]; rfl
    rw [this,Bool.false_and]
    simp (disch := omega) only [ir52p1,ir52p0,stepQ,stepL,eq_self,aBin,reduceIte,Int.reduceEq,Int.reduceLT,Int.reduceLE,Int.reduceGT,Int.reduceGE,len_S,hi,row_S,hn]
   | true =>
    rw [hvn] at hn
    by_cases h0 : ¬ 0 < i
    · have h0' : ¬ (i : Int) > 0 := by omega
      rw [okAt_first' h0 hi,hvn,Bool.true_and]
      simp (disch := omega) only [ir52p1,ir52p0,stepQ,stepL,eq_self,aBin,reduceIte,Int.reduceEq,Int.reduceLT,Int.reduceLE,Int.reduceGT,Int.reduceGE,len_S,hi,h0',row_S,hn,wr,natS,hnext]
    · have h0 : 0 < i := by omega
      have h0' : (i : Int) > 0 := by omega
      have hs : (i : Int) - 1 = ((i - 1 : Nat) : Int) := by omega
      have hi1 : i - 1 < l.length := by omega
      rw [okAt_next h0 hi,hvn,Bool.true_and]
      have ht := bytesLess_total l[i] l[i - 1]
      cases hb : Op.bytesLess l[i - 1] l[i] with
      | true =>
       rw [hb] at ht
       rw [Bool.true_and]
       simp (disch := omega) only [ir52p1,ir52p0,stepQ,stepL,eq_self,aBin,reduceIte,Int.reduceEq,Int.reduceLT,Int.reduceLE,Int.reduceGT,Int.reduceGE,len_S,hi,h0',row_S,hn,wr,natS,hs,hi1,ht,hnext]
      | false =>
       rw [hb] at ht
       rw [Bool.false_and,Bool.false_and]
       simp (disch := omega) only [ir52p1,ir52p0,stepQ,stepL,eq_self,aBin,reduceIte,Int.reduceEq,Int.reduceLT,Int.reduceLE,Int.reduceGT,Int.reduceGE,len_S,hi,h0',row_S,hn,wr,natS,hs,hi1,ht]
 · rintro _ L _
   rw [okAt_end,Bool.true_and]
   by_cases h6 : l.length ≤ 6
   · have h6' : ((l.length : Nat) : Int) ≤ 6 := by omega
     simp (disch := omega) only [ir52p1,stepQ,stepL,eq_self,aBin,reduceIte,Int.reduceEq,Int.reduceLT,Int.reduceLE,Int.reduceGT,Int.reduceGE,len_S,Nat.lt_irrefl,h6,h6']
   · have h6' : ¬ ((l.length : Nat) : Int) ≤ 6 := by omega
     simp (disch := omega) only [ir52p1,stepQ,stepL,eq_self,aBin,reduceIte,Int.reduceEq,Int.reduceLT,Int.reduceLE,Int.reduceGT,Int.reduceGE,len_S,Nat.lt_irrefl,h6,h6']
theorem all_run (l : List (List UInt8)) (hl : l.length < 1000000000) : run tb 59 [strsD l] = some [bvD (allS l)] := by
 refine run_ir (x := ir59) rfl ?_
 have hv := valid_run l hl
 unfold allS
 cases h : vocOk l with
 | false =>
  rw [h] at hv
  simp (disch := omega) only [ir59,stepQ,stepL,eq_self,aBin,reduceIte,Int.reduceEq,Int.reduceLT,Int.reduceLE,Int.reduceGT,Int.reduceGE,bvQ,wu,shl_norm,shr_norm,and1_norm,hv,Bool.false_eq_true]
 | true =>
  rw [h] at hv
  have hw := whole_run l.length (vocOk_len h)
  simp (disch := omega) only [ir59,stepQ,stepL,eq_self,aBin,reduceIte,Int.reduceEq,Int.reduceLT,Int.reduceLE,Int.reduceGT,Int.reduceGE,hv,len_S,hw]
theorem all3_run (l : List (List UInt8)) (hl : l.length < 1000000000) (hs : ∀ s ∈ l,s.length < 9223372036854775808) : run tb 90 [strsD l] = some [bvD (allS l)] := by
 refine run_ir (x := ir90) rfl ?_
 have hv := valid3_run l hl hs
 unfold allS
 cases h : vocOk l with
 | false =>
  rw [h] at hv
  simp (disch := omega) only [ir90,stepQ,stepL,eq_self,aBin,reduceIte,Int.reduceEq,Int.reduceLT,Int.reduceLE,Int.reduceGT,Int.reduceGE,bvQ,wu,shl_norm,shr_norm,and1_norm,hv,Bool.false_eq_true]
 | true =>
  rw [h] at hv
  have h6 := vocOk_len h
  have hp := pow6 h6
  have hc := count_run l (by omega)
  simp (disch := omega) only [ir90,stepQ,stepL,eq_self,aBin,reduceIte,Int.reduceEq,Int.reduceLT,Int.reduceLE,Int.reduceGT,Int.reduceGE,bvQ,wu,shl_norm,shr_norm,and1_norm,hv]
  refine loop_k (σ := Unit) (2 ^ l.length) (fun _ _ => True) (fun w _ => [bvD (bitsTo (fun _ => true) w),.int .i64 w]) (fun _ _ => [bvD (bitsTo (fun _ => true) (2 ^ l.length))]) ?_ ?_ 0 () (Nat.zero_le _) trivial
  · rintro w _ L hw _ hL
    have hnext := hL () trivial
    rw [← bits_s1 rfl] at hnext
    generalize 2 ^ l.length = n at *
    simp (disch := omega) only [ir90p0,stepQ,stepL,eq_self,aBin,reduceIte,Int.reduceEq,Int.reduceLT,Int.reduceLE,Int.reduceGT,Int.reduceGE,bvQ,wu,shl_norm,shr_norm,and1_norm,hc,hw,wr,natS,hnext]
  · rintro _ L _
    generalize 2 ^ l.length = n at *
    simp (disch := omega) only [ir90p0,stepQ,stepL,eq_self,aBin,reduceIte,Int.reduceEq,Int.reduceLT,Int.reduceLE,Int.reduceGT,Int.reduceGE,bvQ,wu,shl_norm,shr_norm,and1_norm,hc,Nat.lt_irrefl]
end Go.Proofs.YtojkhlijbpmgpaaGreat

namespace Go.Proofs.YtojkhlijbpmgpaaGreat
open Go Am
set_option maxRecDepth 100000
theorem idxOf_drop (s : List UInt8) {l : List (List UInt8)} {i : Nat} (h : i < l.length) : idxOf s i (l.drop i) = if s = l[i] then (i : Int) else idxOf s (i + 1) (l.drop (i + 1)) := by
 rw [drop_s h]; rfl
theorem idxOf_nil (s : List UInt8) (l : List (List UInt8)) : idxOf s l.length (l.drop l.length) = -1 := by rw [drop_e]; rfl
theorem index3_run (l : List (List UInt8)) (s : List UInt8) (hl : l.length < 1000000000) : run tb 70 [strsD l,.str s] = some [.int .i64 (idxOf s 0 l)] := by
 refine run_ir (x := ir70) rfl ?_
 simp (disch := omega) only [ir70,stepQ,stepL,eq_self,aBin,reduceIte,Int.reduceEq,Int.reduceLT,Int.reduceLE,Int.reduceGT,Int.reduceGE]
 refine loop_k (σ := Unit) l.length (fun _ _ => True) (fun i _ => [.int .i64 i]) (fun i _ => [.int .i64 (idxOf s i (l.drop i))]) ?_ ?_ 0 () (Nat.zero_le _) trivial
 · rintro i _ L hi _ hL
   have hnext := hL () trivial
   rw [idxOf_drop s hi]
   by_cases h : s = l[i]
   · have hb : (l[i] == s) = true := by simp [h]
     rw [if_pos h]
     simp (disch := omega) only [ir70p0,stepQ,stepL,eq_self,aBin,reduceIte,Int.reduceEq,Int.reduceLT,Int.reduceLE,Int.reduceGT,Int.reduceGE,len_S,hi,row_S,hb]
   · have hb : (l[i] == s) = false := by simpa using fun e => h e.symm
     rw [if_neg h]
     simp (disch := omega) only [ir70p0,stepQ,stepL,eq_self,aBin,reduceIte,Int.reduceEq,Int.reduceLT,Int.reduceLE,Int.reduceGT,Int.reduceGE,len_S,hi,row_S,hb,wr,natS,hnext]
 · rintro _ L _
   rw [idxOf_nil]
   simp (disch := omega) only [ir70p0,stepQ,stepL,eq_self,aBin,reduceIte,Int.reduceEq,Int.reduceLT,Int.reduceLE,Int.reduceGT,Int.reduceGE,len_S,Nat.lt_irrefl]
theorem yes_run (l : List (List UInt8)) (w : Nat) (hl : l.length < 63) (hw : w < 9223372036854775808) : run tb 72 [strsD l,.int .i64 w] = some [strsD (yesN l w)] := by
 refine run_ir (x := ir72) rfl ?_
 simp (disch := omega) only [ir72,stepQ,stepL,eq_self,aBin,reduceIte,Int.reduceEq,Int.reduceLT,Int.reduceLE,Int.reduceGT,Int.reduceGE,strs_nil]
 refine loop_k (σ := List (List UInt8)) l.length (fun i acc => acc.length ≤ i ∧ acc ++ yesN (l.drop i) (w / 2 ^ i) = yesN l w) (fun i acc => [.int .i64 i,strsD acc]) (fun _ _ => [strsD (yesN l w)]) ?_ ?_ 0 [] (Nat.zero_le _) ⟨Nat.le_refl _,by simp⟩
 · rintro i acc L hi ⟨ha,hp⟩ hL
   rw [yesN_drop hi] at hp
   have h2 : w / 2 ^ i ≤ w := Nat.div_le_self ..
   rcases Nat.mod_two_eq_zero_or_one (w / 2 ^ i) with hb | hb
   · have hb' : ((w / 2 ^ i % 2 : Nat) : Int) = 0 := by omega
     have hnext := hL acc ⟨by omega,by simpa [hb] using hp⟩
     simp (disch := omega) only [ir72p1,ir72p0,stepQ,stepL,eq_self,aBin,reduceIte,Int.reduceEq,Int.reduceLT,Int.reduceLE,Int.reduceGT,Int.reduceGE,bvQ,wu,shl_norm,shr_norm,and1_norm,len_S,hi,hb',wr,natS,hnext]
   · have hb' : ((w / 2 ^ i % 2 : Nat) : Int) = 1 := by omega
     have hnext := hL (acc ++ [l[i]]) ⟨by simp; omega,by simpa [hb] using hp⟩
     simp (disch := omega) only [ir72p1,ir72p0,stepQ,stepL,eq_self,aBin,reduceIte,Int.reduceEq,Int.reduceLT,Int.reduceLE,Int.reduceGT,Int.reduceGE,bvQ,wu,shl_norm,shr_norm,and1_norm,len_S,hi,hb',row_S,app_S,wr,natS,hnext]
 · rintro acc L ⟨ha,hp⟩
   have : acc = yesN l w := by simpa [yesN] using hp
   subst this
   simp (disch := omega) only [ir72p1,stepQ,stepL,eq_self,aBin,reduceIte,Int.reduceEq,Int.reduceLT,Int.reduceLE,Int.reduceGT,Int.reduceGE,len_S,Nat.lt_irrefl]
theorem idxOf_at {s : List UInt8} : ∀ {l : List (List UInt8)} {k : Nat},s ∈ l → ∃ i,∃ h : i < l.length,l[i] = s ∧ idxOf s k l = ((k + i : Nat) : Int)
 | [],_,h => by simp at h
 | a :: l,k,h => by
  simp only [idxOf]
  by_cases hs : s = a
  · exact ⟨0,by simp,by simp [hs],by rw [if_pos hs]; rfl⟩
  · rw [if_neg hs]
    obtain ⟨i,hi,h1,h2⟩ := idxOf_at (l := l) (k := k + 1) ((List.mem_cons.1 h).resolve_left hs)
    exact ⟨i + 1,by simpa using hi,by simpa using h1,by rw [h2]; congr 1; omega⟩
theorem val_and (ys : List (List UInt8)) (f : F) (h : f.op = 5) : F.val ys f = f.args.all (F.val ys) := by
 rw [F.val_eq,valO]; simp [h,List.all_map,Function.comp_def]
theorem val_or (ys : List (List UInt8)) (f : F) (h : f.op = 6) : F.val ys f = f.args.any (F.val ys) := by
 rw [F.val_eq,valO]; simp [h,List.any_map,Function.comp_def]
theorem all_take {α : Type} (p : α → Bool) {l : List α} {i : Nat} (h : i < l.length) : (l.take (i + 1)).all p = ((l.take i).all p && p l[i]) := by
 rw [List.take_add_one,List.getElem?_eq_getElem h,List.all_append]; simp only [Option.toList_some,List.all_cons,List.all_nil,Bool.and_true]
theorem any_take {α : Type} (p : α → Bool) {l : List α} {i : Nat} (h : i < l.length) : (l.take (i + 1)).any p = ((l.take i).any p || p l[i]) := by
 rw [List.take_add_one,List.getElem?_eq_getElem h,List.any_append]; simp only [Option.toList_some,List.any_cons,List.any_nil,Bool.or_false]
theorem sub_args {voc : List (List UInt8)} {f : F} (hl : f.args.length ≠ 0 ∨ f.op ≠ 3) (h : ∀ s ∈ F.atomL f,s ∈ voc) : ∀ g ∈ f.args,∀ s ∈ F.atomL g,s ∈ voc := by
 intro g hg s hs
 obtain ⟨i,hi,rfl⟩ := List.getElem_of_mem hg
 refine h s ?_
 rw [F.atomL_eq,if_neg (by rintro ⟨h1,h2⟩; rcases hl with h | h; exact h h2; exact h h1)]
 have h1 := F.atomLs_take_s f.args i hi
 have h2 : ∀ (l : List F) (j : Nat),∀ x ∈ F.atomLs (l.take j),x ∈ F.atomLs l := by
  intro l
  induction l with
  | nil => intro j x hx; simpa using hx
  | cons a l ih =>
   intro j x hx
   cases j with
   | zero => simp [F.atomLs] at hx
   | succ j =>
    simp only [List.take_succ_cons,F.atomLs,List.mem_append] at hx ⊢
    exact hx.imp id (ih j x)
 exact h2 f.args (i + 1) s (by rw [h1]; simp [hs])
theorem models_run (voc : List (List UInt8)) (hv : vocOk voc = true) : ∀ (f : F),f.size < 1000000000 → good f = true → (∀ s ∈ F.atomL f,s ∈ voc) → run tb 58 (strsD voc :: rowF f) = some [bvD (modN voc f 64)] := by
 refine bySizeF fun f ih hs hg ha => ?_
 refine run_ir (x := ir58) rfl ?_
 have h6 := vocOk_len hv
 have hasc := (okNames_asc (vocOk_names hv)).1
 have hgn := good_named hg
 have hc := hgn.2
 rw [counted_eq] at hc
 have hla := F.sizes_len f.args
 have hse := F.size_eq f
 have hrun : ∀ i (hi : i < f.args.length),(f.op ≠ 3) → run tb 58 (strsD voc :: rowF f.args[i]) = some [bvD (modN voc f.args[i] 64)] := fun i hi ho =>
  ih _ (List.getElem_mem hi) (by have := F.size_arg f i hi; omega) (good_arg hg i hi) (sub_args (.inr ho) ha _ (List.getElem_mem hi))
 by_cases h1 : f.op = 1
 · have : modN voc f 64 = BitVec.allOnes 64 := by
    rw [← bits_all]; exact bits_congr (Nat.le_refl _) fun w _ => by rw [F.val_eq,valO]; simp [h1]
   rw [this]
   simp (disch := omega) only [ir58,rowF,stepQ,stepL,eq_self,aBin,reduceIte,Int.reduceEq,Int.reduceLT,Int.reduceLE,Int.reduceGT,Int.reduceGE,bvQ,wu,shl_norm,shr_norm,and1_norm,h1]
 by_cases h3 : f.op = 3
 · have h0 : f.args.length = 0 := by simpa [h3] using hc
   have hmem : f.name ∈ voc := ha _ (by rw [F.atomL_eq,if_pos ⟨h3,h0⟩]; simp)
   obtain ⟨i,hi,hn,hx⟩ := idxOf_at (k := 0) hmem
   rw [Nat.zero_add] at hx
   have hidx := index_run voc f.name (by omega)
   rw [hx] at hidx
   have htr := true_run i (by omega)
   have : modN voc f 64 = bitsTo (fun w => decide (w / 2 ^ i % 2 = 1)) 64 := bits_congr (Nat.le_refl _) fun w _ => by
    rw [F.val_eq,valO]
    simp only [h3,if_true,show ¬((3 : Int) = 1) by decide,if_false]
    have := yesN_mem hasc (w := w) hi
    rw [hn] at this
    cases hd : decide (w / 2 ^ i % 2 = 1) with
    | true => rw [decide_eq_true_eq] at hd; simpa using this.2 hd
    | false => rw [decide_eq_false_iff_not] at hd; simpa using fun h => hd (this.1 h)
   rw [this]
   simp (disch := omega) only [ir58,rowF,stepQ,stepL,eq_self,aBin,reduceIte,Int.reduceEq,Int.reduceLT,Int.reduceLE,Int.reduceGT,Int.reduceGE,bvQ,wu,shl_norm,shr_norm,and1_norm,h3,hidx,htr]
 by_cases h4 : f.op = 4
 · have hl1 : f.args.length = 1 := by simpa [h4] using hc
   have r0 := hrun 0 (by omega) h3
   have : modN voc f 64 = ~~~(modN voc (f.args[0]'(by omega)) 64) := by
    unfold modN
    rw [bits_not]
    exact bits_congr (Nat.le_refl _) fun w _ => by
     rw [F.val_eq,valO]
     simp [h4,show 0 < f.args.length by omega]
   rw [this]
   simp only [rowF] at r0
   simp (disch := omega) only [ir58,rowF,stepQ,stepL,eq_self,aBin,reduceIte,Int.reduceEq,Int.reduceLT,Int.reduceLE,Int.reduceGT,Int.reduceGE,bvQ,wu,shl_norm,shr_norm,and1_norm,h4,row_F0,r0]
 by_cases h7 : f.op = 7
 · have hl1 : f.args.length = 2 := by simpa [h7] using hc
   have r0 := hrun 0 (by omega) h3
   have r1 := hrun 1 (by omega) h3
   have : modN voc f 64 = ~~~(modN voc (f.args[0]'(by omega)) 64) ||| modN voc (f.args[1]'(by omega)) 64 := by
    unfold modN
    rw [bits_not,bits_or _ _ (Nat.le_refl _)]
    exact bits_congr (Nat.le_refl _) fun w _ => by
     rw [F.val_eq,valO]
     simp [h7,show 0 < f.args.length by omega,show 1 < f.args.length by omega]
     cases F.val (yesN voc w) (f.args[0]'(by omega)) <;> cases F.val (yesN voc w) (f.args[1]'(by omega)) <;> rfl
   rw [this]
   simp only [rowF] at r0 r1
   simp (disch := omega) only [ir58,rowF,stepQ,stepL,eq_self,aBin,reduceIte,Int.reduceEq,Int.reduceLT,Int.reduceLE,Int.reduceGT,Int.reduceGE,bvQ,wu,shl_norm,shr_norm,and1_norm,h7,row_F0,row_F1,r0,r1]
 by_cases h8 : f.op = 8
 · have hl1 : f.args.length = 2 := by simpa [h8] using hc
   have r0 := hrun 0 (by omega) h3
   have r1 := hrun 1 (by omega) h3
   have : modN voc f 64 = ~~~(modN voc (f.args[0]'(by omega)) 64 ^^^ modN voc (f.args[1]'(by omega)) 64) := by
    unfold modN
    rw [bits_xor _ _ (Nat.le_refl _),bits_not]
    exact bits_congr (Nat.le_refl _) fun w _ => by
     rw [F.val_eq,valO]
     simp [h8,show 0 < f.args.length by omega,show 1 < f.args.length by omega]
     cases F.val (yesN voc w) (f.args[0]'(by omega)) <;> cases F.val (yesN voc w) (f.args[1]'(by omega)) <;> rfl
   rw [this]
   simp only [rowF] at r0 r1
   simp (disch := omega) only [ir58,rowF,stepQ,stepL,eq_self,aBin,reduceIte,Int.reduceEq,Int.reduceLT,Int.reduceLE,Int.reduceGT,Int.reduceGE,bvQ,wu,shl_norm,shr_norm,and1_norm,h8,row_F0,row_F1,r0,r1]
 by_cases h5 : f.op = 5
 · simp (disch := omega) only [ir58,rowF,stepQ,stepL,eq_self,aBin,reduceIte,Int.reduceEq,Int.reduceLT,Int.reduceLE,Int.reduceGT,Int.reduceGE,bvQ,wu,shl_norm,shr_norm,and1_norm,h5,ev_lenL]
   have hm : modN voc f 64 = bitsTo (fun w => (f.args.take f.args.length).all (F.val (yesN voc w))) 64 := bits_congr (Nat.le_refl _) fun w _ => by
    rw [val_and _ _ h5,List.take_length]
   have h0 : BitVec.allOnes 64 = bitsTo (fun w => (f.args.take 0).all (F.val (yesN voc w))) 64 := by rw [← bits_all]; exact bits_congr (Nat.le_refl _) fun w _ => by simp
   rw [hm,h0]
   refine loop_k (σ := Unit) f.args.length (fun _ _ => True) (fun i _ => [bvD (bitsTo (fun w => (f.args.take i).all (F.val (yesN voc w))) 64),.int .i64 i]) (fun _ _ => [bvD (bitsTo (fun w => (f.args.take f.args.length).all (F.val (yesN voc w))) 64)]) ?_ ?_ 0 () (Nat.zero_le _) trivial
   · rintro i _ L hi _ hL
     have hnext := hL () trivial
     have r := hrun i hi h3
     have hst : bitsTo (fun w => (f.args.take (i + 1)).all (F.val (yesN voc w))) 64 = bitsTo (fun w => (f.args.take i).all (F.val (yesN voc w))) 64 &&& modN voc f.args[i] 64 := by
      unfold modN
      rw [bits_and _ _ (Nat.le_refl _)]
      exact bits_congr (Nat.le_refl _) fun w _ => all_take _ hi
     rw [hst] at hnext
     simp only [rowF] at r
     simp (disch := omega) only [ir58p0,stepQ,stepL,eq_self,aBin,reduceIte,Int.reduceEq,Int.reduceLT,Int.reduceLE,Int.reduceGT,Int.reduceGE,bvQ,wu,shl_norm,shr_norm,and1_norm,hi,row_F,r,wr,natS,hnext]
   · rintro _ L _
     simp (disch := omega) only [ir58p0,stepQ,stepL,eq_self,aBin,reduceIte,Int.reduceEq,Int.reduceLT,Int.reduceLE,Int.reduceGT,Int.reduceGE,Nat.lt_irrefl]
 · have h26 : f.op = 2 ∨ f.op = 6 := by
    by_cases h2 : f.op = 2
    · exact .inl h2
    · by_cases h6 : f.op = 6
      · exact .inr h6
      · simp [h1,h2,h3,h4,h5,h6,h7,h8] at hc
   simp (disch := omega) only [ir58,rowF,stepQ,stepL,eq_self,aBin,reduceIte,Int.reduceEq,Int.reduceLT,Int.reduceLE,Int.reduceGT,Int.reduceGE,bvQ,wu,shl_norm,shr_norm,and1_norm,h1,h3,h4,h5,h7,h8,ev_lenL]
   have hm : modN voc f 64 = bitsTo (fun w => (f.args.take f.args.length).any (F.val (yesN voc w))) 64 := bits_congr (Nat.le_refl _) fun w _ => by
    rw [List.take_length]
    rcases h26 with h2 | h6
    · have h0 : f.args.length = 0 := by simpa [h2] using hc
      rw [List.eq_nil_of_length_eq_zero h0,F.val_eq,valO]
      simp [h2]
    · rw [val_or _ _ h6]
   have h0 : 0#64 = bitsTo (fun w => (f.args.take 0).any (F.val (yesN voc w))) 64 := by rw [← bits_none]; exact bits_congr (Nat.le_refl _) fun w _ => by simp
   rw [hm,h0]
   refine loop_k (σ := Unit) f.args.length (fun _ _ => True) (fun i _ => [bvD (bitsTo (fun w => (f.args.take i).any (F.val (yesN voc w))) 64),.int .i64 i]) (fun _ _ => [bvD (bitsTo (fun w => (f.args.take f.args.length).any (F.val (yesN voc w))) 64)]) ?_ ?_ 0 () (Nat.zero_le _) trivial
   · rintro i _ L hi _ hL
     have hnext := hL () trivial
     have r := hrun i hi h3
     have hst : bitsTo (fun w => (f.args.take (i + 1)).any (F.val (yesN voc w))) 64 = bitsTo (fun w => (f.args.take i).any (F.val (yesN voc w))) 64 ||| modN voc f.args[i] 64 := by
      unfold modN
      rw [bits_or _ _ (Nat.le_refl _)]
      exact bits_congr (Nat.le_refl _) fun w _ => any_take _ hi
     rw [hst] at hnext
     simp only [rowF] at r
     simp (disch := omega) only [ir58p1,stepQ,stepL,eq_self,aBin,reduceIte,Int.reduceEq,Int.reduceLT,Int.reduceLE,Int.reduceGT,Int.reduceGE,bvQ,wu,shl_norm,shr_norm,and1_norm,hi,row_F,r,wr,natS,hnext]
   · rintro _ L _
     simp (disch := omega) only [ir58p1,stepQ,stepL,eq_self,aBin,reduceIte,Int.reduceEq,Int.reduceLT,Int.reduceLE,Int.reduceGT,Int.reduceGE,Nat.lt_irrefl]
end Go.Proofs.YtojkhlijbpmgpaaGreat

namespace Go.Proofs.YtojkhlijbpmgpaaGreat
open Go Am
set_option maxRecDepth 100000
theorem atomsX_run (f : F) (hs : f.size < 10000000000) (hd : f.depth < 1000) : run tb 56 (rowF f) = some [strsD (canon (F.atomL f))] := run_ext rfl (atomsE_run f hs hd)
theorem modelsW_run (voc : List (List UInt8)) (f : F) (hv : voc.length < 1000000000) (hf : f.size < 1000000000) : run tb 27 (strsD voc :: rowF f) = some [bvD (modelsS voc f),.int .i64 (modelsE voc f)] := by
 refine run_ir (x := ir27) rfl ?_
 have h1 := valid_run voc hv
 have h2 := validate18_run f hf
 unfold modelsS
 simp only [rowF] at h2
 cases hvo : vocOk voc with
 | false =>
  rw [hvo] at h1
  have he : modelsE voc f = 1 := by simp [modelsE,hvo]
  rw [he]
  simp (disch := omega) only [ir27,rowF,stepQ,stepL,eq_self,aBin,reduceIte,Int.reduceEq,Int.reduceLT,Int.reduceLE,Int.reduceGT,Int.reduceGE,bvQ,wu,shl_norm,shr_norm,and1_norm,h1,Int.reduceEq,if_false]
 | true =>
  rw [hvo] at h1
  by_cases hva : validate f = 0
  · obtain ⟨g1,g2,g3⟩ := validate_zero hva
    have h3 := atomsX_run f (by omega) (by omega)
    rw [hva] at h2
    simp only [rowF] at h3
    have he : modelsE voc f = if atomsIn voc f = false then 6 else 0 := by simp [modelsE,hvo,hva]
    have hcl : (canon (F.atomL f)).length < 1000000000 := by
     have a1 := F.atomL_len f
     have a2 : (canon (F.atomL f)).length ≤ (F.atomL f).length := nodup_le ((canon_asc _).imp fun h e => by subst e; exact List.lt_irrefl _ h) fun x hx => (canon_mem _ x).1 hx
     omega
    simp (disch := omega) only [ir27,rowF,stepQ,stepL,eq_self,aBin,reduceIte,Int.reduceEq,Int.reduceLT,Int.reduceLE,Int.reduceGT,Int.reduceGE,bvQ,wu,shl_norm,shr_norm,and1_norm,h1,h2,h3,ibne,len_S]
    rw [he]
    unfold atomsIn
    have hmods : (canon (F.atomL f)).all (fun s => voc.contains s) = true → run tb 58 (strsD voc :: rowF f) = some [bvD (modN voc f 64)] := fun ha => models_run voc hvo f hf g3 fun s hs => by
     have := List.all_eq_true.1 ha s ((canon_mem _ s).2 hs)
     simpa using this
    generalize canon (F.atomL f) = az at *
    have hd0 : az.all (fun s => voc.contains s) = (az.drop 0).all fun s => voc.contains s := by simp
    rw [hd0]
    refine loop_k (σ := Unit) az.length (fun i _ => (az.take i).all (fun s => voc.contains s) = true) (fun i _ => [.int .i64 i]) (fun i _ => [bvD (if (if ((az.drop i).all fun s => voc.contains s) = false then (6 : Int) else 0) = 0 then modN voc f (2 ^ voc.length) else 0#64),.int .i64 (if ((az.drop i).all fun s => voc.contains s) = false then 6 else 0)]) ?_ ?_ 0 () (Nat.zero_le _) rfl
    · rintro i _ L hi hp hL
      have hc := contains_run voc az[i] (by omega)
      rw [drop_s hi,List.all_cons]
      cases hcc : voc.contains az[i] with
      | false =>
       rw [hcc] at hc
       simp (disch := omega) only [ir27p0,stepQ,stepL,eq_self,aBin,reduceIte,Int.reduceEq,Int.reduceLT,Int.reduceLE,Int.reduceGT,Int.reduceGE,bvQ,wu,shl_norm,shr_norm,and1_norm,hi,row_S,hc,Bool.false_and,if_true,Int.reduceEq,if_false]
      | true =>
       rw [hcc] at hc
       have hnext := hL () (by rw [List.take_add_one,List.getElem?_eq_getElem hi]; simp only [Option.toList_some,List.all_append,List.all_cons,List.all_nil,Bool.and_true,hp,hcc])
       simp (disch := omega) only [ir27p0,stepQ,stepL,eq_self,aBin,reduceIte,Int.reduceEq,Int.reduceLT,Int.reduceLE,Int.reduceGT,Int.reduceGE,hi,row_S,hc,Bool.true_and,wr,natS,hnext]
    · rintro _ L hp
      rw [List.take_length] at hp
      have hm := hmods hp
      have ha := all_run voc hv
      have hal : allS voc = bitsTo (fun _ => true) (2 ^ voc.length) := by unfold allS; rw [if_pos hvo]
      have hcut : modN voc f 64 &&& allS voc = modN voc f (2 ^ voc.length) := by rw [hal]; exact bits_cut _ (pow6 (vocOk_len hvo))
      simp only [rowF] at hm
      rw [List.drop_length]
      simp (disch := omega) only [ir27p0,stepQ,stepL,eq_self,aBin,reduceIte,Int.reduceEq,Int.reduceLT,Int.reduceLE,Int.reduceGT,Int.reduceGE,bvQ,wu,shl_norm,shr_norm,and1_norm,Nat.lt_irrefl,hm,ha,hcut,List.all_nil,Bool.true_eq_false,if_false,if_true]
  · have he : modelsE voc f = validate f := by simp [modelsE,hvo,hva]
    rw [he,if_neg hva]
    simp (disch := omega) only [ir27,rowF,stepQ,stepL,eq_self,aBin,reduceIte,Int.reduceEq,Int.reduceLT,Int.reduceLE,Int.reduceGT,Int.reduceGE,bvQ,wu,shl_norm,shr_norm,and1_norm,h1,h2,ibne,hva]
theorem idxOf_lt (s : List UInt8) (l : List (List UInt8)) : decide (idxOf s 0 l < 0) = !l.contains s := by
 have := idxOf_ge s l 0
 cases h : l.contains s with
 | true => rw [h] at this; simp at this; simp; omega
 | false => rw [h] at this; simp at this; simp; omega
theorem modelsR_run (voc : List (List UInt8)) (f : F) (hv : voc.length < 1000000000) (hs : ∀ s ∈ voc,s.length < 9223372036854775808) (hf : f.size < 1000000000) (hb : F.allF nameB f = true) :
 run tb 44 (strsD voc :: rowF f) = some [bvD (modelsS voc f),.int .i64 (modelsE voc f)] := by
 refine run_ir (x := ir44) rfl ?_
 have h1 := valid3_run voc hv hs
 have h2 := validate19_run f hf hb
 unfold modelsS
 simp only [rowF] at h2
 cases hvo : vocOk voc with
 | false =>
  rw [hvo] at h1
  have he : modelsE voc f = 1 := by simp [modelsE,hvo]
  rw [he]
  simp (disch := omega) only [ir44,rowF,stepQ,stepL,eq_self,aBin,reduceIte,Int.reduceEq,Int.reduceLT,Int.reduceLE,Int.reduceGT,Int.reduceGE,bvQ,wu,shl_norm,shr_norm,and1_norm,h1,Int.reduceEq,if_false]
 | true =>
  rw [hvo] at h1
  by_cases hva : validate f = 0
  · obtain ⟨g1,g2,g3⟩ := validate_zero hva
    have h3 := atoms31_run f hf
    rw [hva] at h2
    simp only [rowF] at h3
    have he : modelsE voc f = if atomsIn voc f = false then 6 else 0 := by simp [modelsE,hvo,hva]
    have hcl : (canon (F.atomL f)).length < 1000000000 := by
     have a1 := F.atomL_len f
     have a2 : (canon (F.atomL f)).length ≤ (F.atomL f).length := nodup_le ((canon_asc _).imp fun h e => by subst e; exact List.lt_irrefl _ h) fun x hx => (canon_mem _ x).1 hx
     omega
    have h6 := vocOk_len hvo
    have hp6 := pow6 h6
    have hcnt := count_run voc (by omega)
    simp (disch := omega) only [ir44,rowF,stepQ,stepL,eq_self,aBin,reduceIte,Int.reduceEq,Int.reduceLT,Int.reduceLE,Int.reduceGT,Int.reduceGE,bvQ,wu,shl_norm,shr_norm,and1_norm,h1,h2,h3,ibne]
    rw [he]
    unfold atomsIn
    generalize canon (F.atomL f) = az at *
    have hd0 : az.all (fun s => voc.contains s) = (az.drop 0).all fun s => voc.contains s := by simp
    rw [hd0]
    refine loop_k (σ := Unit) az.length (fun i _ => True) (fun i _ => [.int .i64 i]) (fun i _ => [bvD (if (if ((az.drop i).all fun s => voc.contains s) = false then (6 : Int) else 0) = 0 then modN voc f (2 ^ voc.length) else 0#64),.int .i64 (if ((az.drop i).all fun s => voc.contains s) = false then 6 else 0)]) ?_ ?_ 0 () (Nat.zero_le _) trivial
    · rintro i _ L hi hp hL
      have hc := index3_run voc az[i] hv
      have hlt := idxOf_lt az[i] voc
      rw [drop_s hi,List.all_cons]
      cases hcc : voc.contains az[i] with
      | false =>
       rw [hcc] at hlt
       simp (disch := omega) only [ir44p2,stepQ,stepL,eq_self,aBin,reduceIte,Int.reduceEq,Int.reduceLT,Int.reduceLE,Int.reduceGT,Int.reduceGE,bvQ,wu,shl_norm,shr_norm,and1_norm,len_S,hi,row_S,hc,hlt,Bool.false_and,if_true,Int.reduceEq,if_false]
      | true =>
       rw [hcc] at hlt
       have hnext := hL () trivial
       simp (disch := omega) only [ir44p2,stepQ,stepL,eq_self,aBin,reduceIte,Int.reduceEq,Int.reduceLT,Int.reduceLE,Int.reduceGT,Int.reduceGE,len_S,hi,row_S,hc,hlt,Bool.true_and,wr,natS,hnext]
    · rintro _ L hp
      rw [List.drop_length]
      simp (disch := omega) only [ir44p2,stepQ,stepL,eq_self,aBin,reduceIte,Int.reduceEq,Int.reduceLT,Int.reduceLE,Int.reduceGT,Int.reduceGE,bvQ,wu,shl_norm,shr_norm,and1_norm,len_S,Nat.lt_irrefl,List.all_nil,Bool.true_eq_false,if_false,if_true]
      have hev : ∀ w,w < 2 ^ voc.length → run tb 73 (rowF f ++ [strsD (yesN voc w)]) = some [.bool (F.val (yesN voc w) f)] := fun w hw => by
       have := eval32_run (yesN voc w) (by have := yesN_len voc w; omega) f hf hb
       rw [g3,Bool.true_and] at this
       exact this
      have hye : ∀ w : Nat,w < 2 ^ voc.length → run tb 72 [strsD voc,.int .i64 w] = some [strsD (yesN voc w)] := fun w hw => yes_run voc w (by omega) (by omega)
      unfold modN
      generalize 2 ^ voc.length = N at *
      refine loop_k (σ := Unit) N (fun i _ => True) (fun w _ => [bvD (bitsTo (fun w => F.val (yesN voc w) f) w),.int .i64 w]) (fun i _ => [bvD (bitsTo (fun w => F.val (yesN voc w) f) N),.int .i64 0]) ?_ ?_ 0 () (Nat.zero_le _) trivial
      · rintro w _ M hw _ hM
        have hnext := hM () trivial
        have e1 := hev w hw
        have y1 := hye w hw
        simp only [rowF,List.cons_append,List.nil_append] at e1
        cases hval : F.val (yesN voc w) f with
        | true =>
         rw [hval] at e1
         rw [← bits_s1 hval] at hnext
         simp (disch := omega) only [ir44p1,ir44p0,stepQ,stepL,eq_self,aBin,reduceIte,Int.reduceEq,Int.reduceLT,Int.reduceLE,Int.reduceGT,Int.reduceGE,bvQ,wu,shl_norm,shr_norm,and1_norm,hcnt,hw,y1,e1,wr,natS,hnext]
        | false =>
         rw [hval] at e1
         rw [← bits_s0 hval] at hnext
         simp (disch := omega) only [ir44p1,ir44p0,stepQ,stepL,eq_self,aBin,reduceIte,Int.reduceEq,Int.reduceLT,Int.reduceLE,Int.reduceGT,Int.reduceGE,bvQ,wu,shl_norm,shr_norm,and1_norm,hcnt,hw,y1,e1,wr,natS,hnext]
      · rintro _ M _
        simp (disch := omega) only [ir44p1,stepQ,stepL,eq_self,aBin,reduceIte,Int.reduceEq,Int.reduceLT,Int.reduceLE,Int.reduceGT,Int.reduceGE,hcnt,Nat.lt_irrefl]
  · have he : modelsE voc f = validate f := by simp [modelsE,hvo,hva]
    rw [he,if_neg hva]
    simp (disch := omega) only [ir44,rowF,stepQ,stepL,eq_self,aBin,reduceIte,Int.reduceEq,Int.reduceLT,Int.reduceLE,Int.reduceGT,Int.reduceGE,bvQ,wu,shl_norm,shr_norm,and1_norm,h1,h2,ibne,hva]
end Go.Proofs.YtojkhlijbpmgpaaGreat

namespace Go.Proofs.YtojkhlijbpmgpaaGreat
open Go Am
set_option maxRecDepth 100000
theorem has3_run (x : BitVec 64) (w : Nat) (h : w < 9223372036854775808) : run tb 104 [bvD x,.int .i64 w] = some [.bool (x.getLsbD w)] := by
 refine run_ir (x := ir104) rfl ?_
 simp (disch := omega) only [ir104,stepQ,stepL,eq_self,aBin,reduceIte,Int.reduceEq,Int.reduceLT,Int.reduceLE,Int.reduceGT,Int.reduceGE,bvQ,wu,shl_norm,shr_norm,and1_norm]
theorem pair_run (o : Int) (f g : F) : run tb 93 (.int .i64 o :: rowF f ++ rowF g) = some (rowF (pr o f g)) := by
 refine run_ir (x := ir93) rfl ?_
 simp only [ir93,rowF,stepQ,stepL,eq_self,aBin,reduceIte,Int.reduceEq,Int.reduceLT,Int.reduceLE,Int.reduceGT,Int.reduceGE,ev_mk32]
 simp [pr,F.op_mk,F.name_mk,F.args_mk,F.encs,F.enc_eq]
theorem half_run (voc : List (List UInt8)) (hv : voc.length ≤ 6) (S : BitVec 64) (b : Nat) (hb : b < 2) : run tb 91 [strsD voc,bvD S,.int .i64 b] = some [bvD (hf S b (2 ^ voc.length))] := by
 refine run_ir (x := ir91) rfl ?_
 have hc := count_run voc (by omega)
 have hp := pow6 hv
 simp (disch := omega) only [ir91,stepQ,stepL,eq_self,aBin,reduceIte,Int.reduceEq,Int.reduceLT,Int.reduceLE,Int.reduceGT,Int.reduceGE,bvQ,wu,shl_norm,shr_norm,and1_norm]
 have h0 := hf_zero S b
 rw [← h0]
 generalize 2 ^ voc.length = N at *
 refine loop_k (σ := Unit) N (fun _ _ => True) (fun i _ => [bvD (hf S b i),.int .i64 i]) (fun _ _ => [bvD (hf S b N)]) ?_ ?_ 0 () (Nat.zero_le _) trivial
 · rintro i _ L hi _ hL
   have hnext := hL () trivial
   have hh := has3_run S i (by omega)
   cases hs : S.getLsbD i with
   | false =>
    rw [hs] at hh
    rw [hf_step0 hb (.inl hs)] at hnext
    simp (disch := omega) only [ir91p2,ir91p1,ir91p0,stepQ,stepL,eq_self,aBin,reduceIte,Int.reduceEq,Int.reduceLT,Int.reduceLE,Int.reduceGT,Int.reduceGE,bvQ,wu,shl_norm,shr_norm,and1_norm,hc,hi,hh,wr,natS,hnext]
   | true =>
    rw [hs] at hh
    by_cases h2 : i % 2 = b
    · rw [← hf_step1 hb (by omega) hs h2] at hnext
      have hs2 : PO.eval (.bin .shr false) [.int .i64 (i : Int),bvD 1#64] = some [.int .i64 ((i / 2 : Nat) : Int)] := by
       have h := int_shr false .u64 i 1 (by omega)
       rw [Nat.pow_one] at h
       exact h
      simp (disch := omega) only [ir91p2,ir91p1,ir91p0,stepQ,stepL,eq_self,aBin,reduceIte,Int.reduceEq,Int.reduceLT,Int.reduceLE,Int.reduceGT,Int.reduceGE,bvQ,wu,shl_norm,shr_norm,and1_norm,hc,hi,hh,h2,hs2,wr,natS,hnext]
    · have h2' : ¬ ((i % 2 : Nat) : Int) = (b : Int) := by omega
      rw [hf_step0 hb (.inr h2)] at hnext
      simp (disch := omega) only [ir91p2,ir91p1,ir91p0,stepQ,stepL,eq_self,aBin,reduceIte,Int.reduceEq,Int.reduceLT,Int.reduceLE,Int.reduceGT,Int.reduceGE,bvQ,wu,shl_norm,shr_norm,and1_norm,hc,hi,hh,h2,h2',wr,natS,hnext]
 · rintro _ L _
   simp (disch := omega) only [ir91p2,stepQ,stepL,eq_self,aBin,reduceIte,Int.reduceEq,Int.reduceLT,Int.reduceLE,Int.reduceGT,Int.reduceGE,hc,Nat.lt_irrefl]
theorem theory_run : ∀ (voc : List (List UInt8)),okNames voc = true → voc.length ≤ 6 → ∀ S : BitVec 64,run tb 67 [strsD voc,bvD S] = some (rowF (thy voc S))
 | [],h,_,S => by
  refine run_ir (x := ir67) rfl ?_
  have ha := all3_run [] (by simp) (by simp)
  have hal : allS [] = bitsTo (fun _ => true) (2 ^ 0) := rfl
  rw [hal] at ha
  unfold thy
  by_cases h1 : S &&& bitsTo (fun _ => true) (2 ^ 0) = 0#64
  · rw [if_pos h1]
    simp (disch := omega) only [ir67,rowF,stepQ,stepL,eq_self,aBin,reduceIte,Int.reduceEq,Int.reduceLT,Int.reduceLE,Int.reduceGT,Int.reduceGE,bvQ,wu,shl_norm,shr_norm,and1_norm,ha,h1,F.op_mk,F.name_mk,F.args_mk,F.encs]
  · have h2 : S &&& bitsTo (fun _ => true) (2 ^ 0) = bitsTo (fun _ => true) (2 ^ 0) := by
     refine bv_ext fun w hw => ?_
     rw [BitVec.getLsbD_and,bitsTo_get _ _ _ (by decide)]
     by_cases hw0 : w = 0
     · subst hw0
       cases hs : S.getLsbD 0 with
       | true => rfl
       | false =>
        refine absurd (bv_ext fun v hv => ?_) h1
        rw [BitVec.getLsbD_and,bitsTo_get _ _ _ (by decide)]
        by_cases hv0 : v = 0
        · subst hv0; rw [hs]; simp
        · simp [hv0]
     · simp [hw0]
    rw [if_neg h1]
    clear hal
    generalize bitsTo (fun _ => true) (2 ^ 0) = A at *
    rw [h2] at h1
    simp (disch := omega) only [ir67,rowF,stepQ,stepL,eq_self,aBin,reduceIte,Int.reduceEq,Int.reduceLT,Int.reduceLE,Int.reduceGT,Int.reduceGE,bvQ,wu,shl_norm,shr_norm,and1_norm,ha,h1,h2,F.op_mk,F.name_mk,F.args_mk,F.encs]
 | a :: l,h,h6,S => by
  refine run_ir (x := ir67) rfl ?_
  have hsh : ∀ s ∈ a :: l,s.length < 9223372036854775808 := fun s hs => by have := validName_le' ((okNames_asc h).2 s hs); omega
  have ha := all3_run (a :: l) (by omega) hsh
  have hvo : vocOk (a :: l) = true := by simp only [vocOk,h,Bool.and_true,decide_eq_true_eq]; exact h6
  have hal : allS (a :: l) = bitsTo (fun _ => true) (2 ^ (l.length + 1)) := by unfold allS; rw [if_pos hvo]; rfl
  rw [hal] at ha
  have hl := okNames_tail h
  have h6' : l.length ≤ 6 := by simp only [List.length_cons] at h6; omega
  have k1 := half_run (a :: l) h6 S 1 (by omega)
  have k0 := half_run (a :: l) h6 S 0 (by omega)
  have r1 := theory_run l hl h6' (hf S 1 (2 ^ (l.length + 1)))
  have r0 := theory_run l hl h6' (hf S 0 (2 ^ (l.length + 1)))
  have s1 := (thy_ok hl (hf S 1 (2 ^ (l.length + 1)))).2.1
  have s0 := (thy_ok hl (hf S 0 (2 ^ (l.length + 1)))).2.1
  have hpl := pow6 h6'
  have hsame := same22_run (thy l (hf S 1 (2 ^ (l.length + 1)))) (thy l (hf S 0 (2 ^ (l.length + 1)))) (by omega) (by omega)
  have hrow : PO.eval (.row 1) [strsD (a :: l),.int .i64 0] = some [.str a] := row_S (l := a :: l) (i := 0) (by simp)
  have hsub : PO.eval (.subL 1) [strsD (a :: l),.int .i64 1,.int .i64 ((a :: l).length : Nat)] = some [strsD l] := by
   have := sub_Sd (l := a :: l) (a := 1) (by simp)
   simpa using this
  have hp : ∀ (o : Int) (f g : F),run tb 93 [.int .i64 o,.int .i64 f.op,.str f.name,.sl (F.encs f.args),.int .i64 g.op,.str g.name,.sl (F.encs g.args)] = some (rowF (pr o f g)) := pair_run
  have hpa : ∀ (o : Int) (g : F),run tb 93 [.int .i64 o,.int .i64 3,.str a,.sl [],.int .i64 g.op,.str g.name,.sl (F.encs g.args)] = some (rowF (pr o (atF a) g)) := fun o g => pair_run o (atF a) g
  have hpn : ∀ (o : Int) (g : F),run tb 93 [.int .i64 o,.int .i64 4,.str [],.sl [[.int .i64 3,.str a,.sl []]],.int .i64 g.op,.str g.name,.sl (F.encs g.args)] = some (rowF (pr o (noF1 a) g)) := fun o g => pair_run o (noF1 a) g
  have ea : rowF (atF a) = [.int .i64 3,.str a,.sl []] := rfl
  have en : rowF (noF1 a) = [.int .i64 4,.str [],.sl [[.int .i64 3,.str a,.sl []]]] := rfl
  unfold thy
  have hlen : (a :: l).length = l.length + 1 := rfl
  rw [hlen] at k1 k0
  by_cases h1 : S &&& bitsTo (fun _ => true) (2 ^ (l.length + 1)) = 0#64
  · rw [if_pos h1]
    simp (disch := omega) only [ir67,rowF,stepQ,stepL,eq_self,aBin,reduceIte,Int.reduceEq,Int.reduceLT,Int.reduceLE,Int.reduceGT,Int.reduceGE,bvQ,wu,shl_norm,shr_norm,and1_norm,ha,h1,F.op_mk,F.name_mk,F.args_mk,F.encs]
  rw [if_neg h1]
  by_cases h2 : S &&& bitsTo (fun _ => true) (2 ^ (l.length + 1)) = bitsTo (fun _ => true) (2 ^ (l.length + 1))
  · rw [if_pos h2]
    rw [h2] at h1
    simp (disch := omega) only [ir67,rowF,stepQ,stepL,eq_self,aBin,reduceIte,Int.reduceEq,Int.reduceLT,Int.reduceLE,Int.reduceGT,Int.reduceGE,bvQ,wu,shl_norm,shr_norm,and1_norm,ha,h1,h2,F.op_mk,F.name_mk,F.args_mk,F.encs]
  rw [if_neg h2]
  simp only [Int.cast_ofNat_Int,nat0] at k1 k0
  generalize thy l (hf S 1 (2 ^ (l.length + 1))) = t at *
  generalize thy l (hf S 0 (2 ^ (l.length + 1))) = f at *
  generalize hf S 1 (2 ^ (l.length + 1)) = S1 at *
  generalize hf S 0 (2 ^ (l.length + 1)) = S0 at *
  generalize bitsTo (fun _ => true) (2 ^ (l.length + 1)) = A at *
  simp only [rowF,List.cons_append,List.nil_append] at hsame r1 r0 hp hpa hpn
  unfold joinF
  by_cases b1 : F.beq t f = true
  · rw [if_pos b1]
    rw [b1] at hsame
    simp (disch := omega) only [ir67,ir67p1,ir67p0,rowF,stepQ,stepL,eq_self,aBin,reduceIte,Int.reduceEq,Int.reduceLT,Int.reduceLE,Int.reduceGT,Int.reduceGE,bvQ,wu,shl_norm,shr_norm,and1_norm,ha,h1,h2,hrow,len_S,hsub,k1,k0,r1,r0,hsame]
  have b1' : F.beq t f = false := by simpa using b1
  rw [if_neg b1]
  rw [b1'] at hsame
  by_cases t1 : t.op = 1
  · by_cases f2 : f.op = 2
    · rw [if_pos ⟨t1,f2⟩,ea]
      rw [t1] at r1 hsame
      rw [f2] at r0 hsame
      simp (disch := omega) only [ir67,ir67p1,ir67p0,stepQ,stepL,eq_self,aBin,reduceIte,Int.reduceEq,Int.reduceLT,Int.reduceLE,Int.reduceGT,Int.reduceGE,bvQ,wu,shl_norm,shr_norm,and1_norm,ha,h1,h2,hrow,len_S,hsub,k1,k0,r1,r0,hsame]
    · rw [if_neg (by rintro ⟨_,h⟩; exact f2 h),if_pos t1]
      rw [t1] at r1 hsame
      simp (disch := omega) only [ir67,ir67p1,ir67p0,rowF,stepQ,stepL,eq_self,aBin,reduceIte,Int.reduceEq,Int.reduceLT,Int.reduceLE,Int.reduceGT,Int.reduceGE,bvQ,wu,shl_norm,shr_norm,and1_norm,ha,h1,h2,hrow,len_S,hsub,k1,k0,r1,r0,hsame,f2,hpa]
  rw [if_neg (by rintro ⟨h,_⟩; exact t1 h),if_neg t1]
  by_cases t2 : t.op = 2
  · by_cases f1 : f.op = 1
    · rw [if_pos ⟨t2,f1⟩,en]
      rw [t2] at r1 hsame
      rw [f1] at r0 hsame
      simp (disch := omega) only [ir67,ir67p1,ir67p0,stepQ,stepL,eq_self,aBin,reduceIte,Int.reduceEq,Int.reduceLT,Int.reduceLE,Int.reduceGT,Int.reduceGE,bvQ,wu,shl_norm,shr_norm,and1_norm,ha,h1,h2,hrow,len_S,hsub,k1,k0,r1,r0,hsame]
    · rw [if_neg (by rintro ⟨_,h⟩; exact f1 h),if_pos t2]
      rw [t2] at r1 hsame
      simp (disch := omega) only [ir67,ir67p1,ir67p0,rowF,stepQ,stepL,eq_self,aBin,reduceIte,Int.reduceEq,Int.reduceLT,Int.reduceLE,Int.reduceGT,Int.reduceGE,bvQ,wu,shl_norm,shr_norm,and1_norm,ha,h1,h2,hrow,len_S,hsub,k1,k0,r1,r0,hsame,f1,hpn]
  rw [if_neg (by rintro ⟨h,_⟩; exact t2 h),if_neg t2]
  by_cases f1 : f.op = 1
  · rw [if_pos f1]
    rw [f1] at r0 hsame
    simp (disch := omega) only [ir67,ir67p1,ir67p0,rowF,stepQ,stepL,eq_self,aBin,reduceIte,Int.reduceEq,Int.reduceLT,Int.reduceLE,Int.reduceGT,Int.reduceGE,bvQ,wu,shl_norm,shr_norm,and1_norm,ha,h1,h2,hrow,len_S,hsub,k1,k0,r1,r0,hsame,t1,t2,hpn]
  rw [if_neg f1]
  by_cases f2 : f.op = 2
  · rw [if_pos f2]
    rw [f2] at r0 hsame
    simp (disch := omega) only [ir67,ir67p1,ir67p0,rowF,stepQ,stepL,eq_self,aBin,reduceIte,Int.reduceEq,Int.reduceLT,Int.reduceLE,Int.reduceGT,Int.reduceGE,bvQ,wu,shl_norm,shr_norm,and1_norm,ha,h1,h2,hrow,len_S,hsub,k1,k0,r1,r0,hsame,t1,t2,hpa]
  · rw [if_neg f2]
    simp (disch := omega) only [ir67,ir67p1,ir67p0,rowF,stepQ,stepL,eq_self,aBin,reduceIte,Int.reduceEq,Int.reduceLT,Int.reduceLE,Int.reduceGT,Int.reduceGE,bvQ,wu,shl_norm,shr_norm,and1_norm,ha,h1,h2,hrow,len_S,hsub,k1,k0,r1,r0,hsame,t1,t2,f1,f2,hpa,hpn,hp]
theorem theoryT_run (voc : List (List UInt8)) (hv : vocOk voc = true) (S : BitVec 64) : run tb 41 [strsD voc,bvD S] = some (rowF (thy voc S) ++ [.int .i64 0]) := by
 refine run_ir (x := ir41) rfl ?_
 have h1 := valid3_run voc (by have := vocOk_len hv; omega) (fun s hs => by have := validName_le' ((okNames_asc (vocOk_names hv)).2 s hs); omega)
 have h2 := theory_run voc (vocOk_names hv) (vocOk_len hv) S
 rw [hv] at h1
 simp only [rowF] at h2
 simp (disch := omega) only [ir41,rowF,stepQ,stepL,eq_self,aBin,reduceIte,Int.reduceEq,Int.reduceLT,Int.reduceLE,Int.reduceGT,Int.reduceGE,h1,h2]
end Go.Proofs.YtojkhlijbpmgpaaGreat

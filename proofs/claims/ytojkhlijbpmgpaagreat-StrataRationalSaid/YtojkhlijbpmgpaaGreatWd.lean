/- What functions of the program compute: lemmas. -/
import Derived.Test.YtojkhlijbpmgpaaGreatLb1
import Derived.Test.YtojkhlijbpmgpaaGreatAm5
import Derived.Test.YtojkhlijbpmgpaaGreatAm6
set_option linter.unusedSimpArgs false
set_option linter.unusedVariables false
set_option linter.unusedSectionVars false
namespace Go.Proofs.YtojkhlijbpmgpaaGreat
open Go Am
set_option maxRecDepth 100000
theorem bits_s1 {p : Nat → Bool} {w : Nat} (h : p w = true) : bitsTo p w ||| 1#64 <<< w = bitsTo p (w + 1) := by simp only [bitsTo,h,if_true]
theorem bits_s0 {p : Nat → Bool} {w : Nat} (h : p w = false) : bitsTo p w = bitsTo p (w + 1) := by simp [bitsTo,h]
theorem true_run (i : Nat) (hi : i < 64) : run tb 46 [.int .i64 i] = some [bvD (bitsTo (fun w => decide (w / 2 ^ i % 2 = 1)) 64)] := by
 refine run_ir (x := ir46) rfl ?_
 simp (disch := omega) only [ir46,stepQ,stepL,eq_self,aBin,reduceIte,Int.reduceEq,Int.reduceLT,Int.reduceLE,Int.reduceGT,Int.reduceGE,bvQ,wu,shl_norm,shr_norm,and1_norm]
 refine loop_k (σ := Unit) 64 (fun _ _ => True) (fun w _ => [bvD (bitsTo (fun w => decide (w / 2 ^ i % 2 = 1)) w),.int .i64 w]) (fun _ _ => [bvD (bitsTo (fun w => decide (w / 2 ^ i % 2 = 1)) 64)]) ?_ ?_ 0 () (Nat.zero_le _) trivial
 · rintro w _ L hw _ hL
   have hnext := hL () trivial
   have hw' : (w : Int) < 64 := by omega
   have h2 : w / 2 ^ i ≤ w := Nat.div_le_self ..
   rcases Nat.mod_two_eq_zero_or_one (w / 2 ^ i) with hb | hb
   · have hb' : ((w / 2 ^ i % 2 : Nat) : Int) = 0 := by omega
     rw [← bits_s0 (by simp [hb])] at hnext
     simp (disch := omega) only [ir46p0,stepQ,stepL,eq_self,aBin,reduceIte,Int.reduceEq,Int.reduceLT,Int.reduceLE,Int.reduceGT,Int.reduceGE,bvQ,wu,shl_norm,shr_norm,and1_norm,hw',wr,natS,hb',BitVec.zero_shiftLeft,BitVec.or_zero,hnext]
   · have hb' : ((w / 2 ^ i % 2 : Nat) : Int) = 1 := by omega
     rw [← bits_s1 (by simp [hb])] at hnext
     simp (disch := omega) only [ir46p0,stepQ,stepL,eq_self,aBin,reduceIte,Int.reduceEq,Int.reduceLT,Int.reduceLE,Int.reduceGT,Int.reduceGE,bvQ,wu,shl_norm,shr_norm,and1_norm,hw',wr,natS,hb',hnext]
 · rintro _ L _
   simp (disch := omega) only [ir46p0,stepQ,stepL,eq_self,aBin,reduceIte,Int.reduceEq,Int.reduceLT,Int.reduceLE,Int.reduceGT,Int.reduceGE,bvQ,wu,shl_norm,shr_norm,and1_norm]
theorem whole_run (n : Nat) (hn : n ≤ 6) : run tb 47 [.int .i64 n] = some [bvD (bitsTo (fun _ => true) (2 ^ n))] := by
 refine run_ir (x := ir47) rfl ?_
 obtain rfl | rfl | rfl | rfl | rfl | rfl | rfl : n = 0 ∨ n = 1 ∨ n = 2 ∨ n = 3 ∨ n = 4 ∨ n = 5 ∨ n = 6 := by omega
 all_goals rfl
theorem valid_run (l : List (List UInt8)) (hl : l.length < 1000000000) : run tb 25 [strsD l] = some [.bool (vocOk l)] := by
 refine run_ir (x := ir25) rfl ?_
 by_cases h6 : l.length ≤ 6
 · have h6' : ¬ ((l.length : Nat) : Int) > 6 := by omega
   have hv : vocOk l = okAt l 0 := by simp [vocOk,h6,okAt_zero]
   rw [hv]
   simp (disch := omega) only [ir25,stepQ,stepL,eq_self,aBin,reduceIte,Int.reduceEq,Int.reduceLT,Int.reduceLE,Int.reduceGT,Int.reduceGE,len_S,h6']
   refine loop_k (σ := Unit) l.length (fun _ _ => True) (fun i _ => [.int .i64 i]) (fun i _ => [.bool (okAt l i)]) ?_ ?_ 0 () (Nat.zero_le _) trivial
   · rintro i _ L hi _ hL
     have hnext := hL () trivial
     have hn := validName_run l[i]
     cases hvn : validName l[i] with
     | false =>
      rw [hvn] at hn
      have : okAt l i = false := by
       by_cases h0 : 0 < i
       · rw [okAt_next h0 hi,hvn]; rfl
       · rw [okAt_first' h0 hi,hvn]; rfl
      simp (disch := omega) only [ir25p1,ir25p0,stepQ,stepL,eq_self,aBin,reduceIte,Int.reduceEq,Int.reduceLT,Int.reduceLE,Int.reduceGT,Int.reduceGE,hi,row_S,hn,this]
     | true =>
      rw [hvn] at hn
      by_cases h0 : ¬ 0 < i
      · have h0' : ¬ (i : Int) > 0 := by omega
        rw [okAt_first' h0 hi,hvn,Bool.true_and]
        simp (disch := omega) only [ir25p1,ir25p0,stepQ,stepL,eq_self,aBin,reduceIte,Int.reduceEq,Int.reduceLT,Int.reduceLE,Int.reduceGT,Int.reduceGE,hi,h0',row_S,hn,wr,natS,hnext]
      · have h0 : 0 < i := by omega
        have h0' : (i : Int) > 0 := by omega
        have hs : (i : Int) - 1 = ((i - 1 : Nat) : Int) := by omega
        have hi1 : i - 1 < l.length := by omega
        rw [okAt_next h0 hi,hvn,Bool.true_and]
        cases hb : Op.bytesLess l[i - 1] l[i] with
        | true =>
         rw [Bool.true_and]
         simp (disch := omega) only [ir25p1,ir25p0,stepQ,stepL,eq_self,aBin,reduceIte,Int.reduceEq,Int.reduceLT,Int.reduceLE,Int.reduceGT,Int.reduceGE,hi,h0',row_S,hn,wr,natS,hs,hi1,hb,hnext]
        | false =>
         rw [Bool.false_and]
         simp (disch := omega) only [ir25p1,ir25p0,stepQ,stepL,eq_self,aBin,reduceIte,Int.reduceEq,Int.reduceLT,Int.reduceLE,Int.reduceGT,Int.reduceGE,hi,h0',row_S,hn,wr,natS,hs,hi1,hb]
   · rintro _ L _
     rw [okAt_end]
     simp (disch := omega) only [ir25p1,stepQ,stepL,eq_self,aBin,reduceIte,Int.reduceEq,Int.reduceLT,Int.reduceLE,Int.reduceGT,Int.reduceGE,Nat.lt_irrefl]
 · have h6' : ((l.length : Nat) : Int) > 6 := by omega
   have hv : vocOk l = false := by simp [vocOk,h6]
   rw [hv]
   simp (disch := omega) only [ir25,stepQ,stepL,eq_self,aBin,reduceIte,Int.reduceEq,Int.reduceLT,Int.reduceLE,Int.reduceGT,Int.reduceGE,len_S,h6']
theorem valid3_run (l : List (List UInt8)) (hl : l.length < 1000000000) (hs : ∀ s ∈ l,s.length < 9223372036854775808) : run tb 23 [strsD l] = some [.bool (vocOk l)] := by
 refine run_ir (x := ir23) rfl ?_
 have hv : vocOk l = (okAt l 0 && decide (l.length ≤ 6)) := by rw [vocOk,okAt_zero,Bool.and_comm]
 rw [hv]
 simp (disch := omega) only [ir23,stepQ,stepL,eq_self,aBin,reduceIte,Int.reduceEq,Int.reduceLT,Int.reduceLE,Int.reduceGT,Int.reduceGE]
 refine loop_k (σ := Unit) l.length (fun _ _ => True) (fun i _ => [.int .i64 i]) (fun i _ => [.bool (okAt l i && decide (l.length ≤ 6))]) ?_ ?_ 0 () (Nat.zero_le _) trivial
 · rintro i _ L hi _ hL
   have hnext := hL () trivial
   have hn := validName57_run l[i] (hs _ (List.getElem_mem hi))
   cases hvn : validName l[i] with
   | false =>
    rw [hvn] at hn
    have : okAt l i = false := by
     by_cases h0 : 0 < i
     · rw [okAt_next h0 hi,hvn]; rfl
     · rw [okAt_first' h0 hi,hvn]; rfl
    rw [this,Bool.false_and]
    simp (disch := omega) only [ir23p1,ir23p0,stepQ,stepL,eq_self,aBin,reduceIte,Int.reduceEq,Int.reduceLT,Int.reduceLE,Int.reduceGT,Int.reduceGE,len_S,hi,row_S,hn]
   | true =>
    rw [hvn] at hn
    by_cases h0 : ¬ 0 < i
    · have h0' : ¬ (i : Int) > 0 := by omega
      rw [okAt_first' h0 hi,hvn,Bool.true_and]
      simp (disch := omega) only [ir23p1,ir23p0,stepQ,stepL,eq_self,aBin,reduceIte,Int.reduceEq,Int.reduceLT,Int.reduceLE,Int.reduceGT,Int.reduceGE,len_S,hi,h0',row_S,hn,wr,natS,hnext]
    · have h0 : 0 < i := by omega
      have h0' : (i : Int) > 0 := by omega
      have hs : (i : Int) - 1 = ((i - 1 : Nat) : Int) := by omega
      have hi1 : i - 1 < l.length := by omega
      rw [okAt_next h0 hi,hvn,Bool.true_and]
      have ht := bytesLess_total l[i] l[i - 1]
      cases hb : Op.bytesLess l[i - 1] l[i] with
      | true =>
       rw [hb] at ht
       rw [Bool.true_and]
       simp (disch := omega) only [ir23p1,ir23p0,stepQ,stepL,eq_self,aBin,reduceIte,Int.reduceEq,Int.reduceLT,Int.reduceLE,Int.reduceGT,Int.reduceGE,len_S,hi,h0',row_S,hn,wr,natS,hs,hi1,ht,hnext]
      | false =>
       rw [hb] at ht
       rw [Bool.false_and,Bool.false_and]
       simp (disch := omega) only [ir23p1,ir23p0,stepQ,stepL,eq_self,aBin,reduceIte,Int.reduceEq,Int.reduceLT,Int.reduceLE,Int.reduceGT,Int.reduceGE,len_S,hi,h0',row_S,hn,wr,natS,hs,hi1,ht]
 · rintro _ L _
   rw [okAt_end,Bool.true_and]
   by_cases h6 : l.length ≤ 6
   · have h6' : ((l.length : Nat) : Int) ≤ 6 := by omega
     simp (disch := omega) only [ir23p1,stepQ,stepL,eq_self,aBin,reduceIte,Int.reduceEq,Int.reduceLT,Int.reduceLE,Int.reduceGT,Int.reduceGE,len_S,Nat.lt_irrefl,h6,h6']
   · have h6' : ¬ ((l.length : Nat) : Int) ≤ 6 := by omega
     simp (disch := omega) only [ir23p1,stepQ,stepL,eq_self,aBin,reduceIte,Int.reduceEq,Int.reduceLT,Int.reduceLE,Int.reduceGT,Int.reduceGE,len_S,Nat.lt_irrefl,h6,h6']
theorem all_run (l : List (List UInt8)) (hl : l.length < 1000000000) : run tb 31 [strsD l] = some [bvD (allS l)] := by
 refine run_ir (x := ir31) rfl ?_
 have hv := valid_run l hl
 unfold allS
 cases h : vocOk l with
 | false =>
  rw [h] at hv
  simp (disch := omega) only [ir31,stepQ,stepL,eq_self,aBin,reduceIte,Int.reduceEq,Int.reduceLT,Int.reduceLE,Int.reduceGT,Int.reduceGE,bvQ,wu,shl_norm,shr_norm,and1_norm,hv,Bool.false_eq_true]
 | true =>
  rw [h] at hv
  have hw := whole_run l.length (vocOk_len h)
  simp (disch := omega) only [ir31,stepQ,stepL,eq_self,aBin,reduceIte,Int.reduceEq,Int.reduceLT,Int.reduceLE,Int.reduceGT,Int.reduceGE,hv,len_S,hw]
end Go.Proofs.YtojkhlijbpmgpaaGreat

namespace Go.Proofs.YtojkhlijbpmgpaaGreat
open Go Am
set_option maxRecDepth 100000
theorem idxOf_at {s : List UInt8} : ∀ {l : List (List UInt8)} {k : Nat},s ∈ l → ∃ i,∃ h : i < l.length,l[i] = s ∧ idxOf s k l = ((k + i : Nat) : Int)
 | [],_,h => by simp at h
 | a :: l,k,h => by
  simp only [idxOf]
  by_cases hs : s = a
  · exact ⟨0,by simp,by simp [hs],by rw [if_pos hs]; rfl⟩
  · rw [if_neg hs]
    obtain ⟨i,hi,h1,h2⟩ := idxOf_at (l := l) (k := k + 1) ((List.mem_cons.1 h).resolve_left hs)
    exact ⟨i + 1,by simpa using hi,by simpa using h1,by rw [h2]; congr 1; omega⟩
theorem val_and (ys : List (List UInt8)) (f : F) (h : f.op = 5) : F.val ys f = f.args.all (F.val ys) := by
 rw [F.val_eq,valO]; simp [h,List.all_map,Function.comp_def]
theorem val_or (ys : List (List UInt8)) (f : F) (h : f.op = 6) : F.val ys f = f.args.any (F.val ys) := by
 rw [F.val_eq,valO]; simp [h,List.any_map,Function.comp_def]
theorem all_take {α : Type} (p : α → Bool) {l : List α} {i : Nat} (h : i < l.length) : (l.take (i + 1)).all p = ((l.take i).all p && p l[i]) := by
 rw [List.take_add_one,List.getElem?_eq_getElem h,List.all_append]; simp only [Option.toList_some,List.all_cons,List.all_nil,Bool.and_true]
theorem any_take {α : Type} (p : α → Bool) {l : List α} {i : Nat} (h : i < l.length) : (l.take (i + 1)).any p = ((l.take i).any p || p l[i]) := by
 rw [List.take_add_one,List.getElem?_eq_getElem h,List.any_append]; simp only [Option.toList_some,List.any_cons,List.any_nil,Bool.or_false]
theorem sub_args {voc : List (List UInt8)} {f : F} (hl : f.args.length ≠ 0 ∨ f.op ≠ 3) (h : ∀ s ∈ F.atomL f,s ∈ voc) : ∀ g ∈ f.args,∀ s ∈ F.atomL g,s ∈ voc := by
 intro g hg s hs
 obtain ⟨i,hi,rfl⟩ := List.getElem_of_mem hg
 refine h s ?_
 rw [F.atomL_eq,if_neg (by rintro ⟨h1,h2⟩; rcases hl with h | h; exact h h2; exact h h1)]
 have h1 := F.atomLs_take_s f.args i hi
 have h2 : ∀ (l : List F) (j : Nat),∀ x ∈ F.atomLs (l.take j),x ∈ F.atomLs l := by
  intro l
  induction l with
  | nil => intro j x hx; simpa using hx
  | cons a l ih =>
   intro j x hx
   cases j with
   | zero => simp [F.atomLs] at hx
   | succ j =>
    simp only [List.take_succ_cons,F.atomLs,List.mem_append] at hx ⊢
    exact hx.imp id (ih j x)
 exact h2 f.args (i + 1) s (by rw [h1]; simp [hs])
theorem models_run (voc : List (List UInt8)) (hv : vocOk voc = true) : ∀ (f : F),f.size < 1000000000 → good f = true → (∀ s ∈ F.atomL f,s ∈ voc) → run tb 30 (strsD voc :: rowF f) = some [bvD (modN voc f 64)] := by
 refine bySizeF fun f ih hs hg ha => ?_
 refine run_ir (x := ir30) rfl ?_
 have h6 := vocOk_len hv
 have hasc := (okNames_asc (vocOk_names hv)).1
 have hgn := good_named hg
 have hc := hgn.2
 rw [counted_eq] at hc
 have hla := F.sizes_len f.args
 have hse := F.size_eq f
 have hrun : ∀ i (hi : i < f.args.length),(f.op ≠ 3) → run tb 30 (strsD voc :: rowF f.args[i]) = some [bvD (modN voc f.args[i] 64)] := fun i hi ho =>
  ih _ (List.getElem_mem hi) (by have := F.size_arg f i hi; omega) (good_arg hg i hi) (sub_args (.inr ho) ha _ (List.getElem_mem hi))
 by_cases h1 : f.op = 1
 · have : modN voc f 64 = BitVec.allOnes 64 := by
    rw [← bits_all]; exact bits_congr (Nat.le_refl _) fun w _ => by rw [F.val_eq,valO]; simp [h1]
   rw [this]
   simp (disch := omega) only [ir30,rowF,stepQ,stepL,eq_self,aBin,reduceIte,Int.reduceEq,Int.reduceLT,Int.reduceLE,Int.reduceGT,Int.reduceGE,bvQ,wu,shl_norm,shr_norm,and1_norm,h1]
 by_cases h3 : f.op = 3
 · have h0 : f.args.length = 0 := by simpa [h3] using hc
   have hmem : f.name ∈ voc := ha _ (by rw [F.atomL_eq,if_pos ⟨h3,h0⟩]; simp)
   obtain ⟨i,hi,hn,hx⟩ := idxOf_at (k := 0) hmem
   rw [Nat.zero_add] at hx
   have hidx := index_run voc f.name (by omega)
   rw [hx] at hidx
   have htr := true_run i (by omega)
   have : modN voc f 64 = bitsTo (fun w => decide (w / 2 ^ i % 2 = 1)) 64 := bits_congr (Nat.le_refl _) fun w _ => by
    rw [F.val_eq,valO]
    simp only [h3,if_true,show ¬((3 : Int) = 1) by decide,if_false]
    have := yesN_mem hasc (w := w) hi
    rw [hn] at this
    cases hd : decide (w / 2 ^ i % 2 = 1) with
    | true => rw [decide_eq_true_eq] at hd; simpa using this.2 hd
    | false => rw [decide_eq_false_iff_not] at hd; simpa using fun h => hd (this.1 h)
   rw [this]
   simp (disch := omega) only [ir30,rowF,stepQ,stepL,eq_self,aBin,reduceIte,Int.reduceEq,Int.reduceLT,Int.reduceLE,Int.reduceGT,Int.reduceGE,bvQ,wu,shl_norm,shr_norm,and1_norm,h3,hidx,htr]
 by_cases h4 : f.op = 4
 · have hl1 : f.args.length = 1 := by simpa [h4] using hc
   have r0 := hrun 0 (by omega) h3
   have : modN voc f 64 = ~~~(modN voc (f.args[0]'(by omega)) 64) := by
    unfold modN
    rw [bits_not]
    exact bits_congr (Nat.le_refl _) fun w _ => by
     rw [F.val_eq,valO]
     simp [h4,show 0 < f.args.length by omega]
   rw [this]
   simp only [rowF] at r0
   simp (disch := omega) only [ir30,rowF,stepQ,stepL,eq_self,aBin,reduceIte,Int.reduceEq,Int.reduceLT,Int.reduceLE,Int.reduceGT,Int.reduceGE,bvQ,wu,shl_norm,shr_norm,and1_norm,h4,row_F0,r0]
 by_cases h7 : f.op = 7
 · have hl1 : f.args.length = 2 := by simpa [h7] using hc
   have r0 := hrun 0 (by omega) h3
   have r1 := hrun 1 (by omega) h3
   have : modN voc f 64 = ~~~(modN voc (f.args[0]'(by omega)) 64) ||| modN voc (f.args[1]'(by omega)) 64 := by
    unfold modN
    rw [bits_not,bits_or _ _ (Nat.le_refl _)]
    exact bits_congr (Nat.le_refl _) fun w _ => by
     rw [F.val_eq,valO]
     simp [h7,show 0 < f.args.length by omega,show 1 < f.args.length by omega]
     cases F.val (yesN voc w) (f.args[0]'(by omega)) <;> cases F.val (yesN voc w) (f.args[1]'(by omega)) <;> rfl
   rw [this]
   simp only [rowF] at r0 r1
   simp (disch := omega) only [ir30,rowF,stepQ,stepL,eq_self,aBin,reduceIte,Int.reduceEq,Int.reduceLT,Int.reduceLE,Int.reduceGT,Int.reduceGE,bvQ,wu,shl_norm,shr_norm,and1_norm,h7,row_F0,row_F1,r0,r1]
 by_cases h8 : f.op = 8
 · have hl1 : f.args.length = 2 := by simpa [h8] using hc
   have r0 := hrun 0 (by omega) h3
   have r1 := hrun 1 (by omega) h3
   have : modN voc f 64 = ~~~(modN voc (f.args[0]'(by omega)) 64 ^^^ modN voc (f.args[1]'(by omega)) 64) := by
    unfold modN
    rw [bits_xor _ _ (Nat.le_refl _),bits_not]
    exact bits_congr (Nat.le_refl _) fun w _ => by
     rw [F.val_eq,valO]
     simp [h8,show 0 < f.args.length by omega,show 1 < f.args.length by omega]
     cases F.val (yesN voc w) (f.args[0]'(by omega)) <;> cases F.val (yesN voc w) (f.args[1]'(by omega)) <;> rfl
   rw [this]
   simp only [rowF] at r0 r1
   simp (disch := omega) only [ir30,rowF,stepQ,stepL,eq_self,aBin,reduceIte,Int.reduceEq,Int.reduceLT,Int.reduceLE,Int.reduceGT,Int.reduceGE,bvQ,wu,shl_norm,shr_norm,and1_norm,h8,row_F0,row_F1,r0,r1]
 by_cases h5 : f.op = 5
 · simp (disch := omega) only [ir30,rowF,stepQ,stepL,eq_self,aBin,reduceIte,Int.reduceEq,Int.reduceLT,Int.reduceLE,Int.reduceGT,Int.reduceGE,bvQ,wu,shl_norm,shr_norm,and1_norm,h5,ev_lenL]
   have hm : modN voc f 64 = bitsTo (fun w => (f.args.take f.args.length).all (F.val (yesN voc w))) 64 := bits_congr (Nat.le_refl _) fun w _ => by
    rw [val_and _ _ h5,List.take_length]
   have h0 : BitVec.allOnes 64 = bitsTo (fun w => (f.args.take 0).all (F.val (yesN voc w))) 64 := by rw [← bits_all]; exact bits_congr (Nat.le_refl _) fun w _ => by simp
   rw [hm,h0]
   refine loop_k (σ := Unit) f.args.length (fun _ _ => True) (fun i _ => [bvD (bitsTo (fun w => (f.args.take i).all (F.val (yesN voc w))) 64),.int .i64 i]) (fun _ _ => [bvD (bitsTo (fun w => (f.args.take f.args.length).all (F.val (yesN voc w))) 64)]) ?_ ?_ 0 () (Nat.zero_le _) trivial
   · rintro i _ L hi _ hL
     have hnext := hL () trivial
     have r := hrun i hi h3
     have hst : bitsTo (fun w => (f.args.take (i + 1)).all (F.val (yesN voc w))) 64 = bitsTo (fun w => (f.args.take i).all (F.val (yesN voc w))) 64 &&& modN voc f.args[i] 64 := by
      unfold modN
      rw [bits_and _ _ (Nat.le_refl _)]
      exact bits_congr (Nat.le_refl _) fun w _ => all_take _ hi
     rw [hst] at hnext
     simp only [rowF] at r
     simp (disch := omega) only [ir30p0,stepQ,stepL,eq_self,aBin,reduceIte,Int.reduceEq,Int.reduceLT,Int.reduceLE,Int.reduceGT,Int.reduceGE,bvQ,wu,shl_norm,shr_norm,and1_norm,hi,row_F,r,wr,natS,hnext]
   · rintro _ L _
     simp (disch := omega) only [ir30p0,stepQ,stepL,eq_self,aBin,reduceIte,Int.reduceEq,Int.reduceLT,Int.reduceLE,Int.reduceGT,Int.reduceGE,Nat.lt_irrefl]
 · have h26 : f.op = 2 ∨ f.op = 6 := by
    by_cases h2 : f.op = 2
    · exact .inl h2
    · by_cases h6 : f.op = 6
      · exact .inr h6
      · simp [h1,h2,h3,h4,h5,h6,h7,h8] at hc
   simp (disch := omega) only [ir30,rowF,stepQ,stepL,eq_self,aBin,reduceIte,Int.reduceEq,Int.reduceLT,Int.reduceLE,Int.reduceGT,Int.reduceGE,bvQ,wu,shl_norm,shr_norm,and1_norm,h1,h3,h4,h5,h7,h8,ev_lenL]
   have hm : modN voc f 64 = bitsTo (fun w => (f.args.take f.args.length).any (F.val (yesN voc w))) 64 := bits_congr (Nat.le_refl _) fun w _ => by
    rw [List.take_length]
    rcases h26 with h2 | h6
    · have h0 : f.args.length = 0 := by simpa [h2] using hc
      rw [List.eq_nil_of_length_eq_zero h0,F.val_eq,valO]
      simp [h2]
    · rw [val_or _ _ h6]
   have h0 : 0#64 = bitsTo (fun w => (f.args.take 0).any (F.val (yesN voc w))) 64 := by rw [← bits_none]; exact bits_congr (Nat.le_refl _) fun w _ => by simp
   rw [hm,h0]
   refine loop_k (σ := Unit) f.args.length (fun _ _ => True) (fun i _ => [bvD (bitsTo (fun w => (f.args.take i).any (F.val (yesN voc w))) 64),.int .i64 i]) (fun _ _ => [bvD (bitsTo (fun w => (f.args.take f.args.length).any (F.val (yesN voc w))) 64)]) ?_ ?_ 0 () (Nat.zero_le _) trivial
   · rintro i _ L hi _ hL
     have hnext := hL () trivial
     have r := hrun i hi h3
     have hst : bitsTo (fun w => (f.args.take (i + 1)).any (F.val (yesN voc w))) 64 = bitsTo (fun w => (f.args.take i).any (F.val (yesN voc w))) 64 ||| modN voc f.args[i] 64 := by
      unfold modN
      rw [bits_or _ _ (Nat.le_refl _)]
      exact bits_congr (Nat.le_refl _) fun w _ => any_take _ hi
     rw [hst] at hnext
     simp only [rowF] at r
     simp (disch := omega) only [ir30p1,stepQ,stepL,eq_self,aBin,reduceIte,Int.reduceEq,Int.reduceLT,Int.reduceLE,Int.reduceGT,Int.reduceGE,bvQ,wu,shl_norm,shr_norm,and1_norm,hi,row_F,r,wr,natS,hnext]
   · rintro _ L _
     simp (disch := omega) only [ir30p1,stepQ,stepL,eq_self,aBin,reduceIte,Int.reduceEq,Int.reduceLT,Int.reduceLE,Int.reduceGT,Int.reduceGE,Nat.lt_irrefl]
end Go.Proofs.YtojkhlijbpmgpaaGreat

namespace Go.Proofs.YtojkhlijbpmgpaaGreat
open Go Am
set_option maxRecDepth 100000
theorem atomsX_run (f : F) (hs : f.size < 10000000000) (hd : f.depth < 1000) : run tb 28 (rowF f) = some [strsD (canon (F.atomL f))] := run_ext rfl (atomsE_run f hs hd)
theorem modelsW_run (voc : List (List UInt8)) (f : F) (hv : voc.length < 1000000000) (hf : f.size < 1000000000) : run tb 15 (strsD voc :: rowF f) = some [bvD (modelsS voc f),.int .i64 (modelsE voc f)] := by
 refine run_ir (x := ir15) rfl ?_
 have h1 := valid_run voc hv
 have h2 := validate18_run f hf
 unfold modelsS
 simp only [rowF] at h2
 cases hvo : vocOk voc with
 | false =>
  rw [hvo] at h1
  have he : modelsE voc f = 1 := by simp [modelsE,hvo]
  rw [he]
  simp (disch := omega) only [ir15,rowF,stepQ,stepL,eq_self,aBin,reduceIte,Int.reduceEq,Int.reduceLT,Int.reduceLE,Int.reduceGT,Int.reduceGE,bvQ,wu,shl_norm,shr_norm,and1_norm,h1,Int.reduceEq,if_false]
 | true =>
  rw [hvo] at h1
  by_cases hva : validate f = 0
  · obtain ⟨g1,g2,g3⟩ := validate_zero hva
    have h3 := atomsX_run f (by omega) (by omega)
    rw [hva] at h2
    simp only [rowF] at h3
    have he : modelsE voc f = if atomsIn voc f = false then 6 else 0 := by simp [modelsE,hvo,hva]
    have hcl : (canon (F.atomL f)).length < 1000000000 := by
     have a1 := F.atomL_len f
     have a2 : (canon (F.atomL f)).length ≤ (F.atomL f).length := nodup_le ((canon_asc _).imp fun h e => by subst e; exact List.lt_irrefl _ h) fun x hx => (canon_mem _ x).1 hx
     omega
    simp (disch := omega) only [ir15,rowF,stepQ,stepL,eq_self,aBin,reduceIte,Int.reduceEq,Int.reduceLT,Int.reduceLE,Int.reduceGT,Int.reduceGE,bvQ,wu,shl_norm,shr_norm,and1_norm,h1,h2,h3,ibne,len_S]
    rw [he]
    unfold atomsIn
    have hmods : (canon (F.atomL f)).all (fun s => voc.contains s) = true → run tb 30 (strsD voc :: rowF f) = some [bvD (modN voc f 64)] := fun ha => models_run voc hvo f hf g3 fun s hs => by
     have := List.all_eq_true.1 ha s ((canon_mem _ s).2 hs)
     simpa using this
    generalize canon (F.atomL f) = az at *
    have hd0 : az.all (fun s => voc.contains s) = (az.drop 0).all fun s => voc.contains s := by simp
    rw [hd0]
    refine loop_k (σ := Unit) az.length (fun i _ => (az.take i).all (fun s => voc.contains s) = true) (fun i _ => [.int .i64 i]) (fun i _ => [bvD (if (if ((az.drop i).all fun s => voc.contains s) = false then (6 : Int) else 0) = 0 then modN voc f (2 ^ voc.length) else 0#64),.int .i64 (if ((az.drop i).all fun s => voc.contains s) = false then 6 else 0)]) ?_ ?_ 0 () (Nat.zero_le _) rfl
    · rintro i _ L hi hp hL
      have hc := contains_run voc az[i] (by omega)
      rw [drop_s hi,List.all_cons]
      cases hcc : voc.contains az[i] with
      | false =>
       rw [hcc] at hc
       simp (disch := omega) only [ir15p0,stepQ,stepL,eq_self,aBin,reduceIte,Int.reduceEq,Int.reduceLT,Int.reduceLE,Int.reduceGT,Int.reduceGE,bvQ,wu,shl_norm,shr_norm,and1_norm,hi,row_S,hc,Bool.false_and,if_true,Int.reduceEq,if_false]
      | true =>
       rw [hcc] at hc
       have hnext := hL () (by rw [List.take_add_one,List.getElem?_eq_getElem hi]; simp only [Option.toList_some,List.all_append,List.all_cons,List.all_nil,Bool.and_true,hp,hcc])
       simp (disch := omega) only [ir15p0,stepQ,stepL,eq_self,aBin,reduceIte,Int.reduceEq,Int.reduceLT,Int.reduceLE,Int.reduceGT,Int.reduceGE,hi,row_S,hc,Bool.true_and,wr,natS,hnext]
    · rintro _ L hp
      rw [List.take_length] at hp
      have hm := hmods hp
      have ha := all_run voc hv
      have hal : allS voc = bitsTo (fun _ => true) (2 ^ voc.length) := by unfold allS; rw [if_pos hvo]
      have hcut : modN voc f 64 &&& allS voc = modN voc f (2 ^ voc.length) := by rw [hal]; exact bits_cut _ (pow6 (vocOk_len hvo))
      simp only [rowF] at hm
      rw [List.drop_length]
      simp (disch := omega) only [ir15p0,stepQ,stepL,eq_self,aBin,reduceIte,Int.reduceEq,Int.reduceLT,Int.reduceLE,Int.reduceGT,Int.reduceGE,bvQ,wu,shl_norm,shr_norm,and1_norm,Nat.lt_irrefl,hm,ha,hcut,List.all_nil,Bool.true_eq_false,if_false,if_true]
  · have he : modelsE voc f = validate f := by simp [modelsE,hvo,hva]
    rw [he,if_neg hva]
    simp (disch := omega) only [ir15,rowF,stepQ,stepL,eq_self,aBin,reduceIte,Int.reduceEq,Int.reduceLT,Int.reduceLE,Int.reduceGT,Int.reduceGE,bvQ,wu,shl_norm,shr_norm,and1_norm,h1,h2,ibne,hva]
end Go.Proofs.YtojkhlijbpmgpaaGreat

namespace Go.Proofs.YtojkhlijbpmgpaaGreat
open Go Am
set_option maxRecDepth 100000
end Go.Proofs.YtojkhlijbpmgpaaGreat

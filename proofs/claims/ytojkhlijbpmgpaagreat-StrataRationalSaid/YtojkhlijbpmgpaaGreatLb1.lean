/- What functions of the program compute: lemmas. -/
import Derived.Test.YtojkhlijbpmgpaaGreatSb3
import Derived.Test.YtojkhlijbpmgpaaGreatAm4
set_option linter.unusedSimpArgs false
set_option linter.unusedVariables false
set_option linter.unusedSectionVars false
namespace Go.Proofs.YtojkhlijbpmgpaaGreat
open Go Am
set_option maxRecDepth 100000
theorem raw_run (l : List Int) (at_ : Nat) (hl : l.length ≤ 2000) (ha : at_ ≤ l.length) : ∃ (x : Int) (b : Nat),b ≤ l.length ∧ run tb 21 [numsD l,.int .i64 at_] = some [.int .i64 x,numsD l,.int .i64 b] := by
 have e3 : IntKind.i64.wrap (at_ : Int) = (at_ : Int) := wr (by omega) (by omega)
 by_cases h : at_ < l.length
 · refine ⟨l[at_],at_ + 1,by omega,run_ir (x := ir21) rfl ?_⟩
   have e1 : IntKind.i64.wrap ((at_ : Int) + 1) = (at_ : Int) + 1 := wr (by omega) (by omega)
   have hd : decide (l.length ≤ at_) = false := by simp; omega
   simp [ir21,den,PO.eval,SA.val,one1,aBin,numsD,numR,go_sem,e1,e3,hd,h]
 · refine ⟨0,at_,ha,run_ir (x := ir21) rfl ?_⟩
   have hd : decide (l.length ≤ at_) = true := by simp; omega
   simp [ir21,den,PO.eval,SA.val,one1,aBin,numsD,numR,go_sem,hd]
theorem mod_run (x n : Int) (h0 : 1 ≤ n) (h1 : n < 4611686018427387904) : ∃ r : Int,0 ≤ r ∧ r < n ∧ run tb 22 [.int .i64 x,.int .i64 n] = some [.int .i64 r] := by
 have a1 : -n < Int.tmod x n := Int.lt_tmod_of_pos x (by omega)
 have a2 : Int.tmod x n < n := Int.tmod_lt_of_pos x (by omega)
 have hn : n ≠ 0 := by omega
 have hn1 : ¬ n < 1 := by omega
 have hw : IntKind.i64.wrap (Int.tmod x n) = Int.tmod x n := wr (by omega) (by omega)
 by_cases h : Int.tmod x n < 0
 · refine ⟨Int.tmod x n + n,by omega,by omega,run_ir (x := ir22) rfl ?_⟩
   have hw2 : IntKind.i64.wrap (Int.tmod x n + n) = Int.tmod x n + n := wr (by omega) (by omega)
   simp [ir22,ir22p0,den,PO.eval,SA.val,one1,aBin,hn,hn1,hw,h,hw2,go_sem]
 · refine ⟨Int.tmod x n,by omega,by omega,run_ir (x := ir22) rfl ?_⟩
   simp [ir22,ir22p0,den,PO.eval,SA.val,one1,aBin,hn,hn1,hw,h,go_sem]
theorem n_run (n : Int) (l : List Int) (at_ : Nat) (hl : l.length ≤ 2000) (ha : at_ ≤ l.length) (h0 : 1 ≤ n) (h1 : n < 4611686018427387904) :
 ∃ (r : Int) (b : Nat),0 ≤ r ∧ r < n ∧ b ≤ l.length ∧ run tb 10 [.int .i64 n,numsD l,.int .i64 at_] = some [.int .i64 r,numsD l,.int .i64 b] := by
 obtain ⟨x,b,hb,hr⟩ := raw_run l at_ hl ha
 obtain ⟨r,r0,r1,hm⟩ := mod_run x n h0 h1
 refine ⟨r,b,r0,r1,hb,run_ir (x := ir10) rfl ?_⟩
 simp [ir10,den,SA.val,hr,hm,numsD_sl]
theorem new_run (l : List Int) : ∃ l' : List Int,l'.length ≤ 2000 ∧ run tb 1 [numsD l] = some [numsD l',.int .i64 0] := by
 refine ⟨l.take (min l.length 2000),by simp; omega,run_ir (x := ir1) rfl ?_⟩
 by_cases h : (2000 : Int) < l.length
 · have h2 : (2000 : Int) ≤ l.length := by omega
   have h3 : min l.length 2000 = 2000 := by omega
   simp [ir1,den,PO.eval,SA.val,numsD,numR,h,h3,h2]
 · have h3 : min l.length 2000 = l.length := by omega
   have h4 : List.take l.length (List.map numR l) = List.map numR l := List.take_of_length_le (by simp)
   have h5 : ∀ x,x ∈ l → (numR x).length = 1 := fun x _ => rfl
   simp only [ir1,den,PO.eval,SA.val,numsD]
   simp [h,h3,h4]
   rw [if_pos h5]
   rfl
theorem counted_run (f : F) : run tb 55 f.enc = some [.bool (counted f)] := by
 refine run_ir (x := ir55) rfl ?_
 obtain ⟨o,s,a⟩ := f
 have hl : (F.encs a).length = a.length := F.encs_len a
 simp only [F.enc,counted,F.op,F.args]
 simp [ir55,ir55p0,ir55p1,ir55p2,den_op,den_ite,den_letj,den_jump,den_ret,opD_some,iteD_b,jumpD_some,PO.eval,SA.val,one1,aBin,go_sem,hl]
 by_cases h1 : o = 1
 · simp [h1]
 by_cases h2 : o = 2
 · simp [h2]
 by_cases h3 : o = 3
 · simp [h3]
 by_cases h4 : o = 4
 · simp [h4]
 by_cases h5 : o = 5
 · by_cases h : 2 ≤ (a.length : Int) <;> simp [h5,h]
   exact decide_eq_decide.mpr Iff.rfl
 by_cases h6 : o = 6
 · by_cases h : 2 ≤ (a.length : Int) <;> simp [h6,h]
   exact decide_eq_decide.mpr Iff.rfl
 by_cases h7 : o = 7
 · simp [h7]
 by_cases h8 : o = 8 <;> simp [h1,h2,h3,h4,h5,h6,h7,h8]
theorem validName_run (s : List UInt8) : run tb 39 [.str s] = some [.bool (validName s)] := by
 refine run_ir (x := ir39) rfl ?_
 by_cases h0 : s.length = 0
 · have : s = [] := List.length_eq_zero_iff.1 h0
   subst this
   simp [ir39,ir39p4,den_op,den_ite,den_letj,den_jump,den_ret,opD_some,iteD_b,jumpD_some,ev_lenS,ev_binI,val_c,val_v,aBin,one1_s,validName]
 by_cases h1 : (s.length : Int) > 12
 · have h0' : ¬ (s.length : Int) = 0 := by omega
   simp [ir39,ir39p4,den_op,den_ite,den_letj,den_jump,den_ret,opD_some,iteD_b,jumpD_some,ev_lenS,ev_binI,val_c,val_v,aBin,one1_s,validName,h0',h1]
 have h0' : ¬ (s.length : Int) = 0 := by omega
 have h1' : decide ((s.length : Int) > 12) = false := by simpa using h1
 have h0b : ((s.length : Int) == 0) = false := by simpa using h0'
 have key := loop_run (run := run tb) (body := ir39p3) (e := [.str s,.bool false,.int .i64 s.length]) (J := [])
  (fun i : Nat => s.length - i) (fun i => i ≤ s.length) (fun i => [.int .i64 i]) (fun i => [.bool (nameFrom i (s.drop i))]) (by
  intro i L hp hL
  by_cases hi : i < s.length
  · have hlt : (i : Int) < s.length := by omega
    have hidx : PO.eval .idxS [.str s,.int .i64 i] = some [.int .u8 s[i].toNat] := ev_idxS (by omega) (by simp [hi])
    have hw : IntKind.i64.wrap ((i : Int) + 1) = ((i + 1 : Nat) : Int) := by rw [wr (by omega) (by omega)]; omega
    have hnext := hL (i + 1) (by omega) (by omega)
    rw [nameFrom_drop s i hi]
    simp only [ir39p3,ir39p2,ir39p1,ir39p0,den_op,den_ite,den_letj,den_jump,den_ret,opD_some,iteD_b,jumpD_some,val_c,val_v,List.map_cons,List.map_nil,getD_0,getD_s,List.cons_append,List.nil_append,List.append_assoc,ev_binI,aBin,one1_s,hlt,decide_true,if_true,hidx,List.getElem?_cons_zero,List.getElem?_cons_succ,hw,nameOk,hnext]
    by_cases c1 : (s[i].toNat : Int) ≥ 97 <;> by_cases c2 : (s[i].toNat : Int) ≤ 122 <;> by_cases c3 : 0 < i <;> by_cases c4 : (s[i].toNat : Int) ≥ 48 <;> by_cases c5 : (s[i].toNat : Int) ≤ 57 <;> by_cases c6 : (s[i].toNat : Int) = 95 <;> simp [c1,c2,c3,c4,c5,c6]
  · have hd : s.drop i = [] := List.drop_eq_nil_of_le (by omega)
    have hlt : ¬ (i : Int) < s.length := by omega
    simp [ir39p3,den_op,den_ite,den_letj,den_jump,den_ret,opD_some,iteD_b,val_c,val_v,ev_binI,aBin,one1_s,hlt,hd,nameFrom])
 have hk := key 0 (by omega)
 simp only [ir39,ir39p4,den_op,den_ite,den_letj,den_jump,den_ret,den_loop,opD_some,iteD_b,jumpD_some,ev_lenS,ev_binI,val_c,val_v,aBin,one1_s,validName,List.map_cons,List.map_nil,getD_0,getD_s,List.cons_append,List.nil_append,List.getElem?_cons_zero,h0b,h1',reduceIte,if_true,Bool.false_eq_true,if_false,Bool.or_self,Bool.not_false,Bool.true_and]
 exact hk
theorem all39_run (n : Nat) (hn : n < 4611686018427387904) : ∀ f : F,f.size ≤ n → run tb 43 f.enc = some [.bool (F.allF counted f)] := by
 induction n with
 | zero => intro f hf; have := F.size_pos f; omega
 | succ n ih =>
  intro f hf
  have hc := counted_run f
  rw [F.enc_eq] at hc ⊢
  refine run_ir (x := ir43) rfl ?_
  have hl : (F.encs f.args).length = f.args.length := F.encs_len f.args
  have hlen : f.args.length < 4611686018427387904 := by
   have h1 := F.sizes_len f.args
   have h2 := F.size_eq f
   omega
  simp only [ir43,den_op,den_ite,den_letj,den_jump,den_ret,den_loop,den_call,opD_some,iteD_b,jumpD_some,val_c,val_v,List.map_cons,List.map_nil,getD_0,getD_s,List.cons_append,List.nil_append,List.append_assoc,hc,callD_1,ev_un,aUn,one1_s,ev_lenL,hl]
  cases hcf : counted f with
  | false => simp [F.allF_eq,hcf]
  | true =>
   simp only [Bool.not_true,Bool.false_eq_true,if_false]
   have key := loop_run (run := run tb) (body := ir43p0) (e := [.int .i64 f.op,.str f.name,.sl (F.encs f.args),.bool true,.bool false,.int .i64 f.args.length]) (J := [])
    (fun i : Nat => f.args.length - i) (fun i => i ≤ f.args.length) (fun i => [.int .i64 i]) (fun i => [.bool (F.allFs counted (f.args.drop i))]) (by
    intro i L hp hL
    by_cases hi' : i < f.args.length
    · have hlt : (i : Int) < f.args.length := by omega
      have hg := ih (by omega) (f.args[i]) (by have := F.size_arg f i hi'; omega)
      rw [F.enc_eq] at hg
      have hrow : PO.eval (.row 3) [.sl (F.encs f.args),.int .i64 i] = some [.int .i64 f.args[i].op,.str f.args[i].name,.sl (F.encs f.args[i].args)] := ev_row (by omega) (by simpa [F.enc_eq] using F.encs_get f.args i hi') rfl
      have hd : f.args.drop i = f.args[i] :: f.args.drop (i + 1) := List.drop_eq_getElem_cons hi'
      have hw : IntKind.i64.wrap ((i : Int) + 1) = ((i + 1 : Nat) : Int) := by rw [wr (by omega) (by omega)]; omega
      have hnext := hL (i + 1) (by omega) (by omega)
      rw [hd]
      simp only [F.allFs]
      simp only [ir43p0,den_op,den_ite,den_jump,den_ret,den_call,opD_some,iteD_b,val_c,val_v,List.map_cons,List.map_nil,getD_0,getD_s,List.cons_append,List.nil_append,List.append_assoc,ev_binI,aBin,one1_s,hlt,decide_true,if_true,hrow,hg,callD_1,ev_un,aUn]
      cases ha : F.allF counted f.args[i] with
      | false => simp
      | true =>
       simp only [Bool.not_true,Bool.false_eq_true,if_false,List.getElem?_cons_zero,jumpD_some,hw,Bool.true_and]
       exact hnext
    · have hd : f.args.drop i = [] := List.drop_eq_nil_of_le (by omega)
      have hlt : ¬ (i : Int) < f.args.length := by omega
      simp [ir43p0,den_op,den_ite,den_jump,den_ret,opD_some,iteD_b,val_c,val_v,ev_binI,aBin,one1_s,hlt,hd,F.allFs])
   have := key 0 (by omega)
   simp only [List.drop_zero] at this
   rw [F.allF_eq,hcf,Bool.true_and]
   exact this
theorem named_run (f : F) : run tb 56 f.enc = some [.bool (named f)] := by
 refine run_ir (x := ir56) rfl ?_
 obtain ⟨o,s,a⟩ := f
 simp only [F.enc,named,F.op,F.name]
 have hv := validName_run s
 simp only [ir56,den_op,den_ite,den_ret,den_call,opD_some,iteD_b,val_c,val_v,List.map_cons,List.map_nil,getD_0,getD_s,List.cons_append,List.nil_append,List.append_assoc,ev_binI,ev_binS,aBin,one1_s,reduceIte,if_true,hv,callD_1]
 by_cases h3 : o = 3
 · simp [h3]
 · simp [h3]
theorem all40_run (n : Nat) (hn : n < 4611686018427387904) : ∀ f : F,f.size ≤ n → run tb 44 f.enc = some [.bool (F.allF named f)] := by
 induction n with
 | zero => intro f hf; have := F.size_pos f; omega
 | succ n ih =>
  intro f hf
  have hc := named_run f
  rw [F.enc_eq] at hc ⊢
  refine run_ir (x := ir44) rfl ?_
  have hl : (F.encs f.args).length = f.args.length := F.encs_len f.args
  have hlen : f.args.length < 4611686018427387904 := by
   have h1 := F.sizes_len f.args
   have h2 := F.size_eq f
   omega
  simp only [ir44,den_op,den_ite,den_letj,den_jump,den_ret,den_loop,den_call,opD_some,iteD_b,jumpD_some,val_c,val_v,List.map_cons,List.map_nil,getD_0,getD_s,List.cons_append,List.nil_append,List.append_assoc,hc,callD_1,ev_un,aUn,one1_s,ev_lenL,hl]
  cases hcf : named f with
  | false => simp [F.allF_eq,hcf]
  | true =>
   simp only [Bool.not_true,Bool.false_eq_true,if_false]
   have key := loop_run (run := run tb) (body := ir44p0) (e := [.int .i64 f.op,.str f.name,.sl (F.encs f.args),.bool true,.bool false,.int .i64 f.args.length]) (J := [])
    (fun i : Nat => f.args.length - i) (fun i => i ≤ f.args.length) (fun i => [.int .i64 i]) (fun i => [.bool (F.allFs named (f.args.drop i))]) (by
    intro i L hp hL
    by_cases hi' : i < f.args.length
    · have hlt : (i : Int) < f.args.length := by omega
      have hg := ih (by omega) (f.args[i]) (by have := F.size_arg f i hi'; omega)
      rw [F.enc_eq] at hg
      have hrow : PO.eval (.row 3) [.sl (F.encs f.args),.int .i64 i] = some [.int .i64 f.args[i].op,.str f.args[i].name,.sl (F.encs f.args[i].args)] := ev_row (by omega) (by simpa [F.enc_eq] using F.encs_get f.args i hi') rfl
      have hd : f.args.drop i = f.args[i] :: f.args.drop (i + 1) := List.drop_eq_getElem_cons hi'
      have hw : IntKind.i64.wrap ((i : Int) + 1) = ((i + 1 : Nat) : Int) := by rw [wr (by omega) (by omega)]; omega
      have hnext := hL (i + 1) (by omega) (by omega)
      rw [hd]
      simp only [F.allFs]
      simp only [ir44p0,den_op,den_ite,den_jump,den_ret,den_call,opD_some,iteD_b,val_c,val_v,List.map_cons,List.map_nil,getD_0,getD_s,List.cons_append,List.nil_append,List.append_assoc,ev_binI,aBin,one1_s,hlt,decide_true,if_true,hrow,hg,callD_1,ev_un,aUn]
      cases ha : F.allF named f.args[i] with
      | false => simp
      | true =>
       simp only [Bool.not_true,Bool.false_eq_true,if_false,List.getElem?_cons_zero,jumpD_some,hw,Bool.true_and]
       exact hnext
    · have hd : f.args.drop i = [] := List.drop_eq_nil_of_le (by omega)
      have hlt : ¬ (i : Int) < f.args.length := by omega
      simp [ir44p0,den_op,den_ite,den_jump,den_ret,opD_some,iteD_b,val_c,val_v,ev_binI,aBin,one1_s,hlt,hd,F.allFs])
   have := key 0 (by omega)
   simp only [List.drop_zero] at this
   rw [F.allF_eq,hcf,Bool.true_and]
   exact this
theorem index_run (ys : List (List UInt8)) (s : List UInt8) (hl : ys.length < 4611686018427387904) : run tb 45 [strsD ys,.str s] = some [.int .i64 (idxOf s 0 ys)] := by
 refine run_ir (x := ir45) rfl ?_
 have key := loop_run (run := run tb) (body := ir45p0) (e := [strsD ys,.str s,.int .i64 ys.length]) (J := [])
  (fun i : Nat => ys.length - i) (fun i => i ≤ ys.length) (fun i => [.int .i64 i]) (fun i => [.int .i64 (idxOf s i (ys.drop i))]) (by
  intro i L hp hL
  by_cases hi : i < ys.length
  · have hlt : (i : Int) < ys.length := by omega
    have hrow : PO.eval (.row 1) [strsD ys,.int .i64 i] = some [.str ys[i]] := row_S hi
    have hw : IntKind.i64.wrap ((i : Int) + 1) = ((i + 1 : Nat) : Int) := by rw [wr (by omega) (by omega)]; omega
    have hnext := hL (i + 1) (by omega) (by omega)
    have hd : ys.drop i = ys[i] :: ys.drop (i + 1) := List.drop_eq_getElem_cons hi
    rw [hd]
    simp only [idxOf]
    simp only [ir45p0,den_op,den_ite,den_letj,den_jump,den_ret,opD_some,iteD_b,jumpD_some,val_c,val_v,List.map_cons,List.map_nil,getD_0,getD_s,List.cons_append,List.nil_append,List.append_assoc,ev_binI,ev_binS,aBin,one1_s,hlt,decide_true,reduceIte,if_true,hrow,List.getElem?_cons_zero,hw,hnext]
    by_cases h : s = ys[i] <;> simp [h]
  · have hd : ys.drop i = [] := List.drop_eq_nil_of_le (by omega)
    have hlt : ¬ (i : Int) < ys.length := by omega
    simp [ir45p0,den_op,den_ite,den_letj,den_jump,den_ret,opD_some,iteD_b,val_c,val_v,ev_binI,aBin,one1_s,hlt,hd,idxOf])
 have hk := key 0 (by omega)
 have hlen : PO.eval .lenL [strsD ys] = some [.int .i64 ys.length] := len_S ys
 simp only [ir45,den_op,den_loop,opD_some,val_c,val_v,List.map_cons,List.map_nil,getD_0,getD_s,List.cons_append,List.nil_append,hlen]
 exact hk
theorem contains_run (ys : List (List UInt8)) (s : List UInt8) (hl : ys.length < 4611686018427387904) : run tb 29 [strsD ys,.str s] = some [.bool (ys.contains s)] := by
 refine run_ir (x := ir29) rfl ?_
 have h := index_run ys s hl
 simp only [ir29,den_op,den_call,den_ret,opD_some,val_c,val_v,List.map_cons,List.map_nil,getD_0,getD_s,List.cons_append,List.nil_append,h,callD_1,ev_binI,aBin,one1_s,reduceIte,if_true]
 rw [← idxOf_ge s ys 0]
theorem formula_leaf (n : Nat) (h1 : 1 ≤ n) (h2 : n ≤ 26) (l : List Int) (hl : l.length ≤ 2000) (d : Nat) (dI c k : Int) (p : Nat) (hp : p ≤ l.length) : ∃ (f : F) (b : Nat),b ≤ l.length ∧ Made n d f ∧
 den (run tb) ir4p3 [.int .i64 n,.int .i64 dI,numsD l,.int .i64 c,.int .i64 k,numsD l,.int .i64 p,.bool true] [] = some [.int .i64 f.op,.str f.name,.sl (F.encs f.args),numsD l,.int .i64 b] := by
 by_cases hk : k = 0
 · obtain ⟨r,b,r0,r1,hb,hr⟩ := n_run 2 l p hl hp (by omega) (by omega)
   refine ⟨F.mk (1 + r) [] [],b,hb,?_,?_⟩
   · rcases (show r = 0 ∨ r = 1 by omega) with rfl | rfl
     · exact made_const (.inl rfl)
     · exact made_const (.inr rfl)
   · simp (disch := omega) only [ir4p3,stepQ,stepL,eq_self,aBin,reduceIte,Int.reduceEq,Int.reduceLT,Int.reduceLE,Int.reduceGT,Int.reduceGE,hk,hr,wr,F.op,F.name,F.args,F.encs]
 · obtain ⟨r,b,r0,r1,hb,hr⟩ := n_run n l p hl hp (by omega) (by omega)
   refine ⟨F.mk 3 [(97 + r).toNat.toUInt8] [],b,hb,made_atom r0 r1 h2,?_⟩
   simp (disch := omega) only [ir4p3,stepQ,stepL,eq_self,aBin,reduceIte,Int.reduceEq,Int.reduceLT,Int.reduceLE,Int.reduceGT,Int.reduceGE,hk,hr,wr,w8,ev_toS1,F.op,F.name,F.args,F.encs]
theorem formula_loop (n : Nat) (l : List Int) (hl : l.length ≤ 2000) (d : Nat) (hd : d < 20) (dI : Int) (hdI : dI = (d : Int) + 1)
 (ih : ∀ p,p ≤ l.length → ∃ (f : F) (b : Nat),b ≤ l.length ∧ Made n d f ∧ run tb 4 [.int .i64 n,.int .i64 d,numsD l,.int .i64 p] = some [.int .i64 f.op,.str f.name,.sl (F.encs f.args),numsD l,.int .i64 b])
 (o : Int) (m : Nat) (mI : Int) (hmI : mI = m) (p0 : Nat) (x3 x4 x5 x6 x7 x8 x9 : D) (hm : m ≤ 3) (hM : ∀ gs : List F,gs.length = m → (∀ g ∈ gs,Made n d g) → Made n (d + 1) (F.mk o [] gs)) (hp0 : p0 ≤ l.length) : ∃ (f : F) (b : Nat),b ≤ l.length ∧ Made n (d + 1) f ∧
  den (run tb) ir4p1 [.int .i64 n,.int .i64 dI,numsD l,x3,x4,x5,x6,x7,x8,x9,.int .i64 o,.int .i64 mI,numsD l,.int .i64 p0] [] = some [.int .i64 f.op,.str f.name,.sl (F.encs f.args),numsD l,.int .i64 b] := by
 subst hmI
 subst hdI
 have hloop := loop_kx (run := run tb) (body := ir4p0) (e := [.int .i64 n,.int .i64 ((d : Int) + 1),numsD l,x3,x4,x5,x6,x7,x8,x9,.int .i64 o,.int .i64 m,numsD l,.int .i64 p0]) (J := []) (σ := Nat × List F) m
  (fun i s => s.1 ≤ l.length ∧ s.2.length = i ∧ ∀ g ∈ s.2,Made n d g) (fun i s => [.int .i64 i,numsD l,.int .i64 s.1,.sl (F.encs s.2)])
  (fun r => ∃ (f : F) (b : Nat),b ≤ l.length ∧ Made n (d + 1) f ∧ r = [.int .i64 f.op,.str f.name,.sl (F.encs f.args),numsD l,.int .i64 b])
  (by
   rintro i ⟨p,gs⟩ L hi ⟨q1,q2,q3⟩ hL
   dsimp only at q1 q2 q3 hL ⊢
   obtain ⟨f,b,hb,hf,hr⟩ := ih p q1
   simp (disch := omega) only [ir4p0,stepQ,stepL,eq_self,aBin,reduceIte,Int.reduceEq,Int.reduceLT,Int.reduceLE,Int.reduceGT,Int.reduceGE,nat_lt,hi,hr,app_F,wr,natS]
   refine hL (b,gs ++ [f]) ⟨hb,by simp [q2],fun g hg => ?_⟩
   simp only [List.mem_append,List.mem_singleton] at hg
   rcases hg with hg | rfl
   · exact q3 g hg
   · exact hf)
  (by
   rintro ⟨p,gs⟩ L ⟨q1,q2,q3⟩
   dsimp only at q1 q2 q3 ⊢
   refine ⟨_,?_,F.mk o [] gs,p,q1,hM gs q2 q3,rfl⟩
   simp (disch := omega) only [ir4p0,stepQ,stepL,eq_self,aBin,reduceIte,Int.reduceEq,Int.reduceLT,Int.reduceLE,Int.reduceGT,Int.reduceGE,nat_lt,Nat.lt_irrefl,F.op,F.name,F.args])
 obtain ⟨r,hr,f,b,hb,hf,rfl⟩ := hloop 0 (p0,[]) (by omega) ⟨hp0,rfl,by simp⟩
 refine ⟨f,b,hb,hf,?_⟩
 simp only [ir4p1,k_loop,val_c,val_v,List.map_cons,List.map_nil,getD_0,getD_s]
 exact hr
abbrev opsD : D := .sl [[.int .i64 4],[.int .i64 4],[.int .i64 5],[.int .i64 5],[.int .i64 6],[.int .i64 6],[.int .i64 7],[.int .i64 8]]
theorem ops_mk : PO.eval (.mk 1 8) [.int .i64 4,.int .i64 4,.int .i64 5,.int .i64 5,.int .i64 6,.int .i64 6,.int .i64 7,.int .i64 8] = some [opsD] := rfl
theorem ops_chk {k : Int} (h : 0 ≤ k) (h1 : k < 8) : PO.eval .chk [opsD,.int .i64 k] = some [] := ev_chk h h1
def opAt (k : Int) : Int := if k < 2 then 4 else if k < 4 then 5 else if k < 6 then 6 else if k < 7 then 7 else 8
theorem ops_get {k : Int} (h : 0 ≤ k) (h1 : k < 8) : PO.eval (.get 0 1) [opsD,.int .i64 k] = some [.int .i64 (opAt k)] := by
 rcases (show k = 0 ∨ k = 1 ∨ k = 2 ∨ k = 3 ∨ k = 4 ∨ k = 5 ∨ k = 6 ∨ k = 7 by omega) with rfl | rfl | rfl | rfl | rfl | rfl | rfl | rfl <;> rfl
theorem formula_run (n : Nat) (h1 : 1 ≤ n) (h2 : n ≤ 26) (l : List Int) (hl : l.length ≤ 2000) : ∀ (d : Nat),d < 20 → ∀ p,p ≤ l.length →
 ∃ (f : F) (b : Nat),b ≤ l.length ∧ Made n d f ∧ run tb 4 [.int .i64 n,.int .i64 d,numsD l,.int .i64 p] = some [.int .i64 f.op,.str f.name,.sl (F.encs f.args),numsD l,.int .i64 b] := by
 intro d
 induction d with
 | zero =>
  intro _ p hp
  obtain ⟨k,b,k0,k1,hb,hr⟩ := n_run 12 l p hl hp (by omega) (by omega)
  obtain ⟨f,b',hb',hm,hf⟩ := formula_leaf n h1 h2 l hl 0 0 p k b hb
  refine ⟨f,b',hb',hm,run_ir (x := ir4) rfl ?_⟩
  simp (disch := omega) only [ir4,stepQ,stepL,eq_self,aBin,reduceIte,Int.reduceEq,Int.reduceLT,Int.reduceLE,Int.reduceGT,Int.reduceGE,hr,nat0,hf]
 | succ d ih =>
  intro hd p hp
  obtain ⟨k,b,k0,k1,hb,hr⟩ := n_run 12 l p hl hp (by omega) (by omega)
  have hd1 : ¬ ((d + 1 : Nat) : Int) < 1 := by omega
  by_cases hk : k < 4
  · obtain ⟨f,b',hb',hm,hf⟩ := formula_leaf n h1 h2 l hl (d + 1) (d + 1 : Nat) p k b hb
    refine ⟨f,b',hb',hm,run_ir (x := ir4) rfl ?_⟩
    simp (disch := omega) only [ir4,stepQ,stepL,eq_self,aBin,reduceIte,Int.reduceEq,Int.reduceLT,Int.reduceLE,Int.reduceGT,Int.reduceGE,hr,hd1,hk,hf]
  have hwk : IntKind.i64.wrap (k - 4) = k - 4 := wr (by omega) (by omega)
  obtain ⟨r,b2,r0,r1,hb2,hr2⟩ := n_run 2 l b hl hb (by omega) (by omega)
  have hwr : IntKind.i64.wrap (2 + r) = 2 + r := wr (by omega) (by omega)
  have hchk := ops_chk (k := k - 4) (by omega) (by omega)
  have hget := ops_get (k := k - 4) (by omega) (by omega)
  have ho : opAt (k - 4) = 4 ∨ opAt (k - 4) = 5 ∨ opAt (k - 4) = 6 ∨ opAt (k - 4) = 7 ∨ opAt (k - 4) = 8 := by unfold opAt; omega
  generalize opAt (k - 4) = o at hget ho
  have key := fun m mI hmI p0 hm hM hp0 => formula_loop n l hl d (by omega) (d + 1 : Nat) rfl (fun p hp => ih (by omega) p hp) o m mI hmI p0 (.int .i64 p) (.int .i64 k) (numsD l) (.int .i64 b) (.bool false) opsD (.int .i64 (k - 4)) hm hM hp0
  have fin : ∀ {mI p0},(∃ (f : F) (c : Nat),c ≤ l.length ∧ Made n (d + 1) f ∧
   den (run tb) ir4p1 [.int .i64 n,.int .i64 (d + 1 : Nat),numsD l,.int .i64 p,.int .i64 k,numsD l,.int .i64 b,.bool false,opsD,.int .i64 (k - 4),.int .i64 o,.int .i64 mI,numsD l,.int .i64 p0] [] = some [.int .i64 f.op,.str f.name,.sl (F.encs f.args),numsD l,.int .i64 c]) →
   ((o = 4 ∧ mI = 1 ∧ p0 = (b : Int)) ∨ ((o = 5 ∨ o = 6) ∧ mI = 2 + r ∧ p0 = (b2 : Int)) ∨ ((o = 7 ∨ o = 8) ∧ mI = 2 ∧ p0 = (b : Int))) →
   ∃ (f : F) (b : Nat),b ≤ l.length ∧ Made n (d + 1) f ∧ run tb 4 [.int .i64 n,.int .i64 (d + 1 : Nat),numsD l,.int .i64 p] = some [.int .i64 f.op,.str f.name,.sl (F.encs f.args),numsD l,.int .i64 b] := by
   rintro mI p0 ⟨f,b',hb',hf,hrun⟩ ho
   refine ⟨f,b',hb',hf,run_ir (x := ir4) rfl ?_⟩
   rcases ho with ⟨rfl,rfl,rfl⟩ | ⟨rfl | rfl,rfl,rfl⟩ | ⟨rfl | rfl,rfl,rfl⟩ <;>
    simp only [ir4,ir4p3,ir4p2,stepQ,stepL,eq_self,aBin,reduceIte,Int.reduceEq,Int.reduceLT,Int.reduceLE,Int.reduceGT,Int.reduceGE,hr,hd1,hk,ops_mk,hchk,hwk,hget,hr2,hwr,hrun]
  obtain ⟨r,rfl⟩ : ∃ m : Nat,r = m := ⟨r.toNat,by omega⟩
  rcases ho with rfl | rfl | rfl | rfl | rfl
  · exact fin (key 1 1 rfl b (by omega) (fun gs hl hg => made_node (by omega) hg) hb) (.inl ⟨rfl,rfl,rfl⟩)
  · exact fin (key (2 + r) (2 + r) (by omega) b2 (by omega) (fun gs hl hg => made_node (by omega) hg) hb2) (.inr (.inl ⟨.inl rfl,rfl,rfl⟩))
  · exact fin (key (2 + r) (2 + r) (by omega) b2 (by omega) (fun gs hl hg => made_node (by omega) hg) hb2) (.inr (.inl ⟨.inr rfl,rfl,rfl⟩))
  · exact fin (key 2 2 rfl b (by omega) (fun gs hl hg => made_node (by omega) hg) hb) (.inr (.inr ⟨.inl rfl,rfl,rfl⟩))
  · exact fin (key 2 2 rfl b (by omega) (fun gs hl hg => made_node (by omega) hg) hb) (.inr (.inr ⟨.inr rfl,rfl,rfl⟩))
variable {R : Nat → PF} {e : Env} {J : List PF}
theorem size14_run : ∀ (f : F),f.size < 1000000000 → run tb 41 (rowF f) = some [.int .i64 f.size] := by
 refine bySizeF fun f ih hs => ?_
 refine run_ir (x := ir41) rfl ?_
 have hla := F.sizes_len f.args
 have hse := F.size_eq f
 have key := loop_k (run := run tb) (body := ir41p0) (e := rowF f ++ [.int .i64 f.args.length]) (J := []) (σ := Nat) f.args.length
  (fun i n => n = 1 + F.sizes (f.args.take i)) (fun i n => [.int .i64 n,.int .i64 i]) (fun _ _ => [.int .i64 f.size])
  (by
   rintro i n L hi hn hL
   have hm : f.args[i] ∈ f.args := List.getElem_mem hi
   have h1 := mem_size hm
   have h2 := F.sizes_take f.args i hi
   have h3 := F.sizes_take_le f.args (i + 1)
   have hr := ih _ hm (by omega)
   have hadd : IntKind.i64.wrap ((n : Int) + (f.args[i].size : Int)) = ((n + f.args[i].size : Nat) : Int) := by rw [wr (n := (n : Int) + (f.args[i].size : Int)) (by omega) (by omega)]; omega
   have hnext := hL (n + f.args[i].size) (by omega)
   simp only [rowF] at hr
   simp (disch := omega) only [ir41p0,rowF,stepQ,stepL,eq_self,aBin,reduceIte,Int.reduceEq,Int.reduceLT,Int.reduceLE,Int.reduceGT,Int.reduceGE,hi,row_F,hr,hadd,wr,natS,hnext])
  (by
   rintro n L hn
   have hr : f.size = n := by rw [List.take_length] at hn; omega
   rw [hr]
   simp (disch := omega) only [ir41p0,rowF,stepQ,stepL,eq_self,aBin,reduceIte,Int.reduceEq,Int.reduceLT,Int.reduceLE,Int.reduceGT,Int.reduceGE,Nat.lt_irrefl])
 have hk := key 0 1 (by omega) (by simp [F.sizes])
 simp only [rowF,nat0,Int.cast_ofNat_Int,List.cons_append,List.nil_append] at hk
 simp only [ir41,rowF,stepQ,stepL,eq_self,aBin,reduceIte,Int.reduceEq,Int.reduceLT,Int.reduceLE,Int.reduceGT,Int.reduceGE,hk]
theorem depth16_run : ∀ (f : F),f.size < 1000000000 → run tb 42 (rowF f) = some [.int .i64 f.depth] := by
 refine bySizeF fun f ih hs => ?_
 refine run_ir (x := ir42) rfl ?_
 have hla := F.sizes_len f.args
 have hse := F.size_eq f
 have key := loop_k (run := run tb) (body := ir42p0) (e := rowF f ++ [.int .i64 f.args.length]) (J := []) (σ := Nat) f.args.length
  (fun i n => n = F.depths (f.args.take i)) (fun i n => [.int .i64 n,.int .i64 i]) (fun _ _ => [.int .i64 f.depth])
  (by
   rintro i n L hi hn hL
   have hm : f.args[i] ∈ f.args := List.getElem_mem hi
   have h1 := mem_size hm
   have h2 := F.depths_take f.args i hi
   have h3 := F.depth_size f.args[i]
   have hr := ih _ hm (by omega)
   have hadd : IntKind.i64.wrap (1 + (f.args[i].depth : Int)) = ((1 + f.args[i].depth : Nat) : Int) := by rw [wr (n := 1 + (f.args[i].depth : Int)) (by omega) (by omega)]; omega
   have hmax : (if n < 1 + f.args[i].depth then ((1 + f.args[i].depth : Nat) : Int) else (n : Int)) = ((max n (1 + f.args[i].depth) : Nat) : Int) := by split <;> omega
   have hnext := hL (max n (1 + f.args[i].depth)) (by omega)
   simp only [rowF] at hr
   simp (disch := omega) only [ir42p0,rowF,stepQ,stepL,eq_self,aBin,reduceIte,Int.reduceEq,Int.reduceLT,Int.reduceLE,Int.reduceGT,Int.reduceGE,hi,row_F,hr,hadd,hmax,wr,natS,hnext])
  (by
   rintro n L hn
   have hr : f.depth = n := by rw [List.take_length] at hn; rw [F.depth_eq]; omega
   rw [hr]
   simp (disch := omega) only [ir42p0,rowF,stepQ,stepL,eq_self,aBin,reduceIte,Int.reduceEq,Int.reduceLT,Int.reduceLE,Int.reduceGT,Int.reduceGE,Nat.lt_irrefl])
 have hk := key 0 0 (by omega) (by simp [F.depths])
 simp only [rowF,nat0,List.cons_append,List.nil_append] at hk
 simp only [ir42,rowF,stepQ,stepL,eq_self,aBin,reduceIte,Int.reduceEq,Int.reduceLT,Int.reduceLE,Int.reduceGT,Int.reduceGE,hk]
theorem validName57_run (s : List UInt8) (hs : s.length < 9223372036854775808) : run tb 38 [.str s] = some [.bool (validName s)] := by
 refine run_ir (x := ir38) rfl ?_
 cases s with
 | nil =>
  simp only [ir38,ir38p2,stepQ,stepL,eq_self,aBin,reduceIte,Int.reduceEq,Int.reduceLT,Int.reduceLE,Int.reduceGT,Int.reduceGE,List.length_nil,show validName [] = false from rfl]
 | cons c l =>
  rw [validName_cons]
  have h1 : ¬ (((c :: l).length : Nat) : Int) < 1 := by simp; omega
  have hpos : 0 < (c :: l).length := by simp
  by_cases hl : (c :: l).length ≤ 12
  · have h2 : ¬ (((c :: l).length : Nat) : Int) > 12 := by omega
    have key := loop_k (run := run tb) (body := ir38p1) (e := [.str (c :: l),.bool false]) (J := []) (σ := Unit) (c :: l).length
     (fun _ _ => True) (fun i _ => [.int .i64 i]) (fun i _ => [.bool (((c :: l).drop i).all okc)])
     (by
      rintro i _ L hi _ hL
      have hnext := hL () trivial
      rw [drop_s hi,List.all_cons]
      generalize hd : ((c :: l).drop (i + 1)).all okc = b at hnext
      generalize (c :: l) = s at *
      unfold okc
      generalize hx : (s[i].toNat : Int) = x
      by_cases a1 : x < 97 <;> by_cases a2 : x > 122 <;> by_cases a3 : x < 48 <;> by_cases a4 : x > 57 <;> by_cases a5 : x = 95 <;> first | omega | skip
      all_goals
       simp (disch := omega) only [ir38p1,ir38p0,stepQ,stepL,eq_self,aBin,reduceIte,Int.reduceEq,Int.reduceLT,Int.reduceLE,Int.reduceGT,Int.reduceGE,hi,idx_S,hx,ibne,a1,a2,a3,a4,a5,wr,natS,hnext,show (97 ≤ x) = ¬ (x < 97) by simp,show (x ≤ 122) = ¬ (x > 122) by simp,show (48 ≤ x) = ¬ (x < 48) by simp,show (x ≤ 57) = ¬ (x > 57) by simp,not_true_eq_false,not_false_eq_true,Bool.or_self,Bool.or_false,Bool.or_true])
     (by
      rintro _ L _
      rw [List.drop_length]
      simp (disch := omega) only [ir38p1,stepQ,stepL,eq_self,aBin,reduceIte,Int.reduceEq,Int.reduceLT,Int.reduceLE,Int.reduceGT,Int.reduceGE,Nat.lt_irrefl,List.all_nil])
    have hk := key 0 () (by omega) trivial
    simp only [nat0,List.drop_zero,List.cons_append,List.nil_append] at hk
    have hc : (c :: l)[0] = c := rfl
    by_cases a1 : (c.toNat : Int) < 97
    · simp (disch := omega) only [ir38,ir38p2,stepQ,stepL,eq_self,aBin,reduceIte,Int.reduceEq,Int.reduceLT,Int.reduceLE,Int.reduceGT,Int.reduceGE,h1,h2,idx_S0,hc,a1,hl,show (97 ≤ (c.toNat : Int)) = False by simp; omega]
    · by_cases a2 : (c.toNat : Int) > 122
      · simp (disch := omega) only [ir38,ir38p2,stepQ,stepL,eq_self,aBin,reduceIte,Int.reduceEq,Int.reduceLT,Int.reduceLE,Int.reduceGT,Int.reduceGE,h1,h2,idx_S0,hc,a1,a2,hl,show ((c.toNat : Int) ≤ 122) = False by simp; omega]
      · simp (disch := omega) only [ir38,ir38p2,stepQ,stepL,eq_self,aBin,reduceIte,Int.reduceEq,Int.reduceLT,Int.reduceLE,Int.reduceGT,Int.reduceGE,h1,h2,idx_S0,hc,a1,a2,hl,hk,show (97 ≤ (c.toNat : Int)) = True by simp; omega,show ((c.toNat : Int) ≤ 122) = True by simp; omega]
  · have h2 : (((c :: l).length : Nat) : Int) > 12 := by omega
    simp only [ir38,ir38p2,stepQ,stepL,eq_self,aBin,reduceIte,Int.reduceEq,Int.reduceLT,Int.reduceLE,Int.reduceGT,Int.reduceGE,h1,h2,hl]
theorem counted_eq (f : F) : counted f = if f.op = 1 ∨ f.op = 2 ∨ f.op = 3 then decide (f.args.length = 0) else if f.op = 4 then decide (f.args.length = 1) else if f.op = 5 ∨ f.op = 6 then (decide (2 ≤ f.args.length) && decide (f.args.length ≤ 6)) else if f.op = 7 ∨ f.op = 8 then decide (f.args.length = 2) else false := by
 unfold counted
 simp only [ibeq,Bool.or_eq_true,decide_eq_true_eq,or_assoc,ge_iff_le]
 have e0 : ((f.args.length : Int) = 0) = (f.args.length = 0) := propext ⟨fun h => by omega,fun h => by omega⟩
 have e1 : ((f.args.length : Int) = 1) = (f.args.length = 1) := propext ⟨fun h => by omega,fun h => by omega⟩
 have e2 : ((f.args.length : Int) = 2) = (f.args.length = 2) := propext ⟨fun h => by omega,fun h => by omega⟩
 have e3 : (2 ≤ (f.args.length : Int)) = (2 ≤ f.args.length) := propext ⟨fun h => by omega,fun h => by omega⟩
 have e4 : ((f.args.length : Int) ≤ 6) = (f.args.length ≤ 6) := propext ⟨fun h => by omega,fun h => by omega⟩
 simp only [e0,e1,e2,e3,e4]
theorem all39 (f : F) (hs : f.size < 1000000000) : run tb 43 (rowF f) = some [.bool (F.allF counted f)] := by
 have := all39_run f.size (by omega) f (Nat.le_refl _)
 rwa [F.enc_eq] at this
theorem all40 (f : F) (hs : f.size < 1000000000) : run tb 44 (rowF f) = some [.bool (F.allF named f)] := by
 have := all40_run f.size (by omega) f (Nat.le_refl _)
 rwa [F.enc_eq] at this
theorem validate18_run (f : F) (hs : f.size < 1000000000) : run tb 27 (rowF f) = some [.int .i64 (validate f)] := by
 refine run_ir (x := ir27) rfl ?_
 have h1 := size14_run f hs
 have h2 := depth16_run f hs
 have h3 := all39 f hs
 have h4 := all40 f hs
 simp only [rowF] at h1 h2 h3 h4
 unfold validate
 by_cases a : (f.size : Int) > 600
 · simp only [ir27,ir27p0,rowF,stepQ,stepL,eq_self,aBin,reduceIte,Int.reduceEq,Int.reduceLT,Int.reduceLE,Int.reduceGT,Int.reduceGE,h1,a]
 by_cases b : (f.depth : Int) > 20
 · simp only [ir27,ir27p0,rowF,stepQ,stepL,eq_self,aBin,reduceIte,Int.reduceEq,Int.reduceLT,Int.reduceLE,Int.reduceGT,Int.reduceGE,h1,h2,a,b]
 cases c : F.allF counted f <;> cases d : F.allF named f <;>
 · rw [c] at h3
   rw [d] at h4
   simp only [ir27,ir27p0,rowF,stepQ,stepL,eq_self,aBin,reduceIte,Int.reduceEq,Int.reduceLT,Int.reduceLE,Int.reduceGT,Int.reduceGE,h1,h2,h3,h4,a,b]
end Go.Proofs.YtojkhlijbpmgpaaGreat

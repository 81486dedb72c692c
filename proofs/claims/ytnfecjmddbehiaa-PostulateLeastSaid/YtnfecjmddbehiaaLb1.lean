/- What functions of the program compute: lemmas. -/
import Derived.Test.YtnfecjmddbehiaaSb3
import Derived.Test.YtnfecjmddbehiaaAm4
set_option linter.unusedSimpArgs false
set_option linter.unusedVariables false
set_option linter.unusedSectionVars false
namespace Go.Proofs.Ytnfecjmddbehiaa
open Go Am
set_option maxRecDepth 100000
theorem raw_run (l : List Int) (at_ : Nat) (hl : l.length ≤ 2000) (ha : at_ ≤ l.length) : ∃ (x : Int) (b : Nat),b ≤ l.length ∧ run tb 27 [numsD l,.int .i64 at_] = some [.int .i64 x,numsD l,.int .i64 b] := by
 have e3 : IntKind.i64.wrap (at_ : Int) = (at_ : Int) := wr (by omega) (by omega)
 by_cases h : at_ < l.length
 · refine ⟨l[at_],at_ + 1,by omega,run_ir (x := ir27) rfl ?_⟩
   have e1 : IntKind.i64.wrap ((at_ : Int) + 1) = (at_ : Int) + 1 := wr (by omega) (by omega)
   have hd : decide (l.length ≤ at_) = false := by simp; omega
   simp [ir27,den,PO.eval,SA.val,one1,aBin,numsD,numR,go_sem,e1,e3,hd,h]
 · refine ⟨0,at_,ha,run_ir (x := ir27) rfl ?_⟩
   have hd : decide (l.length ≤ at_) = true := by simp; omega
   simp [ir27,den,PO.eval,SA.val,one1,aBin,numsD,numR,go_sem,hd]
theorem mod_run (x n : Int) (h0 : 1 ≤ n) (h1 : n < 4611686018427387904) : ∃ r : Int,0 ≤ r ∧ r < n ∧ run tb 28 [.int .i64 x,.int .i64 n] = some [.int .i64 r] := by
 have a1 : -n < Int.tmod x n := Int.lt_tmod_of_pos x (by omega)
 have a2 : Int.tmod x n < n := Int.tmod_lt_of_pos x (by omega)
 have hn : n ≠ 0 := by omega
 have hn1 : ¬ n < 1 := by omega
 have hw : IntKind.i64.wrap (Int.tmod x n) = Int.tmod x n := wr (by omega) (by omega)
 by_cases h : Int.tmod x n < 0
 · refine ⟨Int.tmod x n + n,by omega,by omega,run_ir (x := ir28) rfl ?_⟩
   have hw2 : IntKind.i64.wrap (Int.tmod x n + n) = Int.tmod x n + n := wr (by omega) (by omega)
   simp [ir28,ir28p0,den,PO.eval,SA.val,one1,aBin,hn,hn1,hw,h,hw2,go_sem]
 · refine ⟨Int.tmod x n,by omega,by omega,run_ir (x := ir28) rfl ?_⟩
   simp [ir28,ir28p0,den,PO.eval,SA.val,one1,aBin,hn,hn1,hw,h,go_sem]
theorem n_run (n : Int) (l : List Int) (at_ : Nat) (hl : l.length ≤ 2000) (ha : at_ ≤ l.length) (h0 : 1 ≤ n) (h1 : n < 4611686018427387904) :
 ∃ (r : Int) (b : Nat),0 ≤ r ∧ r < n ∧ b ≤ l.length ∧ run tb 7 [.int .i64 n,numsD l,.int .i64 at_] = some [.int .i64 r,numsD l,.int .i64 b] := by
 obtain ⟨x,b,hb,hr⟩ := raw_run l at_ hl ha
 obtain ⟨r,r0,r1,hm⟩ := mod_run x n h0 h1
 refine ⟨r,b,r0,r1,hb,run_ir (x := ir7) rfl ?_⟩
 simp [ir7,den,SA.val,hr,hm,numsD_sl]
theorem new_run (l : List Int) : ∃ l' : List Int,l'.length ≤ 2000 ∧ run tb 3 [numsD l] = some [numsD l',.int .i64 0] := by
 refine ⟨l.take (min l.length 2000),by simp; omega,run_ir (x := ir3) rfl ?_⟩
 by_cases h : (2000 : Int) < l.length
 · have h2 : (2000 : Int) ≤ l.length := by omega
   have h3 : min l.length 2000 = 2000 := by omega
   simp [ir3,den,PO.eval,SA.val,numsD,numR,h,h3,h2]
 · have h3 : min l.length 2000 = l.length := by omega
   have h4 : List.take l.length (List.map numR l) = List.map numR l := List.take_of_length_le (by simp)
   have h5 : ∀ x,x ∈ l → (numR x).length = 1 := fun x _ => rfl
   simp only [ir3,den,PO.eval,SA.val,numsD]
   simp [h,h3,h4]
   rw [if_pos h5]
   rfl
abbrev opsD : D := .sl [[.int .i64 4],[.int .i64 4],[.int .i64 5],[.int .i64 5],[.int .i64 6],[.int .i64 6],[.int .i64 7],[.int .i64 8]]
variable {R : Nat → PF} {e : Env} {J : List PF}
theorem validName57_run (s : List UInt8) (hs : s.length < 9223372036854775808) : run tb 49 [.str s] = some [.bool (validName s)] := by
 refine run_ir (x := ir49) rfl ?_
 cases s with
 | nil =>
  simp only [ir49,ir49p2,stepQ,stepL,eq_self,aBin,reduceIte,Int.reduceEq,Int.reduceLT,Int.reduceLE,Int.reduceGT,Int.reduceGE,List.length_nil,show validName [] = false from rfl]
 | cons c l =>
  rw [validName_cons]
  have h1 : ¬ (((c :: l).length : Nat) : Int) < 1 := by simp; omega
  have hpos : 0 < (c :: l).length := by simp
  by_cases hl : (c :: l).length ≤ 12
  · have h2 : ¬ (((c :: l).length : Nat) : Int) > 12 := by omega
    have key := loop_k (run := run tb) (body := ir49p1) (e := [.str (c :: l),.bool false]) (J := []) (σ := Unit) (c :: l).length
     (fun _ _ => True) (fun i _ => [.int .i64 i]) (fun i _ => [.bool (((c :: l).drop i).all okc)])
     (by
      rintro i _ L hi _ hL
      have hnext := hL () trivial
      rw [drop_s hi,List.all_cons]
      generalize hd : ((c :: l).drop (i + 1)).all okc = b at hnext
      generalize (c :: l) = s at *
      unfold okc
      generalize hx : (s[i].toNat : Int) = x
      by_cases a1 : x < 97 <;> by_cases a2 : x > 122 <;> by_cases a3 : x < 48 <;> by_cases a4 : x > 57 <;> by_cases a5 : x = 95 <;> first | omega | skip
      all_goals
       simp (disch := omega) only [ir49p1,ir49p0,stepQ,stepL,eq_self,aBin,reduceIte,Int.reduceEq,Int.reduceLT,Int.reduceLE,Int.reduceGT,Int.reduceGE,hi,idx_S,hx,ibne,a1,a2,a3,a4,a5,wr,natS,hnext,show (97 ≤ x) = ¬ (x < 97) by simp,show (x ≤ 122) = ¬ (x > 122) by simp,show (48 ≤ x) = ¬ (x < 48) by simp,show (x ≤ 57) = ¬ (x > 57) by simp,not_true_eq_false,not_false_eq_true,Bool.or_self,Bool.or_false,Bool.or_true])
     (by
      rintro _ L _
      rw [List.drop_length]
      simp (disch := omega) only [ir49p1,stepQ,stepL,eq_self,aBin,reduceIte,Int.reduceEq,Int.reduceLT,Int.reduceLE,Int.reduceGT,Int.reduceGE,Nat.lt_irrefl,List.all_nil])
    have hk := key 0 () (by omega) trivial
    simp only [nat0,List.drop_zero,List.cons_append,List.nil_append] at hk
    have hc : (c :: l)[0] = c := rfl
    by_cases a1 : (c.toNat : Int) < 97
    · simp (disch := omega) only [ir49,ir49p2,stepQ,stepL,eq_self,aBin,reduceIte,Int.reduceEq,Int.reduceLT,Int.reduceLE,Int.reduceGT,Int.reduceGE,h1,h2,idx_S0,hc,a1,hl,show (97 ≤ (c.toNat : Int)) = False by simp; omega]
    · by_cases a2 : (c.toNat : Int) > 122
      · simp (disch := omega) only [ir49,ir49p2,stepQ,stepL,eq_self,aBin,reduceIte,Int.reduceEq,Int.reduceLT,Int.reduceLE,Int.reduceGT,Int.reduceGE,h1,h2,idx_S0,hc,a1,a2,hl,show ((c.toNat : Int) ≤ 122) = False by simp; omega]
      · simp (disch := omega) only [ir49,ir49p2,stepQ,stepL,eq_self,aBin,reduceIte,Int.reduceEq,Int.reduceLT,Int.reduceLE,Int.reduceGT,Int.reduceGE,h1,h2,idx_S0,hc,a1,a2,hl,hk,show (97 ≤ (c.toNat : Int)) = True by simp; omega,show ((c.toNat : Int) ≤ 122) = True by simp; omega]
  · have h2 : (((c :: l).length : Nat) : Int) > 12 := by omega
    simp only [ir49,ir49p2,stepQ,stepL,eq_self,aBin,reduceIte,Int.reduceEq,Int.reduceLT,Int.reduceLE,Int.reduceGT,Int.reduceGE,h1,h2,hl]
end Go.Proofs.Ytnfecjmddbehiaa

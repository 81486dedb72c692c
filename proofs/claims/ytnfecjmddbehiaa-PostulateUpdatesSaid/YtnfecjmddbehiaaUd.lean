/- What functions of the program compute: lemmas. -/
import Derived.Test.YtnfecjmddbehiaaLb1
import Derived.Test.YtnfecjmddbehiaaAm6
import Derived.Test.YtnfecjmddbehiaaSb1
import Derived.Test.YtnfecjmddbehiaaWd
import Derived.Test.YtnfecjmddbehiaaOd
import Derived.Test.YtnfecjmddbehiaaAm7
import Derived.Shelf.Spec.TrailingZeros
set_option linter.unusedSimpArgs false
set_option linter.unusedVariables false
set_option linter.unusedSectionVars false
namespace Go.Proofs.Ytnfecjmddbehiaa
open Go Am
set_option maxRecDepth 100000
end Go.Proofs.Ytnfecjmddbehiaa

namespace Go.Proofs.Ytnfecjmddbehiaa
open Go Am Go.Proofs
set_option maxRecDepth 100000
variable {G : Glob}
end Go.Proofs.Ytnfecjmddbehiaa

namespace Go.Proofs.Ytnfecjmddbehiaa
open Go Am
set_option maxRecDepth 100000
def dOk (d : Int) : Bool := decide (1 ≤ d) && decide (d ≤ 3)
end Go.Proofs.Ytnfecjmddbehiaa

namespace Go.Proofs.Ytnfecjmddbehiaa
open Go Am
set_option maxRecDepth 100000
theorem dOk_2 {d : Int} (h1 : 1 ≤ d) (h2 : d ≤ 3) : dOk d = true := by unfold dOk; simp [h1,h2]
def nearE (names : List (List UInt8)) (v d : Int) : Int := if vocOk names = false ∨ v < 0 ∨ ((2 ^ names.length : Nat) : Int) ≤ v then 1 else if dOk d = false then 4 else 0
def nearA (names : List (List UInt8)) (v : Int) (X : BitVec 64) (d : Int) : BitVec 64 := if nearE names v d = 0 then nearS (2 ^ names.length) v X d else 0#64
end Go.Proofs.Ytnfecjmddbehiaa

namespace Go.Proofs.Ytnfecjmddbehiaa
open Go Am
set_option maxRecDepth 100000
set_option maxHeartbeats 2000000
end Go.Proofs.Ytnfecjmddbehiaa

namespace Go.Proofs.Ytnfecjmddbehiaa
open Go Am
set_option maxRecDepth 100000
theorem distR_run (v w : Int) : run tb 59 [.int .i64 v,.int .i64 w] = some [.int .i64 (ones (dif v w) 64)] := by
 refine run_ir (x := ir59) rfl ?_
 rw [show ones (dif v w) 64 = ones (dif v w) 6 from ones_6 _ (dif_6 v w) 58]
 simp (disch := omega) only [ir59,stepQ,stepL,eq_self,aBin,reduceIte,Int.reduceEq,Int.reduceLT,Int.reduceLE,Int.reduceGT,Int.reduceGE]
 refine loop_k (σ := Unit) 6 (fun _ _ => True) (fun i _ => [.int .i64 (ones (dif v w) i),.int .i64 i]) (fun _ _ => [.int .i64 (ones (dif v w) 6)]) ?_ ?_ 0 () (Nat.zero_le _) trivial
 · rintro i _ L hi _ hL
   have hnext := hL () trivial
   have hi' : (i : Int) < 6 := by omega
   have hle : ones (dif v w) i ≤ 64 := by
    have : ∀ k,ones (dif v w) k ≤ k := fun k => by
     induction k with
     | zero => exact Nat.le_refl _
     | succ k ih =>
      have : ((dif v w).getLsbD k).toNat ≤ 1 := by cases (dif v w).getLsbD k <;> simp
      simp only [ones]; omega
    have := this i; omega
   rw [show ones (dif v w) (i + 1) = ones (dif v w) i + ((dif v w).getLsbD i).toNat from rfl,dif_get,decide_eq_true hi,Bool.true_and] at hnext
   have hwu : IntKind.u64.wrap (i : Int) = (i : Int) := wrapU (by omega) (by omega)
   have e1 := bitI v i (by omega)
   have e2 := bitI w i (by omega)
   cases hx : (BitVec.ofInt 64 v).getLsbD i <;> cases hy : (BitVec.ofInt 64 w).getLsbD i <;>
   · rw [hx,hy] at hnext
     rw [hx] at e1
     rw [hy] at e2
     simp only [Bool.xor_false,Bool.xor_true,Bool.not_true,Bool.not_false,Bool.toNat_true,Bool.toNat_false,Nat.add_zero,Bool.false_eq_true,if_true,if_false,Bool.xor_self] at hnext e1 e2
     simp (disch := omega) only [ir59p1,ir59p0,stepQ,stepL,eq_self,aBin,reduceIte,Int.reduceEq,Int.reduceLT,Int.reduceLE,Int.reduceGT,Int.reduceGE,hwu,nat_nn,hi',e1,e2,ibne,wr,natS,hnext]
 · rintro _ L _
   simp (disch := omega) only [ir59p1,stepQ,stepL,eq_self,aBin,reduceIte,Int.reduceEq,Int.reduceLT,Int.reduceLE,Int.reduceGT,Int.reduceGE]
theorem int_andNot {tb : Bool} (a b : Int) : PO.eval (.bin .andNot tb) [.int .i64 a,.int .i64 b] = some [.int .i64 (IntKind.i64.wrap ((BitVec.ofInt IntKind.i64.bits a &&& ~~~ BitVec.ofInt IntKind.i64.bits b).toNat : Int))] := rfl
theorem nearerR_run {v w u : Nat} (hv : v < 64) (hw : w < 64) (hu : u < 64) (d : Int) (hd : dOk d = true) :
 run tb 51 [.int .i64 v,.int .i64 w,.int .i64 u,.int .i64 d] = some [.bool (nearP d (dif v w) (dif v u))] := by
 refine run_ir (x := ir51) rfl ?_
 unfold dOk at hd
 simp only [Bool.and_eq_true,decide_eq_true_eq] at hd
 rcases (by omega : d = 1 ∨ d = 2 ∨ d = 3) with rfl | rfl | rfl
 · have h1 := distR_run v w
   have h2 := distR_run v u
   have e : nearP 1 (dif v w) (dif v u) = decide ((ones (dif v w) 64 : Int) < (ones (dif v u) 64 : Int)) := by simp [nearP]
   rw [e]
   simp (disch := omega) only [ir51,stepQ,stepL,eq_self,aBin,reduceIte,Int.reduceEq,Int.reduceLT,Int.reduceLE,Int.reduceGT,Int.reduceGE,h1,h2]
 · have hx : v ^^^ w < 64 := Nat.xor_lt_two_pow (n := 6) (by omega) (by omega)
   have hy : v ^^^ u < 64 := Nat.xor_lt_two_pow (n := 6) (by omega) (by omega)
   have e : nearP 2 (dif v w) (dif v u) = (decide (dif v w &&& ~~~dif v u = 0#64) && !decide (dif v w = dif v u)) := rfl
   have f1 : (dif v w = dif v u) ↔ ((v ^^^ w : Nat) : Int) = ((v ^^^ u : Nat) : Int) := by
    rw [dif_nat hv hw,dif_nat hv hu]
    constructor
    · intro h
      have := congrArg BitVec.toNat h
      rw [BitVec.toNat_ofNat,BitVec.toNat_ofNat,Nat.mod_eq_of_lt (by omega),Nat.mod_eq_of_lt (by omega)] at this
      rw [this]
    · intro h
      have : v ^^^ w = v ^^^ u := by omega
      rw [this]
   have f2 : IntKind.i64.wrap ((BitVec.ofInt 64 ((v ^^^ w : Nat) : Int) &&& ~~~ BitVec.ofInt 64 ((v ^^^ u : Nat) : Int)).toNat : Int) = 0 ↔ dif v w &&& ~~~dif v u = 0#64 := by
    rw [ofIntN,ofIntN,← dif_nat hv hw,← dif_nat hv hu]
    have hl : (dif v w &&& ~~~dif v u).toNat < 64 := by
     have h6 : (dif v w).toNat < 2 ^ 6 := by rw [dif_nat hv hw,BitVec.toNat_ofNat,Nat.mod_eq_of_lt (by omega)]; omega
     rw [BitVec.toNat_and]
     exact Nat.lt_of_le_of_lt Nat.and_le_left h6
    rw [wr (by omega) (by omega)]
    constructor
    · intro h; exact BitVec.eq_of_toNat_eq (by simp only [BitVec.toNat_ofNat]; omega)
    · intro h; rw [h]; rfl
   rw [e]
   have ix := int_xor (tb := false) (a := v) (b := w) (by omega) (by omega)
   have iy := int_xor (tb := false) (a := v) (b := u) (by omega) (by omega)
   have ia := int_andNot (tb := false) ((v ^^^ w : Nat) : Int) ((v ^^^ u : Nat) : Int)
   have f2' : (PO.eval (.bin .andNot false) [.int .i64 ((v ^^^ w : Nat) : Int),.int .i64 ((v ^^^ u : Nat) : Int)] = some [.int .i64 (IntKind.i64.wrap ((BitVec.ofInt 64 ((v ^^^ w : Nat) : Int) &&& ~~~ BitVec.ofInt 64 ((v ^^^ u : Nat) : Int)).toNat : Int))]) := ia
   clear ia
   generalize IntKind.i64.wrap ((BitVec.ofInt 64 ((v ^^^ w : Nat) : Int) &&& ~~~ BitVec.ofInt 64 ((v ^^^ u : Nat) : Int)).toNat : Int) = Z at *
   have f3 : decide (dif v w &&& ~~~dif v u = 0#64) = decide (Z = 0) := decide_eq_decide.2 f2.symm
   have f4 : decide (dif v w = dif v u) = decide (((v ^^^ w : Nat) : Int) = ((v ^^^ u : Nat) : Int)) := decide_eq_decide.2 f1
   rw [f3,f4]
   generalize v ^^^ w = X at *
   generalize v ^^^ u = Y at *
   have s1 : ∀ (d : Int),d = 2 → True := fun _ _ => trivial
   have r1 : den (run tb) ir51 [.int .i64 v,.int .i64 w,.int .i64 u,.int .i64 2] [] = some [.bool (decide (Z = 0) && !decide ((X : Int) = (Y : Int)))] := by
    by_cases c : (X : Int) = (Y : Int)
    · have c' : ((X : Int) != (Y : Int)) = false := by rw [ibne,decide_eq_true c]; rfl
      rw [decide_eq_true c]
      simp only [ir51,k_op,k_ite,k_ret,opQ_s,iteQ_t,iteQ_f,val_c,val_v,getD_0,getD_s,List.map_cons,List.map_nil,List.cons_append,List.nil_append,ix,iy,f2',ev_binI,aBin,one1_s,reduceIte,Int.reduceEq,Int.reduceBEq,c',Bool.not_true,Bool.and_false]
    · have c' : ((X : Int) != (Y : Int)) = true := by rw [ibne,decide_eq_false c]; rfl
      rw [decide_eq_false c]
      have zb : (Z == 0) = decide (Z = 0) := by by_cases h : Z = 0 <;> simp [h]
      simp only [ir51,k_op,k_ite,k_ret,opQ_s,iteQ_t,iteQ_f,val_c,val_v,getD_0,getD_s,List.map_cons,List.map_nil,List.cons_append,List.nil_append,ix,iy,f2',ev_binI,aBin,one1_s,reduceIte,Int.reduceEq,Int.reduceBEq,c',zb,Bool.not_false,Bool.and_true]
   exact r1
 · have e : nearP 3 (dif v w) (dif v u) = (decide (dif v w = 0#64) && !decide (dif v u = 0#64)) := rfl
   have f1 : decide (dif v w = 0#64) = decide ((w : Int) = (v : Int)) := decide_eq_decide.2 (by rw [dif_zero hv hw]; omega)
   have f2 : decide (dif v u = 0#64) = decide ((u : Int) = (v : Int)) := decide_eq_decide.2 (by rw [dif_zero hv hu]; omega)
   rw [e,f1,f2]
   by_cases c : (w : Int) = (v : Int)
   · have hwv : w = v := by omega
     subst hwv
     simp (disch := omega) only [ir51,stepQ,stepL,eq_self,aBin,reduceIte,Int.reduceEq,Int.reduceLT,Int.reduceLE,Int.reduceGT,Int.reduceGE,ibne,decide_true,Bool.true_and]
   · simp (disch := omega) only [ir51,stepQ,stepL,eq_self,aBin,reduceIte,Int.reduceEq,Int.reduceLT,Int.reduceLE,Int.reduceGT,Int.reduceGE,ibne,c,decide_false,Bool.false_and]
theorem hasR_run (x : BitVec 64) (w : Nat) (h : w < 9223372036854775808) : run tb 50 [bvD x,.int .i64 w] = some [.bool (x.getLsbD w)] := by
 refine run_ir (x := ir50) rfl ?_
 simp (disch := omega) only [ir50,stepQ,stepL,eq_self,aBin,reduceIte,Int.reduceEq,Int.reduceLT,Int.reduceLE,Int.reduceGT,Int.reduceGE,bvQ,wu,shl_norm,shr_norm,and1_norm]
theorem kind34_run (d : Int) : run tb 36 [.int .i64 d] = some [.bool (dOk d)] := by
 refine run_ir (x := ir36) rfl ?_
 unfold dOk
 have e : decide (1 ≤ d) = decide (d ≥ 1) := rfl
 rw [e]
 by_cases h : d ≥ 1
 · simp (disch := omega) only [ir36,stepQ,stepL,eq_self,aBin,reduceIte,Int.reduceEq,Int.reduceLT,Int.reduceLE,Int.reduceGT,Int.reduceGE,h,decide_true,Bool.true_and]
 · simp (disch := omega) only [ir36,stepQ,stepL,eq_self,aBin,reduceIte,Int.reduceEq,Int.reduceLT,Int.reduceLE,Int.reduceGT,Int.reduceGE,h,decide_false,Bool.false_and]
theorem nearestQ_run {n : Nat} (hn : n ≤ 64) {v : Nat} (hv : v < 64) (X : BitVec 64) (d : Int) (hd : dOk d = true) :
 run tb 37 [.int .i64 n,.int .i64 v,bvD X,.int .i64 d] = some [bvD (nearS n v X d)] := by
 refine run_ir (x := ir37) rfl ?_
 obtain ⟨q,hq⟩ : ∃ q : Nat → Bool,q = fun w => X.getLsbD w && (List.range n).all (fun u => !(X.getLsbD u && nearP d (dif v u) (dif v w))) := ⟨_,rfl⟩
 have hN : nearS n v X d = bitsTo q n := by rw [hq]; rfl
 rw [hN]
 simp (disch := omega) only [ir37,stepQ,stepL,eq_self,aBin,reduceIte,Int.reduceEq,Int.reduceLT,Int.reduceLE,Int.reduceGT,Int.reduceGE,bvQ,wu,shl_norm,shr_norm,and1_norm]
 rw [show (0#64 : BitVec 64) = bitsTo q 0 from rfl]
 refine loop_k (σ := Unit) n (fun _ _ => True) (fun w _ => [bvD (bitsTo q w),.int .i64 w]) (fun _ _ => [bvD (bitsTo q n)]) ?_ ?_ 0 () (Nat.zero_le _) trivial
 · rintro w _ L hw _ hL
   have hnext := hL () trivial
   have hqw : q w = (X.getLsbD w && (List.range n).all (fun u => !(X.getLsbD u && nearP d (dif v u) (dif v w)))) := by rw [hq]
   rw [bitsTo] at hnext
   clear hN hq
   have hh := hasR_run X w (by omega)
   simp (disch := omega) only [ir37p4,stepQ,stepL,eq_self,aBin,reduceIte,Int.reduceEq,Int.reduceLT,Int.reduceLE,Int.reduceGT,Int.reduceGE,hw,hh]
   refine loop_k (σ := Bool) n (fun i b => b = (X.getLsbD w && (List.range i).all (fun u => !(X.getLsbD u && nearP d (dif v u) (dif v w))))) (fun i b => [.bool b,.int .i64 i]) (fun _ _ => [bvD (bitsTo q n)]) ?_ ?_ 0 (X.getLsbD w) (Nat.zero_le _) (by simp)
   · rintro u b M hu hb hM
     cases b with
     | false =>
      have hqf : q w = false := by
       rw [hqw]
       cases hx : X.getLsbD w with
       | false => rfl
       | true =>
        rw [hx,Bool.true_and] at hb
        rw [Bool.true_and]
        obtain ⟨k,h1,h2⟩ := List.all_eq_false.1 hb.symm
        exact List.all_eq_false.2 ⟨k,List.mem_range.2 (by have := List.mem_range.1 h1; omega),h2⟩
      rw [hqf] at hnext
      simp only [Bool.false_eq_true,if_false] at hnext
      simp (disch := omega) only [ir37p3,ir37p2,ir37p0,stepQ,stepL,eq_self,aBin,reduceIte,Int.reduceEq,Int.reduceLT,Int.reduceLE,Int.reduceGT,Int.reduceGE,hu,wr,natS,hnext]
     | true =>
      have hu1 := hasR_run X u (by omega)
      have hn1 := nearerR_run hv (show u < 64 by omega) (show w < 64 by omega) d hd
      have hs : ∀ c,c = (!(X.getLsbD u && nearP d (dif v u) (dif v w))) → c = (X.getLsbD w && (List.range (u + 1)).all (fun u => !(X.getLsbD u && nearP d (dif v u) (dif v w)))) := fun c hc => by
       rw [List.range_succ,List.all_append,← Bool.and_assoc,← hb,hc]
       simp
      cases hx : X.getLsbD u with
      | false =>
       rw [hx] at hu1
       have hnx := hM true (hs true (by rw [hx]; rfl))
       simp (disch := omega) only [ir37p3,ir37p2,ir37p1,stepQ,stepL,eq_self,aBin,reduceIte,Int.reduceEq,Int.reduceLT,Int.reduceLE,Int.reduceGT,Int.reduceGE,hu,hu1,wr,natS,hnx]
      | true =>
       rw [hx] at hu1
       cases hp : nearP d (dif v u) (dif v w) with
       | false =>
        rw [hp] at hn1
        have hnx := hM true (hs true (by rw [hx,hp]; rfl))
        simp (disch := omega) only [ir37p3,ir37p2,ir37p1,stepQ,stepL,eq_self,aBin,reduceIte,Int.reduceEq,Int.reduceLT,Int.reduceLE,Int.reduceGT,Int.reduceGE,hu,hu1,hn1,wr,natS,hnx]
       | true =>
        rw [hp] at hn1
        have hnx := hM false (hs false (by rw [hx,hp]; rfl))
        simp (disch := omega) only [ir37p3,ir37p2,ir37p1,stepQ,stepL,eq_self,aBin,reduceIte,Int.reduceEq,Int.reduceLT,Int.reduceLE,Int.reduceGT,Int.reduceGE,hu,hu1,hn1,wr,natS,hnx]
   · rintro b M hb
     rw [← hqw] at hb
     subst hb
     cases hb2 : q w with
     | false =>
      rw [hb2] at hnext
      simp only [Bool.false_eq_true,if_false] at hnext
      simp (disch := omega) only [ir37p3,ir37p2,ir37p0,stepQ,stepL,eq_self,aBin,reduceIte,Int.reduceEq,Int.reduceLT,Int.reduceLE,Int.reduceGT,Int.reduceGE,Nat.lt_irrefl,wr,natS,hnext]
     | true =>
      rw [hb2] at hnext
      simp only [if_true] at hnext
      simp (disch := omega) only [ir37p3,ir37p2,ir37p0,stepQ,stepL,eq_self,aBin,reduceIte,Int.reduceEq,Int.reduceLT,Int.reduceLE,Int.reduceGT,Int.reduceGE,bvQ,wu,shl_norm,shr_norm,and1_norm,bv_convN,Nat.lt_irrefl,wr,natS,hnext]
 · rintro _ L _
   simp (disch := omega) only [ir37p4,stepQ,stepL,eq_self,aBin,reduceIte,Int.reduceEq,Int.reduceLT,Int.reduceLE,Int.reduceGT,Int.reduceGE,Nat.lt_irrefl]
end Go.Proofs.Ytnfecjmddbehiaa

namespace Go.Proofs.Ytnfecjmddbehiaa
open Go Am
set_option maxRecDepth 100000
section
variable (names : List (List UInt8)) (hl : names.length < 60) (hs : ∀ s ∈ names,s.length < 9223372036854775808)
include hl hs
theorem nearestAR_run (v : Int) (X : BitVec 64) (d : Int) :
 run tb 19 [strsD names,.int .i64 v,bvD X,.int .i64 d] = some [bvD (nearA names v X d),.int .i64 (nearE names v d)] := by
 refine run_ir (x := ir19) rfl ?_
 have h1 := valid3_run names (by omega) hs
 have h2 := kind34_run d
 have hwl : IntKind.u64.wrap (names.length : Int) = (names.length : Int) := wrapU (by omega) (by omega)
 unfold nearA
 cases hv : vocOk names with
 | false =>
  rw [hv] at h1
  have e : nearE names v d = 1 := by unfold nearE; rw [if_pos (.inl hv)]
  rw [e,if_neg (by decide)]
  simp (disch := omega) only [ir19,ir19p0,stepQ,stepL,eq_self,aBin,reduceIte,Int.reduceEq,Int.reduceLT,Int.reduceLE,Int.reduceGT,Int.reduceGE,bvQ,wu,shl_norm,shr_norm,and1_norm,h1]
 | true =>
  rw [hv] at h1
  by_cases c1 : v < 0
  · have e : nearE names v d = 1 := by unfold nearE; rw [if_pos (.inr (.inl c1))]
    rw [e,if_neg (by decide)]
    simp (disch := omega) only [ir19,ir19p0,stepQ,stepL,eq_self,aBin,reduceIte,Int.reduceEq,Int.reduceLT,Int.reduceLE,Int.reduceGT,Int.reduceGE,bvQ,wu,shl_norm,shr_norm,and1_norm,h1,c1]
  by_cases c2 : v ≥ ((2 ^ names.length : Nat) : Int)
  · have e : nearE names v d = 1 := by unfold nearE; rw [if_pos (.inr (.inr c2))]
    rw [e,if_neg (by decide)]
    simp (disch := omega) only [ir19,ir19p0,stepQ,stepL,eq_self,aBin,reduceIte,Int.reduceEq,Int.reduceLT,Int.reduceLE,Int.reduceGT,Int.reduceGE,shl_norm,nat_nn,hwl,lit0_bv,h1,c1,len_S,c2]
  have hno : ¬ (vocOk names = false ∨ v < 0 ∨ ((2 ^ names.length : Nat) : Int) ≤ v) := by
   rintro (h | h | h)
   · rw [hv] at h; cases h
   · exact c1 h
   · exact c2 h
  cases hd : dOk d with
  | false =>
   rw [hd] at h2
   have e : nearE names v d = 4 := by unfold nearE; rw [if_neg hno,if_pos hd]
   rw [e,if_neg (by decide)]
   simp (disch := omega) only [ir19,ir19p0,stepQ,stepL,eq_self,aBin,reduceIte,Int.reduceEq,Int.reduceLT,Int.reduceLE,Int.reduceGT,Int.reduceGE,shl_norm,nat_nn,hwl,lit0_bv,h1,c1,len_S,c2,h2]
  | true =>
   rw [hd] at h2
   have e : nearE names v d = 0 := by unfold nearE; rw [if_neg hno,if_neg (by rw [hd]; simp)]
   have h6 := pow6 (vocOk_len hv)
   obtain ⟨v,rfl⟩ := Int.eq_ofNat_of_zero_le (show 0 ≤ v by omega)
   have h3 := nearestQ_run h6 (v := v) (by omega) X d hd
   rw [e,if_pos rfl]
   simp (disch := omega) only [ir19,ir19p0,stepQ,stepL,eq_self,aBin,reduceIte,Int.reduceEq,Int.reduceLT,Int.reduceLE,Int.reduceGT,Int.reduceGE,shl_norm,nat_nn,hwl,h1,c1,len_S,c2,h2,h3]
end
end Go.Proofs.Ytnfecjmddbehiaa

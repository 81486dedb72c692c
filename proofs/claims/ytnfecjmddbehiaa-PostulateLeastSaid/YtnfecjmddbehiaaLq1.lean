/- What functions of the program compute: lemmas. -/
import Derived.Test.YtnfecjmddbehiaaUp37
import Derived.Test.YtnfecjmddbehiaaHr
set_option linter.unusedSimpArgs false
set_option linter.unusedVariables false
set_option linter.unusedSectionVars false
namespace Go.Proofs.Ytnfecjmddbehiaa
open Go Am
set_option maxRecDepth 100000
instance (a b : Brc) : Decidable (Brc.lt a b) := by unfold Brc.lt; infer_instance
theorem lessB_run (a b : Brc) : run tb 12 [.int .i64 (a.1 : Int),.int .i64 (a.2.1 : Int),.int .i64 (a.2.2.1 : Int),.int .i64 (a.2.2.2 : Int),.int .i64 (b.1 : Int),.int .i64 (b.2.1 : Int),.int .i64 (b.2.2.1 : Int),.int .i64 (b.2.2.2 : Int)] = some [.bool (decide (Brc.lt a b))] := by
 obtain ⟨a1,a2,a3,a4⟩ := a
 obtain ⟨b1,b2,b3,b4⟩ := b
 refine run_ir (x := ir12) rfl ?_
 simp only
 have e : ∀ x y : Nat,decide ((x : Int) < (y : Int)) = decide (x < y) := fun x y => decide_eq_decide.2 (by omega)
 have ne : ∀ x y : Nat,((x : Int) != (y : Int)) = !decide (x = y) := fun x y => by rw [ibne]; congr 1; exact decide_eq_decide.2 (by omega)
 by_cases h1 : a1 = b1
 · by_cases h2 : a2 = b2
   · by_cases h3 : a3 = b3
     · have r : decide (Brc.lt (a1,a2,a3,a4) (b1,b2,b3,b4)) = decide (a4 < b4) := decide_eq_decide.2 (by unfold Brc.lt; simp only; omega)
       rw [r]
       simp only [ir12,stepQ,stepL,eq_self,aBin,reduceIte,Int.reduceEq,Int.reduceLT,Int.reduceLE,Int.reduceGT,Int.reduceGE,ne,e,decide_eq_true h1,decide_eq_true h2,decide_eq_true h3,Bool.not_true]
     · have r : decide (Brc.lt (a1,a2,a3,a4) (b1,b2,b3,b4)) = decide (a3 < b3) := decide_eq_decide.2 (by unfold Brc.lt; simp only; omega)
       rw [r]
       simp only [ir12,stepQ,stepL,eq_self,aBin,reduceIte,Int.reduceEq,Int.reduceLT,Int.reduceLE,Int.reduceGT,Int.reduceGE,ne,e,decide_eq_true h1,decide_eq_true h2,decide_eq_false h3,Bool.not_true,Bool.not_false]
   · have r : decide (Brc.lt (a1,a2,a3,a4) (b1,b2,b3,b4)) = decide (a2 < b2) := decide_eq_decide.2 (by unfold Brc.lt; simp only; omega)
     rw [r]
     simp only [ir12,stepQ,stepL,eq_self,aBin,reduceIte,Int.reduceEq,Int.reduceLT,Int.reduceLE,Int.reduceGT,Int.reduceGE,ne,e,decide_eq_true h1,decide_eq_false h2,Bool.not_true,Bool.not_false]
 · have r : decide (Brc.lt (a1,a2,a3,a4) (b1,b2,b3,b4)) = decide (a1 < b1) := decide_eq_decide.2 (by unfold Brc.lt; simp only; omega)
   rw [r]
   simp only [ir12,stepQ,stepL,eq_self,aBin,reduceIte,Int.reduceEq,Int.reduceLT,Int.reduceLE,Int.reduceGT,Int.reduceGE,ne,e,decide_eq_false h1,Bool.not_false]
theorem bentX (n : Int) {T : List (List Int)} (hv : Vld n T) (x : Nat) (hx : x < 1000000) (l : List Int) (hl : l.length ≤ 2000) (p : Nat) (hp : p ≤ l.length) :
 ∃ (U : List (List Int)) (q : Nat),q ≤ l.length ∧ Vld n U ∧ run tb 8 [.int .i64 n,tabD T,.int .i64 (x : Int),numsD l,.int .i64 (p : Int)] = some [.int .i64 n,tabD U,numsD l,.int .i64 (q : Int)] := by
 have h16 := szT_le n
 have hpos : 0 < szT n := by rcases hv.at_ with rfl | rfl <;> decide
 have hok : BentOK T (x : Int) l (p : Int) := ⟨by omega,by omega,by omega,by omega,by omega,by rw [hv.len]; exact hpos,by rw [hv.len]; exact h16,fun r hr => by rw [hv.row r hr,hv.len]⟩
 refine ⟨(bend l x T p).1,(bend l x T p).2,bend_le l x T p hp,⟨hv.at_,?_,?_,?_⟩,run_ext rfl (bentE_run n T x l p hok)⟩
 · rw [bend_len,hv.len]
 · exact bend_row l x T p hv.row
 · exact bend_ent l hpos (by omega) x T p hv.len hv.ent
theorem least_run (l0 : List Int) : run tb 0 [numsD l0] = some [.bool true] := by
 have aw := awakeP_run
 obtain ⟨l,hl,hn⟩ := new_run l0
 obtain ⟨n,p,n1,n2,hp,hnr⟩ := range_run 1 2 l 0 hl (by omega) (by omega) (by omega) (by omega)
 obtain ⟨n,rfl⟩ := Int.eq_ofNat_of_zero_le (show 0 ≤ n by omega)
 have hnr : run tb 4 [.int .i64 1,.int .i64 2,numsD l,.int .i64 0] = some [.int .i64 (n : Int),numsD l,.int .i64 p] := hnr
 have hn12 : n = 1 ∨ n = 2 := by have h1 : (1 : Int) ≤ n := n1; have h2 : (n : Int) ≤ 2 := n2; omega
 obtain ⟨k,p1,k1,k2,hp1,hkr⟩ := range_run 1 3 l p hl hp (by omega) (by omega) (by omega)
 have hk : k = 1 ∨ k = 2 ∨ k = 3 := by omega
 obtain ⟨os,p2,hp2,hF,hor⟩ := orders_run n hn12 k l p1 hl hp1
 have hS := fitL_sane hn12 hF
 obtain ⟨hE,hnam,_⟩ := fitL_mk hn12 hk hF
 obtain ⟨hv1,_⟩ := fit_tab hn12 hk hF
 have hmk := makeR_run os k hS
 unfold mkV at hmk
 rw [if_pos hE,hnam,vocN_len] at hmk
 clear hE hS hF
 generalize mkT k os (2 ^ 2 ^ n) = T1 at *
 obtain ⟨x,p3,x0,x1,hp3,hx⟩ := n_run 3 l p2 hl hp2 (by omega) (by omega)
 obtain ⟨x,rfl⟩ := Int.eq_ofNat_of_zero_le x0
 have hx : run tb 7 [.int .i64 3,numsD l,.int .i64 p2] = some [.int .i64 (x : Int),numsD l,.int .i64 p3] := hx
 obtain ⟨U,q0,hq0,hU,hbr⟩ := bentX n hv1 x (by have h : (x : Int) < 3 := x1; omega) l hl p3 hp3
 have hck := checkX n U k hU
 have hpo := postR_run k
 have hlU := len_T U
 rw [hU.len] at hlU
 have hck0 : chkE (n : Int) U k = 0 := chkE_ok.2 ⟨hU,hk⟩
 unfold chkV at hck
 rw [if_pos hck0] at hck
 have h16 := szT_le (n : Int)
 have hpos : 0 < szT (n : Int) := by rcases hn12 with rfl | rfl <;> decide
 obtain ⟨m,hm⟩ : ∃ m,m = szT (n : Int) := ⟨_,rfl⟩
 obtain ⟨all,hall⟩ : ∃ all,all = (postN k).1 := ⟨_,rfl⟩
 obtain ⟨fst,hfst⟩ : ∃ fst,fst = (postN k).2 := ⟨_,rfl⟩
 have hall7 : 1 ≤ all ∧ all ≤ 7 := by rw [hall]; rcases hk with rfl | rfl | rfl <;> decide
 have hho : ∀ P b f g : Nat,1 ≤ P → P ≤ all → b < m → f < m → g < m → run tb 11 [.int .i64 (n : Int),tabD U,.int .i64 k,.int .i64 (P : Int),.int .i64 (b : Int),.int .i64 (f : Int),.int .i64 (g : Int)] = some [.bool (hB k (n : Int) U P b f g)] := fun P b f g h1 h2 h3 h4 h5 => by
  rw [hm] at h3 h4 h5
  exact holdsR_run hU hk ⟨h1,by rw [← hall]; exact h2⟩ h3 h4 h5
 have hmem : ∀ P b f g : Nat,1 ≤ P → P ≤ all → b < m → f < m → g < m → (P ≤ fst → g = 0) → hB k (n : Int) U P b f g = false → ((P,b,f,g) : Brc) ∈ bQ k (n : Int) U := fun P b f g h1 h2 h3 h4 h5 h6 h7 => by
  rw [hm] at h3 h4 h5
  rw [hall] at h2
  rw [hfst] at h6
  exact (mem_brL _).2 ⟨h1,h2,h3,h4,h5,h6,h7⟩
 rw [← hall,← hfst] at hpo
 rw [← hm] at hlU h16 hpos
 obtain ⟨yes,b,hck,hb1,hb0,hbl⟩ : ∃ (yes : Bool) (b : Brc),run tb 9 [.int .i64 (n : Int),tabD U,.int .i64 k] = some [.int .i64 (b.1 : Int),.int .i64 (b.2.1 : Int),.int .i64 (b.2.2.1 : Int),.int .i64 (b.2.2.2 : Int),.bool yes,.int .i64 0] ∧ (yes = true → b ∈ bQ k (n : Int) U) ∧ (yes = false → b = (0,0,0,0)) ∧ ∀ c ∈ bQ k (n : Int) U,yes = true ∧ ¬ Brc.lt c b := by
  cases hq : (bQ k (n : Int) U).head? with
  | none =>
   rw [hq] at hck
   rw [List.head?_eq_none_iff] at hq
   exact ⟨false,(0,0,0,0),hck,by simp,fun _ => rfl,fun c hc => by rw [hq] at hc; cases hc⟩
  | some b =>
   rw [hq] at hck
   exact ⟨true,b,hck,fun _ => List.mem_of_mem_head? hq,by simp,fun c hc => ⟨rfl,brL_least hq hc⟩⟩
 obtain ⟨E,hEE⟩ : ∃ E : List D,E = [numsD l0,numsD l,.int .i64 0,.int .i64 (n : Int),numsD l,.int .i64 (p : Int),.int .i64 k,numsD l,.int .i64 (p1 : Int),osD os,numsD l,.int .i64 (p2 : Int),.int .i64 (n : Int),tabD T1,.int .i64 0,.int .i64 (x : Int),numsD l,.int .i64 (p3 : Int),.int .i64 (n : Int),tabD U,numsD l,.int .i64 (q0 : Int),.int .i64 (b.1 : Int),.int .i64 (b.2.1 : Int),.int .i64 (b.2.2.1 : Int),.int .i64 (b.2.2.2 : Int),.bool yes,.int .i64 0,.int .i64 (all : Int),.int .i64 (fst : Int),.int .i64 (m : Int)] := ⟨_,rfl⟩
 have key : den (run tb) ir0p3 (E ++ [.bool yes,.bool false,.bool yes,.bool false]) [] = some [.bool true] := by
  rw [hEE]
  simp only [ir0p3,stepQ,stepL,eq_self,aBin,reduceIte,Int.reduceEq,Int.reduceLT,Int.reduceLE,Int.reduceGT,Int.reduceGE]
  refine loop_k (σ := Nat) 300 (fun _ q => q ≤ l.length) (fun i q => [.bool yes,.int .i64 i,numsD l,.int .i64 (q : Int)]) (fun _ _ => [.bool true]) ?_ ?_ 0 q0 (Nat.zero_le _) hq0
  · rintro i q L hi hq hL
    have hi' : (i : Int) < 300 := by omega
    obtain ⟨P,r1,P1,P2,hr1,hP⟩ := range_run 1 (all : Int) l q hl hq (by omega) (by omega) (by omega)
    obtain ⟨P,rfl⟩ := Int.eq_ofNat_of_zero_le (show 0 ≤ P by omega)
    have hP : run tb 4 [.int .i64 1,.int .i64 (all : Int),numsD l,.int .i64 (q : Int)] = some [.int .i64 (P : Int),numsD l,.int .i64 (r1 : Int)] := hP
    obtain ⟨ba,r2,ba0,ba1,hr2,hba⟩ := n_run (m : Int) l r1 hl hr1 (by omega) (by omega)
    obtain ⟨ba,rfl⟩ := Int.eq_ofNat_of_zero_le ba0
    have hba : run tb 7 [.int .i64 (m : Int),numsD l,.int .i64 (r1 : Int)] = some [.int .i64 (ba : Int),numsD l,.int .i64 (r2 : Int)] := hba
    obtain ⟨f,r3,f0,f1,hr3,hf⟩ := n_run (m : Int) l r2 hl hr2 (by omega) (by omega)
    obtain ⟨f,rfl⟩ := Int.eq_ofNat_of_zero_le f0
    have hf : run tb 7 [.int .i64 (m : Int),numsD l,.int .i64 (r2 : Int)] = some [.int .i64 (f : Int),numsD l,.int .i64 (r3 : Int)] := hf
    obtain ⟨g,r4,g0,g1,hr4,hg⟩ := n_run (m : Int) l r3 hl hr3 (by omega) (by omega)
    obtain ⟨g,rfl⟩ := Int.eq_ofNat_of_zero_le g0
    have hg : run tb 7 [.int .i64 (m : Int),numsD l,.int .i64 (r3 : Int)] = some [.int .i64 (g : Int),numsD l,.int .i64 (r4 : Int)] := hg
    have hnext := hL r4 hr4
    have q1 : 1 ≤ P ∧ P ≤ all := by have a1 : (1 : Int) ≤ P := P1; have a2 : (P : Int) ≤ all := P2; omega
    have q2 : ba < m := by have a1 : (ba : Int) < m := ba1; omega
    have q3 : f < m := by have a1 : (f : Int) < m := f1; omega
    have q4 : g < m := by have a1 : (g : Int) < m := g1; omega
    by_cases hPf : (P : Int) ≤ (fst : Int)
    · have hh := hho P ba f 0 q1.1 q1.2 q2 q3 (by omega)
      cases hhB : hB k (n : Int) U P ba f 0 with
      | true =>
       rw [hhB] at hh
       have hh : run tb 11 [.int .i64 (n : Int),tabD U,.int .i64 k,.int .i64 (P : Int),.int .i64 (ba : Int),.int .i64 (f : Int),.int .i64 0] = some [.bool true] := hh
       simp (disch := omega) only [ir0p2,ir0p1,ir0p0,stepQ,stepL,eq_self,aBin,reduceIte,Int.reduceEq,Int.reduceLT,Int.reduceLE,Int.reduceGT,Int.reduceGE,hi',hP,hba,hf,hg,hPf,hh,Bool.not_true,Bool.not_false,wr,natS,hnext]
      | false =>
       rw [hhB] at hh
       have hh : run tb 11 [.int .i64 (n : Int),tabD U,.int .i64 k,.int .i64 (P : Int),.int .i64 (ba : Int),.int .i64 (f : Int),.int .i64 0] = some [.bool false] := hh
       obtain ⟨hy,hnl⟩ := hbl _ (hmem P ba f 0 q1.1 q1.2 q2 q3 (by omega) (fun _ => rfl) hhB)
       have hls := lessB_run (P,ba,f,0) b
       rw [decide_eq_false hnl] at hls
       have hls : run tb 12 [.int .i64 (P : Int),.int .i64 (ba : Int),.int .i64 (f : Int),.int .i64 0,.int .i64 (b.1 : Int),.int .i64 (b.2.1 : Int),.int .i64 (b.2.2.1 : Int),.int .i64 (b.2.2.2 : Int)] = some [.bool false] := hls
       subst hy
       simp (disch := omega) only [ir0p2,ir0p1,ir0p0,stepQ,stepL,eq_self,aBin,reduceIte,Int.reduceEq,Int.reduceLT,Int.reduceLE,Int.reduceGT,Int.reduceGE,hi',hP,hba,hf,hg,hPf,hh,hls,Bool.not_true,Bool.not_false,wr,natS,hnext]
    · have hh := hho P ba f g q1.1 q1.2 q2 q3 q4
      cases hhB : hB k (n : Int) U P ba f g with
      | true =>
       rw [hhB] at hh
       simp (disch := omega) only [ir0p2,ir0p1,ir0p0,stepQ,stepL,eq_self,aBin,reduceIte,Int.reduceEq,Int.reduceLT,Int.reduceLE,Int.reduceGT,Int.reduceGE,hi',hP,hba,hf,hg,hPf,hh,Bool.not_true,Bool.not_false,wr,natS,hnext]
      | false =>
       rw [hhB] at hh
       obtain ⟨hy,hnl⟩ := hbl _ (hmem P ba f g q1.1 q1.2 q2 q3 q4 (fun h => absurd (by omega) hPf) hhB)
       have hls := lessB_run (P,ba,f,g) b
       rw [decide_eq_false hnl] at hls
       simp only at hls
       subst hy
       simp (disch := omega) only [ir0p2,ir0p1,ir0p0,stepQ,stepL,eq_self,aBin,reduceIte,Int.reduceEq,Int.reduceLT,Int.reduceLE,Int.reduceGT,Int.reduceGE,hi',hP,hba,hf,hg,hPf,hh,hls,Bool.not_true,Bool.not_false,wr,natS,hnext]
  · rintro q L hq
    have hi' : ¬ (300 : Int) < 300 := by omega
    have hi2 : ¬ ((300 : Nat) : Int) < 300 := by omega
    simp (disch := omega) only [ir0p2,stepQ,stepL,eq_self,aBin,reduceIte,Int.reduceEq,Int.reduceLT,Int.reduceLE,Int.reduceGT,Int.reduceGE,hi',hi2,aw]
 rw [hEE] at key
 simp only [List.cons_append,List.nil_append] at key
 refine run_ir (x := ir0) rfl ?_
 cases yes with
 | false =>
  have hz := hb0 rfl
  have e0 : PO.eval (.eqs true 4) [.int .i64 (b.1 : Int),.int .i64 (b.2.1 : Int),.int .i64 (b.2.2.1 : Int),.int .i64 (b.2.2.2 : Int),.int .i64 0,.int .i64 0,.int .i64 0,.int .i64 0] = some [.bool false] := by rw [hz]; rfl
  simp (disch := omega) only [ir0,ir0p4,stepQ,stepL,eq_self,aBin,reduceIte,Int.reduceEq,Int.reduceLT,Int.reduceLE,Int.reduceGT,Int.reduceGE,hn,hnr,hkr,hor,hmk,hx,hbr,hck,hpo,hlU,ibne,decide_true,Bool.not_true,Bool.not_false,e0,key]
 | true =>
  obtain ⟨b1,b2,b3,b4,b5,b6,b7⟩ := (mem_brL b).1 (hb1 rfl)
  rw [← hall] at b2
  rw [← hm] at b3 b4 b5
  rw [← hfst] at b6
  have hh := hho b.1 b.2.1 b.2.2.1 b.2.2.2 b1 b2 b3 b4 b5
  rw [b7] at hh
  have t1 : ¬ (b.1 : Int) < 1 := by omega
  have t2 : ¬ (b.1 : Int) > (all : Int) := by omega
  have t3 : ¬ (b.2.1 : Int) < 0 := by omega
  have t4 : ¬ (b.2.1 : Int) ≥ (m : Int) := by omega
  have t5 : ¬ (b.2.2.1 : Int) < 0 := by omega
  have t6 : ¬ (b.2.2.1 : Int) ≥ (m : Int) := by omega
  have t7 : ¬ (b.2.2.2 : Int) < 0 := by omega
  have t8 : ¬ (b.2.2.2 : Int) ≥ (m : Int) := by omega
  by_cases hle : (b.1 : Int) ≤ (fst : Int)
  · have hz : ((b.2.2.2 : Nat) : Int) = 0 := by have := b6 (by omega); omega
    have hz' : (((b.2.2.2 : Nat) : Int) != 0) = false := by rw [hz]; rfl
    simp (disch := omega) only [ir0,ir0p4,stepQ,stepL,eq_self,aBin,reduceIte,Int.reduceEq,Int.reduceLT,Int.reduceLE,Int.reduceGT,Int.reduceGE,hn,hnr,hkr,hor,hmk,hx,hbr,hck,hpo,hlU,Int.reduceBNe,t1,t2,t3,t4,t5,t6,t7,t8,hle,hz',hh,decide_true,Bool.not_true,Bool.not_false,key]
  · simp (disch := omega) only [ir0,ir0p4,stepQ,stepL,eq_self,aBin,reduceIte,Int.reduceEq,Int.reduceLT,Int.reduceLE,Int.reduceGT,Int.reduceGE,hn,hnr,hkr,hor,hmk,hx,hbr,hck,hpo,hlU,Int.reduceBNe,t1,t2,t3,t4,t5,t6,t7,t8,hle,hh,decide_true,Bool.not_true,Bool.not_false,key]
end Go.Proofs.Ytnfecjmddbehiaa

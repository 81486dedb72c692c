/- What functions of the program compute: lemmas. -/
import Derived.Test.YtjicfdolcieliaaFl1
import Derived.Test.YtjicfdolcieliaaOd
import Derived.Test.YtjicfdolcieliaaAm6
set_option linter.unusedSimpArgs false
set_option linter.unusedVariables false
set_option linter.unusedSectionVars false
namespace Go.Proofs.Ytjicfdolcieliaa
open Go Am
set_option maxRecDepth 100000
def accS (ranks : List Int) (i : Nat) : BitVec 64 := bitsTo (fun w => decide (0 ≤ ranks.getD w (-1)) && decide (ranks.getD w (-1) < (i : Int))) ranks.length
theorem acc_zero (ranks : List Int) (hn : ranks.length ≤ 64) : accS ranks 0 = 0#64 := by
 rw [bv_zero_iff]
 intro w hw
 unfold accS
 rw [bitsTo_get _ _ _ hn]
 by_cases h : 0 ≤ ranks.getD w (-1)
 · have h2 : ¬ (ranks.getD w (-1) < ((0 : Nat) : Int)) := by omega
   simp only [h,h2,decide_false,decide_true,Bool.and_false]
 · simp only [h,decide_false,Bool.false_and,Bool.and_false]
theorem acc_succ (ranks : List Int) (i : Nat) (hn : ranks.length ≤ 64) : accS ranks i ||| levS ranks i ranks.length = accS ranks (i + 1) := by
 unfold accS levS
 rw [bits_or _ _ hn]
 refine bits_congr hn fun w _ => ?_
 generalize ranks.getD w (-1) = r
 by_cases h2 : r = (i : Int)
 · subst h2
   have a0 : (0 : Int) ≤ (i : Int) := by omega
   have a1 : (i : Int) < ((i + 1 : Nat) : Int) := by omega
   simp only [a0,a1,decide_true,Bool.or_true,Bool.and_self]
 · by_cases h0 : 0 ≤ r <;> by_cases h1 : r < (i : Int) <;> by_cases h3 : r < ((i + 1 : Nat) : Int) <;> first | omega | simp only [h0,h1,h2,h3,decide_true,decide_false,Bool.and_true,Bool.and_false,Bool.true_and,Bool.false_and,Bool.or_true,Bool.or_false]
theorem acc_disj (ranks : List Int) (i : Nat) (hn : ranks.length ≤ 64) : levS ranks i ranks.length &&& accS ranks i = 0#64 := by
 unfold accS levS
 rw [bits_and _ _ hn,bv_zero_iff]
 intro w hw
 rw [bitsTo_get _ _ _ hn]
 generalize ranks.getD w (-1) = r
 by_cases h1 : r < (i : Int)
 · have h2 : ¬ r = (i : Int) := by omega
   simp only [h2,decide_false,Bool.false_and,Bool.and_false]
 · simp only [h1,decide_false,Bool.and_false]
theorem lev_ne (ranks : List Int) (i : Nat) (hn : ranks.length ≤ 64) (h : (i : Int) ∈ ranks) : levS ranks i ranks.length ≠ 0#64 := by
 intro e
 obtain ⟨w,hw,hr⟩ := List.getElem_of_mem h
 have h1 := (bv_zero_iff _).1 e w (by omega)
 rw [levels_get i w hn] at h1
 have h2 : ranks.getD w (-1) = (i : Int) := by simp [hw,hr]
 rw [h2] at h1
 simp [hw] at h1
theorem acc_all (ranks : List Int) (hn : ranks.length ≤ 64) (h0 : ∀ r ∈ ranks,0 ≤ r) (m : Nat) (hm : ∀ r ∈ ranks,r < (m : Int)) : accS ranks m = bitsTo (fun _ => true) ranks.length := by
 unfold accS
 refine bits_congr hn fun w hw => ?_
 have hg : ranks.getD w (-1) = ranks[w] := by simp [hw]
 have h1 := h0 _ (List.getElem_mem hw)
 have h2 := hm _ (List.getElem_mem hw)
 rw [hg]
 simp only [h1,h2,decide_true,Bool.and_true]
theorem first_lev (ranks : List Int) (hn : ranks.length ≤ 64) (w : Nat) (hw : w < ranks.length) (m r : Nat) (hr : ranks[w] = (r : Int)) (hm : r < m) : firstN ((List.range m).map fun k => levS ranks k ranks.length) w = r := by
 have key : ∀ j k,j + k = m → k ≤ r → firstN (((List.range m).map fun k => levS ranks k ranks.length).drop k) w = r - k := by
  intro j
  induction j with
  | zero => intro k h1 h2; omega
  | succ j ih =>
   intro k h1 h2
   have hk : k < ((List.range m).map fun k => levS ranks k ranks.length).length := by simp; omega
   rw [firstN_drop hk]
   have hg : (((List.range m).map fun k => levS ranks k ranks.length)[k]).getLsbD w = decide (r = k) := by
    rw [List.getElem_map,List.getElem_range,levels_get k w hn]
    have : ranks.getD w (-1) = (r : Int) := by simp [hw,hr]
    rw [this]
    simp only [hw,decide_true,Bool.true_and]
    exact decide_eq_decide.2 (by omega)
   rw [hg]
   by_cases e : r = k
   · subst e; simp
   · rw [if_neg (by simpa using e),ih (k + 1) (by omega) (by omega)]; omega
 have := key m 0 (by omega) (Nat.zero_le _)
 simpa using this
theorem from_lev (ranks : List Int) (hn : ranks.length ≤ 64) (hk : rkOk ranks = true) (h0 : 0 < ranks.length) : fromR (levelsS ranks) ranks.length = ranks := by
 unfold fromR
 refine List.ext_getElem (by simp) fun w h1 h2 => ?_
 have hin := rkIn_mem (rkOk_in hk) _ (List.getElem_mem h2)
 obtain ⟨r,hr⟩ := Int.eq_ofNat_of_zero_le hin.1
 have hmx := maxF_mem ranks 0 _ (List.getElem_mem h2)
 have hge := maxR_ge ranks
 have hm : ranks[w] ≤ maxR ranks := hmx
 rw [List.getElem_map,List.getElem_range]
 unfold levelsS
 rw [first_lev ranks hn w h2 _ r hr (by omega),hr]
end Go.Proofs.Ytjicfdolcieliaa

namespace Go.Proofs.Ytjicfdolcieliaa
open Go Am
set_option maxRecDepth 100000
theorem levels_len (ranks : List Int) : (levelsS ranks).length = (maxR ranks).toNat + 1 := by simp [levelsS]
theorem levels_at (ranks : List Int) (i : Nat) (h : i < (levelsS ranks).length) : (levelsS ranks)[i] = levS ranks i ranks.length := by simp [levelsS]
theorem rk_hits {ranks : List Int} (hk : rkOk ranks = true) (h0 : 0 < ranks.length) (i : Nat) (hi : i < (maxR ranks).toNat + 1) : (i : Int) ∈ ranks := by
 have hge := maxR_ge ranks
 unfold rkOk at hk
 simp only [Bool.and_eq_true,List.all_eq_true,List.mem_range,decide_eq_true_eq] at hk
 by_cases h : i < (maxR ranks).toNat
 · exact hk.2 i h
 · have e : (i : Int) = maxR ranks := by omega
   rw [e]
   rcases maxF_in ranks 0 with hm | hm
   ·
    have hm' : maxR ranks = 0 := hm
    have hin := rkIn_mem hk.1 _ (List.getElem_mem h0)
    have := maxF_mem ranks 0 _ (List.getElem_mem h0)
    have h1 : ranks[0] ≤ maxR ranks := this
    have h2 : ranks[0] = maxR ranks := by omega
    rw [← h2]; exact List.getElem_mem h0
   · exact hm
theorem levelsL_run (l0 ranks : List Int) : run tb 0 [numsD l0,numsD ranks] = some [.bool true] := by
 obtain ⟨l,hl,hn⟩ := new_run l0
 obtain ⟨r,p,r1,r2,hp,hr⟩ := range_run 0 4 l 0 hl (by omega) (by omega) (by omega) (by omega)
 obtain ⟨n,rfl⟩ := Int.eq_ofNat_of_zero_le (show 0 ≤ r by omega)
 have hn6 : n ≤ 6 := by omega
 have h64 := pow6 hn6
 have hr : run tb 3 [.int .i64 0,.int .i64 4,numsD l,.int .i64 0] = some [.int .i64 n,numsD l,.int .i64 p] := hr
 have aw := awake31_run
 have hconv : PO.eval (.conv .u64) [.int .i64 (n : Int)] = some [.int .u64 (n : Int)] := bv_convN _ (by omega)
 have hsh : PO.eval (.bin .shl false) [.int .i64 1,.int .u64 (n : Int)] = some [.int .i64 ((2 ^ n : Nat) : Int)] := int_shl1 _ _ (by omega)
 refine run_ir (x := ir0) rfl ?_
 have key := loop_k (run := run tb) (body := ir0p6) (e := [numsD l0,numsD ranks,numsD l,.int .i64 0,.int .i64 n,numsD l,.int .i64 p]) (J := []) (σ := List Int × Nat) (2 ^ n)
  (fun i s => s.1.length = i ∧ s.2 ≤ l.length) (fun i s => [.int .i64 i,numsD l,.int .i64 s.2,numsD s.1]) (fun _ _ => [.bool true])
  (by
   rintro i ⟨rs,q⟩ L hi ⟨h1,h2⟩ hL
   simp only at h1 h2
   have hi' : ((i : Int) < ((2 ^ n : Nat) : Int)) := by omega
   by_cases hlt : i < ranks.length
   · have hlt' : ((i : Int) < (ranks.length : Int)) := by omega
     have hm1 : PO.eval (.mk 1 1) [.int .i64 ranks[i]] = some [.sl [[.int .i64 ranks[i]]]] := rfl
     have hrow := row_N hlt
     have happ := app_N (l := rs) (s := ranks[i]) (by omega)
     have hnext := hL (rs ++ [ranks[i]],q) ⟨by simp [h1],h2⟩
     simp only at hnext
     simp (disch := omega) only [ir0p6,ir0p0,stepQ,stepL,eq_self,aBin,reduceIte,Int.reduceEq,Int.reduceLT,Int.reduceLE,Int.reduceGT,Int.reduceGE,hconv,hsh,hi',len_N,hlt',hrow,hm1,happ,wr,natS,hnext]
   · have hlt' : ¬ ((i : Int) < (ranks.length : Int)) := by omega
     obtain ⟨x,q2,x1,x2,hq2,hrn⟩ := n_run 5 l q hl h2 (by omega) (by omega)
     have hm1 : PO.eval (.mk 1 1) [.int .i64 x] = some [.sl [[.int .i64 x]]] := rfl
     have happ := app_N (l := rs) (s := x) (by omega)
     have hnext := hL (rs ++ [x],q2) ⟨by simp [h1],hq2⟩
     simp only at hnext
     simp (disch := omega) only [ir0p6,ir0p0,stepQ,stepL,eq_self,aBin,reduceIte,Int.reduceEq,Int.reduceLT,Int.reduceLE,Int.reduceGT,Int.reduceGE,hconv,hsh,hi',len_N,hlt',hrn,hm1,happ,wr,natS,hnext])
  (by
   rintro ⟨rs,q⟩ L ⟨h1,h2⟩
   simp only at h1 h2 ⊢
   have hvoc := voc_run n (by omega)
   have hvl : (vocN n).length < 1000000000 := by rw [vocN_len]; omega
   have hv := vocN_ok hn6
   have ho := some_ok hn6 h1
   have hno := normal_run (vocN n) rs hvl (by omega)
   have hne : normE (vocN n) rs = true := by simp [normE,hv,vocN_len,h1]
   rw [hne,if_pos rfl] at hno
   have hnl := norm_len rs
   have hval := validateO_run (vocN n) (normS rs) hvl (by omega)
   rw [ho] at hval
   have hz : ((0 : Int) ≠ 0) = False := by simp
   have hkk : rkOk (normS rs) = true := norm_ok rs
   have h0 : 0 < (normS rs).length := by rw [hnl,h1]; exact Nat.two_pow_pos n
   have hn64 : (normS rs).length ≤ 64 := by omega
   have hlev := levelsO_run (vocN n) (normS rs) hvl (by omega)
   have hlO : levelsO (vocN n) (normS rs) = levelsS (normS rs) := by unfold levelsO; rw [ho,if_pos rfl]
   rw [hlO] at hlev
   have hfr := fromP_run (vocN n) (levelsS (normS rs)) hvl (by rw [levels_len]; have := maxR_lt (rkOk_in hkk) h0; omega)
   have hfv : fromV (vocN n) (levelsS (normS rs)) = [strsD (vocN n),numsD (normS rs),.int .i64 0] := by
    unfold fromV
    rw [if_pos hv,vocN_len]
    have e : 2 ^ n = (normS rs).length := by omega
    rw [e,from_lev (normS rs) hn64 hkk h0,norm_valid hkk]
   rw [hfv] at hfr
   have hall := all3_run (vocN n) hvl (short_voc hv).2
   have hallS : allS (vocN n) = bitsTo (fun _ => true) (normS rs).length := by
    unfold allS
    rw [if_pos hv,vocN_len]
    have e : 2 ^ n = (normS rs).length := by omega
    rw [e]
   rw [hallS,← acc_all (normS rs) hn64 (fun r hr => (rkIn_mem (rkOk_in hkk) r hr).1) (levelsS (normS rs)).length (fun r hr => by
    rw [levels_len]
    have h3 : r ≤ maxR (normS rs) := maxF_mem (normS rs) 0 r hr
    have h4 := maxR_ge (normS rs)
    omega)] at hall
   have hsame := sameO3_run (vocN n) (vocN n) (normS rs) (normS rs) hvl (by omega)
   simp only [decide_true,Bool.and_self] at hsame
   have hhit := rk_hits hkk h0
   have hlt : ∀ v w (hv : v < rs.length) (hw : w < rs.length) (hv' : v < (normS rs).length) (hw' : w < (normS rs).length),(normS rs)[v] < (normS rs)[w] ↔ rs[v] < rs[w] := fun v w hv hw _ _ => norm_lt hv hw
   have hz0 := acc_zero (normS rs) hn64
   have hsucc := fun i => acc_succ (normS rs) i hn64
   have hdis := fun i => acc_disj (normS rs) i hn64
   have hne0 := fun i hi => lev_ne (normS rs) i hn64 (hhit i hi)
   have hll := levels_len (normS rs)
   have hla := levels_at (normS rs)
   have hbnd : (levelsS (normS rs)).length ≤ 64 := by rw [levels_len]; have := maxR_lt (rkOk_in hkk) h0; omega
   generalize normS rs = os at *
   have hir : ¬ ((2 ^ n : Nat) : Int) < ((2 ^ n : Nat) : Int) := Int.lt_irrefl _
   have hol : os.length = rs.length := hnl
   simp (disch := omega) only [ir0p6,ir0p5,stepQ,stepL,eq_self,aBin,reduceIte,Int.reduceEq,Int.reduceLT,Int.reduceLE,Int.reduceGT,Int.reduceGE,hconv,hsh,hir,hvoc,hno,hval,ibne,ne_eq,not_true,decide_false,len_N,hol]
   refine loop_k (σ := Unit) rs.length (fun _ _ => True) (fun i _ => [.int .i64 i]) (fun _ _ => [.bool true]) ?_ ?_ 0 () (Nat.zero_le _) trivial
   · rintro v _ M hv _ hM
     have hnext := hM () trivial
     have hv' : ((v : Int) < (rs.length : Int)) := by omega
     simp (disch := omega) only [ir0p4,stepQ,stepL,eq_self,aBin,reduceIte,Int.reduceEq,Int.reduceLT,Int.reduceLE,Int.reduceGT,Int.reduceGE,len_N,hv']
     refine loop_k (σ := Unit) rs.length (fun _ _ => True) (fun i _ => [.int .i64 i]) (fun _ _ => [.bool true]) ?_ ?_ 0 () (Nat.zero_le _) trivial
     · rintro w _ M2 hw _ hM2
       have hnext2 := hM2 () trivial
       have hw' : ((w : Int) < (rs.length : Int)) := by omega
       have hc1 := chk_N hv
       have hc2 := chk_N hw
       have hg1 := get_N hv
       have hg2 := get_N hw
       have hr1 := row_N (l := os) (i := v) (by omega)
       have hr2 := row_N (l := os) (i := w) (by omega)
       have hq := hlt v w hv hw (by omega) (by omega)
       have n1 : PO.eval (.bin .neq true) [.bool true,.bool true] = some [.bool false] := rfl
       have n2 : PO.eval (.bin .neq true) [.bool false,.bool false] = some [.bool false] := rfl
       by_cases hx : rs[v] < rs[w]
       · have hy := hq.2 hx
         simp (disch := omega) only [ir0p1,stepQ,stepL,eq_self,aBin,reduceIte,Int.reduceEq,Int.reduceLT,Int.reduceLE,Int.reduceGT,Int.reduceGE,len_N,hw',hc1,hc2,hg1,hg2,hx,hr1,hr2,hy,n1,wr,natS,hnext2]
       · have hy : ¬ os[v] < os[w] := fun h => hx (hq.1 h)
         simp (disch := omega) only [ir0p1,stepQ,stepL,eq_self,aBin,reduceIte,Int.reduceEq,Int.reduceLT,Int.reduceLE,Int.reduceGT,Int.reduceGE,len_N,hw',hc1,hc2,hg1,hg2,hx,hr1,hr2,hy,n2,wr,natS,hnext2]
     · rintro _ M2 _
       simp (disch := omega) only [ir0p1,stepQ,stepL,eq_self,aBin,reduceIte,Int.reduceEq,Int.reduceLT,Int.reduceLE,Int.reduceGT,Int.reduceGE,len_N,Int.lt_irrefl,wr,natS,hnext]
   · rintro _ M _
     simp (disch := omega) only [ir0p4,stepQ,stepL,eq_self,aBin,reduceIte,Int.reduceEq,Int.reduceLT,Int.reduceLE,Int.reduceGT,Int.reduceGE,bvQ,wu,shl_norm,shr_norm,and1_norm,len_N,Int.lt_irrefl,hlev,callQ_V]
     generalize hLs : levelsS os = ls at *
     rw [show bvD 0#64 = bvD (accS os 0) by rw [hz0]]
     refine loop_k (σ := Unit) ls.length (fun _ _ => True) (fun i _ => [bvD (accS os i),.int .i64 i]) (fun _ _ => [.bool true]) ?_ ?_ 0 () (Nat.zero_le _) trivial
     · rintro i _ M2 hi _ hM2
       have hnext2 := hM2 () trivial
       have hi' : ((i : Int) < (ls.length : Int)) := by omega
       have hrow := row_V hi
       have hat : ls[i] = levS os i os.length := hla i hi
       have a1 := hne0 i (by omega)
       have a2 := hdis i
       have a3 := hsucc i
       rw [← hat] at a1 a2 a3
       simp (disch := omega) only [ir0p3,ir0p2,stepQ,stepL,eq_self,aBin,reduceIte,Int.reduceEq,Int.reduceLT,Int.reduceLE,Int.reduceGT,Int.reduceGE,bvQ,wu,shl_norm,shr_norm,and1_norm,len_V,hi',hrow,a1,a2,a3,decide_false,decide_true,Bool.not_true,wr,natS,hnext2]
     · rintro _ M2 _
       simp (disch := omega) only [ir0p3,stepQ,stepL,eq_self,aBin,reduceIte,Int.reduceEq,Int.reduceLT,Int.reduceLE,Int.reduceGT,Int.reduceGE,bvQ,wu,shl_norm,shr_norm,and1_norm,len_V,Int.lt_irrefl,hfr,hall,hsame,aw,decide_true])
 have hk := key 0 ([],p) (Nat.zero_le _) ⟨rfl,hp⟩
 have e0 : numsD [] = .sl [] := rfl
 simp only [nat0,e0] at hk
 simp (disch := omega) only [ir0,stepQ,stepL,eq_self,aBin,reduceIte,Int.reduceEq,Int.reduceLT,Int.reduceLE,Int.reduceGT,Int.reduceGE,hn,hr,hk]
end Go.Proofs.Ytjicfdolcieliaa

namespace Go.Proofs.Ytjicfdolcieliaa
open Go Am
set_option maxRecDepth 100000
theorem fixQ' {run : Nat → PF} {body : IR} {e : Env} {J : List PF} {a r : List D} (h : den run body (e ++ a) (J ++ [loopQ run body e J]) = some r) : loopQ run body e J a = some r := fix_of h
def refE (na : List (List UInt8)) (a : List Int) (nb : List (List UInt8)) (b : List Int) : Int := if orderE na a ≠ 0 then orderE na a else if orderE nb b ≠ 0 then orderE nb b else if na = nb then 0 else 10
def refV (na : List (List UInt8)) (a : List Int) (nb : List (List UInt8)) (b : List Int) : List D := if refE na a nb b = 0 then [strsD na,numsD (normS (lexR a b)),.int .i64 0] else [.sl [],.sl [],.int .i64 (refE na a nb b)]
def hundR (a b : List Int) : List Int := (List.range a.length).map fun w => a.getD w 0 * 100 + b.getD w 0
theorem hundR_len (a b : List Int) : (hundR a b).length = a.length := by simp [hundR]
theorem hundR_get (a b : List Int) {i : Nat} (hi : i < a.length) : (hundR a b).getD i 0 = a.getD i 0 * 100 + b.getD i 0 := by
 rw [gd (by rw [hundR_len]; exact hi)]; simp [hundR]
theorem hund_pat {a b : List Int} (hab : b.length = a.length) (hb : ∀ r ∈ b,0 ≤ r ∧ r < a.length) (h64 : a.length ≤ 64) : normS (hundR a b) = normS (lexR a b) := by
 refine norm_pat ⟨by rw [hundR_len,lexR_len],fun i j hi hj => ?_⟩
 rw [hundR_len] at hi hj
 rw [lexR_lt hab hb hi hj,hundR_get a b hi,hundR_get a b hj]
 have b1 := hb (b.getD i 0) (by rw [gd (by omega)]; exact List.getElem_mem _)
 have b2 := hb (b.getD j 0) (by rw [gd (by omega)]; exact List.getElem_mem _)
 omega
theorem refineP_run (na : List (List UInt8)) (a : List Int) (nb : List (List UInt8)) (b : List Int) (h1 : na.length < 1000000000) (h2 : a.length < 1000000000) (h3 : nb.length < 1000000000) (h4 : b.length < 1000000000) :
 run tb 18 [strsD na,numsD a,strsD nb,numsD b] = some (refV na a nb b) := by
 have v1 := validateO_run na a h1 h2
 have v2 := validateO_run nb b h3 h4
 refine run_ir (x := ir18) rfl ?_
 have hmk : PO.eval (.mk 2 2) [strsD na,numsD a,strsD nb,numsD b] = some [.sl [[strsD na,numsD a],[strsD nb,numsD b]]] := rfl
 have hl2 : PO.eval .lenL [.sl [[strsD na,numsD a],[strsD nb,numsD b]]] = some [.int .i64 2] := rfl
 simp (disch := omega) only [ir18,stepQ,stepL,eq_self,aBin,reduceIte,Int.reduceEq,Int.reduceLT,Int.reduceLE,Int.reduceGT,Int.reduceGE,hmk,hl2]
 refine fixQ' ?_
 have c0 : PO.eval .chk [.sl [[strsD na,numsD a],[strsD nb,numsD b]],.int .i64 0] = some [] := rfl
 have g0 : PO.eval (.get 0 2) [.sl [[strsD na,numsD a],[strsD nb,numsD b]],.int .i64 0] = some [strsD na,numsD a] := rfl
 have t0 : decide ((0 : Int) < 2) = true := rfl
 have w0 : IntKind.i64.wrap (0 + 1) = 1 := rfl
 have c1 : PO.eval .chk [.sl [[strsD na,numsD a],[strsD nb,numsD b]],.int .i64 1] = some [] := rfl
 have g1 : PO.eval (.get 0 2) [.sl [[strsD na,numsD a],[strsD nb,numsD b]],.int .i64 1] = some [strsD nb,numsD b] := rfl
 have w1 : IntKind.i64.wrap (1 + 1) = 2 := rfl
 unfold refV refE
 by_cases ha : orderE na a = 0
 case neg =>
  have ha' : (orderE na a != 0) = true := by simpa using ha
  rw [if_pos (show orderE na a ≠ 0 from ha),if_neg ha]
  simp (disch := omega) only [ir18p1,stepQ,stepL,eq_self,aBin,reduceIte,Int.reduceEq,Int.reduceLT,Int.reduceLE,Int.reduceGT,Int.reduceGE,c0,g0,v1,ibne,ne_eq,ha,not_false_iff,decide_true]
 rw [if_neg (show ¬ (orderE na a ≠ 0) from fun h => h ha)]
 rw [ha] at v1
 by_cases hb : orderE nb b = 0
 case neg =>
  rw [if_pos (show orderE nb b ≠ 0 from hb),if_neg hb]
  generalize hM : loopQ (run tb) ir18p1 [strsD na,numsD a,strsD nb,numsD b,.sl [[strsD na,numsD a],[strsD nb,numsD b]],.int .i64 2] [] = M
  have hn1 : M [.int .i64 1] = some [.sl [],.sl [],.int .i64 (orderE nb b)] := by
   rw [← hM]
   refine fixQ' ?_
   simp (disch := omega) only [ir18p1,stepQ,stepL,eq_self,aBin,reduceIte,Int.reduceEq,Int.reduceLT,Int.reduceLE,Int.reduceGT,Int.reduceGE,c1,g1,v2,ibne,ne_eq,hb,not_false_iff,decide_true]
  simp (disch := omega) only [ir18p1,stepQ,stepL,eq_self,aBin,reduceIte,Int.reduceEq,Int.reduceLT,Int.reduceLE,Int.reduceGT,Int.reduceGE,c0,g0,v1,ibne,ne_eq,not_true,decide_false,w0,hn1]
 rw [if_neg (show ¬ (orderE nb b ≠ 0) from fun h => h hb)]
 rw [hb] at v2
 obtain ⟨hv,la,ra⟩ := orderE_zero ha
 obtain ⟨_,lb,rb⟩ := orderE_zero hb
 have h64 := orderE_len ha
 have heq := equalS_run na nb h1
 generalize hM : loopQ (run tb) ir18p1 [strsD na,numsD a,strsD nb,numsD b,.sl [[strsD na,numsD a],[strsD nb,numsD b]],.int .i64 2] [] = M
 have hn2 : M [.int .i64 2] = some (if (if na = nb then (0 : Int) else 10) = 0 then [strsD na,numsD (normS (lexR a b)),.int .i64 0] else [.sl [],.sl [],.int .i64 (if na = nb then 0 else 10)]) := by
  rw [← hM]
  refine fixQ' ?_
  by_cases hnn : na = nb
  case neg =>
   rw [if_neg hnn,if_neg (by decide)]
   rw [decide_eq_false hnn] at heq
   simp (disch := omega) only [ir18p1,stepQ,stepL,eq_self,aBin,reduceIte,Int.reduceEq,Int.reduceLT,Int.reduceLE,Int.reduceGT,Int.reduceGE,heq,Bool.not_false]
  subst hnn
  rw [if_pos rfl,if_pos rfl]
  rw [decide_eq_true rfl] at heq
  have hab : b.length = a.length := by rw [la,lb]
  have hmkN := mkN (n := a.length) (by omega)
  have hlx := lexR_len a b
  rw [← hlx,fill_zero,hlx] at hmkN
  have hfl : ∀ i,(fillR (lexR a b) i).length = a.length := fun i => by simp [fillR,hlx]
  have hl3 := len_N (fillR (lexR a b) 0)
  rw [hfl] at hl3
  simp (disch := omega) only [ir18p1,stepQ,stepL,eq_self,aBin,reduceIte,Int.reduceEq,Int.reduceLT,Int.reduceLE,Int.reduceGT,Int.reduceGE,heq,len_N,hmkN,hfl,Bool.not_true]
  refine loop_k (σ := Unit) a.length (fun _ _ => True) (fun i _ => [.int .i64 i,numsD (fillR (lexR a b) i)]) (fun _ _ => [strsD na,numsD (normS (lexR a b)),.int .i64 0]) ?_ ?_ 0 () (Nat.zero_le _) trivial
  · rintro i _ M hi _ hM
    have hnext := hM () trivial
    rw [← fill_succ (by omega),lexR_get a b hi,gd hi,gd (by omega)] at hnext
    have b1 := rkIn_mem (rkOk_in ra) a[i] (List.getElem_mem _)
    have b2 := rkIn_mem (rkOk_in rb) b[i] (List.getElem_mem _)
    have m1 : (0 : Int) ≤ a[i] * a.length := Int.mul_nonneg b1.1 (by omega)
    have m2 : a[i] * a.length ≤ 64 * 64 := Int.mul_le_mul (by omega) (by omega) (by omega) (by omega)
    have hib : i < b.length := by omega
    have hc := chk_N (l := fillR (lexR a b) i) (i := i) (by rw [hfl]; exact hi)
    have hs := set_N (l := fillR (lexR a b) i) (i := i) (by rw [hfl]; exact hi) (a[i] * a.length + b[i])
    simp (disch := omega) only [ir18p0,stepQ,stepL,eq_self,aBin,reduceIte,Int.reduceEq,Int.reduceLT,Int.reduceLE,Int.reduceGT,Int.reduceGE,hi,hib,row_N,len_N,hfl,wr,hc,hs,natS,hnext]
  · rintro _ M _
    have hno := normal_run na (lexR a b) h1 (by omega)
    rw [if_pos (by simp [normE,hv,hlx,la])] at hno
    have he : fillR (lexR a b) a.length = lexR a b := by rw [← hlx]; exact fill_end _
    simp (disch := omega) only [ir18p0,stepQ,stepL,eq_self,aBin,reduceIte,Int.reduceEq,Int.reduceLT,Int.reduceLE,Int.reduceGT,Int.reduceGE,Nat.lt_irrefl,he,hno,callQ_tvi]
 have hn1 : M [.int .i64 1] = some (if (if na = nb then (0 : Int) else 10) = 0 then [strsD na,numsD (normS (lexR a b)),.int .i64 0] else [.sl [],.sl [],.int .i64 (if na = nb then 0 else 10)]) := by
  rw [← hM]
  refine fixQ' ?_
  rw [hM]
  simp (disch := omega) only [ir18p1,stepQ,stepL,eq_self,aBin,reduceIte,Int.reduceEq,Int.reduceLT,Int.reduceLE,Int.reduceGT,Int.reduceGE,c1,g1,v2,ibne,ne_eq,not_true,decide_false,w1,hn2]
 simp (disch := omega) only [ir18p1,stepQ,stepL,eq_self,aBin,reduceIte,Int.reduceEq,Int.reduceLT,Int.reduceLE,Int.reduceGT,Int.reduceGE,c0,g0,v1,ibne,ne_eq,not_true,decide_false,w0,hn1]
end Go.Proofs.Ytjicfdolcieliaa

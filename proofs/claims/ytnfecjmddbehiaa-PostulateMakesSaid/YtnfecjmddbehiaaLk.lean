/- What functions of the program compute: lemmas. -/
import Derived.Test.YtnfecjmddbehiaaMk3
import Derived.Test.YtnfecjmddbehiaaOd
import Derived.Test.YtnfecjmddbehiaaBc
set_option linter.unusedSimpArgs false
set_option linter.unusedVariables false
set_option linter.unusedSectionVars false
namespace Go.Proofs.Ytnfecjmddbehiaa
open Go Am
set_option maxRecDepth 100000
theorem fitting_run (n k : Nat) (hn : n ≤ 2) (hk : k < 16) (hkn : ∀ w,(BitVec.ofNat 64 k).getLsbD w = true → w < 2 ^ n) (l : List Int) (p : Nat) (hl : l.length ≤ 2000) (hp : p ≤ l.length) :
 ∃ (o : OO) (b : Nat),b ≤ l.length ∧ FitO n (BitVec.ofNat 64 k) o ∧ run tb 21 [.int .i64 n,.int .i64 k,numsD l,.int .i64 p] = some [strsD o.1,numsD o.2,numsD l,.int .i64 b] := by
 have h4 : 2 ^ n ≤ 4 := by
  have := Nat.pow_le_pow_right (n := 2) (by omega) hn; omega
 have hmk := mkN (n := 2 ^ n) (by omega)
 have hcn := conv_n n
 have hsh := shl_iu (i := n) (by omega)
 have hvc := voc_run n (by omega)
 have hsm : Sml (BitVec.ofNat 64 k) := by unfold Sml; rw [BitVec.toNat_ofNat]; omega
 obtain ⟨kD,hkD⟩ : ∃ d,d = D.int .i64 (k : Int) := ⟨_,rfl⟩
 have hshr : ∀ w : Nat,w < 100 → PO.eval (.bin .shr false) [kD,bvD (BitVec.ofNat 64 w)] = some [ivD (BitVec.ofNat 64 k >>> w)] := fun w hw => by rw [hkD]; exact shr_iu (by omega) (by omega)
 have hbt : ∀ w : Nat,PO.eval (.bin .and false) [ivD (BitVec.ofNat 64 k >>> w),.int .i64 1] = some [ivD (BitVec.ofNat 64 k >>> w &&& 1#64)] := iv_bit hsm
 have hon : ∀ w : Nat,PO.eval (.bin .eql false) [ivD (BitVec.ofNat 64 k >>> w &&& 1#64),.int .i64 1] = some [.bool ((BitVec.ofNat 64 k).getLsbD w)] := iv_one _
 obtain ⟨N,hN⟩ : ∃ N,N = 2 ^ n := ⟨_,rfl⟩
 rw [← hN] at h4 hmk hsh
 have hfit := fun (rs : List Int) (h1 : rs.length = N) (h2 : ∀ w,w < N → ((BitVec.ofNat 64 k).getLsbD w = true → rs.getD w 0 = 0) ∧ (¬ (BitVec.ofNat 64 k).getLsbD w = true → 1 ≤ rs.getD w 0)) => fit_norm (n := n) (by omega) (K := BitVec.ofNat 64 k) (rs := rs) (by rw [h1,hN]) hkn (by rw [← hN]; exact h2)
 have key := loop_kx (run := run tb) (body := ir21p1) (e := [.int .i64 n,kD,numsD l,.int .i64 p,bvD (BitVec.ofNat 64 n),.int .i64 (N : Int),numsD (List.replicate N 0)]) (J := []) (σ := Nat × List Int) N
  (fun i s => s.1 ≤ l.length ∧ s.2.length = N ∧ ∀ w,w < i → ((BitVec.ofNat 64 k).getLsbD w = true → s.2.getD w 0 = 0) ∧ (¬ (BitVec.ofNat 64 k).getLsbD w = true → 1 ≤ s.2.getD w 0)) (fun i s => [.int .i64 i,numsD l,.int .i64 s.1,numsD s.2])
  (fun r => ∃ (o : OO) (b : Nat),b ≤ l.length ∧ FitO n (BitVec.ofNat 64 k) o ∧ r = [strsD o.1,numsD o.2,numsD l,.int .i64 b])
  (by
   rintro i ⟨q,rs⟩ L hi ⟨hq,hrs,hpre⟩ hL
   simp only at hq hrs hpre
   obtain ⟨x,q',x0,x1,hq',hx⟩ := n_run 4 l q hl hq (by omega) (by omega)
   have hxs : IntKind.i64.wrap (1 + x) = 1 + x := wr (by omega) (by omega)
   have hc := chk_N (l := rs) (i := i) (by omega)
   have hst := set_N (l := rs) (i := i) (by omega) (1 + x)
   have hc2 := chk_N (l := rs.set i (1 + x)) (i := i) (by rw [List.length_set]; omega)
   have hst2 := set_N (l := rs.set i (1 + x)) (i := i) (by rw [List.length_set]; omega) 0
   rw [List.set_set] at hst2
   have hci := conv_n i
   have hsi := hshr i (by omega)
   have hbi := hbt i
   have hoi := hon i
   have gset : ∀ (v : Int) (w : Nat),w < i + 1 → (rs.set i v).getD w 0 = if w = i then v else rs.getD w 0 := fun v w hw => by
    rw [List.getD_eq_getElem?_getD,List.getElem?_set]
    by_cases h : i = w
    · subst h; rw [if_pos rfl,if_pos rfl,if_pos (by omega)]; rfl
    · rw [if_neg h,if_neg (fun e => h e.symm),List.getD_eq_getElem?_getD]
   cases hb : (BitVec.ofNat 64 k).getLsbD i with
   | true =>
    rw [hb] at hoi
    obtain ⟨r,hr,hpost⟩ := hL (q',rs.set i 0) ⟨hq',by simpa using hrs,fun w hw => by
     simp only
     rw [gset 0 w hw]
     by_cases h : w = i
     · subst h; rw [if_pos rfl]; exact ⟨fun _ => rfl,fun hn => absurd hb hn⟩
     · rw [if_neg h]; exact hpre w (by omega)⟩
    refine ⟨r,?_,hpost⟩
    simp only at hr
    simp (disch := omega) only [ir21p1,ir21p0,stepQ,stepL,eq_self,aBin,reduceIte,Int.reduceEq,Int.reduceLT,Int.reduceLE,Int.reduceGT,Int.reduceGE,len_N,hrs,hi,hx,hxs,hc,hst,hci,hsi,hbi,hoi,hc2,hst2,wr,natS,hr]
   | false =>
    rw [hb] at hoi
    obtain ⟨r,hr,hpost⟩ := hL (q',rs.set i (1 + x)) ⟨hq',by simpa using hrs,fun w hw => by
     simp only
     rw [gset (1 + x) w hw]
     by_cases h : w = i
     · subst h; rw [if_pos rfl]; exact ⟨fun hn => absurd hn (by rw [hb]; decide),fun _ => by omega⟩
     · rw [if_neg h]; exact hpre w (by omega)⟩
    refine ⟨r,?_,hpost⟩
    simp only at hr
    simp (disch := omega) only [ir21p1,ir21p0,stepQ,stepL,eq_self,aBin,reduceIte,Int.reduceEq,Int.reduceLT,Int.reduceLE,Int.reduceGT,Int.reduceGE,len_N,hrs,hi,hx,hxs,hc,hst,hci,hsi,hbi,hoi,wr,natS,hr])
  (by
   rintro ⟨q,rs⟩ L ⟨hq,hrs,hpre⟩
   simp only at hq hrs hpre
   refine ⟨_,?_,(vocN n,normS rs),q,hq,hfit rs hrs hpre,rfl⟩
   have hno := normal3_run (vocN n) rs (by rw [vocN_len]; omega) (fun s hs => by rw [vocN_short s hs]; omega) (by omega)
   rw [if_pos (by simp [normE,vocN_ok (show n ≤ 6 by omega),vocN_len,hrs,hN])] at hno
   simp (disch := omega) only [ir21p1,stepQ,stepL,eq_self,aBin,reduceIte,Int.reduceEq,Int.reduceLT,Int.reduceLE,Int.reduceGT,Int.reduceGE,len_N,hrs,Nat.lt_irrefl,hvc,hno])
 obtain ⟨r,hr,o,b,h1,h2,rfl⟩ := key 0 (p,List.replicate N 0) (Nat.zero_le _) ⟨hp,by simp,fun w hw => absurd hw (by omega)⟩
 refine ⟨o,b,h1,h2,run_ir (x := ir21) rfl ?_⟩
 simp only [nat0] at hr
 rw [← hkD]
 simp (disch := omega) only [ir21,stepQ,stepL,eq_self,aBin,reduceIte,Int.reduceEq,Int.reduceLT,Int.reduceLE,Int.reduceGT,Int.reduceGE,hcn,hsh,hmk]
 simpa only [List.cons_append,List.nil_append] using hr
theorem app_O {os : List OO} {o : OO} (h : os.length < 1000000000) : PO.eval (.app 2 48) [osD os,.sl [[strsD o.1,numsD o.2]]] = some [osD (os ++ [o])] := by
 have := ev_app (sz := 2) (bt := 48) (xs := os.map fun o => [strsD o.1,numsD o.2]) (ys := [[strsD o.1,numsD o.2]]) (by simp; omega) (by simp; omega) rfl
 simpa [osD] using this
theorem os_nil : D.sl [] = osD [] := rfl
theorem ov_small {N k : Nat} (hN : N = 2 ∨ N = 4) (hk : k < 2 ^ N) : Ovr N (BitVec.ofNat 64 k) := fun w hw => by
 have h1 : (BitVec.ofNat 64 k).toNat = k := by
  rw [BitVec.toNat_ofNat,Nat.mod_eq_of_lt]
  rcases hN with rfl | rfl <;> omega
 have h2 : (BitVec.ofNat 64 k).getLsbD w = true := hw
 rw [BitVec.getLsbD,h1] at h2
 exact Classical.byContradiction fun hn => by
  have := Nat.testBit_lt_two_pow (x := k) (i := w) (Nat.lt_of_lt_of_le hk (Nat.pow_le_pow_right (by omega) (by omega)))
  rw [this] at h2; cases h2
structure FitL (n : Nat) (kind : Int) (os : List OO) : Prop where
 len : os.length = wantN kind n
 fit : ∀ i (h : i < os.length),FitO n (bse kind i) os[i]
theorem orders_run (n : Nat) (hn : n = 1 ∨ n = 2) (kind : Int) (l : List Int) (p : Nat) (hl : l.length ≤ 2000) (hp : p ≤ l.length) :
 ∃ (os : List OO) (b : Nat),b ≤ l.length ∧ FitL n kind os ∧ run tb 5 [.int .i64 n,.int .i64 kind,numsD l,.int .i64 p] = some [osD os,numsD l,.int .i64 b] := by
 have hcn := conv_n n
 have hsh := shl_iu (i := n) (by omega)
 have hsu := shl_u (i := n) (by omega)
 have hsn : PO.eval (.bin .shl false) [.int .i64 1,bvD (1#64 <<< n)] = some [.int .i64 ((2 ^ (2 ^ n) : Nat) : Int)] := by
  rw [← pow_bv]
  exact shl_iu (by rcases hn with rfl | rfl <;> decide)
 have hN2 : 2 ^ n = 2 ∨ 2 ^ n = 4 := by rcases hn with rfl | rfl <;> simp
 have h16 : 2 ^ (2 ^ n) ≤ 16 := by rcases hn with rfl | rfl <;> decide
 have start : FitL n kind [] ∨ True := .inr trivial
 have snoc : ∀ {i : Nat} {os : List OO} {o : OO},os.length = i → (∀ j (h : j < os.length),FitO n (bse kind j) os[j]) → FitO n (bse kind i) o → ∀ j (h : j < (os ++ [o]).length),FitO n (bse kind j) (os ++ [o])[j] := fun {i os o} h1 h2 h3 j h => by
  by_cases hj : j < os.length
  · rw [List.getElem_append_left hj]; exact h2 j hj
  · have : j = os.length := by simp at h; omega
    subst this
    rw [List.getElem_append_right (Nat.le_refl _)]
    simp only [Nat.sub_self,List.getElem_cons_zero]
    rw [h1]; exact h3
 by_cases k3 : kind = 3
 · obtain ⟨N,hN⟩ : ∃ N,N = 2 ^ n := ⟨_,rfl⟩
   rw [← hN] at hsh
   have key := loop_kx (run := run tb) (body := ir5p0) (e := [.int .i64 n,.int .i64 kind,numsD l,.int .i64 p,.bool true]) (J := []) (σ := Nat × List OO) N
    (fun i s => s.1 ≤ l.length ∧ s.2.length = i ∧ ∀ j (h : j < s.2.length),FitO n (bse kind j) s.2[j]) (fun i s => [.int .i64 i,numsD l,.int .i64 s.1,osD s.2])
    (fun r => ∃ (os : List OO) (b : Nat),b ≤ l.length ∧ FitL n kind os ∧ r = [osD os,numsD l,.int .i64 b])
    (by
     rintro i ⟨q,os⟩ L hi ⟨hq,hos,hpre⟩ hL
     simp only at hq hos hpre
     have hi4 : i < 2 ^ n := by omega
     have hi16 : 2 ^ i < 2 ^ (2 ^ n) := Nat.pow_lt_pow_right (by omega) hi4
     obtain ⟨o,b,hb,hfo,hfr⟩ := fitting_run n (2 ^ i) (by omega) (by omega) (ov_small hN2 hi16) l q hl hq
     have hbs : bse kind i = BitVec.ofNat 64 (2 ^ i) := by unfold bse; rw [if_pos k3,pow_bv]
     rw [← hbs] at hfo
     obtain ⟨r,hr,hpost⟩ := hL (b,os ++ [o]) ⟨hb,by simp [hos],snoc hos hpre hfo⟩
     refine ⟨r,?_,hpost⟩
     simp only at hr
     have hci := conv_n i
     have hsi := shl_iu (i := i) (by rcases hN2 with e | e <;> omega)
     have happ := app_O (os := os) (o := o) (by omega)
     have hmk2 : PO.eval (.mk 2 1) [strsD o.1,numsD o.2] = some [.sl [[strsD o.1,numsD o.2]]] := rfl
     have hlt : (i : Int) < (N : Int) := by omega
     generalize ((2 ^ i : Nat) : Int) = pi at *
     simp (disch := omega) only [ir5p0,stepQ,stepL,eq_self,aBin,reduceIte,Int.reduceEq,Int.reduceLT,Int.reduceLE,Int.reduceGT,Int.reduceGE,hcn,hsh,hlt,hci,hsi,hfr,hmk2,happ,wr,natS,hr])
    (by
     rintro ⟨q,os⟩ L ⟨hq,hos,hpre⟩
     simp only at hq hos hpre
     refine ⟨_,?_,os,q,hq,⟨by rw [hos,hN]; unfold wantN; rw [if_pos k3],hpre⟩,rfl⟩
     simp (disch := omega) only [ir5p0,stepQ,stepL,eq_self,aBin,reduceIte,Int.reduceEq,Int.reduceLT,Int.reduceLE,Int.reduceGT,Int.reduceGE,hcn,hsh,Int.lt_irrefl])
   obtain ⟨r,hr,os,b,h1,h2,rfl⟩ := key 0 (p,[]) (Nat.zero_le _) ⟨hp,rfl,fun j h => by simp at h⟩
   refine ⟨os,b,h1,h2,run_ir (x := ir5) rfl ?_⟩
   simp only [nat0] at hr
   rw [os_nil.symm] at hr
   simp (disch := omega) only [ir5,stepQ,stepL,eq_self,aBin,reduceIte,Int.reduceEq,Int.reduceLT,Int.reduceLE,Int.reduceGT,Int.reduceGE,ibeq,k3,decide_true]
   simpa only [List.cons_append,List.nil_append,k3] using hr
 · obtain ⟨N,hN⟩ : ∃ N,N = 2 ^ (2 ^ n) := ⟨_,rfl⟩
   rw [← hN] at hsn
   have key := loop_kx (run := run tb) (body := ir5p1) (e := [.int .i64 n,.int .i64 kind,numsD l,.int .i64 p,.bool false]) (J := []) (σ := Nat × List OO) N
    (fun i s => s.1 ≤ l.length ∧ s.2.length = i ∧ ∀ j (h : j < s.2.length),FitO n (bse kind j) s.2[j]) (fun i s => [.int .i64 i,numsD l,.int .i64 s.1,osD s.2])
    (fun r => ∃ (os : List OO) (b : Nat),b ≤ l.length ∧ FitL n kind os ∧ r = [osD os,numsD l,.int .i64 b])
    (by
     rintro i ⟨q,os⟩ L hi ⟨hq,hos,hpre⟩ hL
     simp only at hq hos hpre
     have hi16 : i < 2 ^ (2 ^ n) := by omega
     obtain ⟨o,b,hb,hfo,hfr⟩ := fitting_run n i (by omega) (by omega) (ov_small hN2 hi16) l q hl hq
     have hbs : bse kind i = BitVec.ofNat 64 i := by unfold bse; rw [if_neg k3]
     rw [← hbs] at hfo
     obtain ⟨r,hr,hpost⟩ := hL (b,os ++ [o]) ⟨hb,by simp [hos],snoc hos hpre hfo⟩
     refine ⟨r,?_,hpost⟩
     simp only at hr
     have happ := app_O (os := os) (o := o) (by omega)
     have hmk2 : PO.eval (.mk 2 1) [strsD o.1,numsD o.2] = some [.sl [[strsD o.1,numsD o.2]]] := rfl
     have hlt : (i : Int) < (N : Int) := by omega
     simp (disch := omega) only [ir5p1,stepQ,stepL,eq_self,aBin,reduceIte,Int.reduceEq,Int.reduceLT,Int.reduceLE,Int.reduceGT,Int.reduceGE,hcn,hsu,hsn,hlt,hfr,hmk2,happ,wr,natS,hr])
    (by
     rintro ⟨q,os⟩ L ⟨hq,hos,hpre⟩
     simp only at hq hos hpre
     refine ⟨_,?_,os,q,hq,⟨by rw [hos,hN]; unfold wantN; rw [if_neg k3],hpre⟩,rfl⟩
     simp (disch := omega) only [ir5p1,stepQ,stepL,eq_self,aBin,reduceIte,Int.reduceEq,Int.reduceLT,Int.reduceLE,Int.reduceGT,Int.reduceGE,hcn,hsu,hsn,Int.lt_irrefl])
   obtain ⟨r,hr,os,b,h1,h2,rfl⟩ := key 0 (p,[]) (Nat.zero_le _) ⟨hp,rfl,fun j h => by simp at h⟩
   refine ⟨os,b,h1,h2,run_ir (x := ir5) rfl ?_⟩
   simp only [nat0] at hr
   rw [os_nil.symm] at hr
   simp (disch := omega) only [ir5,stepQ,stepL,eq_self,aBin,reduceIte,Int.reduceEq,Int.reduceLT,Int.reduceLE,Int.reduceGT,Int.reduceGE,ibeq,k3,decide_false]
   simpa only [List.cons_append,List.nil_append] using hr
theorem fitL_sane {n : Nat} (hn : n = 1 ∨ n = 2) {kind : Int} {os : List OO} (h : FitL n kind os) : Sane os := by
 have key : ∀ o ∈ os,o.1 = vocN n ∧ o.2.length = 2 ^ n := fun o ho => by
  obtain ⟨i,hi,rfl⟩ := List.getElem_of_mem ho
  exact ⟨(h.fit i hi).nm,(h.fit i hi).len⟩
 have h4 : 2 ^ n ≤ 4 := by rcases hn with rfl | rfl <;> decide
 have h16 : 2 ^ (2 ^ n) ≤ 16 := by rcases hn with rfl | rfl <;> decide
 refine ⟨?_,fun o ho => ?_,fun o ho s hs => ?_,fun o ho => ?_⟩
 · rw [h.len]; unfold wantN; split <;> omega
 · rw [(key o ho).1,vocN_len]; omega
 · rw [(key o ho).1] at hs; rw [vocN_short s hs]; omega
 · rw [(key o ho).2]; omega
theorem sameT_run (a : Int) (rows : List (List Int)) (hl : rows.length < 1000000000) (hr : ∀ r ∈ rows,r.length < 1000000000) : run tb 17 [.int .i64 a,tabD rows,.int .i64 a,tabD rows] = some [.bool true] := by
 refine run_ir (x := ir17) rfl ?_
 have hlT := len_T rows
 simp (disch := omega) only [ir17,ir17p2,stepQ,stepL,eq_self,aBin,reduceIte,Int.reduceEq,Int.reduceLT,Int.reduceLE,Int.reduceGT,Int.reduceGE,ibne,hlT,decide_true,Bool.not_true]
 refine loop_k (σ := Unit) rows.length (fun _ _ => True) (fun i _ => [.int .i64 i]) (fun _ _ => [.bool true]) ?_ ?_ 0 () (Nat.zero_le _) trivial
 · rintro i _ M hi _ hM
   have hnext := hM () trivial
   have hrow := row_T hi
   have hlr := len_N rows[i]
   have hi' : (i : Int) < (rows.length : Int) := by omega
   have hrl := hr _ (List.getElem_mem hi)
   simp (disch := omega) only [ir17p1,stepQ,stepL,eq_self,aBin,reduceIte,Int.reduceEq,Int.reduceLT,Int.reduceLE,Int.reduceGT,Int.reduceGE,hlT,hi',hrow,hlr,ibne,decide_true,Bool.not_true]
   refine loop_k (σ := Unit) rows[i].length (fun _ _ => True) (fun j _ => [.int .i64 j]) (fun _ _ => [.bool true]) ?_ ?_ 0 () (Nat.zero_le _) trivial
   · rintro j _ M2 hj _ hM2
     have hnext2 := hM2 () trivial
     have hcell := row_N hj
     have hj' : (j : Int) < (rows[i].length : Int) := by omega
     simp (disch := omega) only [ir17p0,stepQ,stepL,eq_self,aBin,reduceIte,Int.reduceEq,Int.reduceLT,Int.reduceLE,Int.reduceGT,Int.reduceGE,hrow,hlr,hj',hcell,ibne,decide_true,Bool.not_true,wr,natS,hnext2]
   · rintro _ M2 _
     simp (disch := omega) only [ir17p0,stepQ,stepL,eq_self,aBin,reduceIte,Int.reduceEq,Int.reduceLT,Int.reduceLE,Int.reduceGT,Int.reduceGE,hrow,hlr,Int.lt_irrefl,wr,natS,hnext]
 · rintro _ M _
   simp (disch := omega) only [ir17p1,stepQ,stepL,eq_self,aBin,reduceIte,Int.reduceEq,Int.reduceLT,Int.reduceLE,Int.reduceGT,Int.reduceGE,hlT,Int.lt_irrefl]
end Go.Proofs.Ytnfecjmddbehiaa

namespace Go.Proofs.Ytnfecjmddbehiaa
open Go Am
set_option maxRecDepth 100000
def awA (m : Nat) : List (List Int) := List.replicate m [0,1,2,3]
def awB (m : Nat) : List (List Int) := (List.range m).map fun k => [0,((k % 2 : Nat) : Int),((k / 2 * 2 : Nat) : Int),(k : Int)]
theorem awA_succ (m : Nat) : awA (m + 1) = awA m ++ [[0,1,2,3]] := by simp [awA,List.replicate_succ']
theorem awB_succ (m : Nat) : awB (m + 1) = awB m ++ [[0,((m % 2 : Nat) : Int),((m / 2 * 2 : Nat) : Int),(m : Int)]] := by simp [awB,List.range_succ]
theorem awA_chk : chkV 1 1 (awA 4) = [.int .i64 2,.int .i64 1,.int .i64 3,.int .i64 0,.bool true,.int .i64 0] := by kernel_rfl
theorem awB_chk : chkV 1 1 (awB 4) = [.int .i64 3,.int .i64 0,.int .i64 1,.int .i64 0,.bool true,.int .i64 0] := by kernel_rfl
theorem and_12 : ∀ {k : Nat},k < 4 → PO.eval (.bin .and false) [.int .i64 (k : Int),.int .i64 1] = some [.int .i64 ((k % 2 : Nat) : Int)] ∧ PO.eval (.bin .and false) [.int .i64 (k : Int),.int .i64 2] = some [.int .i64 ((k / 2 * 2 : Nat) : Int)]
 | 0,_ => ⟨rfl,rfl⟩
 | 1,_ => ⟨rfl,rfl⟩
 | 2,_ => ⟨rfl,rfl⟩
 | 3,_ => ⟨rfl,rfl⟩
theorem mk_row4 (a b c d : Int) : PO.eval (.mk 1 4) [.int .i64 a,.int .i64 b,.int .i64 c,.int .i64 d] = some [numsD [a,b,c,d]] := rfl
theorem mk_one (d : D) : PO.eval (.mk 1 1) [d] = some [.sl [[d]]] := rfl
theorem callQ_tbr {R : Nat → PF} {e : Env} {J : List PF} (k : IR) (x1 x2 x3 x4 : Int) (b : Bool) (x5 : Int) : callQ R 6 true [] k e J (some [.int .i64 x1,.int .i64 x2,.int .i64 x3,.int .i64 x4,.bool b,.int .i64 x5]) = den R k (e ++ [.int .i64 x1,.int .i64 x2,.int .i64 x3,.int .i64 x4,.bool b,.int .i64 x5]) J := rfl
theorem awakeP_run : run tb 13 [] = some [.bool true] := by
 refine run_ir (x := ir13) rfl ?_
 have c1 : run tb 9 [.int .i64 1,tabD (awA 4),.int .i64 1] = some (chkV 1 1 (awA 4)) := run_ext rfl (tab1_run _ _ _ (by decide) (by decide))
 have c2 : run tb 9 [.int .i64 1,tabD (awB 4),.int .i64 1] = some (chkV 1 1 (awB 4)) := run_ext rfl (tab1_run _ _ _ (by decide) (by decide))
 rw [awA_chk] at c1
 rw [awB_chk] at c2
 have e1 : PO.eval (.eqs false 4) [.int .i64 2,.int .i64 1,.int .i64 3,.int .i64 0,.int .i64 2,.int .i64 1,.int .i64 3,.int .i64 0] = some [.bool true] := rfl
 have e2 : PO.eval (.eqs false 4) [.int .i64 3,.int .i64 0,.int .i64 1,.int .i64 0,.int .i64 3,.int .i64 0,.int .i64 1,.int .i64 0] = some [.bool true] := rfl
 simp (disch := omega) only [ir13,stepQ,stepL,eq_self,aBin,reduceIte,Int.reduceEq,Int.reduceLT,Int.reduceLE,Int.reduceGT,Int.reduceGE]
 rw [tab_nil]
 refine loop_k (σ := Unit) 4 (fun _ _ => True) (fun i _ => [.int .i64 i,tabD (awA i),tabD (awB i)]) (fun _ _ => [.bool true]) ?_ ?_ 0 () (Nat.zero_le _) trivial
 · rintro i _ L hi _ hL
   have hnext := hL () trivial
   rw [awA_succ,awB_succ] at hnext
   have h12 := and_12 hi
   have hi' : (i : Int) < 4 := by omega
   have a1 := app_T (rows := awA i) (r := [0,1,2,3]) (by simp [awA]; omega)
   have a2 := app_T (rows := awB i) (r := [0,((i % 2 : Nat) : Int),((i / 2 * 2 : Nat) : Int),(i : Int)]) (by simp [awB]; omega)
   simp (disch := omega) only [ir13p0,stepQ,stepL,eq_self,aBin,reduceIte,Int.reduceEq,Int.reduceLT,Int.reduceLE,Int.reduceGT,Int.reduceGE,hi',mk_row4,mk_one,h12.1,h12.2,a1,a2,wr,natS,hnext]
 · rintro _ L _
   have h4 : ¬ ((4 : Nat) : Int) < 4 := by omega
   simp (disch := omega) only [ir13p0,stepQ,stepL,eq_self,aBin,reduceIte,Int.reduceEq,Int.reduceLT,Int.reduceLE,Int.reduceGT,Int.reduceGE,h4,c1,c2,callQ_tbr,e1,e2]
end Go.Proofs.Ytnfecjmddbehiaa

namespace Go.Proofs.Ytnfecjmddbehiaa
open Go Am
set_option maxRecDepth 100000
theorem mkV_form (l : List OO) (kind : Int) (hs : Sane l) : ∃ (a : Int) (rows : List (List Int)) (e : Int),mkV l kind = [.int .i64 a,tabD rows,.int .i64 e] ∧ rows.length < 1000000000 ∧ ∀ r ∈ rows,r.length < 1000000000 := by
 by_cases h : mkE l kind = 0
 · have h16 : 2 ^ (2 ^ (nam0 l).length) ≤ 16 := by
    rcases mkE_cases l kind with h1 | h1 | h1 | h1 | h1
    · exact absurd h (by rw [h1.1]; decide)
    · exact absurd h (by rw [h1.2.2]; decide)
    · exact absurd h (by rw [h1.2.2.2]; decide)
    · exact absurd h (by rw [h1.2.2.2.2]; decide)
    · rcases h1.1.at_ with e | e <;> rw [e] <;> decide
   refine ⟨((nam0 l).length : Int),mkT kind l (2 ^ (2 ^ (nam0 l).length)),0,?_,?_,?_⟩
   · unfold mkV; rw [if_pos h]
   · rw [tab_len]; omega
   · intro r hr
     obtain ⟨k,_,rfl⟩ := List.mem_map.1 hr
     rw [row_len]; omega
 · exact ⟨0,[],_,by unfold mkV; rw [if_neg h]; rfl,by decide,fun r hr => by simp at hr⟩
theorem sane_set {l : List OO} (h : Sane l) (i : Nat) {o : OO} (h1 : o.1.length < 1000000000) (h2 : ∀ s ∈ o.1,s.length < 9223372036854775808) (h3 : o.2.length < 1000000000) : Sane (l.set i o) := by
 have key : ∀ x ∈ l.set i o,x ∈ l ∨ x = o := fun x hx => List.mem_or_eq_of_mem_set hx
 refine ⟨by rw [List.length_set]; exact h.n,fun x hx => ?_,fun x hx => ?_,fun x hx => ?_⟩
 · rcases key x hx with e | rfl
   · exact h.nm x e
   · exact h1
 · rcases key x hx with e | rfl
   · exact h.st x e
   · exact h2
 · rcases key x hx with e | rfl
   · exact h.rk x e
   · exact h3
theorem sane_drop {l : List OO} (h : Sane l) (i : Nat) : Sane (l.drop i) :=
 ⟨by rw [List.length_drop]; have := h.n; omega,fun x hx => h.nm x (List.mem_of_mem_drop hx),fun x hx => h.st x (List.mem_of_mem_drop hx),fun x hx => h.rk x (List.mem_of_mem_drop hx)⟩
theorem sane_nil : Sane [] := ⟨by decide,fun x hx => by simp at hx,fun x hx => by simp at hx,fun x hx => by simp at hx⟩
theorem sane_one {o : OO} (h1 : o.1.length < 1000000000) (h2 : ∀ s ∈ o.1,s.length < 9223372036854775808) (h3 : o.2.length < 1000000000) : Sane [o] := by
 refine ⟨by simp,fun x hx => ?_,fun x hx => ?_,fun x hx => ?_⟩ <;> rw [List.mem_singleton] at hx <;> subst hx <;> assumption
theorem app_OO {os : List OO} (h : os.length < 1000000000) : PO.eval (.app 2 48) [.sl [],osD os] = some [osD os] := by
 have := ev_app (sz := 2) (bt := 48) (xs := []) (ys := os.map fun o => [strsD o.1,numsD o.2]) (by simp; omega) (by simp; omega) (by simp)
 simpa [osD] using this
theorem chk_O {l : List OO} {i : Nat} (h : i < l.length) : PO.eval .chk [osD l,.int .i64 i] = some [] := ev_chk (by omega) (by simp; omega)
theorem set_O {l : List OO} {i : Nat} (h : i < l.length) (o : OO) : PO.eval (.set 0 2) [osD l,.int .i64 i,strsD o.1,numsD o.2] = some [osD (l.set i o)] := by
 simp [PO.eval,osD,h,setD,List.map_set]
theorem drop_O {l : List OO} (h : 1 ≤ l.length) : PO.eval (.subL 2) [osD l,.int .i64 1,.int .i64 (l.length : Int)] = some [osD (l.drop 1)] := by
 have := ev_subL (sz := 2) (k := .i64) (k' := .i64) (xs := l.map fun o => [strsD o.1,numsD o.2]) (a := 1) (b := (l.length : Int)) (by omega) (by omega) (by simp) (by simp)
 rw [osD,this,osD,List.map_drop,List.take_of_length_le (by simp)]
 rfl
theorem mk_O (o : OO) : PO.eval (.mk 2 1) [strsD o.1,numsD o.2] = some [osD [o]] := rfl
def ossD (ls : List (List OO)) : D := .sl (ls.map fun l => [osD l])
theorem chk_OS {l : List (List OO)} {i : Nat} (h : i < l.length) : PO.eval .chk [ossD l,.int .i64 i] = some [] := ev_chk (by omega) (by simp; omega)
theorem get_OS {l : List (List OO)} {i : Nat} (h : i < l.length) : PO.eval (.get 0 1) [ossD l,.int .i64 i] = some [osD l[i]] := by
 simp [PO.eval,ossD,h]
theorem mk_OS (a b c d e : List OO) : PO.eval (.mk 1 6) [osD a,osD b,osD c,osD d,osD e,.sl []] = some [ossD [a,b,c,d,e,[]]] := rfl
theorem mk_two (a b : Int) : PO.eval (.mk 1 2) [.int .i64 a,.int .i64 b] = some [numsD [a,b]] := rfl
theorem mk_six (a b c d e f : Int) : PO.eval (.mk 1 6) [.int .i64 a,.int .i64 b,.int .i64 c,.int .i64 d,.int .i64 e,.int .i64 f] = some [numsD [a,b,c,d,e,f]] := rfl
theorem pick_N (xs : List Int) (hx : 0 < xs.length) (hx2 : xs.length < 1000000) (l : List Int) (p : Nat) (hl : l.length ≤ 2000) (hp : p ≤ l.length) :
 ∃ (x : Int) (b : Nat),x ∈ xs ∧ b ≤ l.length ∧ run tb 14 [numsD xs,numsD l,.int .i64 p] = some [.int .i64 x,numsD l,.int .i64 b] := by
 obtain ⟨i,b,i0,i1,hb,hi⟩ := n_run xs.length l p hl hp (by omega) (by omega)
 obtain ⟨i,rfl⟩ := Int.eq_ofNat_of_zero_le i0
 have hi : run tb 7 [.int .i64 (xs.length : Int),numsD l,.int .i64 p] = some [.int .i64 (i : Int),numsD l,.int .i64 b] := hi
 have hlt : i < xs.length := by have : (i : Int) < xs.length := i1; omega
 refine ⟨xs[i],b,List.getElem_mem hlt,hb,run_ir (x := ir14) rfl ?_⟩
 have hrow := row_N hlt
 simp (disch := omega) only [ir14,stepQ,stepL,eq_self,aBin,reduceIte,Int.reduceEq,Int.reduceLT,Int.reduceLE,Int.reduceGT,Int.reduceGE,len_N,hi,hrow]
theorem makes_run (nm : List (List UInt8)) (rk : List Int) (hst : ∀ s ∈ nm,s.length < 9223372036854775808) (l0 : List Int) (kind : Int) :
 run tb 1 [strsD nm,numsD rk,numsD l0,.int .i64 kind] = some [.bool true] := by
 have aw := awakeP_run
 refine run_ir (x := ir1) rfl ?_
 by_cases b1 : (nm.length : Int) > 10
 · simp (disch := omega) only [ir1,ir1p3,stepQ,stepL,eq_self,aBin,reduceIte,Int.reduceEq,Int.reduceLT,Int.reduceLE,Int.reduceGT,Int.reduceGE,len_S,b1,aw]
 by_cases b2 : (rk.length : Int) > 100
 · simp (disch := omega) only [ir1,ir1p3,stepQ,stepL,eq_self,aBin,reduceIte,Int.reduceEq,Int.reduceLT,Int.reduceLE,Int.reduceGT,Int.reduceGE,len_S,len_N,b1,b2,aw]
 obtain ⟨l,hl,hn⟩ := new_run l0
 obtain ⟨n,p,n1,n2,hp,hnr⟩ := range_run 1 2 l 0 hl (by omega) (by omega) (by omega) (by omega)
 obtain ⟨n,rfl⟩ := Int.eq_ofNat_of_zero_le (show 0 ≤ n by omega)
 have hnr : run tb 4 [.int .i64 1,.int .i64 2,numsD l,.int .i64 0] = some [.int .i64 (n : Int),numsD l,.int .i64 p] := hnr
 obtain ⟨k,p1,k1,k2,hp1,hkr⟩ := range_run 1 3 l p hl hp (by omega) (by omega) (by omega)
 have hn12 : n = 1 ∨ n = 2 := by have h1 : (1 : Int) ≤ n := n1; have h2 : (n : Int) ≤ 2 := n2; omega
 obtain ⟨os,p2,hp2,hF,hor⟩ := orders_run n hn12 k l p1 hl hp1
 have hS := fitL_sane hn12 hF
 have hol : 2 ≤ os.length ∧ os.length ≤ 16 := by
  rw [hF.len]; unfold wantN
  rcases hn12 with rfl | rfl <;> split <;> decide
 obtain ⟨i1,p3,i10,i11,hp3,hi1⟩ := n_run os.length l p2 hl hp2 (by omega) (by omega)
 obtain ⟨i1,rfl⟩ := Int.eq_ofNat_of_zero_le i10
 have hi1 : run tb 7 [.int .i64 (os.length : Int),numsD l,.int .i64 p2] = some [.int .i64 (i1 : Int),numsD l,.int .i64 p3] := hi1
 have li1 : i1 < os.length := by have : (i1 : Int) < os.length := i11; omega
 obtain ⟨m,p4,hm,hp4,hpk⟩ := pick_N [(n : Int),(n : Int),(n : Int),1,2,3] (by simp) (by simp) l p3 hl hp3
 have hm3 : 1 ≤ m ∧ m ≤ 3 := by
  simp only [List.mem_cons,List.not_mem_nil,or_false] at hm
  rcases hn12 with rfl | rfl <;> omega
 obtain ⟨m,rfl⟩ := Int.eq_ofNat_of_zero_le (show 0 ≤ m by omega)
 have hpk : run tb 14 [numsD [(n : Int),(n : Int),(n : Int),1,2,3],numsD l,.int .i64 p3] = some [.int .i64 (m : Int),numsD l,.int .i64 p4] := hpk
 have hm6 : m ≤ 6 := by have h1 : (m : Int) ≤ 3 := hm3.2; omega
 obtain ⟨rs,p5,hrs,hp5,hso⟩ := some_run m hm6 l p4 hl hp4
 obtain ⟨i2,p6,i20,i21,hp6,hi2⟩ := n_run os.length l p5 hl hp5 (by omega) (by omega)
 obtain ⟨i2,rfl⟩ := Int.eq_ofNat_of_zero_le i20
 have hi2 : run tb 7 [.int .i64 (os.length : Int),numsD l,.int .i64 p5] = some [.int .i64 (i2 : Int),numsD l,.int .i64 p6] := hi2
 have li2 : i2 < os.length := by have : (i2 : Int) < os.length := i21; omega
 have h64 := pow6 hm6
 have sP : Sane (os.set i1 (vocN m,normS rs)) := sane_set hS i1 (by simp only [vocN_len]; omega) (fun s hs => by rw [vocN_short s hs]; omega) (by simp only [normS,List.length_map]; omega)
 have sQ : Sane (os.set i2 (nm,rk)) := sane_set hS i2 (by simp only; omega) hst (by simp only; omega)
 have sD := sane_drop hS 1
 have sO : Sane [(nm,rk)] := sane_one (by simp only; omega) hst (by simp only; omega)
 have ha := app_OO (os := os) (by omega)
 have hc1 := chk_O li1
 have hs1 := set_O li1 (vocN m,normS rs)
 have hc2 := chk_O li2
 have hs2 := set_O li2 (nm,rk)
 have hdr := drop_O (l := os) (by omega)
 have hmo := mk_O (nm,rk)
 obtain ⟨ls,hls⟩ : ∃ ls,ls = [os,os.set i1 (vocN m,normS rs),os.set i2 (nm,rk),os.drop 1,[(nm,rk)],[]] := ⟨_,rfl⟩
 have hmk : PO.eval (.mk 1 6) [osD os,osD (os.set i1 (vocN m,normS rs)),osD (os.set i2 (nm,rk)),osD (os.drop 1),osD [(nm,rk)],.sl []] = some [ossD ls] := by rw [hls]; exact mk_OS _ _ _ _ _
 have hl6 : ls.length = 6 := by rw [hls]; rfl
 have hall : ∀ x ∈ ls,Sane x := by
  rw [hls]
  intro x hx
  simp only [List.mem_cons,List.not_mem_nil,or_false] at hx
  rcases hx with rfl | rfl | rfl | rfl | rfl | rfl
  · exact hS
  · exact sP
  · exact sQ
  · exact sD
  · exact sO
  · exact sane_nil
 clear hls
 generalize os.set i1 (vocN m,normS rs) = pp at *
 generalize os.set i2 (nm,rk) = qq at *
 generalize os.drop 1 = dd at *
 simp (disch := omega) only [ir1,ir1p3,stepQ,stepL,eq_self,aBin,reduceIte,Int.reduceEq,Int.reduceLT,Int.reduceLE,Int.reduceGT,Int.reduceGE,len_S,len_N,len_O,b1,b2,hn,hnr,hkr,hor,ha,hi1,mk_six,hpk,hso,hc1,hs1,hi2,hc2,hs2,hdr,hmo,hmk]
 refine loop_k (σ := Unit) 6 (fun _ _ => True) (fun i _ => [.int .i64 i]) (fun _ _ => [.bool true]) ?_ ?_ 0 () (Nat.zero_le _) trivial
 · rintro i _ L hi _ hL
   have hnext := hL () trivial
   have hi' : (i : Int) < 6 := by omega
   have hc := chk_OS (l := ls) (i := i) (by omega)
   have hg := get_OS (l := ls) (i := i) (by omega)
   have hsx : Sane (ls[i]'(by omega)) := hall _ (List.getElem_mem _)
   generalize ls[i]'(by omega) = x at *
   simp (disch := omega) only [ir1p2,stepQ,stepL,eq_self,aBin,reduceIte,Int.reduceEq,Int.reduceLT,Int.reduceLE,Int.reduceGT,Int.reduceGE,hi',hc,hg,mk_two,len_N]
   refine loop_k (σ := Unit) 2 (fun _ _ => True) (fun i _ => [.int .i64 i]) (fun _ _ => [.bool true]) ?_ ?_ 0 () (Nat.zero_le _) trivial
   · rintro j _ M hj _ hM
     have hnext2 := hM () trivial
     have hc3 := chk_N (l := [kind,k]) (i := j) hj
     have hg3 := get_N (l := [kind,k]) (i := j) hj
     have hj' : (j : Int) < ([kind,k].length : Int) := by simp; omega
     generalize [kind,k][j] = kd at *
     have e1 := makeP_run x kd hsx
     have e2 := makeR_run x kd hsx
     obtain ⟨a,rows,e,hv,hr1,hr2⟩ := mkV_form x kd hsx
     rw [hv] at e1 e2
     have hsm := sameT_run a rows hr1 hr2
     simp (disch := omega) only [ir1p1,ir1p0,stepQ,stepL,eq_self,aBin,reduceIte,Int.reduceEq,Int.reduceLT,Int.reduceLE,Int.reduceGT,Int.reduceGE,hj',hc3,hg3,e1,e2,ibne,decide_true,Bool.not_true,hsm,wr,natS,hnext2]
   · rintro _ M _
     have hj' : ¬ (2 : Int) < ([kind,k].length : Int) := by simp
     simp (disch := omega) only [ir1p1,stepQ,stepL,eq_self,aBin,reduceIte,Int.reduceEq,Int.reduceLT,Int.reduceLE,Int.reduceGT,Int.reduceGE,hj',wr,natS,hnext]
 · rintro _ L _
   have hi' : ¬ ((6 : Nat) : Int) < 6 := by omega
   simp (disch := omega) only [ir1p2,stepQ,stepL,eq_self,aBin,reduceIte,Int.reduceEq,Int.reduceLT,Int.reduceLE,Int.reduceGT,Int.reduceGE,hi',aw]
end Go.Proofs.Ytnfecjmddbehiaa

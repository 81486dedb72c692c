/- What functions of the program compute: lemmas. -/
import Derived.Test.YtnfecjmddbehiaaLk
import Derived.Test.YtnfecjmddbehiaaUd
set_option linter.unusedSimpArgs false
set_option linter.unusedVariables false
set_option linter.unusedSectionVars false
namespace Go.Proofs.Ytnfecjmddbehiaa
open Go Am
set_option maxRecDepth 100000
theorem checkX (n : Int) (rows : List (List Int)) (kind : Int) (hv : Vld n rows) : run tb 9 [.int .i64 n,tabD rows,.int .i64 kind] = some (chkV kind n rows) :=
 run_ext rfl (tab1_run _ _ _ (by rw [hv.len]; have := szT_le n; omega) fun r hr => by rw [hv.row r hr]; have := szT_le n; omega)
theorem countX (n : Int) (rows : List (List Int)) (kind : Int) (hv : Vld n rows) : run tb 20 [.int .i64 n,tabD rows,.int .i64 kind] = some [numsD (cntR kind n rows),.int .i64 (chkE n rows kind)] :=
 run_ext rfl (tab1_run _ _ _ (by rw [hv.len]; have := szT_le n; omega) fun r hr => by rw [hv.row r hr]; have := szT_le n; omega)
theorem chkV_nil {n : Int} {rows : List (List Int)} {kind : Int} (hv : Vld n rows) (hk : kind = 1 ∨ kind = 2 ∨ kind = 3) (hq : bQ kind n rows = []) : chkV kind n rows = [.int .i64 0,.int .i64 0,.int .i64 0,.int .i64 0,.bool false,.int .i64 0] := by
 unfold chkV
 rw [if_pos (chkE_ok.2 ⟨hv,hk⟩),hq]
 rfl
def rowG (m : Nat) (G : Nat → Nat → BitVec 64) (k : Nat) : List Int := (List.range m).map fun f => ((G k f).toNat : Int)
theorem tabG_take {m : Nat} {G : Nat → Nat → BitVec 64} {k : Nat} (h : k < m) : (tabG m G).take (k + 1) = (tabG m G).take k ++ [rowG m G k] := by
 rw [List.take_add_one]
 simp [tabG,h,rowG]
theorem updates37_run (l0 : List Int) : run tb 2 [numsD l0] = some [.bool true] := by
 have aw := awakeP_run
 obtain ⟨l,hl,hn⟩ := new_run l0
 obtain ⟨n,p,n1,n2,hp,hnr⟩ := range_run 1 2 l 0 hl (by omega) (by omega) (by omega) (by omega)
 obtain ⟨n,rfl⟩ := Int.eq_ofNat_of_zero_le (show 0 ≤ n by omega)
 have hnr : run tb 4 [.int .i64 1,.int .i64 2,numsD l,.int .i64 0] = some [.int .i64 (n : Int),numsD l,.int .i64 p] := hnr
 have hn12 : n = 1 ∨ n = 2 := by have h1 : (1 : Int) ≤ n := n1; have h2 : (n : Int) ≤ 2 := n2; omega
 obtain ⟨os,p1,hp1,hF,hor⟩ := orders_run n hn12 3 l p hl hp
 have hS := fitL_sane hn12 hF
 obtain ⟨hE,hnam,_⟩ := fitL_mk hn12 (.inr (.inr rfl)) hF
 obtain ⟨hv1,hq1⟩ := fit_tab hn12 (.inr (.inr rfl)) hF
 have hmk := makeP_run os 3 hS
 unfold mkV at hmk
 rw [if_pos hE,hnam,vocN_len] at hmk
 have hck := checkX n _ 3 hv1
 rw [chkV_nil hv1 (.inr (.inr rfl)) hq1] at hck
 clear hv1 hq1 hE hS hF
 generalize mkT 3 os (2 ^ 2 ^ n) = T1 at *
 obtain ⟨d,p2,d1,d3,hp2,hd⟩ := range_run 1 3 l p1 hl hp1 (by omega) (by omega) (by omega)
 have hdk := dOk_2 d1 d3
 obtain ⟨hv2,hq2,hc0,hc1⟩ := dst_tab hn12 d1 d3
 have hck2 := checkX n _ 3 hv2
 rw [chkV_nil hv2 (.inr (.inr rfl)) hq2] at hck2
 have hcn2 := countX n _ 1 hv2
 have hE2 : chkE (n : Int) (dstT n d) 1 = 0 := chkE_ok.2 ⟨hv2,.inl rfl⟩
 have hcR : cntR 1 (n : Int) (dstT n d) = cntV 5 (bQ 1 (n : Int) (dstT n d)) := by unfold cntR; rw [if_pos hE2]; rfl
 rw [hE2,hcR] at hcn2
 have hcl := cntV_len 5 (bQ 1 (n : Int) (dstT n d))
 clear hcR hE2 hq2
 generalize cntV 5 (bQ 1 (n : Int) (dstT n d)) = C at *
 have hvo := voc_run n (by omega)
 have hcn := conv_n n
 have hsh := shl_iu (i := n) (by omega)
 have hsu := shl_u (i := n) (by omega)
 have hsn : PO.eval (.bin .shl false) [.int .i64 1,bvD (1#64 <<< n)] = some [.int .i64 ((2 ^ (2 ^ n) : Nat) : Int)] := by
  rw [← pow_bv]
  exact shl_iu (by rcases hn12 with rfl | rfl <;> decide)
 have h4 : 2 ^ n ≤ 4 := by rcases hn12 with rfl | rfl <;> decide
 have h16 : 2 ^ (2 ^ n) ≤ 16 := by rcases hn12 with rfl | rfl <;> decide
 obtain ⟨G,hG⟩ : ∃ G : Nat → Nat → BitVec 64,G = fun k f => unionS (2 ^ n) (BitVec.ofNat 64 k) (BitVec.ofNat 64 f) d := ⟨_,rfl⟩
 have hT : dstT n d = tabG (2 ^ (2 ^ n)) G := by rw [hG]; rfl
 rw [hT] at hck2 hcn2
 have near_lt : ∀ (v g : Nat),(nearS (2 ^ n) v (BitVec.ofNat 64 g) d).toNat < 2 ^ (2 ^ n) := fun v g => ov_lt fun w hw => (near_sub (by omega) hw).2
 have uni_lt : ∀ (k g v : Nat),(unionT (2 ^ n) (BitVec.ofNat 64 k) (BitVec.ofNat 64 g) d v).toNat < 2 ^ (2 ^ n) := fun k g v => ov_lt fun w hw => by
  obtain ⟨u,_,_,h⟩ := (has_unionT (by omega)).1 hw
  exact (near_sub (by omega) h).2
 have nearX : ∀ (v g : Nat),v < 2 ^ n → run tb 19 [strsD (vocN n),.int .i64 (v : Int),bvD (BitVec.ofNat 64 g),.int .i64 d] = some [bvD (nearS (2 ^ n) v (BitVec.ofNat 64 g) d),.int .i64 0] := fun v g hv => by
  have h1 := nearestAR_run (vocN n) (by rw [vocN_len]; omega) (fun s hs => by rw [vocN_short s hs]; omega) (v : Int) (BitVec.ofNat 64 g) d
  have ee : nearE (vocN n) (v : Int) d = 0 := by
   unfold nearE
   rw [vocN_len,if_neg ?_,if_neg (by simp [hdk])]
   rintro (h | h | h)
   · rw [vocN_ok (by omega)] at h; cases h
   · omega
   · omega
  unfold nearA at h1
  rw [ee,if_pos rfl,vocN_len] at h1
  exact h1
 have uT : ∀ (k g v : Nat),unionT (2 ^ n) (BitVec.ofNat 64 k) (BitVec.ofNat 64 g) d (v + 1) = if (BitVec.ofNat 64 k).getLsbD v = true then unionT (2 ^ n) (BitVec.ofNat 64 k) (BitVec.ofNat 64 g) d v ||| nearS (2 ^ n) v (BitVec.ofNat 64 g) d else unionT (2 ^ n) (BitVec.ofNat 64 k) (BitVec.ofNat 64 g) d v := fun k g v => unionT_s (by omega) _ _ _ _
 have u0 : ∀ (k g : Nat),unionT (2 ^ n) (BitVec.ofNat 64 k) (BitVec.ofNat 64 g) d 0 = 0#64 := fun k g => unionT_0 (by omega) _ _ _
 have uN : ∀ (k g : Nat),G k g = unionT (2 ^ n) (BitVec.ofNat 64 k) (BitVec.ofNat 64 g) d (2 ^ n) := fun k g => by rw [hG]; rfl
 clear hT hG hv2
 obtain ⟨U,hU⟩ : ∃ U : Nat → Nat → Nat → BitVec 64,U = fun k g v => unionT (2 ^ n) (BitVec.ofNat 64 k) (BitVec.ofNat 64 g) d v := ⟨_,rfl⟩
 have uni_lt : ∀ k g v,(U k g v).toNat < 2 ^ (2 ^ n) := by rw [hU]; exact uni_lt
 have uT : ∀ k g v,U k g (v + 1) = if (BitVec.ofNat 64 k).getLsbD v = true then U k g v ||| nearS (2 ^ n) v (BitVec.ofNat 64 g) d else U k g v := by rw [hU]; exact uT
 have u0 : ∀ k g,U k g 0 = 0#64 := by rw [hU]; exact u0
 have uN : ∀ k g,G k g = U k g (2 ^ n) := by rw [hU]; exact uN
 clear hU
 obtain ⟨N,hN⟩ : ∃ N,N = 2 ^ n := ⟨_,rfl⟩
 obtain ⟨m,hm⟩ : ∃ m,m = 2 ^ (2 ^ n) := ⟨_,rfl⟩
 rw [← hm] at hck2 hcn2 hsn h16 near_lt uni_lt
 have hN' : N ≤ 4 := by rw [hN]; exact h4
 have hsh : PO.eval (.bin .shl false) [.int .i64 1,bvD (BitVec.ofNat 64 n)] = some [.int .i64 (N : Int)] := by rw [hN]; exact hsh
 refine run_ir (x := ir2) rfl ?_
 simp (disch := omega) only [ir2,ir2p5,stepQ,stepL,eq_self,aBin,reduceIte,Int.reduceEq,Int.reduceLT,Int.reduceLE,Int.reduceGT,Int.reduceGE,hn,hnr,hor,hmk,hck,ibne,decide_true,Bool.not_true,hd,hcn,hsu,hsn]
 rw [tab_nil]
 refine loop_k (σ := Unit) m (fun _ _ => True) (fun k _ => [.int .i64 k,tabD ((tabG m G).take k)]) (fun _ _ => [.bool true]) ?_ ?_ 0 () (Nat.zero_le _) trivial
 · rintro k _ L hk _ hL
   have hnext := hL () trivial
   rw [tabG_take hk] at hnext
   have hkm : (k : Int) < (m : Int) := by omega
   have hmk8 := mkN (n := m) (by omega)
   obtain ⟨R,hR⟩ : ∃ R,R = rowG m G k := ⟨_,rfl⟩
   rw [← hR] at hnext
   have hRl : R.length = m := by rw [hR]; simp [rowG]
   have hRg : ∀ g,g < m → R.getD g 0 = ((U k g N).toNat : Int) := fun g hg => by rw [hR,hN,← uN]; simp [rowG,hg]
   have hR0 : List.replicate m 0 = fil R 0 := by rw [← hRl]; exact fil_zero R
   rw [hR0] at hmk8
   have hmk8 : PO.eval (.mkL 8 [.int .i64 0]) [.int .i64 (m : Int)] = some [numsD (fil R 0)] := hmk8
   have htl : ((tabG m G).take k).length < 1000000000 := by rw [List.length_take,tabG_len]; omega
   have happ := app_T (r := R) htl
   clear hR
   simp (disch := omega) only [ir2p4,stepQ,stepL,eq_self,aBin,reduceIte,Int.reduceEq,Int.reduceLT,Int.reduceLE,Int.reduceGT,Int.reduceGE,hkm,hmk8]
   refine loop_k (σ := Unit) m (fun _ _ => True) (fun g _ => [.int .i64 g,numsD (fil R g)]) (fun _ _ => [.bool true]) ?_ ?_ 0 () (Nat.zero_le _) trivial
   · rintro g _ M hg _ hM
     have hnext2 := hM () trivial
     have hgm : (g : Int) < (m : Int) := by omega
     have hgR : g < R.length := by omega
     rw [← fil_succ hgR,hRg g hg] at hnext2
     simp (disch := omega) only [ir2p2,stepQ,stepL,eq_self,aBin,reduceIte,Int.reduceEq,Int.reduceLT,Int.reduceLE,Int.reduceGT,Int.reduceGE,hgm]
     have hst : fil R g = (fil R g).set g ((U k g 0).toNat : Int) := by rw [u0]; exact (fil_at hgR).symm
     rw [show [D.int .i64 0,numsD (fil R g)] = [D.int .i64 0,numsD ((fil R g).set g ((U k g 0).toNat : Int))] by rw [← hst]]
     have hfl : (fil R g).length = m := by rw [fil_len,hRl]
     refine loop_k (σ := Unit) N (fun _ _ => True) (fun v _ => [.int .i64 v,numsD ((fil R g).set g ((U k g v).toNat : Int))]) (fun _ _ => [.bool true]) ?_ ?_ 0 () (Nat.zero_le _) trivial
     · rintro v _ K hv _ hK
       have hnext3 := hK () trivial
       rw [uT] at hnext3
       have hvN : (v : Int) < (N : Int) := by omega
       have hcv := conv_n v
       have hcg := conv_n g
       have hkv := shr_iu (k := k) (w := v) (by omega) (by omega)
       have hbt := iv_bit (x := BitVec.ofNat 64 k) (by unfold Sml; rw [BitVec.toNat_ofNat]; omega) v
       have hon := iv_one (BitVec.ofNat 64 k) v
       cases hb : (BitVec.ofNat 64 k).getLsbD v with
       | false =>
        rw [hb] at hon
        rw [hb,if_neg (by decide)] at hnext3
        simp (disch := omega) only [ir2p1,ir2p0,stepQ,stepL,eq_self,aBin,reduceIte,Int.reduceEq,Int.reduceLT,Int.reduceLE,Int.reduceGT,Int.reduceGE,hcn,hsh,hvN,hcv,hkv,hbt,hon,wr,natS,hnext3]
       | true =>
        rw [hb] at hon
        rw [hb,if_pos rfl] at hnext3
        have hne := nearX v g (by omega)
        have hl1 := near_lt v g
        have hl2 := uni_lt k g v
        obtain ⟨Y,hY⟩ : ∃ Y,Y = nearS (2 ^ n) v (BitVec.ofNat 64 g) d := ⟨_,rfl⟩
        rw [← hY] at hne hl1 hnext3
        have hconv : PO.eval (.conv .i64) [bvD Y] = some [ivD Y] := bv_int (x := Y) (by omega)
        have hor2 := iv_or false (x := U k g v) (y := Y) (by unfold Sml; omega) (by unfold Sml; omega)
        have hc := chk_N (l := (fil R g).set g ((U k g v).toNat : Int)) (i := g) (by rw [List.length_set]; omega)
        have hgt := get_I (l := (fil R g).set g ((U k g v).toNat : Int)) (i := g) (x := U k g v) (by rw [List.length_set]; omega) (by simp)
        have hse := set_I (l := (fil R g).set g ((U k g v).toNat : Int)) (i := g) (by rw [List.length_set]; omega) (U k g v ||| Y)
        rw [List.set_set] at hse
        simp (disch := omega) only [ir2p1,ir2p0,stepQ,stepL,eq_self,aBin,reduceIte,Int.reduceEq,Int.reduceLT,Int.reduceLE,Int.reduceGT,Int.reduceGE,hcn,hsh,hvN,hcv,hkv,hbt,hon,hvo,hcg,hne,hc,hgt,hconv,hor2,hse,wr,natS,hnext3]
     · rintro _ K _
       simp (disch := omega) only [ir2p1,stepQ,stepL,eq_self,aBin,reduceIte,Int.reduceEq,Int.reduceLT,Int.reduceLE,Int.reduceGT,Int.reduceGE,hcn,hsh,Int.lt_irrefl,wr,natS,hnext2]
   · rintro _ M _
     have e : fil R m = R := by rw [← hRl]; exact fil_end R
     rw [e]
     have hm1 : PO.eval (.mk 1 1) [numsD R] = some [.sl [[numsD R]]] := rfl
     simp (disch := omega) only [ir2p2,stepQ,stepL,eq_self,aBin,reduceIte,Int.reduceEq,Int.reduceLT,Int.reduceLE,Int.reduceGT,Int.reduceGE,Int.lt_irrefl,hm1,happ,wr,natS,hnext]
 · rintro _ L _
   have e : (tabG m G).take m = tabG m G := List.take_of_length_le (by rw [tabG_len]; omega)
   rw [e]
   have r0 : PO.eval (.row 1) [numsD C,.int .i64 0] = some [.int .i64 0] := by
    have := row_N (l := C) (i := 0) (by omega)
    rw [List.getD_eq_getElem?_getD,List.getElem?_eq_getElem (by omega),Option.getD_some] at hc0
    rw [hc0] at this
    exact this
   have hCl : ((C.length : Int)) = 5 := by omega
   by_cases e1 : (n : Int) = 1
   · have e1 := eq_true e1
     simp (disch := omega) only [ir2p4,ir2p3,stepQ,stepL,eq_self,aBin,reduceIte,Int.reduceEq,Int.reduceLT,Int.reduceLE,Int.reduceGT,Int.reduceGE,Int.lt_irrefl,hck2,callQ_tbr,hcn2,len_N,hCl,r0,ibne,decide_true,Bool.not_true,e1,aw]
   · have e1 := eq_false e1
     have hc1 : C.getD 1 0 > 0 := hc1.resolve_left (fun h => by rw [h] at e1; simp at e1)
     have r1 := row_N (l := C) (i := 1) (by omega)
     rw [List.getD_eq_getElem?_getD,List.getElem?_eq_getElem (by omega),Option.getD_some] at hc1
     generalize C[1]'(by omega) = c1 at *
     have r1 : PO.eval (.row 1) [numsD C,.int .i64 1] = some [.int .i64 c1] := r1
     simp (disch := omega) only [ir2p4,ir2p3,stepQ,stepL,eq_self,aBin,reduceIte,Int.reduceEq,Int.reduceLT,Int.reduceLE,Int.reduceGT,Int.reduceGE,Int.lt_irrefl,hck2,callQ_tbr,hcn2,len_N,hCl,r0,r1,hc1,ibne,decide_true,decide_false,Bool.not_true,e1,aw]
end Go.Proofs.Ytnfecjmddbehiaa

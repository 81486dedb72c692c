/- What functions of the program compute: lemmas. -/
import Derived.Test.YtnfecjmddbehiaaAm7
import Derived.Test.YtnfecjmddbehiaaMk3
set_option linter.unusedSimpArgs false
set_option linter.unusedVariables false
set_option linter.unusedSectionVars false
namespace Go.Proofs.Ytnfecjmddbehiaa
open Go Am
set_option maxRecDepth 100000
theorem insideR_run (x y : BitVec 64) (h : Sml x) : run tb 42 [ivD x,ivD y] = some [.bool (subB x y)] := by
 refine run_ir (x := ir42) rfl ?_
 simp only [ir42,stepQ,stepL,eq_self,aBin,reduceIte,Int.reduceEq,Int.reduceLT,Int.reduceLE,Int.reduceGT,Int.reduceGE,iv_andNot false h,iv_eqz]
 rfl
theorem iv_lit {c : Nat} (hc : c < 18446744073709551616) (x : BitVec 64) : PO.eval (.bin .eql false) [ivD x,.int .i64 (c : Int)] = some [.bool (decide (x = BitVec.ofNat 64 c))] := by
 rw [int_iv hc]; exact iv_eql false _ _
theorem singleR_run (k : BitVec 64) : run tb 43 [ivD k] = some [.bool (oneW k)] := by
 refine run_ir (x := ir43) rfl ?_
 have e1 : PO.eval (.bin .eql false) [ivD k,.int .i64 1] = some [.bool (decide (k = 1#64))] := iv_lit (c := 1) (by decide) k
 have e2 : PO.eval (.bin .eql false) [ivD k,.int .i64 2] = some [.bool (decide (k = 2#64))] := iv_lit (c := 2) (by decide) k
 have e4 : PO.eval (.bin .eql false) [ivD k,.int .i64 4] = some [.bool (decide (k = 4#64))] := iv_lit (c := 4) (by decide) k
 have e8 : PO.eval (.bin .eql false) [ivD k,.int .i64 8] = some [.bool (decide (k = 8#64))] := iv_lit (c := 8) (by decide) k
 unfold oneW
 generalize decide (k = 1#64) = b1 at *
 generalize decide (k = 2#64) = b2 at *
 generalize decide (k = 4#64) = b4 at *
 generalize decide (k = 8#64) = b8 at *
 cases b1 <;> cases b2 <;> cases b4 <;> simp only [ir43,stepQ,stepL,eq_self,aBin,reduceIte,Int.reduceEq,Int.reduceLT,Int.reduceLE,Int.reduceGT,Int.reduceGE,e1,e2,e4,e8,Bool.true_or,Bool.false_or]
theorem toNat_szT (a : Int) : (BitVec.ofNat 64 (szT a - 1)).toNat = szT a - 1 := by
 have := szT_le a
 rw [BitVec.toNat_ofNat]; omega
section
variable {a : Int} {rows : List (List Int)} (hv : Vld a rows) {k f g : BitVec 64} (hk : k.toNat < szT a) (hf : f.toNat < szT a) (hg : g.toNat < szT a)
include hv hk hf hg
theorem rev1R_run : run tb 29 [tabD rows,.int .i64 1,ivD k,ivD f,ivD g] = some [.bool (revT (tOf rows) 1 k f g)] := by
 refine run_ir (x := ir29) rfl ?_
 have x0 := tr hv hk
 have x1 := tc hv hk hf
 have x2 := iv_eqz
 have x3 := iv_nez
 have x4 := iv_eql
 have x5 := insideR_run (tOf rows k f) f (sm (szT_le a) (t_lt hv hk hf))
 have er := revT_1 (tOf rows) k f g
 simp only [ir29,stepQ,stepL,eq_self,aBin,reduceIte,Int.reduceEq,Int.reduceLT,Int.reduceLE,Int.reduceGT,Int.reduceGE,x0,x1,x2,x3,x4,x5,ibeq,Bool.not_true,Bool.not_false]
 rw [er]
 try rfl
theorem rev2R_run : run tb 29 [tabD rows,.int .i64 2,ivD k,ivD f,ivD g] = some [.bool (revT (tOf rows) 2 k f g)] := by
 refine run_ir (x := ir29) rfl ?_
 have x0 := tr hv hk
 have x1 := tc hv hk hf
 have x2 := iv_eqz
 have x3 := iv_nez
 have x4 := iv_eql
 have x5 := iv_and false (y := f) (sm (szT_le a) hk)
 have er := revT_2 (tOf rows) k f g
 generalize hs0 : decide (k &&& f = 0#64) = b0 at *
 cases b0 <;> (simp only [ir29,stepQ,stepL,eq_self,aBin,reduceIte,Int.reduceEq,Int.reduceLT,Int.reduceLE,Int.reduceGT,Int.reduceGE,x0,x1,x2,x3,x4,x5,ibeq,Bool.not_true,Bool.not_false,hs0]; rw [er]; try rfl)
theorem rev3R_run : run tb 29 [tabD rows,.int .i64 3,ivD k,ivD f,ivD g] = some [.bool (revT (tOf rows) 3 k f g)] := by
 refine run_ir (x := ir29) rfl ?_
 have x0 := tr hv hk
 have x1 := tc hv hk hf
 have x2 := iv_eqz
 have x3 := iv_nez
 have x4 := iv_eql
 have er := revT_3 (tOf rows) k f g
 generalize hs0 : decide (f = 0#64) = b0 at *
 cases b0 <;> (simp only [ir29,stepQ,stepL,eq_self,aBin,reduceIte,Int.reduceEq,Int.reduceLT,Int.reduceLE,Int.reduceGT,Int.reduceGE,x0,x1,x2,x3,x4,ibeq,Bool.not_true,Bool.not_false,hs0]; rw [er]; try rfl)
theorem rev4R_run : run tb 29 [tabD rows,.int .i64 4,ivD k,ivD f,ivD g] = some [.bool (revT (tOf rows) 4 k f g)] := by
 refine run_ir (x := ir29) rfl ?_
 have x0 := tr hv hk
 have x1 := tc hv hk hf
 have x2 := iv_eqz
 have x3 := iv_nez
 have x4 := iv_eql
 have x5 := iv_and false (y := g) (sm (szT_le a) (t_lt hv hk hf))
 have x6 := iv_and false (y := g) (sm (szT_le a) hf)
 have x7 := tc hv hk (and_lt (y := g) hf)
 have x8 := insideR_run (tOf rows k f &&& g) (tOf rows k (f &&& g)) (sm (szT_le a) (and_lt (t_lt hv hk hf)))
 have er := revT_4 (tOf rows) k f g
 simp only [ir29,stepQ,stepL,eq_self,aBin,reduceIte,Int.reduceEq,Int.reduceLT,Int.reduceLE,Int.reduceGT,Int.reduceGE,x0,x1,x2,x3,x4,x5,x6,x7,x8,ibeq,Bool.not_true,Bool.not_false]
 rw [er]
 try rfl
theorem rev5R_run : run tb 29 [tabD rows,.int .i64 5,ivD k,ivD f,ivD g] = some [.bool (revT (tOf rows) 5 k f g)] := by
 refine run_ir (x := ir29) rfl ?_
 have x0 := tr hv hk
 have x1 := tc hv hk hf
 have x2 := iv_eqz
 have x3 := iv_nez
 have x4 := iv_eql
 have x5 := iv_and false (y := g) (sm (szT_le a) (t_lt hv hk hf))
 have x6 := iv_and false (y := g) (sm (szT_le a) hf)
 have x7 := tc hv hk (and_lt (y := g) hf)
 have x8 := insideR_run (tOf rows k (f &&& g)) (tOf rows k f &&& g) (sm (szT_le a) (t_lt hv hk (and_lt hf)))
 have er := revT_5 (tOf rows) k f g
 generalize hs0 : decide (tOf rows k f &&& g = 0#64) = b0 at *
 cases b0 <;> (simp only [ir29,stepQ,stepL,eq_self,aBin,reduceIte,Int.reduceEq,Int.reduceLT,Int.reduceLE,Int.reduceGT,Int.reduceGE,x0,x1,x2,x3,x4,x5,x6,x7,x8,ibeq,Bool.not_true,Bool.not_false,hs0]; rw [er]; try rfl)
theorem con1R_run : run tb 30 [tabD rows,.int .i64 1,ivD k,ivD f,ivD g] = some [.bool (conT (BitVec.ofNat 64 (szT a - 1)) (tOf rows) 1 k f g)] := by
 refine run_ir (x := ir30) rfl ?_
 have x0 := tr hv hk
 have x1 := tc hv hk hf
 have x2 := iv_eqz
 have x3 := iv_nez
 have x4 := iv_eql
 have x5 := insideR_run k (tOf rows k f) (sm (szT_le a) hk)
 have er := conT_1 (tOf rows) (BitVec.ofNat 64 (szT a - 1)) k f g
 simp only [ir30,stepQ,stepL,eq_self,aBin,reduceIte,Int.reduceEq,Int.reduceLT,Int.reduceLE,Int.reduceGT,Int.reduceGE,x0,x1,x2,x3,x4,x5,ibeq,Bool.not_true,Bool.not_false]
 rw [er]
 try rfl
theorem con2R_run : run tb 30 [tabD rows,.int .i64 2,ivD k,ivD f,ivD g] = some [.bool (conT (BitVec.ofNat 64 (szT a - 1)) (tOf rows) 2 k f g)] := by
 refine run_ir (x := ir30) rfl ?_
 have x0 := tr hv hk
 have x1 := tc hv hk hf
 have x2 := iv_eqz
 have x3 := iv_nez
 have x4 := iv_eql
 have x5 := insideR_run k f (sm (szT_le a) hk)
 have er := conT_2 (tOf rows) (BitVec.ofNat 64 (szT a - 1)) k f g
 generalize hs0 : subB k f = b0 at *
 cases b0 <;> (simp only [ir30,stepQ,stepL,eq_self,aBin,reduceIte,Int.reduceEq,Int.reduceLT,Int.reduceLE,Int.reduceGT,Int.reduceGE,x0,x1,x2,x3,x4,x5,ibeq,Bool.not_true,Bool.not_false,hs0]; rw [er]; try rfl)
omit hk hf hg in
theorem lenA_sub : PO.eval (.bin .sub false) [.int .i64 (rows.length : Int),.int .i64 1] = some [ivD (BitVec.ofNat 64 (szT a - 1))] := by
 have h : (BitVec.ofNat 64 (szT a - 1)).toNat = szT a - 1 := toNat_szT a
 have hp : 0 < szT a := by rcases hv.at_ with rfl | rfl <;> decide
 have h16 := szT_le a
 unfold ivD
 rw [h,hv.len]
 show some [D.int .i64 (IntKind.i64.wrap ((szT a : Int) - 1))] = _
 rw [wr (by omega) (by omega)]
 congr 3
 omega
omit hk hf hg in
theorem iv_eqA (f : BitVec 64) : PO.eval (.bin .eql false) [ivD f,ivD (BitVec.ofNat 64 (szT a - 1))] = some [.bool (decide (f = BitVec.ofNat 64 (szT a - 1)))] := iv_eql false _ _
theorem con3R_run : run tb 30 [tabD rows,.int .i64 3,ivD k,ivD f,ivD g] = some [.bool (conT (BitVec.ofNat 64 (szT a - 1)) (tOf rows) 3 k f g)] := by
 refine run_ir (x := ir30) rfl ?_
 have x0 := tr hv hk
 have x1 := tc hv hk hf
 have x2 := iv_eqz
 have x3 := iv_nez
 have x4 := iv_eql
 have x5 := len_T rows
 have x6 := lenA_sub hv
 have x7 := iv_eqA hv f
 have x8 := insideR_run (tOf rows k f) f (sm (szT_le a) (t_lt hv hk hf))
 have er := conT_3 (tOf rows) (BitVec.ofNat 64 (szT a - 1)) k f g
 generalize hs0 : decide (f = BitVec.ofNat 64 (szT a - 1)) = b0 at *
 generalize hs1 : subB (tOf rows k f) f = b1 at *
 cases b0 <;> cases b1 <;> (simp only [ir30,stepQ,stepL,eq_self,aBin,reduceIte,Int.reduceEq,Int.reduceLT,Int.reduceLE,Int.reduceGT,Int.reduceGE,x0,x1,x2,x3,x4,x5,x6,x7,x8,ibeq,Bool.not_true,Bool.not_false,hs0,hs1]; rw [er]; try rfl)
theorem con4R_run : run tb 30 [tabD rows,.int .i64 4,ivD k,ivD f,ivD g] = some [.bool (conT (BitVec.ofNat 64 (szT a - 1)) (tOf rows) 4 k f g)] := by
 refine run_ir (x := ir30) rfl ?_
 have x0 := tr hv hk
 have x1 := tc hv hk hf
 have x2 := iv_eqz
 have x3 := iv_nez
 have x4 := iv_eql
 have x5 := iv_and false (y := f) (sm (szT_le a) (t_lt hv hk hf))
 have x6 := insideR_run (tOf rows k f &&& f) k (sm (szT_le a) (and_lt (t_lt hv hk hf)))
 have er := conT_4 (tOf rows) (BitVec.ofNat 64 (szT a - 1)) k f g
 simp only [ir30,stepQ,stepL,eq_self,aBin,reduceIte,Int.reduceEq,Int.reduceLT,Int.reduceLE,Int.reduceGT,Int.reduceGE,x0,x1,x2,x3,x4,x5,x6,ibeq,Bool.not_true,Bool.not_false]
 rw [er]
 try rfl
theorem con5R_run : run tb 30 [tabD rows,.int .i64 5,ivD k,ivD f,ivD g] = some [.bool (conT (BitVec.ofNat 64 (szT a - 1)) (tOf rows) 5 k f g)] := by
 refine run_ir (x := ir30) rfl ?_
 have x0 := tr hv hk
 have x1 := tc hv hk hf
 have x2 := iv_eqz
 have x3 := iv_nez
 have x4 := iv_eql
 have x5 := iv_and false (y := g) (sm (szT_le a) hf)
 have x6 := tc hv hk (and_lt (y := g) hf)
 have x7 := tc hv hk hg
 have x8 := iv_or false (sm (szT_le a) (t_lt hv hk hf)) (sm (szT_le a) (t_lt hv hk hg))
 have x9 := insideR_run (tOf rows k (f &&& g)) (tOf rows k f ||| tOf rows k g) (sm (szT_le a) (t_lt hv hk (and_lt hf)))
 have er := conT_5 (tOf rows) (BitVec.ofNat 64 (szT a - 1)) k f g
 simp only [ir30,stepQ,stepL,eq_self,aBin,reduceIte,Int.reduceEq,Int.reduceLT,Int.reduceLE,Int.reduceGT,Int.reduceGE,x0,x1,x2,x3,x4,x5,x6,x7,x8,x9,ibeq,Bool.not_true,Bool.not_false]
 rw [er]
 try rfl
theorem con6R_run : run tb 30 [tabD rows,.int .i64 6,ivD k,ivD f,ivD g] = some [.bool (conT (BitVec.ofNat 64 (szT a - 1)) (tOf rows) 6 k f g)] := by
 refine run_ir (x := ir30) rfl ?_
 have x0 := tr hv hk
 have x1 := tc hv hk hf
 have x2 := iv_eqz
 have x3 := iv_nez
 have x4 := iv_eql
 have x5 := iv_and false (y := g) (sm (szT_le a) hf)
 have x6 := tc hv hk (and_lt (y := g) hf)
 have x7 := insideR_run (tOf rows k (f &&& g)) f (sm (szT_le a) (t_lt hv hk (and_lt hf)))
 have x8 := insideR_run (tOf rows k f) (tOf rows k (f &&& g)) (sm (szT_le a) (t_lt hv hk hf))
 have er := conT_6 (tOf rows) (BitVec.ofNat 64 (szT a - 1)) k f g
 generalize hs0 : subB (tOf rows k (f &&& g)) f = b0 at *
 cases b0 <;> (simp only [ir30,stepQ,stepL,eq_self,aBin,reduceIte,Int.reduceEq,Int.reduceLT,Int.reduceLE,Int.reduceGT,Int.reduceGE,x0,x1,x2,x3,x4,x5,x6,x7,x8,ibeq,Bool.not_true,Bool.not_false,hs0]; rw [er]; try rfl)
theorem upd1R_run : run tb 31 [tabD rows,.int .i64 1,ivD k,ivD f,ivD g] = some [.bool (updT (tOf rows) 1 k f g)] := by
 refine run_ir (x := ir31) rfl ?_
 have x0 := tr hv hk
 have x1 := tc hv hk hf
 have x2 := iv_eqz
 have x3 := iv_nez
 have x4 := iv_eql
 have x5 := insideR_run (tOf rows k f) f (sm (szT_le a) (t_lt hv hk hf))
 have er := updT_1 (tOf rows) k f g
 simp only [ir31,stepQ,stepL,eq_self,aBin,reduceIte,Int.reduceEq,Int.reduceLT,Int.reduceLE,Int.reduceGT,Int.reduceGE,x0,x1,x2,x3,x4,x5,ibeq,Bool.not_true,Bool.not_false]
 rw [er]
 try rfl
theorem upd2R_run : run tb 31 [tabD rows,.int .i64 2,ivD k,ivD f,ivD g] = some [.bool (updT (tOf rows) 2 k f g)] := by
 refine run_ir (x := ir31) rfl ?_
 have x0 := tr hv hk
 have x1 := tc hv hk hf
 have x2 := iv_eqz
 have x3 := iv_nez
 have x4 := iv_eql
 have x5 := insideR_run k f (sm (szT_le a) hk)
 have er := updT_2 (tOf rows) k f g
 generalize hs0 : subB k f = b0 at *
 cases b0 <;> (simp only [ir31,stepQ,stepL,eq_self,aBin,reduceIte,Int.reduceEq,Int.reduceLT,Int.reduceLE,Int.reduceGT,Int.reduceGE,x0,x1,x2,x3,x4,x5,ibeq,Bool.not_true,Bool.not_false,hs0]; rw [er]; try rfl)
theorem upd3R_run : run tb 31 [tabD rows,.int .i64 3,ivD k,ivD f,ivD g] = some [.bool (updT (tOf rows) 3 k f g)] := by
 refine run_ir (x := ir31) rfl ?_
 have x0 := tr hv hk
 have x1 := tc hv hk hf
 have x2 := iv_eqz
 have x3 := iv_nez
 have x4 := iv_eql
 have er := updT_3 (tOf rows) k f g
 generalize hs0 : decide (k = 0#64) = b0 at *
 generalize hs1 : decide (f = 0#64) = b1 at *
 cases b0 <;> cases b1 <;> (simp only [ir31,stepQ,stepL,eq_self,aBin,reduceIte,Int.reduceEq,Int.reduceLT,Int.reduceLE,Int.reduceGT,Int.reduceGE,x0,x1,x2,x3,x4,ibeq,Bool.not_true,Bool.not_false,hs0,hs1]; rw [er]; try rfl)
theorem upd4R_run : run tb 31 [tabD rows,.int .i64 4,ivD k,ivD f,ivD g] = some [.bool (updT (tOf rows) 4 k f g)] := by
 refine run_ir (x := ir31) rfl ?_
 have x0 := tr hv hk
 have x1 := tc hv hk hf
 have x2 := iv_eqz
 have x3 := iv_nez
 have x4 := iv_eql
 have x5 := iv_and false (y := g) (sm (szT_le a) (t_lt hv hk hf))
 have x6 := iv_and false (y := g) (sm (szT_le a) hf)
 have x7 := tc hv hk (and_lt (y := g) hf)
 have x8 := insideR_run (tOf rows k f &&& g) (tOf rows k (f &&& g)) (sm (szT_le a) (and_lt (t_lt hv hk hf)))
 have er := updT_4 (tOf rows) k f g
 simp only [ir31,stepQ,stepL,eq_self,aBin,reduceIte,Int.reduceEq,Int.reduceLT,Int.reduceLE,Int.reduceGT,Int.reduceGE,x0,x1,x2,x3,x4,x5,x6,x7,x8,ibeq,Bool.not_true,Bool.not_false]
 rw [er]
 try rfl
theorem upd5R_run : run tb 31 [tabD rows,.int .i64 5,ivD k,ivD f,ivD g] = some [.bool (updT (tOf rows) 5 k f g)] := by
 refine run_ir (x := ir31) rfl ?_
 have x0 := tr hv hk
 have x1 := tc hv hk hf
 have x2 := iv_eqz
 have x3 := iv_nez
 have x4 := iv_eql
 have x5 := insideR_run (tOf rows k f) g (sm (szT_le a) (t_lt hv hk hf))
 have x6 := tc hv hk hg
 have x7 := insideR_run (tOf rows k g) f (sm (szT_le a) (t_lt hv hk hg))
 have er := updT_5 (tOf rows) k f g
 generalize hs0 : subB (tOf rows k f) g = b0 at *
 generalize hs1 : subB (tOf rows k g) f = b1 at *
 cases b0 <;> cases b1 <;> (simp only [ir31,stepQ,stepL,eq_self,aBin,reduceIte,Int.reduceEq,Int.reduceLT,Int.reduceLE,Int.reduceGT,Int.reduceGE,x0,x1,x2,x3,x4,x5,x6,x7,ibeq,Bool.not_true,Bool.not_false,hs0,hs1]; rw [er]; try rfl)
theorem upd6R_run : run tb 31 [tabD rows,.int .i64 6,ivD k,ivD f,ivD g] = some [.bool (updT (tOf rows) 6 k f g)] := by
 refine run_ir (x := ir31) rfl ?_
 have x0 := tr hv hk
 have x1 := tc hv hk hf
 have x2 := iv_eqz
 have x3 := iv_nez
 have x4 := iv_eql
 have x5 := singleR_run k
 have x6 := tc hv hk hg
 have x7 := iv_and false (y := tOf rows k g) (sm (szT_le a) (t_lt hv hk hf))
 have x8 := iv_or false (sm (szT_le a) hf) (sm (szT_le a) hg)
 have x9 := tc hv hk (or_lt hf hg)
 have x10 := insideR_run (tOf rows k f &&& tOf rows k g) (tOf rows k (f ||| g)) (sm (szT_le a) (and_lt (t_lt hv hk hf)))
 have er := updT_6 (tOf rows) k f g
 generalize hs0 : oneW k = b0 at *
 cases b0 <;> (simp only [ir31,stepQ,stepL,eq_self,aBin,reduceIte,Int.reduceEq,Int.reduceLT,Int.reduceLE,Int.reduceGT,Int.reduceGE,x0,x1,x2,x3,x4,x5,x6,x7,x8,x9,x10,ibeq,Bool.not_true,Bool.not_false,hs0]; rw [er]; try rfl)
theorem upd7R_run : run tb 31 [tabD rows,.int .i64 7,ivD k,ivD f,ivD g] = some [.bool (updT (tOf rows) 7 k f g)] := by
 refine run_ir (x := ir31) rfl ?_
 have x0 := tr hv hk
 have x1 := tc hv hk hf
 have x2 := iv_eqz
 have x3 := iv_nez
 have x4 := iv_eql
 have x5 := iv_or false (sm (szT_le a) hk) (sm (szT_le a) hg)
 have x6 := tr hv (or_lt hk hg)
 have x7 := tc hv (or_lt hk hg) hf
 have x8 := tr hv hg
 have x9 := tc hv hg hf
 have x10 := iv_or false (sm (szT_le a) (t_lt hv hk hf)) (sm (szT_le a) (t_lt hv hg hf))
 have er := updT_7 (tOf rows) k f g
 simp only [ir31,stepQ,stepL,eq_self,aBin,reduceIte,Int.reduceEq,Int.reduceLT,Int.reduceLE,Int.reduceGT,Int.reduceGE,x0,x1,x2,x3,x4,x5,x6,x7,x8,x9,x10,ibeq,Bool.not_true,Bool.not_false]
 rw [er]
 try rfl
end
theorem holdsR_run {a : Int} {rows : List (List Int)} (hv : Vld a rows) {kind : Int} (hkd : kind = 1 ∨ kind = 2 ∨ kind = 3) {p k f g : Nat} (hp : 1 ≤ p ∧ p ≤ (postN kind).1) (hk : k < szT a) (hf : f < szT a) (hg : g < szT a) :
 run tb 11 [.int .i64 a,tabD rows,.int .i64 kind,.int .i64 (p : Int),.int .i64 (k : Int),.int .i64 (f : Int),.int .i64 (g : Int)] = some [.bool (hB kind a rows p k f g)] := by
 have h16 := szT_le a
 have tn : ∀ {x : Nat},x < szT a → (BitVec.ofNat 64 x).toNat < szT a := fun {x} h => by rw [BitVec.toNat_ofNat]; omega
 refine run_ir (x := ir11) rfl ?_
 rw [int_iv (show k < 18446744073709551616 by omega),int_iv (show f < 18446744073709551616 by omega),int_iv (show g < 18446744073709551616 by omega)]
 unfold hB holdsB
 rcases hkd with rfl | rfl | rfl
 · have hp5 : p ≤ 5 := hp.2
   rw [if_pos rfl]
   have h : run tb 29 [tabD rows,.int .i64 (p : Int),ivD (BitVec.ofNat 64 k),ivD (BitVec.ofNat 64 f),ivD (BitVec.ofNat 64 g)] = some [.bool (revT (tOf rows) p (BitVec.ofNat 64 k) (BitVec.ofNat 64 f) (BitVec.ofNat 64 g))] := by
    rcases (by omega : p = 1 ∨ p = 2 ∨ p = 3 ∨ p = 4 ∨ p = 5) with rfl | rfl | rfl | rfl | rfl
    · exact rev1R_run hv (tn hk) (tn hf) (tn hg)
    · exact rev2R_run hv (tn hk) (tn hf) (tn hg)
    · exact rev3R_run hv (tn hk) (tn hf) (tn hg)
    · exact rev4R_run hv (tn hk) (tn hf) (tn hg)
    · exact rev5R_run hv (tn hk) (tn hf) (tn hg)
   simp only [ir11,stepQ,stepL,eq_self,aBin,reduceIte,Int.reduceEq,Int.reduceLT,Int.reduceLE,Int.reduceGT,Int.reduceGE,ibeq,h]
 · have hp5 : p ≤ 6 := hp.2
   rw [if_neg (by decide),if_pos rfl]
   have h : run tb 30 [tabD rows,.int .i64 (p : Int),ivD (BitVec.ofNat 64 k),ivD (BitVec.ofNat 64 f),ivD (BitVec.ofNat 64 g)] = some [.bool (conT (BitVec.ofNat 64 (szT a - 1)) (tOf rows) p (BitVec.ofNat 64 k) (BitVec.ofNat 64 f) (BitVec.ofNat 64 g))] := by
    rcases (by omega : p = 1 ∨ p = 2 ∨ p = 3 ∨ p = 4 ∨ p = 5 ∨ p = 6) with rfl | rfl | rfl | rfl | rfl | rfl
    · exact con1R_run hv (tn hk) (tn hf) (tn hg)
    · exact con2R_run hv (tn hk) (tn hf) (tn hg)
    · exact con3R_run hv (tn hk) (tn hf) (tn hg)
    · exact con4R_run hv (tn hk) (tn hf) (tn hg)
    · exact con5R_run hv (tn hk) (tn hf) (tn hg)
    · exact con6R_run hv (tn hk) (tn hf) (tn hg)
   simp only [ir11,stepQ,stepL,eq_self,aBin,reduceIte,Int.reduceEq,Int.reduceLT,Int.reduceLE,Int.reduceGT,Int.reduceGE,ibeq,h]
 · have hp5 : p ≤ 7 := hp.2
   rw [if_neg (by decide),if_neg (by decide)]
   have h : run tb 31 [tabD rows,.int .i64 (p : Int),ivD (BitVec.ofNat 64 k),ivD (BitVec.ofNat 64 f),ivD (BitVec.ofNat 64 g)] = some [.bool (updT (tOf rows) p (BitVec.ofNat 64 k) (BitVec.ofNat 64 f) (BitVec.ofNat 64 g))] := by
    rcases (by omega : p = 1 ∨ p = 2 ∨ p = 3 ∨ p = 4 ∨ p = 5 ∨ p = 6 ∨ p = 7) with rfl | rfl | rfl | rfl | rfl | rfl | rfl
    · exact upd1R_run hv (tn hk) (tn hf) (tn hg)
    · exact upd2R_run hv (tn hk) (tn hf) (tn hg)
    · exact upd3R_run hv (tn hk) (tn hf) (tn hg)
    · exact upd4R_run hv (tn hk) (tn hf) (tn hg)
    · exact upd5R_run hv (tn hk) (tn hf) (tn hg)
    · exact upd6R_run hv (tn hk) (tn hf) (tn hg)
    · exact upd7R_run hv (tn hk) (tn hf) (tn hg)
   simp only [ir11,stepQ,stepL,eq_self,aBin,reduceIte,Int.reduceEq,Int.reduceLT,Int.reduceLE,Int.reduceGT,Int.reduceGE,ibeq,h]
end Go.Proofs.Ytnfecjmddbehiaa

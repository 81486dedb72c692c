/- What functions of the program compute: lemmas. -/
import Derived.Test.YtojkhlijbpmgpaaGreatSr7
import Derived.Test.YtojkhlijbpmgpaaGreatAm6
import Derived.Test.YtojkhlijbpmgpaaGreatSt
import Derived.Test.YtojkhlijbpmgpaaGreatRw0
set_option linter.unusedSimpArgs false
set_option linter.unusedVariables false
set_option linter.unusedSectionVars false
namespace Go.Proofs.YtojkhlijbpmgpaaGreat
open Go Am
set_option maxRecDepth 100000
theorem and32_run (f g : F) : run tb 5 [.int .i64 f.op,.str f.name,.sl (F.encs f.args),.int .i64 g.op,.str g.name,.sl (F.encs g.args)] = some [.int .i64 5,.str [],.sl (F.encs [f,g])] := by
 refine run_ir (x := ir5) rfl ?_
 have hmk : PO.eval (.mk 3 2) [.int .i64 f.op,.str f.name,.sl (F.encs f.args),.int .i64 g.op,.str g.name,.sl (F.encs g.args)] = some [.sl (F.encs [f,g])] := by rw [ev_mk32]; simp [F.encs,F.enc_eq]
 simp only [ir5,stepQ,stepL,eq_self,aBin,reduceIte,Int.reduceEq,Int.reduceLT,Int.reduceLE,Int.reduceGT,Int.reduceGE,hmk]
theorem or32_run (f g : F) : run tb 7 [.int .i64 f.op,.str f.name,.sl (F.encs f.args),.int .i64 g.op,.str g.name,.sl (F.encs g.args)] = some [.int .i64 6,.str [],.sl (F.encs [f,g])] := by
 refine run_ir (x := ir7) rfl ?_
 have hmk : PO.eval (.mk 3 2) [.int .i64 f.op,.str f.name,.sl (F.encs f.args),.int .i64 g.op,.str g.name,.sl (F.encs g.args)] = some [.sl (F.encs [f,g])] := by rw [ev_mk32]; simp [F.encs,F.enc_eq]
 simp only [ir7,stepQ,stepL,eq_self,aBin,reduceIte,Int.reduceEq,Int.reduceLT,Int.reduceLE,Int.reduceGT,Int.reduceGE,hmk]
end Go.Proofs.YtojkhlijbpmgpaaGreat

namespace Go.Proofs.YtojkhlijbpmgpaaGreat
open Go Am
set_option maxRecDepth 100000
set_option maxHeartbeats 2000000
theorem fixQr {run : Nat → PF} {body : IR} {e : Env} {J : List PF} {a r : List D} (h : den run body (e ++ a) (J ++ [loopQ run body e J]) = some r) : loopQ run body e J a = some r := fix_of h
theorem not32_run (f : F) : run tb 6 [.int .i64 f.op,.str f.name,.sl (F.encs f.args)] = some [.int .i64 4,.str [],.sl (F.encs [f])] := by
 refine run_ir (x := ir6) rfl ?_
 have hmk : PO.eval (.mk 3 1) [.int .i64 f.op,.str f.name,.sl (F.encs f.args)] = some [.sl (F.encs [f])] := by
  rw [show F.encs [f] = [F.enc f] from rfl,F.enc_eq]; rfl
 simp only [ir6,stepQ,stepL,eq_self,aBin,reduceIte,Int.reduceEq,Int.reduceLT,Int.reduceLE,Int.reduceGT,Int.reduceGE,hmk]
def cdsD (cs : List (F × F)) : D := .sl (cs.map fun c => rowF c.1 ++ rowF c.2)
theorem cds_chk {cs : List (F × F)} {i : Nat} (h : i < cs.length) : PO.eval .chk [cdsD cs,.int .i64 i] = some [] := ev_chk (by omega) (by simp; omega)
theorem cds_get {cs : List (F × F)} {i : Nat} (h : i < cs.length) : PO.eval (.get 0 6) [cdsD cs,.int .i64 i] = some (rowF cs[i].1 ++ rowF cs[i].2) := by
 simp [PO.eval,cdsD,h]
theorem rat_end (y0 y1 y2 y3 y4 y5 y6 y7 y8 : Bool) (hr : Rat9 y0 y1 y2 y3 y4 y5 y6 y7 y8) (aw : run tb 9 [] = some [.bool true]) (M : PF) (names : List (List UInt8)) (ranks : List Int) (cs : List (F × F)) (x0 x1 x2 x3 x4 x5 x8 x9 x10 x11 x12 x13 x14 x15 x16 x17 x18 x19 x20 x21 x22 x23 x24 x25 x26 x27 x28 x29 x30 x31 x32 x33 x34 x35 x36 x37 x38 x39 : D) :
 den (run tb) ir0p2 ([x0,x1,x2,x3,x4,x5,strsD names,numsD ranks,x8,x9,x10,x11,x12,x13,x14,x15,x16,x17,x18,x19,x20,x21,x22,x23,x24,x25,x26,x27,x28,x29,x30,x31,x32,x33,x34,x35,x36,x37,x38,x39,cdsD cs,.int .i64 9] ++ [.bool true,.int .i64 9,.bool y0,.bool y1,.bool y2,.bool y3,.bool y4,.bool y5,.bool y6,.bool y7,.bool y8]) [M] = some [.bool true] := by
 obtain ⟨rfl,h3,h4,h5,h7,h8⟩ := hr
 have q1 : ∀ a b : Bool,PO.eval (.bin .eql true) [.bool a,.bool b] = some [.bool (a == b)] := fun a b => by cases a <;> cases b <;> rfl
 have e1 : (true == true) = true := rfl
 have e2 : (false == false) = true := rfl
 have t9 : ¬ ((9 : Int) < 9) := by omega
 cases y1 <;> cases y2 <;> simp only [Bool.and_true,Bool.and_false,Bool.false_and,Bool.true_and] at h3 <;> subst h3 <;>
  cases y4 <;> (try (exfalso; simp at h4; done)) <;> cases y5 <;> (try (exfalso; simp at h5; done)) <;> cases y8 <;> (try (exfalso; simp at h8; done)) <;> cases y6 <;> cases y7 <;> (try (exfalso; simp at h7; done)) <;>
  simp only [ir0p2,stepQ,stepL,eq_self,aBin,reduceIte,Int.reduceEq,Int.reduceLT,Int.reduceLE,Int.reduceGT,Int.reduceGE,t9,q1,e1,e2,Bool.not_true,Bool.not_false,aw]
theorem rat_loop (names : List (List UInt8)) (ranks : List Int) (cs : List (F × F)) (h9 : cs.length = 9) (y0 y1 y2 y3 y4 y5 y6 y7 y8 : Bool) (hr : Rat9 y0 y1 y2 y3 y4 y5 y6 y7 y8) (aw : run tb 9 [] = some [.bool true])
 (a0 : run tb 8 ([strsD names,numsD ranks] ++ (rowF (cs[0]'(by omega)).1 ++ rowF (cs[0]'(by omega)).2)) = some [.bool y0,.int .i64 0])
 (a1 : run tb 8 ([strsD names,numsD ranks] ++ (rowF (cs[1]'(by omega)).1 ++ rowF (cs[1]'(by omega)).2)) = some [.bool y1,.int .i64 0])
 (a2 : run tb 8 ([strsD names,numsD ranks] ++ (rowF (cs[2]'(by omega)).1 ++ rowF (cs[2]'(by omega)).2)) = some [.bool y2,.int .i64 0])
 (a3 : run tb 8 ([strsD names,numsD ranks] ++ (rowF (cs[3]'(by omega)).1 ++ rowF (cs[3]'(by omega)).2)) = some [.bool y3,.int .i64 0])
 (a4 : run tb 8 ([strsD names,numsD ranks] ++ (rowF (cs[4]'(by omega)).1 ++ rowF (cs[4]'(by omega)).2)) = some [.bool y4,.int .i64 0])
 (a5 : run tb 8 ([strsD names,numsD ranks] ++ (rowF (cs[5]'(by omega)).1 ++ rowF (cs[5]'(by omega)).2)) = some [.bool y5,.int .i64 0])
 (a6 : run tb 8 ([strsD names,numsD ranks] ++ (rowF (cs[6]'(by omega)).1 ++ rowF (cs[6]'(by omega)).2)) = some [.bool y6,.int .i64 0])
 (a7 : run tb 8 ([strsD names,numsD ranks] ++ (rowF (cs[7]'(by omega)).1 ++ rowF (cs[7]'(by omega)).2)) = some [.bool y7,.int .i64 0])
 (a8 : run tb 8 ([strsD names,numsD ranks] ++ (rowF (cs[8]'(by omega)).1 ++ rowF (cs[8]'(by omega)).2)) = some [.bool y8,.int .i64 0])
 (x0 x1 x2 x3 x4 x5 x8 x9 x10 x11 x12 x13 x14 x15 x16 x17 x18 x19 x20 x21 x22 x23 x24 x25 x26 x27 x28 x29 x30 x31 x32 x33 x34 x35 x36 x37 x38 x39 : D) :
 loopQ (run tb) ir0p2 [x0,x1,x2,x3,x4,x5,strsD names,numsD ranks,x8,x9,x10,x11,x12,x13,x14,x15,x16,x17,x18,x19,x20,x21,x22,x23,x24,x25,x26,x27,x28,x29,x30,x31,x32,x33,x34,x35,x36,x37,x38,x39,cdsD cs,.int .i64 9] [] [.bool true,.int .i64 0,.bool false,.bool false,.bool false,.bool false,.bool false,.bool false,.bool false,.bool false,.bool false] = some [.bool true] := by
 generalize hM : loopQ (run tb) ir0p2 [x0,x1,x2,x3,x4,x5,strsD names,numsD ranks,x8,x9,x10,x11,x12,x13,x14,x15,x16,x17,x18,x19,x20,x21,x22,x23,x24,x25,x26,x27,x28,x29,x30,x31,x32,x33,x34,x35,x36,x37,x38,x39,cdsD cs,.int .i64 9] [] = M
 have z9 : M [.bool true,.int .i64 9,.bool y0,.bool y1,.bool y2,.bool y3,.bool y4,.bool y5,.bool y6,.bool y7,.bool y8] = some [.bool true] := by
  rw [← hM]
  refine fixQr ?_
  exact rat_end y0 y1 y2 y3 y4 y5 y6 y7 y8 hr aw _ names ranks cs _ _ _ _ _ _ _ _ _ _ _ _ _ _ _ _ _ _ _ _ _ _ _ _ _ _ _ _ _ _ _ _ _ _ _ _ _ _
 have c8 := cds_chk (cs := cs) (i := 8) (by omega)
 have g8 := cds_get (cs := cs) (i := 8) (by omega)
 have w8 : IntKind.i64.wrap (8 + 1) = 9 := rfl
 have z8 : M [.bool true,.int .i64 8,.bool y0,.bool y1,.bool y2,.bool y3,.bool y4,.bool y5,.bool y6,.bool y7,.bool false] = some [.bool true] := by
  rw [← hM]
  refine fixQr ?_
  rw [hM]
  simp only [rowF,List.cons_append,List.nil_append,Int.cast_ofNat_Int,nat0] at c8 g8 a8
  simp only [ir0p2,ir0p1,ir0p0,stepQ,stepL,eq_self,aBin,reduceIte,Int.reduceEq,Int.reduceLT,Int.reduceLE,Int.reduceGT,Int.reduceGE,c8,g8,a8,w8,z9,decide_true]
 have c7 := cds_chk (cs := cs) (i := 7) (by omega)
 have g7 := cds_get (cs := cs) (i := 7) (by omega)
 have w7 : IntKind.i64.wrap (7 + 1) = 8 := rfl
 have z7 : M [.bool true,.int .i64 7,.bool y0,.bool y1,.bool y2,.bool y3,.bool y4,.bool y5,.bool y6,.bool false,.bool false] = some [.bool true] := by
  rw [← hM]
  refine fixQr ?_
  rw [hM]
  simp only [rowF,List.cons_append,List.nil_append,Int.cast_ofNat_Int,nat0] at c7 g7 a7
  simp only [ir0p2,ir0p1,ir0p0,stepQ,stepL,eq_self,aBin,reduceIte,Int.reduceEq,Int.reduceLT,Int.reduceLE,Int.reduceGT,Int.reduceGE,c7,g7,a7,w7,z8,decide_true]
 have c6 := cds_chk (cs := cs) (i := 6) (by omega)
 have g6 := cds_get (cs := cs) (i := 6) (by omega)
 have w6 : IntKind.i64.wrap (6 + 1) = 7 := rfl
 have z6 : M [.bool true,.int .i64 6,.bool y0,.bool y1,.bool y2,.bool y3,.bool y4,.bool y5,.bool false,.bool false,.bool false] = some [.bool true] := by
  rw [← hM]
  refine fixQr ?_
  rw [hM]
  simp only [rowF,List.cons_append,List.nil_append,Int.cast_ofNat_Int,nat0] at c6 g6 a6
  simp only [ir0p2,ir0p1,ir0p0,stepQ,stepL,eq_self,aBin,reduceIte,Int.reduceEq,Int.reduceLT,Int.reduceLE,Int.reduceGT,Int.reduceGE,c6,g6,a6,w6,z7,decide_true]
 have c5 := cds_chk (cs := cs) (i := 5) (by omega)
 have g5 := cds_get (cs := cs) (i := 5) (by omega)
 have w5 : IntKind.i64.wrap (5 + 1) = 6 := rfl
 have z5 : M [.bool true,.int .i64 5,.bool y0,.bool y1,.bool y2,.bool y3,.bool y4,.bool false,.bool false,.bool false,.bool false] = some [.bool true] := by
  rw [← hM]
  refine fixQr ?_
  rw [hM]
  simp only [rowF,List.cons_append,List.nil_append,Int.cast_ofNat_Int,nat0] at c5 g5 a5
  simp only [ir0p2,ir0p1,ir0p0,stepQ,stepL,eq_self,aBin,reduceIte,Int.reduceEq,Int.reduceLT,Int.reduceLE,Int.reduceGT,Int.reduceGE,c5,g5,a5,w5,z6,decide_true]
 have c4 := cds_chk (cs := cs) (i := 4) (by omega)
 have g4 := cds_get (cs := cs) (i := 4) (by omega)
 have w4 : IntKind.i64.wrap (4 + 1) = 5 := rfl
 have z4 : M [.bool true,.int .i64 4,.bool y0,.bool y1,.bool y2,.bool y3,.bool false,.bool false,.bool false,.bool false,.bool false] = some [.bool true] := by
  rw [← hM]
  refine fixQr ?_
  rw [hM]
  simp only [rowF,List.cons_append,List.nil_append,Int.cast_ofNat_Int,nat0] at c4 g4 a4
  simp only [ir0p2,ir0p1,ir0p0,stepQ,stepL,eq_self,aBin,reduceIte,Int.reduceEq,Int.reduceLT,Int.reduceLE,Int.reduceGT,Int.reduceGE,c4,g4,a4,w4,z5,decide_true]
 have c3 := cds_chk (cs := cs) (i := 3) (by omega)
 have g3 := cds_get (cs := cs) (i := 3) (by omega)
 have w3 : IntKind.i64.wrap (3 + 1) = 4 := rfl
 have z3 : M [.bool true,.int .i64 3,.bool y0,.bool y1,.bool y2,.bool false,.bool false,.bool false,.bool false,.bool false,.bool false] = some [.bool true] := by
  rw [← hM]
  refine fixQr ?_
  rw [hM]
  simp only [rowF,List.cons_append,List.nil_append,Int.cast_ofNat_Int,nat0] at c3 g3 a3
  simp only [ir0p2,ir0p1,ir0p0,stepQ,stepL,eq_self,aBin,reduceIte,Int.reduceEq,Int.reduceLT,Int.reduceLE,Int.reduceGT,Int.reduceGE,c3,g3,a3,w3,z4,decide_true]
 have c2 := cds_chk (cs := cs) (i := 2) (by omega)
 have g2 := cds_get (cs := cs) (i := 2) (by omega)
 have w2 : IntKind.i64.wrap (2 + 1) = 3 := rfl
 have z2 : M [.bool true,.int .i64 2,.bool y0,.bool y1,.bool false,.bool false,.bool false,.bool false,.bool false,.bool false,.bool false] = some [.bool true] := by
  rw [← hM]
  refine fixQr ?_
  rw [hM]
  simp only [rowF,List.cons_append,List.nil_append,Int.cast_ofNat_Int,nat0] at c2 g2 a2
  simp only [ir0p2,ir0p1,ir0p0,stepQ,stepL,eq_self,aBin,reduceIte,Int.reduceEq,Int.reduceLT,Int.reduceLE,Int.reduceGT,Int.reduceGE,c2,g2,a2,w2,z3,decide_true]
 have c1 := cds_chk (cs := cs) (i := 1) (by omega)
 have g1 := cds_get (cs := cs) (i := 1) (by omega)
 have w1 : IntKind.i64.wrap (1 + 1) = 2 := rfl
 have z1 : M [.bool true,.int .i64 1,.bool y0,.bool false,.bool false,.bool false,.bool false,.bool false,.bool false,.bool false,.bool false] = some [.bool true] := by
  rw [← hM]
  refine fixQr ?_
  rw [hM]
  simp only [rowF,List.cons_append,List.nil_append,Int.cast_ofNat_Int,nat0] at c1 g1 a1
  simp only [ir0p2,ir0p1,ir0p0,stepQ,stepL,eq_self,aBin,reduceIte,Int.reduceEq,Int.reduceLT,Int.reduceLE,Int.reduceGT,Int.reduceGE,c1,g1,a1,w1,z2,decide_true]
 have c0 := cds_chk (cs := cs) (i := 0) (by omega)
 have g0 := cds_get (cs := cs) (i := 0) (by omega)
 have w0 : IntKind.i64.wrap (0 + 1) = 1 := rfl
 have z0 : M [.bool true,.int .i64 0,.bool false,.bool false,.bool false,.bool false,.bool false,.bool false,.bool false,.bool false,.bool false] = some [.bool true] := by
  rw [← hM]
  refine fixQr ?_
  rw [hM]
  simp only [rowF,List.cons_append,List.nil_append,Int.cast_ofNat_Int,nat0] at c0 g0 a0
  simp only [ir0p2,ir0p1,ir0p0,stepQ,stepL,eq_self,aBin,reduceIte,Int.reduceEq,Int.reduceLT,Int.reduceLE,Int.reduceGT,Int.reduceGE,c0,g0,a0,w0,z1,decide_true]
 exact z0
theorem rational_run (l0 : List Int) : run tb 0 [numsD l0] = some [.bool true] := by
 have aw := awake32_run
 obtain ⟨l,hl,hn⟩ := new_run l0
 obtain ⟨r,p,r1,r2,hp,hr⟩ := range_run 1 3 l 0 hl (by omega) (by omega) (by omega) (by omega)
 obtain ⟨n,rfl⟩ := Int.eq_ofNat_of_zero_le (show 0 ≤ r by omega)
 have hr : run tb 2 [.int .i64 1,.int .i64 3,numsD l,.int .i64 0] = some [.int .i64 n,numsD l,.int .i64 p] := hr
 have hn6 : n ≤ 6 := by omega
 obtain ⟨rs,p1,hrs,hp1,hso⟩ := some_run n hn6 l p hl hp
 obtain ⟨f,p2,hp2,hf,hfr⟩ := formula_run n (by omega) (by omega) l hl 2 (by omega) p1 hp1
 obtain ⟨g,p3,hp3,hg,hgr⟩ := formula_run n (by omega) (by omega) l hl 2 (by omega) p2 hp2
 obtain ⟨h,p4,hp4,hh,hhr⟩ := formula_run n (by omega) (by omega) l hl 2 (by omega) p3 hp3
 have hfr : run tb 4 [.int .i64 n,.int .i64 2,numsD l,.int .i64 p1] = some [.int .i64 f.op,.str f.name,.sl (F.encs f.args),numsD l,.int .i64 p2] := hfr
 have hgr : run tb 4 [.int .i64 n,.int .i64 2,numsD l,.int .i64 p2] = some [.int .i64 g.op,.str g.name,.sl (F.encs g.args),numsD l,.int .i64 p3] := hgr
 have hhr : run tb 4 [.int .i64 n,.int .i64 2,numsD l,.int .i64 p3] = some [.int .i64 h.op,.str h.name,.sl (F.encs h.args),numsD l,.int .i64 p4] := hhr
 have hv := vocN_ok hn6
 have hvl : (vocN n).length < 1000000000 := by rw [vocN_len]; omega
 have h64 := pow6 hn6
 have ho := some_ok hn6 hrs
 have hnl : (normS rs).length < 1000000000 := by rw [norm_len]; omega
 obtain ⟨f1,f2,f3,f4,f5,f6⟩ := made_models hn6 (by omega) hf
 obtain ⟨g1,g2,g3,g4,g5,g6⟩ := made_models hn6 (by omega) hg
 obtain ⟨h1,h2,h3,h4,h5,h6⟩ := made_models hn6 (by omega) hh
 obtain ⟨a1,a2⟩ := pr5_models hv g1 h1 g2 h2 g3 h3 g4 h4
 obtain ⟨b1,b2⟩ := pr5_models hv f1 g1 f2 g2 f3 g3 f4 g4
 obtain ⟨c1,c2⟩ := ng_models hv g1 g2 g3 g4
 obtain ⟨d1,d2⟩ := pr6_models hv f1 g1 f2 g2 f3 g3 f4 g4
 obtain ⟨e1,e2⟩ := pr6_models hv g1 h1 g2 h2 g3 h3 g4 h4
 rw [vocN_len,← g6,← h6] at a2 e2
 rw [vocN_len,← f6,← g6] at b2 d2
 rw [vocN_len,← g6] at c2
 have hL := leastS_lst ho
 have hT : ∀ w,w < (normS rs).length → has (allS (vocN n)) w := fun w hw => (has_all ho w).2 hw
 have hrat := rat9 hL hT (modelsS (vocN n) f) (modelsS (vocN n) g) (modelsS (vocN n) h)
 have sz : ∀ (o : Int) (x y : F),(pr o x y).size = 1 + (x.size + y.size) := fun o x y => by simp [pr,F.size,F.sizes]
 have sn : (ng g).size = 1 + g.size := by simp [ng,F.size,F.sizes]
 obtain ⟨cs,hcs⟩ : ∃ cs : List (F × F),cs = [(f,f),(f,g),(f,h),(f,pr 5 g h),(pr 5 f g,h),(f,ng g),(g,h),(pr 6 f g,h),(f,pr 6 g h)] := ⟨_,rfl⟩
 have hacc : ∀ (x y : F),modelsE (vocN n) x = 0 → modelsE (vocN n) y = 0 → x.size < 1000000000 → y.size < 1000000000 →
  run tb 8 ([strsD (vocN n),numsD (normS rs)] ++ (rowF x ++ rowF y)) = some [.bool (decide (leastS (vocN n) (normS rs) (modelsS (vocN n) x) &&& ~~~modelsS (vocN n) y = 0#64)),.int .i64 0] := by
  intro x y hx hy sx sy
  have := accepts_run (vocN n) (normS rs) x y hvl hnl sx sy
  have hz : accE (vocN n) (normS rs) x y = 0 := by unfold accE; rw [if_neg (by simp [ho]),fstE_two,if_pos hx,hy]
  rw [if_pos hz] at this
  exact this
 have k0 := hacc f f f5 f5 (by omega) (by omega)
 have k1 := hacc f g f5 g5 (by omega) (by omega)
 have k2 := hacc f h f5 h5 (by omega) (by omega)
 have k3 := hacc f (pr 5 g h) f5 a1 (by omega) (by rw [sz]; omega)
 have k4 := hacc (pr 5 f g) h b1 h5 (by rw [sz]; omega) (by omega)
 have k5 := hacc f (ng g) f5 c1 (by omega) (by rw [sn]; omega)
 have k6 := hacc g h g5 h5 (by omega) (by omega)
 have k7 := hacc (pr 6 f g) h d1 h5 (by rw [sz]; omega) (by omega)
 have k8 := hacc f (pr 6 g h) f5 e1 (by omega) (by rw [sz]; omega)
 rw [a2] at k3
 rw [b2] at k4
 rw [c2] at k5
 rw [d2] at k7
 rw [e2] at k8
 have hmk : PO.eval (.mk 6 9) (rowF f ++ rowF f ++ (rowF f ++ rowF g) ++ (rowF f ++ rowF h) ++ (rowF f ++ rowF (pr 5 g h)) ++ (rowF (pr 5 f g) ++ rowF h) ++ (rowF f ++ rowF (ng g)) ++ (rowF g ++ rowF h) ++ (rowF (pr 6 f g) ++ rowF h) ++ (rowF f ++ rowF (pr 6 g h))) = some [cdsD cs] := by rw [hcs]; rfl
 have hl9 : PO.eval .lenL [cdsD cs] = some [.int .i64 9] := by rw [hcs]; rfl
 have hloop := fun x0 x1 x2 x3 x4 x5 x8 x9 x10 x11 x12 x13 x14 x15 x16 x17 x18 x19 x20 x21 x22 x23 x24 x25 x26 x27 x28 x29 x30 x31 x32 x33 x34 x35 x36 x37 x38 x39 =>
  rat_loop (vocN n) (normS rs) cs (by rw [hcs]; rfl) _ _ _ _ _ _ _ _ _ hrat aw (by subst hcs; exact k0) (by subst hcs; exact k1) (by subst hcs; exact k2) (by subst hcs; exact k3) (by subst hcs; exact k4) (by subst hcs; exact k5) (by subst hcs; exact k6) (by subst hcs; exact k7) (by subst hcs; exact k8) x0 x1 x2 x3 x4 x5 x8 x9 x10 x11 x12 x13 x14 x15 x16 x17 x18 x19 x20 x21 x22 x23 x24 x25 x26 x27 x28 x29 x30 x31 x32 x33 x34 x35 x36 x37 x38 x39
 have q1 := and32_run g h
 have q2 := and32_run f g
 have q3 := not32_run g
 have q4 := or32_run f g
 have q5 := or32_run g h
 simp only [rowF,pr,ng,F.op_mk,F.name_mk,F.args_mk,List.cons_append,List.nil_append] at hmk
 refine run_ir (x := ir0) rfl ?_
 simp (disch := omega) only [ir0,stepQ,stepL,eq_self,aBin,reduceIte,Int.reduceEq,Int.reduceLT,Int.reduceLE,Int.reduceGT,Int.reduceGE,hn,hr,hso,hfr,hgr,hhr,q1,q2,q3,q4,q5,hmk,hl9,hloop]
end Go.Proofs.YtojkhlijbpmgpaaGreat

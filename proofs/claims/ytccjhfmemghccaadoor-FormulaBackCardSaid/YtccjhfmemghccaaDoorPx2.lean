/- What functions of the program compute: lemmas. -/
import Derived.Test.YtccjhfmemghccaaDoorPx1
import Derived.Test.YtccjhfmemghccaaDoorPs
set_option linter.unusedSimpArgs false
set_option linter.unusedVariables false
set_option linter.unusedSectionVars false
namespace Go.Proofs.YtccjhfmemghccaaDoor
open Go Am
set_option maxRecDepth 100000
theorem fixQ {run : Nat → PF} {body : IR} {e : Env} {J : List PF} {a r : List D} (h : den run body (e ++ a) (J ++ [loopQ run body e J]) = some r) : loopQ run body e J a = some r := fix_of h
theorem skp_idem (s : List UInt8) (p : Nat) : skp s (skp s p) = skp s p := by
 have h : ∀ l : List UInt8, spaces (l.drop (spaces l)) = 0 := by
  intro l
  induction l with
  | nil => rfl
  | cons c l ih =>
   by_cases hc : (c.toNat : Int) = 32
   · rw [spaces, if_pos hc]; exact ih
   · have h0 : spaces (c :: l) = 0 := by rw [spaces, if_neg hc]
     rw [h0, List.drop_zero, h0]
 have := h (s.drop p)
 rw [List.drop_drop] at this
 unfold skp
 rw [this]; rfl
theorem tk_skp (s : List UInt8) (p : Nat) : tk s (skp s p) = tk s p := by unfold tk; rw [skp_idem]
theorem tk_of {s : List UInt8} {p q : Nat} (h : skp s p = skp s q) : tk s p = tk s q := by unfold tk; rw [h]
theorem nxt_of {s : List UInt8} {p q : Nat} (h : skp s p = skp s q) : nxt s p = nxt s q := by unfold nxt; rw [h, tk_of h]
theorem stopA (s : List UInt8) (hs : s.length < 1000000) (q : Nat) (hq : q ≤ s.length) (bad : Int) (big : Bool) (acc : List F) (hn : 0 ≤ bad ∨ (tk s q).1 ≠ [38]) (x2 x3 x4 x5 x6 x7 x8 x9 x10 x11 x12 x13 x14 x15 x16 x17 x18 x19 x20 x21 : D) :
 loopQ (run tb) ir45p1 [.int .i64 5, .str [38], x2, x3, x4, x5, x6, x7, x8, x9, x10, x11, x12, x13, x14, x15, x16, x17, x18, x19, x20, x21] [] (stP s q bad big ++ [.sl (F.encs acc)]) = some (rowF (F.mk 5 [] acc) ++ stP s (skp s q) bad (big || decide (acc.length > 6))) := by
 refine fixQ ?_
 have h := take_no s hs q hq bad big [38] hn
 have hl : ((F.encs acc).length : Int) = acc.length := by rw [F.encs_len]
 have hgt : (decide ((acc.length : Int) > 6)) = decide (acc.length > 6) := by
  by_cases h6 : acc.length > 6
  · simp [h6]; omega
  · simp [h6]; omega
 simp only [stP] at h
 cases big with
 | true => simp only [ir45p1, ir45p0, stP, rowF, stepQ, stepL, eq_self, aBin, reduceIte, Int.reduceEq, Int.reduceLT, Int.reduceLE, Int.reduceGT, Int.reduceGE, h, F.op_mk, F.name_mk, F.args_mk, Bool.true_or]
 | false =>
  by_cases h6 : acc.length > 6
  · have h7 : ((acc.length : Int) > 6) := by omega
    simp only [ir45p1, ir45p0, stP, rowF, stepQ, stepL, eq_self, aBin, reduceIte, Int.reduceEq, Int.reduceLT, Int.reduceLE, Int.reduceGT, Int.reduceGE, h, hl, F.op_mk, F.name_mk, F.args_mk, Bool.false_or, h6, h7, ev_lenL, decide_true]
  · have h7 : ¬ ((acc.length : Int) > 6) := by omega
    simp only [ir45p1, ir45p0, stP, rowF, stepQ, stepL, eq_self, aBin, reduceIte, Int.reduceEq, Int.reduceLT, Int.reduceLE, Int.reduceGT, Int.reduceGE, h, hl, F.op_mk, F.name_mk, F.args_mk, Bool.false_or, h6, h7, ev_lenL, decide_false]
theorem stepA (s : List UInt8) (hs : s.length < 1000000) (q : Nat) (hq : q ≤ s.length) (bad : Int) (hb : bad < 0) (big : Bool) (acc : List F) (hk : (tk s q).1 = [38]) (hacc : acc.length < 1000000) (f : F) (q2 : Nat) (bad2 : Int) (big2 : Bool) (o : List D) (x2 x3 x4 x5 x6 x7 x8 x9 x10 x11 x12 x13 x14 x15 x16 x17 x18 x19 x20 x21 : D)
 (h1 : run tb 46 (stP s (nxt s q) bad big) = some (rowF f ++ stP s q2 bad2 big2))
 (h2 : loopQ (run tb) ir45p1 [.int .i64 5, .str [38], x2, x3, x4, x5, x6, x7, x8, x9, x10, x11, x12, x13, x14, x15, x16, x17, x18, x19, x20, x21] [] (stP s q2 bad2 big2 ++ [.sl (F.encs (acc ++ [f]))]) = some o) :
 loopQ (run tb) ir45p1 [.int .i64 5, .str [38], x2, x3, x4, x5, x6, x7, x8, x9, x10, x11, x12, x13, x14, x15, x16, x17, x18, x19, x20, x21] [] (stP s q bad big ++ [.sl (F.encs acc)]) = some o := by
 refine fixQ ?_
 have h := take_yes s hs q hq bad big [38] hb hk
 have hmk : PO.eval (.mk 3 1) [.int .i64 f.op, .str f.name, .sl (F.encs f.args)] = some [.sl (F.encs [f])] := by
  rw [show F.encs [f] = [F.enc f] from rfl, F.enc_eq]; rfl
 have happ : PO.eval (.app 3 48) [.sl (F.encs acc), .sl (F.encs [f])] = some [.sl (F.encs (acc ++ [f]))] := by
  have e1 : F.encs (acc ++ [f]) = F.encs acc ++ F.encs [f] := by simp only [F.encs_map, List.map_append]
  rw [e1]
  refine ev_app ?_ ?_ ?_
  · rw [F.encs_len, F.encs_len]; simp; omega
  · rw [F.encs_len, F.encs_len]; simp; omega
  · rw [show F.encs [f] = [F.enc f] from rfl, F.enc_eq]; rfl
 simp only [stP, rowF, List.cons_append, List.nil_append] at h h1 h2
 unfold nxt at h1
 generalize loopQ (run tb) ir45p1 [.int .i64 5, .str [38], x2, x3, x4, x5, x6, x7, x8, x9, x10, x11, x12, x13, x14, x15, x16, x17, x18, x19, x20, x21] [] = M at h2 ⊢
 simp only [ir45p1, stP, stepQ, stepL, eq_self, aBin, reduceIte, Int.reduceEq, Int.reduceLT, Int.reduceLE, Int.reduceGT, Int.reduceGE, h, h1, hmk, happ, h2]
theorem oneA (s : List UInt8) (hs : s.length < 1000000) (p : Nat) (bad : Int) (big : Bool) (f : F) (q : Nat) (hq : q ≤ s.length) (bad2 : Int) (big2 : Bool) (hk : (tk s q).1 ≠ [38])
 (h1 : run tb 46 (stP s p bad big) = some (rowF f ++ stP s q bad2 big2)) : run tb 43 (stP s p bad big) = some (rowF f ++ stP s (skp s q) bad2 big2) := by
 have h2 : run tb 45 (.int .i64 5 :: .str [38] :: stP s p bad big) = some (rowF f ++ stP s (skp s q) bad2 big2) := by
  refine run_ir (x := ir45) rfl ?_
  have hp := peek_tk s hs q hq bad2 big2
  have hb : ((tk s q).1 == [38]) = false := by simpa using hk
  simp only [stP, rowF, List.cons_append, List.nil_append] at h1 hp
  simp only [ir45, stP, rowF, stepQ, stepL, eq_self, aBin, reduceIte, Int.reduceEq, Int.reduceLT, Int.reduceLE, Int.reduceGT, Int.reduceGE, h1, hp, hb, Bool.not_false]
 refine run_ir (x := ir43) rfl ?_
 simp only [stP, rowF, List.cons_append, List.nil_append] at h2
 simp only [ir43, stP, rowF, stepQ, stepL, eq_self, aBin, reduceIte, Int.reduceEq, Int.reduceLT, Int.reduceLE, Int.reduceGT, Int.reduceGE, h2]
theorem manyA (s : List UInt8) (hs : s.length < 1000000) (p : Nat) (bad : Int) (big : Bool) (f : F) (q : Nat) (hq : q ≤ s.length) (bad2 : Int) (big2 : Bool) (hk : (tk s q).1 = [38])
 (h1 : run tb 46 (stP s p bad big) = some (rowF f ++ stP s q bad2 big2)) (g : F) (u : Nat) (bad3 : Int) (big3 : Bool)
 (h3 : loopQ (run tb) ir45p1 [.int .i64 5, .str [38], .str s, .int .i64 p, .int .i64 bad, .bool big, .int .i64 f.op, .str f.name, .sl (F.encs f.args), .str s, .int .i64 q, .int .i64 bad2, .bool big2, .str (tk s q).1, .str (tk s q).2, .int .i64 (skp s q), .str s, .int .i64 (skp s q), .int .i64 bad2, .bool big2, .bool false, .sl (F.encs [f])] [] (stP s (skp s q) bad2 big2 ++ [.sl (F.encs [f])]) = some (rowF g ++ stP s u bad3 big3)) : run tb 43 (stP s p bad big) = some (rowF g ++ stP s u bad3 big3) := by
 have h2 : run tb 45 (.int .i64 5 :: .str [38] :: stP s p bad big) = some (rowF g ++ stP s u bad3 big3) := by
  refine run_ir (x := ir45) rfl ?_
  have hp := peek_tk s hs q hq bad2 big2
  have hb : ((tk s q).1 == [38]) = true := by simpa using hk
  have hmk : PO.eval (.mk 3 1) [.int .i64 f.op, .str f.name, .sl (F.encs f.args)] = some [.sl (F.encs [f])] := by
   rw [show F.encs [f] = [F.enc f] from rfl, F.enc_eq]; rfl
  simp only [stP, rowF, List.cons_append, List.nil_append] at h1 hp h3
  simp only [ir45, stP, rowF, stepQ, stepL, eq_self, aBin, reduceIte, Int.reduceEq, Int.reduceLT, Int.reduceLE, Int.reduceGT, Int.reduceGE, h1, hp, hb, Bool.not_true, hmk, h3]
 refine run_ir (x := ir43) rfl ?_
 simp only [stP, rowF, List.cons_append, List.nil_append] at h2
 simp only [ir43, stP, rowF, stepQ, stepL, eq_self, aBin, reduceIte, Int.reduceEq, Int.reduceLT, Int.reduceLE, Int.reduceGT, Int.reduceGE, h2]
theorem stopO (s : List UInt8) (hs : s.length < 1000000) (q : Nat) (hq : q ≤ s.length) (bad : Int) (big : Bool) (acc : List F) (hn : 0 ≤ bad ∨ (tk s q).1 ≠ [124]) (x2 x3 x4 x5 x6 x7 x8 x9 x10 x11 x12 x13 x14 x15 x16 x17 x18 x19 x20 x21 : D) :
 loopQ (run tb) ir41p1 [.int .i64 6, .str [124], x2, x3, x4, x5, x6, x7, x8, x9, x10, x11, x12, x13, x14, x15, x16, x17, x18, x19, x20, x21] [] (stP s q bad big ++ [.sl (F.encs acc)]) = some (rowF (F.mk 6 [] acc) ++ stP s (skp s q) bad (big || decide (acc.length > 6))) := by
 refine fixQ ?_
 have h := take_no s hs q hq bad big [124] hn
 have hl : ((F.encs acc).length : Int) = acc.length := by rw [F.encs_len]
 have hgt : (decide ((acc.length : Int) > 6)) = decide (acc.length > 6) := by
  by_cases h6 : acc.length > 6
  · simp [h6]; omega
  · simp [h6]; omega
 simp only [stP] at h
 cases big with
 | true => simp only [ir41p1, ir41p0, stP, rowF, stepQ, stepL, eq_self, aBin, reduceIte, Int.reduceEq, Int.reduceLT, Int.reduceLE, Int.reduceGT, Int.reduceGE, h, F.op_mk, F.name_mk, F.args_mk, Bool.true_or]
 | false =>
  by_cases h6 : acc.length > 6
  · have h7 : ((acc.length : Int) > 6) := by omega
    simp only [ir41p1, ir41p0, stP, rowF, stepQ, stepL, eq_self, aBin, reduceIte, Int.reduceEq, Int.reduceLT, Int.reduceLE, Int.reduceGT, Int.reduceGE, h, hl, F.op_mk, F.name_mk, F.args_mk, Bool.false_or, h6, h7, ev_lenL, decide_true]
  · have h7 : ¬ ((acc.length : Int) > 6) := by omega
    simp only [ir41p1, ir41p0, stP, rowF, stepQ, stepL, eq_self, aBin, reduceIte, Int.reduceEq, Int.reduceLT, Int.reduceLE, Int.reduceGT, Int.reduceGE, h, hl, F.op_mk, F.name_mk, F.args_mk, Bool.false_or, h6, h7, ev_lenL, decide_false]
theorem stepO (s : List UInt8) (hs : s.length < 1000000) (q : Nat) (hq : q ≤ s.length) (bad : Int) (hb : bad < 0) (big : Bool) (acc : List F) (hk : (tk s q).1 = [124]) (hacc : acc.length < 1000000) (f : F) (q2 : Nat) (bad2 : Int) (big2 : Bool) (o : List D) (x2 x3 x4 x5 x6 x7 x8 x9 x10 x11 x12 x13 x14 x15 x16 x17 x18 x19 x20 x21 : D)
 (h1 : run tb 43 (stP s (nxt s q) bad big) = some (rowF f ++ stP s q2 bad2 big2))
 (h2 : loopQ (run tb) ir41p1 [.int .i64 6, .str [124], x2, x3, x4, x5, x6, x7, x8, x9, x10, x11, x12, x13, x14, x15, x16, x17, x18, x19, x20, x21] [] (stP s q2 bad2 big2 ++ [.sl (F.encs (acc ++ [f]))]) = some o) :
 loopQ (run tb) ir41p1 [.int .i64 6, .str [124], x2, x3, x4, x5, x6, x7, x8, x9, x10, x11, x12, x13, x14, x15, x16, x17, x18, x19, x20, x21] [] (stP s q bad big ++ [.sl (F.encs acc)]) = some o := by
 refine fixQ ?_
 have h := take_yes s hs q hq bad big [124] hb hk
 have hmk : PO.eval (.mk 3 1) [.int .i64 f.op, .str f.name, .sl (F.encs f.args)] = some [.sl (F.encs [f])] := by
  rw [show F.encs [f] = [F.enc f] from rfl, F.enc_eq]; rfl
 have happ : PO.eval (.app 3 48) [.sl (F.encs acc), .sl (F.encs [f])] = some [.sl (F.encs (acc ++ [f]))] := by
  have e1 : F.encs (acc ++ [f]) = F.encs acc ++ F.encs [f] := by simp only [F.encs_map, List.map_append]
  rw [e1]
  refine ev_app ?_ ?_ ?_
  · rw [F.encs_len, F.encs_len]; simp; omega
  · rw [F.encs_len, F.encs_len]; simp; omega
  · rw [show F.encs [f] = [F.enc f] from rfl, F.enc_eq]; rfl
 simp only [stP, rowF, List.cons_append, List.nil_append] at h h1 h2
 unfold nxt at h1
 generalize loopQ (run tb) ir41p1 [.int .i64 6, .str [124], x2, x3, x4, x5, x6, x7, x8, x9, x10, x11, x12, x13, x14, x15, x16, x17, x18, x19, x20, x21] [] = M at h2 ⊢
 simp only [ir41p1, stP, stepQ, stepL, eq_self, aBin, reduceIte, Int.reduceEq, Int.reduceLT, Int.reduceLE, Int.reduceGT, Int.reduceGE, h, h1, hmk, happ, h2]
theorem oneO (s : List UInt8) (hs : s.length < 1000000) (p : Nat) (bad : Int) (big : Bool) (f : F) (q : Nat) (hq : q ≤ s.length) (bad2 : Int) (big2 : Bool) (hk : (tk s q).1 ≠ [124])
 (h1 : run tb 43 (stP s p bad big) = some (rowF f ++ stP s q bad2 big2)) : run tb 37 (stP s p bad big) = some (rowF f ++ stP s (skp s q) bad2 big2) := by
 have h2 : run tb 41 (.int .i64 6 :: .str [124] :: stP s p bad big) = some (rowF f ++ stP s (skp s q) bad2 big2) := by
  refine run_ir (x := ir41) rfl ?_
  have hp := peek_tk s hs q hq bad2 big2
  have hb : ((tk s q).1 == [124]) = false := by simpa using hk
  simp only [stP, rowF, List.cons_append, List.nil_append] at h1 hp
  simp only [ir41, stP, rowF, stepQ, stepL, eq_self, aBin, reduceIte, Int.reduceEq, Int.reduceLT, Int.reduceLE, Int.reduceGT, Int.reduceGE, h1, hp, hb, Bool.not_false]
 refine run_ir (x := ir37) rfl ?_
 simp only [stP, rowF, List.cons_append, List.nil_append] at h2
 simp only [ir37, stP, rowF, stepQ, stepL, eq_self, aBin, reduceIte, Int.reduceEq, Int.reduceLT, Int.reduceLE, Int.reduceGT, Int.reduceGE, h2]
theorem manyO (s : List UInt8) (hs : s.length < 1000000) (p : Nat) (bad : Int) (big : Bool) (f : F) (q : Nat) (hq : q ≤ s.length) (bad2 : Int) (big2 : Bool) (hk : (tk s q).1 = [124])
 (h1 : run tb 43 (stP s p bad big) = some (rowF f ++ stP s q bad2 big2)) (g : F) (u : Nat) (bad3 : Int) (big3 : Bool)
 (h3 : loopQ (run tb) ir41p1 [.int .i64 6, .str [124], .str s, .int .i64 p, .int .i64 bad, .bool big, .int .i64 f.op, .str f.name, .sl (F.encs f.args), .str s, .int .i64 q, .int .i64 bad2, .bool big2, .str (tk s q).1, .str (tk s q).2, .int .i64 (skp s q), .str s, .int .i64 (skp s q), .int .i64 bad2, .bool big2, .bool false, .sl (F.encs [f])] [] (stP s (skp s q) bad2 big2 ++ [.sl (F.encs [f])]) = some (rowF g ++ stP s u bad3 big3)) : run tb 37 (stP s p bad big) = some (rowF g ++ stP s u bad3 big3) := by
 have h2 : run tb 41 (.int .i64 6 :: .str [124] :: stP s p bad big) = some (rowF g ++ stP s u bad3 big3) := by
  refine run_ir (x := ir41) rfl ?_
  have hp := peek_tk s hs q hq bad2 big2
  have hb : ((tk s q).1 == [124]) = true := by simpa using hk
  have hmk : PO.eval (.mk 3 1) [.int .i64 f.op, .str f.name, .sl (F.encs f.args)] = some [.sl (F.encs [f])] := by
   rw [show F.encs [f] = [F.enc f] from rfl, F.enc_eq]; rfl
  simp only [stP, rowF, List.cons_append, List.nil_append] at h1 hp h3
  simp only [ir41, stP, rowF, stepQ, stepL, eq_self, aBin, reduceIte, Int.reduceEq, Int.reduceLT, Int.reduceLE, Int.reduceGT, Int.reduceGE, h1, hp, hb, Bool.not_true, hmk, h3]
 refine run_ir (x := ir37) rfl ?_
 simp only [stP, rowF, List.cons_append, List.nil_append] at h2
 simp only [ir37, stP, rowF, stepQ, stepL, eq_self, aBin, reduceIte, Int.reduceEq, Int.reduceLT, Int.reduceLE, Int.reduceGT, Int.reduceGE, h2]
end Go.Proofs.YtccjhfmemghccaaDoor

namespace Go.Proofs.YtccjhfmemghccaaDoor
open Go Am
set_option maxRecDepth 100000
theorem take_no' (s : List UInt8) (hs : s.length < 1000000) (p : Nat) (hp : p ≤ s.length) (bad : Int) (big : Bool) (K : List UInt8) (hn : 0 ≤ bad ∨ (tk s p).1 ≠ K) :
 run tb 17 (.str K :: stP s (skp s p) bad big) = some (.bool false :: stP s (skp s p) bad big) := by
 have := take_no s hs (skp s p) (skp_le hp).2 bad big K (by rwa [tk_skp])
 rwa [skp_idem] at this
theorem take_yes' (s : List UInt8) (hs : s.length < 1000000) (p : Nat) (hp : p ≤ s.length) (bad : Int) (big : Bool) (K : List UInt8) (hb : bad < 0) (hk : (tk s p).1 = K) :
 run tb 17 (.str K :: stP s (skp s p) bad big) = some (.bool true :: stP s (nxt s p) bad big) := by
 have := take_yes s hs (skp s p) (skp_le hp).2 bad big K hb (by rwa [tk_skp])
 rwa [skp_idem, tk_skp] at this
section
variable (s : List UInt8) (hs : s.length < 1000000) (p : Nat) (hp : p ≤ s.length) (bad : Int) (hb : bad < 0) (big : Bool)
include hs hp hb
theorem un_name (h : (tk s p).1 = nameK) : run tb 46 (stP s p bad big) = some (rowF (F.mk 3 (tk s p).2 []) ++ stP s (nxt s p) bad big) := by
 refine run_ir (x := ir46) rfl ?_
 have h0 := peek_tk s hs p hp bad big
 have h1 : ¬ bad ≥ 0 := by omega
 have h2 := take_yes' s hs p hp bad big _ hb h
 simp only [stP, nameK] at h0 h2
 simp only [ir46, stP, rowF, F.op_mk, F.name_mk, F.args_mk, F.encs, stepQ, stepL, eq_self, aBin, reduceIte, Int.reduceEq, Int.reduceLT, Int.reduceLE, Int.reduceGT, Int.reduceGE, h0, h1, h2]
theorem un_zero (h : (tk s p).1 = [48]) : run tb 46 (stP s p bad big) = some (rowF (F.mk 2 [] []) ++ stP s (nxt s p) bad big) := by
 refine run_ir (x := ir46) rfl ?_
 have h0 := peek_tk s hs p hp bad big
 have h1 : ¬ bad ≥ 0 := by omega
 have h2 := take_no' s hs p hp bad big nameK (.inr (by rw [h]; simp [nameK]))
 have h3 := take_yes' s hs p hp bad big _ hb h
 simp only [stP, nameK] at h0 h2 h3
 simp only [ir46, stP, rowF, F.op_mk, F.name_mk, F.args_mk, F.encs, stepQ, stepL, eq_self, aBin, reduceIte, Int.reduceEq, Int.reduceLT, Int.reduceLE, Int.reduceGT, Int.reduceGE, h0, h1, h2, h3]
theorem un_one (h : (tk s p).1 = [49]) : run tb 46 (stP s p bad big) = some (rowF (F.mk 1 [] []) ++ stP s (nxt s p) bad big) := by
 refine run_ir (x := ir46) rfl ?_
 have h0 := peek_tk s hs p hp bad big
 have h1 : ¬ bad ≥ 0 := by omega
 have h2 := take_no' s hs p hp bad big nameK (.inr (by rw [h]; simp [nameK]))
 have h3 := take_no' s hs p hp bad big [48] (.inr (by rw [h]; simp))
 have h4 := take_yes' s hs p hp bad big _ hb h
 simp only [stP, nameK] at h0 h2 h3 h4
 simp only [ir46, stP, rowF, F.op_mk, F.name_mk, F.args_mk, F.encs, stepQ, stepL, eq_self, aBin, reduceIte, Int.reduceEq, Int.reduceLT, Int.reduceLE, Int.reduceGT, Int.reduceGE, h0, h1, h2, h3, h4]
theorem un_not (h : (tk s p).1 = [126]) (f : F) (q : Nat) (bad2 : Int) (big2 : Bool) (hr : run tb 46 (stP s (nxt s p) bad big) = some (rowF f ++ stP s q bad2 big2)) :
 run tb 46 (stP s p bad big) = some (rowF (F.mk 4 [] [f]) ++ stP s q bad2 big2) := by
 refine run_ir (x := ir46) rfl ?_
 have h0 := peek_tk s hs p hp bad big
 have h1 : ¬ bad ≥ 0 := by omega
 have h2 := take_no' s hs p hp bad big nameK (.inr (by rw [h]; simp [nameK]))
 have h3 := take_no' s hs p hp bad big [48] (.inr (by rw [h]; simp))
 have h4 := take_no' s hs p hp bad big [49] (.inr (by rw [h]; simp))
 have h5 := take_yes' s hs p hp bad big _ hb h
 have hmk : PO.eval (.mk 3 1) [.int .i64 f.op, .str f.name, .sl (F.encs f.args)] = some [.sl (F.encs [f])] := by
  rw [show F.encs [f] = [F.enc f] from rfl, F.enc_eq]; rfl
 simp only [stP, nameK, rowF, List.cons_append, List.nil_append] at h0 h2 h3 h4 h5 hr
 simp only [ir46, stP, rowF, F.op_mk, F.name_mk, F.args_mk, stepQ, stepL, eq_self, aBin, reduceIte, Int.reduceEq, Int.reduceLT, Int.reduceLE, Int.reduceGT, Int.reduceGE, h0, h1, h2, h3, h4, h5, hr, hmk]
theorem un_par (h : (tk s p).1 = [40]) (f : F) (q : Nat) (hq : q ≤ s.length) (big2 : Bool) (hr : run tb 16 (stP s (nxt s p) bad big) = some (rowF f ++ stP s q bad big2)) (h2 : (tk s q).1 = [41]) :
 run tb 46 (stP s p bad big) = some (rowF f ++ stP s (nxt s q) bad big2) := by
 refine run_ir (x := ir46) rfl ?_
 have h0 := peek_tk s hs p hp bad big
 have h1 : ¬ bad ≥ 0 := by omega
 have g2 := take_no' s hs p hp bad big nameK (.inr (by rw [h]; simp [nameK]))
 have h3 := take_no' s hs p hp bad big [48] (.inr (by rw [h]; simp))
 have h4 := take_no' s hs p hp bad big [49] (.inr (by rw [h]; simp))
 have h5 := take_no' s hs p hp bad big [126] (.inr (by rw [h]; simp))
 have h6 := take_yes' s hs p hp bad big _ hb h
 have h7 := take_yes s hs q hq bad big2 _ hb h2
 simp only [stP, nameK, rowF, List.cons_append, List.nil_append] at h0 g2 h3 h4 h5 h6 h7 hr
 unfold nxt at h6 hr ⊢
 simp only [ir46, stP, rowF, stepQ, stepL, eq_self, aBin, reduceIte, Int.reduceEq, Int.reduceLT, Int.reduceLE, Int.reduceGT, Int.reduceGE, h0, h1, g2, h3, h4, h5, h6, h7, hr, Bool.not_true]
theorem un_parN (h : (tk s p).1 = [40]) (f : F) (q : Nat) (hq : q ≤ s.length) (big2 : Bool) (hr : run tb 16 (stP s (nxt s p) bad big) = some (rowF f ++ stP s q bad big2)) (h2 : (tk s q).1 ≠ [41]) :
 run tb 46 (stP s p bad big) = some (rowF noF ++ stP s (skp s q) (skp s q) big2) := by
 refine run_ir (x := ir46) rfl ?_
 have h0 := peek_tk s hs p hp bad big
 have h1 : ¬ bad ≥ 0 := by omega
 have g2 := take_no' s hs p hp bad big nameK (.inr (by rw [h]; simp [nameK]))
 have h3 := take_no' s hs p hp bad big [48] (.inr (by rw [h]; simp))
 have h4 := take_no' s hs p hp bad big [49] (.inr (by rw [h]; simp))
 have h5 := take_no' s hs p hp bad big [126] (.inr (by rw [h]; simp))
 have h6 := take_yes' s hs p hp bad big _ hb h
 have h7 := take_no s hs q hq bad big2 _ (.inr h2)
 have h8 := fail_lt s hs (skp s q) (skp_le hq).2 bad big2 hb
 rw [skp_idem] at h8
 simp only [stP, nameK, noF, rowF, F.op_mk, F.name_mk, F.args_mk, F.encs, List.cons_append, List.nil_append] at h0 g2 h3 h4 h5 h6 h7 h8 hr
 simp only [ir46, stP, noF, rowF, F.op_mk, F.name_mk, F.args_mk, F.encs, stepQ, stepL, eq_self, aBin, reduceIte, Int.reduceEq, Int.reduceLT, Int.reduceLE, Int.reduceGT, Int.reduceGE, h0, h1, g2, h3, h4, h5, h6, h7, h8, hr, Bool.not_false]
theorem un_parE (h : (tk s p).1 = [40]) (f : F) (q : Nat) (hq : q ≤ s.length) (e : Nat) (big2 : Bool) (hr : run tb 16 (stP s (nxt s p) bad big) = some (rowF f ++ stP s q e big2)) :
 run tb 46 (stP s p bad big) = some (rowF noF ++ stP s (skp s q) e big2) := by
 refine run_ir (x := ir46) rfl ?_
 have h0 := peek_tk s hs p hp bad big
 have h1 : ¬ bad ≥ 0 := by omega
 have g2 := take_no' s hs p hp bad big nameK (.inr (by rw [h]; simp [nameK]))
 have h3 := take_no' s hs p hp bad big [48] (.inr (by rw [h]; simp))
 have h4 := take_no' s hs p hp bad big [49] (.inr (by rw [h]; simp))
 have h5 := take_no' s hs p hp bad big [126] (.inr (by rw [h]; simp))
 have h6 := take_yes' s hs p hp bad big _ hb h
 have h7 := take_no s hs q hq e big2 [41] (.inl (by omega))
 have h8 := fail_ge s (skp s q) e big2 (by omega)
 simp only [stP, nameK, noF, rowF, F.op_mk, F.name_mk, F.args_mk, F.encs, List.cons_append, List.nil_append] at h0 g2 h3 h4 h5 h6 h7 h8 hr
 simp only [ir46, stP, noF, rowF, F.op_mk, F.name_mk, F.args_mk, F.encs, stepQ, stepL, eq_self, aBin, reduceIte, Int.reduceEq, Int.reduceLT, Int.reduceLE, Int.reduceGT, Int.reduceGE, h0, h1, g2, h3, h4, h5, h6, h7, h8, hr, Bool.not_false]
theorem un_none (a1 : (tk s p).1 ≠ nameK) (a2 : (tk s p).1 ≠ [48]) (a3 : (tk s p).1 ≠ [49]) (a4 : (tk s p).1 ≠ [126]) (a5 : (tk s p).1 ≠ [40]) :
 run tb 46 (stP s p bad big) = some (rowF noF ++ stP s (skp s p) (skp s p) big) := by
 refine run_ir (x := ir46) rfl ?_
 have h0 := peek_tk s hs p hp bad big
 have h1 : ¬ bad ≥ 0 := by omega
 have g2 := take_no' s hs p hp bad big nameK (.inr a1)
 have h3 := take_no' s hs p hp bad big [48] (.inr a2)
 have h4 := take_no' s hs p hp bad big [49] (.inr a3)
 have h5 := take_no' s hs p hp bad big [126] (.inr a4)
 have h6 := take_no' s hs p hp bad big [40] (.inr a5)
 have h8 := fail_lt s hs (skp s p) (skp_le hp).2 bad big hb
 rw [skp_idem] at h8
 simp only [stP, nameK, noF, rowF, F.op_mk, F.name_mk, F.args_mk, F.encs, List.cons_append, List.nil_append] at h0 g2 h3 h4 h5 h6 h8
 simp only [ir46, stP, noF, rowF, F.op_mk, F.name_mk, F.args_mk, F.encs, stepQ, stepL, eq_self, aBin, reduceIte, Int.reduceEq, Int.reduceLT, Int.reduceLE, Int.reduceGT, Int.reduceGE, h0, h1, g2, h3, h4, h5, h6, h8]
end
section
variable (s : List UInt8) (hs : s.length < 1000000) (p : Nat) (bad bad2 bad3 : Int) (big big2 big3 : Bool) (f g : F) (q u : Nat) (hq : q ≤ s.length)
include hs hq
theorem imp_one (h1 : run tb 37 (stP s p bad big) = some (rowF f ++ stP s q bad2 big2)) (hn : 0 ≤ bad2 ∨ (tk s q).1 ≠ arrK) :
 run tb 30 (stP s p bad big) = some (rowF f ++ stP s (skp s q) bad2 big2) := by
 refine run_ir (x := ir30) rfl ?_
 have h2 := take_no s hs q hq bad2 big2 _ hn
 simp only [stP, rowF, arrK, List.cons_append, List.nil_append] at h1 h2
 simp only [ir30, stP, rowF, stepQ, stepL, eq_self, aBin, reduceIte, Int.reduceEq, Int.reduceLT, Int.reduceLE, Int.reduceGT, Int.reduceGE, h1, h2, Bool.not_false]
theorem imp_two (h1 : run tb 37 (stP s p bad big) = some (rowF f ++ stP s q bad2 big2)) (hb2 : bad2 < 0) (hk : (tk s q).1 = arrK)
 (h3 : run tb 30 (stP s (nxt s q) bad2 big2) = some (rowF g ++ stP s u bad3 big3)) :
 run tb 30 (stP s p bad big) = some (rowF (F.mk 7 [] [f, g]) ++ stP s u bad3 big3) := by
 refine run_ir (x := ir30) rfl ?_
 have h2 := take_yes s hs q hq bad2 big2 _ hb2 hk
 have hmk : PO.eval (.mk 3 2) [.int .i64 f.op, .str f.name, .sl (F.encs f.args), .int .i64 g.op, .str g.name, .sl (F.encs g.args)] = some [.sl (F.encs [f, g])] := by
  rw [show F.encs [f, g] = [F.enc f, F.enc g] from rfl, F.enc_eq, F.enc_eq]; rfl
 simp only [stP, rowF, arrK, List.cons_append, List.nil_append] at h1 h2 h3
 unfold nxt at h3
 simp only [ir30, stP, rowF, F.op_mk, F.name_mk, F.args_mk, stepQ, stepL, eq_self, aBin, reduceIte, Int.reduceEq, Int.reduceLT, Int.reduceLE, Int.reduceGT, Int.reduceGE, h1, h2, h3, hmk, Bool.not_true]
theorem iff_one (h1 : run tb 30 (stP s p bad big) = some (rowF f ++ stP s q bad2 big2)) (hn : 0 ≤ bad2 ∨ (tk s q).1 ≠ iffK) :
 run tb 16 (stP s p bad big) = some (rowF f ++ stP s (skp s q) bad2 big2) := by
 refine run_ir (x := ir16) rfl ?_
 have h2 := take_no s hs q hq bad2 big2 _ hn
 simp only [stP, rowF, iffK, List.cons_append, List.nil_append] at h1 h2
 simp only [ir16, stP, rowF, stepQ, stepL, eq_self, aBin, reduceIte, Int.reduceEq, Int.reduceLT, Int.reduceLE, Int.reduceGT, Int.reduceGE, h1, h2, Bool.not_false]
theorem iff_two (h1 : run tb 30 (stP s p bad big) = some (rowF f ++ stP s q bad2 big2)) (hb2 : bad2 < 0) (hk : (tk s q).1 = iffK)
 (h3 : run tb 30 (stP s (nxt s q) bad2 big2) = some (rowF g ++ stP s u bad3 big3)) :
 run tb 16 (stP s p bad big) = some (rowF (F.mk 8 [] [f, g]) ++ stP s u bad3 big3) := by
 refine run_ir (x := ir16) rfl ?_
 have h2 := take_yes s hs q hq bad2 big2 _ hb2 hk
 have hmk : PO.eval (.mk 3 2) [.int .i64 f.op, .str f.name, .sl (F.encs f.args), .int .i64 g.op, .str g.name, .sl (F.encs g.args)] = some [.sl (F.encs [f, g])] := by
  rw [show F.encs [f, g] = [F.enc f, F.enc g] from rfl, F.enc_eq, F.enc_eq]; rfl
 simp only [stP, rowF, iffK, List.cons_append, List.nil_append] at h1 h2 h3
 unfold nxt at h3
 simp only [ir16, stP, rowF, F.op_mk, F.name_mk, F.args_mk, stepQ, stepL, eq_self, aBin, reduceIte, Int.reduceEq, Int.reduceLT, Int.reduceLE, Int.reduceGT, Int.reduceGE, h1, h2, h3, hmk, Bool.not_true]
end
def fnP : Nat → Nat
 | 0 => 46
 | 1 => 43
 | 2 => 37
 | 3 => 30
 | _ => 16
def bodyP : Nat → IR
 | 0 => ir45p1
 | _ => ir41p1
def OutP (s : List UInt8) (bad : Int) (big : Bool) (r : PRes) (x : Option (List D)) : Prop := match r with
 | .ok f q b => ∃ q', q' ≤ s.length ∧ skp s q' = skp s q ∧ x = some (rowF f ++ stP s q' bad (big || b))
 | .er e => ∃ f q' big', q' ≤ s.length ∧ x = some (rowF f ++ stP s q' e big')
def RunP (s : List UInt8) (bad : Int) (j : Job) (r : PRes) : Prop := match j with
 | .lev L p => ∀ big, OutP s bad big r (run tb (fnP L) (stP s p bad big))
 | .loop L p acc b => ∀ big (q : Nat), q ≤ s.length → nxt s q = p → (tk s q).1 = conL L → acc.length ≤ p → ∀ x2 x3 x4 x5 x6 x7 x8 x9 x10 x11 x12 x13 x14 x15 x16 x17 x18 x19 x20 x21 : D, OutP s bad big r (loopQ (run tb) (bodyP L) [.int .i64 (opL L), .str (conL L), x2, x3, x4, x5, x6, x7, x8, x9, x10, x11, x12, x13, x14, x15, x16, x17, x18, x19, x20, x21] [] (stP s q bad (big || b) ++ [.sl (F.encs acc)]))
theorem prun (s : List UInt8) (hs : s.length < 1000000) (bad : Int) (hb : bad < 0) {j : Job} {r : PRes} (h : Ps s j r) : j.pos ≤ s.length → RunP s bad j r := by
 have lt2 : ∀ {L}, L < 2 → L = 0 ∨ L = 1 := fun h => by omega
 induction h with
 | @name p h => intro hp big; exact ⟨_, nxt_le hp, rfl, by rw [Bool.or_false]; exact un_name s hs p hp bad hb big h⟩
 | @zero p h => intro hp big; exact ⟨_, nxt_le hp, rfl, by rw [Bool.or_false]; exact un_zero s hs p hp bad hb big h⟩
 | @one p h => intro hp big; exact ⟨_, nxt_le hp, rfl, by rw [Bool.or_false]; exact un_one s hs p hp bad hb big h⟩
 | @not p f q b h a ih =>
  intro hp big
  obtain ⟨q', h1, h2, h3⟩ := ih (nxt_le hp) big
  exact ⟨q', h1, h2, un_not s hs p hp bad hb big h _ _ _ _ h3⟩
 | @notE p e h a ih =>
  intro hp big
  obtain ⟨f, q', big', h1, h3⟩ := ih (nxt_le hp) big
  exact ⟨_, q', big', h1, un_not s hs p hp bad hb big h _ _ _ _ h3⟩
 | @par p f q b h a hk ih =>
  intro hp big
  obtain ⟨q', h1, h2, h3⟩ := ih (nxt_le hp) big
  exact ⟨_, nxt_le h1, by rw [nxt_of h2], un_par s hs p hp bad hb big h _ _ h1 _ h3 (by rw [tk_of h2]; exact hk)⟩
 | @parN p f q b h a hk ih =>
  intro hp big
  obtain ⟨q', h1, h2, h3⟩ := ih (nxt_le hp) big
  have := un_parN s hs p hp bad hb big h _ _ h1 _ h3 (by rw [tk_of h2]; exact hk)
  rw [h2] at this
  have h4 := (skp_le h1).2
  rw [h2] at h4
  exact ⟨_, _, _, h4, this⟩
 | @parE p e h a ih =>
  intro hp big
  obtain ⟨f, q', big', h1, h3⟩ := ih (nxt_le hp) big
  exact ⟨_, _, _, (skp_le h1).2, un_parE s hs p hp bad hb big h _ _ h1 _ _ h3⟩
 | @none p h1 h2 h3 h4 h5 => intro hp big; exact ⟨_, _, _, (skp_le hp).2, un_none s hs p hp bad hb big h1 h2 h3 h4 h5⟩
 | @one1 L p f q b hL a h ih =>
  intro hp big
  obtain ⟨q', h1, h2, h3⟩ := ih hp big
  rcases lt2 hL with rfl | rfl
  · exact ⟨_, (skp_le h1).2, by rw [skp_idem]; exact h2, oneA s hs p bad big _ _ h1 _ _ (by rw [tk_of h2]; exact h) h3⟩
  · exact ⟨_, (skp_le h1).2, by rw [skp_idem]; exact h2, oneO s hs p bad big _ _ h1 _ _ (by rw [tk_of h2]; exact h) h3⟩
 | @manyE L p e hL a ih =>
  intro hp big
  obtain ⟨f, q', big', h1, h3⟩ := ih hp big
  rcases lt2 hL with rfl | rfl
  · by_cases hk : (tk s q').1 = [38]
    · refine ⟨_, _, _, (skp_le (skp_le h1).2).2, manyA s hs p bad big _ _ h1 _ _ hk h3 _ _ _ _ (stopA s hs _ (skp_le h1).2 _ _ _ (.inl (by omega)) _ _ _ _ _ _ _ _ _ _ _ _ _ _ _ _ _ _ _ _)⟩
    · exact ⟨_, _, _, (skp_le h1).2, oneA s hs p bad big _ _ h1 _ _ hk h3⟩
  · by_cases hk : (tk s q').1 = [124]
    · refine ⟨_, _, _, (skp_le (skp_le h1).2).2, manyO s hs p bad big _ _ h1 _ _ hk h3 _ _ _ _ (stopO s hs _ (skp_le h1).2 _ _ _ (.inl (by omega)) _ _ _ _ _ _ _ _ _ _ _ _ _ _ _ _ _ _ _ _)⟩
    · exact ⟨_, _, _, (skp_le h1).2, oneO s hs p bad big _ _ h1 _ _ hk h3⟩
 | @many L p f q b r hL a h c iha ihc =>
  intro hp big
  obtain ⟨q', h1, h2, h3⟩ := iha hp big
  obtain ⟨g1, g2, _⟩ := ps_good a hp trivial
  have h4 : (skp s q') ≤ s.length := (skp_le h1).2
  have h5 := nxt_lt g2 h (conL_ne L).1 (conL_ne L).2
  have h6 := ihc (nxt_le g2) big (skp s q') h4 (by rw [nxt_of (skp_idem s q'), nxt_of h2]) (by rw [tk_skp, tk_of h2]; exact h) (by simp only [List.length_cons, List.length_nil]; omega)
  have hk : (tk s q').1 = conL L := by rw [tk_of h2]; exact h
  have hf : ∀ {g u' bad3 big3}, loopQ (run tb) (bodyP L) [.int .i64 (opL L), .str (conL L), .str s, .int .i64 p, .int .i64 bad, .bool big, .int .i64 f.op, .str f.name, .sl (F.encs f.args), .str s, .int .i64 q', .int .i64 bad, .bool (big || b), .str (tk s q').1, .str (tk s q').2, .int .i64 (skp s q'), .str s, .int .i64 (skp s q'), .int .i64 bad, .bool (big || b), .bool false, .sl (F.encs [f])] [] (stP s (skp s q') bad (big || b) ++ [.sl (F.encs [f])]) = some (rowF g ++ stP s u' bad3 big3) → run tb (fnP (L + 1)) (stP s p bad big) = some (rowF g ++ stP s u' bad3 big3) := by
   intro g u' bad3 big3 h3'
   rcases lt2 hL with rfl | rfl
   · exact manyA s hs p bad big _ _ h1 _ _ hk h3 _ _ _ _ h3'
   · exact manyO s hs p bad big _ _ h1 _ _ hk h3 _ _ _ _ h3'
  have h7 := h6 (.str s) (.int .i64 p) (.int .i64 bad) (.bool big) (.int .i64 f.op) (.str f.name) (.sl (F.encs f.args)) (.str s) (.int .i64 q') (.int .i64 bad) (.bool (big || b)) (.str (tk s q').1) (.str (tk s q').2) (.int .i64 (skp s q')) (.str s) (.int .i64 (skp s q')) (.int .i64 bad) (.bool (big || b)) (.bool false) (.sl (F.encs [f]))
  cases r with
  | ok g u b' =>
   obtain ⟨u', k1, k2, k3⟩ := h7
   exact ⟨u', k1, k2, hf k3⟩
  | er e =>
   obtain ⟨g, u', big', k1, k3⟩ := h7
   exact ⟨g, u', big', k1, hf k3⟩
 | @loopE L p acc b e hL a ih =>
  intro hp big q hq hn hk hacc x2 x3 x4 x5 x6 x7 x8 x9 x10 x11 x12 x13 x14 x15 x16 x17 x18 x19 x20 x21
  subst hn
  have hp' : nxt s q ≤ s.length := hp
  obtain ⟨f, q', big', h1, h3⟩ := ih hp (big || b)
  rcases lt2 hL with rfl | rfl
  · exact ⟨_, _, _, (skp_le h1).2, stepA s hs q hq bad hb _ acc hk (by omega) f q' e big' _ _ _ _ _ _ _ _ _ _ _ _ _ _ _ _ _ _ _ _ _ h3 (stopA s hs q' h1 _ _ _ (.inl (by omega)) _ _ _ _ _ _ _ _ _ _ _ _ _ _ _ _ _ _ _ _)⟩
  · exact ⟨_, _, _, (skp_le h1).2, stepO s hs q hq bad hb _ acc hk (by omega) f q' e big' _ _ _ _ _ _ _ _ _ _ _ _ _ _ _ _ _ _ _ _ _ h3 (stopO s hs q' h1 _ _ _ (.inl (by omega)) _ _ _ _ _ _ _ _ _ _ _ _ _ _ _ _ _ _ _ _)⟩
 | @loop1 L p acc b f q0 b' hL a h ih =>
  intro hp big q hq hn hk hacc x2 x3 x4 x5 x6 x7 x8 x9 x10 x11 x12 x13 x14 x15 x16 x17 x18 x19 x20 x21
  subst hn
  have hp' : nxt s q ≤ s.length := hp
  obtain ⟨q', h1, h2, h3⟩ := ih hp (big || b)
  have hk' : (tk s q').1 ≠ conL L := by rw [tk_of h2]; exact h
  have e1 : (((big || b) || b') || decide ((acc ++ [f]).length > 6)) = (big || ((b || b') || decide (acc.length + 1 > 6))) := by
   simp only [List.length_append, List.length_cons, List.length_nil, Nat.zero_add, Bool.or_assoc]
  rcases lt2 hL with rfl | rfl
  · refine ⟨_, (skp_le h1).2, by rw [skp_idem]; exact h2, ?_⟩
    rw [← e1]
    exact stepA s hs q hq bad hb _ acc hk (by omega) f q' bad _ _ _ _ _ _ _ _ _ _ _ _ _ _ _ _ _ _ _ _ _ _ h3 (stopA s hs q' h1 _ _ _ (.inr hk') _ _ _ _ _ _ _ _ _ _ _ _ _ _ _ _ _ _ _ _)
  · refine ⟨_, (skp_le h1).2, by rw [skp_idem]; exact h2, ?_⟩
    rw [← e1]
    exact stepO s hs q hq bad hb _ acc hk (by omega) f q' bad _ _ _ _ _ _ _ _ _ _ _ _ _ _ _ _ _ _ _ _ _ _ h3 (stopO s hs q' h1 _ _ _ (.inr hk') _ _ _ _ _ _ _ _ _ _ _ _ _ _ _ _ _ _ _ _)
 | @loop2 L p acc b f q0 b' r hL a h c iha ihc =>
  intro hp big q hq hn hk hacc x2 x3 x4 x5 x6 x7 x8 x9 x10 x11 x12 x13 x14 x15 x16 x17 x18 x19 x20 x21
  subst hn
  have hp' : nxt s q ≤ s.length := hp
  obtain ⟨q', h1, h2, h3⟩ := iha hp (big || b)
  obtain ⟨g1, g2, _⟩ := ps_good a hp trivial
  have h5 := nxt_lt g2 h (conL_ne L).1 (conL_ne L).2
  simp only [Job.pos] at g1
  have h7 := ihc (nxt_le g2) big q' h1 (nxt_of h2) (by rw [tk_of h2]; exact h) (by simp only [List.length_append, List.length_cons, List.length_nil]; omega) x2 x3 x4 x5 x6 x7 x8 x9 x10 x11 x12 x13 x14 x15 x16 x17 x18 x19 x20 x21
  rw [← Bool.or_assoc] at h7
  have hf : ∀ {o}, loopQ (run tb) (bodyP L) [.int .i64 (opL L), .str (conL L), x2, x3, x4, x5, x6, x7, x8, x9, x10, x11, x12, x13, x14, x15, x16, x17, x18, x19, x20, x21] [] (stP s q' bad ((big || b) || b') ++ [.sl (F.encs (acc ++ [f]))]) = some o → loopQ (run tb) (bodyP L) [.int .i64 (opL L), .str (conL L), x2, x3, x4, x5, x6, x7, x8, x9, x10, x11, x12, x13, x14, x15, x16, x17, x18, x19, x20, x21] [] (stP s q bad (big || b) ++ [.sl (F.encs acc)]) = some o := by
   intro o h3'
   rcases lt2 hL with rfl | rfl
   · exact stepA s hs q hq bad hb _ acc hk (by omega) f q' bad _ _ _ _ _ _ _ _ _ _ _ _ _ _ _ _ _ _ _ _ _ _ h3 h3'
   · exact stepO s hs q hq bad hb _ acc hk (by omega) f q' bad _ _ _ _ _ _ _ _ _ _ _ _ _ _ _ _ _ _ _ _ _ _ h3 h3'
  cases r with
  | ok g u b' =>
   obtain ⟨u', k1, k2, k3⟩ := h7
   exact ⟨u', k1, k2, hf k3⟩
  | er e =>
   obtain ⟨g, u', big', k1, k3⟩ := h7
   exact ⟨g, u', big', k1, hf k3⟩
 | @imp1 p f q b a h ih =>
  intro hp big
  obtain ⟨q', h1, h2, h3⟩ := ih hp big
  exact ⟨_, (skp_le h1).2, by rw [skp_idem]; exact h2, imp_one s hs p bad bad big _ _ _ h1 h3 (.inr (by rw [tk_of h2]; exact h))⟩
 | @impE p e a ih =>
  intro hp big
  obtain ⟨f, q', big', h1, h3⟩ := ih hp big
  exact ⟨_, _, _, (skp_le h1).2, imp_one s hs p bad _ big _ _ _ h1 h3 (.inl (by omega))⟩
 | @imp2 p f q b g u b' a h c iha ihc =>
  intro hp big
  obtain ⟨q', h1, h2, h3⟩ := iha hp big
  obtain ⟨g1, g2, _⟩ := ps_good a hp trivial
  obtain ⟨u', k1, k2, k3⟩ := ihc (nxt_le g2) (big || b)
  exact ⟨u', k1, k2, by rw [← Bool.or_assoc]; exact imp_two s hs p bad bad _ big _ _ _ _ _ _ h1 h3 hb (by rw [tk_of h2]; exact h) (by rw [nxt_of h2]; exact k3)⟩
 | @imp2E p f q b e a h c iha ihc =>
  intro hp big
  obtain ⟨q', h1, h2, h3⟩ := iha hp big
  obtain ⟨g1, g2, _⟩ := ps_good a hp trivial
  obtain ⟨g, u', big', k1, k3⟩ := ihc (nxt_le g2) (big || b)
  exact ⟨_, u', big', k1, imp_two s hs p bad bad _ big _ _ _ _ _ _ h1 h3 hb (by rw [tk_of h2]; exact h) (by rw [nxt_of h2]; exact k3)⟩
 | @iff1 p f q b a h ih =>
  intro hp big
  obtain ⟨q', h1, h2, h3⟩ := ih hp big
  exact ⟨_, (skp_le h1).2, by rw [skp_idem]; exact h2, iff_one s hs p bad bad big _ _ _ h1 h3 (.inr (by rw [tk_of h2]; exact h))⟩
 | @iffE p e a ih =>
  intro hp big
  obtain ⟨f, q', big', h1, h3⟩ := ih hp big
  exact ⟨_, _, _, (skp_le h1).2, iff_one s hs p bad _ big _ _ _ h1 h3 (.inl (by omega))⟩
 | @iff2 p f q b g u b' a h c iha ihc =>
  intro hp big
  obtain ⟨q', h1, h2, h3⟩ := iha hp big
  obtain ⟨g1, g2, _⟩ := ps_good a hp trivial
  obtain ⟨u', k1, k2, k3⟩ := ihc (nxt_le g2) (big || b)
  exact ⟨u', k1, k2, by rw [← Bool.or_assoc]; exact iff_two s hs p bad bad _ big _ _ _ _ _ _ h1 h3 hb (by rw [tk_of h2]; exact h) (by rw [nxt_of h2]; exact k3)⟩
 | @iff2E p f q b e a h c iha ihc =>
  intro hp big
  obtain ⟨q', h1, h2, h3⟩ := iha hp big
  obtain ⟨g1, g2, _⟩ := ps_good a hp trivial
  obtain ⟨g, u', big', k1, k3⟩ := ihc (nxt_le g2) (big || b)
  exact ⟨_, u', big', k1, iff_two s hs p bad bad _ big _ _ _ _ _ _ h1 h3 hb (by rw [tk_of h2]; exact h) (by rw [nxt_of h2]; exact k3)⟩
end Go.Proofs.YtccjhfmemghccaaDoor

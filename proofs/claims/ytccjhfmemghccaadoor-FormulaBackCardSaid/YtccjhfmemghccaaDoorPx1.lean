/- What functions of the program compute: lemmas. -/
import Derived.Test.YtccjhfmemghccaaDoorLb1
import Derived.Test.YtccjhfmemghccaaDoorPs
set_option linter.unusedSimpArgs false
set_option linter.unusedVariables false
set_option linter.unusedSectionVars false
namespace Go.Proofs.YtccjhfmemghccaaDoor
open Go Am
set_option maxRecDepth 100000
theorem sub_str {s : List UInt8} {a : Nat} (h : a ≤ s.length) : PO.eval .subS [.str s, .int .i64 a, .int .i64 s.length] = some [.str (s.drop a)] := by
 rw [ev_subS (by omega) (by omega) (by omega)]
 simp
theorem sub_str0 {s : List UInt8} {b : Nat} (h : b ≤ s.length) : PO.eval .subS [.str s, .int .i64 0, .int .i64 b] = some [.str (s.take b)] := by
 rw [ev_subS (by omega) (by omega) (by omega)]
 simp
theorem get_S {l : List (List UInt8)} {i : Nat} (h : i < l.length) : PO.eval (.get 0 1) [strsD l, .int .i64 i] = some [.str l[i]] := by
 simp [PO.eval, strsD, strR, h]
theorem chk_S {l : List (List UInt8)} {i : Nat} (h : i < l.length) : PO.eval .chk [strsD l, .int .i64 i] = some [] := ev_chk (by omega) (by simp; omega)
end Go.Proofs.YtccjhfmemghccaaDoor

namespace Go.Proofs.YtccjhfmemghccaaDoor
open Go Am
set_option maxRecDepth 100000
theorem word_run (c : UInt8) : run tb 38 [.int .u8 c.toNat] = some [.bool (wordC c)] := by
 refine run_ir (x := ir38) rfl ?_
 unfold wordC
 generalize (c.toNat : Int) = x
 by_cases a1 : x ≥ 97 <;> by_cases a2 : x ≤ 122 <;> by_cases a3 : x ≥ 65 <;> by_cases a4 : x ≤ 90 <;> by_cases a5 : x ≥ 48 <;> by_cases a6 : x ≤ 57 <;> first | omega | skip
 all_goals simp only [ir38, stepQ, stepL, eq_self, aBin, reduceIte, Int.reduceEq, Int.reduceLT, Int.reduceLE, Int.reduceGT, Int.reduceGE, a1, a2, a3, a4, a5, a6]
theorem peek_run (s : List UInt8) (hs : s.length < 1000000) (p : Nat) (hp : p ≤ s.length) (bad : Int) (big : Bool) :
 run tb 31 [.str s, .int .i64 p, .int .i64 bad, .bool big] = some [.str (tokK (s.drop (skp s p))).1, .str (tokK (s.drop (skp s p))).2, .int .i64 (skp s p), .str s, .int .i64 (skp s p), .int .i64 bad, .bool big] := by
 refine run_ir (x := ir31) rfl ?_
 have hsk := skp_le hp
 generalize hq : skp s p = q at hsk
 have key := loop_km (run := run tb) (body := ir31p6) (e := [.str s, .int .i64 p, .int .i64 bad, .bool big]) (J := []) (ι := Nat) (fun a => s.length - a)
  (fun a => a ≤ s.length ∧ skp s a = q) (fun a => [.str s, .int .i64 a, .int .i64 bad, .bool big]) (fun _ => [.str (tokK (s.drop q)).1, .str (tokK (s.drop q)).2, .int .i64 q, .str s, .int .i64 q, .int .i64 bad, .bool big])
  (by
   rintro a L ⟨h1, h2⟩ hL
   have rest : ∀ x8 : D, a = q → den (run tb) ir31p5 [.str s, .int .i64 p, .int .i64 bad, .bool big, .str s, .int .i64 a, .int .i64 bad, .bool big, .bool false] [L] = some [.str (tokK (s.drop q)).1, .str (tokK (s.drop q)).2, .int .i64 q, .str s, .int .i64 q, .int .i64 bad, .bool big] := by
    intro _ haq
    subst haq
    by_cases hz : s.drop a = []
    · have hb : (s.drop a == []) = true := by simpa using hz
      have hal : a = s.length := by
       have := congrArg List.length hz
       simp at this; omega
      have ht : tokK (s.drop a) = ([], []) := by simp [tokK, hz]
      rw [ht]
      have e00 : (([] : List UInt8) == []) = true := rfl
      rw [hz] at hb
      have hz' : s.drop s.length = [] := List.drop_length
      simp (disch := omega) only [ir31p5, stepQ, stepL, eq_self, aBin, reduceIte, Int.reduceEq, Int.reduceLT, Int.reduceLE, Int.reduceGT, Int.reduceGE, sub_str, hal, hz', e00]
    · have hb : (s.drop a == []) = false := by simpa using hz
      have hrl : (s.drop a).length ≤ s.length := by simp
      generalize hr : s.drop a = r at hb hz hrl
      have keyC : ∀ (x12 x13 x15 x16 x17 : D) (M : PF) (t : List UInt8), loopQ (run tb) ir31p1 [.str s, .int .i64 p, .int .i64 bad, .bool big, .str s, .int .i64 a, .int .i64 bad, .bool big, .bool false, .int .i64 s.length, .str r, .bool false, x12, x13, .str t, x15, x16, x17, strsD syms, .int .i64 7] [L, M] [.int .i64 0] =
       some [.str (match syms.find? (symOk r) with | some t => (t, t) | none => ([63], [])).1, .str (match syms.find? (symOk r) with | some t => (t, t) | none => ([63], [])).2, .int .i64 a, .str s, .int .i64 a, .int .i64 bad, .bool big] := by
       intro x12 x13 x15 x16 x17 M t
       have k := loop_k (run := run tb) (body := ir31p1) (e := [.str s, .int .i64 p, .int .i64 bad, .bool big, .str s, .int .i64 a, .int .i64 bad, .bool big, .bool false, .int .i64 s.length, .str r, .bool false, x12, x13, .str t, x15, x16, x17, strsD syms, .int .i64 7]) (J := [L, M]) (σ := Unit) syms.length
        (fun _ _ => True) (fun i _ => [.int .i64 i]) (fun i _ => [.str (match (syms.drop i).find? (symOk r) with | some t => (t, t) | none => ([63], [])).1, .str (match (syms.drop i).find? (symOk r) with | some t => (t, t) | none => ([63], [])).2, .int .i64 a, .str s, .int .i64 a, .int .i64 bad, .bool big])
        (by
         rintro i _ N hi _ hN
         have hnext := hN () trivial
         have hi7 : (i : Int) < 7 := by have : syms.length = 7 := rfl; omega
         have hget := get_S hi
         have hchk := chk_S hi
         have hsl : syms[i].length ≤ 3 := by
          have hm := List.getElem_mem hi
          generalize syms[i] = y at hm
          simp only [syms, List.mem_cons, List.not_mem_nil, or_false] at hm
          rcases hm with rfl | rfl | rfl | rfl | rfl | rfl | rfl <;> simp
         rw [drop_s hi, List.find?_cons]
         generalize syms[i] = y at hget hsl
         by_cases hl : y.length ≤ r.length
         · cases hb2 : (r.take y.length == y) with
           | true =>
            have hok : symOk r y = true := by simp only [symOk, hl, hb2, decide_true, Bool.and_self]
            simp (disch := omega) only [ir31p1, ir31p0, stepQ, stepL, eq_self, aBin, reduceIte, Int.reduceEq, Int.reduceLT, Int.reduceLE, Int.reduceGT, Int.reduceGE, hi7, hchk, hget, hl, sub_str0, hb2, hok]
           | false =>
            have hok : symOk r y = false := by simp only [symOk, hb2, Bool.and_false]
            simp (disch := omega) only [ir31p1, ir31p0, stepQ, stepL, eq_self, aBin, reduceIte, Int.reduceEq, Int.reduceLT, Int.reduceLE, Int.reduceGT, Int.reduceGE, hi7, hchk, hget, hl, sub_str0, hb2, hok, wr, natS, hnext]
         · have hok : symOk r y = false := by simp only [symOk, hl, decide_false, Bool.false_and]
           simp (disch := omega) only [ir31p1, ir31p0, stepQ, stepL, eq_self, aBin, reduceIte, Int.reduceEq, Int.reduceLT, Int.reduceLE, Int.reduceGT, Int.reduceGE, hi7, hchk, hget, hl, hok, wr, natS, hnext])
        (by
         rintro _ N _
         rw [List.drop_length]
         have h7 : ((syms.length : Nat) : Int) = 7 := rfl
         rw [h7]
         simp (disch := omega) only [ir31p1, stepQ, stepL, eq_self, aBin, reduceIte, Int.reduceEq, Int.reduceLT, Int.reduceLE, Int.reduceGT, Int.reduceGE, List.find?_nil])
       have h := k 0 () (by omega) trivial
       simpa only [nat0, List.drop_zero, List.cons_append, List.nil_append] using h
      have keyB := loop_k (run := run tb) (body := ir31p4) (e := [.str s, .int .i64 p, .int .i64 bad, .bool big, .str s, .int .i64 a, .int .i64 bad, .bool big, .bool false, .int .i64 s.length, .str r, .bool false]) (J := [L]) (σ := Unit) (wlen r)
       (fun n _ => n + wlen (r.drop n) = wlen r) (fun n _ => [.int .i64 n]) (fun _ _ => [.str (tokK r).1, .str (tokK r).2, .int .i64 a, .str s, .int .i64 a, .int .i64 bad, .bool big])
       (by
        rintro n _ M hn hw hM
        have hwl := wlen_le r
        have hnr : n < r.length := by omega
        rw [wlen_drop r n hnr] at hw
        by_cases hc : wordC r[n] = true
        · rw [if_pos hc] at hw
          have hnext := hM () (by omega)
          have hwr := word_run r[n]
          rw [hc] at hwr
          simp (disch := omega) only [ir31p4, ir31p3, stepQ, stepL, eq_self, aBin, reduceIte, Int.reduceEq, Int.reduceLT, Int.reduceLE, Int.reduceGT, Int.reduceGE, hnr, idx_S, hwr, wr, natS, hnext]
        · rw [if_neg hc] at hw; omega)
       (by
        rintro _ M hw
        have hwl := wlen_le r
        have hmk : PO.eval (.mk 1 7) [.str [60, 45, 62], .str [45, 62], .str [126], .str [38], .str [124], .str [40], .str [41]] = some [strsD syms] := rfl
        have hlen : PO.eval .lenL [strsD syms] = some [.int .i64 7] := rfl
        have word : ∀ x13 : D, den (run tb) ir31p3 [.str s, .int .i64 p, .int .i64 bad, .bool big, .str s, .int .i64 a, .int .i64 bad, .bool big, .bool false, .int .i64 s.length, .str r, .bool false, .int .i64 (wlen r), .bool false] [L, M] = some [.str (tokK r).1, .str (tokK r).2, .int .i64 a, .str s, .int .i64 a, .int .i64 bad, .bool big] := by
         intro _
         have htl : (r.take (wlen r)).length ≤ 1000000 := by simp; omega
         have hv := validName_run (r.take (wlen r))
         unfold tokK
         rw [if_neg hz]
         by_cases h48 : r.take (wlen r) = [48]
         · have hb1 : (([48] : List UInt8) == [48]) = true := rfl
           simp (disch := omega) only [ir31p3, ir31p2, stepQ, stepL, eq_self, aBin, reduceIte, Int.reduceEq, Int.reduceLT, Int.reduceLE, Int.reduceGT, Int.reduceGE, sub_str0, hb1, h48, true_or, if_true]
         have hb1 : (r.take (wlen r) == [48]) = false := by simpa using h48
         by_cases h49 : r.take (wlen r) = [49]
         · have hb2 : (([49] : List UInt8) == [49]) = true := rfl
           have hb3 : (([49] : List UInt8) == [48]) = false := rfl
           simp (disch := omega) only [ir31p3, ir31p2, stepQ, stepL, eq_self, aBin, reduceIte, Int.reduceEq, Int.reduceLT, Int.reduceLE, Int.reduceGT, Int.reduceGE, sub_str0, hb1, hb2, hb3, h49, or_true, if_true]
         have hb2 : (r.take (wlen r) == [49]) = false := by simpa using h49
         rw [if_neg (fun h => h.elim h48 h49)]
         by_cases hvn : validName (r.take (wlen r)) = true
         · rw [hvn] at hv
           rw [if_pos hvn]
           simp (disch := omega) only [ir31p3, ir31p2, stepQ, stepL, eq_self, aBin, reduceIte, Int.reduceEq, Int.reduceLT, Int.reduceLE, Int.reduceGT, Int.reduceGE, sub_str0, hb1, hb2, hv, nameK]
         have hvn' : validName (r.take (wlen r)) = false := by simpa using hvn
         rw [hvn'] at hv
         rw [if_neg hvn]
         by_cases hw0 : 0 < wlen r
         · have hw1 : ((wlen r : Nat) : Int) > 0 := by omega
           rw [if_pos hw0]
           simp (disch := omega) only [ir31p3, ir31p2, stepQ, stepL, eq_self, aBin, reduceIte, Int.reduceEq, Int.reduceLT, Int.reduceLE, Int.reduceGT, Int.reduceGE, sub_str0, hb1, hb2, hv, hw1]
         · have hw1 : ¬ ((wlen r : Nat) : Int) > 0 := by omega
           rw [if_neg hw0]
           simp (disch := omega) only [ir31p3, ir31p2, stepQ, stepL, eq_self, aBin, reduceIte, Int.reduceEq, Int.reduceLT, Int.reduceLE, Int.reduceGT, Int.reduceGE, sub_str0, hb1, hb2, hv, hw1, hmk, hlen, keyC] <;> rfl
        by_cases hnr : wlen r < r.length
        · rw [wlen_drop r _ hnr] at hw
          have hc : wordC r[wlen r] = false := by
           cases hc : wordC r[wlen r] with
           | false => rfl
           | true => rw [if_pos hc] at hw; omega
          have hwr := word_run r[wlen r]
          rw [hc] at hwr
          simp (disch := omega) only [ir31p4, stepQ, stepL, eq_self, aBin, reduceIte, Int.reduceEq, Int.reduceLT, Int.reduceLE, Int.reduceGT, Int.reduceGE, hnr, idx_S, hwr, word dfl]
        · simp (disch := omega) only [ir31p4, stepQ, stepL, eq_self, aBin, reduceIte, Int.reduceEq, Int.reduceLT, Int.reduceLE, Int.reduceGT, Int.reduceGE, hnr, word dfl])
      have hk := keyB 0 () (by omega) (by simp)
      simp only [nat0, List.cons_append, List.nil_append] at hk
      simp (disch := omega) only [ir31p5, stepQ, stepL, eq_self, aBin, reduceIte, Int.reduceEq, Int.reduceLT, Int.reduceLE, Int.reduceGT, Int.reduceGE, sub_str, hr, hb, hk]
   by_cases ha : a < s.length
   · unfold skp at h2
     rw [spaces_drop s a ha] at h2
     by_cases hc : (s[a].toNat : Int) = 32
     · rw [if_pos hc] at h2
       have hnext := hL (a + 1) ⟨by omega, by unfold skp; omega⟩ (by omega)
       simp (disch := omega) only [ir31p6, ir31p5, stepQ, stepL, eq_self, aBin, reduceIte, Int.reduceEq, Int.reduceLT, Int.reduceLE, Int.reduceGT, Int.reduceGE, ha, idx_S, hc, wr, natS, hnext]
     · rw [if_neg hc] at h2
       have hr := rest dfl (by omega)
       simp (disch := omega) only [ir31p6, stepQ, stepL, eq_self, aBin, reduceIte, Int.reduceEq, Int.reduceLT, Int.reduceLE, Int.reduceGT, Int.reduceGE, ha, idx_S, hc, hr]
   · have hal : a = s.length := by omega
     have h3 : a = q := by
      unfold skp at h2
      rw [hal, List.drop_length] at h2
      simp [spaces] at h2; omega
     have hr := rest dfl h3
     simp (disch := omega) only [ir31p6, stepQ, stepL, eq_self, aBin, reduceIte, Int.reduceEq, Int.reduceLT, Int.reduceLE, Int.reduceGT, Int.reduceGE, ha, hr])
 have hk := key p ⟨hp, hq⟩
 simp only [ir31, stepQ, stepL, eq_self, aBin, reduceIte, Int.reduceEq, Int.reduceLT, Int.reduceLE, Int.reduceGT, Int.reduceGE, hk]
end Go.Proofs.YtccjhfmemghccaaDoor

namespace Go.Proofs.YtccjhfmemghccaaDoor
open Go Am
set_option maxRecDepth 100000
abbrev stP (s : List UInt8) (p : Nat) (bad : Int) (big : Bool) : List D := [.str s, .int .i64 p, .int .i64 bad, .bool big]
theorem peek_tk (s : List UInt8) (hs : s.length < 1000000) (p : Nat) (hp : p ≤ s.length) (bad : Int) (big : Bool) :
 run tb 31 (stP s p bad big) = some [.str (tk s p).1, .str (tk s p).2, .int .i64 (skp s p), .str s, .int .i64 (skp s p), .int .i64 bad, .bool big] := peek_run s hs p hp bad big
theorem take_yes (s : List UInt8) (hs : s.length < 1000000) (p : Nat) (hp : p ≤ s.length) (bad : Int) (big : Bool) (K : List UInt8) (hb : bad < 0) (hk : (tk s p).1 = K) :
 run tb 17 (.str K :: stP s p bad big) = some (.bool true :: stP s (skp s p + (tk s p).2.length) bad big) := by
 refine run_ir (x := ir17) rfl ?_
 have h := peek_tk s hs p hp bad big
 have h1 : ¬ bad ≥ 0 := by omega
 have h2 := tk_le hp
 have hb : ((tk s p).1 == K) = true := by simpa using hk
 have hadd : IntKind.i64.wrap ((skp s p : Int) + ((tk s p).2.length : Int)) = ((skp s p + (tk s p).2.length : Nat) : Int) := by rw [wr (n := (skp s p : Int) + ((tk s p).2.length : Int)) (by omega) (by omega)]; omega
 simp only [stP] at h
 simp only [ir17, ir17p0, stP, stepQ, stepL, eq_self, aBin, reduceIte, Int.reduceEq, Int.reduceLT, Int.reduceLE, Int.reduceGT, Int.reduceGE, h, h1, hb, hadd]
theorem take_no (s : List UInt8) (hs : s.length < 1000000) (p : Nat) (hp : p ≤ s.length) (bad : Int) (big : Bool) (K : List UInt8) (hn : 0 ≤ bad ∨ (tk s p).1 ≠ K) :
 run tb 17 (.str K :: stP s p bad big) = some (.bool false :: stP s (skp s p) bad big) := by
 refine run_ir (x := ir17) rfl ?_
 have h := peek_tk s hs p hp bad big
 simp only [stP] at h
 by_cases h1 : bad ≥ 0
 · simp only [ir17, ir17p0, stP, stepQ, stepL, eq_self, aBin, reduceIte, Int.reduceEq, Int.reduceLT, Int.reduceLE, Int.reduceGT, Int.reduceGE, h, h1]
 · have hb : ((tk s p).1 == K) = false := by
    have : (tk s p).1 ≠ K := hn.elim (fun h => absurd h h1) id
    simpa using this
   simp only [ir17, ir17p0, stP, stepQ, stepL, eq_self, aBin, reduceIte, Int.reduceEq, Int.reduceLT, Int.reduceLE, Int.reduceGT, Int.reduceGE, h, h1, hb]
def noF : F := F.mk 0 [] []
theorem fail_lt (s : List UInt8) (hs : s.length < 1000000) (p : Nat) (hp : p ≤ s.length) (bad : Int) (big : Bool) (hb : bad < 0) :
 run tb 18 (stP s p bad big) = some (rowF noF ++ stP s (skp s p) (skp s p) big) := by
 refine run_ir (x := ir18) rfl ?_
 have h := peek_tk s hs p hp bad big
 simp only [stP] at h
 simp only [ir18, ir18p0, stP, stepQ, stepL, eq_self, aBin, reduceIte, Int.reduceEq, Int.reduceLT, Int.reduceLE, Int.reduceGT, Int.reduceGE, h, hb, noF, rowF, F.op_mk, F.name_mk, F.args_mk, F.encs]
theorem fail_ge (s : List UInt8) (p : Nat) (bad : Int) (big : Bool) (hb : ¬ bad < 0) :
 run tb 18 (stP s p bad big) = some (rowF noF ++ stP s p bad big) := by
 refine run_ir (x := ir18) rfl ?_
 simp only [ir18, ir18p0, stP, stepQ, stepL, eq_self, aBin, reduceIte, Int.reduceEq, Int.reduceLT, Int.reduceLE, Int.reduceGT, Int.reduceGE, hb, noF, rowF, F.op_mk, F.name_mk, F.args_mk, F.encs]
end Go.Proofs.YtccjhfmemghccaaDoor

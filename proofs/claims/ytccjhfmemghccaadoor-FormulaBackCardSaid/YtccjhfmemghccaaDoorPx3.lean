/- What functions of the program compute: lemmas. -/
import Derived.Test.YtccjhfmemghccaaDoorPx2
set_option linter.unusedSimpArgs false
set_option linter.unusedVariables false
set_option linter.unusedSectionVars false
namespace Go.Proofs.YtccjhfmemghccaaDoor
open Go Am
set_option maxRecDepth 100000
def wordR (c : UInt8) : Bool := (decide (97 ≤ (c.toNat : Int)) && decide ((c.toNat : Int) ≤ 122)) || ((decide (48 ≤ (c.toNat : Int)) && decide ((c.toNat : Int) ≤ 57)) || decide ((c.toNat : Int) = 95))
theorem wordR_run (c : UInt8) : run tb 34 [.int .u8 c.toNat] = some [.bool (wordR c)] := by
 refine run_ir (x := ir34) rfl ?_
 unfold wordR
 generalize (c.toNat : Int) = x
 by_cases a1 : x ≥ 97 <;> by_cases a2 : x ≤ 122 <;> by_cases a5 : x ≥ 48 <;> by_cases a6 : x ≤ 57 <;> first | omega | skip
 all_goals simp only [ir34, stepQ, stepL, eq_self, aBin, reduceIte, Int.reduceEq, Int.reduceLT, Int.reduceLE, Int.reduceGT, Int.reduceGE, a1, a2, a5, a6]
def syms2 : List (List UInt8) := [[126], [38], [124], [45, 62], [60, 45, 62], [40], [41]]
theorem syms2_eq (r : List UInt8) : syms2.find? (symOk r) = syms.find? (symOk r) := by
 cases r with
 | nil => rfl
 | cons c l =>
  have h1 : ∀ d : UInt8, symOk (c :: l) [d] = (c == d) := fun d => symOk1 c d l
  have h2 : ∀ (d e : UInt8) (t : List UInt8), c ≠ d → symOk (c :: l) (d :: t) = false := fun d e t h => by
   simp only [symOk, List.length_cons, List.take_succ_cons, Bool.and_eq_false_iff]
   right
   simp [h]
  by_cases a1 : c = 126
  · subst a1; simp [syms2, syms, List.find?_cons, symOk]
  by_cases a2 : c = 38
  · subst a2; simp [syms2, syms, List.find?_cons, symOk]
  by_cases a3 : c = 124
  · subst a3; simp [syms2, syms, List.find?_cons, symOk]
  by_cases a4 : c = 45
  · subst a4
    simp only [syms2, syms, List.find?_cons, h1, h2 60 0 [45, 62] (by decide)]
    simp
  by_cases a5 : c = 60
  · subst a5
    simp only [syms2, syms, List.find?_cons, h1, h2 45 0 [62] (by decide)]
    simp
  by_cases a6 : c = 40
  · subst a6; simp [syms2, syms, List.find?_cons, symOk]
  by_cases a7 : c = 41
  · subst a7; simp [syms2, syms, List.find?_cons, symOk]
  simp [syms2, syms, List.find?_cons, h1, h2 60 0 [45, 62] a5, h2 45 0 [62] a4, a1, a2, a3, a6, a7]
def tokR (r : List UInt8) : List UInt8 := if (tokK r).1 = nameK then (tokK r).2 else (tokK r).1
theorem tokR_sym {r : List UInt8} (h0 : r ≠ []) (hw : wlen r = 0) : tokR r = (match syms2.find? (symOk r) with | some t => t | none => [63]) := by
 have h1 : tokK r = (match syms.find? (symOk r) with | some t => (t, t) | none => ([63], [])) := by
  unfold tokK
  rw [if_neg h0, hw, List.take_zero, if_neg (by simp), if_neg (by rw [validName_nil]; simp), if_neg (by omega)]
  rfl
 unfold tokR
 rw [h1, syms2_eq]
 cases h : syms.find? (symOk r) with
 | none => simp [nameK]
 | some t =>
  have hm := List.mem_of_find?_eq_some h
  have : t ≠ nameK := by
   simp only [syms, List.mem_cons, List.not_mem_nil, or_false] at hm
   rcases hm with rfl | rfl | rfl | rfl | rfl | rfl | rfl <;> simp [nameK]
  simp [this]
theorem wordC_iff (c : UInt8) : wordC c = (wordR c || (decide (65 ≤ (c.toNat : Int)) && decide ((c.toNat : Int) ≤ 90))) := by
 unfold wordC wordR
 generalize (c.toNat : Int) = x
 by_cases a1 : 97 ≤ x <;> by_cases a2 : x ≤ 122 <;> by_cases a3 : 65 ≤ x <;> by_cases a4 : x ≤ 90 <;> by_cases a5 : 48 ≤ x <;> by_cases a6 : x ≤ 57 <;> simp [a1, a2, a3, a4, a5, a6] <;> omega
theorem sub_mid {s : List UInt8} {a b : Nat} (h : a + b ≤ s.length) : PO.eval .subS [.str s, .int .i64 a, .int .i64 ((a : Int) + (b : Int))] = some [.str ((s.drop a).take b)] := by
 rw [ev_subS (by omega) (by omega) (by omega)]
 have : ((a : Int) + (b : Int)).toNat = a + b := by omega
 rw [this, show ((a : Int)).toNat = a by omega, List.drop_take]
 simp
theorem token_run (s : List UInt8) (hs : s.length < 1000000) (p : Nat) (hp : p ≤ s.length) (bad : Int) :
 run tb 22 [.str s, .int .i64 p, .int .i64 bad] = some [.str (tokR (s.drop (skp s p))), .int .i64 (skp s p), .str s, .int .i64 p, .int .i64 bad] := by
 refine run_ir (x := ir22) rfl ?_
 have hsk := skp_le hp
 generalize hq : skp s p = q at hsk
 have key := loop_km (run := run tb) (body := ir22p6) (e := [.str s, .int .i64 p, .int .i64 bad]) (J := []) (ι := Nat) (fun a => s.length - a)
  (fun a => a ≤ s.length ∧ skp s a = q) (fun a => [.int .i64 a]) (fun _ => [.str (tokR (s.drop q)), .int .i64 q, .str s, .int .i64 p, .int .i64 bad])
  (by
   rintro a L ⟨h1, h2⟩ hL
   have rest : a = q → den (run tb) ir22p5 [.str s, .int .i64 p, .int .i64 bad, .int .i64 a, .bool false] [L] = some [.str (tokR (s.drop q)), .int .i64 q, .str s, .int .i64 p, .int .i64 bad] := by
    intro haq
    subst haq
    by_cases hz : a = s.length
    · have hd : s.drop s.length = [] := List.drop_length
      have ht : tokR (s.drop a) = [] := by rw [hz, hd]; rfl
      have hz' : ((a : Int) = (s.length : Int)) := by omega
      rw [ht]
      simp (disch := omega) only [ir22p5, stepQ, stepL, eq_self, aBin, reduceIte, Int.reduceEq, Int.reduceLT, Int.reduceLE, Int.reduceGT, Int.reduceGE, hz']
    · have hz' : ¬ ((a : Int) = (s.length : Int)) := by omega
      have hne : s.drop a ≠ [] := by intro h; have := congrArg List.length h; simp at this; omega
      have hwl := wlen_le (s.drop a)
      have hdl : (s.drop a).length = s.length - a := by simp
      have keyC : ∀ (x7 x8 x9 : D) (M : PF), wlen (s.drop a) = 0 → loopQ (run tb) ir22p2 [.str s, .int .i64 p, .int .i64 bad, .int .i64 a, .bool false, .int .i64 s.length, .bool false, x7, x8, x9, strsD syms2, .int .i64 7] [L, M] [.int .i64 0] =
       some [.str (match syms2.find? (symOk (s.drop a)) with | some t => t | none => [63]), .int .i64 a, .str s, .int .i64 p, .int .i64 bad] := by
       intro x7 x8 x9 M _
       have k := loop_k (run := run tb) (body := ir22p2) (e := [.str s, .int .i64 p, .int .i64 bad, .int .i64 a, .bool false, .int .i64 s.length, .bool false, x7, x8, x9, strsD syms2, .int .i64 7]) (J := [L, M]) (σ := Unit) syms2.length
        (fun _ _ => True) (fun i _ => [.int .i64 i]) (fun i _ => [.str (match (syms2.drop i).find? (symOk (s.drop a)) with | some t => t | none => [63]), .int .i64 a, .str s, .int .i64 p, .int .i64 bad])
        (by
         rintro i _ N hi _ hN
         have hnext := hN () trivial
         have hi7 : (i : Int) < 7 := by have : syms2.length = 7 := rfl; omega
         have hget := get_S hi
         have hchk := chk_S hi
         have hsl : syms2[i].length ≤ 3 := by
          have hm := List.getElem_mem hi
          generalize syms2[i] = y at hm
          simp only [syms2, List.mem_cons, List.not_mem_nil, or_false] at hm
          rcases hm with rfl | rfl | rfl | rfl | rfl | rfl | rfl <;> simp
         rw [drop_s hi, List.find?_cons]
         generalize syms2[i] = y at hget hsl
         have hw1 : IntKind.i64.wrap ((s.length : Int) - (a : Int)) = (s.length : Int) - (a : Int) := wr (by omega) (by omega)
         have hw2 : IntKind.i64.wrap ((a : Int) + (y.length : Int)) = (a : Int) + (y.length : Int) := wr (by omega) (by omega)
         by_cases hl : y.length ≤ s.length - a
         · have hl' : (s.length : Int) - (a : Int) ≥ (y.length : Int) := by omega
           have hsub := sub_mid (s := s) (a := a) (b := y.length) (by omega)
           cases hb2 : ((s.drop a).take y.length == y) with
           | true =>
            have hok : symOk (s.drop a) y = true := by simp only [symOk, hdl, hl, hb2, decide_true, Bool.and_self]
            simp (disch := omega) only [ir22p2, ir22p1, stepQ, stepL, eq_self, aBin, reduceIte, Int.reduceEq, Int.reduceLT, Int.reduceLE, Int.reduceGT, Int.reduceGE, hi7, hchk, hget, hw1, hl', hw2, hsub, hb2, hok]
           | false =>
            have hok : symOk (s.drop a) y = false := by simp only [symOk, hb2, Bool.and_false]
            simp (disch := omega) only [ir22p2, ir22p1, stepQ, stepL, eq_self, aBin, reduceIte, Int.reduceEq, Int.reduceLT, Int.reduceLE, Int.reduceGT, Int.reduceGE, hi7, hchk, hget, hw1, hl', hw2, hsub, hb2, hok, wr, natS, hnext]
         · have hl' : ¬ ((s.length : Int) - (a : Int) ≥ (y.length : Int)) := by omega
           have hok : symOk (s.drop a) y = false := by simp only [symOk, hdl, hl, decide_false, Bool.false_and]
           simp (disch := omega) only [ir22p2, ir22p1, stepQ, stepL, eq_self, aBin, reduceIte, Int.reduceEq, Int.reduceLT, Int.reduceLE, Int.reduceGT, Int.reduceGE, hi7, hchk, hget, hw1, hl', hok, wr, natS, hnext])
        (by
         rintro _ N _
         rw [List.drop_length]
         have h7 : ((syms2.length : Nat) : Int) = 7 := rfl
         rw [h7]
         simp (disch := omega) only [ir22p2, stepQ, stepL, eq_self, aBin, reduceIte, Int.reduceEq, Int.reduceLT, Int.reduceLE, Int.reduceGT, Int.reduceGE, List.find?_nil])
       have h := k 0 () (by omega) trivial
       simpa only [nat0, List.drop_zero, List.cons_append, List.nil_append] using h
      obtain ⟨w, hw⟩ : ∃ w, w = wlen (s.drop a) := ⟨_, rfl⟩
      have keyB := loop_k (run := run tb) (body := ir22p4) (e := [.str s, .int .i64 p, .int .i64 bad, .int .i64 a, .bool false, .int .i64 s.length, .bool false]) (J := [L]) (σ := Unit) w
       (fun n _ => n + wlen ((s.drop a).drop n) = w) (fun n _ => [.int .i64 ((a : Int) + (n : Int))]) (fun _ _ => [.str (tokR (s.drop a)), .int .i64 a, .str s, .int .i64 p, .int .i64 bad])
       (by
        rintro n _ M hn hw2 hM
        have hnr : n < (s.drop a).length := by omega
        rw [wlen_drop _ n hnr] at hw2
        have hnl : a + n < s.length := by omega
        have hlt : ((a : Int) + (n : Int)) < (s.length : Int) := by omega
        have hge : (s.drop a)[n] = s[a + n] := by simp
        have hcast : ((a : Int) + (n : Int)) = ((a + n : Nat) : Int) := by omega
        have hidx : PO.eval .idxS [.str s, .int .i64 ((a : Int) + (n : Int))] = some [.int .u8 (s[a + n]).toNat] := by rw [hcast]; exact idx_S hnl
        by_cases hc : wordC (s.drop a)[n] = true
        · rw [if_pos hc] at hw2
          have hnext := hM () (by omega)
          have hinc : IntKind.i64.wrap ((a : Int) + (n : Int) + 1) = (a : Int) + ((n + 1 : Nat) : Int) := by rw [wr (by omega) (by omega)]; omega
          have hwr := wordR_run s[a + n]
          rw [hge, wordC_iff] at hc
          cases hwc : wordR s[a + n] with
          | true =>
           rw [hwc] at hwr
           simp (disch := omega) only [ir22p4, ir22p3, stepQ, stepL, eq_self, aBin, reduceIte, Int.reduceEq, Int.reduceLT, Int.reduceLE, Int.reduceGT, Int.reduceGE, hlt, hidx, hwr, hinc, hnext]
          | false =>
           rw [hwc] at hwr hc
           simp only [Bool.false_or, Bool.and_eq_true, decide_eq_true_eq] at hc
           have c1 : ((s[a + n]).toNat : Int) ≥ 65 := hc.1
           have c2 : ((s[a + n]).toNat : Int) ≤ 90 := hc.2
           simp (disch := omega) only [ir22p4, ir22p3, stepQ, stepL, eq_self, aBin, reduceIte, Int.reduceEq, Int.reduceLT, Int.reduceLE, Int.reduceGT, Int.reduceGE, hlt, hidx, hwr, c1, c2, hinc, hnext, decide_true]
        · rw [if_neg hc] at hw2; omega)
       (by
        rintro _ M hw2
        have hmk : PO.eval (.mk 1 7) [.str [126], .str [38], .str [124], .str [45, 62], .str [60, 45, 62], .str [40], .str [41]] = some [strsD syms2] := rfl
        have hlen : PO.eval .lenL [strsD syms2] = some [.int .i64 7] := rfl
        have word : den (run tb) ir22p3 [.str s, .int .i64 p, .int .i64 bad, .int .i64 a, .bool false, .int .i64 s.length, .bool false, .int .i64 ((a : Int) + (w : Int)), .bool false] [L, M] = some [.str (tokR (s.drop a)), .int .i64 a, .str s, .int .i64 p, .int .i64 bad] := by
         have hsub := sub_mid (s := s) (a := a) (b := w) (by omega)
         by_cases hw0 : 0 < w
         · have hw1 : (a : Int) + (w : Int) > (a : Int) := by omega
           have hv := validName57_run ((s.drop a).take w) (by simp; omega)
           have hvn : tokR (s.drop a) = if (s.drop a).take w = [48] ∨ (s.drop a).take w = [49] then (s.drop a).take w else if validName ((s.drop a).take w) = true then (s.drop a).take w else [63] := by
            unfold tokR tokK
            rw [if_neg hne, ← hw]
            by_cases h01 : (s.drop a).take w = [48] ∨ (s.drop a).take w = [49]
            · rw [if_pos h01, if_pos h01, if_neg (by rcases h01 with h | h <;> rw [h] <;> simp [nameK])]
            · rw [if_neg h01, if_neg h01]
              by_cases hvt : validName ((s.drop a).take w) = true
              · rw [if_pos hvt, if_pos hvt, if_pos rfl]
              · rw [if_neg hvt, if_neg hvt, if_pos hw0, if_neg (by simp [nameK])]
           rw [hvn]
           generalize (s.drop a).take w = t at hsub hv
           by_cases h48 : t = [48]
           · subst h48
             have e1 : (([48] : List UInt8) == [48]) = true := rfl
             simp (disch := omega) only [ir22p3, ir22p0, stepQ, stepL, eq_self, aBin, reduceIte, Int.reduceEq, Int.reduceLT, Int.reduceLE, Int.reduceGT, Int.reduceGE, hw1, hsub, e1, true_or, if_true]
           have e48 : (t == [48]) = false := by simpa using h48
           by_cases h49 : t = [49]
           · subst h49
             have e1 : (([49] : List UInt8) == [48]) = false := rfl
             have e2 : (([49] : List UInt8) == [49]) = true := rfl
             simp (disch := omega) only [ir22p3, ir22p0, stepQ, stepL, eq_self, aBin, reduceIte, Int.reduceEq, Int.reduceLT, Int.reduceLE, Int.reduceGT, Int.reduceGE, hw1, hsub, e1, e2, or_true, if_true]
           have e49 : (t == [49]) = false := by simpa using h49
           rw [if_neg (fun h => h.elim h48 h49)]
           by_cases hvt : validName t = true
           · rw [hvt] at hv
             rw [if_pos hvt]
             simp (disch := omega) only [ir22p3, ir22p0, stepQ, stepL, eq_self, aBin, reduceIte, Int.reduceEq, Int.reduceLT, Int.reduceLE, Int.reduceGT, Int.reduceGE, hw1, hsub, e48, e49, hv]
           · have hvt' : validName t = false := by simpa using hvt
             rw [hvt'] at hv
             rw [if_neg hvt]
             simp (disch := omega) only [ir22p3, ir22p0, stepQ, stepL, eq_self, aBin, reduceIte, Int.reduceEq, Int.reduceLT, Int.reduceLE, Int.reduceGT, Int.reduceGE, hw1, hsub, e48, e49, hv]
         · have hw1 : ¬ ((a : Int) + (w : Int) > (a : Int)) := by omega
           have hw00 : wlen (s.drop a) = 0 := by omega
           rw [tokR_sym hne hw00]
           simp (disch := omega) only [ir22p3, stepQ, stepL, eq_self, aBin, reduceIte, Int.reduceEq, Int.reduceLT, Int.reduceLE, Int.reduceGT, Int.reduceGE, hw1, hmk, hlen, keyC, hw00]
        by_cases hnr : w < (s.drop a).length
        · rw [wlen_drop _ _ hnr] at hw2
          have hge : (s.drop a)[w] = s[a + w]'(by omega) := by simp
          have hnl : a + w < s.length := by omega
          have hc : wordC (s[a + w]'hnl) = false := by
           cases hc : wordC (s[a + w]'hnl) with
           | false => rfl
           | true => rw [hge, if_pos hc] at hw2; omega
          have hlt : ((a : Int) + (w : Int)) < (s.length : Int) := by omega
          have hcast : ((a : Int) + (w : Int)) = ((a + w : Nat) : Int) := by omega
          have hidx : PO.eval .idxS [.str s, .int .i64 ((a : Int) + (w : Int))] = some [.int .u8 (s[a + w]'hnl).toNat] := by rw [hcast]; exact idx_S hnl
          have hwr := wordR_run (s[a + w]'hnl)
          rw [wordC_iff, Bool.or_eq_false_iff] at hc
          rw [hc.1] at hwr
          have hc2 := hc.2
          by_cases c1 : ((s[a + w]'hnl).toNat : Int) ≥ 65
          · have c2 : ¬ ((s[a + w]'hnl).toNat : Int) ≤ 90 := by
             intro c2
             have c1' : (65 : Int) ≤ ((s[a + w]'hnl).toNat : Int) := c1
             simp [c1', c2] at hc2
            simp (disch := omega) only [ir22p4, stepQ, stepL, eq_self, aBin, reduceIte, Int.reduceEq, Int.reduceLT, Int.reduceLE, Int.reduceGT, Int.reduceGE, hlt, hidx, hwr, c1, c2, decide_false, word]
          · simp (disch := omega) only [ir22p4, stepQ, stepL, eq_self, aBin, reduceIte, Int.reduceEq, Int.reduceLT, Int.reduceLE, Int.reduceGT, Int.reduceGE, hlt, hidx, hwr, c1, word]
        · have hlt : ¬ ((a : Int) + (w : Int)) < (s.length : Int) := by omega
          simp (disch := omega) only [ir22p4, stepQ, stepL, eq_self, aBin, reduceIte, Int.reduceEq, Int.reduceLT, Int.reduceLE, Int.reduceGT, Int.reduceGE, hlt, word])
      have hk := keyB 0 () (by omega) (by simp [hw])
      have e0 : (a : Int) + ((0 : Nat) : Int) = (a : Int) := by omega
      rw [e0] at hk
      simp (disch := omega) only [ir22p5, stepQ, stepL, eq_self, aBin, reduceIte, Int.reduceEq, Int.reduceLT, Int.reduceLE, Int.reduceGT, Int.reduceGE, hz', hk]
   by_cases ha : a < s.length
   · unfold skp at h2
     rw [spaces_drop s a ha] at h2
     by_cases hc : (s[a].toNat : Int) = 32
     · rw [if_pos hc] at h2
       have hnext := hL (a + 1) ⟨by omega, by unfold skp; omega⟩ (by omega)
       simp (disch := omega) only [ir22p6, ir22p5, stepQ, stepL, eq_self, aBin, reduceIte, Int.reduceEq, Int.reduceLT, Int.reduceLE, Int.reduceGT, Int.reduceGE, ha, idx_S, hc, wr, natS, hnext]
     · rw [if_neg hc] at h2
       have hr := rest (by omega)
       simp (disch := omega) only [ir22p6, stepQ, stepL, eq_self, aBin, reduceIte, Int.reduceEq, Int.reduceLT, Int.reduceLE, Int.reduceGT, Int.reduceGE, ha, idx_S, hc, hr]
   · have hal : a = s.length := by omega
     have h3 : a = q := by
      unfold skp at h2
      rw [hal, List.drop_length] at h2
      simp [spaces] at h2; omega
     have hr := rest h3
     simp (disch := omega) only [ir22p6, stepQ, stepL, eq_self, aBin, reduceIte, Int.reduceEq, Int.reduceLT, Int.reduceLE, Int.reduceGT, Int.reduceGE, ha, hr])
 have hk := key p ⟨hp, hq⟩
 simp only [ir22, stepQ, stepL, eq_self, aBin, reduceIte, Int.reduceEq, Int.reduceLT, Int.reduceLE, Int.reduceGT, Int.reduceGE, hk]
end Go.Proofs.YtccjhfmemghccaaDoor

namespace Go.Proofs.YtccjhfmemghccaaDoor
open Go Am
set_option maxRecDepth 100000
abbrev stR (s : List UInt8) (p : Nat) (bad : Int) : List D := [.str s, .int .i64 p, .int .i64 bad]
theorem tokR_tk (s : List UInt8) (p : Nat) : tokR (s.drop (skp s p)) = if (tk s p).1 = nameK then (tk s p).2 else (tk s p).1 := rfl
theorem tokR_of {s : List UInt8} {p : Nat} {K : List UInt8} (h : (tk s p).1 = K) (hn : K ≠ nameK) : tokR (s.drop (skp s p)) = K := by rw [tokR_tk, if_neg (by rw [h]; exact hn), h]
theorem tokR_ne {s : List UInt8} {p : Nat} {K : List UInt8} (h : (tk s p).1 ≠ K) (hv : validName K = false) : tokR (s.drop (skp s p)) ≠ K := by
 rw [tokR_tk]
 split
 · rename_i hn
   intro e
   have := tk_name hn
   rw [e, hv] at this
   cases this
 · exact h
theorem rtake_yes (s : List UInt8) (hs : s.length < 1000000) (p : Nat) (hp : p ≤ s.length) (bad : Int) (K : List UInt8) (hb : bad < 0) (hk : (tk s p).1 = K) (hn : K ≠ nameK) (h63 : K ≠ [63]) :
 run tb 33 (.str K :: stR s p bad) = some (.bool true :: stR s (nxt s p) bad) := by
 refine run_ir (x := ir33) rfl ?_
 have h := token_run s hs p hp bad
 rw [tokR_of hk hn] at h
 have h1 : ¬ bad ≥ 0 := by omega
 have h2 := nxt_le hp
 have hb : (K == K) = true := by simp
 have ht := tk_text hk hn h63
 have hadd : IntKind.i64.wrap ((skp s p : Int) + (K.length : Int)) = ((nxt s p : Nat) : Int) := by
  unfold nxt at h2 ⊢
  rw [ht] at h2 ⊢
  rw [wr (n := (skp s p : Int) + (K.length : Int)) (by omega) (by omega)]; omega
 simp only [ir33, ir33p0, stR, stepQ, stepL, eq_self, aBin, reduceIte, Int.reduceEq, Int.reduceLT, Int.reduceLE, Int.reduceGT, Int.reduceGE, h, h1, hb, hadd, Bool.not_true, decide_false]
theorem rtake_no (s : List UInt8) (hs : s.length < 1000000) (p : Nat) (hp : p ≤ s.length) (bad : Int) (K : List UInt8) (hv : validName K = false) (hn : 0 ≤ bad ∨ (tk s p).1 ≠ K) :
 run tb 33 (.str K :: stR s p bad) = some (.bool false :: stR s p bad) := by
 refine run_ir (x := ir33) rfl ?_
 have h := token_run s hs p hp bad
 by_cases h1 : bad ≥ 0
 · cases hb : (tokR (s.drop (skp s p)) == K) with
   | true => simp only [ir33, ir33p0, stR, stepQ, stepL, eq_self, aBin, reduceIte, Int.reduceEq, Int.reduceLT, Int.reduceLE, Int.reduceGT, Int.reduceGE, h, h1, hb, Bool.not_true, decide_true]
   | false => simp only [ir33, ir33p0, stR, stepQ, stepL, eq_self, aBin, reduceIte, Int.reduceEq, Int.reduceLT, Int.reduceLE, Int.reduceGT, Int.reduceGE, h, h1, hb, Bool.not_false]
 · have hb : (tokR (s.drop (skp s p)) == K) = false := by
    have : (tk s p).1 ≠ K := hn.elim (fun h => absurd h h1) id
    simpa using tokR_ne this hv
   simp only [ir33, ir33p0, stR, stepQ, stepL, eq_self, aBin, reduceIte, Int.reduceEq, Int.reduceLT, Int.reduceLE, Int.reduceGT, Int.reduceGE, h, h1, hb, Bool.not_false]
theorem rfail_lt (s : List UInt8) (hs : s.length < 1000000) (p : Nat) (hp : p ≤ s.length) (bad : Int) (hb : bad < 0) :
 run tb 23 (stR s p bad) = some (rowF noF ++ stR s p (skp s p)) := by
 refine run_ir (x := ir23) rfl ?_
 have h := token_run s hs p hp bad
 simp only [ir23, ir23p0, stR, stepQ, stepL, eq_self, aBin, reduceIte, Int.reduceEq, Int.reduceLT, Int.reduceLE, Int.reduceGT, Int.reduceGE, h, hb, noF, rowF, F.op_mk, F.name_mk, F.args_mk, F.encs]
theorem rfail_ge (s : List UInt8) (p : Nat) (bad : Int) (hb : ¬ bad < 0) :
 run tb 23 (stR s p bad) = some (rowF noF ++ stR s p bad) := by
 refine run_ir (x := ir23) rfl ?_
 simp only [ir23, ir23p0, stR, stepQ, stepL, eq_self, aBin, reduceIte, Int.reduceEq, Int.reduceLT, Int.reduceLE, Int.reduceGT, Int.reduceGE, hb, noF, rowF, F.op_mk, F.name_mk, F.args_mk, F.encs]
theorem rstopA (s : List UInt8) (hs : s.length < 1000000) (q : Nat) (hq : q ≤ s.length) (bad : Int) (acc : List F) (hl : 2 ≤ acc.length) (hn : 0 ≤ bad ∨ (tk s q).1 ≠ [38]) (x0 x1 x2 x3 x4 x5 x6 x7 x8 x9 : D) :
 loopQ (run tb) ir42p0 [x0, x1, x2, x3, x4, x5, x6, x7, x8, x9] [] (stR s q bad ++ [.sl (F.encs acc)]) = some (rowF (F.mk 5 [] acc) ++ stR s q bad) := by
 refine fixQ ?_
 have h := rtake_no s hs q hq bad [38] (by decide) hn
 have h1 : ¬ ((acc.length : Int) = 1) := by omega
 simp only [stR] at h
 simp only [ir42p0, stR, rowF, stepQ, stepL, eq_self, aBin, reduceIte, Int.reduceEq, Int.reduceLT, Int.reduceLE, Int.reduceGT, Int.reduceGE, h, ev_lenL, h1, F.op_mk, F.name_mk, F.args_mk]
theorem roneA (s : List UInt8) (hs : s.length < 1000000) (q : Nat) (hq : q ≤ s.length) (bad : Int) (f : F) (hn : 0 ≤ bad ∨ (tk s q).1 ≠ [38]) (x0 x1 x2 x3 x4 x5 x6 x7 x8 x9 : D) :
 loopQ (run tb) ir42p0 [x0, x1, x2, x3, x4, x5, x6, x7, x8, x9] [] (stR s q bad ++ [.sl (F.encs [f])]) = some (rowF f ++ stR s q bad) := by
 refine fixQ ?_
 have h := rtake_no s hs q hq bad [38] (by decide) hn
 have h1 : (([f].length : Int) = 1) := rfl
 have h2 : PO.eval .chk [.sl (F.encs [f]), .int .i64 0] = some [] := rfl
 have h3 : PO.eval (.get 0 3) [.sl (F.encs [f]), .int .i64 0] = some [.int .i64 f.op, .str f.name, .sl (F.encs f.args)] := by
  rw [show F.encs [f] = [F.enc f] from rfl, F.enc_eq]; rfl
 simp only [stR] at h
 simp only [ir42p0, stR, rowF, stepQ, stepL, eq_self, aBin, reduceIte, Int.reduceEq, Int.reduceLT, Int.reduceLE, Int.reduceGT, Int.reduceGE, h, ev_lenL, h1, h2, h3]
theorem rstepA (s : List UInt8) (hs : s.length < 1000000) (q : Nat) (hq : q ≤ s.length) (bad : Int) (hb : bad < 0) (acc : List F) (hk : (tk s q).1 = [38]) (hacc : acc.length < 1000000) (f : F) (q2 : Nat) (bad2 : Int) (o : List D) (x0 x1 x2 x3 x4 x5 x6 x7 x8 x9 : D)
 (h1 : run tb 44 (stR s (nxt s q) bad) = some (rowF f ++ stR s q2 bad2))
 (h2 : loopQ (run tb) ir42p0 [x0, x1, x2, x3, x4, x5, x6, x7, x8, x9] [] (stR s q2 bad2 ++ [.sl (F.encs (acc ++ [f]))]) = some o) :
 loopQ (run tb) ir42p0 [x0, x1, x2, x3, x4, x5, x6, x7, x8, x9] [] (stR s q bad ++ [.sl (F.encs acc)]) = some o := by
 refine fixQ ?_
 have h := rtake_yes s hs q hq bad [38] hb hk (by decide) (by decide)
 have hmk : PO.eval (.mk 3 1) [.int .i64 f.op, .str f.name, .sl (F.encs f.args)] = some [.sl (F.encs [f])] := by
  rw [show F.encs [f] = [F.enc f] from rfl, F.enc_eq]; rfl
 have happ : PO.eval (.app 3 48) [.sl (F.encs acc), .sl (F.encs [f])] = some [.sl (F.encs (acc ++ [f]))] := by
  have e1 : F.encs (acc ++ [f]) = F.encs acc ++ F.encs [f] := by simp only [F.encs_map, List.map_append]
  rw [e1]
  refine ev_app ?_ ?_ ?_
  · rw [F.encs_len, F.encs_len]; simp; omega
  · rw [F.encs_len, F.encs_len]; simp; omega
  · rw [show F.encs [f] = [F.enc f] from rfl, F.enc_eq]; rfl
 simp only [stR, rowF, List.cons_append, List.nil_append] at h h1 h2
 generalize loopQ (run tb) ir42p0 [x0, x1, x2, x3, x4, x5, x6, x7, x8, x9] [] = M at h2 ⊢
 simp only [ir42p0, stR, stepQ, stepL, eq_self, aBin, reduceIte, Int.reduceEq, Int.reduceLT, Int.reduceLE, Int.reduceGT, Int.reduceGE, h, h1, hmk, happ, h2]
theorem rmanyA (s : List UInt8) (hs : s.length < 1000000) (p : Nat) (bad : Int) (f : F) (q : Nat) (bad2 : Int)
 (h1 : run tb 44 (stR s p bad) = some (rowF f ++ stR s q bad2)) (g : F) (u : Nat) (bad3 : Int)
 (h3 : loopQ (run tb) ir42p0 (stR s p bad ++ (rowF f ++ stR s q bad2) ++ [.sl (F.encs [f])]) [] (stR s q bad2 ++ [.sl (F.encs [f])]) = some (rowF g ++ stR s u bad3)) : run tb 42 (stR s p bad) = some (rowF g ++ stR s u bad3) := by
 refine run_ir (x := ir42) rfl ?_
 have hmk : PO.eval (.mk 3 1) [.int .i64 f.op, .str f.name, .sl (F.encs f.args)] = some [.sl (F.encs [f])] := by
  rw [show F.encs [f] = [F.enc f] from rfl, F.enc_eq]; rfl
 simp only [stR, rowF, List.cons_append, List.nil_append] at h1 h3
 simp only [ir42, stR, rowF, stepQ, stepL, eq_self, aBin, reduceIte, Int.reduceEq, Int.reduceLT, Int.reduceLE, Int.reduceGT, Int.reduceGE, h1, hmk, h3]
theorem rstopO (s : List UInt8) (hs : s.length < 1000000) (q : Nat) (hq : q ≤ s.length) (bad : Int) (acc : List F) (hl : 2 ≤ acc.length) (hn : 0 ≤ bad ∨ (tk s q).1 ≠ [124]) (x0 x1 x2 x3 x4 x5 x6 x7 x8 x9 : D) :
 loopQ (run tb) ir40p0 [x0, x1, x2, x3, x4, x5, x6, x7, x8, x9] [] (stR s q bad ++ [.sl (F.encs acc)]) = some (rowF (F.mk 6 [] acc) ++ stR s q bad) := by
 refine fixQ ?_
 have h := rtake_no s hs q hq bad [124] (by decide) hn
 have h1 : ¬ ((acc.length : Int) = 1) := by omega
 simp only [stR] at h
 simp only [ir40p0, stR, rowF, stepQ, stepL, eq_self, aBin, reduceIte, Int.reduceEq, Int.reduceLT, Int.reduceLE, Int.reduceGT, Int.reduceGE, h, ev_lenL, h1, F.op_mk, F.name_mk, F.args_mk]
theorem roneO (s : List UInt8) (hs : s.length < 1000000) (q : Nat) (hq : q ≤ s.length) (bad : Int) (f : F) (hn : 0 ≤ bad ∨ (tk s q).1 ≠ [124]) (x0 x1 x2 x3 x4 x5 x6 x7 x8 x9 : D) :
 loopQ (run tb) ir40p0 [x0, x1, x2, x3, x4, x5, x6, x7, x8, x9] [] (stR s q bad ++ [.sl (F.encs [f])]) = some (rowF f ++ stR s q bad) := by
 refine fixQ ?_
 have h := rtake_no s hs q hq bad [124] (by decide) hn
 have h1 : (([f].length : Int) = 1) := rfl
 have h2 : PO.eval .chk [.sl (F.encs [f]), .int .i64 0] = some [] := rfl
 have h3 : PO.eval (.get 0 3) [.sl (F.encs [f]), .int .i64 0] = some [.int .i64 f.op, .str f.name, .sl (F.encs f.args)] := by
  rw [show F.encs [f] = [F.enc f] from rfl, F.enc_eq]; rfl
 simp only [stR] at h
 simp only [ir40p0, stR, rowF, stepQ, stepL, eq_self, aBin, reduceIte, Int.reduceEq, Int.reduceLT, Int.reduceLE, Int.reduceGT, Int.reduceGE, h, ev_lenL, h1, h2, h3]
theorem rstepO (s : List UInt8) (hs : s.length < 1000000) (q : Nat) (hq : q ≤ s.length) (bad : Int) (hb : bad < 0) (acc : List F) (hk : (tk s q).1 = [124]) (hacc : acc.length < 1000000) (f : F) (q2 : Nat) (bad2 : Int) (o : List D) (x0 x1 x2 x3 x4 x5 x6 x7 x8 x9 : D)
 (h1 : run tb 42 (stR s (nxt s q) bad) = some (rowF f ++ stR s q2 bad2))
 (h2 : loopQ (run tb) ir40p0 [x0, x1, x2, x3, x4, x5, x6, x7, x8, x9] [] (stR s q2 bad2 ++ [.sl (F.encs (acc ++ [f]))]) = some o) :
 loopQ (run tb) ir40p0 [x0, x1, x2, x3, x4, x5, x6, x7, x8, x9] [] (stR s q bad ++ [.sl (F.encs acc)]) = some o := by
 refine fixQ ?_
 have h := rtake_yes s hs q hq bad [124] hb hk (by decide) (by decide)
 have hmk : PO.eval (.mk 3 1) [.int .i64 f.op, .str f.name, .sl (F.encs f.args)] = some [.sl (F.encs [f])] := by
  rw [show F.encs [f] = [F.enc f] from rfl, F.enc_eq]; rfl
 have happ : PO.eval (.app 3 48) [.sl (F.encs acc), .sl (F.encs [f])] = some [.sl (F.encs (acc ++ [f]))] := by
  have e1 : F.encs (acc ++ [f]) = F.encs acc ++ F.encs [f] := by simp only [F.encs_map, List.map_append]
  rw [e1]
  refine ev_app ?_ ?_ ?_
  · rw [F.encs_len, F.encs_len]; simp; omega
  · rw [F.encs_len, F.encs_len]; simp; omega
  · rw [show F.encs [f] = [F.enc f] from rfl, F.enc_eq]; rfl
 simp only [stR, rowF, List.cons_append, List.nil_append] at h h1 h2
 generalize loopQ (run tb) ir40p0 [x0, x1, x2, x3, x4, x5, x6, x7, x8, x9] [] = M at h2 ⊢
 simp only [ir40p0, stR, stepQ, stepL, eq_self, aBin, reduceIte, Int.reduceEq, Int.reduceLT, Int.reduceLE, Int.reduceGT, Int.reduceGE, h, h1, hmk, happ, h2]
theorem rmanyO (s : List UInt8) (hs : s.length < 1000000) (p : Nat) (bad : Int) (f : F) (q : Nat) (bad2 : Int)
 (h1 : run tb 42 (stR s p bad) = some (rowF f ++ stR s q bad2)) (g : F) (u : Nat) (bad3 : Int)
 (h3 : loopQ (run tb) ir40p0 (stR s p bad ++ (rowF f ++ stR s q bad2) ++ [.sl (F.encs [f])]) [] (stR s q bad2 ++ [.sl (F.encs [f])]) = some (rowF g ++ stR s u bad3)) : run tb 40 (stR s p bad) = some (rowF g ++ stR s u bad3) := by
 refine run_ir (x := ir40) rfl ?_
 have hmk : PO.eval (.mk 3 1) [.int .i64 f.op, .str f.name, .sl (F.encs f.args)] = some [.sl (F.encs [f])] := by
  rw [show F.encs [f] = [F.enc f] from rfl, F.enc_eq]; rfl
 simp only [stR, rowF, List.cons_append, List.nil_append] at h1 h3
 simp only [ir40, stR, rowF, stepQ, stepL, eq_self, aBin, reduceIte, Int.reduceEq, Int.reduceLT, Int.reduceLE, Int.reduceGT, Int.reduceGE, h1, hmk, h3]
theorem mkTwo (f g : F) : PO.eval (.mk 3 2) [.int .i64 f.op, .str f.name, .sl (F.encs f.args), .int .i64 g.op, .str g.name, .sl (F.encs g.args)] = some [.sl (F.encs [f, g])] := by
 rw [show F.encs [f, g] = [F.enc f, F.enc g] from rfl, F.enc_eq, F.enc_eq]; rfl
theorem mkOne (f : F) : PO.eval (.mk 3 1) [.int .i64 f.op, .str f.name, .sl (F.encs f.args)] = some [.sl (F.encs [f])] := by
 rw [show F.encs [f] = [F.enc f] from rfl, F.enc_eq]; rfl
section
variable (s : List UInt8) (hs : s.length < 1000000) (p : Nat) (bad bad2 bad3 : Int) (f g : F) (q u : Nat) (hq : q ≤ s.length)
include hs hq
theorem rimp_one (h1 : run tb 40 (stR s p bad) = some (rowF f ++ stR s q bad2)) (hn : 0 ≤ bad2 ∨ (tk s q).1 ≠ arrK) :
 run tb 32 (stR s p bad) = some (rowF f ++ stR s q bad2) := by
 refine run_ir (x := ir32) rfl ?_
 have h2 := rtake_no s hs q hq bad2 _ (by decide) hn
 simp only [stR, rowF, arrK, List.cons_append, List.nil_append] at h1 h2
 simp only [ir32, stR, rowF, stepQ, stepL, eq_self, aBin, reduceIte, Int.reduceEq, Int.reduceLT, Int.reduceLE, Int.reduceGT, Int.reduceGE, h1, h2]
theorem rimp_two (h1 : run tb 40 (stR s p bad) = some (rowF f ++ stR s q bad2)) (hb2 : bad2 < 0) (hk : (tk s q).1 = arrK)
 (h3 : run tb 32 (stR s (nxt s q) bad2) = some (rowF g ++ stR s u bad3)) :
 run tb 32 (stR s p bad) = some (rowF (F.mk 7 [] [f, g]) ++ stR s u bad3) := by
 refine run_ir (x := ir32) rfl ?_
 have h2 := rtake_yes s hs q hq bad2 _ hb2 hk (by decide) (by decide)
 have hmk := mkTwo f g
 simp only [stR, rowF, arrK, List.cons_append, List.nil_append] at h1 h2 h3
 simp only [ir32, stR, rowF, F.op_mk, F.name_mk, F.args_mk, stepQ, stepL, eq_self, aBin, reduceIte, Int.reduceEq, Int.reduceLT, Int.reduceLE, Int.reduceGT, Int.reduceGE, h1, h2, h3, hmk]
theorem riff_one (h1 : run tb 32 (stR s p bad) = some (rowF f ++ stR s q bad2)) (hn : 0 ≤ bad2 ∨ (tk s q).1 ≠ iffK) :
 run tb 21 (stR s p bad) = some (rowF f ++ stR s q bad2) := by
 refine run_ir (x := ir21) rfl ?_
 have h2 := rtake_no s hs q hq bad2 _ (by decide) hn
 simp only [stR, rowF, iffK, List.cons_append, List.nil_append] at h1 h2
 simp only [ir21, stR, rowF, stepQ, stepL, eq_self, aBin, reduceIte, Int.reduceEq, Int.reduceLT, Int.reduceLE, Int.reduceGT, Int.reduceGE, h1, h2]
theorem riff_two (h1 : run tb 32 (stR s p bad) = some (rowF f ++ stR s q bad2)) (hb2 : bad2 < 0) (hk : (tk s q).1 = iffK)
 (h3 : run tb 32 (stR s (nxt s q) bad2) = some (rowF g ++ stR s u bad3)) :
 run tb 21 (stR s p bad) = some (rowF (F.mk 8 [] [f, g]) ++ stR s u bad3) := by
 refine run_ir (x := ir21) rfl ?_
 have h2 := rtake_yes s hs q hq bad2 _ hb2 hk (by decide) (by decide)
 have hmk := mkTwo f g
 simp only [stR, rowF, iffK, List.cons_append, List.nil_append] at h1 h2 h3
 simp only [ir21, stR, rowF, F.op_mk, F.name_mk, F.args_mk, stepQ, stepL, eq_self, aBin, reduceIte, Int.reduceEq, Int.reduceLT, Int.reduceLE, Int.reduceGT, Int.reduceGE, h1, h2, h3, hmk]
end
section
variable (s : List UInt8) (hs : s.length < 1000000) (p : Nat) (hp : p ≤ s.length) (bad : Int) (hb : bad < 0)
include hs hp hb
theorem ru_not (h : (tk s p).1 = [126]) (f : F) (q : Nat) (bad2 : Int) (hr : run tb 44 (stR s (nxt s p) bad) = some (rowF f ++ stR s q bad2)) :
 run tb 44 (stR s p bad) = some (rowF (F.mk 4 [] [f]) ++ stR s q bad2) := by
 refine run_ir (x := ir44) rfl ?_
 have h2 := rtake_yes s hs p hp bad _ hb h (by decide) (by decide)
 have hmk := mkOne f
 simp only [stR, rowF, List.cons_append, List.nil_append] at h2 hr
 simp only [ir44, stR, rowF, F.op_mk, F.name_mk, F.args_mk, stepQ, stepL, eq_self, aBin, reduceIte, Int.reduceEq, Int.reduceLT, Int.reduceLE, Int.reduceGT, Int.reduceGE, h2, hr, hmk]
theorem ru_par (h : (tk s p).1 = [40]) (f : F) (q : Nat) (hq : q ≤ s.length) (hr : run tb 21 (stR s (nxt s p) bad) = some (rowF f ++ stR s q bad)) (hk : (tk s q).1 = [41]) :
 run tb 44 (stR s p bad) = some (rowF f ++ stR s (nxt s q) bad) := by
 refine run_ir (x := ir44) rfl ?_
 have h1 := rtake_no s hs p hp bad [126] (by decide) (.inr (by rw [h]; decide))
 have h2 := rtake_yes s hs p hp bad _ hb h (by decide) (by decide)
 have h3 := rtake_yes s hs q hq bad _ hb hk (by decide) (by decide)
 simp only [stR, rowF, List.cons_append, List.nil_append] at h1 h2 h3 hr
 simp only [ir44, ir44p0, stR, rowF, stepQ, stepL, eq_self, aBin, reduceIte, Int.reduceEq, Int.reduceLT, Int.reduceLE, Int.reduceGT, Int.reduceGE, h1, h2, h3, hr, hb, Bool.not_true]
theorem ru_parN (h : (tk s p).1 = [40]) (f : F) (q : Nat) (hq : q ≤ s.length) (hr : run tb 21 (stR s (nxt s p) bad) = some (rowF f ++ stR s q bad)) (hk : (tk s q).1 ≠ [41]) :
 run tb 44 (stR s p bad) = some (rowF noF ++ stR s q (skp s q)) := by
 refine run_ir (x := ir44) rfl ?_
 have h1 := rtake_no s hs p hp bad [126] (by decide) (.inr (by rw [h]; decide))
 have h2 := rtake_yes s hs p hp bad _ hb h (by decide) (by decide)
 have h3 := rtake_no s hs q hq bad [41] (by decide) (.inr hk)
 have h4 := rfail_lt s hs q hq bad hb
 simp only [stR, noF, rowF, F.op_mk, F.name_mk, F.args_mk, F.encs, List.cons_append, List.nil_append] at h1 h2 h3 h4 hr
 simp only [ir44, ir44p0, stR, noF, rowF, F.op_mk, F.name_mk, F.args_mk, F.encs, stepQ, stepL, eq_self, aBin, reduceIte, Int.reduceEq, Int.reduceLT, Int.reduceLE, Int.reduceGT, Int.reduceGE, h1, h2, h3, h4, hr, hb, Bool.not_false]
theorem ru_parE (h : (tk s p).1 = [40]) (f : F) (q : Nat) (e : Nat) (hr : run tb 21 (stR s (nxt s p) bad) = some (rowF f ++ stR s q e)) :
 run tb 44 (stR s p bad) = some (rowF f ++ stR s q e) := by
 refine run_ir (x := ir44) rfl ?_
 have h1 := rtake_no s hs p hp bad [126] (by decide) (.inr (by rw [h]; decide))
 have h2 := rtake_yes s hs p hp bad _ hb h (by decide) (by decide)
 have h3 : ¬ ((e : Int) < 0) := by omega
 simp only [stR, rowF, List.cons_append, List.nil_append] at h1 h2 hr
 simp only [ir44, ir44p0, stR, rowF, stepQ, stepL, eq_self, aBin, reduceIte, Int.reduceEq, Int.reduceLT, Int.reduceLE, Int.reduceGT, Int.reduceGE, h1, h2, h3, hr]
theorem ru_word (h1 : (tk s p).1 ≠ [126]) (h2 : (tk s p).1 ≠ [40]) (t : List UInt8) (c : UInt8) (l : List UInt8) (ht : tokR (s.drop (skp s p)) = t) (hc : t = c :: l) (hw : wordR c = true) (hn : nxt s p = skp s p + t.length) :
 run tb 44 (stR s p bad) = some (rowF (if t = [49] then F.mk 1 [] [] else if t = [48] then F.mk 2 [] [] else F.mk 3 t []) ++ stR s (nxt s p) bad) := by
 refine run_ir (x := ir44) rfl ?_
 have a1 := rtake_no s hs p hp bad [126] (by decide) (.inr h1)
 have a2 := rtake_no s hs p hp bad [40] (by decide) (.inr h2)
 have a3 := token_run s hs p hp bad
 rw [ht] at a3
 have a4 : ¬ bad ≥ 0 := by omega
 have a5 := nxt_le hp
 have a6 : (t == []) = false := by rw [hc]; rfl
 have a7 : PO.eval .idxS [.str t, .int .i64 0] = some [.int .u8 c.toNat] := by rw [hc]; rfl
 have a8 := wordR_run c
 rw [hw] at a8
 have a9 : IntKind.i64.wrap ((skp s p : Int) + (t.length : Int)) = ((nxt s p : Nat) : Int) := by rw [wr (by omega) (by omega), hn]; omega
 simp only [stR] at a1 a2
 by_cases b1 : t = [49]
 · have b2 : (t == [49]) = true := by simpa using b1
   rw [if_pos b1]
   simp only [ir44, ir44p1, stR, rowF, F.op_mk, F.name_mk, F.args_mk, F.encs, stepQ, stepL, eq_self, aBin, reduceIte, Int.reduceEq, Int.reduceLT, Int.reduceLE, Int.reduceGT, Int.reduceGE, a1, a2, a3, a4, a6, a7, a8, a9, b2, Bool.not_true, decide_false]
 have b2 : (t == [49]) = false := by simpa using b1
 rw [if_neg b1]
 by_cases b3 : t = [48]
 · have b4 : (t == [48]) = true := by simpa using b3
   rw [if_pos b3]
   simp only [ir44, ir44p1, stR, rowF, F.op_mk, F.name_mk, F.args_mk, F.encs, stepQ, stepL, eq_self, aBin, reduceIte, Int.reduceEq, Int.reduceLT, Int.reduceLE, Int.reduceGT, Int.reduceGE, a1, a2, a3, a4, a6, a7, a8, a9, b2, b4, Bool.not_true, decide_false]
 have b4 : (t == [48]) = false := by simpa using b3
 rw [if_neg b3]
 simp only [ir44, ir44p1, stR, rowF, F.op_mk, F.name_mk, F.args_mk, F.encs, stepQ, stepL, eq_self, aBin, reduceIte, Int.reduceEq, Int.reduceLT, Int.reduceLE, Int.reduceGT, Int.reduceGE, a1, a2, a3, a4, a6, a7, a8, a9, b2, b4, Bool.not_true, decide_false]
theorem ru_none (h1 : (tk s p).1 ≠ [126]) (h2 : (tk s p).1 ≠ [40]) (t : List UInt8) (ht : tokR (s.drop (skp s p)) = t) (hw : t = [] ∨ ∃ c l, t = c :: l ∧ wordR c = false) :
 run tb 44 (stR s p bad) = some (rowF noF ++ stR s p (skp s p)) := by
 refine run_ir (x := ir44) rfl ?_
 have a1 := rtake_no s hs p hp bad [126] (by decide) (.inr h1)
 have a2 := rtake_no s hs p hp bad [40] (by decide) (.inr h2)
 have a3 := token_run s hs p hp bad
 rw [ht] at a3
 have a5 := rfail_lt s hs p hp bad hb
 simp only [stR, noF, rowF, F.op_mk, F.name_mk, F.args_mk, F.encs, List.cons_append, List.nil_append] at a1 a2 a5
 rcases hw with rfl | ⟨c, l, rfl, hw⟩
 · have a6 : (([] : List UInt8) == []) = true := rfl
   simp only [ir44, ir44p1, stR, noF, rowF, F.op_mk, F.name_mk, F.args_mk, F.encs, stepQ, stepL, eq_self, aBin, reduceIte, Int.reduceEq, Int.reduceLT, Int.reduceLE, Int.reduceGT, Int.reduceGE, a1, a2, a3, a5, a6]
 · have a6 : ((c :: l) == []) = false := rfl
   have a7 : PO.eval .idxS [.str (c :: l), .int .i64 0] = some [.int .u8 c.toNat] := rfl
   have a8 := wordR_run c
   rw [hw] at a8
   simp only [ir44, ir44p1, stR, noF, rowF, F.op_mk, F.name_mk, F.args_mk, F.encs, stepQ, stepL, eq_self, aBin, reduceIte, Int.reduceEq, Int.reduceLT, Int.reduceLE, Int.reduceGT, Int.reduceGE, a1, a2, a3, a5, a6, a7, a8, Bool.not_false]
end
def fnR : Nat → Nat
 | 0 => 44
 | 1 => 42
 | 2 => 40
 | 3 => 32
 | _ => 21
def bodyR : Nat → IR
 | 0 => ir42p0
 | _ => ir40p0
def OutR (s : List UInt8) (bad : Int) (r : PRes) (x : Option (List D)) : Prop := match r with
 | .ok f q _ => x = some (rowF f ++ stR s q bad)
 | .er e => ∃ f q', q' ≤ s.length ∧ x = some (rowF f ++ stR s q' e)
def RunR (s : List UInt8) (bad : Int) (j : Job) (r : PRes) : Prop := match j with
 | .lev L p => OutR s bad r (run tb (fnR L) (stR s p bad))
 | .loop L p acc _ => ∀ (q : Nat), q ≤ s.length → nxt s q = p → (tk s q).1 = conL L → 1 ≤ acc.length → acc.length ≤ p → ∀ x0 x1 x2 x3 x4 x5 x6 x7 x8 x9 : D, OutR s bad r (loopQ (run tb) (bodyR L) [x0, x1, x2, x3, x4, x5, x6, x7, x8, x9] [] (stR s q bad ++ [.sl (F.encs acc)]))
theorem rrun (s : List UInt8) (hs : s.length < 1000000) (bad : Int) (hb : bad < 0) {j : Job} {r : PRes} (h : Ps s j r) : j.pos ≤ s.length → RunR s bad j r := by
 have lt2 : ∀ {L}, L < 2 → L = 0 ∨ L = 1 := fun h => by omega
 induction h with
 | @name p h =>
  intro hp
  have hv := tk_name h
  have ht : tokR (s.drop (skp s p)) = (tk s p).2 := by rw [tokR_tk, if_pos h]
  obtain ⟨c, l, hc⟩ := List.exists_cons_of_ne_nil (validName_ne hv)
  have hw : wordR c = true := by
   rw [hc] at hv
   simp only [validName, nameFrom, nameOk, Bool.and_eq_true, Bool.or_eq_true, decide_eq_true_eq] at hv
   unfold wordR
   have := hv.2.1
   simp at this ⊢
   omega
  have n1 : (tk s p).2 ≠ [49] := by intro e; rw [e] at hv; exact absurd hv (by decide)
  have n2 : (tk s p).2 ≠ [48] := by intro e; rw [e] at hv; exact absurd hv (by decide)
  have := ru_word s hs p hp bad hb (by rw [h]; decide) (by rw [h]; decide) _ c l ht hc hw rfl
  rw [if_neg n1, if_neg n2] at this
  exact this
 | @zero p h =>
  intro hp
  have := ru_word s hs p hp bad hb (by rw [h]; decide) (by rw [h]; decide) [48] 48 [] (tokR_of h (by decide)) rfl (by decide) (by unfold nxt; rw [tk_text h (by decide) (by decide)])
  exact this
 | @one p h =>
  intro hp
  have := ru_word s hs p hp bad hb (by rw [h]; decide) (by rw [h]; decide) [49] 49 [] (tokR_of h (by decide)) rfl (by decide) (by unfold nxt; rw [tk_text h (by decide) (by decide)])
  exact this
 | @not p f q b h a ih =>
  intro hp
  exact ru_not s hs p hp bad hb h _ _ _ (ih (nxt_le hp))
 | @notE p e h a ih =>
  intro hp
  obtain ⟨f, q', h1, h3⟩ := ih (nxt_le hp)
  exact ⟨_, q', h1, ru_not s hs p hp bad hb h _ _ _ h3⟩
 | @par p f q b h a hk ih =>
  intro hp
  obtain ⟨g1, g2, _⟩ := ps_good a (nxt_le hp) trivial
  exact ru_par s hs p hp bad hb h _ _ g2 (ih (nxt_le hp)) hk
 | @parN p f q b h a hk ih =>
  intro hp
  obtain ⟨g1, g2, _⟩ := ps_good a (nxt_le hp) trivial
  exact ⟨_, _, g2, ru_parN s hs p hp bad hb h _ _ g2 (ih (nxt_le hp)) hk⟩
 | @parE p e h a ih =>
  intro hp
  obtain ⟨f, q', h1, h3⟩ := ih (nxt_le hp)
  exact ⟨_, _, h1, ru_parE s hs p hp bad hb h _ _ _ h3⟩
 | @none p h1 h2 h3 h4 h5 =>
  intro hp
  refine ⟨_, _, hp, ru_none s hs p hp bad hb h4 h5 _ rfl ?_⟩
  rw [tokR_tk, if_neg h1]
  rcases tokK_kind (s.drop (skp s p)) with ⟨a, _⟩ | ⟨a, _⟩ | a | ⟨a, b⟩
  · left; unfold tk; rw [a]
  · exact absurd a h1
  · right; refine ⟨63, [], ?_, by decide⟩; unfold tk; exact a
  · right
    have b' : (tk s p).1 ∈ [[48], [49], [60, 45, 62], [45, 62], [126], [38], [124], [40], [41]] := b
    generalize (tk s p).1 = K at b' h2 h3
    simp only [List.mem_cons, List.not_mem_nil, or_false] at b'
    rcases b' with rfl | rfl | rfl | rfl | rfl | rfl | rfl | rfl | rfl
    · exact absurd rfl h2
    · exact absurd rfl h3
    all_goals exact ⟨_, _, rfl, by decide⟩
 | @one1 L p f q b hL a h ih =>
  intro hp
  obtain ⟨g1, g2, _⟩ := ps_good a hp trivial
  rcases lt2 hL with rfl | rfl
  · exact rmanyA s hs p bad _ _ _ (ih hp) _ _ _ (roneA s hs _ g2 _ _ (.inr h) _ _ _ _ _ _ _ _ _ _)
  · exact rmanyO s hs p bad _ _ _ (ih hp) _ _ _ (roneO s hs _ g2 _ _ (.inr h) _ _ _ _ _ _ _ _ _ _)
 | @manyE L p e hL a ih =>
  intro hp
  obtain ⟨f, q', h1, h3⟩ := ih hp
  rcases lt2 hL with rfl | rfl
  · exact ⟨_, _, h1, rmanyA s hs p bad _ _ _ h3 _ _ _ (roneA s hs _ h1 _ _ (.inl (by omega)) _ _ _ _ _ _ _ _ _ _)⟩
  · exact ⟨_, _, h1, rmanyO s hs p bad _ _ _ h3 _ _ _ (roneO s hs _ h1 _ _ (.inl (by omega)) _ _ _ _ _ _ _ _ _ _)⟩
 | @many L p f q b r hL a h c iha ihc =>
  intro hp
  obtain ⟨g1, g2, _⟩ := ps_good a hp trivial
  have h5 := nxt_lt g2 h (conL_ne L).1 (conL_ne L).2
  have h3 := iha hp
  have h6 := ihc (nxt_le g2) q g2 rfl h (by simp) (by simp only [List.length_cons, List.length_nil]; omega)
  have hf : ∀ {g u' bad3}, loopQ (run tb) (bodyR L) (stR s p bad ++ (rowF f ++ stR s q bad) ++ [.sl (F.encs [f])]) [] (stR s q bad ++ [.sl (F.encs [f])]) = some (rowF g ++ stR s u' bad3) → run tb (fnR (L + 1)) (stR s p bad) = some (rowF g ++ stR s u' bad3) := by
   intro g u' bad3 h3'
   rcases lt2 hL with rfl | rfl
   · exact rmanyA s hs p bad _ _ _ h3 _ _ _ h3'
   · exact rmanyO s hs p bad _ _ _ h3 _ _ _ h3'
  have h7 := h6 (.str s) (.int .i64 p) (.int .i64 bad) (.int .i64 f.op) (.str f.name) (.sl (F.encs f.args)) (.str s) (.int .i64 q) (.int .i64 bad) (.sl (F.encs [f]))
  cases r with
  | ok g u b' => exact hf h7
  | er e =>
   obtain ⟨g, u', k1, k3⟩ := h7
   exact ⟨g, u', k1, hf k3⟩
 | @loopE L p acc b e hL a ih =>
  intro hp q hq hn hk hl hacc x0 x1 x2 x3 x4 x5 x6 x7 x8 x9
  subst hn
  have hp' : nxt s q ≤ s.length := hp
  obtain ⟨f, q', h1, h3⟩ := ih hp
  rcases lt2 hL with rfl | rfl
  · exact ⟨_, _, h1, rstepA s hs q hq bad hb acc hk (by omega) f q' e _ _ _ _ _ _ _ _ _ _ _ h3 (rstopA s hs q' h1 _ _ (by simp; omega) (.inl (by omega)) _ _ _ _ _ _ _ _ _ _)⟩
  · exact ⟨_, _, h1, rstepO s hs q hq bad hb acc hk (by omega) f q' e _ _ _ _ _ _ _ _ _ _ _ h3 (rstopO s hs q' h1 _ _ (by simp; omega) (.inl (by omega)) _ _ _ _ _ _ _ _ _ _)⟩
 | @loop1 L p acc b f q0 b' hL a h ih =>
  intro hp q hq hn hk hl hacc x0 x1 x2 x3 x4 x5 x6 x7 x8 x9
  subst hn
  have hp' : nxt s q ≤ s.length := hp
  obtain ⟨g1, g2, _⟩ := ps_good a hp trivial
  have h3 := ih hp
  rcases lt2 hL with rfl | rfl
  · exact rstepA s hs q hq bad hb acc hk (by omega) f q0 bad _ _ _ _ _ _ _ _ _ _ _ h3 (rstopA s hs q0 g2 _ _ (by simp; omega) (.inr h) _ _ _ _ _ _ _ _ _ _)
  · exact rstepO s hs q hq bad hb acc hk (by omega) f q0 bad _ _ _ _ _ _ _ _ _ _ _ h3 (rstopO s hs q0 g2 _ _ (by simp; omega) (.inr h) _ _ _ _ _ _ _ _ _ _)
 | @loop2 L p acc b f q0 b' r hL a h c iha ihc =>
  intro hp q hq hn hk hl hacc x0 x1 x2 x3 x4 x5 x6 x7 x8 x9
  subst hn
  have hp' : nxt s q ≤ s.length := hp
  obtain ⟨g1, g2, _⟩ := ps_good a hp trivial
  have h5 := nxt_lt g2 h (conL_ne L).1 (conL_ne L).2
  simp only [Job.pos] at g1
  have h3 := iha hp
  have h7 := ihc (nxt_le g2) q0 g2 rfl h (by simp) (by simp only [List.length_append, List.length_cons, List.length_nil]; omega) x0 x1 x2 x3 x4 x5 x6 x7 x8 x9
  have hf : ∀ {o}, loopQ (run tb) (bodyR L) [x0, x1, x2, x3, x4, x5, x6, x7, x8, x9] [] (stR s q0 bad ++ [.sl (F.encs (acc ++ [f]))]) = some o → loopQ (run tb) (bodyR L) [x0, x1, x2, x3, x4, x5, x6, x7, x8, x9] [] (stR s q bad ++ [.sl (F.encs acc)]) = some o := by
   intro o h3'
   rcases lt2 hL with rfl | rfl
   · exact rstepA s hs q hq bad hb acc hk (by omega) f q0 bad _ _ _ _ _ _ _ _ _ _ _ h3 h3'
   · exact rstepO s hs q hq bad hb acc hk (by omega) f q0 bad _ _ _ _ _ _ _ _ _ _ _ h3 h3'
  cases r with
  | ok g u b' => exact hf h7
  | er e =>
   obtain ⟨g, u', k1, k3⟩ := h7
   exact ⟨g, u', k1, hf k3⟩
 | @imp1 p f q b a h ih =>
  intro hp
  obtain ⟨g1, g2, _⟩ := ps_good a hp trivial
  exact rimp_one s hs p bad bad _ _ g2 (ih hp) (.inr h)
 | @impE p e a ih =>
  intro hp
  obtain ⟨f, q', h1, h3⟩ := ih hp
  exact ⟨_, _, h1, rimp_one s hs p bad _ _ _ h1 h3 (.inl (by omega))⟩
 | @imp2 p f q b g u b' a h c iha ihc =>
  intro hp
  obtain ⟨g1, g2, _⟩ := ps_good a hp trivial
  exact rimp_two s hs p bad bad _ _ _ _ _ g2 (iha hp) hb h (ihc (nxt_le g2))
 | @imp2E p f q b e a h c iha ihc =>
  intro hp
  obtain ⟨g1, g2, _⟩ := ps_good a hp trivial
  obtain ⟨g, u', k1, k3⟩ := ihc (nxt_le g2)
  exact ⟨_, u', k1, rimp_two s hs p bad bad _ _ _ _ _ g2 (iha hp) hb h k3⟩
 | @iff1 p f q b a h ih =>
  intro hp
  obtain ⟨g1, g2, _⟩ := ps_good a hp trivial
  exact riff_one s hs p bad bad _ _ g2 (ih hp) (.inr h)
 | @iffE p e a ih =>
  intro hp
  obtain ⟨f, q', h1, h3⟩ := ih hp
  exact ⟨_, _, h1, riff_one s hs p bad _ _ _ h1 h3 (.inl (by omega))⟩
 | @iff2 p f q b g u b' a h c iha ihc =>
  intro hp
  obtain ⟨g1, g2, _⟩ := ps_good a hp trivial
  exact riff_two s hs p bad bad _ _ _ _ _ g2 (iha hp) hb h (ihc (nxt_le g2))
 | @iff2E p f q b e a h c iha ihc =>
  intro hp
  obtain ⟨g1, g2, _⟩ := ps_good a hp trivial
  obtain ⟨g, u', k1, k3⟩ := ihc (nxt_le g2)
  exact ⟨_, u', k1, riff_two s hs p bad bad _ _ _ _ _ g2 (iha hp) hb h k3⟩
end Go.Proofs.YtccjhfmemghccaaDoor

namespace Go.Proofs.YtccjhfmemghccaaDoor
open Go Am
set_option maxRecDepth 100000
def parseV (s : List UInt8) : PRes → F × Int × Int
 | .er e => (noF, e, 3)
 | .ok f q b => if (tk s q).1 = [] then (if b = true ∨ 600 < f.size ∨ 20 < f.depth then (noF, 0, 2) else (f, 0, 0)) else (noF, skp s q, 3)
theorem noF_row : rowF noF = [.int .i64 0, .str [], .sl []] := rfl
theorem parse_long (s : List UInt8) (h : 4096 < s.length) : run tb 8 [.str s] = some (rowF noF ++ [.int .i64 0, .int .i64 2]) ∧ run tb 9 [.str s] = some (rowF noF ++ [.int .i64 0, .int .i64 2]) := by
 have h1 : ((s.length : Int) > 4096) := by omega
 refine ⟨run_ir (x := ir8) rfl ?_, run_ir (x := ir9) rfl ?_⟩
 · simp only [ir8, noF_row, stepQ, stepL, eq_self, aBin, reduceIte, Int.reduceEq, Int.reduceLT, Int.reduceLE, Int.reduceGT, Int.reduceGE, h1]
 · simp only [ir9, noF_row, stepQ, stepL, eq_self, aBin, reduceIte, Int.reduceEq, Int.reduceLT, Int.reduceLE, Int.reduceGT, Int.reduceGE, h1]
theorem parse_P (s : List UInt8) (hs : s.length ≤ 4096) {r : PRes} (h : Ps s (.lev 4 0) r) : run tb 8 [.str s] = some (rowF (parseV s r).1 ++ [.int .i64 (parseV s r).2.1, .int .i64 (parseV s r).2.2]) := by
 refine run_ir (x := ir8) rfl ?_
 have h0 : ¬ ((s.length : Int) > 4096) := by omega
 have hr := prun s (by omega) (-1) (by omega) h (Nat.zero_le _) false
 have hg := ps_good h (Nat.zero_le _) trivial
 cases r with
 | er e =>
  obtain ⟨f, q, big, h1, h2⟩ := hr
  have h3 := take_no s (by omega) q h1 e big [] (.inl (by omega))
  have h4 := fail_ge s (skp s q) e big (by omega)
  have h5 : ((e : Int) ≥ 0) := by omega
  simp only [fnP, stP, noF_row, rowF, nat0, List.cons_append, List.nil_append] at h2 h3 h4
  simp only [parseV, ir8, ir8p1, noF_row, stepQ, stepL, eq_self, aBin, reduceIte, Int.reduceEq, Int.reduceLT, Int.reduceLE, Int.reduceGT, Int.reduceGE, h0, h2, h3, h4, h5, Bool.not_false]
 | ok f q b =>
  obtain ⟨q', h1, hq, h2⟩ := hr
  obtain ⟨g1, g2, g3, g4, g5⟩ := hg
  have hsz : f.size < 1000000000 := by simp only [Job.pos, Job.cost] at g5; omega
  have hsize := size14_run f hsz
  have hdep := depth16_run f hsz
  rw [Bool.false_or] at h2
  by_cases hk : (tk s q).1 = []
  · have h3 := take_yes s (by omega) q' h1 (-1) b [] (by omega) (by rw [tk_of hq]; exact hk)
    have h5 : ¬ ((-1 : Int) ≥ 0) := by omega
    simp only [fnP, stP, rowF, nat0, List.cons_append, List.nil_append] at h2 h3 hsize hdep
    simp only [parseV, hk, if_true]
    cases b with
    | true => simp only [ir8, ir8p1, ir8p0, noF_row, stepQ, stepL, eq_self, aBin, reduceIte, Int.reduceEq, Int.reduceLT, Int.reduceLE, Int.reduceGT, Int.reduceGE, h0, h2, h3, Bool.not_true, true_or, if_true]
    | false =>
     by_cases c1 : 600 < f.size
     · have c1' : ((f.size : Int) > 600) := by omega
       simp only [ir8, ir8p1, ir8p0, noF_row, stepQ, stepL, eq_self, aBin, reduceIte, Int.reduceEq, Int.reduceLT, Int.reduceLE, Int.reduceGT, Int.reduceGE, h0, h2, h3, Bool.not_true, hsize, c1, c1', true_or, or_true, if_true]
     · have c1' : ¬ ((f.size : Int) > 600) := by omega
       by_cases c2 : 20 < f.depth
       · have c2' : ((f.depth : Int) > 20) := by omega
         simp only [ir8, ir8p1, ir8p0, noF_row, stepQ, stepL, eq_self, aBin, reduceIte, Int.reduceEq, Int.reduceLT, Int.reduceLE, Int.reduceGT, Int.reduceGE, h0, h2, h3, Bool.not_true, hsize, hdep, c1, c1', c2, c2', or_true, if_true, decide_true]
       · have c2' : ¬ ((f.depth : Int) > 20) := by omega
         simp only [ir8, ir8p1, ir8p0, rowF, stepQ, stepL, eq_self, aBin, reduceIte, Int.reduceEq, Int.reduceLT, Int.reduceLE, Int.reduceGT, Int.reduceGE, h0, h2, h3, Bool.not_true, hsize, hdep, c1, c1', c2, c2', or_false, if_false, decide_false, Bool.false_eq_true]
  · have h3 := take_no s (by omega) q' h1 (-1) b [] (.inr (by rw [tk_of hq]; exact hk))
    have h4 := fail_lt s (by omega) (skp s q') (skp_le h1).2 (-1) b (by omega)
    rw [skp_idem, hq] at h4
    rw [hq] at h3
    have h5 : ((skp s q : Int) ≥ 0) := by omega
    simp only [fnP, stP, noF_row, rowF, nat0, List.cons_append, List.nil_append] at h2 h3 h4
    simp only [parseV, hk, if_false, ir8, ir8p1, noF_row, stepQ, stepL, eq_self, aBin, reduceIte, Int.reduceEq, Int.reduceLT, Int.reduceLE, Int.reduceGT, Int.reduceGE, h0, h2, h3, h4, h5, Bool.not_false]
theorem parse_R (s : List UInt8) (hs : s.length ≤ 4096) {r : PRes} (h : Ps s (.lev 4 0) r) : run tb 9 [.str s] = some (rowF (parseV s r).1 ++ [.int .i64 (parseV s r).2.1, .int .i64 (parseV s r).2.2]) := by
 refine run_ir (x := ir9) rfl ?_
 have h0 : ¬ ((s.length : Int) > 4096) := by omega
 have hr := rrun s (by omega) (-1) (by omega) h (Nat.zero_le _)
 have hg := ps_good h (Nat.zero_le _) trivial
 cases r with
 | er e =>
  obtain ⟨f, q, h1, h2⟩ := hr
  have h3 := token_run s (by omega) q h1 e
  have h4 := rfail_ge s q e (by omega)
  have h5 : ((e : Int) ≥ 0) := by omega
  simp only [fnR, stR, noF_row, rowF, nat0, List.cons_append, List.nil_append] at h2 h3 h4
  cases hb : (tokR (s.drop (skp s q)) == []) with
  | true => simp only [parseV, ir9, ir9p1, noF_row, stepQ, stepL, eq_self, aBin, reduceIte, Int.reduceEq, Int.reduceLT, Int.reduceLE, Int.reduceGT, Int.reduceGE, h0, h2, h3, h5, hb, Bool.not_true]
  | false => simp only [parseV, ir9, ir9p1, noF_row, stepQ, stepL, eq_self, aBin, reduceIte, Int.reduceEq, Int.reduceLT, Int.reduceLE, Int.reduceGT, Int.reduceGE, h0, h2, h3, h4, h5, hb, Bool.not_false]
 | ok f q b =>
  have h2 : run tb 21 (stR s 0 (-1)) = some (rowF f ++ stR s q (-1)) := hr
  obtain ⟨g1, g2, g3, g4, g5⟩ := hg
  have hsz : f.size < 1000000000 := by simp only [Job.pos, Job.cost] at g5; omega
  have hsize := size15_run f hsz
  have hdep := depth17_run f hsz
  have hkin := kinds_run f hsz
  rw [g4] at hkin
  have h3 := token_run s (by omega) q g2 (-1)
  by_cases hk : (tk s q).1 = []
  · rw [tokR_of hk (by decide)] at h3
    have h5 : ¬ ((-1 : Int) ≥ 0) := by omega
    have h6 : (([] : List UInt8) == []) = true := rfl
    simp only [stR, rowF, nat0, List.cons_append, List.nil_append] at h2 h3 hsize hdep hkin
    simp only [parseV, hk, if_true]
    by_cases c1 : 600 < f.size
    · have c1' : ((f.size : Int) > 600) := by omega
      simp only [ir9, ir9p1, ir9p0, noF_row, stepQ, stepL, eq_self, aBin, reduceIte, Int.reduceEq, Int.reduceLT, Int.reduceLE, Int.reduceGT, Int.reduceGE, h0, h2, h3, h6, Bool.not_true, hsize, c1, c1', true_or, or_true, if_true]
    · have c1' : ¬ ((f.size : Int) > 600) := by omega
      by_cases c2 : 20 < f.depth
      · have c2' : ((f.depth : Int) > 20) := by omega
        simp only [ir9, ir9p1, ir9p0, noF_row, stepQ, stepL, eq_self, aBin, reduceIte, Int.reduceEq, Int.reduceLT, Int.reduceLE, Int.reduceGT, Int.reduceGE, h0, h2, h3, h6, Bool.not_true, hsize, hdep, c1, c1', c2, c2', or_true, if_true]
      · have c2' : ¬ ((f.depth : Int) > 20) := by omega
        cases b with
        | true => simp only [ir9, ir9p1, ir9p0, noF_row, stepQ, stepL, eq_self, aBin, reduceIte, Int.reduceEq, Int.reduceLT, Int.reduceLE, Int.reduceGT, Int.reduceGE, h0, h2, h3, h6, Bool.not_true, Bool.not_false, hsize, hdep, hkin, c1, c1', c2, c2', true_or, if_true]
        | false => simp only [ir9, ir9p1, ir9p0, rowF, stepQ, stepL, eq_self, aBin, reduceIte, Int.reduceEq, Int.reduceLT, Int.reduceLE, Int.reduceGT, Int.reduceGE, h0, h2, h3, h6, Bool.not_true, Bool.not_false, hsize, hdep, hkin, c1, c1', c2, c2', or_false, if_false, Bool.false_eq_true]
  · have hne := tokR_ne hk (by decide)
    have hb : (tokR (s.drop (skp s q)) == []) = false := by simpa using hne
    have h4 := rfail_lt s (by omega) q g2 (-1) (by omega)
    have h5 : ((skp s q : Int) ≥ 0) := by omega
    simp only [stR, noF_row, rowF, nat0, List.cons_append, List.nil_append] at h2 h3 h4
    simp only [parseV, hk, if_false, ir9, ir9p1, noF_row, stepQ, stepL, eq_self, aBin, reduceIte, Int.reduceEq, Int.reduceLT, Int.reduceLE, Int.reduceGT, Int.reduceGE, h0, h2, h3, h4, h5, hb, Bool.not_false]
theorem parse_both (s : List UInt8) : ∃ (f : F) (i e : Int), f.size < 1000000 ∧ run tb 8 [.str s] = some (rowF f ++ [.int .i64 i, .int .i64 e]) ∧ run tb 9 [.str s] = some (rowF f ++ [.int .i64 i, .int .i64 e]) ∧ (e = 0 → good f = true ∧ f.size ≤ 600 ∧ f.depth ≤ 20) := by
 by_cases hs : s.length ≤ 4096
 · obtain ⟨r, hr⟩ := ps_any s
   have hg := ps_good hr (Nat.zero_le _) trivial
   refine ⟨(parseV s r).1, (parseV s r).2.1, (parseV s r).2.2, ?_, parse_P s hs hr, parse_R s hs hr, ?_⟩
   · cases r with
     | er e => show noF.size < _; decide
     | ok f q b =>
      obtain ⟨g1, g2, g3, g4, g5⟩ := hg
      simp only [Job.pos, Job.cost] at g5
      simp only [parseV]
      split
      · split
        · show noF.size < _; decide
        · show f.size < _; omega
      · show noF.size < _; decide
   · cases r with
     | er e => intro h; simp [parseV] at h
     | ok f q b =>
      obtain ⟨g1, g2, g3, g4, g5⟩ := hg
      simp only [parseV]
      split
      · split
        · intro h; simp at h
        · rename_i hc
          intro _
          simp only [not_or] at hc
          have hb : b = false := by simpa using hc.1
          subst hb
          exact ⟨by simp [good, g3, g4], by show f.size ≤ 600; omega, by show f.depth ≤ 20; omega⟩
      · intro h; simp at h
 · have h := parse_long s (by omega)
   exact ⟨noF, 0, 2, by decide, h.1, h.2, fun h => by simp at h⟩
theorem parse_good (s : List UInt8) (hs : s.length ≤ 4096) (f : F) (hsz : f.size ≤ 600) (hd : f.depth ≤ 20) (h : Ps s (.lev 4 0) (.ok f s.length false)) : run tb 8 [.str s] = some (rowF f ++ [.int .i64 0, .int .i64 0]) := by
 have := parse_P s hs h
 rw [this]
 have : parseV s (.ok f s.length false) = (f, 0, 0) := by
  simp only [parseV, tk_end, if_true]
  rw [if_neg]
  simp; omega
 rw [this]
end Go.Proofs.YtccjhfmemghccaaDoor

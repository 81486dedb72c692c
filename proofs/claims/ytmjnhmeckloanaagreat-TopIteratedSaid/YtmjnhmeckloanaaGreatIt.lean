/- What functions of the program compute: lemmas. -/
import Derived.Test.YtmjnhmeckloanaaGreatOd
import Derived.Test.YtmjnhmeckloanaaGreatAm6
import Derived.Test.YtmjnhmeckloanaaGreatWd
import Derived.Test.YtmjnhmeckloanaaGreatIt0
set_option linter.unusedSimpArgs false
set_option linter.unusedVariables false
set_option linter.unusedSectionVars false
namespace Go.Proofs.YtmjnhmeckloanaaGreat
open Go Am
set_option maxRecDepth 100000
theorem beliefsO_run (names : List (List UInt8)) (ranks : List Int) (hn : names.length < 1000000000) (hl : ranks.length < 1000000000) : run tb 40 [strsD names, numsD ranks] = some [bvD (beliefsS names ranks)] := by
 refine run_ir (x := ir40) rfl ?_
 have h := leastO_run names ranks hn hl (BitVec.allOnes 64)
 simp (disch := omega) only [ir40, stepQ, stepL, eq_self, aBin, reduceIte, Int.reduceEq, Int.reduceLT, Int.reduceLE, Int.reduceGT, Int.reduceGE, bvQ, wu, shl_norm, shr_norm, and1_norm, h, beliefsS]
end Go.Proofs.YtmjnhmeckloanaaGreat

namespace Go.Proofs.YtmjnhmeckloanaaGreat
open Go Am
set_option maxRecDepth 100000
end Go.Proofs.YtmjnhmeckloanaaGreat

namespace Go.Proofs.YtmjnhmeckloanaaGreat
open Go Am
set_option maxRecDepth 100000
theorem equalS_run (a b : List (List UInt8)) (ha : a.length < 1000000000) : run tb 28 [strsD a, strsD b] = some [.bool (decide (a = b))] := by
 refine run_ir (x := ir28) rfl ?_
 by_cases hl : a.length = b.length
 · simp (disch := omega) only [ir28, stepQ, stepL, eq_self, aBin, reduceIte, Int.reduceEq, Int.reduceLT, Int.reduceLE, Int.reduceGT, Int.reduceGE, len_S, ibne, hl]
   have h0 : decide (a = b) = decide (a.drop 0 = b.drop 0) := by simp
   rw [h0]
   refine loop_k (σ := Unit) b.length (fun _ _ => True) (fun i _ => [.int .i64 i]) (fun i _ => [.bool (decide (a.drop i = b.drop i))]) ?_ ?_ 0 () (Nat.zero_le _) trivial
   · rintro i _ L hi _ hL
     have hnext := hL () trivial
     have hia : i < a.length := by omega
     have e1 : a.drop i = a[i] :: a.drop (i + 1) := List.drop_eq_getElem_cons hia
     have e2 : b.drop i = b[i] :: b.drop (i + 1) := List.drop_eq_getElem_cons hi
     rw [e1, e2]
     by_cases h : a[i] = b[i]
     · have : decide (a[i] :: a.drop (i + 1) = b[i] :: b.drop (i + 1)) = decide (a.drop (i + 1) = b.drop (i + 1)) := by rw [h]; exact decide_eq_decide.2 ⟨fun e => (List.cons.inj e).2, fun e => by rw [e]⟩
       rw [this]
       have b1 : (a[i] == b[i]) = true := beq_iff_eq.2 h
       have b2 : (a[i] != b[i]) = false := by rw [bne, b1]; rfl
       simp (disch := omega) only [ir28p0, stepQ, stepL, eq_self, aBin, reduceIte, Int.reduceEq, Int.reduceLT, Int.reduceLE, Int.reduceGT, Int.reduceGE, len_S, hi, hia, row_S, ibne, b1, b2, wr, natS, hnext]
     · have : decide (a[i] :: a.drop (i + 1) = b[i] :: b.drop (i + 1)) = false := decide_eq_false fun e => h (List.cons.inj e).1
       rw [this]
       have b1 : (a[i] == b[i]) = false := beq_eq_false_iff_ne.2 h
       have b2 : (a[i] != b[i]) = true := by rw [bne, b1]; rfl
       simp (disch := omega) only [ir28p0, stepQ, stepL, eq_self, aBin, reduceIte, Int.reduceEq, Int.reduceLT, Int.reduceLE, Int.reduceGT, Int.reduceGE, len_S, hi, hia, row_S, ibne, b1, b2, wr, natS]
   · rintro _ L _
     have : decide (a.drop b.length = b.drop b.length) = true := by simp [← hl]
     rw [this]
     simp (disch := omega) only [ir28p0, stepQ, stepL, eq_self, aBin, reduceIte, Int.reduceEq, Int.reduceLT, Int.reduceLE, Int.reduceGT, Int.reduceGE, len_S, hl, Nat.lt_irrefl]
 · have : decide (a = b) = false := by simp; rintro rfl; exact hl rfl
   rw [this]
   simp (disch := omega) only [ir28, stepQ, stepL, eq_self, aBin, reduceIte, Int.reduceEq, Int.reduceLT, Int.reduceLE, Int.reduceGT, Int.reduceGE, len_S, ibne, hl]
theorem equalI_run (a b : List Int) (ha : a.length < 1000000000) : run tb 41 [numsD a, numsD b] = some [.bool (decide (a = b))] := by
 refine run_ir (x := ir41) rfl ?_
 by_cases hl : a.length = b.length
 · simp (disch := omega) only [ir41, stepQ, stepL, eq_self, aBin, reduceIte, Int.reduceEq, Int.reduceLT, Int.reduceLE, Int.reduceGT, Int.reduceGE, len_N, ibne, hl]
   have h0 : decide (a = b) = decide (a.drop 0 = b.drop 0) := by simp
   rw [h0]
   refine loop_k (σ := Unit) b.length (fun _ _ => True) (fun i _ => [.int .i64 i]) (fun i _ => [.bool (decide (a.drop i = b.drop i))]) ?_ ?_ 0 () (Nat.zero_le _) trivial
   · rintro i _ L hi _ hL
     have hnext := hL () trivial
     have hia : i < a.length := by omega
     have e1 : a.drop i = a[i] :: a.drop (i + 1) := List.drop_eq_getElem_cons hia
     have e2 : b.drop i = b[i] :: b.drop (i + 1) := List.drop_eq_getElem_cons hi
     rw [e1, e2]
     by_cases h : a[i] = b[i]
     · have : decide (a[i] :: a.drop (i + 1) = b[i] :: b.drop (i + 1)) = decide (a.drop (i + 1) = b.drop (i + 1)) := by rw [h]; exact decide_eq_decide.2 ⟨fun e => (List.cons.inj e).2, fun e => by rw [e]⟩
       rw [this]
       have b1 : True := trivial
       have b2 : True := trivial
       simp (disch := omega) only [ir41p0, stepQ, stepL, eq_self, aBin, reduceIte, Int.reduceEq, Int.reduceLT, Int.reduceLE, Int.reduceGT, Int.reduceGE, len_N, hi, hia, row_N, ibne, h, b1, b2, wr, natS, hnext]
     · have : decide (a[i] :: a.drop (i + 1) = b[i] :: b.drop (i + 1)) = false := decide_eq_false fun e => h (List.cons.inj e).1
       rw [this]
       have b1 : True := trivial
       have b2 : True := trivial
       simp (disch := omega) only [ir41p0, stepQ, stepL, eq_self, aBin, reduceIte, Int.reduceEq, Int.reduceLT, Int.reduceLE, Int.reduceGT, Int.reduceGE, len_N, hi, hia, row_N, ibne, h, b1, b2, wr, natS]
   · rintro _ L _
     have : decide (a.drop b.length = b.drop b.length) = true := by simp [← hl]
     rw [this]
     simp (disch := omega) only [ir41p0, stepQ, stepL, eq_self, aBin, reduceIte, Int.reduceEq, Int.reduceLT, Int.reduceLE, Int.reduceGT, Int.reduceGE, len_N, hl, Nat.lt_irrefl]
 · have : decide (a = b) = false := by simp; rintro rfl; exact hl rfl
   rw [this]
   simp (disch := omega) only [ir41, stepQ, stepL, eq_self, aBin, reduceIte, Int.reduceEq, Int.reduceLT, Int.reduceLE, Int.reduceGT, Int.reduceGE, len_N, ibne, hl]
theorem sameO_run (a b : List (List UInt8)) (x y : List Int) (ha : a.length < 1000000000) (hx : x.length < 1000000000) : run tb 10 [strsD a, numsD x, strsD b, numsD y] = some [.bool (decide (a = b) && decide (x = y))] := by
 refine run_ir (x := ir10) rfl ?_
 have h1 := equalS_run a b ha
 have h2 := equalI_run x y hx
 cases hd : decide (a = b) with
 | true => rw [hd] at h1; simp (disch := omega) only [ir10, stepQ, stepL, eq_self, aBin, reduceIte, Int.reduceEq, Int.reduceLT, Int.reduceLE, Int.reduceGT, Int.reduceGE, h1, h2]
 | false => rw [hd] at h1; simp (disch := omega) only [ir10, stepQ, stepL, eq_self, aBin, reduceIte, Int.reduceEq, Int.reduceLT, Int.reduceLE, Int.reduceGT, Int.reduceGE, h1]
def belE (names : List (List UInt8)) (ranks : List Int) (f : F) : Bool × Int :=
 if orderE names ranks = 0 then (if modelsE names f = 0 then (decide (beliefsS names ranks &&& ~~~modelsS names f = 0#64), 0) else (false, modelsE names f)) else (false, orderE names ranks)
theorem believes_run (names : List (List UInt8)) (ranks : List Int) (f : F) (hn : names.length < 1000000000) (hl : ranks.length < 1000000000) (hf : f.size < 1000000000) :
 run tb 14 [strsD names, numsD ranks, .int .i64 f.op, .str f.name, .sl (F.encs f.args)] = some [.bool (belE names ranks f).1, .int .i64 (belE names ranks f).2] := by
 refine run_ir (x := ir14) rfl ?_
 have h1 := validateO_run names ranks hn hl
 have h2 := modelsW_run names f hn hf
 have h3 := beliefsO_run names ranks hn hl
 simp only [rowF] at h2
 unfold belE
 by_cases c1 : orderE names ranks = 0
 · rw [c1] at h1 ⊢
   by_cases c2 : modelsE names f = 0
   · rw [c2] at h2 ⊢
     by_cases c3 : beliefsS names ranks &&& ~~~modelsS names f = 0#64
     · simp (disch := omega) only [ir14, stepQ, stepL, eq_self, aBin, reduceIte, Int.reduceEq, Int.reduceLT, Int.reduceLE, Int.reduceGT, Int.reduceGE, bvQ, wu, shl_norm, shr_norm, and1_norm, h1, h2, h3, ibne, c3, callQ_tvi, if_true]
     · simp (disch := omega) only [ir14, stepQ, stepL, eq_self, aBin, reduceIte, Int.reduceEq, Int.reduceLT, Int.reduceLE, Int.reduceGT, Int.reduceGE, bvQ, wu, shl_norm, shr_norm, and1_norm, h1, h2, h3, ibne, c3, callQ_tvi, if_true]
   · simp (disch := omega) only [ir14, stepQ, stepL, eq_self, aBin, reduceIte, Int.reduceEq, Int.reduceLT, Int.reduceLE, Int.reduceGT, Int.reduceGE, bvQ, wu, shl_norm, shr_norm, and1_norm, h1, h2, h3, ibne, c2, callQ_tvi, if_true, if_false]
 · simp (disch := omega) only [ir14, stepQ, stepL, eq_self, aBin, reduceIte, Int.reduceEq, Int.reduceLT, Int.reduceLE, Int.reduceGT, Int.reduceGE, bvQ, wu, shl_norm, shr_norm, and1_norm, h1, ibne, c1, if_false]
end Go.Proofs.YtmjnhmeckloanaaGreat

namespace Go.Proofs.YtmjnhmeckloanaaGreat
open Go Am
set_option maxRecDepth 100000
def chE (names : List (List UInt8)) (ranks : List Int) (f : F) : Int := if orderE names ranks ≠ 0 then orderE names ranks else modelsE names f
section
variable (names : List (List UInt8)) (ranks : List Int) (f : F) (hn : names.length < 1000000000) (hs : ∀ s ∈ names, s.length < 9223372036854775808) (hl : ranks.length < 1000000000) (hf : f.size < 1000000000) (hb : F.allF nameB f = true)
include hn hs hl hf hb
end
end Go.Proofs.YtmjnhmeckloanaaGreat

namespace Go.Proofs.YtmjnhmeckloanaaGreat
open Go Am
set_option maxRecDepth 100000
end Go.Proofs.YtmjnhmeckloanaaGreat

namespace Go.Proofs.YtmjnhmeckloanaaGreat
open Go Am
set_option maxRecDepth 100000
theorem chModels_run (names : List (List UInt8)) (ranks : List Int) (f : F) (hn : names.length < 1000000000) (hl : ranks.length < 1000000000) (hf : f.size < 1000000000) :
 run tb 42 (strsD names :: numsD ranks :: rowF f) = some (if orderE names ranks ≠ 0 then [bvD 0#64, bvD 0#64, .int .i64 (orderE names ranks)] else [bvD (modelsS names f), bvD (allS names), .int .i64 (modelsE names f)]) := by
 refine run_ir (x := ir42) rfl ?_
 have h1 := validateO_run names ranks hn hl
 have h2 := modelsW_run names f hn hf
 have h3 := all_run names hn
 simp only [rowF] at h2
 by_cases h : orderE names ranks = 0
 · rw [if_neg (by simp [h])]
   rw [h] at h1
   simp (disch := omega) only [ir42, rowF, stepQ, stepL, eq_self, aBin, reduceIte, Int.reduceEq, Int.reduceLT, Int.reduceLE, Int.reduceGT, Int.reduceGE, h1, ibne, h2, h3]
 · rw [if_pos h]
   simp (disch := omega) only [ir42, rowF, stepQ, stepL, eq_self, aBin, reduceIte, Int.reduceEq, Int.reduceLT, Int.reduceLE, Int.reduceGT, Int.reduceGE, bvQ, wu, shl_norm, shr_norm, and1_norm, h1, ibne, h]
theorem revise_run (names : List (List UInt8)) (ranks : List Int) (f : F) (hn : names.length < 1000000000) (hl : ranks.length < 1000000000) (hf : f.size < 1000000000) :
 run tb 11 (strsD names :: numsD ranks :: rowF f) = some [bvD (if chE names ranks f = 0 then leastS names ranks (modelsS names f) else 0#64), .int .i64 (chE names ranks f)] := by
 refine run_ir (x := ir11) rfl ?_
 have h1 := chModels_run names ranks f hn hl hf
 have h2 := leastO_run names ranks hn hl (modelsS names f)
 simp only [rowF] at h1
 by_cases h : orderE names ranks = 0
 · rw [if_neg (by simp [h])] at h1
   have he : chE names ranks f = modelsE names f := by simp [chE, h]
   rw [he]
   by_cases hm : modelsE names f = 0
   · rw [if_pos hm]
     rw [hm] at h1 ⊢
     simp (disch := omega) only [ir11, rowF, stepQ, stepL, eq_self, aBin, reduceIte, Int.reduceEq, Int.reduceLT, Int.reduceLE, Int.reduceGT, Int.reduceGE, bvQ, wu, shl_norm, shr_norm, and1_norm, h1, ibne, h2]
   · rw [if_neg hm]
     simp (disch := omega) only [ir11, rowF, stepQ, stepL, eq_self, aBin, reduceIte, Int.reduceEq, Int.reduceLT, Int.reduceLE, Int.reduceGT, Int.reduceGE, bvQ, wu, shl_norm, shr_norm, and1_norm, h1, ibne, hm]
 · rw [if_pos h] at h1
   have he : chE names ranks f = orderE names ranks := by simp [chE, h]
   rw [he, if_neg h]
   simp (disch := omega) only [ir11, rowF, stepQ, stepL, eq_self, aBin, reduceIte, Int.reduceEq, Int.reduceLT, Int.reduceLE, Int.reduceGT, Int.reduceGE, bvQ, wu, shl_norm, shr_norm, and1_norm, h1, ibne, h]
end Go.Proofs.YtmjnhmeckloanaaGreat

namespace Go.Proofs.YtmjnhmeckloanaaGreat
open Go Am
set_option maxRecDepth 100000
theorem over_run {n : Nat} (hn : n ≤ 6) (X : BitVec 64) : run tb 7 [.int .i64 n, bvD X] = some [.int .i64 (thy (vocN n) X).op, .str (thy (vocN n) X).name, .sl (F.encs (thy (vocN n) X).args), .bool true] := by
 refine run_ir (x := ir7) rfl ?_
 have hv := vocN_ok hn
 have hvo := voc_run n (by omega)
 have h1 := theoryW_run (vocN n) (by rw [vocN_len]; omega) X
 unfold thyE at h1
 rw [if_pos hv] at h1
 simp only [rowF, List.cons_append, List.nil_append] at h1
 simp (disch := omega) only [ir7, stepQ, stepL, eq_self, aBin, reduceIte, Int.reduceEq, Int.reduceLT, Int.reduceLE, Int.reduceGT, Int.reduceGE, bvQ, wu, shl_norm, shr_norm, and1_norm, hvo, h1, ibne]
def notB : F := F.mk 4 [] [F.mk 3 [98] []]
theorem awake37_run : run tb 15 [] = some [.bool true] := by
 refine run_ir (x := ir15) rfl ?_
 have hvo := voc_run 2 (by omega)
 have hmk : PO.eval (.mk 1 4) [.int .i64 2, .int .i64 1, .int .i64 2, .int .i64 0] = some [numsD [2, 1, 2, 0]] := rfl
 have hno := normal_run (vocN 2) [2, 1, 2, 0] (by rw [vocN_len]; omega) (by simp)
 rw [if_pos (by decide +kernel), show normS [2, 1, 2, 0] = [2, 1, 2, 0] by decide +kernel] at hno
 have hrow : PO.eval (.row 1) [strsD (vocN 2), .int .i64 1] = some [.str [98]] := rfl
 have hmkF : PO.eval (.mk 3 1) [.int .i64 3, .str [98], .sl []] = some [.sl (F.encs [F.mk 3 [98] []])] := rfl
 have hrv := revise_run (vocN 2) [2, 1, 2, 0] notB (by rw [vocN_len]; omega) (by simp) (by decide +kernel)
 have hnx := nextP_run (vocN 2) [2, 1, 2, 0] notB 2 (by rw [vocN_len]; omega) (by simp) (by decide +kernel)
 rw [show chE (vocN 2) [2, 1, 2, 0] notB = 0 by decide +kernel, if_pos rfl, show leastS (vocN 2) [2, 1, 2, 0] (modelsS (vocN 2) notB) = 2#64 by decide +kernel] at hrv
 rw [show itE (vocN 2) [2, 1, 2, 0] notB 2 = 0 by decide +kernel, if_pos rfl, show nextS (vocN 2) 2 [2, 1, 2, 0] (modelsS (vocN 2) notB) = [1, 0, 3, 2] by decide +kernel] at hnx
 have hrv : run tb 11 [strsD (vocN 2), numsD [2, 1, 2, 0], .int .i64 4, .str [], .sl (F.encs [F.mk 3 [98] []])] = some [bvD 2#64, .int .i64 0] := hrv
 have hnx : run tb 8 [strsD (vocN 2), numsD [2, 1, 2, 0], .int .i64 4, .str [], .sl (F.encs [F.mk 3 [98] []]), .int .i64 2] = some [strsD (vocN 2), numsD [1, 0, 3, 2], .int .i64 0] := hnx
 have hmk2 : PO.eval (.mk 1 4) [.int .i64 1, .int .i64 0, .int .i64 3, .int .i64 2] = some [numsD [1, 0, 3, 2]] := rfl
 have hint := ints_run [1, 0, 3, 2] [1, 0, 3, 2] (by decide)
 rw [decide_eq_true rfl] at hint
 have e2 : PO.eval (.bin .eql false) [bvD 2#64, .int .u64 2] = some [.bool true] := rfl
 have hvo : run tb 3 [.int .i64 2] = some [strsD (vocN 2)] := hvo
 simp (disch := omega) only [ir15, stepQ, stepL, eq_self, aBin, reduceIte, Int.reduceEq, Int.reduceLT, Int.reduceLE, Int.reduceGT, Int.reduceGE, hvo, hmk, hno, hrow, hmkF, hrv, hnx, hmk2, hint, e2, callQ_tvi, callQ_tb]
end Go.Proofs.YtmjnhmeckloanaaGreat

namespace Go.Proofs.YtmjnhmeckloanaaGreat
open Go Am
set_option maxRecDepth 100000
theorem hasT_run (x : BitVec 64) (w : Nat) (h : w < 9223372036854775808) : run tb 45 [bvD x, .int .i64 w] = some [.bool (x.getLsbD w)] := by
 refine run_ir (x := ir45) rfl ?_
 simp (disch := omega) only [ir45, stepQ, stepL, eq_self, aBin, reduceIte, Int.reduceEq, Int.reduceLT, Int.reduceLE, Int.reduceGT, Int.reduceGE, bvQ, wu, shl_norm, shr_norm, and1_norm]
theorem slmax_run (ranks : List Int) (h0 : 0 < ranks.length) (hl : ranks.length < 1000000000) (hp : ∀ r ∈ ranks, 0 ≤ r) : run tb 44 [numsD ranks] = some [.int .i64 (maxR ranks)] := by
 refine run_ir (x := ir44) rfl ?_
 have h1 : ¬ ((ranks.length : Nat) : Int) < 1 := by omega
 have hrow := row_N (l := ranks) (i := 0) h0
 rw [nat0] at hrow
 simp (disch := omega) only [ir44, stepQ, stepL, eq_self, aBin, reduceIte, Int.reduceEq, Int.reduceLT, Int.reduceLE, Int.reduceGT, Int.reduceGE, len_N, h1, hrow]
 have h0 : maxF ranks[0] (ranks.drop 1) = maxR ranks := by
  have : maxR ranks = maxF (max1 0 ranks[0]) (ranks.drop 1) := by
   cases ranks with
   | nil => simp at h0
   | cons a l => rfl
  rw [this]
  have : max1 0 ranks[0] = ranks[0] := by have := hp _ (List.getElem_mem h0); unfold max1; split <;> omega
  rw [this]
 have hone : (1 : Int) = ((1 : Nat) : Int) := rfl
 rw [hone]
 refine loop_k (σ := Int) ranks.length (fun i x => maxF x (ranks.drop i) = maxR ranks) (fun i x => [.int .i64 x, .int .i64 i]) (fun _ _ => [.int .i64 (maxR ranks)]) ?_ ?_ 1 ranks[0] (by omega) h0
 · rintro i x L hi hx hL
   rw [drop_s hi] at hx
   have hnext := hL (max1 x ranks[i]) hx
   unfold max1 at hnext
   simp (disch := omega) only [ir44p0, stepQ, stepL, eq_self, aBin, reduceIte, Int.reduceEq, Int.reduceLT, Int.reduceLE, Int.reduceGT, Int.reduceGE, len_N, hi, row_N, wr, natS, hnext]
 · rintro x L hx
   rw [List.drop_length] at hx
   have : x = maxR ranks := hx
   subst this
   simp (disch := omega) only [ir44p0, stepQ, stepL, eq_self, aBin, reduceIte, Int.reduceEq, Int.reduceLT, Int.reduceLE, Int.reduceGT, Int.reduceGE, len_N, Nat.lt_irrefl]
theorem first_run (names : List (List UInt8)) (hn : names.length < 1000000000) (fs : List F) (hf : ∀ f ∈ fs, f.size < 1000000000) (hfl : fs.length < 1000000000) :
 run tb 43 [strsD names, .sl (F.encs fs)] = some [.int .i64 (fstE names fs)] := by
 refine run_ir (x := ir43) rfl ?_
 simp (disch := omega) only [ir43, stepQ, stepL, eq_self, aBin, reduceIte, Int.reduceEq, Int.reduceLT, Int.reduceLE, Int.reduceGT, Int.reduceGE, len_F]
 refine loop_k (σ := Unit) fs.length (fun i _ => fstE names (fs.drop i) = fstE names fs) (fun i _ => [.int .i64 i]) (fun _ _ => [.int .i64 (fstE names fs)]) ?_ ?_ 0 () (Nat.zero_le _) rfl
 · rintro i _ L hi hp hL
   rw [drop_s hi, fstE_cons] at hp
   have hm := modelsW_run names fs[i] hn (hf _ (List.getElem_mem hi))
   simp only [rowF] at hm
   by_cases c : modelsE names fs[i] = 0
   · rw [if_pos c] at hp
     have hnext := hL () hp
     rw [c] at hm
     simp (disch := omega) only [ir43p0, stepQ, stepL, eq_self, aBin, reduceIte, Int.reduceEq, Int.reduceLT, Int.reduceLE, Int.reduceGT, Int.reduceGE, hi, row_F, hm, ibne, wr, natS, hnext]
   · rw [if_neg c] at hp
     rw [hp] at hm c
     simp (disch := omega) only [ir43p0, stepQ, stepL, eq_self, aBin, reduceIte, Int.reduceEq, Int.reduceLT, Int.reduceLE, Int.reduceGT, Int.reduceGE, hi, row_F, hm, ibne, c]
 · rintro _ L hp
   rw [List.drop_length] at hp
   simp (disch := omega) only [ir43p0, stepQ, stepL, eq_self, aBin, reduceIte, Int.reduceEq, Int.reduceLT, Int.reduceLE, Int.reduceGT, Int.reduceGE, Nat.lt_irrefl, ← hp, fstE_nil]
theorem accepts_run (names : List (List UInt8)) (ranks : List Int) (f g : F) (hn : names.length < 1000000000) (hl : ranks.length < 1000000000) (hf : f.size < 1000000000) (hg : g.size < 1000000000) :
 run tb 12 [strsD names, numsD ranks, .int .i64 f.op, .str f.name, .sl (F.encs f.args), .int .i64 g.op, .str g.name, .sl (F.encs g.args)] = some (if accE names ranks f g = 0 then [.bool (accS names ranks f g), .int .i64 0] else [.bool false, .int .i64 (accE names ranks f g)]) := by
 refine run_ir (x := ir12) rfl ?_
 have h1 := validateO_run names ranks hn hl
 have h2 := first_run names hn [f, g] (fun x hx => by simp only [List.mem_cons, List.not_mem_nil, or_false] at hx; rcases hx with rfl | rfl <;> assumption) (by simp)
 have h3 := modelsW_run names f hn hf
 have h4 := modelsW_run names g hn hg
 have h5 := leastO_run names ranks hn hl (modelsS names f)
 simp only [rowF] at h3 h4
 have hmk : PO.eval (.mk 3 2) [.int .i64 f.op, .str f.name, .sl (F.encs f.args), .int .i64 g.op, .str g.name, .sl (F.encs g.args)] = some [.sl (F.encs [f, g])] := by rw [ev_mk32]; simp [F.encs, F.enc_eq]
 unfold accS
 by_cases c1 : orderE names ranks = 0
 · rw [c1] at h1
   by_cases c2 : fstE names [f, g] = 0
   · have ha : accE names ranks f g = 0 := by unfold accE; rw [if_neg (by simp [c1]), c2]
     rw [ha, if_pos rfl]
     rw [c2] at h2
     rw [fstE_cons, fstE_cons, fstE_nil] at c2
     have e1 : modelsE names f = 0 := Classical.byContradiction fun hc => by rw [if_neg hc] at c2; exact hc c2
     rw [if_pos e1] at c2
     have e2 : modelsE names g = 0 := Classical.byContradiction fun hc => by rw [if_neg hc] at c2; exact hc c2
     rw [e1] at h3
     rw [e2] at h4
     by_cases c3 : leastS names ranks (modelsS names f) &&& ~~~modelsS names g = 0#64
     · simp (disch := omega) only [ir12, stepQ, stepL, eq_self, aBin, reduceIte, Int.reduceEq, Int.reduceLT, Int.reduceLE, Int.reduceGT, Int.reduceGE, bvQ, wu, shl_norm, shr_norm, and1_norm, h1, hmk, h2, h3, h4, h5, ibne, c3, callQ_ti]
     · simp (disch := omega) only [ir12, stepQ, stepL, eq_self, aBin, reduceIte, Int.reduceEq, Int.reduceLT, Int.reduceLE, Int.reduceGT, Int.reduceGE, bvQ, wu, shl_norm, shr_norm, and1_norm, h1, hmk, h2, h3, h4, h5, ibne, c3, callQ_ti]
   · have ha : accE names ranks f g = fstE names [f, g] := by unfold accE; rw [if_neg (by simp [c1])]
     rw [ha, if_neg c2]
     simp (disch := omega) only [ir12, stepQ, stepL, eq_self, aBin, reduceIte, Int.reduceEq, Int.reduceLT, Int.reduceLE, Int.reduceGT, Int.reduceGE, bvQ, wu, shl_norm, shr_norm, and1_norm, h1, hmk, h2, ibne, c2, callQ_ti]
 · have ha : accE names ranks f g = orderE names ranks := by unfold accE; rw [if_pos c1]
   rw [ha, if_neg c1]
   simp (disch := omega) only [ir12, stepQ, stepL, eq_self, aBin, reduceIte, Int.reduceEq, Int.reduceLT, Int.reduceLE, Int.reduceGT, Int.reduceGE, bvQ, wu, shl_norm, shr_norm, and1_norm, h1, ibne, c1]
theorem degree_run (names : List (List UInt8)) (ranks : List Int) (f : F) (hn : names.length < 1000000000) (hl : ranks.length < 1000000000) (hf : f.size < 1000000000) :
 run tb 13 [strsD names, numsD ranks, .int .i64 f.op, .str f.name, .sl (F.encs f.args)] = some (if degE names ranks f = 0 then [.int .i64 (degS ranks (modelsS names f)), .int .i64 0] else [.int .i64 0, .int .i64 (degE names ranks f)]) := by
 refine run_ir (x := ir13) rfl ?_
 have h1 := validateO_run names ranks hn hl
 have h2 := modelsW_run names f hn hf
 simp only [rowF] at h2
 by_cases c1 : orderE names ranks = 0
 · have h1 := h1
   rw [c1] at h1
   by_cases c2 : modelsE names f = 0
   · rw [c2] at h2
     have ha : degE names ranks f = 0 := by unfold degE; rw [if_neg (by simp [c1]), c2]
     rw [ha, if_pos rfl]
     obtain ⟨_, _, hrk⟩ := orderE_zero c1
     have hlen := orderE_len c1
     have hmem := rkIn_mem (rkOk_in hrk)
     have hmx := slmax_run ranks hlen.2 hl fun r hr => (hmem r hr).1
     have hmlt := maxR_lt (rkOk_in hrk) hlen.2
     have hmge := maxR_ge ranks
     unfold degS
     generalize modelsS names f = m at *
     have hw1 : IntKind.i64.wrap (maxR ranks + 1) = maxR ranks + 1 := wr (by omega) (by omega)
     simp (disch := omega) only [ir13, stepQ, stepL, eq_self, aBin, reduceIte, Int.reduceEq, Int.reduceLT, Int.reduceLE, Int.reduceGT, Int.reduceGE, h1, h2, ibne, hmx, hw1, len_N]
     generalize maxR ranks + 1 = a at *
     refine loop_k (σ := Unit) ranks.length (fun _ _ => True) (fun i _ => [.int .i64 (degF ranks m a i), .int .i64 i]) (fun _ _ => [.int .i64 (degF ranks m a ranks.length), .int .i64 0]) ?_ ?_ 0 () (Nat.zero_le _) trivial
     · rintro i _ L hi _ hL
       have hnext := hL () trivial
       have hh := hasT_run m i (by omega)
       rw [degF_succ, gd hi] at hnext
       unfold min1 at hnext
       cases hb : m.getLsbD i with
       | true =>
        rw [hb] at hh hnext
        rw [if_pos rfl] at hnext
        simp (disch := omega) only [ir13p1, ir13p0, stepQ, stepL, eq_self, aBin, reduceIte, Int.reduceEq, Int.reduceLT, Int.reduceLE, Int.reduceGT, Int.reduceGE, hi, row_N, hh, wr, natS, hnext]
       | false =>
        rw [hb] at hh hnext
        rw [if_neg (by simp)] at hnext
        simp (disch := omega) only [ir13p1, ir13p0, stepQ, stepL, eq_self, aBin, reduceIte, Int.reduceEq, Int.reduceLT, Int.reduceLE, Int.reduceGT, Int.reduceGE, hi, row_N, hh, wr, natS, hnext]
     · rintro _ L _
       simp (disch := omega) only [ir13p1, stepQ, stepL, eq_self, aBin, reduceIte, Int.reduceEq, Int.reduceLT, Int.reduceLE, Int.reduceGT, Int.reduceGE, Nat.lt_irrefl]
   · have ha : degE names ranks f = modelsE names f := by unfold degE; rw [if_neg (by simp [c1])]
     rw [ha, if_neg c2]
     simp (disch := omega) only [ir13, stepQ, stepL, eq_self, aBin, reduceIte, Int.reduceEq, Int.reduceLT, Int.reduceLE, Int.reduceGT, Int.reduceGE, h1, h2, ibne, c2]
 · have ha : degE names ranks f = orderE names ranks := by unfold degE; rw [if_pos c1]
   rw [ha, if_neg c1]
   simp (disch := omega) only [ir13, stepQ, stepL, eq_self, aBin, reduceIte, Int.reduceEq, Int.reduceLT, Int.reduceLE, Int.reduceGT, Int.reduceGE, h1, ibne, c1]
end Go.Proofs.YtmjnhmeckloanaaGreat

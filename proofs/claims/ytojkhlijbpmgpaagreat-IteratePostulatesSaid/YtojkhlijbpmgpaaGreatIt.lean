/- What functions of the program compute: lemmas. -/
import Derived.Test.YtojkhlijbpmgpaaGreatOd
import Derived.Test.YtojkhlijbpmgpaaGreatAm6
import Derived.Test.YtojkhlijbpmgpaaGreatAm5
import Derived.Test.YtojkhlijbpmgpaaGreatWd
import Derived.Test.YtojkhlijbpmgpaaGreatIt0
set_option linter.unusedSimpArgs false
set_option linter.unusedVariables false
set_option linter.unusedSectionVars false
namespace Go.Proofs.YtojkhlijbpmgpaaGreat
open Go Am
set_option maxRecDepth 100000
theorem beliefsO_run (names : List (List UInt8)) (ranks : List Int) (hn : names.length < 1000000000) (hl : ranks.length < 1000000000) : run tb 39 [strsD names, numsD ranks] = some [bvD (beliefsS names ranks)] := by
 refine run_ir (x := ir39) rfl ?_
 have h := leastO_run names ranks hn hl (BitVec.allOnes 64)
 simp (disch := omega) only [ir39, stepQ, stepL, eq_self, aBin, reduceIte, Int.reduceEq, Int.reduceLT, Int.reduceLE, Int.reduceGT, Int.reduceGE, bvQ, wu, shl_norm, shr_norm, and1_norm, h, beliefsS]
end Go.Proofs.YtojkhlijbpmgpaaGreat

namespace Go.Proofs.YtojkhlijbpmgpaaGreat
open Go Am
set_option maxRecDepth 100000
theorem small_size {f : F} (h : smallF f = true) : f.size ≤ 800 ∧ f.depth ≤ 30 ∧ F.allF nameB f = true := by
 unfold smallF at h
 simp only [Bool.and_eq_true, decide_eq_true_eq] at h
 exact ⟨h.1, h.2.1, allF_mono (fun g hg => by simp only [shortB, nameB, decide_eq_true_eq] at hg ⊢; omega) f h.2.2⟩
end Go.Proofs.YtojkhlijbpmgpaaGreat

namespace Go.Proofs.YtojkhlijbpmgpaaGreat
open Go Am
set_option maxRecDepth 100000
end Go.Proofs.YtojkhlijbpmgpaaGreat

namespace Go.Proofs.YtojkhlijbpmgpaaGreat
open Go Am
set_option maxRecDepth 100000
theorem equalS_run (a b : List (List UInt8)) (ha : a.length < 1000000000) : run tb 26 [strsD a, strsD b] = some [.bool (decide (a = b))] := by
 refine run_ir (x := ir26) rfl ?_
 by_cases hl : a.length = b.length
 · simp (disch := omega) only [ir26, stepQ, stepL, eq_self, aBin, reduceIte, Int.reduceEq, Int.reduceLT, Int.reduceLE, Int.reduceGT, Int.reduceGE, len_S, ibne, hl]
   have h0 : decide (a = b) = decide (a.drop 0 = b.drop 0) := by simp
   rw [h0]
   refine loop_k (σ := Unit) b.length (fun _ _ => True) (fun i _ => [.int .i64 i]) (fun i _ => [.bool (decide (a.drop i = b.drop i))]) ?_ ?_ 0 () (Nat.zero_le _) trivial
   · rintro i _ L hi _ hL
     have hnext := hL () trivial
     have hia : i < a.length := by omega
     have e1 : a.drop i = a[i] :: a.drop (i + 1) := List.drop_eq_getElem_cons hia
     have e2 : b.drop i = b[i] :: b.drop (i + 1) := List.drop_eq_getElem_cons hi
     rw [e1, e2]
     by_cases h : a[i] = b[i]
     · have : decide (a[i] :: a.drop (i + 1) = b[i] :: b.drop (i + 1)) = decide (a.drop (i + 1) = b.drop (i + 1)) := by rw [h]; exact decide_eq_decide.2 ⟨fun e => (List.cons.inj e).2, fun e => by rw [e]⟩
       rw [this]
       have b1 : (a[i] == b[i]) = true := beq_iff_eq.2 h
       have b2 : (a[i] != b[i]) = false := by rw [bne, b1]; rfl
       simp (disch := omega) only [ir26p0, stepQ, stepL, eq_self, aBin, reduceIte, Int.reduceEq, Int.reduceLT, Int.reduceLE, Int.reduceGT, Int.reduceGE, len_S, hi, hia, row_S, ibne, b1, b2, wr, natS, hnext]
     · have : decide (a[i] :: a.drop (i + 1) = b[i] :: b.drop (i + 1)) = false := decide_eq_false fun e => h (List.cons.inj e).1
       rw [this]
       have b1 : (a[i] == b[i]) = false := beq_eq_false_iff_ne.2 h
       have b2 : (a[i] != b[i]) = true := by rw [bne, b1]; rfl
       simp (disch := omega) only [ir26p0, stepQ, stepL, eq_self, aBin, reduceIte, Int.reduceEq, Int.reduceLT, Int.reduceLE, Int.reduceGT, Int.reduceGE, len_S, hi, hia, row_S, ibne, b1, b2, wr, natS]
   · rintro _ L _
     have : decide (a.drop b.length = b.drop b.length) = true := by simp [← hl]
     rw [this]
     simp (disch := omega) only [ir26p0, stepQ, stepL, eq_self, aBin, reduceIte, Int.reduceEq, Int.reduceLT, Int.reduceLE, Int.reduceGT, Int.reduceGE, len_S, hl, Nat.lt_irrefl]
 · have : decide (a = b) = false := by simp; rintro rfl; exact hl rfl
   rw [this]
   simp (disch := omega) only [ir26, stepQ, stepL, eq_self, aBin, reduceIte, Int.reduceEq, Int.reduceLT, Int.reduceLE, Int.reduceGT, Int.reduceGE, len_S, ibne, hl]
theorem sameN_run (a b : List (List UInt8)) (ha : a.length < 1000000000) : run tb 40 [strsD a, strsD b] = some [.bool (decide (a = b))] := by
 refine run_ir (x := ir40) rfl ?_
 by_cases hl : a.length = b.length
 · simp (disch := omega) only [ir40, stepQ, stepL, eq_self, aBin, reduceIte, Int.reduceEq, Int.reduceLT, Int.reduceLE, Int.reduceGT, Int.reduceGE, len_S, ibne, hl]
   have h0 : decide (a = b) = decide (a.drop 0 = b.drop 0) := by simp
   rw [h0]
   refine loop_k (σ := Unit) b.length (fun _ _ => True) (fun i _ => [.int .i64 i]) (fun i _ => [.bool (decide (a.drop i = b.drop i))]) ?_ ?_ 0 () (Nat.zero_le _) trivial
   · rintro i _ L hi _ hL
     have hnext := hL () trivial
     have hia : i < a.length := by omega
     have e1 : a.drop i = a[i] :: a.drop (i + 1) := List.drop_eq_getElem_cons hia
     have e2 : b.drop i = b[i] :: b.drop (i + 1) := List.drop_eq_getElem_cons hi
     rw [e1, e2]
     by_cases h : a[i] = b[i]
     · have : decide (a[i] :: a.drop (i + 1) = b[i] :: b.drop (i + 1)) = decide (a.drop (i + 1) = b.drop (i + 1)) := by rw [h]; exact decide_eq_decide.2 ⟨fun e => (List.cons.inj e).2, fun e => by rw [e]⟩
       rw [this]
       have b1 : (a[i] == b[i]) = true := beq_iff_eq.2 h
       have b2 : (a[i] != b[i]) = false := by rw [bne, b1]; rfl
       simp (disch := omega) only [ir40p0, stepQ, stepL, eq_self, aBin, reduceIte, Int.reduceEq, Int.reduceLT, Int.reduceLE, Int.reduceGT, Int.reduceGE, len_S, hi, hia, row_S, ibne, b1, b2, wr, natS, hnext]
     · have : decide (a[i] :: a.drop (i + 1) = b[i] :: b.drop (i + 1)) = false := decide_eq_false fun e => h (List.cons.inj e).1
       rw [this]
       have b1 : (a[i] == b[i]) = false := beq_eq_false_iff_ne.2 h
       have b2 : (a[i] != b[i]) = true := by rw [bne, b1]; rfl
       simp (disch := omega) only [ir40p0, stepQ, stepL, eq_self, aBin, reduceIte, Int.reduceEq, Int.reduceLT, Int.reduceLE, Int.reduceGT, Int.reduceGE, len_S, hi, hia, row_S, ibne, b1, b2, wr, natS]
   · rintro _ L _
     have : decide (a.drop b.length = b.drop b.length) = true := by simp [← hl]
     rw [this]
     simp (disch := omega) only [ir40p0, stepQ, stepL, eq_self, aBin, reduceIte, Int.reduceEq, Int.reduceLT, Int.reduceLE, Int.reduceGT, Int.reduceGE, len_S, hl, Nat.lt_irrefl]
 · have : decide (a = b) = false := by simp; rintro rfl; exact hl rfl
   rw [this]
   simp (disch := omega) only [ir40, stepQ, stepL, eq_self, aBin, reduceIte, Int.reduceEq, Int.reduceLT, Int.reduceLE, Int.reduceGT, Int.reduceGE, len_S, ibne, hl]
end Go.Proofs.YtojkhlijbpmgpaaGreat

namespace Go.Proofs.YtojkhlijbpmgpaaGreat
open Go Am
set_option maxRecDepth 100000
section
variable (names : List (List UInt8)) (ranks : List Int) (f : F) (hn : names.length < 1000000000) (hs : ∀ s ∈ names, s.length < 9223372036854775808) (hl : ranks.length < 1000000000) (hf : f.size < 1000000000) (hb : F.allF nameB f = true)
include hn hs hl hf hb
end
end Go.Proofs.YtojkhlijbpmgpaaGreat

namespace Go.Proofs.YtojkhlijbpmgpaaGreat
open Go Am
set_option maxRecDepth 100000
end Go.Proofs.YtojkhlijbpmgpaaGreat

namespace Go.Proofs.YtojkhlijbpmgpaaGreat
open Go Am
set_option maxRecDepth 100000
end Go.Proofs.YtojkhlijbpmgpaaGreat

namespace Go.Proofs.YtojkhlijbpmgpaaGreat
open Go Am
set_option maxRecDepth 100000
theorem nextS_len (names : List (List UInt8)) (k : Int) (R : List Int) (m : BitVec 64) : (nextS names k R m).length = R.length := by simp [nextS, norm_len, nxtPL]
theorem small35_run (a : List (List UInt8)) (x : List Int) : run tb 2 [strsD a, numsD x] = some [.bool (decide (a.length ≤ 10) && decide (x.length ≤ 100))] := by
 refine run_ir (x := ir2) rfl ?_
 by_cases h1 : a.length ≤ 10
 · by_cases h2 : x.length ≤ 100
   · simp (disch := omega) only [ir2, stepQ, stepL, eq_self, aBin, reduceIte, Int.reduceEq, Int.reduceLT, Int.reduceLE, Int.reduceGT, Int.reduceGE, len_S, len_N, show ((a.length : Int) ≤ 10) = True by simp; omega, show ((x.length : Int) ≤ 100) = True by simp; omega, h1, h2, decide_true]
   · simp (disch := omega) only [ir2, stepQ, stepL, eq_self, aBin, reduceIte, Int.reduceEq, Int.reduceLT, Int.reduceLE, Int.reduceGT, Int.reduceGE, len_S, len_N, show ((a.length : Int) ≤ 10) = True by simp; omega, show ((x.length : Int) ≤ 100) = False by simp; omega, h1, h2, decide_true, decide_false]
 · simp (disch := omega) only [ir2, stepQ, stepL, eq_self, aBin, reduceIte, Int.reduceEq, Int.reduceLT, Int.reduceLE, Int.reduceGT, Int.reduceGE, len_S, len_N, show ((a.length : Int) ≤ 10) = False by simp; omega, h1, decide_false]
theorem short_vocI {names : List (List UInt8)} (h : vocOk names = true) : names.length < 1000000000 ∧ ∀ s ∈ names, s.length < 9223372036854775808 :=
 ⟨by have := vocOk_len h; omega, fun s hs => by have := validName_le' ((okNames_asc (vocOk_names h)).2 s hs); omega⟩
end Go.Proofs.YtojkhlijbpmgpaaGreat

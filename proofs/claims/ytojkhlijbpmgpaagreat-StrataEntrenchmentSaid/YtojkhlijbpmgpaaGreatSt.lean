/- What functions of the program compute: lemmas. -/
import Derived.Test.YtojkhlijbpmgpaaGreatOd
import Derived.Test.YtojkhlijbpmgpaaGreatAm6
import Derived.Test.YtojkhlijbpmgpaaGreatWd
set_option linter.unusedSimpArgs false
set_option linter.unusedVariables false
set_option linter.unusedSectionVars false
namespace Go.Proofs.YtojkhlijbpmgpaaGreat
open Go Am
set_option maxRecDepth 100000
end Go.Proofs.YtojkhlijbpmgpaaGreat

namespace Go.Proofs.YtojkhlijbpmgpaaGreat
open Go Am
set_option maxRecDepth 100000
end Go.Proofs.YtojkhlijbpmgpaaGreat

namespace Go.Proofs.YtojkhlijbpmgpaaGreat
open Go Am
set_option maxRecDepth 100000
def belE (names : List (List UInt8)) (ranks : List Int) (f : F) : Bool × Int :=
 if orderE names ranks = 0 then (if modelsE names f = 0 then (decide (beliefsS names ranks &&& ~~~modelsS names f = 0#64), 0) else (false, modelsE names f)) else (false, orderE names ranks)
theorem believes3_run (names : List (List UInt8)) (ranks : List Int) (f : F) (hn : names.length < 1000000000) (hl : ranks.length < 1000000000) (hf : f.size < 1000000000) (hs : ∀ s ∈ names, s.length < 9223372036854775808) (hb : F.allF nameB f = true) :
 run tb 14 [strsD names, numsD ranks, .int .i64 f.op, .str f.name, .sl (F.encs f.args)] = some [.bool (belE names ranks f).1, .int .i64 (belE names ranks f).2] := by
 refine run_ir (x := ir14) rfl ?_
 have h1 := validateO3_run names ranks hn hs hl
 have h2 := modelsR_run names f hn hs hf hb
 have h3 := beliefs3_run names ranks hn hs hl
 simp only [rowF] at h2
 unfold belE
 by_cases c1 : orderE names ranks = 0
 · rw [c1] at h1 ⊢
   by_cases c2 : modelsE names f = 0
   · rw [c2] at h2 ⊢
     by_cases c3 : beliefsS names ranks &&& ~~~modelsS names f = 0#64
     · simp (disch := omega) only [ir14, stepQ, stepL, eq_self, aBin, reduceIte, Int.reduceEq, Int.reduceLT, Int.reduceLE, Int.reduceGT, Int.reduceGE, bvQ, wu, shl_norm, shr_norm, and1_norm, h1, h2, h3, ibne, c3, callQ_tvi, if_true]
     · simp (disch := omega) only [ir14, stepQ, stepL, eq_self, aBin, reduceIte, Int.reduceEq, Int.reduceLT, Int.reduceLE, Int.reduceGT, Int.reduceGE, bvQ, wu, shl_norm, shr_norm, and1_norm, h1, h2, h3, ibne, c3, callQ_tvi, if_true]
   · simp (disch := omega) only [ir14, stepQ, stepL, eq_self, aBin, reduceIte, Int.reduceEq, Int.reduceLT, Int.reduceLE, Int.reduceGT, Int.reduceGE, bvQ, wu, shl_norm, shr_norm, and1_norm, h1, h2, h3, ibne, c2, callQ_tvi, if_true, if_false]
 · simp (disch := omega) only [ir14, stepQ, stepL, eq_self, aBin, reduceIte, Int.reduceEq, Int.reduceLT, Int.reduceLE, Int.reduceGT, Int.reduceGE, bvQ, wu, shl_norm, shr_norm, and1_norm, h1, ibne, c1, if_false]
end Go.Proofs.YtojkhlijbpmgpaaGreat

namespace Go.Proofs.YtojkhlijbpmgpaaGreat
open Go Am
set_option maxRecDepth 100000
end Go.Proofs.YtojkhlijbpmgpaaGreat

namespace Go.Proofs.YtojkhlijbpmgpaaGreat
open Go Am
set_option maxRecDepth 100000
end Go.Proofs.YtojkhlijbpmgpaaGreat

namespace Go.Proofs.YtojkhlijbpmgpaaGreat
open Go Am
set_option maxRecDepth 100000
theorem hasT_run (x : BitVec 64) (w : Nat) (h : w < 9223372036854775808) : run tb 46 [bvD x, .int .i64 w] = some [.bool (x.getLsbD w)] := by
 refine run_ir (x := ir46) rfl ?_
 simp (disch := omega) only [ir46, stepQ, stepL, eq_self, aBin, reduceIte, Int.reduceEq, Int.reduceLT, Int.reduceLE, Int.reduceGT, Int.reduceGE, bvQ, wu, shl_norm, shr_norm, and1_norm]
theorem slmax_run (ranks : List Int) (h0 : 0 < ranks.length) (hl : ranks.length < 1000000000) (hp : ∀ r ∈ ranks, 0 ≤ r) : run tb 45 [numsD ranks] = some [.int .i64 (maxR ranks)] := by
 refine run_ir (x := ir45) rfl ?_
 have h1 : ¬ ((ranks.length : Nat) : Int) < 1 := by omega
 have hrow := row_N (l := ranks) (i := 0) h0
 rw [nat0] at hrow
 simp (disch := omega) only [ir45, stepQ, stepL, eq_self, aBin, reduceIte, Int.reduceEq, Int.reduceLT, Int.reduceLE, Int.reduceGT, Int.reduceGE, len_N, h1, hrow]
 have h0 : maxF ranks[0] (ranks.drop 1) = maxR ranks := by
  have : maxR ranks = maxF (max1 0 ranks[0]) (ranks.drop 1) := by
   cases ranks with
   | nil => simp at h0
   | cons a l => rfl
  rw [this]
  have : max1 0 ranks[0] = ranks[0] := by have := hp _ (List.getElem_mem h0); unfold max1; split <;> omega
  rw [this]
 have hone : (1 : Int) = ((1 : Nat) : Int) := rfl
 rw [hone]
 refine loop_k (σ := Int) ranks.length (fun i x => maxF x (ranks.drop i) = maxR ranks) (fun i x => [.int .i64 x, .int .i64 i]) (fun _ _ => [.int .i64 (maxR ranks)]) ?_ ?_ 1 ranks[0] (by omega) h0
 · rintro i x L hi hx hL
   rw [drop_s hi] at hx
   have hnext := hL (max1 x ranks[i]) hx
   unfold max1 at hnext
   simp (disch := omega) only [ir45p0, stepQ, stepL, eq_self, aBin, reduceIte, Int.reduceEq, Int.reduceLT, Int.reduceLE, Int.reduceGT, Int.reduceGE, len_N, hi, row_N, wr, natS, hnext]
 · rintro x L hx
   rw [List.drop_length] at hx
   have : x = maxR ranks := hx
   subst this
   simp (disch := omega) only [ir45p0, stepQ, stepL, eq_self, aBin, reduceIte, Int.reduceEq, Int.reduceLT, Int.reduceLE, Int.reduceGT, Int.reduceGE, len_N, Nat.lt_irrefl]
theorem first_run (names : List (List UInt8)) (hn : names.length < 1000000000) (fs : List F) (hf : ∀ f ∈ fs, f.size < 1000000000) (hfl : fs.length < 1000000000) :
 run tb 62 [strsD names, .sl (F.encs fs)] = some [.int .i64 (fstE names fs)] := by
 refine run_ir (x := ir62) rfl ?_
 simp (disch := omega) only [ir62, stepQ, stepL, eq_self, aBin, reduceIte, Int.reduceEq, Int.reduceLT, Int.reduceLE, Int.reduceGT, Int.reduceGE, len_F]
 refine loop_k (σ := Unit) fs.length (fun i _ => fstE names (fs.drop i) = fstE names fs) (fun i _ => [.int .i64 i]) (fun _ _ => [.int .i64 (fstE names fs)]) ?_ ?_ 0 () (Nat.zero_le _) rfl
 · rintro i _ L hi hp hL
   rw [drop_s hi, fstE_cons] at hp
   have hm := modelsW_run names fs[i] hn (hf _ (List.getElem_mem hi))
   simp only [rowF] at hm
   by_cases c : modelsE names fs[i] = 0
   · rw [if_pos c] at hp
     have hnext := hL () hp
     rw [c] at hm
     simp (disch := omega) only [ir62p0, stepQ, stepL, eq_self, aBin, reduceIte, Int.reduceEq, Int.reduceLT, Int.reduceLE, Int.reduceGT, Int.reduceGE, hi, row_F, hm, ibne, wr, natS, hnext]
   · rw [if_neg c] at hp
     rw [hp] at hm c
     simp (disch := omega) only [ir62p0, stepQ, stepL, eq_self, aBin, reduceIte, Int.reduceEq, Int.reduceLT, Int.reduceLE, Int.reduceGT, Int.reduceGE, hi, row_F, hm, ibne, c]
 · rintro _ L hp
   rw [List.drop_length] at hp
   simp (disch := omega) only [ir62p0, stepQ, stepL, eq_self, aBin, reduceIte, Int.reduceEq, Int.reduceLT, Int.reduceLE, Int.reduceGT, Int.reduceGE, Nat.lt_irrefl, ← hp, fstE_nil]
theorem degree_run (names : List (List UInt8)) (ranks : List Int) (f : F) (hn : names.length < 1000000000) (hl : ranks.length < 1000000000) (hf : f.size < 1000000000) :
 run tb 9 [strsD names, numsD ranks, .int .i64 f.op, .str f.name, .sl (F.encs f.args)] = some (if degE names ranks f = 0 then [.int .i64 (degS ranks (modelsS names f)), .int .i64 0] else [.int .i64 0, .int .i64 (degE names ranks f)]) := by
 refine run_ir (x := ir9) rfl ?_
 have h1 := validateO_run names ranks hn hl
 have h2 := modelsW_run names f hn hf
 simp only [rowF] at h2
 by_cases c1 : orderE names ranks = 0
 · have h1 := h1
   rw [c1] at h1
   by_cases c2 : modelsE names f = 0
   · rw [c2] at h2
     have ha : degE names ranks f = 0 := by unfold degE; rw [if_neg (by simp [c1]), c2]
     rw [ha, if_pos rfl]
     obtain ⟨_, _, hrk⟩ := orderE_zero c1
     have hlen := orderE_len c1
     have hmem := rkIn_mem (rkOk_in hrk)
     have hmx := slmax_run ranks hlen.2 hl fun r hr => (hmem r hr).1
     have hmlt := maxR_lt (rkOk_in hrk) hlen.2
     have hmge := maxR_ge ranks
     unfold degS
     generalize modelsS names f = m at *
     have hw1 : IntKind.i64.wrap (maxR ranks + 1) = maxR ranks + 1 := wr (by omega) (by omega)
     simp (disch := omega) only [ir9, stepQ, stepL, eq_self, aBin, reduceIte, Int.reduceEq, Int.reduceLT, Int.reduceLE, Int.reduceGT, Int.reduceGE, h1, h2, ibne, hmx, hw1, len_N]
     generalize maxR ranks + 1 = a at *
     refine loop_k (σ := Unit) ranks.length (fun _ _ => True) (fun i _ => [.int .i64 (degF ranks m a i), .int .i64 i]) (fun _ _ => [.int .i64 (degF ranks m a ranks.length), .int .i64 0]) ?_ ?_ 0 () (Nat.zero_le _) trivial
     · rintro i _ L hi _ hL
       have hnext := hL () trivial
       have hh := hasT_run m i (by omega)
       rw [degF_succ, gd hi] at hnext
       unfold min1 at hnext
       cases hb : m.getLsbD i with
       | true =>
        rw [hb] at hh hnext
        rw [if_pos rfl] at hnext
        simp (disch := omega) only [ir9p1, ir9p0, stepQ, stepL, eq_self, aBin, reduceIte, Int.reduceEq, Int.reduceLT, Int.reduceLE, Int.reduceGT, Int.reduceGE, hi, row_N, hh, wr, natS, hnext]
       | false =>
        rw [hb] at hh hnext
        rw [if_neg (by simp)] at hnext
        simp (disch := omega) only [ir9p1, ir9p0, stepQ, stepL, eq_self, aBin, reduceIte, Int.reduceEq, Int.reduceLT, Int.reduceLE, Int.reduceGT, Int.reduceGE, hi, row_N, hh, wr, natS, hnext]
     · rintro _ L _
       simp (disch := omega) only [ir9p1, stepQ, stepL, eq_self, aBin, reduceIte, Int.reduceEq, Int.reduceLT, Int.reduceLE, Int.reduceGT, Int.reduceGE, Nat.lt_irrefl]
   · have ha : degE names ranks f = modelsE names f := by unfold degE; rw [if_neg (by simp [c1])]
     rw [ha, if_neg c2]
     simp (disch := omega) only [ir9, stepQ, stepL, eq_self, aBin, reduceIte, Int.reduceEq, Int.reduceLT, Int.reduceLE, Int.reduceGT, Int.reduceGE, h1, h2, ibne, c2]
 · have ha : degE names ranks f = orderE names ranks := by unfold degE; rw [if_pos c1]
   rw [ha, if_neg c1]
   simp (disch := omega) only [ir9, stepQ, stepL, eq_self, aBin, reduceIte, Int.reduceEq, Int.reduceLT, Int.reduceLE, Int.reduceGT, Int.reduceGE, h1, ibne, c1]
end Go.Proofs.YtojkhlijbpmgpaaGreat

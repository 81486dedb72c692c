/- What functions of the program compute: lemmas. -/
import Derived.Test.YtmjnhmeckloanaaGreatOd
import Derived.Test.YtmjnhmeckloanaaGreatWd
import Derived.Test.YtmjnhmeckloanaaGreatAm6
set_option linter.unusedSimpArgs false
set_option linter.unusedVariables false
set_option linter.unusedSectionVars false
namespace Go.Proofs.YtmjnhmeckloanaaGreat
open Go Am
set_option maxRecDepth 100000
theorem hasI_run (x : BitVec 64) (w : Nat) (h : w < 9223372036854775808) : run tb 32 [bvD x, .int .i64 w] = some [.bool (x.getLsbD w)] := by
 refine run_ir (x := ir32) rfl ?_
 simp (disch := omega) only [ir32, stepQ, stepL, eq_self, aBin, reduceIte, Int.reduceEq, Int.reduceLT, Int.reduceLE, Int.reduceGT, Int.reduceGE, bvQ, wu, shl_norm, shr_norm, and1_norm]
theorem rank_run (names : D) (o : List Int) (m l : BitVec 64) (k : Int) (hk : k = 1 ∨ k = 2 ∨ k = 3) (w : Nat) (hw : w < o.length) (hr : 0 ≤ o[w] ∧ o[w] < o.length) (h64 : o.length ≤ 64) :
 run tb 62 [names, numsD o, .int .i64 w, bvD m, bvD l, .int .i64 k] = some [.int .i64 (nxtP k o.length m l o[w] w)] := by
 refine run_ir (x := ir62) rfl ?_
 have h1 := hasI_run m w (by omega)
 have h2 := hasI_run l w (by omega)
 have hrow := row_N hw
 unfold nxtP
 generalize o[w] = r at *
 cases hm : m.getLsbD w <;> rw [hm] at h1 <;> cases hl : l.getLsbD w <;> rw [hl] at h2 <;> rcases hk with rfl | rfl | rfl <;>
  simp (disch := omega) only [ir62, ir62p1, ir62p0, stepQ, stepL, eq_self, aBin, reduceIte, Int.reduceEq, Int.reduceLT, Int.reduceLE, Int.reduceGT, Int.reduceGE, hrow, len_N, h1, h2, wr, if_true, if_false, Bool.false_eq_true, true_and, and_true, false_and, not_true_eq_false, not_false_eq_true]
theorem nextI_run (names : List (List UInt8)) (o : List Int) (m : BitVec 64) (k : Int) (hk : k = 1 ∨ k = 2 ∨ k = 3) (ho : orderE names o = 0) :
 run tb 26 [strsD names, numsD o, bvD m, .int .i64 k] = some [strsD names, numsD (nextS names k o m), .int .i64 0] := by
 refine run_ir (x := ir26) rfl ?_
 obtain ⟨hv, la, ra⟩ := orderE_zero ho
 have h64 := orderE_len ho
 have hvl : names.length < 1000000000 := by have := vocOk_len hv; omega
 have hle := leastO_run names o hvl (by omega) m
 unfold nextS
 generalize leastS names o m = l at *
 have hmkN := mkN (n := o.length) (by omega)
 have hlx : (nxtPL k o m l).length = o.length := by simp [nxtPL]
 rw [← hlx, fill_zero, hlx] at hmkN
 have hfl : ∀ i, (fillR (nxtPL k o m l) i).length = o.length := fun i => by simp [fillR, hlx]
 have hl3 : PO.eval .lenL [numsD (fillR (nxtPL k o m l) 0)] = some [.int .i64 o.length] := by rw [len_N, hfl]
 have hlo : PO.eval .lenL [numsD o] = some [.int .i64 o.length] := len_N o
 simp (disch := omega) only [ir26, stepQ, stepL, eq_self, aBin, reduceIte, Int.reduceEq, Int.reduceLT, Int.reduceLE, Int.reduceGT, Int.reduceGE, hle, hlo, hmkN, hl3]
 refine loop_k (σ := Unit) o.length (fun _ _ => True) (fun i _ => [.int .i64 i, numsD (fillR (nxtPL k o m l) i)]) (fun _ _ => [strsD names, numsD (normS (nxtPL k o m l)), .int .i64 0]) ?_ ?_ 0 () (Nat.zero_le _) trivial
 · rintro i _ M hi _ hM
   have hnext := hM () trivial
   rw [← fill_succ (by omega), nxtP_get hi, gd hi] at hnext
   have hr := rkIn_mem (rkOk_in ra) o[i] (List.getElem_mem _)
   have hrk := rank_run (strsD names) o m l k hk i hi hr h64.1
   have hc := chk_N (l := fillR (nxtPL k o m l) i) (i := i) (by rw [hfl]; exact hi)
   have hs := set_N (l := fillR (nxtPL k o m l) i) (i := i) (by rw [hfl]; exact hi) (nxtP k o.length m l o[i] i)
   simp (disch := omega) only [ir26p0, stepQ, stepL, eq_self, aBin, reduceIte, Int.reduceEq, Int.reduceLT, Int.reduceLE, Int.reduceGT, Int.reduceGE, hi, hrk, hc, hs, wr, natS, hnext]
 · rintro _ M _
   have hno := normal_run names (nxtPL k o m l) hvl (by omega)
   rw [if_pos (by simp [normE, hv, hlx, la])] at hno
   have he : fillR (nxtPL k o m l) o.length = nxtPL k o m l := by rw [← hlx]; exact fill_end _
   simp (disch := omega) only [ir26p0, stepQ, stepL, eq_self, aBin, reduceIte, Int.reduceEq, Int.reduceLT, Int.reduceLE, Int.reduceGT, Int.reduceGE, Nat.lt_irrefl, he, hno, callQ_tvi]
theorem exists_run (k : Int) : run tb 61 [.int .i64 k] = some [.bool (decide (1 ≤ k ∧ k ≤ 3))] := by
 refine run_ir (x := ir61) rfl ?_
 by_cases h1 : k ≥ 1
 · by_cases h2 : k ≤ 3
   · rw [decide_eq_true ⟨h1, h2⟩]; simp (disch := omega) only [ir61, stepQ, stepL, eq_self, aBin, reduceIte, Int.reduceEq, Int.reduceLT, Int.reduceLE, Int.reduceGT, Int.reduceGE, h1, h2]
   · rw [decide_eq_false (fun h => h2 h.2)]; simp (disch := omega) only [ir61, stepQ, stepL, eq_self, aBin, reduceIte, Int.reduceEq, Int.reduceLT, Int.reduceLE, Int.reduceGT, Int.reduceGE, h1, h2]
 · rw [decide_eq_false (fun h => h1 h.1)]; simp (disch := omega) only [ir61, stepQ, stepL, eq_self, aBin, reduceIte, Int.reduceEq, Int.reduceLT, Int.reduceLE, Int.reduceGT, Int.reduceGE, h1]
def ckE (names : List (List UInt8)) (ranks : List Int) (k : Int) : Int := if orderE names ranks ≠ 0 then orderE names ranks else if ¬ (1 ≤ k ∧ k ≤ 3) then 4 else 0
theorem check_run (names : List (List UInt8)) (ranks : List Int) (k : Int) (hn : names.length < 1000000000) (hl : ranks.length < 1000000000) : run tb 25 [strsD names, numsD ranks, .int .i64 k] = some [.int .i64 (ckE names ranks k)] := by
 refine run_ir (x := ir25) rfl ?_
 have h1 := validateO_run names ranks hn hl
 have h2 := exists_run k
 unfold ckE
 by_cases c1 : orderE names ranks = 0
 · rw [c1] at h1 ⊢
   rw [if_neg (by simp)]
   by_cases c2 : 1 ≤ k ∧ k ≤ 3
   · rw [decide_eq_true c2] at h2
     rw [if_neg (by simp [c2])]
     simp (disch := omega) only [ir25, stepQ, stepL, eq_self, aBin, reduceIte, Int.reduceEq, Int.reduceLT, Int.reduceLE, Int.reduceGT, Int.reduceGE, h1, ibne, h2]
   · rw [decide_eq_false c2] at h2
     rw [if_pos c2]
     simp (disch := omega) only [ir25, stepQ, stepL, eq_self, aBin, reduceIte, Int.reduceEq, Int.reduceLT, Int.reduceLE, Int.reduceGT, Int.reduceGE, h1, ibne, h2]
 · rw [if_pos c1]
   simp (disch := omega) only [ir25, stepQ, stepL, eq_self, aBin, reduceIte, Int.reduceEq, Int.reduceLT, Int.reduceLE, Int.reduceGT, Int.reduceGE, h1, ibne, c1]
theorem itE_ck {names : List (List UInt8)} {ranks : List Int} {f : F} {k : Int} : itE names ranks f k = if ckE names ranks k ≠ 0 then ckE names ranks k else if modelsE names f ≠ 0 then modelsE names f else if modelsS names f = 0#64 then 9 else 0 := by
 unfold itE ckE
 by_cases c1 : orderE names ranks = 0
 · by_cases c2 : 1 ≤ k ∧ k ≤ 3 <;> simp [c1, c2]
 · simp [c1]
theorem ck_zero {names : List (List UInt8)} {ranks : List Int} {k : Int} (h : ckE names ranks k = 0) : orderE names ranks = 0 ∧ (k = 1 ∨ k = 2 ∨ k = 3) := by
 unfold ckE at h
 by_cases c1 : orderE names ranks = 0
 · refine ⟨c1, ?_⟩
   rw [if_neg (by simp [c1])] at h
   by_cases c2 : 1 ≤ k ∧ k ≤ 3
   · omega
   · rw [if_pos c2] at h; omega
 · rw [if_pos c1] at h; exact absurd h c1
theorem nextP_run (names : List (List UInt8)) (ranks : List Int) (f : F) (k : Int) (hn : names.length < 1000000000) (hl : ranks.length < 1000000000) (hf : f.size < 1000000000) :
 run tb 8 [strsD names, numsD ranks, .int .i64 f.op, .str f.name, .sl (F.encs f.args), .int .i64 k] = some (if itE names ranks f k = 0 then [strsD names, numsD (nextS names k ranks (modelsS names f)), .int .i64 0] else [.sl [], .sl [], .int .i64 (itE names ranks f k)]) := by
 refine run_ir (x := ir8) rfl ?_
 have h1 := check_run names ranks k hn hl
 have h2 := modelsW_run names f hn hf
 simp only [rowF] at h2
 by_cases c1 : ckE names ranks k = 0
 · rw [c1] at h1
   obtain ⟨z1, z2⟩ := ck_zero c1
   by_cases c2 : modelsE names f = 0
   · rw [c2] at h2
     by_cases c3 : modelsS names f = 0#64
     · have e : itE names ranks f k = 9 := by rw [itE_ck]; simp [c1, c2, c3]
       rw [c3] at h2
       rw [e, if_neg (by decide)]
       simp (disch := omega) only [ir8, stepQ, stepL, eq_self, aBin, reduceIte, Int.reduceEq, Int.reduceLT, Int.reduceLE, Int.reduceGT, Int.reduceGE, bvQ, wu, shl_norm, shr_norm, and1_norm, h1, ibne, h2]
     · have e : itE names ranks f k = 0 := by rw [itE_ck]; simp [c1, c2, c3]
       rw [e, if_pos rfl]
       have h3 := nextI_run names ranks (modelsS names f) k z2 z1
       simp (disch := omega) only [ir8, stepQ, stepL, eq_self, aBin, reduceIte, Int.reduceEq, Int.reduceLT, Int.reduceLE, Int.reduceGT, Int.reduceGE, bvQ, wu, shl_norm, shr_norm, and1_norm, h1, ibne, h2, c3, h3, callQ_tvi]
   · have e : itE names ranks f k = modelsE names f := by rw [itE_ck]; simp [c1, c2]
     rw [e, if_neg c2]
     simp (disch := omega) only [ir8, stepQ, stepL, eq_self, aBin, reduceIte, Int.reduceEq, Int.reduceLT, Int.reduceLE, Int.reduceGT, Int.reduceGE, bvQ, wu, shl_norm, shr_norm, and1_norm, h1, ibne, h2, c2]
 · have e : itE names ranks f k = ckE names ranks k := by rw [itE_ck]; simp [c1]
   rw [e, if_neg c1]
   simp (disch := omega) only [ir8, stepQ, stepL, eq_self, aBin, reduceIte, Int.reduceEq, Int.reduceLT, Int.reduceLE, Int.reduceGT, Int.reduceGE, bvQ, wu, shl_norm, shr_norm, and1_norm, h1, ibne, c1]
end Go.Proofs.YtmjnhmeckloanaaGreat

namespace Go.Proofs.YtmjnhmeckloanaaGreat
open Go Am
set_option maxRecDepth 100000
end Go.Proofs.YtmjnhmeckloanaaGreat

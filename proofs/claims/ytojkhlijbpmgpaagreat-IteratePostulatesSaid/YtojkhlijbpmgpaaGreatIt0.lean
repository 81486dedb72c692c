/- What functions of the program compute: lemmas. -/
import Derived.Test.YtojkhlijbpmgpaaGreatOd
import Derived.Test.YtojkhlijbpmgpaaGreatWd
import Derived.Test.YtojkhlijbpmgpaaGreatAm6
set_option linter.unusedSimpArgs false
set_option linter.unusedVariables false
set_option linter.unusedSectionVars false
namespace Go.Proofs.YtojkhlijbpmgpaaGreat
open Go Am
set_option maxRecDepth 100000
theorem hasI_run (x : BitVec 64) (w : Nat) (h : w < 9223372036854775808) : run tb 31 [bvD x, .int .i64 w] = some [.bool (x.getLsbD w)] := by
 refine run_ir (x := ir31) rfl ?_
 simp (disch := omega) only [ir31, stepQ, stepL, eq_self, aBin, reduceIte, Int.reduceEq, Int.reduceLT, Int.reduceLE, Int.reduceGT, Int.reduceGE, bvQ, wu, shl_norm, shr_norm, and1_norm]
theorem hasR_run (x : BitVec 64) (w : Nat) (h : w < 9223372036854775808) : run tb 58 [bvD x, .int .i64 w] = some [.bool (x.getLsbD w)] := by
 refine run_ir (x := ir58) rfl ?_
 simp (disch := omega) only [ir58, stepQ, stepL, eq_self, aBin, reduceIte, Int.reduceEq, Int.reduceLT, Int.reduceLE, Int.reduceGT, Int.reduceGE, bvQ, wu, shl_norm, shr_norm, and1_norm]
theorem rank_run (names : D) (o : List Int) (m l : BitVec 64) (k : Int) (hk : k = 1 ∨ k = 2 ∨ k = 3) (w : Nat) (hw : w < o.length) (hr : 0 ≤ o[w] ∧ o[w] < o.length) (h64 : o.length ≤ 64) :
 run tb 79 [names, numsD o, .int .i64 w, bvD m, bvD l, .int .i64 k] = some [.int .i64 (nxtP k o.length m l o[w] w)] := by
 refine run_ir (x := ir79) rfl ?_
 have h1 := hasI_run m w (by omega)
 have h2 := hasI_run l w (by omega)
 have hrow := row_N hw
 unfold nxtP
 generalize o[w] = r at *
 cases hm : m.getLsbD w <;> rw [hm] at h1 <;> cases hl : l.getLsbD w <;> rw [hl] at h2 <;> rcases hk with rfl | rfl | rfl <;>
  simp (disch := omega) only [ir79, ir79p1, ir79p0, stepQ, stepL, eq_self, aBin, reduceIte, Int.reduceEq, Int.reduceLT, Int.reduceLE, Int.reduceGT, Int.reduceGE, hrow, len_N, h1, h2, wr, if_true, if_false, Bool.false_eq_true, true_and, and_true, false_and, not_true_eq_false, not_false_eq_true]
theorem nextI_run (names : List (List UInt8)) (o : List Int) (m : BitVec 64) (k : Int) (hk : k = 1 ∨ k = 2 ∨ k = 3) (ho : orderE names o = 0) :
 run tb 52 [strsD names, numsD o, bvD m, .int .i64 k] = some [strsD names, numsD (nextS names k o m), .int .i64 0] := by
 refine run_ir (x := ir52) rfl ?_
 obtain ⟨hv, la, ra⟩ := orderE_zero ho
 have h64 := orderE_len ho
 have hvl : names.length < 1000000000 := by have := vocOk_len hv; omega
 have hle := leastO_run names o hvl (by omega) m
 unfold nextS
 generalize leastS names o m = l at *
 have hmkN := mkN (n := o.length) (by omega)
 have hlx : (nxtPL k o m l).length = o.length := by simp [nxtPL]
 rw [← hlx, fill_zero, hlx] at hmkN
 have hfl : ∀ i, (fillR (nxtPL k o m l) i).length = o.length := fun i => by simp [fillR, hlx]
 have hl3 : PO.eval .lenL [numsD (fillR (nxtPL k o m l) 0)] = some [.int .i64 o.length] := by rw [len_N, hfl]
 have hlo : PO.eval .lenL [numsD o] = some [.int .i64 o.length] := len_N o
 simp (disch := omega) only [ir52, stepQ, stepL, eq_self, aBin, reduceIte, Int.reduceEq, Int.reduceLT, Int.reduceLE, Int.reduceGT, Int.reduceGE, hle, hlo, hmkN, hl3]
 refine loop_k (σ := Unit) o.length (fun _ _ => True) (fun i _ => [.int .i64 i, numsD (fillR (nxtPL k o m l) i)]) (fun _ _ => [strsD names, numsD (normS (nxtPL k o m l)), .int .i64 0]) ?_ ?_ 0 () (Nat.zero_le _) trivial
 · rintro i _ M hi _ hM
   have hnext := hM () trivial
   rw [← fill_succ (by omega), nxtP_get hi, gd hi] at hnext
   have hr := rkIn_mem (rkOk_in ra) o[i] (List.getElem_mem _)
   have hrk := rank_run (strsD names) o m l k hk i hi hr h64.1
   have hc := chk_N (l := fillR (nxtPL k o m l) i) (i := i) (by rw [hfl]; exact hi)
   have hs := set_N (l := fillR (nxtPL k o m l) i) (i := i) (by rw [hfl]; exact hi) (nxtP k o.length m l o[i] i)
   simp (disch := omega) only [ir52p0, stepQ, stepL, eq_self, aBin, reduceIte, Int.reduceEq, Int.reduceLT, Int.reduceLE, Int.reduceGT, Int.reduceGE, hi, hrk, hc, hs, wr, natS, hnext]
 · rintro _ M _
   have hno := normal_run names (nxtPL k o m l) hvl (by omega)
   rw [if_pos (by simp [normE, hv, hlx, la])] at hno
   have he : fillR (nxtPL k o m l) o.length = nxtPL k o m l := by rw [← hlx]; exact fill_end _
   simp (disch := omega) only [ir52p0, stepQ, stepL, eq_self, aBin, reduceIte, Int.reduceEq, Int.reduceLT, Int.reduceLE, Int.reduceGT, Int.reduceGE, Nat.lt_irrefl, he, hno, callQ_tvi]
theorem exists_run (k : Int) : run tb 78 [.int .i64 k] = some [.bool (decide (1 ≤ k ∧ k ≤ 3))] := by
 refine run_ir (x := ir78) rfl ?_
 by_cases h1 : k ≥ 1
 · by_cases h2 : k ≤ 3
   · rw [decide_eq_true ⟨h1, h2⟩]; simp (disch := omega) only [ir78, stepQ, stepL, eq_self, aBin, reduceIte, Int.reduceEq, Int.reduceLT, Int.reduceLE, Int.reduceGT, Int.reduceGE, h1, h2]
   · rw [decide_eq_false (fun h => h2 h.2)]; simp (disch := omega) only [ir78, stepQ, stepL, eq_self, aBin, reduceIte, Int.reduceEq, Int.reduceLT, Int.reduceLE, Int.reduceGT, Int.reduceGE, h1, h2]
 · rw [decide_eq_false (fun h => h1 h.1)]; simp (disch := omega) only [ir78, stepQ, stepL, eq_self, aBin, reduceIte, Int.reduceEq, Int.reduceLT, Int.reduceLE, Int.reduceGT, Int.reduceGE, h1]
theorem kind_run (k : Int) : run tb 23 [.int .i64 k] = some [.bool (decide (1 ≤ k ∧ k ≤ 3))] := by
 refine run_ir (x := ir23) rfl ?_
 by_cases h1 : k ≥ 1
 · by_cases h2 : k ≤ 3
   · rw [decide_eq_true ⟨h1, h2⟩]; simp (disch := omega) only [ir23, stepQ, stepL, eq_self, aBin, reduceIte, Int.reduceEq, Int.reduceLT, Int.reduceLE, Int.reduceGT, Int.reduceGE, h1, h2]
   · rw [decide_eq_false (fun h => h2 h.2)]; simp (disch := omega) only [ir23, stepQ, stepL, eq_self, aBin, reduceIte, Int.reduceEq, Int.reduceLT, Int.reduceLE, Int.reduceGT, Int.reduceGE, h1, h2]
 · rw [decide_eq_false (fun h => h1 h.1)]; simp (disch := omega) only [ir23, stepQ, stepL, eq_self, aBin, reduceIte, Int.reduceEq, Int.reduceLT, Int.reduceLE, Int.reduceGT, Int.reduceGE, h1]
def ckE (names : List (List UInt8)) (ranks : List Int) (k : Int) : Int := if orderE names ranks ≠ 0 then orderE names ranks else if ¬ (1 ≤ k ∧ k ≤ 3) then 4 else 0
theorem check_run (names : List (List UInt8)) (ranks : List Int) (k : Int) (hn : names.length < 1000000000) (hl : ranks.length < 1000000000) : run tb 51 [strsD names, numsD ranks, .int .i64 k] = some [.int .i64 (ckE names ranks k)] := by
 refine run_ir (x := ir51) rfl ?_
 have h1 := validateO_run names ranks hn hl
 have h2 := exists_run k
 unfold ckE
 by_cases c1 : orderE names ranks = 0
 · rw [c1] at h1 ⊢
   rw [if_neg (by simp)]
   by_cases c2 : 1 ≤ k ∧ k ≤ 3
   · rw [decide_eq_true c2] at h2
     rw [if_neg (by simp [c2])]
     simp (disch := omega) only [ir51, stepQ, stepL, eq_self, aBin, reduceIte, Int.reduceEq, Int.reduceLT, Int.reduceLE, Int.reduceGT, Int.reduceGE, h1, ibne, h2]
   · rw [decide_eq_false c2] at h2
     rw [if_pos c2]
     simp (disch := omega) only [ir51, stepQ, stepL, eq_self, aBin, reduceIte, Int.reduceEq, Int.reduceLT, Int.reduceLE, Int.reduceGT, Int.reduceGE, h1, ibne, h2]
 · rw [if_pos c1]
   simp (disch := omega) only [ir51, stepQ, stepL, eq_self, aBin, reduceIte, Int.reduceEq, Int.reduceLT, Int.reduceLE, Int.reduceGT, Int.reduceGE, h1, ibne, c1]
theorem itE_ck {names : List (List UInt8)} {ranks : List Int} {f : F} {k : Int} : itE names ranks f k = if ckE names ranks k ≠ 0 then ckE names ranks k else if modelsE names f ≠ 0 then modelsE names f else if modelsS names f = 0#64 then 9 else 0 := by
 unfold itE ckE
 by_cases c1 : orderE names ranks = 0
 · by_cases c2 : 1 ≤ k ∧ k ≤ 3 <;> simp [c1, c2]
 · simp [c1]
theorem ck_zero {names : List (List UInt8)} {ranks : List Int} {k : Int} (h : ckE names ranks k = 0) : orderE names ranks = 0 ∧ (k = 1 ∨ k = 2 ∨ k = 3) := by
 unfold ckE at h
 by_cases c1 : orderE names ranks = 0
 · refine ⟨c1, ?_⟩
   rw [if_neg (by simp [c1])] at h
   by_cases c2 : 1 ≤ k ∧ k ≤ 3
   · omega
   · rw [if_pos c2] at h; omega
 · rw [if_pos c1] at h; exact absurd h c1
theorem nextP_run (names : List (List UInt8)) (ranks : List Int) (f : F) (k : Int) (hn : names.length < 1000000000) (hl : ranks.length < 1000000000) (hf : f.size < 1000000000) :
 run tb 14 [strsD names, numsD ranks, .int .i64 f.op, .str f.name, .sl (F.encs f.args), .int .i64 k] = some (if itE names ranks f k = 0 then [strsD names, numsD (nextS names k ranks (modelsS names f)), .int .i64 0] else [.sl [], .sl [], .int .i64 (itE names ranks f k)]) := by
 refine run_ir (x := ir14) rfl ?_
 have h1 := check_run names ranks k hn hl
 have h2 := modelsW_run names f hn hf
 simp only [rowF] at h2
 by_cases c1 : ckE names ranks k = 0
 · rw [c1] at h1
   obtain ⟨z1, z2⟩ := ck_zero c1
   by_cases c2 : modelsE names f = 0
   · rw [c2] at h2
     by_cases c3 : modelsS names f = 0#64
     · have e : itE names ranks f k = 9 := by rw [itE_ck]; simp [c1, c2, c3]
       rw [c3] at h2
       rw [e, if_neg (by decide)]
       simp (disch := omega) only [ir14, stepQ, stepL, eq_self, aBin, reduceIte, Int.reduceEq, Int.reduceLT, Int.reduceLE, Int.reduceGT, Int.reduceGE, bvQ, wu, shl_norm, shr_norm, and1_norm, h1, ibne, h2]
     · have e : itE names ranks f k = 0 := by rw [itE_ck]; simp [c1, c2, c3]
       rw [e, if_pos rfl]
       have h3 := nextI_run names ranks (modelsS names f) k z2 z1
       simp (disch := omega) only [ir14, stepQ, stepL, eq_self, aBin, reduceIte, Int.reduceEq, Int.reduceLT, Int.reduceLE, Int.reduceGT, Int.reduceGE, bvQ, wu, shl_norm, shr_norm, and1_norm, h1, ibne, h2, c3, h3, callQ_tvi]
   · have e : itE names ranks f k = modelsE names f := by rw [itE_ck]; simp [c1, c2]
     rw [e, if_neg c2]
     simp (disch := omega) only [ir14, stepQ, stepL, eq_self, aBin, reduceIte, Int.reduceEq, Int.reduceLT, Int.reduceLE, Int.reduceGT, Int.reduceGE, bvQ, wu, shl_norm, shr_norm, and1_norm, h1, ibne, h2, c2]
 · have e : itE names ranks f k = ckE names ranks k := by rw [itE_ck]; simp [c1]
   rw [e, if_neg c1]
   simp (disch := omega) only [ir14, stepQ, stepL, eq_self, aBin, reduceIte, Int.reduceEq, Int.reduceLT, Int.reduceLE, Int.reduceGT, Int.reduceGE, bvQ, wu, shl_norm, shr_norm, and1_norm, h1, ibne, c1]
theorem shift_run (names : List (List UInt8)) (o : List Int) (m : BitVec 64) (k : Int) (hk : k = 1 ∨ k = 2 ∨ k = 3) (ho : orderE names o = 0) :
 run tb 24 [strsD names, numsD o, bvD m, .int .i64 k] = some [strsD names, numsD (nextS names k o m)] := by
 refine run_ir (x := ir24) rfl ?_
 obtain ⟨hv, la, ra⟩ := orderE_zero ho
 have h64 := orderE_len ho
 have hvl : names.length < 1000000000 := by have := vocOk_len hv; omega
 have hvs : ∀ s ∈ names, s.length < 9223372036854775808 := fun s hs => by have := validName_le' ((okNames_asc (vocOk_names hv)).2 s hs); omega
 have hle := least3_run names o hvl hvs (by omega) m
 unfold nextS
 generalize leastS names o m = l at *
 have hro : Rk o.length o := ⟨rfl, rkIn_mem (rkOk_in ra)⟩
 rw [← nxt_same hro h64.1 hk m l]
 have hmkN := mkN (n := o.length) (by omega)
 have hlx : (nxtQL k o m l).length = o.length := by simp [nxtQL]
 rw [← hlx, fill_zero, hlx] at hmkN
 have hfl : ∀ i, (fillR (nxtQL k o m l) i).length = o.length := fun i => by simp [fillR, hlx]
 have hlo : PO.eval .lenL [numsD o] = some [.int .i64 o.length] := len_N o
 simp (disch := omega) only [ir24, stepQ, stepL, eq_self, aBin, reduceIte, Int.reduceEq, Int.reduceLT, Int.reduceLE, Int.reduceGT, Int.reduceGE, hle, hlo, hmkN]
 refine loop_k (σ := Unit) o.length (fun _ _ => True) (fun i _ => [.int .i64 i, numsD (fillR (nxtQL k o m l) i)]) (fun _ _ => [strsD names, numsD (normS (nxtQL k o m l))]) ?_ ?_ 0 () (Nat.zero_le _) trivial
 · rintro i _ M hi _ hM
   have hnext := hM () trivial
   rw [← fill_succ (by omega), nxtQ_get hi, gd hi] at hnext
   have hr := rkIn_mem (rkOk_in ra) o[i] (List.getElem_mem _)
   have h1 := hasR_run m i (by omega)
   have h2 := hasR_run l i (by omega)
   have hrow := row_N hi
   have hX := hfl i
   generalize fillR (nxtQL k o m l) i = X at *
   have hlX : PO.eval .lenL [numsD X] = some [.int .i64 o.length] := by rw [len_N, hX]
   have hlS : ∀ a, PO.eval .lenL [numsD (X.set i a)] = some [.int .i64 o.length] := fun a => by rw [len_N, List.length_set, hX]
   have hc := chk_N (l := X) (i := i) (by omega)
   have hs := fun a => set_N (l := X) (i := i) (by omega) a
   have hcS := fun a => chk_N (l := X.set i a) (i := i) (by rw [List.length_set]; omega)
   have hgS : ∀ a, PO.eval (.get 0 1) [numsD (X.set i a), .int .i64 i] = some [.int .i64 a] := fun a => by
    have := get_N (l := X.set i a) (i := i) (by rw [List.length_set]; omega)
    rw [List.getElem_set_self] at this
    exact this
   have hsS : ∀ a b, PO.eval (.set 0 1) [numsD (X.set i a), .int .i64 i, .int .i64 b] = some [numsD (X.set i b)] := fun a b => by
    have := set_N (l := X.set i a) (i := i) (by rw [List.length_set]; omega) b
    rw [List.set_set] at this
    exact this
   unfold nxtQ at hnext
   generalize o[i] = r at *
   cases hm : m.getLsbD i <;> rw [hm] at h1 hnext <;> cases hl : l.getLsbD i <;> rw [hl] at h2 hnext <;> rcases hk with rfl | rfl | rfl <;>
    simp only [ne_eq, Int.reduceEq, not_true_eq_false, not_false_eq_true, true_and, and_true, false_and, and_false, Bool.false_eq_true, if_true, if_false, Bool.true_eq_false] at hnext <;>
    simp (disch := omega) only [ir24p5, ir24p4, ir24p3, ir24p2, ir24p1, ir24p0, stepQ, stepL, eq_self, aBin, reduceIte, Int.reduceEq, Int.reduceLT, Int.reduceLE, Int.reduceGT, Int.reduceGE, hlX, hi, h1, h2, hrow, hc, hs, hcS, hgS, hsS, ibne, wr, natS, hnext]
 · rintro _ M _
   have hno := normal3_run names (nxtQL k o m l) hvl hvs (by omega)
   rw [if_pos (by simp [normE, hv, hlx, la])] at hno
   have he : fillR (nxtQL k o m l) o.length = nxtQL k o m l := by rw [← hlx]; exact fill_end _
   have hlX : PO.eval .lenL [numsD (nxtQL k o m l)] = some [.int .i64 o.length] := by rw [len_N, hlx]
   simp (disch := omega) only [ir24p5, stepQ, stepL, eq_self, aBin, reduceIte, Int.reduceEq, Int.reduceLT, Int.reduceLE, Int.reduceGT, Int.reduceGE, he, hlX, Nat.lt_irrefl, hno, callQ_tvi]
theorem nextR_run (names : List (List UInt8)) (ranks : List Int) (f : F) (k : Int) (hn : names.length < 1000000000) (hl : ranks.length < 1000000000) (hf : f.size < 1000000000) (hs : ∀ s ∈ names, s.length < 9223372036854775808) (hb : F.allF nameB f = true) :
 run tb 9 [strsD names, numsD ranks, .int .i64 f.op, .str f.name, .sl (F.encs f.args), .int .i64 k] = some (if itE names ranks f k = 0 then [strsD names, numsD (nextS names k ranks (modelsS names f)), .int .i64 0] else [.sl [], .sl [], .int .i64 (itE names ranks f k)]) := by
 refine run_ir (x := ir9) rfl ?_
 have h1 := validateO3_run names ranks hn hs hl
 have h0 := kind_run k
 have h2 := modelsR_run names f hn hs hf hb
 simp only [rowF] at h2
 by_cases c0 : orderE names ranks = 0
 · rw [c0] at h1
   by_cases c1 : 1 ≤ k ∧ k ≤ 3
   · rw [decide_eq_true c1] at h0
     have hk : k = 1 ∨ k = 2 ∨ k = 3 := by omega
     by_cases c2 : modelsE names f = 0
     · rw [c2] at h2
       by_cases c3 : modelsS names f = 0#64
       · have e : itE names ranks f k = 9 := by unfold itE; simp [c0, c1, c2, c3]
         rw [c3] at h2
         rw [e, if_neg (by decide)]
         simp (disch := omega) only [ir9, stepQ, stepL, eq_self, aBin, reduceIte, Int.reduceEq, Int.reduceLT, Int.reduceLE, Int.reduceGT, Int.reduceGE, bvQ, wu, shl_norm, shr_norm, and1_norm, h1, h0, ibne, h2]
       · have e : itE names ranks f k = 0 := by unfold itE; simp [c0, c1, c2, c3]
         rw [e, if_pos rfl]
         have h3 := shift_run names ranks (modelsS names f) k hk c0
         simp (disch := omega) only [ir9, stepQ, stepL, eq_self, aBin, reduceIte, Int.reduceEq, Int.reduceLT, Int.reduceLE, Int.reduceGT, Int.reduceGE, bvQ, wu, shl_norm, shr_norm, and1_norm, h1, h0, ibne, h2, c3, h3, callQ_tvi]
     · have e : itE names ranks f k = modelsE names f := by unfold itE; simp [c0, c1, c2]
       rw [e, if_neg c2]
       simp (disch := omega) only [ir9, stepQ, stepL, eq_self, aBin, reduceIte, Int.reduceEq, Int.reduceLT, Int.reduceLE, Int.reduceGT, Int.reduceGE, bvQ, wu, shl_norm, shr_norm, and1_norm, h1, h0, ibne, h2, c2]
   · rw [decide_eq_false c1] at h0
     have e : itE names ranks f k = 4 := by unfold itE; rw [if_neg (by simp [c0]), if_pos c1]
     rw [e, if_neg (by decide)]
     simp (disch := omega) only [ir9, stepQ, stepL, eq_self, aBin, reduceIte, Int.reduceEq, Int.reduceLT, Int.reduceLE, Int.reduceGT, Int.reduceGE, bvQ, wu, shl_norm, shr_norm, and1_norm, h1, h0, ibne]
 · have e : itE names ranks f k = orderE names ranks := by unfold itE; rw [if_pos c0]
   rw [e, if_neg c0]
   simp (disch := omega) only [ir9, stepQ, stepL, eq_self, aBin, reduceIte, Int.reduceEq, Int.reduceLT, Int.reduceLE, Int.reduceGT, Int.reduceGE, bvQ, wu, shl_norm, shr_norm, and1_norm, h1, ibne, c0]
theorem theory35_run (n : Nat) (hn : n ≤ 6) (S : BitVec 64) : run tb 19 [.int .i64 n, bvD S] = some (rowF (thy (vocN n) (S &&& allS (vocN n)))) := by
 refine run_ir (x := ir19) rfl ?_
 have hv := vocN_ok hn
 have hvo := voc_run n (by omega)
 have h1 := all3_run (vocN n) (by rw [vocN_len]; omega) (fun s hs => by rw [vocN_short s hs]; omega)
 have h2 := theoryT_run (vocN n) hv (S &&& allS (vocN n))
 simp only [rowF, List.cons_append, List.nil_append] at h2
 simp (disch := omega) only [ir19, rowF, stepQ, stepL, eq_self, aBin, reduceIte, Int.reduceEq, Int.reduceLT, Int.reduceLE, Int.reduceGT, Int.reduceGE, bvQ, wu, shl_norm, shr_norm, and1_norm, hvo, h1, h2]
end Go.Proofs.YtojkhlijbpmgpaaGreat

namespace Go.Proofs.YtojkhlijbpmgpaaGreat
open Go Am
set_option maxRecDepth 100000
theorem it_thy {n : Nat} (hn : n ≤ 6) {R : List Int} (ho : orderE (vocN n) R = 0) {k : Int} (hk : k = 1 ∨ k = 2 ∨ k = 3) {X : BitVec 64} (hX : ∀ w, has X w → w < 2 ^ n) (h0 : X ≠ 0#64) :
 itE (vocN n) R (thy (vocN n) X) k = 0 ∧ modelsS (vocN n) (thy (vocN n) X) = X := by
 have hm := thy_models (vocN_ok hn) X
 rw [and_all hn hX] at hm
 refine ⟨?_, hm.2⟩
 unfold itE
 rw [if_neg (by simp [ho]), if_neg (by simp; omega), if_neg (by simp [hm.1]), hm.2, if_neg h0]
theorem nextT_run {n : Nat} (hn : n ≤ 6) {R : List Int} (ho : orderE (vocN n) R = 0) {k : Int} (hk : k = 1 ∨ k = 2 ∨ k = 3) {X : BitVec 64} (hX : ∀ w, has X w → w < 2 ^ n) (h0 : X ≠ 0#64) :
 run tb 14 [strsD (vocN n), numsD R, .int .i64 (thy (vocN n) X).op, .str (thy (vocN n) X).name, .sl (F.encs (thy (vocN n) X).args), .int .i64 k] = some [strsD (vocN n), numsD (nextS (vocN n) k R X), .int .i64 0] := by
 have hl : R.length < 1000000000 := by have := orderE_len ho; omega
 have := nextP_run (vocN n) R (thy (vocN n) X) k (by rw [vocN_len]; omega) hl (thy_small hn X).1
 obtain ⟨e1, e2⟩ := it_thy hn ho hk hX h0
 rw [e1, if_pos rfl, e2] at this
 exact this
theorem theoryS_run {n : Nat} (hn : n ≤ 6) {X : BitVec 64} (hX : ∀ w, has X w → w < 2 ^ n) : run tb 19 [.int .i64 n, bvD X] = some [.int .i64 (thy (vocN n) X).op, .str (thy (vocN n) X).name, .sl (F.encs (thy (vocN n) X).args)] := by
 have := theory35_run n hn X
 rw [and_all hn hX] at this
 exact this
theorem awake35_run : run tb 4 [] = some [.bool true] := by
 refine run_ir (x := ir4) rfl ?_
 have hn2 : ((2 : Nat) : Int) = 2 := rfl
 have hvoc := voc_run 2 (by omega)
 rw [hn2] at hvoc
 have x12 : ∀ w, has (12#64) w → w < 2 ^ 2 := fun w hw => by
  refine Decidable.byContradiction fun hc => ?_
  have h64 := has_lt hw
  have : ∀ w, w < 64 → 4 ≤ w → ¬ has 12#64 w := by decide +kernel
  exact this w h64 (by omega) hw
 have x14 : ∀ w, has (14#64) w → w < 2 ^ 2 := fun w hw => by
  refine Decidable.byContradiction fun hc => ?_
  have h64 := has_lt hw
  have : ∀ w, w < 64 → 4 ≤ w → ¬ has 14#64 w := by decide +kernel
  exact this w h64 (by omega) hw
 have t12 := theoryS_run (n := 2) (by omega) x12
 have t14 := theoryS_run (n := 2) (by omega) x14
 rw [hn2] at t12 t14
 have o1 : orderE (vocN 2) [0, 1, 2, 3] = 0 := by decide +kernel
 have o2 : orderE (vocN 2) [1, 0, 0, 1] = 0 := by decide +kernel
 have a1 := nextT_run (n := 2) (by omega) o1 (.inl rfl) x12 (by decide)
 have a2 := nextT_run (n := 2) (by omega) o1 (.inr (.inl rfl)) x12 (by decide)
 have a3 := nextT_run (n := 2) (by omega) o1 (.inr (.inr rfl)) x12 (by decide)
 have a4 := nextT_run (n := 2) (by omega) o2 (.inr (.inr rfl)) x14 (by decide)
 rw [show nextS (vocN 2) 1 [0, 1, 2, 3] 12#64 = [1, 2, 0, 3] by decide +kernel] at a1
 rw [show nextS (vocN 2) 2 [0, 1, 2, 3] 12#64 = [2, 3, 0, 1] by decide +kernel] at a2
 rw [show nextS (vocN 2) 3 [0, 1, 2, 3] 12#64 = [1, 2, 0, 3] by decide +kernel] at a3
 rw [show nextS (vocN 2) 3 [1, 0, 0, 1] 14#64 = [2, 0, 0, 1] by decide +kernel] at a4
 have i1 := ints_run [1, 2, 0, 3] [1, 2, 0, 3] (by decide)
 have i2 := ints_run [2, 3, 0, 1] [2, 3, 0, 1] (by decide)
 have i4 := ints_run [2, 0, 0, 1] [2, 0, 0, 1] (by decide)
 rw [decide_eq_true rfl] at i1 i2 i4
 have l12 : D.int .u64 12 = bvD 12#64 := rfl
 have l14 : D.int .u64 14 = bvD 14#64 := rfl
 have m1 : PO.eval (.mk 1 4) [.int .i64 0, .int .i64 1, .int .i64 2, .int .i64 3] = some [numsD [0, 1, 2, 3]] := rfl
 have m2 : PO.eval (.mk 1 4) [.int .i64 1, .int .i64 0, .int .i64 0, .int .i64 1] = some [numsD [1, 0, 0, 1]] := rfl
 have m3 : PO.eval (.mk 1 4) [.int .i64 1, .int .i64 2, .int .i64 0, .int .i64 3] = some [numsD [1, 2, 0, 3]] := rfl
 have m4 : PO.eval (.mk 1 4) [.int .i64 2, .int .i64 3, .int .i64 0, .int .i64 1] = some [numsD [2, 3, 0, 1]] := rfl
 have m5 : PO.eval (.mk 1 4) [.int .i64 2, .int .i64 0, .int .i64 0, .int .i64 1] = some [numsD [2, 0, 0, 1]] := rfl
 simp (disch := omega) only [ir4, stepQ, stepL, eq_self, aBin, reduceIte, Int.reduceEq, Int.reduceLT, Int.reduceLE, Int.reduceGT, Int.reduceGE, hvoc, l12, l14, m1, m2, m3, m4, m5, t12, t14, a1, a2, a3, a4, i1, i2, i4, callQ_tvi, callQ_tb]
end Go.Proofs.YtojkhlijbpmgpaaGreat

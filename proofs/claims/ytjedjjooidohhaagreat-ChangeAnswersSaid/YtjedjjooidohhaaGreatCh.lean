/- Plain programs of the functions of the program and lemmas about what they compute. -/
import Derived.Test.YtjedjjooidohhaaGreatWd
import Derived.Test.YtjedjjooidohhaaGreatOd
import Derived.Test.YtjedjjooidohhaaGreatAm6
set_option linter.unusedSimpArgs false
set_option linter.unusedVariables false
set_option linter.unusedSectionVars false
namespace Go.Proofs.YtjedjjooidohhaaGreat
open Go Am
set_option maxRecDepth 100000
set_option linter.unusedSimpArgs false
set_option linter.unusedVariables false
/-! # change -/
def chE (names : List (List UInt8)) (ranks : List Int) (f : F) : Int := if orderE names ranks ≠ 0 then orderE names ranks else modelsE names f
theorem chModels_run (names : List (List UInt8)) (ranks : List Int) (f : F) (hn : names.length < 1000000000) (hl : ranks.length < 1000000000) (hf : f.size < 1000000000) :
    run tb 29 (strsD names :: numsD ranks :: rowF f) = some (if orderE names ranks ≠ 0 then [bvD 0#64, bvD 0#64, .int .i64 (orderE names ranks)] else [bvD (modelsS names f), bvD (allS names), .int .i64 (modelsE names f)]) := by
  refine run_ir (x := ir29) rfl ?_
  have h1 := validateO_run names ranks hn hl
  have h2 := modelsW_run names f hn hf
  have h3 := all_run names hn
  simp only [rowF] at h2
  by_cases h : orderE names ranks = 0
  · rw [if_neg (by simp [h])]
    rw [h] at h1
    simp (disch := omega) only [ir29, rowF, stepQ, stepL, eq_self, aBin, reduceIte, Int.reduceEq, Int.reduceLT, Int.reduceLE, Int.reduceGT, Int.reduceGE, h1, ibne, h2, h3]
  · rw [if_pos h]
    simp (disch := omega) only [ir29, rowF, stepQ, stepL, eq_self, aBin, reduceIte, Int.reduceEq, Int.reduceLT, Int.reduceLE, Int.reduceGT, Int.reduceGE, bvQ, wu, shl_norm, shr_norm, and1_norm, h1, ibne, h]
theorem expand_run (names : List (List UInt8)) (ranks : List Int) (f : F) (hn : names.length < 1000000000) (hl : ranks.length < 1000000000) (hf : f.size < 1000000000) :
    run tb 9 (strsD names :: numsD ranks :: rowF f) = some [bvD (if chE names ranks f = 0 then beliefsS names ranks &&& modelsS names f else 0#64), .int .i64 (chE names ranks f)] := by
  refine run_ir (x := ir9) rfl ?_
  have h1 := chModels_run names ranks f hn hl hf
  have h2 := beliefsO_run names ranks hn hl
  simp only [rowF] at h1
  by_cases h : orderE names ranks = 0
  · rw [if_neg (by simp [h])] at h1
    have he : chE names ranks f = modelsE names f := by simp [chE, h]
    rw [he]
    by_cases hm : modelsE names f = 0
    · rw [if_pos hm]
      rw [hm] at h1 ⊢
      simp (disch := omega) only [ir9, rowF, stepQ, stepL, eq_self, aBin, reduceIte, Int.reduceEq, Int.reduceLT, Int.reduceLE, Int.reduceGT, Int.reduceGE, bvQ, wu, shl_norm, shr_norm, and1_norm, h1, ibne, h2]
    · rw [if_neg hm]
      simp (disch := omega) only [ir9, rowF, stepQ, stepL, eq_self, aBin, reduceIte, Int.reduceEq, Int.reduceLT, Int.reduceLE, Int.reduceGT, Int.reduceGE, bvQ, wu, shl_norm, shr_norm, and1_norm, h1, ibne, hm]
  · rw [if_pos h] at h1
    have he : chE names ranks f = orderE names ranks := by simp [chE, h]
    rw [he, if_neg h]
    simp (disch := omega) only [ir9, rowF, stepQ, stepL, eq_self, aBin, reduceIte, Int.reduceEq, Int.reduceLT, Int.reduceLE, Int.reduceGT, Int.reduceGE, bvQ, wu, shl_norm, shr_norm, and1_norm, h1, ibne, h]
theorem revise_run (names : List (List UInt8)) (ranks : List Int) (f : F) (hn : names.length < 1000000000) (hl : ranks.length < 1000000000) (hf : f.size < 1000000000) :
    run tb 11 (strsD names :: numsD ranks :: rowF f) = some [bvD (if chE names ranks f = 0 then leastS names ranks (modelsS names f) else 0#64), .int .i64 (chE names ranks f)] := by
  refine run_ir (x := ir11) rfl ?_
  have h1 := chModels_run names ranks f hn hl hf
  have h2 := leastO_run names ranks hn hl (modelsS names f)
  simp only [rowF] at h1
  by_cases h : orderE names ranks = 0
  · rw [if_neg (by simp [h])] at h1
    have he : chE names ranks f = modelsE names f := by simp [chE, h]
    rw [he]
    by_cases hm : modelsE names f = 0
    · rw [if_pos hm]
      rw [hm] at h1 ⊢
      simp (disch := omega) only [ir11, rowF, stepQ, stepL, eq_self, aBin, reduceIte, Int.reduceEq, Int.reduceLT, Int.reduceLE, Int.reduceGT, Int.reduceGE, bvQ, wu, shl_norm, shr_norm, and1_norm, h1, ibne, h2]
    · rw [if_neg hm]
      simp (disch := omega) only [ir11, rowF, stepQ, stepL, eq_self, aBin, reduceIte, Int.reduceEq, Int.reduceLT, Int.reduceLE, Int.reduceGT, Int.reduceGE, bvQ, wu, shl_norm, shr_norm, and1_norm, h1, ibne, hm]
  · rw [if_pos h] at h1
    have he : chE names ranks f = orderE names ranks := by simp [chE, h]
    rw [he, if_neg h]
    simp (disch := omega) only [ir11, rowF, stepQ, stepL, eq_self, aBin, reduceIte, Int.reduceEq, Int.reduceLT, Int.reduceLE, Int.reduceGT, Int.reduceGE, bvQ, wu, shl_norm, shr_norm, and1_norm, h1, ibne, h]
theorem contract_run (names : List (List UInt8)) (ranks : List Int) (f : F) (hn : names.length < 1000000000) (hl : ranks.length < 1000000000) (hf : f.size < 1000000000) :
    run tb 13 (strsD names :: numsD ranks :: rowF f) = some [bvD (if chE names ranks f = 0 then beliefsS names ranks ||| leastS names ranks (allS names &&& ~~~modelsS names f) else 0#64), .int .i64 (chE names ranks f)] := by
  refine run_ir (x := ir13) rfl ?_
  have h1 := chModels_run names ranks f hn hl hf
  have h2 := leastO_run names ranks hn hl (allS names &&& ~~~modelsS names f)
  have h3 := beliefsO_run names ranks hn hl
  simp only [rowF] at h1
  by_cases h : orderE names ranks = 0
  · rw [if_neg (by simp [h])] at h1
    have he : chE names ranks f = modelsE names f := by simp [chE, h]
    rw [he]
    by_cases hm : modelsE names f = 0
    · rw [if_pos hm]
      rw [hm] at h1 ⊢
      simp (disch := omega) only [ir13, rowF, stepQ, stepL, eq_self, aBin, reduceIte, Int.reduceEq, Int.reduceLT, Int.reduceLE, Int.reduceGT, Int.reduceGE, bvQ, wu, shl_norm, shr_norm, and1_norm, h1, ibne, h2, h3]
    · rw [if_neg hm]
      simp (disch := omega) only [ir13, rowF, stepQ, stepL, eq_self, aBin, reduceIte, Int.reduceEq, Int.reduceLT, Int.reduceLE, Int.reduceGT, Int.reduceGE, bvQ, wu, shl_norm, shr_norm, and1_norm, h1, ibne, hm]
  · rw [if_pos h] at h1
    have he : chE names ranks f = orderE names ranks := by simp [chE, h]
    rw [he, if_neg h]
    simp (disch := omega) only [ir13, rowF, stepQ, stepL, eq_self, aBin, reduceIte, Int.reduceEq, Int.reduceLT, Int.reduceLE, Int.reduceGT, Int.reduceGE, bvQ, wu, shl_norm, shr_norm, and1_norm, h1, ibne, h]
theorem withdraw_run (names : List (List UInt8)) (ranks : List Int) (f : F) (hn : names.length < 1000000000) (hl : ranks.length < 1000000000) (hf : f.size < 1000000000) :
    run tb 15 (strsD names :: numsD ranks :: rowF f) = some [bvD (if chE names ranks f = 0 then withS names ranks (modelsS names f) else 0#64), .int .i64 (chE names ranks f)] := by
  refine run_ir (x := ir15) rfl ?_
  have h1 := chModels_run names ranks f hn hl hf
  have h2 := levelsO_run names ranks hn hl
  have h3 := beliefsO_run names ranks hn hl
  unfold withS
  simp only [rowF] at h1
  by_cases h : orderE names ranks = 0
  · rw [if_neg (by simp [h])] at h1
    have he : chE names ranks f = modelsE names f := by simp [chE, h]
    rw [he]
    by_cases hm : modelsE names f = 0
    · rw [if_pos hm]
      rw [hm] at h1 ⊢
      generalize modelsS names f = S at *
      by_cases hz : allS names &&& ~~~S = 0#64
      · rw [if_pos hz]
        simp (disch := omega) only [ir15, rowF, stepQ, stepL, eq_self, aBin, reduceIte, Int.reduceEq, Int.reduceLT, Int.reduceLE, Int.reduceGT, Int.reduceGE, bvQ, wu, shl_norm, shr_norm, and1_norm, h1, ibne, hz, h3]
      · rw [if_neg hz]
        have hlen : (levelsO names ranks).length < 1000000000 := by
          have hlt := maxR_lt (rkOk_in (orderE_zero h).2.2) (orderE_len h).2
          have := maxR_ge ranks
          unfold levelsO
          rw [if_pos h]
          simp [levelsS]; omega
        generalize levelsO names ranks = ls at *
        simp (disch := omega) only [ir15, rowF, stepQ, stepL, eq_self, aBin, reduceIte, Int.reduceEq, Int.reduceLT, Int.reduceLE, Int.reduceGT, Int.reduceGE, bvQ, wu, shl_norm, shr_norm, and1_norm, h1, ibne, hz, h2, len_V]
        refine loop_k (σ := BitVec 64) ls.length (fun i acc => upTo S acc (ls.drop i) = upTo S 0#64 ls) (fun i acc => [bvD acc, .int .i64 i]) (fun i _ => [bvD (upTo S 0#64 ls), .int .i64 0]) ?_ ?_ 0 0#64 (Nat.zero_le _) (by rw [List.drop_zero])
        · rintro i acc L hi hp hL
          rw [upTo_drop S acc hi] at hp
          by_cases hc : ls[i] &&& ~~~S = 0#64
          · rw [if_pos hc] at hp
            have hnext := hL _ hp
            simp (disch := omega) only [ir15p1, stepQ, stepL, eq_self, aBin, reduceIte, Int.reduceEq, Int.reduceLT, Int.reduceLE, Int.reduceGT, Int.reduceGE, bvQ, wu, shl_norm, shr_norm, and1_norm, hi, row_V, hc, wr, natS, hnext]
          · rw [if_neg hc] at hp
            simp (disch := omega) only [ir15p1, ir15p0, stepQ, stepL, eq_self, aBin, reduceIte, Int.reduceEq, Int.reduceLT, Int.reduceLE, Int.reduceGT, Int.reduceGE, bvQ, wu, shl_norm, shr_norm, and1_norm, hi, row_V, hc, hp]
        · rintro acc L hp
          rw [List.drop_length] at hp
          have hp' : acc = upTo S 0#64 ls := hp
          simp (disch := omega) only [ir15p1, ir15p0, stepQ, stepL, eq_self, aBin, reduceIte, Int.reduceEq, Int.reduceLT, Int.reduceLE, Int.reduceGT, Int.reduceGE, bvQ, wu, shl_norm, shr_norm, and1_norm, Nat.lt_irrefl, hp']
    · rw [if_neg hm]
      simp (disch := omega) only [ir15, rowF, stepQ, stepL, eq_self, aBin, reduceIte, Int.reduceEq, Int.reduceLT, Int.reduceLE, Int.reduceGT, Int.reduceGE, bvQ, wu, shl_norm, shr_norm, and1_norm, h1, ibne, hm]
  · rw [if_pos h] at h1
    have he : chE names ranks f = orderE names ranks := by simp [chE, h]
    rw [he, if_neg h]
    simp (disch := omega) only [ir15, rowF, stepQ, stepL, eq_self, aBin, reduceIte, Int.reduceEq, Int.reduceLT, Int.reduceLE, Int.reduceGT, Int.reduceGE, bvQ, wu, shl_norm, shr_norm, and1_norm, h1, ibne, h]
end Go.Proofs.YtjedjjooidohhaaGreat

namespace Go.Proofs.YtjedjjooidohhaaGreat
open Go Am
set_option maxRecDepth 100000
set_option linter.unusedSimpArgs false
set_option linter.unusedVariables false
/-! # the examples of the chapter on change -/
theorem short_ok {names : List (List UInt8)} (h : vocOk names = true) : names.length < 1000000000 ∧ ∀ s ∈ names, s.length < 9223372036854775808 :=
  ⟨by have := vocOk_len h; omega, fun s hs => by have := validName_le' ((okNames_asc (vocOk_names h)).2 s hs); omega⟩
theorem theory33_run (names : List (List UInt8)) (ranks : D) (hv : vocOk names = true) (S : BitVec 64) : run tb 8 [strsD names, ranks, bvD S] = some (rowF (thy names (S &&& allS names))) := by
  refine run_ir (x := ir8) rfl ?_
  have h1 := all3_run names (short_ok hv).1 (short_ok hv).2
  have h2 := theoryT_run names hv (S &&& allS names)
  simp only [rowF, List.cons_append, List.nil_append] at h2
  simp (disch := omega) only [ir8, rowF, stepQ, stepL, eq_self, aBin, reduceIte, Int.reduceEq, Int.reduceLT, Int.reduceLE, Int.reduceGT, Int.reduceGE, bvQ, wu, shl_norm, shr_norm, and1_norm, h1, h2]
abbrev rk33 : List Int := [2, 1, 2, 0]
theorem ord33 : orderE (vocN 2) rk33 = 0 := by decide +kernel
theorem awake33_run : run tb 2 [] = some [.bool true] := by
  refine run_ir (x := ir2) rfl ?_
  have hv : vocOk (vocN 2) = true := vocN_ok (by omega)
  have hl := vocN_len 2
  have hlen : (vocN 2).length < 1000000000 := by omega
  have hvoc := voc_run 2 (by omega)
  have hn2 : ((2 : Nat) : Int) = 2 := rfl
  rw [hn2] at hvoc
  have hmk : PO.eval (.mk 1 4) [.int .i64 2, .int .i64 1, .int .i64 2, .int .i64 0] = some [numsD rk33] := rfl
  have th := fun S => theory33_run (vocN 2) (numsD rk33) hv S
  have ch : ∀ S, chE (vocN 2) rk33 (thy (vocN 2) S) = 0 := fun S => by
    unfold chE; rw [ord33, (thy_models hv S).1]; rfl
  have sz : ∀ S, (thy (vocN 2) S).size < 1000000000 := fun S => by have := (thy_ok (vocOk_names hv) S).2.1; rw [hl] at this; omega
  have rv := fun S => revise_run (vocN 2) rk33 (thy (vocN 2) S) hlen (by decide) (sz S)
  have co := fun S => contract_run (vocN 2) rk33 (thy (vocN 2) S) hlen (by decide) (sz S)
  have wi := fun S => withdraw_run (vocN 2) rk33 (thy (vocN 2) S) hlen (by decide) (sz S)
  simp only [ch, if_true, (thy_models hv _).2, rowF] at rv co wi th
  have t10 := th 10#64
  have t12 := th 12#64
  have t3 := th 3#64
  have t5 := th 5#64
  have r3 : leastS (vocN 2) rk33 ((3#64 &&& allS (vocN 2)) &&& allS (vocN 2)) = 2#64 := by decide +kernel
  have r5 : leastS (vocN 2) rk33 ((5#64 &&& allS (vocN 2)) &&& allS (vocN 2)) = 5#64 := by decide +kernel
  have c12 : beliefsS (vocN 2) rk33 ||| leastS (vocN 2) rk33 (allS (vocN 2) &&& ~~~((12#64 &&& allS (vocN 2)) &&& allS (vocN 2))) = 10#64 := by decide +kernel
  have w10 : withS (vocN 2) rk33 ((10#64 &&& allS (vocN 2)) &&& allS (vocN 2)) = 15#64 := by decide +kernel
  have v3 := rv (3#64 &&& allS (vocN 2))
  have v5 := rv (5#64 &&& allS (vocN 2))
  have d12 := co (12#64 &&& allS (vocN 2))
  have u10 := wi (10#64 &&& allS (vocN 2))
  rw [r3] at v3
  rw [r5] at v5
  rw [c12] at d12
  rw [w10] at u10
  have l10 : D.int .u64 10 = bvD 10#64 := rfl
  have l12 : D.int .u64 12 = bvD 12#64 := rfl
  have l3 : D.int .u64 3 = bvD 3#64 := rfl
  have l5 : D.int .u64 5 = bvD 5#64 := rfl
  have l2 : D.int .u64 2 = bvD 2#64 := rfl
  have l15 : D.int .u64 15 = bvD 15#64 := rfl
  simp (disch := omega) only [ir2, rowF, stepQ, stepL, eq_self, aBin, reduceIte, Int.reduceEq, Int.reduceLT, Int.reduceLE, Int.reduceGT, Int.reduceGE, bvQ, wu, shl_norm, shr_norm, and1_norm, hvoc, hmk, l10, l12, l3, l5, l2, l15, t10, t12, t3, t5, v3, v5, d12, u10, callQ_tvi]
end Go.Proofs.YtjedjjooidohhaaGreat

namespace Go.Proofs.YtjedjjooidohhaaGreat
open Go Am
set_option maxRecDepth 100000
set_option linter.unusedSimpArgs false
set_option linter.unusedVariables false
/-! # change: the reference; explanations of both -/
theorem same33_run : ∀ f : F, f.size < 1000000000 → run tb 19 [.int .i64 f.op, .str f.name, .sl (F.encs f.args), .int .i64 f.op, .str f.name, .sl (F.encs f.args)] = some [.bool true] := by
  refine bySizeF fun f ih hs => ?_
  refine run_ir (x := ir19) rfl ?_
  have hla := F.sizes_len f.args
  have hse := F.size_eq f
  have b1 : (f.name == f.name) = true := beq_self_eq_true _
  simp (disch := omega) only [ir19, ir19p1, stepQ, stepL, eq_self, aBin, reduceIte, Int.reduceEq, Int.reduceLT, Int.reduceLE, Int.reduceGT, Int.reduceGE, b1, ibne]
  refine loop_k (σ := Unit) f.args.length (fun _ _ => True) (fun i _ => [.int .i64 i]) (fun _ _ => [.bool true]) ?_ ?_ 0 () (Nat.zero_le _) trivial
  · rintro i _ L hi _ hL
    have hnext := hL () trivial
    have hm : f.args[i] ∈ f.args := List.getElem_mem hi
    have h1 := mem_size hm
    have hr := ih _ hm (by omega)
    simp (disch := omega) only [ir19p0, rowF, stepQ, stepL, eq_self, aBin, reduceIte, Int.reduceEq, Int.reduceLT, Int.reduceLE, Int.reduceGT, Int.reduceGE, hi, row_F, hr, wr, natS, hnext]
  · rintro _ L _
    simp (disch := omega) only [ir19p0, rowF, stepQ, stepL, eq_self, aBin, reduceIte, Int.reduceEq, Int.reduceLT, Int.reduceLE, Int.reduceGT, Int.reduceGE, Nat.lt_irrefl]
theorem leastL_zero : ∀ ls : List (BitVec 64), leastL 0#64 ls = 0#64
  | [] => rfl
  | l :: ls => by unfold leastL; rw [if_pos (by simp)]; exact leastL_zero ls
theorem least_none (names : List (List UInt8)) (ranks : List Int) : leastS names ranks 0#64 = 0#64 := leastL_zero _
section
variable (names : List (List UInt8)) (ranks : List Int) (f : F) (hn : names.length < 1000000000) (hs : ∀ s ∈ names, s.length < 9223372036854775808) (hl : ranks.length < 1000000000) (hf : f.size < 1000000000) (hb : F.allF nameB f = true)
include hn hs hl hf hb
theorem sets33_run : run tb 31 [strsD names, numsD ranks, .int .i64 f.op, .str f.name, .sl (F.encs f.args)] =
    some (if chE names ranks f = 0 then [bvD (beliefsS names ranks), bvD (modelsS names f), bvD (allS names &&& ~~~modelsS names f), .int .i64 0] else [bvD 0#64, bvD 0#64, bvD 0#64, .int .i64 (chE names ranks f)]) := by
  refine run_ir (x := ir31) rfl ?_
  have h1 := validateO3_run names ranks hn hs hl
  have h2 := modelsR_run names f hn hs hf hb
  have h3 := beliefs3_run names ranks hn hs hl
  have h4 := all3_run names hn hs
  simp only [rowF] at h2
  by_cases h : orderE names ranks = 0
  · have he : chE names ranks f = modelsE names f := by simp [chE, h]
    rw [he]
    rw [h] at h1
    by_cases hm : modelsE names f = 0
    · rw [if_pos hm]
      rw [hm] at h2
      simp (disch := omega) only [ir31, stepQ, stepL, eq_self, aBin, reduceIte, Int.reduceEq, Int.reduceLT, Int.reduceLE, Int.reduceGT, Int.reduceGE, bvQ, wu, shl_norm, shr_norm, and1_norm, h1, ibne, h2, h3, h4]
    · rw [if_neg hm]
      simp (disch := omega) only [ir31, stepQ, stepL, eq_self, aBin, reduceIte, Int.reduceEq, Int.reduceLT, Int.reduceLE, Int.reduceGT, Int.reduceGE, bvQ, wu, shl_norm, shr_norm, and1_norm, h1, ibne, h2, hm]
  · have he : chE names ranks f = orderE names ranks := by simp [chE, h]
    rw [he, if_neg h]
    simp (disch := omega) only [ir31, stepQ, stepL, eq_self, aBin, reduceIte, Int.reduceEq, Int.reduceLT, Int.reduceLE, Int.reduceGT, Int.reduceGE, bvQ, wu, shl_norm, shr_norm, and1_norm, h1, ibne, h]
theorem expand3_run : run tb 10 [strsD names, numsD ranks, .int .i64 f.op, .str f.name, .sl (F.encs f.args)] = some [bvD (if chE names ranks f = 0 then beliefsS names ranks &&& modelsS names f else 0#64), .int .i64 (chE names ranks f)] := by
  refine run_ir (x := ir10) rfl ?_
  have h1 := sets33_run names ranks f hn hs hl hf hb
  by_cases h : chE names ranks f = 0
  · rw [if_pos h] at h1
    rw [if_pos h, h]
    simp (disch := omega) only [ir10, stepQ, stepL, eq_self, aBin, reduceIte, Int.reduceEq, Int.reduceLT, Int.reduceLE, Int.reduceGT, Int.reduceGE, bvQ, wu, shl_norm, shr_norm, and1_norm, h1]
  · rw [if_neg h] at h1
    rw [if_neg h]
    simp (disch := omega) only [ir10, stepQ, stepL, eq_self, aBin, reduceIte, Int.reduceEq, Int.reduceLT, Int.reduceLE, Int.reduceGT, Int.reduceGE, bvQ, wu, shl_norm, shr_norm, and1_norm, h1, BitVec.and_self]
theorem revise3_run : run tb 12 [strsD names, numsD ranks, .int .i64 f.op, .str f.name, .sl (F.encs f.args)] = some [bvD (if chE names ranks f = 0 then leastS names ranks (modelsS names f) else 0#64), .int .i64 (chE names ranks f)] := by
  refine run_ir (x := ir12) rfl ?_
  have h1 := sets33_run names ranks f hn hs hl hf hb
  by_cases h : chE names ranks f = 0
  · have h2 := least3_run names ranks hn hs hl (modelsS names f)
    rw [if_pos h] at h1
    rw [if_pos h, h]
    simp (disch := omega) only [ir12, stepQ, stepL, eq_self, aBin, reduceIte, Int.reduceEq, Int.reduceLT, Int.reduceLE, Int.reduceGT, Int.reduceGE, bvQ, wu, shl_norm, shr_norm, and1_norm, h1, h2]
  · have h2 := least3_run names ranks hn hs hl 0#64
    rw [least_none] at h2
    rw [if_neg h] at h1
    rw [if_neg h]
    simp (disch := omega) only [ir12, stepQ, stepL, eq_self, aBin, reduceIte, Int.reduceEq, Int.reduceLT, Int.reduceLE, Int.reduceGT, Int.reduceGE, bvQ, wu, shl_norm, shr_norm, and1_norm, h1, h2]
theorem contract3_run : run tb 14 [strsD names, numsD ranks, .int .i64 f.op, .str f.name, .sl (F.encs f.args)] = some [bvD (if chE names ranks f = 0 then beliefsS names ranks ||| leastS names ranks (allS names &&& ~~~modelsS names f) else 0#64), .int .i64 (chE names ranks f)] := by
  refine run_ir (x := ir14) rfl ?_
  have h1 := sets33_run names ranks f hn hs hl hf hb
  by_cases h : chE names ranks f = 0
  · have h2 := least3_run names ranks hn hs hl (allS names &&& ~~~modelsS names f)
    rw [if_pos h] at h1
    rw [if_pos h, h]
    simp (disch := omega) only [ir14, stepQ, stepL, eq_self, aBin, reduceIte, Int.reduceEq, Int.reduceLT, Int.reduceLE, Int.reduceGT, Int.reduceGE, bvQ, wu, shl_norm, shr_norm, and1_norm, h1, h2]
  · have h2 := least3_run names ranks hn hs hl 0#64
    rw [least_none] at h2
    rw [if_neg h] at h1
    rw [if_neg h]
    simp (disch := omega) only [ir14, stepQ, stepL, eq_self, aBin, reduceIte, Int.reduceEq, Int.reduceLT, Int.reduceLE, Int.reduceGT, Int.reduceGE, bvQ, wu, shl_norm, shr_norm, and1_norm, h1, h2, BitVec.or_self]
theorem withdraw3_run : run tb 16 [strsD names, numsD ranks, .int .i64 f.op, .str f.name, .sl (F.encs f.args)] = some [bvD (if chE names ranks f = 0 then withS names ranks (modelsS names f) else 0#64), .int .i64 (chE names ranks f)] := by
  refine run_ir (x := ir16) rfl ?_
  have h1 := sets33_run names ranks f hn hs hl hf hb
  by_cases h : chE names ranks f = 0
  · rw [if_pos h] at h1
    rw [if_pos h, h]
    have ho : orderE names ranks = 0 := Classical.byContradiction fun hc => by simp [chE, hc] at h
    have hW := withS_wth ho (modelsS names f)
    have hA := has_all ho
    by_cases hz : allS names &&& ~~~modelsS names f = 0#64
    · have e : withS names ranks (modelsS names f) = beliefsS names ranks := by unfold withS; rw [if_pos hz]
      rw [e]
      rw [hz] at h1
      simp (disch := omega) only [ir16, ir16p1, stepQ, stepL, eq_self, aBin, reduceIte, Int.reduceEq, Int.reduceLT, Int.reduceLE, Int.reduceGT, Int.reduceGE, bvQ, wu, shl_norm, shr_norm, and1_norm, h1, ibne]
    · obtain ⟨u, hu⟩ := set_ne hz
      rw [has_diff, hA] at hu
      obtain ⟨w0, hw0, hm0, hmin⟩ := min_ex (fun w => ranks.getD w (-1)) (fun v => ¬ has (modelsS names f) v) ranks.length ⟨u, hu.1, hu.2⟩
      have hr0 := rkIn_mem (rkOk_in (orderE_zero ho).2.2) ranks[w0] (List.getElem_mem _)
      have hg0 : ranks.getD w0 (-1) = ranks[w0] := by simp [hw0]
      obtain ⟨kn, hkn⟩ := Int.eq_ofNat_of_zero_le hr0.1
      rw [hkn] at hg0
      have hNn := (orderE_len ho).1
      have hwh : ∀ (i : Nat) (w : Nat), has (whereS ranks 0 i ranks.length) w ↔ w < ranks.length ∧ 0 ≤ ranks.getD w (-1) ∧ ranks.getD w (-1) ≤ i := fun i w => by
        unfold whereS; rw [has_bits hNn]; simp
      have hge : ∀ w, w < ranks.length → 0 ≤ ranks.getD w (-1) := fun w hw => by
        have := (rkIn_mem (rkOk_in (orderE_zero ho).2.2) ranks[w] (List.getElem_mem _)).1
        simpa [hw] using this
      have hlow : ∀ i, i < kn → whereS ranks 0 i ranks.length &&& (allS names &&& ~~~modelsS names f) = 0#64 := fun i hi => set_zero.2 fun w hw => by
        rw [has_and, hwh, has_diff] at hw
        have := hmin w hw.1.1 hw.2.2
        omega
      have htop : whereS ranks 0 kn ranks.length &&& (allS names &&& ~~~modelsS names f) ≠ 0#64 := ne_of_has (w := w0) (by
        rw [has_and, hwh, has_diff, hA]
        exact ⟨⟨hw0, by omega, by omega⟩, hw0, hm0⟩)
      have hfin : whereS ranks 0 kn ranks.length = withS names ranks (modelsS names f) := set_eq fun w => by
        rw [hwh, hW w]
        constructor
        · rintro ⟨a1, a2, a3⟩
          refine ⟨a1, fun _ v hv hvm => ?_, fun hall => absurd (hall w0 hw0) hm0⟩
          have := hmin v hv hvm
          simp only at this ⊢
          omega
        · rintro ⟨a1, a2, _⟩
          have := a2 ⟨w0, hw0, hm0⟩ w0 hw0 hm0
          simp only at this
          exact ⟨a1, hge w a1, by omega⟩
      have hw := fun i : Nat => where_run (strsD names) ranks hl 0 i
      have hkl : kn < 1000000000 := by omega
      rw [← hfin]
      generalize allS names &&& ~~~modelsS names f = n at *
      simp (disch := omega) only [ir16, ir16p1, stepQ, stepL, eq_self, aBin, reduceIte, Int.reduceEq, Int.reduceLT, Int.reduceLE, Int.reduceGT, Int.reduceGE, bvQ, wu, shl_norm, shr_norm, and1_norm, h1, ibne, hz]
      refine loop_k (σ := Unit) kn (fun _ _ => True) (fun i _ => [.int .i64 i]) (fun _ _ => [bvD (whereS ranks 0 kn ranks.length), .int .i64 0]) ?_ ?_ 0 () (Nat.zero_le _) trivial
      · rintro i _ L hi _ hL
        have hnext := hL () trivial
        have hwi := hw i
        have hlo := hlow i hi
        generalize whereS ranks 0 i ranks.length = wi at *
        simp (disch := omega) only [ir16p0, stepQ, stepL, eq_self, aBin, reduceIte, Int.reduceEq, Int.reduceLT, Int.reduceLE, Int.reduceGT, Int.reduceGE, bvQ, wu, shl_norm, shr_norm, and1_norm, hwi, hlo, wr, natS, hnext]
      · rintro _ L _
        have hwi := hw kn
        generalize whereS ranks 0 kn ranks.length = wi at *
        simp (disch := omega) only [ir16p0, stepQ, stepL, eq_self, aBin, reduceIte, Int.reduceEq, Int.reduceLT, Int.reduceLE, Int.reduceGT, Int.reduceGE, bvQ, wu, shl_norm, shr_norm, and1_norm, hwi, htop]
  · rw [if_neg h] at h1
    rw [if_neg h]
    simp (disch := omega) only [ir16, ir16p1, stepQ, stepL, eq_self, aBin, reduceIte, Int.reduceEq, Int.reduceLT, Int.reduceLE, Int.reduceGT, Int.reduceGE, bvQ, wu, shl_norm, shr_norm, and1_norm, h1, ibne, h]
end
/-- the answer of Explain, with the error's number -/
def explE (names : List (List UInt8)) (ranks : List Int) (f : F) : F × Int := if chE names ranks f = 0 then thyE names (leastS names ranks (modelsS names f)) else (F.mk 0 [] [], chE names ranks f)
theorem explain_run (names : List (List UInt8)) (ranks : List Int) (f : F) (hn : names.length < 1000000000) (hl : ranks.length < 1000000000) (hf : f.size < 1000000000) :
    run tb 17 [strsD names, numsD ranks, .int .i64 f.op, .str f.name, .sl (F.encs f.args)] = some [.int .i64 (explE names ranks f).1.op, .str (explE names ranks f).1.name, .sl (F.encs (explE names ranks f).1.args), .int .i64 (explE names ranks f).2] := by
  refine run_ir (x := ir17) rfl ?_
  have h1 := revise_run names ranks f hn hl hf
  have h2 := theoryW_run names hn (leastS names ranks (modelsS names f))
  simp only [rowF, List.cons_append, List.nil_append] at h1 h2
  unfold explE
  by_cases h : chE names ranks f = 0
  · rw [if_pos h, h] at h1
    rw [if_pos h]
    simp (disch := omega) only [ir17, stepQ, stepL, eq_self, aBin, reduceIte, Int.reduceEq, Int.reduceLT, Int.reduceLE, Int.reduceGT, Int.reduceGE, bvQ, wu, shl_norm, shr_norm, and1_norm, h1, ibne, h2, callQ_tvi]
  · rw [if_neg h] at h1
    rw [if_neg h]
    simp (disch := omega) only [ir17, stepQ, stepL, eq_self, aBin, reduceIte, Int.reduceEq, Int.reduceLT, Int.reduceLE, Int.reduceGT, Int.reduceGE, bvQ, wu, shl_norm, shr_norm, and1_norm, h1, ibne, h, F.op_mk, F.name_mk, F.args_mk, F.encs, callQ_tvi]
theorem explain3_run (names : List (List UInt8)) (ranks : List Int) (f : F) (hn : names.length < 1000000000) (hs : ∀ s ∈ names, s.length < 9223372036854775808) (hl : ranks.length < 1000000000) (hf : f.size < 1000000000) (hb : F.allF nameB f = true) :
    run tb 18 [strsD names, numsD ranks, .int .i64 f.op, .str f.name, .sl (F.encs f.args)] = some [.int .i64 (explE names ranks f).1.op, .str (explE names ranks f).1.name, .sl (F.encs (explE names ranks f).1.args), .int .i64 (explE names ranks f).2] := by
  refine run_ir (x := ir18) rfl ?_
  have h1 := revise3_run names ranks f hn hs hl hf hb
  have h2 := theoryR_run names hn hs (leastS names ranks (modelsS names f))
  simp only [rowF, List.cons_append, List.nil_append] at h1 h2
  unfold explE
  by_cases h : chE names ranks f = 0
  · rw [if_pos h, h] at h1
    rw [if_pos h]
    simp (disch := omega) only [ir18, stepQ, stepL, eq_self, aBin, reduceIte, Int.reduceEq, Int.reduceLT, Int.reduceLE, Int.reduceGT, Int.reduceGE, bvQ, wu, shl_norm, shr_norm, and1_norm, h1, ibne, h2, callQ_tvi]
  · rw [if_neg h] at h1
    rw [if_neg h]
    simp (disch := omega) only [ir18, stepQ, stepL, eq_self, aBin, reduceIte, Int.reduceEq, Int.reduceLT, Int.reduceLE, Int.reduceGT, Int.reduceGE, bvQ, wu, shl_norm, shr_norm, and1_norm, h1, ibne, h, F.op_mk, F.name_mk, F.args_mk, F.encs, callQ_tvi]
theorem expl_size (names : List (List UInt8)) (ranks : List Int) (f : F) : (explE names ranks f).1.size < 1000000000 := by
  unfold explE
  split
  · unfold thyE
    split
    · rename_i hv
      have := (thy_ok (vocOk_names hv) (leastS names ranks (modelsS names f))).2.1
      have h6 := pow6 (vocOk_len hv)
      simp only
      omega
    · simp [F.size, F.sizes]
  · simp [F.size, F.sizes]
end Go.Proofs.YtjedjjooidohhaaGreat

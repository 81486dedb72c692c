/- What functions of the program compute: lemmas. -/
import Derived.Test.YtojkhlijbpmgpaaGreatSr4
import Derived.Test.YtojkhlijbpmgpaaGreatOd
import Derived.Test.YtojkhlijbpmgpaaGreatAm6
set_option linter.unusedSimpArgs false
set_option linter.unusedVariables false
set_option linter.unusedSectionVars false
namespace Go.Proofs.YtojkhlijbpmgpaaGreat
open Go Am
set_option maxRecDepth 100000
def zR (names : List (List UInt8)) (l : List CF) : List D := if prE names l = 0 then (match layS (prsS names l) with | some o => rkR names (zL (prsS names l) o (2 ^ names.length)) | none => [.sl [], .sl [], .int .i64 9]) else [.sl [], .sl [], .int .i64 (prE names l)]
def zrow (p : List PP) (o : List Int) (N w i : Nat) : List Int := (mixL (fun w => zF p o w p.length) (fun _ => 0) N w).set w (zF p o w i)
theorem zrow_len (p : List PP) (o : List Int) (N w i : Nat) : (zrow p o N w i).length = N := by simp [zrow, mixL_len]
theorem zrow_zero (p : List PP) (o : List Int) (N w : Nat) (h : w < N) : zrow p o N w 0 = mixL (fun w => zF p o w p.length) (fun _ => 0) N w := by
 unfold zrow
 have hwl : w < (mixL (fun w => zF p o w p.length) (fun _ => 0) N w).length := by rw [mixL_len]; exact h
 have hx : (mixL (fun w => zF p o w p.length) (fun _ => 0) N w)[w] = 0 := by rw [mixL_get, if_neg (by omega)]
 have hs := List.set_getElem_self hwl
 rw [hx] at hs
 exact hs
theorem zrow_end (p : List PP) (o : List Int) (N w : Nat) (h : w < N) : zrow p o N w p.length = mixL (fun w => zF p o w p.length) (fun _ => 0) N (w + 1) := mixL_set (fun w => zF p o w p.length) (fun _ => 0) N w h
theorem zrow_get (p : List PP) (o : List Int) (N w i : Nat) (h : w < (zrow p o N w i).length) : (zrow p o N w i)[w] = zF p o w i := by simp [zrow]
theorem zrow_set (p : List PP) (o : List Int) (N w i : Nat) (x : Int) : (zrow p o N w i).set w x = (mixL (fun w => zF p o w p.length) (fun _ => 0) N w).set w x := by simp [zrow]
theorem zP_run (names : List (List UInt8)) (hn : names.length < 1000000000) (l : List CF) (hf : ∀ c ∈ l, c.1.size < 1000000000 ∧ c.2.size < 1000000000) (hfl : l.length < 1000000000) :
 run tb 5 [strsD names, condsD l] = some (zR names l) := by
 refine run_ir (x := ir5) rfl ?_
 have h1 := pairsP_run names hn l hf hfl
 unfold zR
 by_cases c : prE names l = 0
 · rw [if_pos c] at h1 ⊢
   have hvo := (prE_len c).1
   have hp64 : (prsS names l).length ≤ 64 := by simp only [prsS, List.length_map]; exact (prE_len c).2
   generalize prsS names l = p at *
   have h2 := layersP_run p hp64
   cases hl : layS p with
   | none =>
    rw [hl] at h2
    simp (disch := omega) only [ir5, stepQ, stepL, eq_self, aBin, reduceIte, Int.reduceEq, Int.reduceLT, Int.reduceLE, Int.reduceGT, Int.reduceGE, h1, ibne, layR, h2]
   | some o =>
    rw [hl] at h2
    obtain ⟨hol, hob⟩ := layS_ok hp64 hl
    have hn6 := vocOk_len hvo
    have hN : 2 ^ names.length ≤ 64 := Nat.pow_le_pow_right (by omega : 0 < 2) hn6
    have hmk := mkN (n := 2 ^ names.length) (by omega)
    have hz : List.replicate (2 ^ names.length) (0 : Int) = mixL (fun w => zF p o w p.length) (fun _ => 0) (2 ^ names.length) 0 := by
     rw [mixL_zero]
     refine List.ext_getElem (by simp) fun i h1 h2 => by simp
    rw [hz] at hmk
    have hln : ∀ l : List Int, PO.eval .lenL [numsD l] = some [.int .i64 l.length] := len_N
    simp (disch := omega) only [ir5, stepQ, stepL, eq_self, aBin, reduceIte, Int.reduceEq, Int.reduceLT, Int.reduceLE, Int.reduceGT, Int.reduceGE, bvQ, wu, shl_norm, shr_norm, and1_norm, h1, ibne, layR, h2, len_S, hmk, hln, mixL_len]
    generalize hNN : 2 ^ names.length = N at *
    refine loop_k (σ := Unit) N (fun _ _ => True) (fun w _ => [.int .i64 w, numsD (mixL (fun w => zF p o w p.length) (fun _ => 0) N w)]) (fun _ _ => rkR names (zL p o N)) ?_ ?_ 0 () (Nat.zero_le _) trivial
    · rintro w _ L hw _ hL
      have hnext := hL () trivial
      simp (disch := omega) only [ir5p2, stepQ, stepL, eq_self, aBin, reduceIte, Int.reduceEq, Int.reduceLT, Int.reduceLE, Int.reduceGT, Int.reduceGE, hw, len_P]
      rw [← zrow_zero p o N w hw]
      refine loop_k (σ := Unit) p.length (fun _ _ => True) (fun i _ => [.int .i64 i, numsD (zrow p o N w i)]) (fun _ _ => _) ?_ ?_ 0 () (Nat.zero_le _) trivial
      · rintro i _ L2 hi _ hL2
        have hnext2 := hL2 () trivial
        have hh := hasT_run p[i].2 w (by omega)
        have hr := row_P hi
        unfold rowP at hr
        have hwl : w < (zrow p o N w i).length := by rw [zrow_len]; exact hw
        have hc := chk_N hwl
        have hg := get_N hwl
        rw [zrow_get] at hg
        have hio : i < o.length := by rw [hol]; exact hi
        have hro := row_N hio
        have hoi := hob _ (List.getElem_mem hio)
        have hs := set_N hwl (zF p o w (i + 1))
        have hs2 : (zrow p o N w i).set w (zF p o w (i + 1)) = zrow p o N w (i + 1) := zrow_set _ _ _ _ _ _
        rw [hs2] at hs
        cases hb2 : p[i].2.getLsbD w with
        | true =>
         rw [hb2] at hh
         have hzs : zF p o w (i + 1) = max1 (zF p o w i) (o[i] + 1) := by rw [zF_succ, gdP hi, hb2, if_pos rfl, gd hio]
         rw [hzs] at hs
         unfold max1 at hs
         simp (disch := omega) only [ir5p1, ir5p0, stepQ, stepL, eq_self, aBin, reduceIte, Int.reduceEq, Int.reduceLT, Int.reduceLE, Int.reduceGT, Int.reduceGE, hi, hr, hh, hc, hg, hro, hs, wr, natS, hnext2]
        | false =>
         rw [hb2] at hh
         have hzs : zF p o w (i + 1) = zF p o w i := by rw [zF_succ, gdP hi, hb2, if_neg (by simp)]
         have hzr : zrow p o N w i = zrow p o N w (i + 1) := by unfold zrow; rw [hzs]
         rw [← hzr] at hnext2
         simp (disch := omega) only [ir5p1, ir5p0, stepQ, stepL, eq_self, aBin, reduceIte, Int.reduceEq, Int.reduceLT, Int.reduceLE, Int.reduceGT, Int.reduceGE, hi, hr, hh, wr, natS, hnext2]
      · rintro _ L2 _
        rw [zrow_end p o N w hw]
        simp (disch := omega) only [ir5p1, stepQ, stepL, eq_self, aBin, reduceIte, Int.reduceEq, Int.reduceLT, Int.reduceLE, Int.reduceGT, Int.reduceGE, Nat.lt_irrefl, wr, natS, hnext]
    · rintro _ L _
      have hno := normal_run names (zL p o N) hn (by rw [zL_len]; omega)
      rw [mixL_end]
      have hno : run tb 16 [strsD names, numsD ((List.range N).map fun w => zF p o w p.length)] = some (rkR names (zL p o N)) := hno
      unfold rkR at hno ⊢
      by_cases hne : normE names (zL p o N) = true
      · rw [if_pos hne] at hno ⊢
        simp (disch := omega) only [ir5p2, stepQ, stepL, eq_self, aBin, reduceIte, Int.reduceEq, Int.reduceLT, Int.reduceLE, Int.reduceGT, Int.reduceGE, Nat.lt_irrefl, hno]
      · rw [if_neg hne] at hno ⊢
        simp (disch := omega) only [ir5p2, stepQ, stepL, eq_self, aBin, reduceIte, Int.reduceEq, Int.reduceLT, Int.reduceLE, Int.reduceGT, Int.reduceGE, Nat.lt_irrefl, hno]
 · rw [if_neg c] at h1 ⊢
   simp (disch := omega) only [ir5, stepQ, stepL, eq_self, aBin, reduceIte, Int.reduceEq, Int.reduceLT, Int.reduceLE, Int.reduceGT, Int.reduceGE, h1, ibne, c]
end Go.Proofs.YtojkhlijbpmgpaaGreat

namespace Go.Proofs.YtojkhlijbpmgpaaGreat
open Go Am
set_option maxRecDepth 100000
end Go.Proofs.YtojkhlijbpmgpaaGreat

namespace Go.Proofs.YtojkhlijbpmgpaaGreat
open Go Am
set_option maxRecDepth 100000
def aP : F := F.mk 3 [97] []
def aQ : F := F.mk 3 [98] []
def aNQ : F := ng aQ
def aPNQ : F := pr 5 aP aNQ
theorem aPNQ_models : modelsE (vocN 2) aPNQ = 0 ∧ modelsS (vocN 2) aPNQ = 2#64 := by
 have h := pr5_models (voc := vocN 2) (f := aP) (g := aNQ) (by decide +kernel) (by decide +kernel) (by decide +kernel) (by decide +kernel) (by decide +kernel) (by decide +kernel) (by decide +kernel) (by decide +kernel) (by decide +kernel)
 refine ⟨h.1, ?_⟩
 show modelsS (vocN 2) (pr 5 aP aNQ) = 2#64
 rw [h.2]
 decide +kernel
theorem awake32_run : run tb 10 [] = some [.bool true] := by
 refine run_ir (x := ir10) rfl ?_
 have hvo : run tb 4 [.int .i64 2] = some [strsD (vocN 2)] := voc_run 2 (by omega)
 have hr0 : PO.eval (.row 1) [strsD (vocN 2), .int .i64 0] = some [.str [97]] := rfl
 have hr1 : PO.eval (.row 1) [strsD (vocN 2), .int .i64 1] = some [.str [98]] := rfl
 have at_ : ∀ s, run tb 31 [.str s] = some [.int .i64 3, .str s, .sl []] := fun s => by
  refine run_ir (x := ir31) rfl ?_
  simp only [ir31, stepQ, stepL, eq_self, aBin, reduceIte, Int.reduceEq, Int.reduceLT, Int.reduceLE, Int.reduceGT, Int.reduceGE]
 have hmk2 : PO.eval (.mk 3 2) [.int .i64 3, .str [97], .sl [], .int .i64 3, .str [98], .sl []] = some [.sl (F.encs [aP, aQ])] := rfl
 obtain ⟨e1, e2⟩ := aPNQ_models
 have m1 : modelsE (vocN 2) aP = 0 := by decide +kernel
 have m2 : modelsE (vocN 2) aQ = 0 := by decide +kernel
 have m3 : modelsE (vocN 2) aNQ = 0 := by decide +kernel
 have s1 : modelsS (vocN 2) aP = 10#64 := by decide +kernel
 have s2 : modelsS (vocN 2) aQ = 12#64 := by decide +kernel
 have s3 : modelsS (vocN 2) aNQ = 3#64 := by decide +kernel
 have hrk : run tb 32 [strsD (vocN 2), .sl (F.encs [aP, aQ])] = some [strsD (vocN 2), numsD [2, 1, 2, 0], .int .i64 0] := by
  have h := rankP_run (vocN 2) (by rw [vocN_len]; omega) [aP, aQ] (fun f hf => by
   simp only [List.mem_cons, List.not_mem_nil, or_false] at hf
   rcases hf with rfl | rfl <;> decide +kernel) (by simp)
  rw [h]
  have hn : normE (vocN 2) (rkL (msO (vocN 2) [aP, aQ]) (2 ^ (vocN 2).length)) = true := by decide +kernel
  have hs : normS (rkL (msO (vocN 2) [aP, aQ]) (2 ^ (vocN 2).length)) = [2, 1, 2, 0] := by decide +kernel
  have he : strE (vocN 2) [aP, aQ] = 0 := by decide +kernel
  unfold rankR rkR
  rw [if_pos he, if_pos hn, hs]
 have n1 : run tb 33 [.int .i64 3, .str [98], .sl []] = some [.int .i64 4, .str [], .sl (F.encs [aQ])] := by
  refine run_ir (x := ir33) rfl ?_
  have hmk : PO.eval (.mk 3 1) [.int .i64 3, .str [98], .sl []] = some [.sl (F.encs [aQ])] := rfl
  simp only [ir33, stepQ, stepL, eq_self, aBin, reduceIte, Int.reduceEq, Int.reduceLT, Int.reduceLE, Int.reduceGT, Int.reduceGE, hmk]
 have a1 : run tb 34 [.int .i64 3, .str [97], .sl [], .int .i64 4, .str [], .sl (F.encs [aQ])] = some [.int .i64 5, .str [], .sl (F.encs [aP, aNQ])] := by
  refine run_ir (x := ir34) rfl ?_
  have hmk : PO.eval (.mk 3 2) [.int .i64 3, .str [97], .sl [], .int .i64 4, .str [], .sl (F.encs [aQ])] = some [.sl (F.encs [aP, aNQ])] := rfl
  simp only [ir34, stepQ, stepL, eq_self, aBin, reduceIte, Int.reduceEq, Int.reduceLT, Int.reduceLE, Int.reduceGT, Int.reduceGE, hmk]
 have hmk6 : PO.eval (.mk 6 2) [.int .i64 3, .str [97], .sl [], .int .i64 3, .str [98], .sl [], .int .i64 5, .str [], .sl (F.encs [aP, aNQ]), .int .i64 4, .str [], .sl (F.encs [aQ])] = some [condsD [(aP, aQ), (aPNQ, aNQ)]] := rfl
 have hly : run tb 35 [strsD (vocN 2), condsD [(aP, aQ), (aPNQ, aNQ)]] = some [numsD [0, 1], .int .i64 0] := by
  have h := layersL_run (vocN 2) (by rw [vocN_len]; omega) [(aP, aQ), (aPNQ, aNQ)] (fun c hc => by
   simp only [List.mem_cons, List.not_mem_nil, or_false] at hc
   rcases hc with rfl | rfl
   · exact ⟨by decide +kernel, by decide +kernel⟩
   · exact ⟨by simp [aPNQ, pr, aNQ, ng, aP, aQ, F.size, F.sizes], by decide +kernel⟩) (by simp)
  rw [h]
  have hp : prE (vocN 2) [(aP, aQ), (aPNQ, aNQ)] = 0 := by
   unfold prE
   have hv : vocOk (vocN 2) = true := by decide +kernel
   simp [hv, cE, fstE, m1, m2, m3, e1]
  have hs : prsS (vocN 2) [(aP, aQ), (aPNQ, aNQ)] = [(8#64, 2#64), (2#64, 0#64)] := by
   simp [prsS, prS, s1, s2, s3, e2]
  have hl : layS [(8#64, 2#64), (2#64, 0#64)] = some [0, 1] := by decide +kernel
  unfold lyR
  rw [if_pos hp, hs, hl]
  rfl
 have m4 : PO.eval (.mk 1 4) [.int .i64 2, .int .i64 1, .int .i64 2, .int .i64 0] = some [numsD [2, 1, 2, 0]] := rfl
 have m5 : PO.eval (.mk 1 2) [.int .i64 0, .int .i64 1] = some [numsD [0, 1]] := rfl
 have i1 := ints_run [2, 1, 2, 0] [2, 1, 2, 0] (by decide)
 have i2 := ints_run [0, 1] [0, 1] (by decide)
 rw [decide_eq_true rfl] at i1 i2
 simp (disch := omega) only [ir10, stepQ, stepL, eq_self, aBin, reduceIte, Int.reduceEq, Int.reduceLT, Int.reduceLE, Int.reduceGT, Int.reduceGE, hvo, hr0, hr1, at_, hmk2, hrk, n1, a1, hmk6, hly, m4, m5, i1, i2, callQ_tb]
end Go.Proofs.YtojkhlijbpmgpaaGreat
